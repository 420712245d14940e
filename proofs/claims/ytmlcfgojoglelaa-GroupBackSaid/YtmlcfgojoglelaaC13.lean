/- bin.fits, bin.Put. -/
import Derived.Test.YtmlcfgojoglelaaC12
set_option maxRecDepth 100000
set_option linter.unusedSimpArgs false
set_option linter.unusedVariables false
set_option pp.maxSteps 3000
set_option pp.deepTerms false
namespace Go.Proofs.Ytmlcfgojoglelaa
open Go Go.AW Go.Proofs

def fitsB (v size : Int) : Bool :=
  if size < 0 then decide (-2 ^ (8 * size.natAbs - 1) ≤ v) && decide (v < 2 ^ (8 * size.natAbs - 1)) else decide (0 ≤ v) && decide (v < 2 ^ (8 * size.natAbs))

theorem fits_spec (v size : Int) (hn : size ≠ 0) (h1 : -4 ≤ size) (h2 : size ≤ 4) (S : List Res) (Q : Out → List Res → Prop) (h : Q (.ret (.lit (.bool (fitsB v size)))) S) :
    ACall Try.prog 39 [iV v, iV size] S Q := by
  refine acall_of_awp Try.func39 rfl (by simp [go_sem]) (awp_sound pl0 _ (by kernel_rfl) _ _ ?_)
  have hc : size = -4 ∨ size = -3 ∨ size = -2 ∨ size = -1 ∨ size = 1 ∨ size = 2 ∨ size = 3 ∨ size = 4 := by omega
  have fin : ∀ b : Bool, fitsB v size = b → Done S (.lit (.bool b)) Q := fun b e => by subst e; exact done (List.Sublist.refl _) h
  rcases hc with rfl | rfl | rfl | rfl | rfl | rfl | rfl | rfl
  all_goals
    simp [go_sem, iV, w64, IntKind.bits]
    refine cGuard_i (fun c1 => ?_) (fun c1 => ?_)
    · simp [go_sem, iV, c1, w64, IntKind.bits]
      simp at c1
      exact fin _ (by simp [fitsB, c1])
    · simp [go_sem, iV, c1]
      simp at c1
      exact fin _ (by simp [fitsB]; omega)

/-- The k-th byte of a number, from behind. -/
def byteK (v : Int) (k : Nat) : UInt8 := UInt8.ofNat (v.fdiv (2 ^ (8 * k)) % 256).toNat
def bytesOf (v : Int) : Nat → List UInt8
  | 0 => []
  | m + 1 => byteK v m :: bytesOf v m
theorem bytesOf_length (v : Int) : ∀ m, (bytesOf v m).length = m
  | 0 => rfl
  | m + 1 => by simp [bytesOf, bytesOf_length v m]
theorem u8_wrap (z : Int) : IntKind.u8.wrap z = ((UInt8.ofNat (z % 256).toNat).toNat : Int) := by
  rw [IntKind.wrap_u8]
  have h0 : 0 ≤ z % 256 := Int.emod_nonneg _ (by decide)
  have h1 : z % 256 < 256 := Int.emod_lt_of_pos _ (by decide)
  simp; omega
def putAll : List Int → List Int → List UInt8
  | n :: ns, v :: vs => bytesOf v n.natAbs ++ putAll ns vs
  | _, _ => []
def allFit : List Int → List Int → Bool
  | n :: ns, v :: vs => fitsB v n && allFit ns vs
  | _, _ => true
def putV (sizes values : List Int) : List UInt8 × Int :=
  if rightB sizes = false ∨ sizes.length ≠ values.length then ([], 1) else if allFit sizes values then (putAll sizes values, 0) else ([], 2)
theorem putAll_snoc : ∀ (ns vs : List Int) (n v : Int), ns.length = vs.length → putAll (ns ++ [n]) (vs ++ [v]) = putAll ns vs ++ bytesOf v n.natAbs
  | [], [], n, v, _ => by simp [putAll]
  | a :: ns, b :: vs, n, v, h => by simp [putAll, putAll_snoc ns vs n v (by simpa using h)]
theorem allFit_at {n v : Int} : ∀ (ns vs : List Int) (k : Nat), ns[k]? = some n → vs[k]? = some v → fitsB v n = false → allFit ns vs = false
  | a :: ns, b :: vs, 0, h1, h2, h => by simp at h1 h2; subst h1 h2; simp [allFit, h]
  | a :: ns, b :: vs, k + 1, h1, h2, h => by simp [allFit, allFit_at ns vs k (by simpa using h1) (by simpa using h2) h]
theorem allFit_snoc : ∀ (ns vs : List Int) (n v : Int), ns.length = vs.length → allFit (ns ++ [n]) (vs ++ [v]) = (allFit ns vs && fitsB v n)
  | [], [], n, v, _ => by simp [allFit]
  | a :: ns, b :: vs, n, v, h => by simp [allFit, allFit_snoc ns vs n v (by simpa using h), Bool.and_assoc]
theorem putAll_le : ∀ (ns vs : List Int), (∀ n ∈ ns, n.natAbs ≤ 4) → (putAll ns vs).length ≤ 4 * ns.length
  | [], vs, _ => by simp [putAll]
  | a :: ns, [], _ => by simp [putAll]
  | a :: ns, b :: vs, h => by
    have h1 := h a (by simp)
    have := putAll_le ns vs fun n hn => h n (by simp [hn])
    simp [putAll, bytesOf_length]; omega

theorem put_spec (f1 f2 : Bool) (sizes values : List Int) (hl : sizes.length ≤ 536870912) (hl2 : values.length ≤ 4294967296) (S : List Res) (Q : Out → List Res → Prop)
    (h : Q (.ret (.tuple [sV ⟨(putV sizes values).1.toArray⟩, iV (putV sizes values).2])) S) :
    ACall Try.prog 23 [.sl f1 1 (sizes.map iV), .sl f2 1 (values.map iV)] S Q := by
  refine acall_of_awp Try.func23 rfl (by simp [go_sem]) (awp_sound pl0 _ (by kernel_rfl) _ _ ?_)
  simp [go_sem, iV]
  refine .refl (right_spec f1 sizes (by omega) _ _ ?_)
  have fin : ∀ (e : Int) (S' : List Res), S.Sublist S' → putV sizes values = ([], e) → Done S' (.tuple [.lit (.string ⟨#[]⟩), .lit (.int .i64 e)]) Q := fun e S' hs hg => by
    rw [hg] at h; exact done hs h
  simp [go_sem, iV]
  refine cGuard_i (fun c1 => ?_) (fun c1 => ?_)
  · simp [go_sem, iV, c1]
    simp at c1
    exact fin 1 _ (List.Sublist.refl _) (by simp [putV, c1])
  simp [go_sem, iV, c1]
  refine cCond_i (fun c2 => ?_) (fun c2 => ?_)
  · simp [go_sem, iV]
    simp at c2
    exact fin 1 _ (List.Sublist.refl _) (by simp [putV]; intro h; omega)
  simp [go_sem, iV]
  simp at c1 c2
  have hlen : sizes.length = values.length := by omega
  have hok : ∀ n ∈ sizes, okSize n = true := List.all_eq_true.1 c1
  have hok4 : ∀ n ∈ sizes, n.natAbs ≤ 4 ∧ n ≠ 0 := fun n hn => by have := hok n hn; simp [okSize] at this; omega
  intro b hb
  refine AWP.loop (ι := Nat × Option Addr × Option Addr × Nat)
    (fun i => i.1 ≤ sizes.length ∧ (i.2.1 = none ∨ i.2.1 = some ⟨b, 0, none⟩) ∧ allFit (sizes.take i.1) (values.take i.1) = true) (fun i => sizes.length - i.1)
    (fun i => ⟨54, [(1, .sl f2 1 (values.map iV)), (6, .lit (.pointer (some ⟨b, 0, none⟩))), (20, .sl f1 1 (sizes.map iV)), (21, iV sizes.length), (22, iV i.1)],
      .vec (kB b) i.2.2.1 i.2.2.2 1 ((putAll (sizes.take i.1) (values.take i.1)).map u8V) :: .objT b [.lit (.pointer i.2.1), .vs (kB b) i.2.2.1 (putAll (sizes.take i.1) (values.take i.1)).length i.2.2.2] (some 51) :: S, []⟩)
    (0, none, none, 0) ⟨by simp, by simp, by simp [allFit]⟩ ?_ ?_
  · refine (StLe.env (env' := [(1, .sl f2 1 (values.map iV)), (6, .lit (.pointer (some ⟨b, 0, none⟩))), (20, .sl f1 1 (sizes.map iV)), (21, iV sizes.length), (22, iV 0)]) (by simp [go_sem, iV])).trans ?_
    refine .ofS (SLe.trans (SLe.obj (A := []) (cs' := [.lit (.pointer none), .vs (kB b) none 0 0]) (fun G us h => ?_)) ?_)
    · obtain ⟨x, xs, rfl, h1, h2⟩ := h.cons_inv
      exact .cons h1 (VRels.nil_vs _ h2)
    · simp [putAll]
      exact SLe.vecNil _ (kB b) 1
  rintro ⟨k, ad, a, cap⟩ ⟨hk, had, hfit⟩
  simp only at hk had hfit
  refine awp_sound pl0 _ (by kernel_rfl) _ _ ?_
  simp [go_sem, iV]
  refine cCond_i (fun c3 => ?_) (fun c3 => ?_)
  · simp [go_sem, iV]
    simp at c3
    refine ⟨c3, fun n hn => ⟨by omega, fun v hv => ?_⟩⟩
    have hnm : n ∈ sizes := List.mem_iff_getElem?.2 ⟨k, hn⟩
    have hnok := hok n hnm
    simp [okSize] at hnok
    refine .refl (fits_spec v n hnok.1.1 hnok.1.2 hnok.2 _ _ ?_)
    simp [go_sem, iV]
    refine cCond_i (fun c4 => ?_) (fun c4 => ?_)
    · simp [go_sem, iV]
      simp at c4
      refine fin 2 _ (by (repeat (first | exact List.Sublist.refl _ | refine List.Sublist.cons_cons _ ?_ | refine List.Sublist.append (List.Sublist.refl _) ?_ | refine List.Sublist.cons _ ?_))) ?_
      simp only [putV]
      rw [if_neg (by simp [c1, hlen]), allFit_at sizes values k hn hv c4]; rfl
    · simp at c4
      simp [go_sem, iV]
      have hm : (if n < IntKind.i64.wrap (-n) then IntKind.i64.wrap (-n) else n) = (n.natAbs : Int) := by rw [w64 (by omega) (by omega)]; split <;> omega
      have hm4 := hok4 n hnm
      rw [hm]
      have hpl := putAll_le (sizes.take k) (values.take k) fun n hn => (hok4 n (List.mem_of_mem_take hn)).1
      have hsn := putAll_snoc (sizes.take k) (values.take k) n v (by simp [hlen])
      rw [← take_snoc hn, ← take_snoc hv] at hsn
      have hfs := allFit_snoc (sizes.take k) (values.take k) n v (by simp [hlen])
      rw [← take_snoc hn, ← take_snoc hv, hfit, c4] at hfs
      refine AWP.loop (ι := Nat × List UInt8 × Option Addr × Option Addr × Nat)
        (fun i => i.1 ≤ n.natAbs ∧ (i.2.2.1 = none ∨ i.2.2.1 = some ⟨b, 0, none⟩) ∧ i.2.1 ++ bytesOf v i.1 = putAll (sizes.take (k + 1)) (values.take (k + 1))) (fun i => i.1)
        (fun i => ⟨54, [(1, .sl f2 1 (values.map iV)), (6, .lit (.pointer (some ⟨b, 0, none⟩))), (20, .sl f1 1 (sizes.map iV)), (21, iV sizes.length), (22, iV k), (7, iV k), (9, iV ((i.1 : Int) - 1))],
          .vec (kB b) i.2.2.2.1 i.2.2.2.2 1 (i.2.1.map u8V) :: .objT b [.lit (.pointer i.2.2.1), .vs (kB b) i.2.2.2.1 i.2.1.length i.2.2.2.2] (some 51) :: S, []⟩)
        (n.natAbs, putAll (sizes.take k) (values.take k), ad, a, cap) ⟨by simp, had, hsn.symm⟩ ?_ ?_
      · rw [w64 (by omega) (by omega)]
        exact StLe.env (by simp [go_sem, iV])
      · rintro ⟨j, cur, ad', a', cap'⟩ ⟨hj, had', hcur⟩
        simp only at hj had' hcur
        refine awp_sound pl0 _ (by kernel_rfl) _ _ ?_
        simp [go_sem, iV]
        refine cCond_i (fun c5 => ?_) (fun c5 => ?_)
        · simp at c5
          obtain ⟨j', rfl⟩ : ∃ j', j = j' + 1 := ⟨j - 1, by omega⟩
          simp [go_sem, iV]
          refine ⟨by omega, fun v' hv' => ?_⟩
          obtain rfl : v = v' := by rw [hv] at hv'; exact Option.some.inj hv'
          rw [w64 (x := 8 * (j' : Int)) (by omega) (by omega)]
          refine ⟨by omega, ?_⟩
          have hbk : V.lit (.int .u8 (IntKind.u8.wrap (v.fdiv (2 ^ min (8 * (j' : Int)).toNat 64)))) = u8V (byteK v j') := by
            rw [show min (8 * (j' : Int)).toNat 64 = 8 * j' by omega, u8_wrap]; rfl
          rw [hbk]
          have hcl : cur.length ≤ 4294967296 - 8 := by
            have := congrArg List.length hcur
            have h1 := putAll_le (sizes.take (k + 1)) (values.take (k + 1)) fun n hn => (hok4 n (List.mem_of_mem_take hn)).1
            simp at this h1
            omega
          refine .refl (writeByte_spec b ad' had' a' cap' cur (byteK v j') (by omega) _ (by simp [go_sem]) (by simp [go_sem]) (by simp [go_sem]) _ fun a'' cap'' => ?_)
          simp [go_sem, iV]
          refine round (j', cur ++ [byteK v j'], some ⟨b, 0, none⟩, a'', cap'') ⟨by simp only; omega, .inr rfl, by simp only; rw [List.append_assoc]; exact hcur⟩ (by simp only; omega) ?_
          rw [w64 (x := (j' : Int) - 1) (by omega) (by omega)]
          simp only [List.map_append, List.map_cons, List.map_nil, List.length_append, List.length_cons, List.length_nil, Nat.zero_add]
          exact StLe.env (by simp [go_sem, iV])
        · simp at c5
          simp [go_sem, iV]
          obtain rfl : j = 0 := by omega
          simp [bytesOf] at hcur
          subst hcur
          refine round (k + 1, ad', a', cap') ⟨by simp only; omega, had', by simpa using hfs⟩ (by simp only; omega) ?_
          rw [w64 (x := (k : Int) + 1) (by omega) (by omega)]
          exact StLe.env (by simp [go_sem, iV])
  · simp [go_sem, iV]
    simp at c3
    have e1 : sizes.take k = sizes := List.take_of_length_le c3
    have e2 : values.take k = values := List.take_of_length_le (by omega)
    rw [e1, e2] at hfit ⊢
    have hle := putAll_le sizes values fun n hn => (hok4 n hn).1
    refine .refl (string_spec b ad a cap (putAll sizes values) (by omega) _ (by simp [go_sem]) (by simp [go_sem]) _ ?_)
    have hp : putV sizes values = (putAll sizes values, 0) := by simp only [putV]; rw [if_neg (by simp [c1, hlen]), if_pos hfit]
    rw [hp] at h
    simp [go_sem, iV, sV]
    exact done (by (repeat (first | exact List.Sublist.refl _ | refine List.Sublist.cons_cons _ ?_ | refine List.Sublist.append (List.Sublist.refl _) ?_ | refine List.Sublist.cons _ ?_))) h
end Go.Proofs.Ytmlcfgojoglelaa
