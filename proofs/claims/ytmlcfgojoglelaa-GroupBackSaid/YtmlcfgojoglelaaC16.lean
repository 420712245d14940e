/- The references of layers 8 and 10: one, Is, Same, long, Get. -/
import Derived.Test.YtmlcfgojoglelaaC15
set_option maxRecDepth 100000
set_option linter.unusedSimpArgs false
set_option linter.unusedVariables false
set_option pp.maxSteps 3000
set_option pp.deepTerms false
namespace Go.Proofs.Ytmlcfgojoglelaa
open Go Go.AW Go.Proofs

theorem refSpan_spec (x : Sp) (S : List Res) (Q : Out → List Res → Prop) (h : Q (.ret (.lit (.bool x.ok))) S) : ACall Try.prog 37 [x.v] S Q := by
  refine acall_of_awp Try.func37 rfl (by simp [go_sem]) (awp_sound pl0 _ (by kernel_rfl) _ _ ?_)
  simp [go_sem, iV, Sp.v]
  intro b hb
  have fin : ∀ (v : Bool) (S' : List Res), S.Sublist S' → x.ok = v → Done S' (.lit (.bool v)) Q := fun v S' hs e => by subst e; exact done hs h
  (repeat' (first | (refine cGuard_i (fun hc => ?_) (fun hc => ?_) <;> simp [go_sem, iV, hc]) | (refine cCond_i (fun hc => ?_) (fun hc => ?_) <;> simp [go_sem, iV, hc]) | (refine cPick_i (fun hc => ?_) (fun hc => ?_) <;> simp [go_sem, iV, hc])))
  all_goals simp only [decide_eq_true_eq, decide_eq_false_iff_not, beq_iff_eq, bne_iff_ne, ne_eq, beq_eq_false_iff_ne, bne_eq_false_iff_eq, Bool.not_eq_true', Bool.not_eq_false', Int.not_lt, Int.not_le] at *
  all_goals first
    | exact fin _ _ (List.sublist_cons_self _ _) (by simp [Sp.ok]; omega)
    | skip
  have hst : x.st = 0 ∨ x.st = 1 := by omega
  refine fin _ _ (List.sublist_cons_self _ _) ?_
  rw [w64 (x := x.to - x.fr) (by omega) (by omega)]
  rcases hst with e | e
  · rw [e, w64 (x := 0 * (x.to - x.fr)) (by omega) (by omega), w64 (by omega) (by omega)]
    rw [Bool.eq_iff_iff]; simp [Sp.ok, e]; omega
  · rw [e, w64 (x := 1 * (x.to - x.fr)) (by omega) (by omega), w64 (by omega) (by omega)]
    rw [Bool.eq_iff_iff]; simp [Sp.ok, e]; omega

def plr21 : Nat → DPlan 
  | 4 => .take 0 (.take 1 (.take 2 (.take 3 (one 4 (.take 5 (.take 6 (.take 7 (.take 8 (.take 9 (.take 10 (.take 11 (.take 12 (.take 13 (.take 14 (.take 15 (.take 16 (.take 17 (.take 18 (.take 19 (.take 20 (.take 21 (.take 22 (.take 23 .done)))))))))))))))))))))))
  | _ => .done
theorem refIs_spec (full : Bool) (l : List Sp) (hl : l.length ≤ 4294967296) (S : List Res) (Q : Out → List Res → Prop) (h : Q (.ret (.lit (.bool (isB l)))) S) :
    ACall Try.prog 21 [.sl full 4 (l.map Sp.v)] S Q := by
  refine acall_of_awp Try.func21 rfl (by simp [go_sem]) (awp_sound plr21 _ (by kernel_rfl) _ _ ?_)
  simp [go_sem]
  have fin : isB l = false → Done S (V.lit (.bool false)) Q := fun e => by rw [e] at h; exact done (List.Sublist.refl _) h
  refine AWP.loop (ι := Nat) (fun k => k ≤ l.length ∧ (l.take k).all Sp.ok = true ∧ ordB (l.take k) = true) (fun k => l.length - k) (fun k => ⟨42, [(0, .sl full 4 (l.map Sp.v)), (3, iV k)], S, []⟩) 0 (by simp [ordB]) (StLe.env (by simp [go_sem, iV])) ?_
  rintro k ⟨hk, hok, hr⟩
  refine awp_sound plr21 _ (by kernel_rfl) _ _ ?_
  simp [go_sem, iV]
  refine cGuard_i (fun c1 => ?_) (fun c1 => ?_)
  · simp [go_sem, iV, c1]
    simp at c1
    refine cCond_i (fun c2 => ?_) (fun c2 => ?_)
    · simp at c2
      simp [go_sem, iV, plr21, one]
      refine ⟨c1, fun x hx => ?_⟩
      have w1 : IntKind.i64.wrap ((k : Int) + 1) = ((k + 1 : Nat) : Int) := by rw [w64 (by omega) (by omega)]; rfl
      have hxm : x ∈ l := List.mem_iff_getElem?.2 ⟨k, hx⟩
      have hst := take_snoc hx
      simp [Sp.v, go_sem]
      refine .refl (refSpan_spec x _ _ ?_)
      simp [go_sem, iV]
      refine tG_i (fun c3 => ?_) (fun c3 => ?_)
      · simp [go_sem, iV, c3, plr21, one]
        simp at c3
        refine fin ?_
        have : l.all Sp.ok = false := by rw [List.all_eq_false]; exact ⟨x, hxm, by simp [c3]⟩
        simp [isB, this]
      · simp [go_sem, iV, c3, plr21, one]
        simp at c3
        have hok' : (l.take (k + 1)).all Sp.ok = true := by rw [hst]; simp [c3]; simpa using hok
        refine tG_i (fun c4 => ?_) (fun c4 => ?_)
        · simp at c4
          have w2 : IntKind.i64.wrap ((k : Int) - 1) = ((k - 1 : Nat) : Int) := by rw [w64 (by omega) (by omega)]; omega
          simp [go_sem, iV, plr21, one, w2, c4, Sp.v]
          refine ⟨c1, fun a ha => ⟨by omega, fun a2 ha2 => ?_⟩⟩
          have e2 := take_two (k := k - 1) ha2 (by rw [show k - 1 + 1 = k by omega]; exact ha)
          rw [show k - 1 + 2 = k + 1 by omega] at e2
          have e1 := take_snoc ha2
          rw [show k - 1 + 1 = k by omega] at e1
          have e3 := ordB_snoc (l.take (k - 1)) a2 a
          rw [← e1, hr, ← e2] at e3
          refine cCond_i (fun c5 => ?_) (fun c5 => ?_)
          · simp [go_sem]
            simp at c5
            refine fin ?_
            have : ordB l = false := ordB_take_false (k := k + 1) (by rw [e3]; simp; omega)
            simp [isB, this]
          · simp [go_sem, iV]
            simp at c5
            refine round (k + 1) ⟨by omega, by simpa using hok', by rw [e3]; simp; omega⟩ (by omega) (StLe.env ?_)
            rw [w1]
            simp [go_sem, iV, Sp.v]
        · simp at c4
          subst c4
          simp [go_sem, iV, plr21, one]
          refine round 1 ⟨by omega, by simpa using hok', ?_⟩ (by omega) (StLe.env ?_)
          · cases l with
            | nil => rfl
            | cons a l => rfl
          · rw [w64 (by omega) (by omega)]
            simp [go_sem, iV]
    · simp at c2
      simp [go_sem, iV]
      rw [show decide ((l.length : Int) ≤ 65536) = false by simp; omega]
      exact fin (by simp [isB]; omega)
  · simp [go_sem, iV, c1]
    simp at c1
    rw [List.take_of_length_le c1] at hr hok
    have : isB l = decide ((l.length : Int) ≤ 65536) := by
      simp only [isB, hr, hok, Bool.and_true]; rw [Bool.eq_iff_iff]; simp; omega
    rw [this] at h
    exact done (List.Sublist.refl _) h

/-- Are two rows of spans the same? -/
def sameB (a b : List Sp) : Bool := decide (a = b)
def plrSame : Nat → DPlan 
  | 6 => .take 0 (.take 1 (.take 2 (.take 3 (.take 4 (.take 5 (.take 6 (.take 7 (.take 8 .done))))))))
  | _ => .done
theorem refSame_spec (f1 f2 : Bool) (a b : List Sp) (ha : a.length ≤ 4294967296) (hb : b.length ≤ 4294967296) (S : List Res) (Q : Out → List Res → Prop) (h : ∀ v, v = sameB a b → Q (.ret (.lit (.bool v))) S) :
    ACall Try.prog 13 [.sl f1 4 (a.map Sp.v), .sl f2 4 (b.map Sp.v)] S Q := by
  refine acall_of_awp Try.func13 rfl (by simp [go_sem]) (awp_sound plrSame _ (by kernel_rfl) _ _ ?_)
  simp [go_sem, iV]
  have fin : sameB a b = false → Done S (V.lit (.bool false)) Q := fun e => done (List.Sublist.refl _) (h _ e.symm)
  refine cCond_i (fun c1 => ?_) (fun c1 => ?_)
  · simp [go_sem, iV]
    simp at c1
    exact fin (by simp [sameB]; intro e; subst e; omega)
  simp [go_sem, iV]
  simp at c1
  refine AWP.loop (ι := Nat) (fun k => k ≤ a.length ∧ a.take k = b.take k) (fun k => a.length - k) (fun k => ⟨26, [(0, .sl f1 4 (a.map Sp.v)), (1, .sl f2 4 (b.map Sp.v)), (5, iV k)], S, []⟩) 0 (by simp) (StLe.env (by simp [go_sem, iV])) ?_
  rintro k ⟨hk, hr⟩
  refine awp_sound plrSame _ (by kernel_rfl) _ _ ?_
  simp [go_sem, iV]
  refine cCond_i (fun c2 => ?_) (fun c2 => ?_)
  · simp at c2
    simp [go_sem, iV, plrSame, one, Sp.v]
    refine ⟨c2, fun x hx => ⟨by omega, fun y hy => ?_⟩⟩
    refine cCond_i (fun c3 => ?_) (fun c3 => ?_)
    · simp [go_sem]
      refine fin ?_
      simp only [sameB, decide_eq_false_iff_not]
      intro e
      subst e
      rw [hx] at hy
      obtain rfl := Option.some.inj hy
      simp at c3
    · simp [go_sem, iV]
      simp at c3
      have e : x = y := by cases x; cases y; simp at c3 ⊢; exact c3
      subst e
      refine round (k + 1) ⟨by omega, by rw [take_snoc hx, take_snoc hy, hr]⟩ (by omega) (StLe.env ?_)
      rw [w64 (by omega) (by omega)]
      simp [go_sem, iV]
  · simp at c2
    simp [go_sem, iV]
    rw [List.take_of_length_le c2, List.take_of_length_le (by omega)] at hr
    exact done (List.Sublist.refl _) (h _ (by simp [sameB, hr]))

/-- The four bytes' number at a place. -/
def longV (s : ByteArray) (p : Nat) : Int := numB ((s.data.toList.drop p).take 4)
theorem extract_list (s : ByteArray) (i j : Nat) : (s.extract i j).data.toList = (s.data.toList.drop i).take (j - i) := by
  rw [ByteArray.data_extract, Array.toList_extract]
theorem long_spec (s : ByteArray) (p : Nat) (hp : p + 4 ≤ s.size) (hs : s.size ≤ 9223372036854775807) (S : List Res) (Q : Out → List Res → Prop) (h : Q (.ret (iV (longV s p))) S) :
    ACall Try.prog 20 [sV s, iV p] S Q := by
  refine acall_of_awp Try.func20 rfl (by simp [go_sem]) (awp_sound pl0 _ (by kernel_rfl) _ _ ?_)
  simp [go_sem, iV, sV]
  rw [w64 (by omega) (by omega)]
  refine ⟨by omega, by omega, ?_⟩
  refine .refl (refOne_spec _ 4 (by omega) ?_ _ _ ?_)
  · rw [← ba_len, extract_list]; simp; omega
  · simp [go_sem, iV]
    refine done (List.Sublist.refl _) ?_
    rw [show ((p : Int) + 4).toNat - p = 4 by omega]
    exact h

theorem VLe.nilVs (S : List Res) (k : Nat) : VLe S (.lit (.slice none 0 0)) (.vs k none 0 0) := fun G w x hi hv => by
  have := hv.lit_inv; subst this; exact .vs _ _ _ _
def spanAt (s : ByteArray) (st : Int) (i : Nat) : Sp := ⟨longV s (16 + 12 * i), longV s (16 + 12 * i + 4), longV s (16 + 12 * i + 8), st⟩
def refGroupGetV (s : ByteArray) : List Sp × Int :=
  if s.size < 16 then ([], 4) else
  let format := numB (s.data.toList.take 2)
  let n := longV s 12
  if format ≠ 12 ∧ format ≠ 13 then ([], 5) else if 65536 < n then ([], 7) else if longV s 4 ≠ 16 + 12 * n then ([], 5) else if (s.size : Int) < 16 + 12 * n then ([], 4) else
  let out := (List.range n.toNat).map (spanAt s (13 - format))
  if isB out then (out, 0) else ([], 5)
theorem longV_bound (s : ByteArray) (p : Nat) : 0 ≤ longV s p ∧ longV s p < 4294967296 := by
  have hb := numB_bound ((s.data.toList.drop p).take 4)
  have hl : ((s.data.toList.drop p).take 4).length ≤ 4 := by simp; omega
  have hp : (256 : Int) ^ ((s.data.toList.drop p).take 4).length ≤ 256 ^ 4 := by
    generalize ((s.data.toList.drop p).take 4).length = m at *
    have : m = 0 ∨ m = 1 ∨ m = 2 ∨ m = 3 ∨ m = 4 := by omega
    rcases this with rfl | rfl | rfl | rfl | rfl <;> decide
  exact ⟨hb.1, by simp only [longV]; omega⟩

theorem refGroupGet_spec (s : ByteArray) (hs : s.size ≤ 9223372036854775807) (S : List Res) (Q : Out → List Res → Prop)
    (h : Q (.ret (.tuple [.sl false 4 ((refGroupGetV s).1.map Sp.v), iV (refGroupGetV s).2])) S) :
    ACall Try.prog 7 [sV s] S Q := by
  refine acall_of_awp Try.func7 rfl (by simp [go_sem]) (awp_sound pl0 _ (by kernel_rfl) _ _ ?_)
  simp [go_sem, iV, sV]
  simp only [refGroupGetV] at h
  refine cCond_i (fun c1 => ?_) (fun c1 => ?_)
  · simp [go_sem]
    simp at c1
    rw [if_pos (by omega)] at h
    exact doneErr (List.Sublist.refl _) h
  simp at c1
  rw [if_neg (by omega)] at h
  simp [go_sem, iV]
  refine ⟨by omega, ?_⟩
  refine .refl (refOne_spec _ 2 (by omega) (by simp [ByteArray.size_extract]; omega) _ _ ?_)
  rw [extract_list]
  have hfb := numB_small (s.data.toList.take 2) (by simp; omega)
  simp only [List.drop_zero, Nat.sub_zero]
  generalize hF : numB (s.data.toList.take 2) = f0 at *
  simp [go_sem, iV]
  refine .refl (long_spec s 12 (by omega) hs _ _ ?_)
  have hnb := longV_bound s 12
  generalize hN : longV s 12 = n at *
  simp [go_sem, iV]
  by_cases hfmt : f0 ≠ 12 ∧ f0 ≠ 13
  · rw [if_pos hfmt] at h
    have e1 : (f0 != 12) = true := by simp [hfmt.1]
    have e2 : (f0 != 13) = true := by simp [hfmt.2]
    rw [e1]
    simp [go_sem, iV, e2]
    exact doneErr (List.Sublist.refl _) h
  rw [if_neg hfmt] at h
  have hf0 : f0 = 12 ∨ f0 = 13 := by omega
  cases e1 : (f0 != 12) <;> cases e2 : (f0 != 13) <;> first | (exfalso; simp at e1 e2; omega) | skip
  all_goals
    simp [go_sem, iV, e2]
    refine cCond_i (fun c2 => ?_) (fun c2 => ?_)
    · simp [go_sem, iV]
      simp at c2
      rw [if_pos c2] at h
      exact doneErr (List.Sublist.refl _) h
    simp at c2
    rw [if_neg (by omega)] at h
    simp [go_sem, iV]
    refine .refl (long_spec s 4 (by omega) hs _ _ ?_)
    simp [go_sem, iV]
    rw [w64 (x := 12 * n) (by omega) (by omega), w64 (x := 16 + 12 * n) (by omega) (by omega)]
    refine cCond_i (fun c3 => ?_) (fun c3 => ?_)
    · simp [go_sem, iV]
      simp at c3
      rw [if_pos c3] at h
      exact doneErr (List.Sublist.refl _) h
    simp at c3
    rw [if_neg (by omega)] at h
    simp [go_sem, iV]
    rw [w64 (x := 12 * n) (by omega) (by omega), w64 (x := 16 + 12 * n) (by omega) (by omega)]
    refine cCond_i (fun c4 => ?_) (fun c4 => ?_)
    · simp [go_sem, iV]
      simp at c4
      rw [if_pos c4] at h
      exact doneErr (List.Sublist.refl _) h
    simp at c4
    rw [if_neg (by omega)] at h
    simp [go_sem, iV]
    refine AWP.loop (ι := Nat × List Sp × Option Addr × Nat) (fun i => i.1 ≤ n.toNat ∧ i.2.1 = (List.range i.1).map (spanAt s (13 - f0))) (fun i => n.toNat - i.1)
      (fun i => ⟨66, [(0, sV s), (4, iV f0), (5, iV n), (6, .vs 61 i.2.2.1 i.2.1.length i.2.2.2), (7, iV i.1)], .vec 61 i.2.2.1 i.2.2.2 4 (i.2.1.map Sp.v) :: S, []⟩) (0, [], none, 0) ⟨by simp, by simp⟩ ?_ ?_
    · refine StLe.trans (.ofS (SLe.vecNil _ 61 4)) (StLe.env ?_)
      simp [go_sem, iV, sV]
      exact VLe.nilVs _ 61
    rintro ⟨k, acc, a, cap⟩ ⟨hk, hacc⟩
    simp only at hk hacc
    have hal : acc.length = k := by rw [hacc]; simp
    refine awp_sound pl0 _ (by kernel_rfl) _ _ ?_
    simp [go_sem, iV, sV]
    refine cCond_i (fun c5 => ?_) (fun c5 => ?_)
    · simp at c5
      simp [go_sem, iV, sV]
      have wk : IntKind.i64.wrap ((k : Int) + 1) = ((k + 1 : Nat) : Int) := by rw [w64 (by omega) (by omega)]; rfl
      obtain ⟨p, hp⟩ : ∃ p, p = 16 + 12 * k := ⟨_, rfl⟩
      obtain ⟨p4, hp4⟩ : ∃ p4, p4 = 16 + 12 * k + 4 := ⟨_, rfl⟩
      obtain ⟨p8, hp8⟩ : ∃ p8, p8 = 16 + 12 * k + 8 := ⟨_, rfl⟩
      have w0 : IntKind.i64.wrap (16 + IntKind.i64.wrap (12 * (k : Int))) = (p : Int) := by rw [w64 (x := 12 * (k : Int)) (by omega) (by omega), w64 (by omega) (by omega)]; omega
      have w4 : IntKind.i64.wrap ((p : Int) + 4) = (p4 : Int) := by rw [w64 (by omega) (by omega)]; omega
      have w8 : IntKind.i64.wrap ((p : Int) + 8) = (p8 : Int) := by rw [w64 (by omega) (by omega)]; omega
      have hsa : spanAt s (13 - f0) k = ⟨longV s p, longV s p4, longV s p8, 13 - f0⟩ := by rw [hp, hp4, hp8]; rfl
      have wf : IntKind.i64.wrap (13 - f0) = 13 - f0 := w64 (by omega) (by omega)
      rw [w0]
      refine .refl (long_spec s p (by omega) hs _ _ ?_)
      simp [go_sem, iV]
      rw [w4]
      refine .refl (long_spec s p4 (by omega) hs _ _ ?_)
      simp [go_sem, iV]
      rw [w8]
      refine .refl (long_spec s p8 (by omega) hs _ _ ?_)
      simp [go_sem, iV, sV, wf]
      refine ⟨by omega, fun a' cap' => ?_⟩
      refine round (k + 1, acc ++ [spanAt s (13 - f0) k], a', cap') ⟨by simp only; omega, by simp only; rw [hacc, List.range_succ]; simp⟩ (by simp only; omega) ?_
      rw [wk, hsa]
      simp only [List.map_append, List.map_cons, List.map_nil, List.length_append, List.length_cons, List.length_nil, Nat.zero_add]
      exact StLe.env (by simp [go_sem, iV, sV])
    · simp at c5
      obtain rfl : k = n.toNat := by omega
      simp [go_sem, iV, sV]
      refine .refl (refIs_spec false acc (by omega) _ _ ?_)
      rw [← hacc] at h
      simp [go_sem, iV]
      refine cCond_i (fun c6 => ?_) (fun c6 => ?_)
      · simp [go_sem, iV]
        simp at c6
        rw [if_neg (by simp [c6])] at h
        exact doneErr (by (repeat (first | exact List.Sublist.refl _ | refine List.Sublist.cons_cons _ ?_ | refine List.Sublist.append (List.Sublist.refl _) ?_ | refine List.Sublist.cons _ ?_))) h
      · simp [go_sem, iV]
        simp at c6
        rw [if_pos c6] at h
        exact done (by (repeat (first | exact List.Sublist.refl _ | refine List.Sublist.cons_cons _ ?_ | refine List.Sublist.append (List.Sublist.refl _) ?_ | refine List.Sublist.cons _ ?_))) h
end Go.Proofs.Ytmlcfgojoglelaa
