/- group.Get. -/
import Derived.Test.YtmlcfgojoglelaaC11
set_option maxRecDepth 100000
set_option linter.unusedSimpArgs false
set_option linter.unusedVariables false
set_option pp.maxSteps 3000
set_option pp.deepTerms false
namespace Go.Proofs.Ytmlcfgojoglelaa
open Go Go.AW Go.Proofs

theorem numB_nonneg (l : List UInt8) : 0 ≤ numB l := (numB_bound l).1
theorem takeV_bound (s : ByteArray) (n : Int) (h : 0 < n) (h4 : n ≤ 4) : 0 ≤ takeV s n ∧ takeV s n < 4294967296 := by
  have hb := numB_bound (s.data.toList.take n.natAbs)
  have hl : (s.data.toList.take n.natAbs).length ≤ 4 := by simp; omega
  have hp : (256 : Int) ^ (s.data.toList.take n.natAbs).length ≤ 256 ^ 4 := by
    generalize (s.data.toList.take n.natAbs).length = m at *
    have : m = 0 ∨ m = 1 ∨ m = 2 ∨ m = 3 ∨ m = 4 := by omega
    rcases this with rfl | rfl | rfl | rfl | rfl <;> decide
  simp only [takeV]
  rw [if_neg (by omega)]
  exact ⟨hb.1, by omega⟩
theorem readL_facts : ∀ (sizes : List Int) (s : ByteArray) (l : List Int), readL s sizes = some l → l.length = sizes.length ∧ ((∀ n ∈ sizes, 0 < n ∧ n ≤ 4) → ∀ x ∈ l, 0 ≤ x ∧ x < 4294967296)
  | [], s, l, h => by simp [readL] at h; subst h; simp
  | n :: ns, s, l, h => by
    simp only [readL] at h
    split at h
    · cases h
    · obtain ⟨l', hl', rfl⟩ := Option.map_eq_some_iff.1 h
      obtain ⟨h1, h2⟩ := readL_facts ns _ l' hl'
      refine ⟨by simp [h1], fun hn x hx => ?_⟩
      rcases List.mem_cons.1 hx with rfl | hx
      · exact takeV_bound s n (hn n (by simp)).1 (hn n (by simp)).2
      · exact h2 (fun m hm => hn m (by simp [hm])) x hx
theorem getV_facts {s : ByteArray} {p : Int} {sizes : List Int} (h : (getV s p sizes).2 = 0) : (getV s p sizes).1.length = sizes.length ∧ ((∀ n ∈ sizes, 0 < n ∧ n ≤ 4) → ∀ x ∈ (getV s p sizes).1, 0 ≤ x ∧ x < 4294967296) := by
  unfold getV at h ⊢
  split at h
  · cases h
  · rename_i h1
    rw [if_neg h1]
    split at h
    · cases h
    · rename_i h2
      rw [if_neg h2]
      split at h
      · cases h
      · rename_i l hl
        exact readL_facts _ _ _ hl

/-- Nothing, and an error. -/
theorem doneErr {S S' : List Res} {e : Int} {sz : Nat} {Q : Out → List Res → Prop} (hs : S.Sublist S') (h : Q (.ret (.tuple [.sl false sz [], iV e])) S) : Done S' (.tuple [.lit (.slice none 0 0), .lit (.int .i64 e)]) Q :=
  ⟨_, S, VLe.tuple (.cons (VLe.nilSl _ false sz) (.cons (.refl _ _) (.nil _))), .drop hs, h⟩

/-- One span's three numbers. -/
def span3 (st : Int) (g : List Int) : Sp := ⟨g.getD 0 0, g.getD 1 0, g.getD 2 0, st⟩
theorem chunks_len (n : Nat) (hn : 0 < n) : ∀ (k : Nat) (l : List Int), l.length = n * k → (chunksI n l).length = k ∧ ∀ c ∈ chunksI n l, c.length = n
  | 0, l, h => by
    have : l = [] := List.eq_nil_of_length_eq_zero (by simpa using h)
    subst this
    rw [chunksI]; simp
  | k + 1, l, h => by
    have hl : l.length = n * k + n := by rw [h, Nat.mul_succ]
    have hne : ¬ (l = [] ∨ n = 0) := by
      rintro (rfl | e)
      · simp at hl; omega
      · omega
    obtain ⟨h1, h2⟩ := chunks_len n hn k (l.drop n) (by simp; omega)
    rw [chunksI, dif_neg hne]
    refine ⟨by simp [h1], fun c hc => ?_⟩
    rcases List.mem_cons.1 hc with rfl | hc
    · simp; omega
    · exact h2 c hc
def groupGetV (s : ByteArray) : List Sp × Int :=
  let r := getV s 0 [2, 2, 4, 4, 4]
  if r.2 ≠ 0 then ([], r.2) else
  let format := r.1.getD 0 0; let length := r.1.getD 2 0; let n := r.1.getD 4 0
  if format ≠ 12 ∧ format ≠ 13 then ([], 5) else if 65536 < n then ([], 7) else if length ≠ 16 + 12 * n then ([], 5) else if (s.size : Int) < length then ([], 4) else
  let r2 := getV s 16 (repL [4] (3 * n).toNat)
  if r2.2 ≠ 0 then ([], r2.2) else
  let out := (chunksI 3 r2.1).map (span3 (13 - format))
  if isB out then (out, 0) else ([], 5)

def pl6 : Nat → DPlan 
  | 4 => .take 0 (.take 1 (.take 2 (.take 3 (.take 4 (.take 5 (.take 6 (.take 7 (.take 8 (one 9 (one 10 (one 11 (one 12 .done))))))))))))
  | 19 => .take 1 (.take 2 (.take 3 (.take 4 (.take 5 (.take 6 (.take 7 (.take 8 (.take 9 (.alt 0 (one 10 (.take 11 (.take 12 (one 13 (one 14 (one 15 .done)))))) (.alt 10 (.take 11 (.take 12 (.alt 0 (one 13 (one 14 (one 15 .done))) (.alt 13 (one 0 (one 14 (one 15 .done))) .stop)))) .stop))))))))))
  | _ => .done
theorem groupGet_spec (s : ByteArray) (hs : s.size ≤ 9223372036854775807) (S : List Res) (Q : Out → List Res → Prop)
    (h : Q (.ret (.tuple [.sl false 4 ((groupGetV s).1.map Sp.v), iV (groupGetV s).2])) S) :
    ACall Try.prog 6 [sV s] S Q := by
  refine acall_of_awpM Try.func6 rfl (by simp [go_sem]) (awp_sound pl6 _ (by kernel_rfl) _ _ ?_)
  simp [go_sem, iV, sV]
  refine .refl (get_spec true s 0 [2, 2, 4, 4, 4] hs (by simp) _ _ ?_)
  have hf := @getV_facts s 0 [2, 2, 4, 4, 4]
  simp only [groupGetV] at h
  generalize hr : getV s 0 [2, 2, 4, 4, 4] = r at *
  obtain ⟨rl, re⟩ := r
  simp [go_sem, iV]
  simp only at hf h
  refine cCond_i (fun c1 => ?_) (fun c1 => ?_)
  · simp [go_sem, iV]
    simp at c1
    rw [if_pos c1] at h
    exact doneErr (List.Sublist.refl _) h
  simp at c1
  subst c1
  obtain ⟨hlen, hval⟩ := hf rfl
  have hval := hval (by simp)
  obtain ⟨f0, f1, f2, f3, f4, rfl⟩ : ∃ f0 f1 f2 f3 f4, rl = [f0, f1, f2, f3, f4] := by
    match rl, hlen with
    | [a, b, c, d, e], _ => exact ⟨a, b, c, d, e, rfl⟩
  simp at hval
  rw [if_neg (by simp)] at h
  simp only [List.getD_cons_zero, List.getD_cons_succ] at h
  simp [go_sem, iV, pl6, one]
  intro b6 hb6
  by_cases hfmt : f0 ≠ 12 ∧ f0 ≠ 13
  · rw [if_pos hfmt] at h
    have e1 : (f0 != 12) = true := by simp [hfmt.1]
    have e2 : (f0 != 13) = true := by simp [hfmt.2]
    rw [e1]
    simp [go_sem, iV, e2]
    exact doneErr (List.sublist_cons_self _ _) h
  rw [if_neg hfmt] at h
  have hf0 : f0 = 12 ∨ f0 = 13 := by omega
  cases e1 : (f0 != 12) <;> cases e2 : (f0 != 13) <;> first | (exfalso; simp at e1 e2; omega) | skip
  all_goals
    simp [go_sem, iV, e2]
    refine cCond_i (fun c2 => ?_) (fun c2 => ?_)
    · simp [go_sem, iV]
      simp at c2
      rw [if_pos c2] at h
      exact doneErr (List.sublist_cons_self _ _) h
    simp at c2
    rw [if_neg (by omega)] at h
    simp [go_sem, iV]
    rw [w64 (x := 12 * f4) (by omega) (by omega), w64 (x := 16 + 12 * f4) (by omega) (by omega)]
    refine cCond_i (fun c3 => ?_) (fun c3 => ?_)
    · simp [go_sem, iV]
      simp at c3
      rw [if_pos c3] at h
      exact doneErr (List.sublist_cons_self _ _) h
    simp at c3
    rw [if_neg (by omega)] at h
    simp [go_sem, iV]
    refine cCond_i (fun c4 => ?_) (fun c4 => ?_)
    · simp [go_sem, iV]
      simp at c4
      rw [if_pos c4] at h
      exact doneErr (List.sublist_cons_self _ _) h
    simp at c4
    rw [if_neg (by omega)] at h
    simp [go_sem, iV]
    have e3 : IntKind.i64.wrap (3 * f4) = (((3 * f4).toNat : Nat) : Int) := by rw [w64 (by omega) (by omega)]; omega
    rw [e3]
    refine .refl (repeat_spec true [4] (3 * f4).toNat (by simp) (by simp) (by simp; omega) _ _ ?_)
    simp [go_sem, iV]
    refine .refl (get_spec true s 16 (repL [4] (3 * f4).toNat) hs (by rw [repL_length]; simp; omega) _ _ ?_)
    have hf2 := @getV_facts s 16 (repL [4] (3 * f4).toNat)
    generalize hr2 : getV s 16 (repL [4] (3 * f4).toNat) = r2 at *
    obtain ⟨l2, e4⟩ := r2
    simp only at hf2 h
    simp [go_sem, iV]
    refine cCond_i (fun c5 => ?_) (fun c5 => ?_)
    · simp [go_sem, iV]
      simp at c5
      rw [if_pos c5] at h
      exact doneErr (List.sublist_cons_self _ _) h
    simp at c5
    subst c5
    obtain ⟨hlen2, hval2⟩ := hf2 rfl
    rw [if_neg (by simp)] at h
    simp [go_sem, iV]
    intro b9 hb9
    have n69 : b9 ≠ b6 := by simp [Fresh, blks, Res.blk] at hb9; exact hb9.1
    refine .refl (chunk_spec false l2 3 (by omega) (by rw [hlen2, repL_length]; simp; omega) _ _ ?_)
    simp [go_sem, iV]
    refine AWP.rangeFunc rfl (by simp [go_sem]) fun db y hdb hy hdby => ?_
    simp [go_sem, iV]
    generalize hlp : Res.lp y 84 _ LoopState.ready none _ _ _ db = LP
    have roundS : ∀ (c0 c1 c2 : Int) (acc : List Sp) (a : Option Addr) (cap : Nat) (R : Bool → List Res → Prop), acc.length ≤ 70000 →
        (∀ a' cap', R true (Res.vec 79 a' cap' 4 ((acc ++ [(⟨c0, c1, c2, 13 - f0⟩ : Sp)]).map Sp.v) :: LP :: Res.raw db (Obj.deferred (some [])) :: Res.obj b9 [.vs 79 a' (acc ++ [(⟨c0, c1, c2, 13 - f0⟩ : Sp)]).length cap'] :: Res.obj b6 [iV f0] :: S)) →
        ARound Try.prog y [.sl true 1 ([c0, c1, c2].map iV)] (Res.vec 79 a cap 4 (acc.map Sp.v) :: LP :: Res.raw db (Obj.deferred (some [])) :: Res.obj b9 [.vs 79 a acc.length cap] :: Res.obj b6 [iV f0] :: S) R := by
      intro c0 c1 c2 acc a cap R hal hR
      subst hlp
      refine ARound.of_body (by simp [go_sem]; rfl) rfl (by simp [go_sem]) ?_
      refine awp_sound pl6 _ (by kernel_rfl) _ _ ?_
      simp [go_sem, assignEnv, iV]
      refine awp_sound pl6 _ (by kernel_rfl) _ _ ?_
      have hw : IntKind.i64.wrap (13 - f0) = 13 - f0 := by rw [w64 (by omega) (by omega)]
      simp [go_sem, iV, pl6, one, n69, Ne.symm n69, hw]
      refine ⟨by omega, fun a' cap' => ?_⟩
      have := hR a' cap'
      simp only [List.map_append, List.map_cons, List.map_nil, List.length_append, List.length_cons, List.length_nil, Nat.zero_add, Sp.v, iV] at this
      exact this
    have iter : ∀ (cs : List (List Int)) (acc : List Sp) (a : Option Addr) (cap : Nat) (Qe : List Res → Prop), (∀ c ∈ cs, c.length = 3) → acc.length + cs.length ≤ 70000 →
        (∀ a' cap', Qe (Res.vec 79 a' cap' 4 ((acc ++ cs.map (span3 (13 - f0))).map Sp.v) :: LP :: Res.raw db (Obj.deferred (some [])) :: Res.obj b9 [.vs 79 a' (acc ++ cs.map (span3 (13 - f0))).length cap'] :: Res.obj b6 [iV f0] :: S)) →
        AIter Try.prog y (cs.map fun c => [.sl true 1 (c.map iV)]) (Res.vec 79 a cap 4 (acc.map Sp.v) :: LP :: Res.raw db (Obj.deferred (some [])) :: Res.obj b9 [.vs 79 a acc.length cap] :: Res.obj b6 [iV f0] :: S) Qe := by
      intro cs
      induction cs with
      | nil => intro acc a cap Qe hc hal h0; simp only [List.map_nil, AIter]; simpa using h0 a cap
      | cons c cs ih =>
        intro acc a cap Qe hc hal h0
        simp at hal
        simp only [List.map_cons, AIter]
        obtain ⟨c0, c1, c2, rfl⟩ : ∃ c0 c1 c2, c = [c0, c1, c2] := by
          match c, hc c (by simp) with
          | [x, y, z], _ => exact ⟨x, y, z, rfl⟩
        refine roundS c0 c1 c2 acc a cap _ (by omega) fun a' cap' => ?_
        rw [if_pos rfl]
        refine ih (acc ++ [⟨c0, c1, c2, 13 - f0⟩]) a' cap' Qe (fun c' h' => hc c' (by simp [h'])) (by simp; omega) fun a'' cap'' => ?_
        have := h0 a'' cap''
        simpa [span3, List.append_assoc] using this
    have hl3 : l2.length = 3 * f4.toNat := by rw [hlen2, repL_length]; simp; omega
    obtain ⟨hcl, hc3⟩ := chunks_len 3 (by omega) f4.toNat l2 hl3
    refine ACall.pre (S' := Res.vec 79 none 0 4 (([] : List Sp).map Sp.v) :: LP :: Res.raw db (Obj.deferred (some [])) :: Res.obj b9 [.vs 79 none ([] : List Sp).length 0] :: Res.obj b6 [iV f0] :: S) ((SLe.obj (A := [_, _]) (fun G us h => VRels.nil_vs 79 h)).trans (SLe.vecNil _ 79 4)) ?_
    refine chunk1_spec y false l2 3 (by omega) (by omega) (by omega) _ _ ?_
    refine iter _ [] none 0 _ hc3 (by simp [hcl]; omega) fun a' cap' => ?_
    subst hlp
    simp only [List.nil_append]
    generalize hout : (chunksI 3 l2).map (span3 (13 - f0)) = out at *
    have hol : out.length ≤ 70000 := by rw [← hout, List.length_map, hcl]; omega
    simp [go_sem, iV, n69, Ne.symm n69]
    refine .refl (is_spec false out (by omega) _ _ ?_)
    simp [go_sem, iV]
    refine cCond_i (fun c6 => ?_) (fun c6 => ?_)
    · simp [go_sem, iV]
      simp at c6
      rw [if_neg (by simp [c6])] at h
      exact doneErr (by (repeat (first | exact List.Sublist.refl _ | refine List.Sublist.cons_cons _ ?_ | refine List.Sublist.append (List.Sublist.refl _) ?_ | refine List.Sublist.cons _ ?_))) h
    · simp [go_sem, iV, n69, Ne.symm n69]
      simp at c6
      rw [if_pos c6] at h
      exact done (by (repeat (first | exact List.Sublist.refl _ | refine List.Sublist.cons_cons _ ?_ | refine List.Sublist.append (List.Sublist.refl _) ?_ | refine List.Sublist.cons _ ?_))) h
end Go.Proofs.Ytmlcfgojoglelaa
