/- chart.Is. -/
import Derived.Test.YtmlcfgojoglelaaC8
set_option maxRecDepth 100000
set_option linter.unusedSimpArgs false
set_option linter.unusedVariables false
set_option pp.maxSteps 3000
set_option pp.deepTerms false
namespace Go.Proofs.Ytmlcfgojoglelaa
open Go Go.AW Go.Proofs

/-- Each span begins behind the one ahead. -/
def ordB : List Sp → Bool
  | x :: y :: l => decide (x.to < y.fr) && ordB (y :: l)
  | _ => true
def isB (l : List Sp) : Bool := decide (l.length ≤ 65536) && l.all Sp.ok && ordB l
theorem ordB_snoc : ∀ (l : List Sp) (x y : Sp), ordB (l ++ [x, y]) = (ordB (l ++ [x]) && decide (x.to < y.fr))
  | [], x, y => by simp [ordB]
  | [a], x, y => by simp [ordB, Bool.and_assoc]
  | a :: b :: l, x, y => by
    have := ordB_snoc (b :: l) x y
    simp only [List.cons_append, ordB] at this ⊢
    rw [this, Bool.and_assoc]
theorem take_two {α : Type} {l : List α} {k : Nat} {x y : α} (hx : l[k]? = some x) (hy : l[k + 1]? = some y) : l.take (k + 2) = l.take k ++ [x, y] := by
  rw [take_snoc hy, take_snoc hx]; simp
theorem ordB_prefix : ∀ (l m : List Sp), ordB (l ++ m) = true → ordB l = true
  | [], m, _ => rfl
  | [a], m, _ => rfl
  | a :: b :: l, m, h => by
    have := ordB_prefix (b :: l) m
    simp only [List.cons_append, ordB, Bool.and_eq_true] at this h ⊢
    exact ⟨h.1, this h.2⟩
theorem ordB_take_false {l : List Sp} {k : Nat} (h : ordB (l.take k) = false) : ordB l = false := by
  cases hl : ordB l with
  | false => rfl
  | true =>
    rw [← List.take_append_drop k l] at hl
    rw [ordB_prefix _ _ hl] at h; cases h

def pl18 : Nat → DPlan
  | 6 => .take 0 (.take 1 (.take 2 (.take 3 (.take 4 (.take 5 (.take 6 (.take 7 (.take 8 (.take 9 (.take 10 (.take 11 (.take 12 (.take 13 (.take 14 (.take 15 .done)))))))))))))))
  | _ => .done
theorem is_spec (full : Bool) (l : List Sp) (hl : l.length ≤ 4294967296) (S : List Res) (Q : Out → List Res → Prop) (h : Q (.ret (.lit (.bool (isB l)))) S) :
    ACall Try.prog 18 [.sl full 4 (l.map Sp.v)] S Q := by
  refine acall_of_awp Try.func18 rfl (by simp [go_sem]) (awp_sound pl18 _ (by kernel_rfl) _ _ ?_)
  simp [go_sem]
  have fin : isB l = false → Done S (V.lit (.bool false)) Q := fun e => by rw [e] at h; exact done (List.Sublist.refl _) h
  refine cGuard_i (fun c1 => ?_) (fun c1 => ?_)
  · simp [go_sem, c1]
    simp at c1
    exact fin (by simp [isB]; omega)
  simp [go_sem, c1]
  refine .refl (all_spec full l hl _ _ ?_)
  simp [go_sem]
  refine cCond_i (fun c2 => ?_) (fun c2 => ?_)
  · simp [go_sem]
    simp at c2
    refine fin ?_
    have : l.all Sp.ok = false := by simpa using c2
    simp [isB, this]
  simp [go_sem]
  have c2' : l.all Sp.ok = true := by simpa using c2
  simp at c1
  refine AWP.loop (ι := Nat) (fun k => k ≤ l.length ∧ ordB (l.take k) = true) (fun k => l.length - k) (fun k => ⟨34, [(0, .sl full 4 (l.map Sp.v)), (13, iV l.length), (14, iV k)], S, []⟩) 0 (by simp [ordB]) (StLe.env (by simp [go_sem, iV])) ?_
  rintro k ⟨hk, hr⟩
  refine awp_sound pl18 _ (by kernel_rfl) _ _ ?_
  simp [go_sem, iV]
  refine cCond_i (fun c3 => ?_) (fun c3 => ?_)
  · simp at c3
    simp [go_sem, iV, pl18]
    have w1 : IntKind.i64.wrap ((k : Int) + 1) = ((k + 1 : Nat) : Int) := by rw [w64 (by omega) (by omega)]; rfl
    refine tG_i (fun c4 => ?_) (fun c4 => ?_)
    · simp at c4
      have w2 : IntKind.i64.wrap ((k : Int) - 1) = ((k - 1 : Nat) : Int) := by rw [w64 (by omega) (by omega)]; omega
      simp [go_sem, iV, pl18, w2, c4, Sp.v]
      refine ⟨c3, fun a ha => ⟨by omega, fun a2 ha2 => ?_⟩⟩
      have e2 := take_two (k := k - 1) ha2 (by rw [show k - 1 + 1 = k by omega]; exact ha)
      rw [show k - 1 + 2 = k + 1 by omega] at e2
      have e1 := take_snoc ha2
      rw [show k - 1 + 1 = k by omega] at e1
      have e3 := ordB_snoc (l.take (k - 1)) a2 a
      rw [← e1, hr, ← e2] at e3
      refine cCond_i (fun c5 => ?_) (fun c5 => ?_)
      · simp [go_sem]
        simp at c5
        refine fin ?_
        have : ordB l = false := ordB_take_false (k := k + 1) (by rw [e3]; simp; omega)
        simp [isB, this]
      · simp [go_sem, iV]
        simp at c5
        refine round (k + 1) ⟨by omega, by rw [e3]; simp; omega⟩ (by omega) (StLe.env ?_)
        rw [w1]
        simp [go_sem, iV, Sp.v]
    · simp at c4
      subst c4
      simp [go_sem, iV, pl18]
      refine round 1 ⟨by omega, ?_⟩ (by omega) (StLe.env ?_)
      · cases l with
        | nil => rfl
        | cons a l => rfl
      · rw [w64 (by omega) (by omega)]
        simp [go_sem, iV]
  · simp at c3
    simp [go_sem, iV]
    rw [List.take_of_length_le c3] at hr
    have : isB l = true := by simp only [isB, hr, c2', Bool.and_true]; simp; omega
    rw [this] at h
    exact done (List.Sublist.refl _) h
end Go.Proofs.Ytmlcfgojoglelaa
