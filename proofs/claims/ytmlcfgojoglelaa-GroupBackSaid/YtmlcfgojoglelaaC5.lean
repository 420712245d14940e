import Derived.Test.YtmlcfgojoglelaaC4
set_option maxRecDepth 100000
set_option linter.unusedSimpArgs false
set_option linter.unusedVariables false
namespace Go.Proofs.Ytmlcfgojoglelaa
open Go Go.AW Go.Proofs

def idxOf (p : Sp → Bool) : List Sp → Nat → Int
  | [], _ => -1
  | x :: xs, k => if p x then k else idxOf p xs (k + 1)

/-- A predicate, called. -/
def PredAt (g : Nat) (captured : List V) (p : Sp → Bool) (S : List Res) : Prop := ∀ (x : Sp) (Q : Out → List Res → Prop), Q (.ret (.lit (.bool (p x)))) S → ACall Try.prog g ([x.v] ++ captured) S Q

theorem index_spec (full : Bool) (l : List Sp) (f : V) (g : Nat) (captured : List V) (p : Sp → Bool) (hl : l.length ≤ 4294967296) (S : List Res) (hf : calleeOf f = some (g, [], captured)) (hz : fz S f = f) (hg : goesB Try.prog g = true) (hp : PredAt g captured p S)
    (Q : Out → List Res → Prop) (h : Q (.ret (iV (idxOf p l 0))) S) :
    ACall Try.prog 50 [.sl full 4 (l.map Sp.v), f] S Q := by
  refine acall_of_awp Try.func50 rfl (by simp [go_sem]) (awp_sound pl0 _ (by kernel_rfl) _ _ ?_)
  simp [go_sem]
  refine AWP.loop (ι := Nat) (fun k => k ≤ l.length ∧ idxOf p l 0 = idxOf p (l.drop k) k) (fun k => l.length - k) (fun k => ⟨19, [(0, .sl full 4 (l.map Sp.v)), (1, f), (7, iV l.length), (8, iV k)], S, []⟩) 0 (by simp) (StLe.env (by simp [go_sem, iV])) ?_
  rintro k ⟨hk, hr⟩
  refine awp_sound pl0 _ (by kernel_rfl) _ _ ?_
  simp [go_sem, iV]
  refine cCond_i (fun c1 => ?_) (fun c1 => ?_)
  · simp at c1
    simp [go_sem, iV, hf, hg, Sp.v]
    refine ⟨c1, fun a ha => .refl (hp a _ ?_)⟩
    have hd : l.drop k = a :: l.drop (k + 1) := by rw [List.drop_eq_getElem_cons c1, (List.getElem?_eq_some_iff.1 ha).2]
    rw [hd] at hr
    simp [go_sem]
    refine cCond_i (fun c2 => ?_) (fun c2 => ?_)
    · simp [go_sem]
      simp only [idxOf, c2, if_true] at hr
      rw [hr] at h
      exact done (List.Sublist.refl _) h
    · simp [go_sem]
      simp only [idxOf, c2, Bool.false_eq_true, if_false] at hr
      refine round (k + 1) ⟨by omega, hr⟩ (by omega) (StLe.env ?_)
      rw [w64 (by omega) (by omega)]
      simp [go_sem, iV, Sp.v]
  · simp at c1
    simp [go_sem, iV]
    rw [List.drop_eq_nil_of_le c1] at hr
    simp [idxOf] at hr
    rw [hr] at h
    exact done (List.Sublist.refl _) h
end Go.Proofs.Ytmlcfgojoglelaa
