import Derived.Test.YtmlcfgojoglelaaC3
set_option maxRecDepth 100000
set_option linter.unusedSimpArgs false
set_option linter.unusedVariables false
namespace Go.Proofs.Ytmlcfgojoglelaa
open Go Go.AW Go.Proofs
structure Sp where
  fr : Int
  to : Int
  gl : Int
  st : Int
deriving DecidableEq
def Sp.v (x : Sp) : V := .agg [iV x.fr, iV x.to, iV x.gl, iV x.st]
def Sp.ok (x : Sp) : Bool := decide (0 ≤ x.fr ∧ x.fr ≤ x.to ∧ x.to ≤ 1114111 ∧ (x.st = 0 ∨ x.st = 1) ∧ 0 ≤ x.gl ∧ x.gl ≤ 65535 ∧ x.gl + x.st * (x.to - x.fr) ≤ 65535)
theorem spright_spec (x : Sp) (S : List Res) (Q : Out → List Res → Prop) (h : Q (.ret (.lit (.bool x.ok))) S) : ACall Try.prog 35 [x.v] S Q := by
  refine acall_of_awp Try.func35 rfl (by simp [go_sem]) (awp_sound pl0 _ (by kernel_rfl) _ _ ?_)
  simp [go_sem, iV, Sp.v]
  intro b hb
  have F : ∀ (v : Bool) (S' : List Res), S.Sublist S' → x.ok = v → Done S' (.lit (.bool v)) Q := fun v S' hs e => by subst e; exact done hs h
  have sub1 : ∀ a : Res, S.Sublist (a :: S) := fun a => List.sublist_cons_self _ _
  refine cGuard_i (fun c1 => ?_) (fun c1 => ?_)
  rotate_left
  · simp [go_sem, iV, c1]
    simp at c1
    exact F _ _ (sub1 _) (by simp [Sp.ok]; omega)
  simp [go_sem, iV, c1]
  refine cGuard_i (fun c2 => ?_) (fun c2 => ?_)
  rotate_left
  · simp [go_sem, iV, c2]
    simp at c2
    exact F _ _ (sub1 _) (by simp [Sp.ok]; omega)
  simp [go_sem, iV, c2]
  refine cGuard_i (fun c3 => ?_) (fun c3 => ?_)
  rotate_left
  · simp [go_sem, iV, c3]
    simp at c3
    exact F _ _ (sub1 _) (by simp [Sp.ok]; omega)
  simp [go_sem, iV, c3]
  refine cGuard_i (fun c4 => ?_) (fun c4 => ?_)
  · simp [go_sem, iV, c4]
    refine cGuard_i (fun c5 => ?_) (fun c5 => ?_)
    rotate_left
    · simp [go_sem, iV, c5]
      simp at c5
      exact F _ _ (sub1 _) (by simp [Sp.ok]; omega)
    simp [go_sem, iV, c5]
    refine cGuard_i (fun c6 => ?_) (fun c6 => ?_)
    rotate_left
    · simp [go_sem, iV, c6]
      simp at c6
      exact F _ _ (sub1 _) (by simp [Sp.ok]; omega)
    simp [go_sem, iV, c6]
    refine .refl (glyph_spec _ _ _ _ _ _ _ ?_)
    simp [go_sem]
    simp at c1 c2 c3 c4 c5 c6
    exact F _ _ (sub1 _) (by
      rw [c4]
      rw [w64 (x := x.to - x.fr) (by omega) (by omega), w64 (x := _ * _) (by omega) (by omega), w64 (by omega) (by omega)]
      simp [Sp.ok, c1, c2, c3, c5, c6, c4])
  · simp [go_sem, iV, c4]
    refine cGuard_i (fun c7 => ?_) (fun c7 => ?_)
    rotate_left
    · simp [go_sem, iV, c7]
      simp at c4 c7
      exact F _ _ (sub1 _) (by simp [Sp.ok]; omega)
    simp [go_sem, iV, c7]
    refine cGuard_i (fun c5 => ?_) (fun c5 => ?_)
    rotate_left
    · simp [go_sem, iV, c5]
      simp at c5
      exact F _ _ (sub1 _) (by simp [Sp.ok]; omega)
    simp [go_sem, iV, c5]
    refine cGuard_i (fun c6 => ?_) (fun c6 => ?_)
    rotate_left
    · simp [go_sem, iV, c6]
      simp at c6
      exact F _ _ (sub1 _) (by simp [Sp.ok]; omega)
    simp [go_sem, iV, c6]
    refine .refl (glyph_spec _ _ _ _ _ _ _ ?_)
    simp [go_sem]
    simp at c1 c2 c3 c4 c7 c5 c6
    exact F _ _ (sub1 _) (by
      rw [c7]
      rw [w64 (x := x.to - x.fr) (by omega) (by omega), w64 (x := _ * _) (by omega) (by omega), w64 (by omega) (by omega)]
      simp [Sp.ok, c1, c2, c3, c5, c6, c7])
end Go.Proofs.Ytmlcfgojoglelaa
