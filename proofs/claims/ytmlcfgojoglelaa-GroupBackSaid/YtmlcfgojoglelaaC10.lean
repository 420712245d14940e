/- group.parts and its iterator. -/
import Derived.Test.YtmlcfgojoglelaaC9
import Derived.Test.YtmlcfgojoglelaaAwIter
set_option maxRecDepth 100000
set_option linter.unusedSimpArgs false
set_option linter.unusedVariables false
set_option pp.maxSteps 3000
set_option pp.deepTerms false
namespace Go.Proofs.Ytmlcfgojoglelaa
open Go Go.AW Go.Proofs

def partsF (x : Sp) (step : Int) (i : Nat) : Option Sp := if 0 < x.gl + x.st * i then some ⟨x.fr + i, x.fr + i, x.gl + x.st * i, step⟩ else none
/-- Is a span handed on whole? -/
def wholeB (x : Sp) (step : Int) : Bool := (x.st == step) || (x.fr == x.to)
def anyB (x : Sp) : Bool := decide (0 < x.gl) || (x.st == 1 && decide (x.fr < x.to))
def partsL (x : Sp) (step : Int) : List Sp :=
  if wholeB x step then (if anyB x then [⟨x.fr, x.to, x.gl, step⟩] else [])
  else (List.range (x.to - x.fr + 1).toNat).filterMap (partsF x step)
def cellsSp (x : Sp) : List V := [iV x.fr, iV x.to, iV x.gl, iV x.st]

theorem parts_spec (x : Sp) (step : Int) (S : List Res) (Q : Out → List Res → Prop)
    (h : ∀ b2 b3, Fresh b2 S → Fresh b3 S → b3 ≠ b2 → Q (.ret (.lit (.func (.func 38) #[] #[.pointer (some ⟨b2, 0, none⟩), .pointer (some ⟨b3, 0, none⟩)]))) (.obj b3 [iV step] :: .obj b2 (cellsSp x) :: S)) :
    ACall Try.prog 22 [x.v, iV step] S Q := by
  refine acall_of_awp Try.func22 rfl (by simp [go_sem]) (awp_sound pl0 _ (by kernel_rfl) _ _ ?_)
  simp [go_sem, iV, Sp.v]
  intro b2 hb2 b3 hb3
  have h1 : b3 ≠ b2 ∧ Fresh b3 S := by simp [Fresh, blks, Res.blk] at hb3 ⊢; exact hb3
  exact done (List.Sublist.refl _) (h b2 b3 hb2 h1.2 h1.1)

theorem parts1_spec (y b2 b3 : Nat) (hne : b3 ≠ b2) (x : Sp) (hx : x.ok = true) (step : Int) (S : List Res) (hS2 : findObj S b2 = some (cellsSp x)) (hS3 : findObj S b3 = some [iV step]) (Q : Out → List Res → Prop)
    (h1 : wholeB x step = true → anyB x = true → ARound Try.prog y [Sp.v ⟨x.fr, x.to, x.gl, step⟩] (AW.setObj S b2 (cellsSp ⟨x.fr, x.to, x.gl, step⟩)) fun b S' => Q (.ret (.tuple [])) S')
    (h2 : wholeB x step = true → anyB x = false → Q (.ret (.tuple [])) S)
    (h3 : wholeB x step = false → AIterJ Try.prog y (fun S' => findObj S' b2 = some (cellsSp x) ∧ findObj S' b3 = some [iV step]) (((List.range (x.to - x.fr + 1).toNat).filterMap (partsF x step)).map fun z => [z.v]) S fun S' => Q (.ret (.tuple [])) S') :
    ACall Try.prog 38 [.lit (.func (.yield y) #[] #[]), .lit (.pointer (some ⟨b2, 0, none⟩)), .lit (.pointer (some ⟨b3, 0, none⟩))] S Q := by
  simp [Sp.ok] at hx
  refine acall_of_awp Try.func38 rfl (by simp [go_sem]) (awp_sound pl0 _ (by kernel_rfl) _ _ ?_)
  simp [go_sem, iV, hS2, hS3, cellsSp]
  have sub1 : ∀ a : Res, S.Sublist (a :: S) := fun a => List.sublist_cons_self _ _
  have fin : ∀ S', (h : Q (.ret (.tuple [])) S') → Done S' (.tuple []) Q := fun S' h => done (List.Sublist.refl _) h
  by_cases hd : wholeB x step = true
  · have h1 := h1 hd
    have h2 := h2 hd
    clear h3
    have hSe : ∀ cs, findObj (AW.setObj S b2 cs) b2 = some cs := fun cs => findObj_setObj_eq S hS2
    simp only [wholeB] at hd
    cases e1 : (x.st == step) <;> cases e2 : (x.fr == x.to) <;> simp [e1, e2] at hd
    all_goals
      simp [go_sem, iV, hS2, hS3, cellsSp, e2]
      refine cGuard_i (fun c3 => ?_) (fun c3 => ?_)
      · simp [go_sem, iV, c3, hS2, hS3, hSe, cellsSp]
        refine AOp.yield rfl (by simp [go_sem]) rfl ?_
        simp [go_sem, iV]
        exact (h1 (by simp [anyB, c3])).mono fun b S' h => fin _ h
      · simp [go_sem, iV, c3, hS2, hS3, hSe, cellsSp]
        refine cGuard_i (fun c4 => ?_) (fun c4 => ?_)
        · simp [go_sem, iV, c4, hS2, hS3, hSe, cellsSp]
          refine cCond_i (fun c5 => ?_) (fun c5 => ?_)
          · simp [go_sem, iV, hS2, hS3, hSe, cellsSp]
            refine AOp.yield rfl (by simp [go_sem]) rfl ?_
            simp [go_sem, iV]
            exact (h1 (by simp [anyB, c3, c4, c5])).mono fun b S' h => fin _ h
          · simp [go_sem, iV]
            exact fin _ (h2 (by simp [anyB, c3, c4, c5]))
        · simp [go_sem, iV, c4, hS2, hS3, hSe, cellsSp]
          exact fin _ (h2 (by simp [anyB, c3, c4]))
  · have hd' : wholeB x step = false := by simpa using hd
    have h3 := h3 hd'
    simp only [wholeB, Bool.or_eq_false_iff] at hd'
    obtain ⟨e1, e2⟩ := hd'
    simp [go_sem, iV, hS2, hS3, cellsSp, e1, e2]
    have hn : IntKind.i64.wrap (IntKind.i64.wrap (x.to - x.fr) + 1) = (((x.to - x.fr + 1).toNat : Nat) : Int) := by
      rw [w64 (x := x.to - x.fr) (by omega) (by omega), w64 (by omega) (by omega)]; omega
    rw [hn]
    generalize hN : (x.to - x.fr + 1).toNat = N at *
    refine AWP.loop (ι := Nat × List Res) (fun i => i.1 ≤ N ∧ findObj i.2 b2 = some (cellsSp x) ∧ findObj i.2 b3 = some [iV step] ∧ AIterJ Try.prog y (fun S' => findObj S' b2 = some (cellsSp x) ∧ findObj S' b3 = some [iV step]) (((List.range' i.1 (N - i.1)).filterMap (partsF x step)).map fun z => [z.v]) i.2 fun S' => Q (.ret (.tuple [])) S')
      (fun i => N - i.1) (fun i => ⟨73, [(0, .lit (.func (.yield y) #[] #[])), (1, .lit (.pointer (some ⟨b2, 0, none⟩))), (2, .lit (.pointer (some ⟨b3, 0, none⟩))), (42, iV N), (43, iV i.1)], i.2, []⟩) (0, S)
      ⟨by omega, hS2, hS3, by rw [List.range_eq_range'] at h3; exact h3⟩ (StLe.env (by simp [go_sem, iV])) ?_
    rintro ⟨k, T⟩ ⟨hk, hT2, hT3, hit⟩
    simp only at hk hT2 hT3 hit
    refine awp_sound pl0 _ (by kernel_rfl) _ _ ?_
    simp [go_sem, iV]
    refine cCond_i (fun c1 => ?_) (fun c1 => ?_)
    · simp at c1
      have hr : List.range' k (N - k) = k :: List.range' (k + 1) (N - (k + 1)) := by
        rw [show N - k = (N - (k + 1)) + 1 by omega, List.range'_succ]
      simp [go_sem, iV, hT2, hT3, cellsSp]
      intro b hb
      have hxb : 0 ≤ x.st * (k : Int) ∧ x.st * (k : Int) ≤ k := by rcases hx.2.2.2.1 with e | e <;> rw [e] <;> omega
      rw [w64 (x := x.fr + (k : Int)) (by omega) (by omega), w64 (x := x.st * (k : Int)) (by omega) (by omega), w64 (x := x.gl + x.st * (k : Int)) (by omega) (by omega)]
      have wk : IntKind.i64.wrap ((k : Int) + 1) = ((k + 1 : Nat) : Int) := by rw [w64 (by omega) (by omega)]; rfl
      rw [hr, List.filterMap_cons] at hit
      refine cGuard_i (fun c2 => ?_) (fun c2 => ?_)
      · simp [go_sem, iV, c2]
        simp at c2
        have hz : partsF x step k = some ⟨x.fr + k, x.fr + k, x.gl + x.st * k, step⟩ := by simp only [partsF]; rw [if_pos c2]
        rw [hz] at hit
        simp only [List.map_cons, AIterJ] at hit
        refine AOp.le (StLe.drop (S' := T) (List.sublist_cons_self _ _)) ?_
        refine AOp.yield rfl (by simp [go_sem]) rfl ?_
        simp [go_sem, iV]
        refine hit.mono fun b S' hbS => ?_
        obtain ⟨⟨hJ2, hJ3⟩, hbS⟩ := hbS
        refine cCond_i (fun c3 => ?_) (fun c3 => ?_)
        · simp [go_sem]
          have : b = false := by simpa using c3
          subst this
          exact fin _ (by simpa using hbS)
        · simp [go_sem, iV]
          have : b = true := by simpa using c3
          subst this
          rw [if_pos rfl] at hbS
          refine round (k + 1, S') ⟨by simp only; omega, hJ2, hJ3, hbS⟩ (by simp only; omega) (StLe.env ?_)
          rw [wk]
          simp [go_sem, iV]
      · simp [go_sem, iV, c2]
        simp at c2
        have hz : partsF x step k = none := by simp only [partsF]; rw [if_neg (by omega)]
        rw [hz] at hit
        refine round (k + 1, T) ⟨by simp only; omega, hT2, hT3, hit⟩ (by simp only; omega) ?_
        rw [wk]
        refine (StLe.drop (S' := T) (List.sublist_cons_self _ _)).trans (StLe.env ?_)
        simp [go_sem, iV]
    · simp at c1
      simp [go_sem, iV]
      have : k = N := by omega
      subst this
      simp [AIterJ] at hit
      exact fin _ hit
end Go.Proofs.Ytmlcfgojoglelaa
