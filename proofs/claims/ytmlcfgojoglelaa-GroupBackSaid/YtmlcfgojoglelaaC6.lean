import Derived.Test.YtmlcfgojoglelaaC5
set_option maxRecDepth 100000
set_option linter.unusedSimpArgs false
set_option linter.unusedVariables false
namespace Go.Proofs.Ytmlcfgojoglelaa
open Go Go.AW Go.Proofs

theorem idxOf_any (p : Sp → Bool) : ∀ (l : List Sp) (k : Nat), decide (0 ≤ idxOf p l k) = l.any p
  | [], k => by simp [idxOf]
  | x :: xs, k => by
    have ih := idxOf_any p xs (k + 1)
    by_cases hp : p x = true
    · have e : idxOf p (x :: xs) k = k := by simp [idxOf, hp]
      rw [e]; simp [hp]
    · have e : idxOf p (x :: xs) k = idxOf p xs (k + 1) := by simp [idxOf, hp]
      rw [e, ih]; simp [hp]

theorem contains_spec (full : Bool) (l : List Sp) (f : V) (g : Nat) (captured : List V) (p : Sp → Bool) (hl : l.length ≤ 4294967296) (S : List Res) (hf : calleeOf f = some (g, [], captured)) (hz : fz S f = f) (hg : goesB Try.prog g = true) (hp : PredAt g captured p S)
    (Q : Out → List Res → Prop) (h : Q (.ret (.lit (.bool (l.any p)))) S) :
    ACall Try.prog 47 [.sl full 4 (l.map Sp.v), f] S Q := by
  refine acall_of_awp Try.func47 rfl (by simp [go_sem]) (awp_sound pl0 _ (by kernel_rfl) _ _ ?_)
  simp [go_sem, hz]
  refine .refl (index_spec full l f g captured p hl S hf hz hg hp _ ?_)
  simp [go_sem, iV]
  rw [idxOf_any]
  exact done (List.Sublist.refl _) h

theorem all1_pred (b : Nat) (S : List Res) (hS : findObj S b = some [.lit (.func (.func 35) #[] #[])]) : PredAt 48 [.lit (.pointer (some ⟨b, 0, none⟩))] (fun x => !x.ok) S := fun x Q h => by
  refine acall_of_awp Try.func48 rfl (by simp [go_sem]) (awp_sound pl0 _ (by kernel_rfl) _ _ ?_)
  simp [go_sem, Sp.v, iV]
  intro b2 hb2
  have hne : b2 ≠ b := fun e => hb2 (e ▸ findObj_blks hS)
  simp [go_sem, hne, hS]
  refine .refl (spright_spec x _ _ ?_)
  simp [go_sem]
  exact done (List.sublist_cons_self _ _) h

theorem all_spec (full : Bool) (l : List Sp) (hl : l.length ≤ 4294967296) (S : List Res) (Q : Out → List Res → Prop) (h : Q (.ret (.lit (.bool (l.all Sp.ok)))) S) :
    ACall Try.prog 34 [.sl full 4 (l.map Sp.v), .lit (.func (.func 35) #[] #[])] S Q := by
  refine acall_of_awp Try.func34 rfl (by simp [go_sem]) (awp_sound pl0 _ (by kernel_rfl) _ _ ?_)
  simp [go_sem]
  intro b hb
  refine .refl (contains_spec full l _ 48 _ (fun x => !x.ok) hl _ rfl rfl (by kernel_rfl) (all1_pred b _ (by simp [findObj])) _ ?_)
  simp [go_sem]
  have e : ∀ l : List Sp, (!l.any fun x => !x.ok) = l.all Sp.ok := fun l => by
    induction l with
    | nil => rfl
    | cons x l ih => rw [List.any_cons, List.all_cons, ← ih]; cases x.ok <;> simp
  first
    | (rw [e]; exact done (List.sublist_cons_self _ _) h)
    | exact done (List.sublist_cons_self _ _) (by simpa using h)
end Go.Proofs.Ytmlcfgojoglelaa
