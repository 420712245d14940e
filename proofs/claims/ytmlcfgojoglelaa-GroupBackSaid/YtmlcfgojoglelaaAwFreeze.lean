/- The engine AW, part 17: own blocks that are laid among those that never change; iterators. -/
import Derived.Test.YtmlcfgojoglelaaAwSimp
set_option linter.unusedVariables false
set_option linter.unusedSimpArgs false
namespace Go.AW

/-- What a function ends with, said otherwise. -/
def OLe (o : Out) (S : List Res) (Q : Out → List Res → Prop) : Prop :=
  ∀ G w e, Inv G w S → ERel G o e → ∃ G' S' o', Evol S G w S' G' w ∧ Inv G' w S' ∧ ERel G' o' e ∧ Q o' S'

theorem OLe.refl {o : Out} {S : List Res} {Q : Out → List Res → Prop} (h : Q o S) : OLe o S Q := fun G w e hi he => ⟨G, S, o, .refl _ _ _, hi, he, h⟩

theorem ACall.post {P : Program} {f : FuncId} {args : List V} {S : List Res} {Q : Out → List Res → Prop} (h : ACall P f args S (fun o S' => OLe o S' Q)) : ACall P f args S Q := fun G w xs hv hi =>
  (h G w xs hv hi).mono fun e w' ⟨G', S', o, he, hi', her, hq⟩ =>
    let ⟨G'', S'', o', he', hi'', her', hq'⟩ := hq G' w' e hi' her
    ⟨G'', S'', o', he.trans he', hi'', her', hq'⟩

theorem freeze1 {G : Im} {w : World} {A B : List Res} {b : Nat} {cs : List V} {tt : Option TypeId} (h : Inv G w (A ++ .objT b cs tt :: B)) :
    ∃ G', Evol (A ++ .objT b cs tt :: B) G w (A ++ B) G' w ∧ Inv G' w (A ++ B) ∧ VRel G' (.pe cs) (.pointer (some ⟨b, 0, none⟩)) := by
  obtain ⟨us, T, h1, h2, h3, _⟩ := h.res (.objT b cs tt) (by simp)
  have hle : Im.le G (G.add b us) := fun x o u hg => by
    have : x ≠ b := fun e => by subst e; rw [h3] at hg; cases hg
    simp [Im.add, this, hg]
  have hbl : b ∈ blks (A ++ .objT b cs tt :: B) := mem_blks.2 ⟨.objT b cs tt, by simp, rfl⟩
  have hsub : (A ++ B).Sublist (A ++ .objT b cs tt :: B) := List.Sublist.append (List.Sublist.refl A) (List.sublist_cons_self _ _)
  have hnb : b ∉ blks (A ++ B) := by
    have hnd := h.nd
    rw [blks_mid] at hnd
    simp only [Res.blk, Option.toList_some] at hnd
    intro hm
    have : blks (A ++ B) = blks A ++ blks B := by simp [blks]
    rw [this] at hm
    rcases List.mem_append.1 hm with hm | hm
    · exact (List.nodup_append.1 hnd).2.2 b hm b (by simp) rfl
    · have := (List.nodup_append.1 hnd).2.1; simp at this; exact this.1 hm
  refine ⟨G.add b us, ⟨Nat.le_refl _, rfl, rfl, rfl, hle, fun _ _ _ => rfl, fun x _ hx o => ?_, fun x hx => .inl ((hsub.filterMap _).subset hx)⟩, ⟨fun x o u hg => ?_, fun r hr => ?_, h.nd.sublist (hsub.filterMap _)⟩, ?_⟩
  · have : x ≠ b := fun e => hx (e ▸ hbl)
    simp [Im.add, this]
  · simp only [Im.add] at hg
    split at hg
    · rename_i e; subst e; simp only [World.cell?, h1]; exact hg
    · exact h.im x o u hg
  · refine Res.holds_of (h.res r (hsub.subset hr)) hle fun x hx => ⟨rfl, fun o => ?_⟩
    have : x ≠ b := fun e => hnb (e ▸ mem_blks.2 ⟨r, hr, hx⟩)
    simp [Im.add, this]
  · refine .pe b 0 (fun i => us.toList.getD i undef) (fun i hi => ?_) (fun i c hc => ?_)
    · have hi' : i < us.toList.length := by rw [← h2.1]; exact hi
      simp only [Im.add, if_true, Nat.zero_add]
      rw [List.getD_eq_getElem?_getD, List.getElem?_eq_getElem hi']
      simp at hi' ⊢
    · have hi' : i < us.toList.length := by rw [← h2.1]; exact (List.getElem?_eq_some_iff.1 hc).1
      rw [List.getD_eq_getElem?_getD, List.getElem?_eq_getElem hi']
      exact (h2.2 i c _ hc (List.getElem?_eq_getElem hi')).mono hle

/-- A closure of two own variables, that nobody writes any more. -/
theorem OLe.close2 {fn : Fn} {b1 b2 : Nat} {c1 c2 : List V} {t1 t2 : Option TypeId} {S : List Res} {Q : Out → List Res → Prop} (h : Q (.ret (.func fn [] [.pe c1, .pe c2])) S) :
    OLe (.ret (.lit (.func fn #[] #[.pointer (some ⟨b1, 0, none⟩), .pointer (some ⟨b2, 0, none⟩)]))) (.objT b2 c2 t2 :: .objT b1 c1 t1 :: S) Q := fun G w e hi he => by
  obtain ⟨G1, he1, hi1, hv2⟩ := freeze1 (A := []) hi
  obtain ⟨G2, he2, hi2, hv1⟩ := freeze1 (A := []) hi1
  cases he with
  | ret hv =>
    have := hv.lit_inv; subst this
    refine ⟨G2, S, _, he1.trans he2, hi2, .ret ?_, h⟩
    exact .func' (f' := []) (c' := [_, _]) .nil (.cons hv1 (.cons (hv2.mono he2.im) .nil))
theorem OLe.close1 {fn : Fn} {b1 : Nat} {c1 : List V} {t1 : Option TypeId} {S : List Res} {Q : Out → List Res → Prop} (h : Q (.ret (.func fn [] [.pe c1])) S) :
    OLe (.ret (.lit (.func fn #[] #[.pointer (some ⟨b1, 0, none⟩)]))) (.objT b1 c1 t1 :: S) Q := fun G w e hi he => by
  obtain ⟨G1, he1, hi1, hv1⟩ := freeze1 (A := []) hi
  cases he with
  | ret hv =>
    have := hv.lit_inv; subst this
    exact ⟨G1, S, _, he1, hi1, .ret (.func' (f' := []) (c' := [_]) .nil (.cons hv1 .nil)), h⟩

/-- An iterator's rounds, one behind the other, until one hands back false. -/
def AIter (P : Program) (l : Nat) : List (List V) → List Res → (List Res → Prop) → Prop
  | [], S, Q => Q S
  | x :: xs, S, Q => ARound P l x S fun b S' => if b = true then AIter P l xs S' Q else Q S'

end Go.AW
