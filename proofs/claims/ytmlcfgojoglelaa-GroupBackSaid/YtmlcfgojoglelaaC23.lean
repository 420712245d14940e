/- chart.Look: a rune's glyph, by the binary search. -/
import Derived.Test.YtmlcfgojoglelaaC9
set_option maxRecDepth 100000
set_option linter.unusedSimpArgs false
set_option linter.unusedVariables false
set_option pp.maxSteps 3000
set_option pp.deepTerms false
namespace Go.Proofs.Ytmlcfgojoglelaa
open Go Go.AW Go.Proofs

/-- The comparison. -/
def cmpV (x : Sp) (c : Int) : Int := if x.to < c then -1 else if c < x.fr then 1 else 0
theorem cmp_spec (x : Sp) (c : Int) (S : List Res) (Q : Out → List Res → Prop) (h : Q (.ret (iV (cmpV x c))) S) : ACall Try.prog 43 [x.v, iV c] S Q := by
  refine acall_of_awp Try.func43 rfl (by simp [go_sem]) (awp_sound pl0 _ (by kernel_rfl) _ _ ?_)
  simp [go_sem, iV, Sp.v]
  intro b hb
  refine cCond_i (fun c1 => ?_) (fun c1 => ?_)
  · simp [go_sem, iV]
    simp at c1
    exact done (List.sublist_cons_self _ _) (by simpa [cmpV, c1, iV] using h)
  · simp [go_sem, iV]
    simp at c1
    refine cCond_i (fun c2 => ?_) (fun c2 => ?_)
    · simp [go_sem, iV]
      simp at c2
      rw [cmpV, if_neg (by omega), if_pos (by omega)] at h
      exact done (List.sublist_cons_self _ _) h
    · simp [go_sem, iV]
      simp at c2
      rw [cmpV, if_neg (by omega), if_neg (by omega)] at h
      exact done (List.sublist_cons_self _ _) h

/-- How many spans end ahead of a rune. -/
def cntS (l : List Sp) (c : Int) : Nat := match l with
  | [] => 0
  | x :: l => if x.to < c then cntS l c + 1 else 0
def lookV (l : List Sp) (c : Int) : Int := match l with
  | [] => 0
  | x :: l => if x.to < c then lookV l c else if c < x.fr then 0 else x.gl + x.st * (c - x.fr)
theorem ord_le : ∀ (l : List Sp) (y : Sp), ordB (y :: l) = true → l.all Sp.ok = true → ∀ x ∈ l, y.to < x.fr ∧ x.fr ≤ x.to
  | [], y, _, _, x, hx => by simp at hx
  | z :: l, y, h, ha, x, hx => by
    simp only [ordB, Bool.and_eq_true, decide_eq_true_eq] at h
    simp only [List.all_cons, Bool.and_eq_true] at ha
    have hz := ha.1
    simp only [Sp.ok, decide_eq_true_eq] at hz
    rcases List.mem_cons.1 hx with rfl | hx
    · exact ⟨h.1, by omega⟩
    · have := ord_le l z h.2 ha.2 x hx
      exact ⟨by omega, this.2⟩
theorem cnt_iff : ∀ (l : List Sp) (c : Int), ordB l = true → l.all Sp.ok = true → ∀ (j : Nat) (x : Sp), l[j]? = some x → (x.to < c ↔ j < cntS l c)
  | [], c, _, _, j, x, h => by simp at h
  | y :: l, c, ho, ha, j, x, h => by
    have ha' : l.all Sp.ok = true := by simp only [List.all_cons, Bool.and_eq_true] at ha; exact ha.2
    have ho' : ordB l = true := by
      cases l with
      | nil => rfl
      | cons z l => simp only [ordB, Bool.and_eq_true] at ho; exact ho.2
    simp only [cntS]
    cases j with
    | zero =>
      simp at h; subst h
      split <;> simp_all
    | succ j =>
      simp only [List.getElem?_cons_succ] at h
      have ih := cnt_iff l c ho' ha' j x h
      split
      · rw [ih]; omega
      · have := ord_le l y ho ha' x (List.mem_of_getElem? h)
        simp only [Nat.not_lt_zero, iff_false]; omega
theorem cnt_le : ∀ (l : List Sp) (c : Int), cntS l c ≤ l.length
  | [], c => by simp [cntS]
  | y :: l, c => by have := cnt_le l c; simp only [cntS]; split <;> simp <;> omega
theorem look_cnt : ∀ (l : List Sp) (c : Int), lookV l c = match l[cntS l c]? with | some x => if c < x.fr then 0 else x.gl + x.st * (c - x.fr) | none => 0
  | [], c => by simp [lookV, cntS]
  | y :: l, c => by
    have := look_cnt l c
    simp only [lookV, cntS]
    split
    · simpa using this
    · simp

theorem search_spec (full : Bool) (l : List Sp) (c : Int) (hl : l.length ≤ 4294967296) (ho : ordB l = true) (ha : l.all Sp.ok = true) (S : List Res) (Q : Out → List Res → Prop)
    (h : Q (.ret (.tuple [iV (cntS l c), .lit (.bool (match l[cntS l c]? with | some x => decide (cmpV x c = 0) | none => false))])) S) :
    ACall Try.prog 42 [.sl full 4 (l.map Sp.v), iV c, .lit (.func (.func 43) #[] #[])] S Q := by
  refine acall_of_awp Try.func42 rfl (by simp [go_sem]) (awp_sound pl0 _ (by kernel_rfl) _ _ ?_)
  simp [go_sem, iV]
  have hk := cnt_iff l c ho ha
  have hle := cnt_le l c
  generalize hkk : cntS l c = k at *
  refine AWP.loop (ι := Nat × Nat) (fun p => p.1 ≤ k ∧ k ≤ p.2 ∧ p.2 ≤ l.length) (fun p => p.2 - p.1) (fun p => ⟨49, [(0, .sl full 4 (l.map Sp.v)), (1, iV c), (2, .lit (.func (.func 43) #[] #[])), (8, iV l.length), (9, iV p.1), (10, iV p.2)], S, []⟩) (0, l.length) ⟨by simp, hle, Nat.le_refl _⟩ (StLe.env (by simp [go_sem, iV])) ?_
  rintro ⟨i, j⟩ ⟨h1, h2, h3⟩
  simp only at h1 h2 h3
  refine awp_sound pl0 _ (by kernel_rfl) _ _ ?_
  simp [go_sem, iV]
  refine cCond_i (fun c1 => ?_) (fun c1 => ?_)
  · simp at c1
    simp [go_sem, iV]
    have e1 : IntKind.u64.wrap ((i : Int) + j) = i + j := u64w (by omega) (by omega)
    have e2 : ((i : Int) + j).fdiv 2 = (((i + j) / 2 : Nat) : Int) := by rw [Int.fdiv_eq_ediv_of_nonneg _ (by omega)]; omega
    rw [w64 (x := (i : Int) + j) (by omega) (by omega), e1, e2, w64 (x := (((i + j) / 2 : Nat) : Int)) (by omega) (by omega)]
    have hm1 : i ≤ (i + j) / 2 := by omega
    have hm2 : (i + j) / 2 < j := by omega
    generalize (i + j) / 2 = m at *
    refine ⟨by omega, by omega, fun a ha => ?_⟩
    simp at ha
    have hka := hk m a ha
    simp [go_sem, Sp.v]
    refine .refl (cmp_spec a c _ _ ?_)
    simp [go_sem, iV]
    refine cCond_i (fun c2 => ?_) (fun c2 => ?_)
    · simp at c2
      simp [go_sem, iV]
      have : m < k := hka.1 (by simp only [cmpV] at c2; split at c2 <;> first | assumption | (split at c2 <;> omega))
      rw [w64 (by omega) (by omega)]
      refine round (m + 1, j) ⟨by simp only; omega, h2, h3⟩ (by simp only; omega) (StLe.env ?_)
      simp [go_sem, iV]
    · simp at c2
      simp [go_sem, iV]
      have : ¬ m < k := fun hlt => by have := hka.2 hlt; simp only [cmpV, this, if_true] at c2; omega
      refine round (i, m) ⟨h1, by simp only; omega, by simp only; omega⟩ (by simp only; omega) (StLe.env ?_)
      simp [go_sem, iV]
  · simp at c1
    have : i = k := by omega
    subst this
    simp [go_sem, iV]
    refine cGuard_i (fun c2 => ?_) (fun c2 => ?_)
    · simp [go_sem, iV, c2]
      simp at c2
      refine ⟨c2, fun a ha => ?_⟩
      simp [go_sem, Sp.v]
      refine .refl (cmp_spec a c _ _ ?_)
      simp [go_sem, iV]
      rw [(List.getElem?_eq_some_iff.2 ⟨c2, rfl⟩ : l[i]? = some l[i])] at h
      have hal : l[i] = a := (List.getElem?_eq_some_iff.1 ha).2
      rw [hal] at h
      exact done (List.Sublist.refl _) h
    · simp [go_sem, iV, c2]
      simp at c2
      rw [List.getElem?_eq_none (by omega)] at h
      exact done (List.Sublist.refl _) h

theorem look_spec (full : Bool) (l : List Sp) (c : Int) (hl : l.length ≤ 4294967296) (ho : ordB l = true) (ha : l.all Sp.ok = true) (S : List Res) (Q : Out → List Res → Prop)
    (h : Q (.ret (iV (lookV l c))) S) : ACall Try.prog 28 [.sl full 4 (l.map Sp.v), iV c] S Q := by
  refine acall_of_awp Try.func28 rfl (by simp [go_sem]) (awp_sound pl0 _ (by kernel_rfl) _ _ ?_)
  simp [go_sem, iV]
  refine .refl (search_spec full l c hl ho ha _ _ ?_)
  simp [go_sem, iV]
  have hk := cnt_iff l c ho ha
  rw [look_cnt] at h
  generalize cntS l c = k at *
  cases hx : l[k]? with
  | none =>
    rw [hx] at h
    simp [go_sem, iV]
    exact done (List.Sublist.refl _) h
  | some x =>
    rw [hx] at h
    have hto : ¬ x.to < c := fun hlt => by have := (hk k x hx).1 hlt; omega
    have hok : Sp.ok x = true := List.all_eq_true.1 ha x (List.mem_of_getElem? hx)
    simp only [Sp.ok, decide_eq_true_eq] at hok
    simp only at h
    by_cases hfr : c < x.fr
    · have e : decide (cmpV x c = 0) = false := by simp [cmpV, hto, hfr]
      rw [if_pos hfr] at h
      simp only [e]
      simp [go_sem, iV]
      exact done (List.Sublist.refl _) h
    · have e : decide (cmpV x c = 0) = true := by simp [cmpV, hto, hfr]
      rw [if_neg hfr] at h
      simp only [e]
      simp [go_sem, iV]
      obtain ⟨hlt, hxe⟩ := List.getElem?_eq_some_iff.1 hx
      refine ⟨hlt, fun a ha' => ?_⟩
      have : a = x := by rw [hx] at ha'; exact (Option.some.inj ha').symm
      subst this
      simp [go_sem, Sp.v, iV]
      refine .refl (glyph_spec _ _ _ _ _ _ _ ?_)
      simp [go_sem]
      have hv : 0 ≤ a.st * (c - a.fr) ∧ a.st * (c - a.fr) ≤ 1114111 := by
        rcases hok.2.2.2.1 with e | e <;> rw [e] <;> omega
      rw [w64 (x := c - a.fr) (by omega) (by omega), w64 (x := _ * _) (by omega) (by omega), w64 (by omega) (by omega)]
      exact done (List.Sublist.refl _) h

theorem Look_spec (full : Bool) (l : List Sp) (c : Int) (hl : l.length ≤ 4294967296) (S : List Res) (Q : Out → List Res → Prop)
    (h : Q (.ret (iV (if isB l then lookV l c else 0))) S) : ACall Try.prog 14 [.sl full 4 (l.map Sp.v), iV c] S Q := by
  refine acall_of_awp Try.func14 rfl (by simp [go_sem]) (awp_sound pl0 _ (by kernel_rfl) _ _ ?_)
  simp [go_sem, iV]
  refine .refl (is_spec full l hl _ _ ?_)
  simp [go_sem]
  refine cCond_i (fun c1 => ?_) (fun c1 => ?_)
  · simp at c1
    simp [go_sem, iV]
    rw [c1] at h
    exact done (List.Sublist.refl _) h
  · simp at c1
    simp [go_sem, iV]
    rw [c1] at h
    simp only [isB, Bool.and_eq_true] at c1
    refine .refl (look_spec full l c hl c1.2 c1.1.2 _ _ ?_)
    simp [go_sem]
    exact done (List.Sublist.refl _) h
end Go.Proofs.Ytmlcfgojoglelaa
