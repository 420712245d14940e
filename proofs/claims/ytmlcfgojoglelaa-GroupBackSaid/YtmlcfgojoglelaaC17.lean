/- The references of layer 10: Split. -/
import Derived.Test.YtmlcfgojoglelaaC16
set_option maxRecDepth 100000
set_option linter.unusedSimpArgs false
set_option linter.unusedVariables false
set_option pp.maxSteps 3000
set_option pp.deepTerms false
namespace Go.Proofs.Ytmlcfgojoglelaa
open Go Go.AW Go.Proofs

theorem splitAll_snoc {l : List Sp} {k : Nat} {x : Sp} (step : Int) (h : l[k]? = some x) : splitAll (l.take (k + 1)) step = splitAll (l.take k) step ++ partsL x step := by
  rw [take_snoc h]; simp [splitAll]
theorem splitAll_le (l : List Sp) (k : Nat) (step : Int) : (splitAll (l.take k) step).length ≤ (splitAll l step).length := by
  conv => rhs; rw [← List.take_append_drop k l]
  simp only [splitAll, List.flatMap_append, List.length_append]; omega

theorem refSplit_spec (full : Bool) (l : List Sp) (step : Int) (hl : l.length ≤ 4294967296) (S : List Res) (Q : Out → List Res → Prop)
    (h : Q (.ret (.tuple [.sl false 4 ((splitV l step).1.map Sp.v), iV (splitV l step).2])) S) :
    ACall Try.prog 9 [.sl full 4 (l.map Sp.v), iV step] S Q := by
  refine acall_of_awp Try.func9 rfl (by simp [go_sem]) (awp_sound pl0 _ (by kernel_rfl) _ _ ?_)
  simp [go_sem, iV]
  refine .refl (refIs_spec full l hl _ _ ?_)
  simp [go_sem]
  have fin : ∀ (e : Int) (S' : List Res), S.Sublist S' → splitV l step = ([], e) → Done S' (.tuple [.lit (.slice none 0 0), .lit (.int .i64 e)]) Q := fun e S' hs hg => by
    rw [hg] at h; exact doneErr hs h
  refine cGuard_i (fun c1 => ?_) (fun c1 => ?_)
  · simp [go_sem, iV, c1]
    simp at c1
    exact fin 1 _ (List.Sublist.refl _) (by simp [splitV, c1])
  simp [go_sem, iV, c1]
  refine cGuard_i (fun c2 => ?_) (fun c2 => ?_)
  · simp [go_sem, iV, c2]
    simp at c2
    exact fin 1 _ (List.Sublist.refl _) (by simp [splitV, c2])
  simp [go_sem, iV, c2]
  refine cCond_i (fun c3 => ?_) (fun c3 => ?_)
  · simp [go_sem, iV]
    simp at c3
    exact fin 1 _ (List.Sublist.refl _) (by simp [splitV, c3])
  simp [go_sem, iV]
  simp at c1 c2 c3
  have hok : ∀ x ∈ l, x.ok = true := by
    have := c1; simp only [isB, Bool.and_eq_true] at this; exact List.all_eq_true.1 this.1.2
  have hl6 : l.length ≤ 65536 := by have := c1; simp [isB] at this; exact this.1.1
  have hsp : splitV l step = if 65536 < (splitAll l step).length then ([], 7) else (splitAll l step, 0) := by
    simp only [splitV]; rw [if_neg (by simp [c1]; omega)]
  refine AWP.loop (ι := Nat × List Sp × Option Addr × Nat) (fun i => i.1 ≤ l.length ∧ i.2.1 = splitAll (l.take i.1) step ∧ i.2.1.length ≤ 65536 + i.1) (fun i => l.length - i.1)
    (fun i => ⟨99, [(0, .sl full 4 (l.map Sp.v)), (1, iV step), (6, .vs 63 i.2.2.1 i.2.1.length i.2.2.2), (7, iV i.1)], .vec 63 i.2.2.1 i.2.2.2 4 (i.2.1.map Sp.v) :: S, []⟩)
    (0, [], none, 0) ⟨by simp, by simp [splitAll], by simp⟩ ?_ ?_
  · refine StLe.trans (.ofS (SLe.vecNil _ 63 4)) (StLe.env ?_)
    simp [go_sem, iV]
    exact VLe.nilVs _ 63
  rintro ⟨k, acc, a, cap⟩ ⟨hk, hacc, hal⟩
  simp only at hk hacc hal
  have wk : IntKind.i64.wrap ((k : Int) + 1) = ((k + 1 : Nat) : Int) := by rw [w64 (by omega) (by omega)]; rfl
  refine awp_sound pl0 _ (by kernel_rfl) _ _ ?_
  simp [go_sem, iV]
  refine cCond_i (fun c4 => ?_) (fun c4 => ?_)
  · simp at c4
    simp [go_sem, iV, Sp.v]
    refine ⟨c4, fun x hx b8 hb8 => ?_⟩
    have hxo := hok x (List.mem_iff_getElem?.2 ⟨k, hx⟩)
    have hsn := splitAll_snoc step hx
    rw [← hacc] at hsn
    simp [Sp.ok] at hxo
    by_cases hd : wholeB x step = true
    · simp only [partsL, if_pos hd] at hsn
      simp only [wholeB] at hd
      cases e1 : (x.st == step) <;> cases e2 : (x.fr == x.to) <;> simp [e1, e2] at hd
      all_goals
        simp [go_sem, iV, e2]
        refine cGuard_i (fun c5 => ?_) (fun c5 => ?_)
        · simp [go_sem, iV, c5]
          refine ⟨by omega, fun a' cap' => ?_⟩
          rw [if_pos (by simp [anyB, c5])] at hsn
          refine round (k + 1, acc ++ [⟨x.fr, x.to, x.gl, step⟩], a', cap') ⟨by simp only; omega, hsn.symm, by simp; omega⟩ (by simp only; omega) ?_
          rw [wk]
          refine (StLe.drop (List.sublist_cons_self _ _)).trans ?_
          simp only [List.map_append, List.map_cons, List.map_nil, List.length_append, List.length_cons, List.length_nil, Nat.zero_add]
          exact StLe.env (by simp [go_sem, iV])
        · simp [go_sem, iV, c5]
          refine cGuard_i (fun c6 => ?_) (fun c6 => ?_)
          rotate_left
          · simp [go_sem, iV, c6]
            rw [if_neg (by simp [anyB, c5, c6])] at hsn
            simp at hsn
            refine round (k + 1, acc, a, cap) ⟨by simp only; omega, hsn.symm, by simp only; omega⟩ (by simp only; omega) ?_
            rw [wk]
            exact (StLe.drop (List.sublist_cons_self _ _)).trans (StLe.env (by simp [go_sem, iV]))
          simp [go_sem, iV, c6]
          refine cCond_i (fun c7 => ?_) (fun c7 => ?_)
          rotate_left
          · simp [go_sem, iV]
            rw [if_neg (by simp [anyB, c5, c6, c7])] at hsn
            simp at hsn
            refine round (k + 1, acc, a, cap) ⟨by simp only; omega, hsn.symm, by simp only; omega⟩ (by simp only; omega) ?_
            rw [wk]
            exact (StLe.drop (List.sublist_cons_self _ _)).trans (StLe.env (by simp [go_sem, iV]))
          simp [go_sem, iV]
          refine ⟨by omega, fun a' cap' => ?_⟩
          rw [if_pos (by simp [anyB, c5, c6, c7])] at hsn
          refine round (k + 1, acc ++ [⟨x.fr, x.to, x.gl, step⟩], a', cap') ⟨by simp only; omega, hsn.symm, by simp; omega⟩ (by simp only; omega) ?_
          rw [wk]
          refine (StLe.drop (List.sublist_cons_self _ _)).trans ?_
          simp only [List.map_append, List.map_cons, List.map_nil, List.length_append, List.length_cons, List.length_nil, Nat.zero_add]
          exact StLe.env (by simp [go_sem, iV])
    · have hd' : wholeB x step = false := by simpa using hd
      simp only [partsL, hd', Bool.false_eq_true, if_false] at hsn
      simp only [wholeB, Bool.or_eq_false_iff] at hd'
      obtain ⟨e1, e2⟩ := hd'
      rw [e1]
      simp [go_sem, iV, e2]
      generalize hN : (x.to - x.fr + 1).toNat = N at *
      refine AWP.loop (ι := Nat × List Sp × Option Addr × Nat) (fun i => i.1 ≤ N ∧ i.2.1 = acc ++ (List.range i.1).filterMap (partsF x step) ∧ i.2.1.length ≤ 65536 + k) (fun i => N - i.1)
        (fun i => ⟨99, [(0, .sl full 4 (l.map Sp.v)), (1, iV step), (6, .vs 63 i.2.2.1 i.2.1.length i.2.2.2), (7, iV k), (8, .lit (.pointer (some ⟨b8, 0, none⟩))), (9, iV (x.fr + i.1))], .objT b8 [iV x.fr, iV x.to, iV x.gl, iV x.st] none :: .vec 63 i.2.2.1 i.2.2.2 4 (i.2.1.map Sp.v) :: S, []⟩)
        (0, acc, a, cap) ⟨by simp, by simp, hal⟩ (StLe.env (by simp [go_sem, iV])) ?_
      rintro ⟨j, ac, a', cap'⟩ ⟨hj, hac, hacl⟩
      simp only at hj hac hacl
      refine awp_sound pl0 _ (by kernel_rfl) _ _ ?_
      simp [go_sem, iV]
      have hxb : 0 ≤ x.st * (j : Int) ∧ x.st * (j : Int) ≤ j := by rcases hxo.2.2.2.1 with e | e <;> rw [e] <;> omega
      refine cCond_i (fun c5 => ?_) (fun c5 => ?_)
      · simp at c5
        simp [go_sem, iV]
        have hg : IntKind.i64.wrap (x.gl + IntKind.i64.wrap (x.st * IntKind.i64.wrap (x.fr + (j : Int) - x.fr))) = x.gl + x.st * j := by
          rw [show x.fr + (j : Int) - x.fr = j by omega, w64 (x := (j : Int)) (by omega) (by omega), w64 (x := x.st * (j : Int)) (by omega) (by omega), w64 (by omega) (by omega)]
        rw [hg]
        have wj : IntKind.i64.wrap (x.fr + (j : Int) + 1) = x.fr + ((j + 1 : Nat) : Int) := by rw [w64 (by omega) (by omega)]; omega
        have hrs : (List.range (j + 1)).filterMap (partsF x step) = (List.range j).filterMap (partsF x step) ++ (partsF x step j).toList := by
          rw [List.range_succ, List.filterMap_append]; congr 1
        have hbig : 65536 < (acc ++ (List.range (j + 1)).filterMap (partsF x step)).length → 65536 < (splitAll l step).length := fun h => by
          have h1 := splitAll_le l (k + 1) step
          rw [hsn] at h1
          have h2 : ((List.range (j + 1)).filterMap (partsF x step)).length ≤ ((List.range N).filterMap (partsF x step)).length := by
            have e : List.range N = List.range (j + 1) ++ (List.range (N - (j + 1))).map (j + 1 + ·) := by
              rw [← List.range_add]; congr 1; omega
            rw [e, List.filterMap_append, List.length_append]
            omega
          simp at h h1 ⊢; omega
        refine cCond_i (fun c6 => ?_) (fun c6 => ?_)
        · simp at c6
          simp [go_sem, iV]
          have hz : partsF x step j = some ⟨x.fr + j, x.fr + j, x.gl + x.st * j, step⟩ := by simp only [partsF]; rw [if_pos c6]
          rw [hz] at hrs
          simp only [Option.toList_some] at hrs
          refine ⟨by omega, fun a'' cap'' => ?_⟩
          refine cCond_i (fun c7 => ?_) (fun c7 => ?_)
          · simp [go_sem, iV]
            simp at c7
            have hb := hbig (by rw [hrs, ← List.append_assoc, ← hac]; simp; omega)
            exact fin 7 _ (by (repeat (first | exact List.Sublist.refl _ | refine List.Sublist.cons_cons _ ?_ | refine List.Sublist.append (List.Sublist.refl _) ?_ | refine List.Sublist.cons _ ?_))) (by rw [hsp, if_pos hb])
          · simp [go_sem, iV]
            simp at c7
            refine round (j + 1, ac ++ [⟨x.fr + j, x.fr + j, x.gl + x.st * j, step⟩], a'', cap'') ⟨by simp only; omega, by simp only; rw [hrs, ← List.append_assoc, ← hac], by simp; omega⟩ (by simp only; omega) ?_
            rw [wj]
            simp only [List.map_append, List.map_cons, List.map_nil, List.length_append, List.length_cons, List.length_nil, Nat.zero_add]
            exact StLe.env (by simp [go_sem, iV])
        · simp at c6
          simp [go_sem, iV]
          have hz : partsF x step j = none := by simp only [partsF]; rw [if_neg (by omega)]
          rw [hz] at hrs
          simp only [Option.toList_none, List.append_nil] at hrs
          refine cCond_i (fun c7 => ?_) (fun c7 => ?_)
          · simp [go_sem, iV]
            simp at c7
            have hb := hbig (by rw [hrs, ← hac]; omega)
            exact fin 7 _ (by (repeat (first | exact List.Sublist.refl _ | refine List.Sublist.cons_cons _ ?_ | refine List.Sublist.append (List.Sublist.refl _) ?_ | refine List.Sublist.cons _ ?_))) (by rw [hsp, if_pos hb])
          · simp [go_sem, iV]
            simp at c7
            refine round (j + 1, ac, a', cap') ⟨by simp only; omega, by simp only; rw [hrs, ← hac], by simp only; omega⟩ (by simp only; omega) ?_
            rw [wj]
            exact StLe.env (by simp [go_sem, iV])
      · simp at c5
        obtain rfl : j = N := by omega
        simp [go_sem, iV]
        rw [← hac] at hsn
        refine round (k + 1, ac, a', cap') ⟨by simp only; omega, hsn.symm, by simp only; omega⟩ (by simp only; omega) ?_
        rw [wk]
        exact (StLe.drop (List.sublist_cons_self _ _)).trans (StLe.env (by simp [go_sem, iV]))
  · simp at c4
    rw [List.take_of_length_le c4] at hacc
    simp [go_sem, iV]
    refine cCond_i (fun c5 => ?_) (fun c5 => ?_)
    · simp [go_sem, iV]
      simp at c5
      exact fin 7 _ (by (repeat (first | exact List.Sublist.refl _ | refine List.Sublist.cons_cons _ ?_ | refine List.Sublist.append (List.Sublist.refl _) ?_ | refine List.Sublist.cons _ ?_))) (by rw [hsp, ← hacc, if_pos (by omega)])
    · simp [go_sem, iV]
      simp at c5
      rw [hsp, ← hacc, if_neg (by omega)] at h
      exact done (by (repeat (first | exact List.Sublist.refl _ | refine List.Sublist.cons_cons _ ?_ | refine List.Sublist.append (List.Sublist.refl _) ?_ | refine List.Sublist.cons _ ?_))) h
end Go.Proofs.Ytmlcfgojoglelaa
