/- Short, front, grouped. -/
import Derived.Test.YtmlcfgojoglelaaC19
set_option maxRecDepth 100000
set_option linter.unusedSimpArgs false
set_option linter.unusedVariables false
set_option pp.maxSteps 3000
set_option pp.deepTerms false
namespace Go.Proofs.Ytmlcfgojoglelaa
open Go Go.AW Go.Proofs

def plrShort : Nat → DPlan 
  | 5 => .take 0 (.take 1 (.take 2 (.take 3 (.take 4 (.take 5 (.take 6 (.take 7 (.take 8 (.take 9 (.take 10 (one 11 .done)))))))))))
  | _ => .done
theorem short_spec (full : Bool) (l : List Sp) (hl : l.length ≤ 9223372036854775807) (S : List Res) (Q : Out → List Res → Prop) (h : ∀ b : Bool, (b = true → l.length ≤ 60) → Q (.ret (.lit (.bool b))) S) :
    ACall Try.prog 5 [.sl full 4 (l.map Sp.v)] S Q := by
  refine acall_of_awp Try.func5 rfl (by simp [go_sem]) (awp_sound plrShort _ (by kernel_rfl) _ _ ?_)
  simp [go_sem, iV]
  refine AWP.loop (ι := Nat × Int) (fun i => i.1 ≤ l.length) (fun i => l.length - i.1) (fun i => ⟨50, [(0, .sl full 4 (l.map Sp.v)), (3, iV i.2), (4, iV i.1)], S, []⟩) (0, 0) (by simp) (StLe.env (by simp [go_sem, iV])) ?_
  rintro ⟨k, al⟩ hk
  simp only at hk
  refine awp_sound plrShort _ (by kernel_rfl) _ _ ?_
  simp [go_sem, iV]
  have out : ∀ al : Int, l.length ≤ 60 → Done S (V.lit (.bool (decide (al ≤ 4000)))) Q := fun al hl => done (List.Sublist.refl _) (h _ fun _ => hl)
  refine cGuard_i (fun c1 => ?_) (fun c1 => ?_)
  · simp [go_sem, iV, c1]
    simp at c1
    refine cCond_i (fun c2 => ?_) (fun c2 => ?_)
    · simp at c2
      simp [go_sem, iV, plrShort, one, Sp.v]
      refine ⟨c1, fun x hx => ⟨c1, fun y hy => ?_⟩⟩
      have wk : IntKind.i64.wrap ((k : Int) + 1) = ((k + 1 : Nat) : Int) := by rw [w64 (by omega) (by omega)]; rfl
      generalize IntKind.i64.wrap (x.to - y.fr) = d
      (repeat' (first | (refine cGuard_i (fun hc => ?_) (fun hc => ?_) <;> simp [go_sem, iV, hc]) | (refine cCond_i (fun hc => ?_) (fun hc => ?_) <;> simp [go_sem, iV, hc]) | (refine cPick_i (fun hc => ?_) (fun hc => ?_) <;> simp [go_sem, iV, hc])))
      all_goals first
        | exact done (List.Sublist.refl _) (h false (by simp))
        | (refine round (k + 1, al) (by simp only; omega) (by simp only; omega) (StLe.env ?_)
           rw [wk]
           simp [go_sem, iV]
           done)
        | (refine round (k + 1, IntKind.i64.wrap (al + d)) (by simp only; omega) (by simp only; omega) (StLe.env ?_)
           rw [wk]
           simp [go_sem, iV]
           done)
    · simp at c2
      simp [go_sem, iV]
      rw [show decide ((l.length : Int) ≤ 60) = false by simp; omega]
      simp [go_sem, iV]
      exact done (List.Sublist.refl _) (h false (by simp))
  · simp [go_sem, iV, c1]
    simp at c1
    refine cGuard_i (fun c2 => ?_) (fun c2 => ?_)
    · simp [go_sem, iV, c2]
      simp at c2
      exact out _ (by omega)
    · simp [go_sem, iV, c2]
      exact done (List.Sublist.refl _) (h false (by simp))

theorem front_spec (l : List UInt8) (n : Nat) (hl : l.length ≤ 9223372036854775807) (hn : n ≤ 9223372036854775807) (S : List Res) (Q : Out → List Res → Prop) (h : Q (.ret (sV (bstr (if l.length < n then l else l.take n)))) S) :
    ACall Try.prog 27 [sV (bstr l), iV n] S Q := by
  refine acall_of_awp Try.func27 rfl (by simp [go_sem]) (awp_sound pl0 _ (by kernel_rfl) _ _ ?_)
  simp [go_sem, iV, sV]
  rw [show decide ((n : Int) < 0) = false by simp]
  simp [go_sem, iV, sV, bstr_size]
  refine cCond_i (fun c1 => ?_) (fun c1 => ?_)
  · simp at c1
    simp [go_sem]
    rw [if_pos c1] at h
    exact done (List.Sublist.refl _) h
  · simp at c1
    simp [go_sem, bstr_size]
    rw [if_neg (by omega)] at h
    refine ⟨c1, ?_⟩
    have : (bstr l).extract 0 n = bstr (l.take n) := by
      apply ByteArray.ext
      apply Array.ext'
      rw [extract_list]; simp [bstr]
    rw [this]
    exact done (List.Sublist.refl _) h

theorem grouped_spec (S : List Res) (Q : Out → List Res → Prop) (h : Q (.ret (.lit (.bool true))) S) : ACall Try.prog 12 [] S Q := by
  refine acall_of_awp Try.func12 rfl (by simp [go_sem]) (awp_sound pl0 _ (by kernel_rfl) _ _ ?_)
  simp [go_sem, iV]
  refine .refl (groupPut_spec true sp2 13 (by simp [sp2]) _ _ ?_)
  rw [closed13.1]
  simp [go_sem, iV, sV]
  refine .refl (groupGet_spec (bstr t13) (by rw [bstr_size, closed13.2]; omega) _ _ ?_)
  rw [closedG13]
  simp [go_sem, iV, sV]
  refine .refl (groupPut_spec true sp2 12 (by simp [sp2]) _ _ ?_)
  rw [closed12.1]
  simp [go_sem, iV, sV]
  refine .refl (groupGet_spec (bstr t12) (by rw [bstr_size, closed12.2]; omega) _ _ ?_)
  rw [closedG12]
  simp [go_sem, iV, sV]
  refine .refl (groupPut_spec true sp2 4 (by simp [sp2]) _ _ ?_)
  have h4 : groupPutV sp2 4 = ([], 1) := by simp only [groupPutV]; rw [if_pos (by decide)]
  rw [h4]
  simp [go_sem, iV, sV]
  refine .refl (front_spec t13 20 (by rw [closed13.2]; omega) (by omega) _ _ ?_)
  rw [if_neg (by rw [closed13.2]; omega)]
  simp [go_sem, iV, sV]
  refine .refl (groupGet_spec (bstr (t13.take 20)) (by rw [bstr_size]; simp; omega) _ _ ?_)
  rw [closedF]
  simp [go_sem, iV, sV, closed13.2, closed12.2]
  refine .refl (refSame_spec true false sp2 sp2 (by simp [sp2]) (by simp [sp2]) _ _ fun v hv => ?_)
  obtain rfl : v = true := by rw [hv]; decide
  simp [go_sem, iV, sV, bstr_size, closed13.2, closed12.2]
  refine .refl (refSame_spec false true [⟨70000, 70000, 9, 1⟩, ⟨70001, 70001, 9, 1⟩] [⟨70000, 70000, 9, 1⟩, ⟨70001, 70001, 9, 1⟩] (by simp) (by simp) _ _ fun v hv => ?_)
  obtain rfl : v = true := by rw [hv]; decide
  simp [go_sem, iV, sV]
  exact done (List.Sublist.refl _) h

theorem refGroupGetV_le (s : ByteArray) : (refGroupGetV s).1.length ≤ 65536 := by
  simp only [refGroupGetV]
  have hnb := longV_bound s 12
  repeat' split
  all_goals first
    | (simp; done)
    | (simp; omega)

theorem groupDoes_spec (full : Bool) (s : ByteArray) (l : List Sp) (step format : Int) (hs : s.size ≤ 9223372036854775807) (hl : l.length ≤ 9223372036854775807) (S : List Res) (Q : Out → List Res → Prop) (h : Q (.ret (.lit (.bool true))) S) :
    ACall Try.prog 3 [sV s, .sl full 4 (l.map Sp.v), iV step, iV format] S Q := by
  refine acall_of_awp Try.func3 rfl (by simp [go_sem]) (awp_sound pl0 _ (by kernel_rfl) _ _ ?_)
  simp [go_sem, iV, sV]
  refine cGuard_i (fun c1 => ?_) (fun c1 => ?_)
  · simp [go_sem, iV, c1]
    exact done (List.Sublist.refl _) h
  simp [go_sem, iV, c1]
  refine .refl (short_spec full l hl _ _ fun b hb => ?_)
  simp [go_sem]
  refine cCond_i (fun c2 => ?_) (fun c2 => ?_)
  · simp [go_sem]
    exact done (List.Sublist.refl _) h
  simp [go_sem]
  have hl6 : l.length ≤ 60 := hb (by simpa using c2)
  refine ⟨by omega, fun a cap => ?_⟩
  refine .refl (groupGet_spec s hs _ _ ?_)
  rw [groupGet_eq]
  have hgl := refGroupGetV_le s
  simp [go_sem, iV, sV]
  refine .refl (refGroupGet_spec s hs _ _ ?_)
  generalize refGroupGetV s = r1 at *
  obtain ⟨g1, e1⟩ := r1
  simp only at hgl
  simp [go_sem, iV, sV]
  refine .refl (split_spec full l step (by omega) _ _ ?_)
  have hsl := @splitV_le l step
  simp [go_sem, iV, sV]
  refine .refl (refSplit_spec false l step (by omega) _ _ ?_)
  generalize splitV l step = r2 at *
  obtain ⟨g2, e2⟩ := r2
  simp only at hsl
  simp [go_sem, iV, sV]
  refine .refl (groupPut_spec full l format (by omega) _ _ ?_)
  rw [groupPut_eq]
  simp [go_sem, iV, sV]
  refine .refl (refGroupPut_spec false l format (by omega) _ _ ?_)
  generalize refGroupPutV l format = r3 at *
  obtain ⟨g3, e3⟩ := r3
  simp [go_sem, iV, sV, bstr]
  refine .refl (grouped_spec _ _ ?_)
  simp [go_sem, iV, sV]
  refine .refl (refSame_spec false false g1 g1 (by omega) (by omega) _ _ fun v hv => ?_)
  obtain rfl : v = true := by rw [hv]; simp [sameB]
  simp [go_sem, iV, sV]
  refine .refl (refSame_spec false false g2 g2 (by omega) (by omega) _ _ fun v hv => ?_)
  obtain rfl : v = true := by rw [hv]; simp [sameB]
  simp [go_sem, iV, sV]
  refine .refl (refSame_spec full false l l (by omega) (by omega) _ _ fun v hv => ?_)
  obtain rfl : v = true := by rw [hv]; simp [sameB]
  simp [go_sem, iV, sV]
  exact done (by (repeat (first | exact List.Sublist.refl _ | refine List.Sublist.cons_cons _ ?_ | refine List.Sublist.append (List.Sublist.refl _) ?_ | refine List.Sublist.cons _ ?_))) h
end Go.Proofs.Ytmlcfgojoglelaa
