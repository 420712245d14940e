/- The row GroupBack: for every input the law returns true; no condition. -/
import Derived.Test.YtmlcfgojoglelaaC24
import Derived.Test.YtmlcfgojoglelaaC22
set_option maxRecDepth 100000
set_option linter.unusedSimpArgs false
set_option linter.unusedVariables false
set_option pp.maxSteps 3000
set_option pp.deepTerms false
namespace Go.Proofs.Ytmlcfgojoglelaa
open Go Go.AW Go.Proofs
open Go.ChangeShapes Go.WideShapes Go.ChangeAt Go.RowKit Go.Deep Go.ChangeMaps

theorem put_err {l : List Sp} {f : Int} (h : (groupPutV l f).2 ≠ 0) : (groupPutV l f).1 = [] := by
  rw [groupPut_eq] at h ⊢
  unfold refGroupPutV at h ⊢
  split
  · rfl
  · rename_i h1
    rw [if_neg h1] at h
    simp only at h ⊢
    split
    · rfl
    · rename_i h2
      rw [if_neg h2] at h; exact absurd rfl h
theorem put_len {l : List Sp} {f : Int} : (groupPutV l f).1.length ≤ 1000000 := by
  rw [groupPut_eq]
  have hle := @splitV_le l (13 - f)
  unfold refGroupPutV
  split
  · simp
  · simp only
    split
    · simp
    · simp only [List.length_append, bytesOf_length, flat_len, List.length_cons, List.length_nil]; omega

theorem groupBack_spec (full : Bool) (l : List Sp) (format c : Int) (hl : l.length ≤ 9223372036854775807) (S : List Res) (Q : Out → List Res → Prop) (h : Q (.ret (.lit (.bool true))) S) :
    ACall Try.prog 4 [.sl full 4 (l.map Sp.v), iV format, iV c] S Q := by
  refine acall_of_awp Try.func4 rfl (by simp [go_sem]) (awp_sound pl0 _ (by kernel_rfl) _ _ ?_)
  simp [go_sem, iV, sV]
  refine .refl (short_spec full l hl _ _ fun b hb => ?_)
  simp [go_sem]
  refine cCond_i (fun c2 => ?_) (fun c2 => ?_)
  · simp [go_sem]
    exact done (List.Sublist.refl _) h
  simp [go_sem]
  have hl6 : l.length ≤ 60 := hb (by simpa using c2)
  refine .refl (groupPut_spec full l format (by omega) _ _ ?_)
  have he := @put_err l format
  have hn := @put_len l format
  have hg := @get_put l format
  generalize groupPutV l format = r at *
  obtain ⟨bs, e⟩ := r
  simp only at he hn hg
  simp [go_sem, iV, sV]
  refine cCond_i (fun c3 => ?_) (fun c3 => ?_)
  · simp [go_sem]
    simp at c3
    have := he c3
    subst this
    refine .refl (grouped_spec _ _ ?_)
    simp [go_sem, iV, sV]
    exact done (List.Sublist.refl _) h
  · simp [go_sem]
    simp at c3
    subst c3
    refine ⟨by omega, ?_⟩
    have ea : (⟨bs.toArray⟩ : ByteArray) ++ ⟨#[109, 111, 114, 101]⟩ = bstr (bs ++ [109, 111, 114, 101]) := bstr_append bs [109, 111, 114, 101]
    rw [ea]
    obtain ⟨hgv, hs0⟩ := hg rfl [109, 111, 114, 101]
    refine .refl (groupGet_spec _ (by rw [bstr_size, List.length_append]; simp; omega) _ _ ?_)
    rw [hgv]
    have hr := split_right hs0
    have hk := split_look hs0 c
    have hsl := @splitV_le l (13 - format)
    have hf : format = 12 ∨ format = 13 := by
      have h0 := hs0
      unfold splitV at h0
      split at h0
      · cases h0
      · omega
    have hw : IntKind.i64.wrap (13 - format) = 13 - format := w64 (by omega) (by omega)
    simp [go_sem, iV, sV, hw]
    refine .refl (split_spec full l (13 - format) (by omega) _ _ ?_)
    generalize splitV l (13 - format) = r2 at *
    obtain ⟨x, e2⟩ := r2
    simp only at hr hk hsl hs0
    subst hs0
    simp [go_sem, iV, sV]
    refine .refl (grouped_spec _ _ ?_)
    simp [go_sem, iV, sV]
    refine .refl (refSame_spec false false x x (by omega) (by omega) _ _ fun v hv => ?_)
    obtain rfl : v = true := by rw [hv]; simp [sameB]
    simp [go_sem, iV, sV]
    refine .refl (Look_spec false x c (by omega) _ _ ?_)
    rw [if_pos hr.2.1, hk]
    simp [go_sem, iV, sV]
    refine .refl (Look_spec full l c (by omega) _ _ ?_)
    rw [if_pos hr.1]
    simp [go_sem, iV, sV]
    exact done (by (repeat (first | exact List.Sublist.refl _ | refine List.Sublist.cons_cons _ ?_ | refine List.Sublist.append (List.Sublist.refl _) ?_ | refine List.Sublist.cons _ ?_))) h

set_option maxRecDepth 100000 in
theorem gb_lifted (os : Os) (started : os.Started) (H : Type) (enc : TypeId × Value → H) :
    ReturnsInHanded {} Try.checked os 4 .any (Rows.groupBackSpec.pre6 enc Try.prog Try.f4 Rows.groupBackRow.domain false) (Rows.groupBackSpec.post enc Try.prog Try.f4 false true false false) := by
  refine returnsInHanded_of_change (C := Try.checked) Try.own started (by kernel_rfl) Try.func4
    (ChangeSpec.witness6 (enc := enc) (C := Try.checked) false ⟨#[], #[.slice none 0 0, .int .i64 0, .int .i64 0], []⟩ 8 (by kernel_rfl) (by kernel_rfl) (by kernel_rfl) (by kernel_rfl)) ?_
  intro W base args ds gs before hval0 hW hcnd _
  have hval : ∀ (j : Nat) t v, Try.f4.params[j]? = some t → args[j]? = some v → Value.okWide Try.prog W .any base t v := hval0
  have hW' := hW
  obtain ⟨p, q, hA0, hV, rfl, hfz, hnd⟩ := hW
  have hA : DataW.TrodAll enc Try.prog W 0 (fun _ => true) true Try.f4.params.toList args.toList ds p := hA0
  rw [Try.params4] at hA hval
  obtain ⟨v1, v2, v3, d1, d2, d3, p1, p2, p3, rfl, rfl, rfl, h1, h2, h3⟩ := trodAll_three hA
  obtain ⟨rfl, rfl⟩ := trodVars_none hV
  obtain ⟨l, hl, wl⟩ := open_sps (hval 0 _ v1 rfl rfl) h1
  obtain ⟨c, rfl, rfl, rfl, wc⟩ := open_int Try.underlying3 (hval 1 _ v2 rfl rfl) h2
  obtain ⟨d, rfl, rfl, rfl, wd⟩ := open_int Try.underlying3 (hval 2 _ v3 rfl rfl) h3
  clear hA0 hval0
  refine (calls_of_acall (.cons hl (.cons (.lit _) (.cons (.lit _) .nil))) fun Q h => groupBack_spec false l c d wl [] Q h).mono fun e W' ⟨he, hw⟩ => ?_
  subst he
  exact ⟨_, rfl, law_post (tb := 4) rfl rfl Try.underlying4 rfl hW' Try.laidOut (by kernel_rfl) hw⟩

theorem groupBack_holds : Rows.GroupBackSaid :=
  OpenClaim.holds_of_wide 4 Try.f4 rfl rfl rfl rfl rfl rfl rfl ⟨rfl, rfl, rfl, rfl, rfl⟩ rfl rfl rfl rfl rfl (by kernel_rfl) Try.func4 (by kernel_rfl)
    (of_decide_eq_true (by kernel_rfl)) (by unfold Func.isWrapper; first | (rw [if_pos (by decide +kernel)]; kernel_rfl) | (rw [if_neg (by decide +kernel)]; exact ⟨rfl, rfl⟩))
    (fun os started H enc _ => gb_lifted os started H enc)
end Go.Proofs.Ytmlcfgojoglelaa
