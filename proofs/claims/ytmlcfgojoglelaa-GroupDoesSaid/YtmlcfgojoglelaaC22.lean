/- The row GroupDoes: for every input the law returns true; no condition. -/
import Derived.Test.YtmlcfgojoglelaaC21
set_option maxRecDepth 100000
set_option linter.unusedSimpArgs false
set_option linter.unusedVariables false
set_option pp.maxSteps 3000
set_option pp.deepTerms false
namespace Go.Proofs.Ytmlcfgojoglelaa
open Go Go.AW Go.Proofs
open Go.ChangeShapes Go.WideShapes Go.ChangeAt Go.RowKit Go.Deep Go.ChangeMaps

section
variable {H : Type} {enc : TypeId × Value → H} {P : Program} {w : World} {base : Nat} {spare : Nat → Bool} {held : Bool}
theorem trod_field {t : TypeId} {fs : Array Field} {fuel : Nat} {cs : List Value} {x : DataW H × List MemPlace} (ht : P.underlying t = some (.struct fs)) (h : DataW.trod enc P w base spare held fuel t cs = some x) :
    cs.length = P.cellsOf t ∧ ∀ (i : Nat) (f : Field), fs[i]? = some f → ∃ n y, DataW.trod enc P w base spare held n f.type ((cs.drop f.offset).take (P.cellsOf f.type)) = some y := by
  obtain ⟨xs, n, rfl, rfl, hl, hn, hf⟩ := DataW.trod_struct ht h
  refine ⟨hl, fun i f hi => ⟨n, xs[i]'(by rw [hn]; exact (Array.getElem?_eq_some_iff.1 hi).1), ?_⟩⟩
  rw [hf i f hi, List.getElem?_eq_getElem]
end
instance : Inhabited Sp := ⟨⟨0, 0, 0, 0⟩⟩

section
variable {H : Type} {enc : TypeId × Value → H} {w : World} {base : Nat} {spare : Nat → Bool} {held : Bool}
theorem sp_rel (n : Nat) (cs : List Value) (y : DataW H × List MemPlace) (h : DataW.trod enc Try.prog w base spare held n 36 cs = some y) : ∃ a : Sp, VRels (G0 w) a.v.cells cs := by
  obtain ⟨hl, hf⟩ := trod_field Try.underlying36 h
  have hl : cs.length = 4 := hl
  obtain ⟨_, _, h0⟩ := hf 0 _ rfl
  obtain ⟨_, _, h1⟩ := hf 1 _ rfl
  obtain ⟨_, _, h2⟩ := hf 2 _ rfl
  obtain ⟨_, _, h3⟩ := hf 3 _ rfl
  match cs, hl with
  | [a, b, c, d], _ =>
    obtain ⟨n0, e0, _⟩ := DataW.trod_int Try.underlying3 h0
    obtain ⟨n1, e1, _⟩ := DataW.trod_int Try.underlying3 h1
    obtain ⟨n2, e2, _⟩ := DataW.trod_int Try.underlying3 h2
    obtain ⟨n3, e3, _⟩ := DataW.trod_int Try.underlying3 h3
    obtain rfl : a = .int .i64 n0 := List.singleton_inj.1 (show [a] = [Value.int .i64 n0] from e0)
    obtain rfl : b = .int .i64 n1 := List.singleton_inj.1 (show [b] = [Value.int .i64 n1] from e1)
    obtain rfl : c = .int .i64 n2 := List.singleton_inj.1 (show [c] = [Value.int .i64 n2] from e2)
    obtain rfl : d = .int .i64 n3 := List.singleton_inj.1 (show [d] = [Value.int .i64 n3] from e3)
    exact ⟨⟨n0, n1, n2, n3⟩, .cons (.lit _) (.cons (.lit _) (.cons (.lit _) (.cons (.lit _) .nil)))⟩
theorem open_sps {v : Value} {d : DataW H} {ps : List MemPlace} {r : Reach} {b0 : Nat} (hval : Value.okWide Try.prog w r b0 22 v) (h : DataW.Trod enc Try.prog w base spare held 22 v d ps) : ∃ l : List Sp, VRel (G0 w) (.sl false 4 (l.map Sp.v)) v ∧ l.length ≤ maxLen := by
  obtain ⟨fuel, hf⟩ := h
  obtain ⟨l, v', hc, hv, hl⟩ := slice_rel Sp.v 4 Try.underlying22 (by kernel_rfl) (by omega) (fun _ => rfl) (fun _ => rfl) sp_rel hf
  refine ⟨l, ?_, hl⟩
  obtain ⟨a, n, c, rfl⟩ := okWide_slice Try.underlying22 hval
  simp [Value.cells] at hc
  subst hc
  exact hv
end

set_option maxRecDepth 100000 in
theorem gd_lifted (os : Os) (started : os.Started) (H : Type) (enc : TypeId × Value → H) :
    ReturnsInHanded {} Try.checked os 3 .any (Rows.groupDoesSpec.pre6 enc Try.prog Try.f3 Rows.groupDoesRow.domain false) (Rows.groupDoesSpec.post enc Try.prog Try.f3 false true false false) := by
  refine returnsInHanded_of_change (C := Try.checked) Try.own started (by kernel_rfl) Try.func3
    (ChangeSpec.witness6 (enc := enc) (C := Try.checked) false ⟨#[], #[.string ⟨#[]⟩, .slice none 0 0, .int .i64 0, .int .i64 0], []⟩ 8 (by kernel_rfl) (by kernel_rfl) (by kernel_rfl) (by kernel_rfl)) ?_
  intro W base args ds gs before hval0 hW hcnd _
  have hval : ∀ (j : Nat) t v, Try.f3.params[j]? = some t → args[j]? = some v → Value.okWide Try.prog W .any base t v := hval0
  have hW' := hW
  obtain ⟨p, q, hA0, hV, rfl, hfz, hnd⟩ := hW
  have hA : DataW.TrodAll enc Try.prog W 0 (fun _ => true) true Try.f3.params.toList args.toList ds p := hA0
  rw [Try.params3] at hA hval
  obtain ⟨v0, v1, v2, v3, d0, d1, d2, d3, p0, p1, p2, p3, rfl, rfl, rfl, h0, h1, h2, h3⟩ := trodAll_four hA
  obtain ⟨rfl, rfl⟩ := trodVars_none hV
  obtain ⟨s, rfl, rfl, rfl, ws⟩ := open_string Try.underlying9 (hval 0 _ v0 rfl rfl) h0
  obtain ⟨l, hl, wl⟩ := open_sps (hval 1 _ v1 rfl rfl) h1
  obtain ⟨c, rfl, rfl, rfl, wc⟩ := open_int Try.underlying3 (hval 2 _ v2 rfl rfl) h2
  obtain ⟨d, rfl, rfl, rfl, wd⟩ := open_int Try.underlying3 (hval 3 _ v3 rfl rfl) h3
  clear hA0 hval0
  refine (calls_of_acall (.cons (.lit _) (.cons hl (.cons (.lit _) (.cons (.lit _) .nil)))) fun Q h => groupDoes_spec false s l c d ws wl [] Q h).mono fun e W' ⟨he, hw⟩ => ?_
  subst he
  exact ⟨_, rfl, law_post (tb := 4) rfl rfl Try.underlying4 rfl hW' Try.laidOut (by kernel_rfl) hw⟩

theorem groupDoes_holds : Rows.GroupDoesSaid :=
  OpenClaim.holds_of_wide 3 Try.f3 rfl rfl rfl rfl rfl rfl rfl ⟨rfl, rfl, rfl, rfl, rfl⟩ rfl rfl rfl rfl rfl (by kernel_rfl) Try.func3 (by kernel_rfl)
    (of_decide_eq_true (by kernel_rfl)) (by unfold Func.isWrapper; first | (rw [if_pos (by decide +kernel)]; kernel_rfl) | (rw [if_neg (by decide +kernel)]; exact ⟨rfl, rfl⟩))
    (fun os started H enc _ => gd_lifted os started H enc)
end Go.Proofs.Ytmlcfgojoglelaa
