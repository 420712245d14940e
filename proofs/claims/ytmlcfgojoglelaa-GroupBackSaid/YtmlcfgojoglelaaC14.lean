/- group.Put. -/
import Derived.Test.YtmlcfgojoglelaaC13
set_option maxRecDepth 100000
set_option linter.unusedSimpArgs false
set_option linter.unusedVariables false
set_option pp.maxSteps 3000
set_option pp.deepTerms false
namespace Go.Proofs.Ytmlcfgojoglelaa
open Go Go.AW Go.Proofs

theorem SLe.builder (A B : List Res) (b : Nat) (ad : Option Addr) (T : Option TypeId) : SLe (A ++ .objT b [.lit (.pointer ad), .lit (.slice none 0 0)] T :: B) (.vec (kB b) none 0 1 [] :: (A ++ .objT b [.lit (.pointer ad), .vs (kB b) none 0 0] T :: B)) :=
  SLe.trans (SLe.obj (fun G us h => by
    obtain ⟨x, xs, rfl, h1, h2⟩ := h.cons_inv
    exact .cons h1 (VRels.nil_vs _ h2))) (SLe.vecNil _ (kB b) 1)

theorem putV_le (sizes values : List Int) : (putV sizes values).1.length ≤ 4 * sizes.length := by
  simp only [putV]
  split
  · simp
  · rename_i h
    have h1 : rightB sizes = true := by cases hr : rightB sizes <;> simp_all
    have hok : ∀ n ∈ sizes, okSize n = true := List.all_eq_true.1 h1
    split
    · exact putAll_le sizes values fun n hn => by have := hok n hn; simp [okSize] at this; omega
    · simp
theorem splitV_le {l : List Sp} {st : Int} : (splitV l st).1.length ≤ 65536 := by
  simp only [splitV]
  split
  · simp
  · split
    · simp
    · simp only; omega

def put3 (x : Sp) : List UInt8 × Int := putV [4, 4, 4] [x.fr, x.to, x.gl]
def maxE (e f : Int) : Int := if f > e then f else e
def errs (e : Int) (x : List Sp) : Int := x.foldl (fun e s => maxE e (put3 s).2) e
def groupPutV (l : List Sp) (format : Int) : List UInt8 × Int :=
  if format ≠ 12 ∧ format ≠ 13 then ([], 1) else
  let x := splitV l (13 - format)
  if x.2 ≠ 0 then ([], x.2) else
  let h := putV [2, 2, 4, 4, 4] [format, 0, 16 + 12 * x.1.length, 0, x.1.length]
  let e := errs h.2 x.1
  if e ≠ 0 then ([], e) else (h.1 ++ x.1.flatMap fun s => (put3 s).1, 0)

theorem groupPut_spec (full : Bool) (l : List Sp) (format : Int) (hl : l.length ≤ 4294967296) (S : List Res) (Q : Out → List Res → Prop)
    (h : Q (.ret (.tuple [sV ⟨(groupPutV l format).1.toArray⟩, iV (groupPutV l format).2])) S) :
    ACall Try.prog 10 [.sl full 4 (l.map Sp.v), iV format] S Q := by
  refine acall_of_awp Try.func10 rfl (by simp [go_sem]) (awp_sound pl0 _ (by kernel_rfl) _ _ ?_)
  simp [go_sem, iV]
  have fin : ∀ (e : Int) (S' : List Res), S.Sublist S' → groupPutV l format = ([], e) → Done S' (.tuple [.lit (.string ⟨#[]⟩), .lit (.int .i64 e)]) Q := fun e S' hs hg => by
    rw [hg] at h; exact done hs h
  by_cases hfmt : format ≠ 12 ∧ format ≠ 13
  · have e1 : (format != 12) = true := by simp [hfmt.1]
    have e2 : (format != 13) = true := by simp [hfmt.2]
    rw [e1]
    simp [go_sem, iV, e2]
    exact fin 1 _ (List.Sublist.refl _) (by simp only [groupPutV]; rw [if_pos hfmt])
  have hf0 : format = 12 ∨ format = 13 := by omega
  cases e1 : (format != 12) <;> cases e2 : (format != 13) <;> first | (exfalso; simp at e1 e2; omega) | skip
  all_goals
    simp [go_sem, iV, e2]
    rw [w64 (x := 13 - format) (by omega) (by omega)]
    refine .refl (split_spec full l (13 - format) hl _ _ ?_)
    have hgv : groupPutV l format = if (splitV l (13 - format)).2 ≠ 0 then ([], (splitV l (13 - format)).2) else
        if errs (putV [2, 2, 4, 4, 4] [format, 0, 16 + 12 * (splitV l (13 - format)).1.length, 0, (splitV l (13 - format)).1.length]).2 (splitV l (13 - format)).1 ≠ 0 then ([], errs (putV [2, 2, 4, 4, 4] [format, 0, 16 + 12 * (splitV l (13 - format)).1.length, 0, (splitV l (13 - format)).1.length]).2 (splitV l (13 - format)).1) else
        ((putV [2, 2, 4, 4, 4] [format, 0, 16 + 12 * (splitV l (13 - format)).1.length, 0, (splitV l (13 - format)).1.length]).1 ++ (splitV l (13 - format)).1.flatMap fun s => (put3 s).1, 0) := by
      simp only [groupPutV]; rw [if_neg hfmt]
    have hxl := @splitV_le l (13 - format)
    generalize splitV l (13 - format) = sv at *
    obtain ⟨x, e⟩ := sv
    simp only at hgv hxl
    simp [go_sem, iV]
    refine cCond_i (fun c1 => ?_) (fun c1 => ?_)
    · simp [go_sem, iV]
      simp at c1
      exact fin e _ (List.Sublist.refl _) (by rw [hgv, if_pos c1])
    simp at c1
    subst c1
    rw [if_neg (by simp)] at hgv
    simp [go_sem, iV]
    intro b hb
    rw [w64 (x := 12 * (x.length : Int)) (by omega) (by omega), w64 (x := 16 + 12 * (x.length : Int)) (by omega) (by omega)]
    refine .refl (put_spec true true [2, 2, 4, 4, 4] [format, 0, 16 + 12 * x.length, 0, x.length] (by simp) (by simp) _ _ ?_)
    have hhl := putV_le [2, 2, 4, 4, 4] [format, 0, 16 + 12 * x.length, 0, x.length]
    generalize putV [2, 2, 4, 4, 4] [format, 0, 16 + 12 * x.length, 0, x.length] = hd at *
    obtain ⟨hb0, he⟩ := hd
    simp only at hgv hhl
    simp at hhl
    simp [go_sem, iV, sV]
    refine .refl (ACall.pre (SLe.builder [] S b none (some 51)) (writeString_spec b none (.inl rfl) none 0 [] ⟨hb0.toArray⟩ (by simp [ByteArray.size]; omega) _ (by simp [go_sem]) (by simp [go_sem]) (by simp [go_sem]) _ fun a0 cap0 => ?_))
    simp [go_sem, iV, sV, ByteArray.size]
    refine AWP.loop (ι := Nat × List UInt8 × Int × Option Addr × Nat) (fun i => i.1 ≤ x.length ∧ i.2.1 = hb0 ++ ((x.take i.1).flatMap fun s => (put3 s).1) ∧ i.2.2.1 = errs he (x.take i.1)) (fun i => x.length - i.1)
      (fun i => ⟨72, [(6, iV i.2.2.1), (7, .lit (.pointer (some ⟨b, 0, none⟩))), (44, .sl false 4 (x.map Sp.v)), (45, iV x.length), (46, iV i.1)],
        .vec (kB b) i.2.2.2.1 i.2.2.2.2 1 (i.2.1.map u8V) :: .objT b [.lit (.pointer (some ⟨b, 0, none⟩)), .vs (kB b) i.2.2.2.1 i.2.1.length i.2.2.2.2] (some 51) :: S, []⟩)
      (0, hb0, he, a0, cap0) ⟨by simp, by simp, by simp [errs]⟩ (StLe.env (by simp [go_sem, iV])) ?_
    rintro ⟨k, bs, ec, a, cap⟩ ⟨hk, hbs, hec⟩
    simp only at hk hbs hec
    have hcl : ∀ m, ((x.take m).flatMap fun s => (put3 s).1).length ≤ 12 * m := by
      intro m
      have : ∀ y : List Sp, (y.flatMap fun s => (put3 s).1).length ≤ 12 * y.length := by
        intro y
        induction y with
        | nil => simp
        | cons s y ih =>
          have := putV_le [4, 4, 4] [s.fr, s.to, s.gl]
          simp only [List.flatMap_cons, List.length_append, List.length_cons, put3] at ih this ⊢
          simp at this; omega
      have h1 := this (x.take m)
      simp at h1 ⊢; omega
    refine awp_sound pl0 _ (by kernel_rfl) _ _ ?_
    simp [go_sem, iV]
    refine cCond_i (fun c2 => ?_) (fun c2 => ?_)
    · simp at c2
      simp [go_sem, iV, Sp.v]
      refine ⟨c2, fun s hsx b2 hb2 => ?_⟩
      have n2 : b2 ≠ b := fun e => by simp [Fresh, blks_cons, Res.blk, e] at hb2
      refine .refl (put_spec true true [4, 4, 4] [s.fr, s.to, s.gl] (by simp) (by simp) _ _ ?_)
      have hp3 : putV [4, 4, 4] [s.fr, s.to, s.gl] = put3 s := rfl
      have hpl := putV_le [4, 4, 4] [s.fr, s.to, s.gl]
      rw [hp3] at hpl ⊢
      simp at hpl
      have htk := take_snoc hsx
      simp [go_sem, iV, sV]
      have hbl : bs.length ≤ 4000000 := by rw [hbs, List.length_append]; have := hcl k; omega
      refine .refl (writeString_spec b (some ⟨b, 0, none⟩) (.inr rfl) a cap bs ⟨(put3 s).1.toArray⟩ (by simp [ByteArray.size]; omega) _ (by simp [go_sem, n2]) (by simp [go_sem, n2]) (by simp [go_sem]) _ fun a' cap' => ?_)
      simp [go_sem, iV, sV, ByteArray.size, n2]
      refine round (k + 1, bs ++ (put3 s).1, maxE ec (put3 s).2, a', cap') ⟨by simp only; omega, by simp only; rw [htk, hbs]; simp, by simp only; rw [htk, hec]; simp [errs]⟩ (by simp only; omega) ?_
      rw [w64 (x := (k : Int) + 1) (by omega) (by omega)]
      refine (StLe.drop (List.sublist_cons_self _ _)).trans ?_
      simp only [List.map_append, List.length_append]
      exact StLe.env (by simp [go_sem, iV, maxE])
    · simp at c2
      have ex : x.take k = x := List.take_of_length_le c2
      rw [ex] at hbs hec
      rw [← hec] at hgv
      have hbl : bs.length ≤ 4000000 := by rw [hbs, ← ex, List.length_append]; have := hcl k; omega
      rw [← hbs] at hgv
      simp [go_sem, iV]
      refine cCond_i (fun c3 => ?_) (fun c3 => ?_)
      · simp [go_sem, iV]
        simp at c3
        exact fin ec _ (by (repeat (first | exact List.Sublist.refl _ | refine List.Sublist.cons_cons _ ?_ | refine List.Sublist.append (List.Sublist.refl _) ?_ | refine List.Sublist.cons _ ?_))) (by rw [hgv, if_pos c3])
      · simp [go_sem, iV]
        simp at c3
        subst c3
        rw [if_neg (by simp)] at hgv
        refine .refl (string_spec b (some ⟨b, 0, none⟩) a cap bs (by omega) _ (by simp [go_sem]) (by simp [go_sem]) _ ?_)
        rw [hgv] at h
        simp [go_sem, iV, sV]
        exact done (by (repeat (first | exact List.Sublist.refl _ | refine List.Sublist.cons_cons _ ?_ | refine List.Sublist.append (List.Sublist.refl _) ?_ | refine List.Sublist.cons _ ?_))) h
end Go.Proofs.Ytmlcfgojoglelaa
