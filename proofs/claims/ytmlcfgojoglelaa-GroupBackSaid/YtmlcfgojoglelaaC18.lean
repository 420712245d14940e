/- The references of layer 10: Put. -/
import Derived.Test.YtmlcfgojoglelaaC17
set_option maxRecDepth 100000
set_option linter.unusedSimpArgs false
set_option linter.unusedVariables false
set_option pp.maxSteps 3000
set_option pp.deepTerms false
namespace Go.Proofs.Ytmlcfgojoglelaa
open Go Go.AW Go.Proofs

def Sp.low (z : Sp) : Prop := 0 ≤ z.fr ∧ z.fr ≤ z.to ∧ z.to ≤ 1114111 ∧ 0 ≤ z.gl ∧ z.gl ≤ 65535
theorem partsL_low {x : Sp} (h : x.ok = true) (step : Int) : ∀ z ∈ partsL x step, z.low := by
  simp [Sp.ok] at h
  intro z hz
  simp only [partsL] at hz
  split at hz
  · split at hz
    · simp at hz; subst hz; simp only [Sp.low]; omega
    · cases hz
  · obtain ⟨i, hi, hz⟩ := List.mem_filterMap.1 hz
    simp at hi
    simp only [partsF] at hz
    split at hz
    · have e := Option.some.inj hz; subst e
      have hb : 0 ≤ x.st * (i : Int) ∧ x.st * (i : Int) ≤ x.st * (x.to - x.fr) := by
        rcases h.2.2.2.1 with e | e <;> rw [e] <;> omega
      simp only [Sp.low]; omega
    · cases hz
theorem splitV_low (l : List Sp) (step : Int) : ∀ z ∈ (splitV l step).1, z.low := by
  intro z hz
  simp only [splitV] at hz
  split at hz
  · cases hz
  · rename_i h
    split at hz
    · cases hz
    · simp only [splitAll] at hz
      obtain ⟨x, hx, hz⟩ := List.mem_flatMap.1 hz
      have hb : isB l = true := by cases hb : isB l <;> simp_all
      have : x.ok = true := by
        simp only [isB, Bool.and_eq_true] at hb; exact List.all_eq_true.1 hb.1.2 x hx
      exact partsL_low this step z hz

def rput3 (x : Sp) : List UInt8 := bytesOf x.fr 4 ++ bytesOf x.to 4 ++ bytesOf x.gl 4
def refGroupPutV (l : List Sp) (format : Int) : List UInt8 × Int :=
  if format ≠ 12 ∧ format ≠ 13 then ([], 1) else
  let x := splitV l (13 - format)
  if x.2 ≠ 0 then ([], x.2) else
  (bytesOf format 2 ++ [0, 0] ++ bytesOf (16 + 12 * x.1.length) 4 ++ [0, 0, 0, 0] ++ bytesOf x.1.length 4 ++ x.1.flatMap rput3, 0)

def plr11 : Nat → DPlan 
  | 10 => .take 0 (.take 1 (.take 2 (.take 3 (.take 4 (.take 5 (.take 8 (.take 9 (.take 10 (.take 11 (.take 12 (.take 15 (.take 16 (.take 17 (.take 18 (.take 19 (one 6 (.take 7 (one 13 (.take 14 (one 20 (.take 21 (one 22 .done))))))))))))))))))))))
  | _ => .done
theorem refGroupPut_spec (full : Bool) (l : List Sp) (format : Int) (hl : l.length ≤ 4294967296) (S : List Res) (Q : Out → List Res → Prop)
    (h : Q (.ret (.tuple [sV (bstr (refGroupPutV l format).1), iV (refGroupPutV l format).2])) S) :
    ACall Try.prog 11 [.sl full 4 (l.map Sp.v), iV format] S Q := by
  refine acall_of_awp Try.func11 rfl (by simp [go_sem]) (awp_sound plr11 _ (by kernel_rfl) _ _ ?_)
  simp [go_sem, iV]
  have fin : ∀ (e : Int) (S' : List Res), S.Sublist S' → refGroupPutV l format = ([], e) → Done S' (.tuple [.lit (.string ⟨#[]⟩), .lit (.int .i64 e)]) Q := fun e S' hs hg => by
    rw [hg] at h; exact done hs h
  by_cases hfmt : format ≠ 12 ∧ format ≠ 13
  · have e1 : (format != 12) = true := by simp [hfmt.1]
    have e2 : (format != 13) = true := by simp [hfmt.2]
    rw [e1]
    simp [go_sem, iV, e2]
    exact fin 1 _ (List.Sublist.refl _) (by simp only [refGroupPutV]; rw [if_pos hfmt])
  have hf0 : format = 12 ∨ format = 13 := by omega
  cases e1 : (format != 12) <;> cases e2 : (format != 13) <;> first | (exfalso; simp at e1 e2; omega) | skip
  all_goals
    simp [go_sem, iV, e2]
    rw [w64 (x := 13 - format) (by omega) (by omega)]
    refine .refl (refSplit_spec full l (13 - format) hl _ _ ?_)
    have hgv : refGroupPutV l format = if (splitV l (13 - format)).2 ≠ 0 then ([], (splitV l (13 - format)).2) else
        (bytesOf format 2 ++ [0, 0] ++ bytesOf (16 + 12 * (splitV l (13 - format)).1.length) 4 ++ [0, 0, 0, 0] ++ bytesOf (splitV l (13 - format)).1.length 4 ++ (splitV l (13 - format)).1.flatMap rput3, 0) := by
      simp only [refGroupPutV]; rw [if_neg hfmt]
    have hxl := @splitV_le l (13 - format)
    have hlow := splitV_low l (13 - format)
    generalize splitV l (13 - format) = sv at *
    obtain ⟨x, e⟩ := sv
    simp only at hgv hxl hlow
    simp [go_sem, iV]
    refine cCond_i (fun c1 => ?_) (fun c1 => ?_)
    · simp [go_sem, iV]
      simp at c1
      exact fin e _ (List.Sublist.refl _) (by rw [hgv, if_pos c1])
    simp at c1
    subst c1
    rw [if_neg (by simp)] at hgv
    simp [go_sem, iV]
    refine .refl (refBytes_spec format 2 (by omega) (by omega) (by omega) _ _ ?_)
    have hz2 : (⟨#[0, 0]⟩ : ByteArray) = bstr [0, 0] := rfl
    have hz4 : (⟨#[0, 0, 0, 0]⟩ : ByteArray) = bstr [0, 0, 0, 0] := rfl
    simp [go_sem, iV, sV, hz2, bstr_size, bstr_append, bytesOf_length]
    rw [w64 (x := 12 * (x.length : Int)) (by omega) (by omega), w64 (x := 16 + 12 * (x.length : Int)) (by omega) (by omega)]
    refine .refl (refBytes_spec (16 + 12 * x.length) 4 (by omega) (by omega) (by omega) _ _ ?_)
    simp [go_sem, iV, sV, hz4, bstr_size, bstr_append, bytesOf_length]
    refine .refl (refBytes_spec x.length 4 (by omega) (by omega) (by omega) _ _ ?_)
    simp [go_sem, iV, sV, bstr_size, bstr_append, bytesOf_length]
    obtain ⟨H, hH⟩ : ∃ H, H = bytesOf format 2 ++ 0 :: 0 :: (bytesOf (16 + 12 * (x.length : Int)) 4 ++ 0 :: 0 :: 0 :: 0 :: bytesOf x.length 4) := ⟨_, rfl⟩
    have hgv2 : refGroupPutV l format = (H ++ x.flatMap rput3, 0) := by rw [hgv, hH]; simp
    have hHl : H.length = 16 := by rw [hH]; simp [bytesOf_length]
    rw [← hH]
    refine AWP.loop (ι := Nat × List UInt8) (fun i => i.1 ≤ x.length ∧ i.2 = H ++ (x.take i.1).flatMap rput3) (fun i => x.length - i.1)
      (fun i => ⟨69, [(6, .sl false 4 (x.map Sp.v)), (8, sV (bstr i.2)), (9, iV i.1)], S, []⟩) (0, H) ⟨by simp, by simp⟩ (StLe.env (by simp [go_sem, iV, sV])) ?_
    rintro ⟨k, bs⟩ ⟨hk, hbs⟩
    simp only at hk hbs
    have hfl : ∀ m, ((x.take m).flatMap rput3).length ≤ 12 * m := by
      intro m
      have : ∀ y : List Sp, (y.flatMap rput3).length = 12 * y.length := by
        intro y
        induction y with
        | nil => rfl
        | cons s y ih => simp only [List.flatMap_cons, List.length_append, List.length_cons, rput3, bytesOf_length, ih]; omega
      rw [this]; simp; omega
    have hbl : bs.length ≤ 16 + 12 * k := by rw [hbs, List.length_append, hHl]; have := hfl k; omega
    refine awp_sound plr11 _ (by kernel_rfl) _ _ ?_
    simp [go_sem, iV, sV]
    refine cCond_i (fun c2 => ?_) (fun c2 => ?_)
    · simp at c2
      simp [go_sem, iV, sV, plr11, one, Sp.v]
      refine ⟨c2, fun z hz => ?_⟩
      have hzl := hlow z (List.mem_iff_getElem?.2 ⟨k, hz⟩)
      simp only [Sp.low] at hzl
      refine ⟨c2, fun z2 hz2 => ⟨c2, fun z3 hz3 => ?_⟩⟩
      obtain rfl : z = z2 := by rw [hz] at hz2; exact Option.some.inj hz2
      obtain rfl : z = z3 := by rw [hz] at hz3; exact Option.some.inj hz3
      refine .refl (refBytes_spec z.fr 4 (by omega) (by omega) (by omega) _ _ ?_)
      simp [go_sem, iV, sV, plr11, one, bstr_size, bstr_append, bytesOf_length]
      refine ⟨by omega, ?_⟩
      refine .refl (refBytes_spec z.to 4 (by omega) (by omega) (by omega) _ _ ?_)
      simp [go_sem, iV, sV, plr11, one, bstr_size, bstr_append, bytesOf_length]
      refine ⟨by omega, ?_⟩
      refine .refl (refBytes_spec z.gl 4 (by omega) (by omega) (by omega) _ _ ?_)
      simp [go_sem, iV, sV, plr11, one, bstr_size, bstr_append, bytesOf_length]
      refine ⟨by omega, ?_⟩
      have htk := take_snoc hz
      refine round (k + 1, bs ++ rput3 z) ⟨by simp only; omega, by simp only; rw [htk, hbs]; simp⟩ (by simp only; omega) ?_
      rw [w64 (x := (k : Int) + 1) (by omega) (by omega)]
      exact StLe.env (by simp [go_sem, iV, sV, rput3, List.append_assoc])
    · simp at c2
      rw [List.take_of_length_le c2] at hbs
      rw [hgv2, ← hbs] at h
      simp [go_sem, iV, sV]
      exact done (List.Sublist.refl _) h
end Go.Proofs.Ytmlcfgojoglelaa
