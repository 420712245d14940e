/- Plain: group.Get and group.Put are the references' answers. -/
import Derived.Test.YtmlcfgojoglelaaC18
set_option maxRecDepth 100000
set_option linter.unusedSimpArgs false
set_option linter.unusedVariables false
set_option pp.maxSteps 3000
set_option pp.deepTerms false
namespace Go.Proofs.Ytmlcfgojoglelaa
open Go Go.AW Go.Proofs

/-- Numbers off bytes, as lists. -/
def rl : List UInt8 → List Int → Option (List Int)
  | _, [] => some []
  | bs, n :: ns => if bs.length < n.natAbs then none else (rl (bs.drop n.natAbs) ns).map (numB (bs.take n.natAbs) :: ·)
theorem readL_rl : ∀ (sizes : List Int) (s : ByteArray), (∀ n ∈ sizes, 0 < n) → readL s sizes = rl s.data.toList sizes
  | [], s, _ => rfl
  | n :: ns, s, h => by
    have hn := h n (by simp)
    have ih := readL_rl ns (s.extract n.natAbs s.size) fun m hm => h m (by simp [hm])
    simp only [readL, rl, ba_len]
    rw [ih, extract_list, List.take_of_length_le (by rw [List.length_drop, ba_len]; exact Nat.le_refl _)]
    have : takeV s n = numB (s.data.toList.take n.natAbs) := by simp only [takeV]; rw [if_neg (by omega)]
    rw [this]
def okOr : Option (List Int) → List Int × Int
  | none => ([], 4)
  | some l => (l, 0)
theorem getV_rl {s : ByteArray} {p : Nat} {sizes : List Int} (hp : p ≤ s.size) (hs : ∀ n ∈ sizes, 0 < n ∧ n ≤ 4) :
    getV s p sizes = okOr (rl (s.data.toList.drop p) sizes) := by
  have hr : rightB sizes = true := by
    simp only [rightB, List.all_eq_true]
    intro n hn; have := hs n hn; simp [okSize]; omega
  unfold getV
  rw [if_neg (by simp [hr]), if_neg (by omega), readL_rl sizes _ fun n hn => (hs n hn).1, extract_list]
  rw [List.take_of_length_le (by rw [List.length_drop, ba_len]; omega)]
  simp only [Int.toNat_natCast]
  cases rl (s.data.toList.drop p) sizes <;> rfl

theorem rl_rep : ∀ (k : Nat) (bs : List UInt8), rl bs (List.replicate k 4) = if bs.length < 4 * k then none else some ((List.range k).map fun i => numB ((bs.drop (4 * i)).take 4))
  | 0, bs => by simp [rl]
  | k + 1, bs => by
    rw [List.replicate_succ, rl]
    have e4 : (4 : Int).natAbs = 4 := rfl
    rw [e4, rl_rep k (bs.drop 4)]
    by_cases h : bs.length < 4
    · rw [if_pos h, if_pos (by omega)]
    · rw [if_neg h]
      by_cases h2 : bs.length < 4 * (k + 1)
      · rw [if_pos h2, if_pos (by simp; omega)]; rfl
      · rw [if_neg h2, if_neg (by simp; omega)]
        simp only [Option.map_some, List.range_succ_eq_map, List.map_cons, List.map_map, Nat.mul_zero, List.drop_zero]
        congr 2
        refine List.map_congr_left fun i _ => ?_
        simp only [Function.comp_apply, List.drop_drop]
        congr 3; omega
theorem repL_one (x : Int) : ∀ k, repL [x] k = List.replicate k x
  | 0 => rfl
  | k + 1 => by
    have := repL_one x k
    simp only [repL] at this ⊢
    rw [List.replicate_succ, List.flatten_cons, this, List.replicate_succ]; rfl
theorem chunks_get : ∀ (n : Nat) (l : List Int), l.length = 3 * n → chunksI 3 l = (List.range n).map fun i => [l.getD (3 * i) 0, l.getD (3 * i + 1) 0, l.getD (3 * i + 2) 0]
  | 0, l, h => by
    have : l = [] := List.eq_nil_of_length_eq_zero (by simpa using h)
    subst this; rw [chunksI]; simp
  | n + 1, l, h => by
    match l, h with
    | a :: b :: c :: l, h =>
      rw [chunksI, dif_neg (by simp)]
      have ih := chunks_get n l (by simp at h; omega)
      simp only [List.take_succ_cons, List.take_zero, List.drop_succ_cons, List.drop_zero, ih, List.range_succ_eq_map, List.map_cons, List.map_map]
      congr 1

def endOf (out : List Sp) : List Sp × Int := if isB out then (out, 0) else ([], 5)
theorem groupGet_eq (s : ByteArray) : groupGetV s = refGroupGetV s := by
  simp only [groupGetV, refGroupGetV]
  have h0 := @getV_rl s 0 [2, 2, 4, 4, 4] (by omega) (by simp)
  simp only [List.drop_zero] at h0
  have hl := ba_len s
  rw [show ((0 : Nat) : Int) = 0 from rfl] at h0
  rw [h0]
  generalize hbs : s.data.toList = bs at *
  by_cases h16 : s.size < 16
  · rw [if_pos h16]
    have : rl bs [2, 2, 4, 4, 4] = none := by
      simp only [rl]
      simp
      intros
      omega
    rw [this]; rfl
  rw [if_neg h16]
  have hr : rl bs [2, 2, 4, 4, 4] = some [numB (bs.take 2), numB ((bs.drop 2).take 2), longV s 4, numB ((bs.drop 8).take 4), longV s 12] := by
    simp only [rl, longV, hbs]
    rw [if_neg (by simp; omega), if_neg (by simp; omega), if_neg (by simp; omega), if_neg (by simp; omega), if_neg (by simp; omega)]
    simp
  rw [hr]
  simp only [okOr, ne_eq, not_true_eq_false, if_false, List.getD_cons_zero, List.getD_cons_succ]
  generalize hf : numB (bs.take 2) = f
  have hnb := longV_bound s 12
  generalize longV s 12 = n at *
  by_cases hfmt : ¬f = 12 ∧ ¬f = 13
  · rw [if_pos hfmt, if_pos hfmt]
  rw [if_neg hfmt, if_neg hfmt]
  by_cases h1 : 65536 < n
  · rw [if_pos h1, if_pos h1]
  rw [if_neg h1, if_neg h1]
  by_cases h2 : longV s 4 = 16 + 12 * n
  · rw [if_neg (not_not_intro h2), if_neg (not_not_intro h2), h2]
    by_cases h3 : (s.size : Int) < 16 + 12 * n
    · rw [if_pos h3, if_pos h3]
    · rw [if_neg h3, if_neg h3]
      obtain ⟨m, rfl⟩ : ∃ m : Nat, n = m := ⟨n.toNat, by omega⟩
      have h16' := @getV_rl s 16 (repL [4] (3 * (m : Int)).toNat) (by omega) (by rw [repL_one]; intro x hx; have := List.eq_of_mem_replicate hx; omega)
      rw [repL_one, rl_rep] at h16'
      rw [hbs, if_neg (by simp; omega)] at h16'
      rw [show ((16 : Nat) : Int) = 16 from rfl] at h16'
      rw [repL_one, h16']
      simp only [okOr, ne_eq, not_true_eq_false, if_false]
      rw [show (3 * (m : Int)).toNat = 3 * m by omega, show (m : Int).toNat = m by omega]
      refine congrArg endOf ?_
      rw [chunks_get m _ (by simp), List.map_map]
      have he : (List.range m).map (span3 (13 - f) ∘ fun i => [((List.range (3 * m)).map fun i => numB (((bs.drop 16).drop (4 * i)).take 4)).getD (3 * i) 0, ((List.range (3 * m)).map fun i => numB (((bs.drop 16).drop (4 * i)).take 4)).getD (3 * i + 1) 0, ((List.range (3 * m)).map fun i => numB (((bs.drop 16).drop (4 * i)).take 4)).getD (3 * i + 2) 0]) = (List.range m).map (spanAt s (13 - f)) := by
        refine List.map_congr_left fun i hi => ?_
        have hi := List.mem_range.1 hi
        have hg : ∀ j, j < 3 * m → ((List.range (3 * m)).map fun i => numB (((bs.drop 16).drop (4 * i)).take 4)).getD j 0 = numB ((bs.drop (16 + 4 * j)).take 4) := fun j hj => by
          rw [List.getD_eq_getElem?_getD, List.getElem?_map, List.getElem?_range hj]; simp
        simp only [Function.comp_apply, span3, List.getD_cons_zero, List.getD_cons_succ, spanAt, longV, hbs]
        rw [hg _ (by omega), hg _ (by omega), hg _ (by omega)]
        congr 4 <;> omega
      exact he
  · rw [if_pos h2, if_pos h2]

theorem put3_low {z : Sp} (h : z.low) : put3 z = (rput3 z, 0) := by
  simp only [Sp.low] at h
  have hf : ∀ v : Int, 0 ≤ v → v ≤ 1114111 → fitsB v 4 = true := fun v h0 h1 => by simp [fitsB]; omega
  simp [put3, putV, rightB, okSize, allFit, putAll, rput3, hf z.fr h.1 (by omega), hf z.to (by omega) h.2.2.1, hf z.gl h.2.2.2.1 (by omega)]
theorem errs_low : ∀ (x : List Sp), (∀ z ∈ x, z.low) → errs 0 x = 0
  | [], _ => rfl
  | z :: x, h => by
    have ih := errs_low x fun y hy => h y (by simp [hy])
    simp only [errs, List.foldl_cons] at ih ⊢
    rw [put3_low (h z (by simp)), show maxE 0 0 = 0 from rfl]
    exact ih
theorem groupPut_eq (l : List Sp) (format : Int) : groupPutV l format = refGroupPutV l format := by
  simp only [groupPutV, refGroupPutV]
  by_cases hfmt : ¬format = 12 ∧ ¬format = 13
  · rw [if_pos hfmt, if_pos hfmt]
  rw [if_neg hfmt, if_neg hfmt]
  have hlow := splitV_low l (13 - format)
  have hle := @splitV_le l (13 - format)
  generalize splitV l (13 - format) = sv at *
  obtain ⟨x, e⟩ := sv
  simp only at hlow hle ⊢
  by_cases he : e = 0
  · rw [if_neg (not_not_intro he), if_neg (not_not_intro he)]
    have hh : putV [2, 2, 4, 4, 4] [format, 0, 16 + 12 * (x.length : Int), 0, (x.length : Int)] = (bytesOf format 2 ++ [0, 0] ++ bytesOf (16 + 12 * (x.length : Int)) 4 ++ [0, 0, 0, 0] ++ bytesOf x.length 4, 0) := by
      have f1 : fitsB format 2 = true := by simp [fitsB]; omega
      have f2 : fitsB (16 + 12 * (x.length : Int)) 4 = true := by simp [fitsB]; omega
      have f3 : fitsB (x.length : Int) 4 = true := by simp [fitsB]; omega
      have f4 : fitsB 0 2 = true := by decide
      have f5 : fitsB 0 4 = true := by decide
      have b2 : bytesOf 0 2 = [0, 0] := by decide
      have b4 : bytesOf 0 4 = [0, 0, 0, 0] := by decide
      simp [putV, rightB, okSize, allFit, putAll, f1, f2, f3, f4, f5, b2, b4]
    rw [hh]
    simp only
    rw [errs_low x hlow, if_neg (by simp)]
    congr 2
    have : ∀ y : List Sp, (∀ z ∈ y, z.low) → (y.flatMap fun s => (put3 s).1) = y.flatMap rput3 := by
      intro y
      induction y with
      | nil => intro _; rfl
      | cons z y ih => intro h; rw [List.flatMap_cons, List.flatMap_cons, ih fun w hw => h w (by simp [hw]), put3_low (h z (by simp))]
    exact this x hlow
  · rw [if_pos he, if_pos he]

/-- The two closed rows. -/
def sp2 : List Sp := [⟨70000, 70001, 9, 0⟩]
def t13 : List UInt8 := (groupPutV sp2 13).1
def t12 : List UInt8 := (groupPutV sp2 12).1
theorem closed13 : groupPutV sp2 13 = (t13, 0) ∧ t13.length = 28 := by rw [t13, groupPut_eq]; exact ⟨by kernel_rfl, by kernel_rfl⟩
theorem closed12 : groupPutV sp2 12 = (t12, 0) ∧ t12.length = 40 := by rw [t12, groupPut_eq]; exact ⟨by kernel_rfl, by kernel_rfl⟩
theorem closedG13 : groupGetV (bstr t13) = (sp2, 0) := by rw [groupGet_eq, t13, groupPut_eq]; kernel_rfl
theorem closedG12 : groupGetV (bstr t12) = ([⟨70000, 70000, 9, 1⟩, ⟨70001, 70001, 9, 1⟩], 0) := by rw [groupGet_eq, t12, groupPut_eq]; kernel_rfl
theorem closedF : groupGetV (bstr (t13.take 20)) = ([], 4) := by rw [groupGet_eq, t13, groupPut_eq]; kernel_rfl
end Go.Proofs.Ytmlcfgojoglelaa
