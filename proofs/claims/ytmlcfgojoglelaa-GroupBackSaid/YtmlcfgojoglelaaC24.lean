/- Plain: what is put, and got, is what Split tells, and tells the same glyphs. -/
import Derived.Test.YtmlcfgojoglelaaC23
import Derived.Test.YtmlcfgojoglelaaC20
set_option maxRecDepth 100000
set_option linter.unusedSimpArgs false
set_option linter.unusedVariables false
set_option pp.maxSteps 3000
set_option pp.deepTerms false
namespace Go.Proofs.Ytmlcfgojoglelaa
open Go Go.AW Go.Proofs

theorem numB_cons (c : UInt8) (l : List UInt8) : numB (c :: l) = (c.toNat : Int) * 256 ^ l.length + numB l := by
  suffices h : ∀ (l : List UInt8) (v : Int), l.foldl (fun v c => v * 256 + (c.toNat : Int)) v = v * 256 ^ l.length + numB l by
    have := h l c.toNat
    simpa [numB] using this
  intro l
  induction l with
  | nil => intro v; simp [numB]
  | cons d l ih =>
    intro v
    rw [List.foldl_cons, ih]
    have := ih ((d.toNat : Int))
    simp only [numB, List.foldl_cons, Int.zero_mul, Int.zero_add, List.length_cons] at this ⊢
    rw [this, Int.pow_succ, Int.add_mul]
    have e : v * 256 * 256 ^ l.length = v * (256 ^ l.length * 256) := by rw [Int.mul_assoc, Int.mul_comm 256]
    rw [e]; omega
theorem byteK_val (v : Int) (m : Nat) : ((byteK v m).toNat : Int) = v / 256 ^ m % 256 := by
  have e : ((2 : Int) ^ (8 * m)) = 256 ^ m := by rw [Int.pow_mul]; rfl
  rw [byteK, e, Int.fdiv_eq_ediv_of_nonneg _ (Int.le_of_lt (Int.pow_pos (by omega)))]
  have h1 := Int.emod_nonneg (v / 256 ^ m) (show (256 : Int) ≠ 0 by omega)
  have h2 := Int.emod_lt_of_pos (v / 256 ^ m) (show (0 : Int) < 256 by omega)
  rw [UInt8.toNat_ofNat']
  omega
theorem numB_bytesOf (v : Int) : ∀ m, numB (bytesOf v m) = v % 256 ^ m
  | 0 => by simp [bytesOf, numB, Int.emod_one]
  | m + 1 => by
    rw [bytesOf, numB_cons, bytesOf_length, numB_bytesOf v m, byteK_val]
    have h1 := Int.mul_ediv_add_emod v (256 ^ m)
    have hp : (0 : Int) < 256 ^ m := Int.pow_pos (by omega)
    have h2 := Int.mul_ediv_add_emod (v / 256 ^ m) 256
    have h3 := Int.emod_nonneg v (show (256 : Int) ^ m ≠ 0 by omega)
    have h4 := Int.emod_lt_of_pos v hp
    rw [Int.pow_succ]
    generalize hq : v / 256 ^ m = q at *
    generalize hr : v % 256 ^ m = r at *
    generalize (256 : Int) ^ m = p at *
    have h5 := Int.emod_nonneg q (show (256 : Int) ≠ 0 by omega)
    have h6 := Int.emod_lt_of_pos q (show (0 : Int) < 256 by omega)
    generalize hs : q % 256 = s at *
    generalize q / 256 = t at *
    have e : v = (s * p + r) + (p * 256) * t := by
      rw [← h1, ← h2, Int.mul_add, Int.mul_assoc, Int.mul_comm p s]; omega
    have h7 : s * p ≤ 255 * p := Int.mul_le_mul_of_nonneg_right (by omega) (by omega)
    have h8 : 0 ≤ s * p := Int.mul_nonneg h5 (by omega)
    conv => rhs; rw [e]
    rw [Int.add_mul_emod_self_left, Int.emod_eq_of_lt (by omega) (by omega)]

/-- A rune's glyph, as a sum. -/
def gOf (c : Int) (x : Sp) : Int := if x.fr ≤ c ∧ c ≤ x.to then x.gl + x.st * (c - x.fr) else 0
def sumV (l : List Sp) (c : Int) : Int := (l.map (gOf c)).sum
theorem sumV_append (l m : List Sp) (c : Int) : sumV (l ++ m) c = sumV l c + sumV m c := by simp [sumV]
theorem sumV_zero : ∀ (l : List Sp) (c : Int), (∀ x ∈ l, c < x.fr) → sumV l c = 0
  | [], c, _ => rfl
  | x :: l, c, h => by
    have := sumV_zero l c fun y hy => h y (by simp [hy])
    have hx := h x (by simp)
    simp only [sumV, List.map_cons, List.sum_cons] at this ⊢
    rw [this, gOf, if_neg (by omega)]; rfl
theorem look_sum : ∀ (l : List Sp) (c : Int), ordB l = true → l.all Sp.ok = true → lookV l c = sumV l c
  | [], c, _, _ => rfl
  | y :: l, c, ho, ha => by
    have ha' : l.all Sp.ok = true := by simp only [List.all_cons, Bool.and_eq_true] at ha; exact ha.2
    have hy : Sp.ok y = true := by simp only [List.all_cons, Bool.and_eq_true] at ha; exact ha.1
    simp only [Sp.ok, decide_eq_true_eq] at hy
    have ho' : ordB l = true := by
      cases l with
      | nil => rfl
      | cons z l => simp only [ordB, Bool.and_eq_true] at ho; exact ho.2
    have ih := look_sum l c ho' ha'
    have hle := ord_le l y ho ha'
    simp only [lookV, sumV, List.map_cons, List.sum_cons] at ih ⊢
    split
    · rw [ih, gOf, if_neg (by omega)]; omega
    · have hz : (l.map (gOf c)).sum = 0 := sumV_zero l c fun x hx => by have := hle x hx; omega
      rw [hz, gOf]
      split
      · rw [if_neg (by omega)]; rfl
      · rw [if_pos (by omega)]; omega
theorem sum_parts {x : Sp} (hx : x.ok = true) (step c : Int) : sumV (partsL x step) c = gOf c x := by
  simp only [Sp.ok, decide_eq_true_eq] at hx
  have hst := hx.2.2.2.1
  simp only [partsL]
  split
  · rename_i hw
    simp only [wholeB, Bool.or_eq_true, beq_iff_eq] at hw
    split
    · rename_i ha
      simp only [sumV, List.map_cons, List.map_nil, List.sum_cons, List.sum_nil, gOf]
      split
      · rcases hw with e | e
        · rw [e]; omega
        · have : c - x.fr = 0 := by omega
          rw [this]; omega
      · rfl
    · rename_i ha
      simp [anyB] at ha
      simp only [sumV, List.map_nil, List.sum_nil, gOf]
      split
      · rcases hst with e | e
        · rw [e]; omega
        · have := ha.2 e
          rw [e]; omega
      · rfl
  · have key : ∀ n : Nat, sumV ((List.range n).filterMap (partsF x step)) c = if x.fr ≤ c ∧ c < x.fr + n then x.gl + x.st * (c - x.fr) else 0 := by
      intro n
      induction n with
      | zero => simp [sumV]; omega
      | succ n ih =>
        rw [List.range_succ, List.filterMap_append, sumV_append, ih]
        have one : sumV ([n].filterMap (partsF x step)) c = if c = x.fr + n then x.gl + x.st * n else 0 := by
          simp only [List.filterMap_cons, List.filterMap_nil, partsF]
          by_cases hp : 0 < x.gl + x.st * n
          · rw [if_pos hp]
            simp only [sumV, List.map_cons, List.map_nil, List.sum_cons, List.sum_nil, gOf]
            by_cases hc : c = x.fr + n
            · rw [if_pos (by omega), if_pos hc, hc]; simp
            · rw [if_neg (by omega), if_neg hc]; rfl
          · rw [if_neg hp]
            have hz : x.gl + x.st * n = 0 := by rcases hst with e | e <;> rw [e] at hp ⊢ <;> omega
            rw [hz]
            simp [sumV]
        rw [one]
        by_cases hc : c = x.fr + n
        · rw [if_neg (by omega), if_pos hc, if_pos (by omega), hc, show x.fr + (n : Int) - x.fr = n by omega]; omega
        · rw [if_neg hc]
          by_cases h2 : x.fr ≤ c ∧ c < x.fr + n
          · rw [if_pos h2, if_pos (by omega)]; omega
          · rw [if_neg h2, if_neg (by omega)]; rfl
    rw [key, gOf]
    have : ((x.to - x.fr + 1).toNat : Int) = x.to - x.fr + 1 := by omega
    rw [this]
    by_cases h2 : x.fr ≤ c ∧ c ≤ x.to
    · rw [if_pos h2, if_pos (by omega)]
    · rw [if_neg h2, if_neg (by omega)]
theorem sum_split (l : List Sp) (ha : l.all Sp.ok = true) (step c : Int) : sumV (splitAll l step) c = sumV l c := by
  induction l with
  | nil => rfl
  | cons x l ih =>
    simp only [List.all_cons, Bool.and_eq_true] at ha
    have h1 := sum_parts ha.1 step c
    have h2 := ih ha.2
    simp only [splitAll, List.flatMap_cons] at h2 ⊢
    rw [sumV_append, h1, h2]
    simp [sumV]

/-- Split spans are right. -/
theorem ord_pair : ∀ (l : List Sp), ordB l = true → l.all Sp.ok = true → l.Pairwise (fun x y => x.to < y.fr)
  | [], _, _ => .nil
  | y :: l, ho, ha => by
    have ha' : l.all Sp.ok = true := by simp only [List.all_cons, Bool.and_eq_true] at ha; exact ha.2
    have ho' : ordB l = true := by
      cases l with
      | nil => rfl
      | cons z l => simp only [ordB, Bool.and_eq_true] at ho; exact ho.2
    exact .cons (fun x hx => (ord_le l y ho ha' x hx).1) (ord_pair l ho' ha')
theorem pair_ord : ∀ (l : List Sp), l.Pairwise (fun x y => x.to < y.fr) → ordB l = true
  | [], _ => rfl
  | [x], _ => rfl
  | x :: y :: l, h => by
    simp only [ordB, Bool.and_eq_true, decide_eq_true_eq]
    exact ⟨List.rel_of_pairwise_cons h (by simp), pair_ord (y :: l) h.tail⟩
theorem parts_in {x : Sp} (hx : x.ok = true) {step : Int} (hs : step = 0 ∨ step = 1) : (∀ z ∈ partsL x step, z.ok = true ∧ z.st = step ∧ x.fr ≤ z.fr ∧ z.to ≤ x.to) ∧ (partsL x step).Pairwise (fun x y => x.to < y.fr) := by
  simp only [Sp.ok, decide_eq_true_eq] at hx
  have hst := hx.2.2.2.1
  simp only [partsL]
  split
  · rename_i hw
    simp only [wholeB, Bool.or_eq_true, beq_iff_eq] at hw
    split
    · refine ⟨fun z hz => ?_, by simp⟩
      simp at hz; subst hz
      refine ⟨?_, rfl, Int.le_refl _, Int.le_refl _⟩
      simp only [Sp.ok, decide_eq_true_eq]
      refine ⟨hx.1, hx.2.1, hx.2.2.1, hs, hx.2.2.2.2.1, hx.2.2.2.2.2.1, ?_⟩
      rcases hw with e | e
      · rw [← e]; exact hx.2.2.2.2.2.2
      · rw [e]; simp; omega
    · simp
  · constructor
    · intro z hz
      obtain ⟨i, hi, hz⟩ := List.mem_filterMap.1 hz
      simp at hi
      simp only [partsF] at hz
      split at hz
      · have e := Option.some.inj hz; subst e
        have hb : 0 ≤ x.st * (i : Int) ∧ x.st * (i : Int) ≤ x.st * (x.to - x.fr) := by
          rcases hst with e | e <;> rw [e] <;> omega
        refine ⟨?_, rfl, by simp only; omega, by simp only; omega⟩
        simp only [Sp.ok, decide_eq_true_eq]
        refine ⟨by omega, by omega, by omega, hs, by omega, by omega, ?_⟩
        simp; omega
      · cases hz
    · refine List.Pairwise.filterMap (R := fun i j : Nat => i < j) _ ?_ List.pairwise_lt_range
      intro i j hij a ha b hb
      simp only [partsF] at ha hb
      split at ha <;> simp at ha
      split at hb <;> simp at hb
      subst ha hb
      simp only; omega
theorem split_right {l : List Sp} {step : Int} (h : (splitV l step).2 = 0) : isB l = true ∧ isB (splitV l step).1 = true ∧ (splitV l step).1 = splitAll l step ∧ (∀ z ∈ splitAll l step, z.st = step) := by
  unfold splitV at h ⊢
  split at h
  · cases h
  · rename_i h1
    rw [if_neg h1]
    split at h
    · cases h
    · rename_i h2
      rw [if_neg h2]
      have hb : isB l = true := by cases hb : isB l <;> simp_all
      have hs : step = 0 ∨ step = 1 := by omega
      refine ⟨hb, ?_, rfl, ?_⟩
      · simp only [isB, Bool.and_eq_true] at hb ⊢
        have hall := List.all_eq_true.1 hb.1.2
        refine ⟨⟨by simp only [decide_eq_true_eq]; omega, ?_⟩, pair_ord _ ?_⟩
        · rw [List.all_eq_true]
          intro z hz
          obtain ⟨x, hx, hz⟩ := List.mem_flatMap.1 hz
          exact ((parts_in (hall x hx) hs).1 z hz).1
        · have hp := ord_pair l hb.2 hb.1.2
          simp only [splitAll]
          rw [List.pairwise_flatMap]
          refine ⟨fun x hx => (parts_in (hall x hx) hs).2, ?_⟩
          refine List.Pairwise.imp_of_mem (R := fun x y : Sp => x.to < y.fr) (fun {a b} ha hb hab z hz w hw => ?_) hp
          have h1 := (parts_in (hall a ha) hs).1 z hz
          have h2 := (parts_in (hall b hb) hs).1 w hw
          omega
      · intro z hz
        simp only [isB, Bool.and_eq_true] at hb
        obtain ⟨x, hx, hz⟩ := List.mem_flatMap.1 hz
        exact ((parts_in (List.all_eq_true.1 hb.1.2 x hx) hs).1 z hz).2.1
theorem split_look {l : List Sp} {step : Int} (h : (splitV l step).2 = 0) (c : Int) : lookV (splitV l step).1 c = lookV l c := by
  obtain ⟨h1, h2, h3, _⟩ := split_right h
  simp only [isB, Bool.and_eq_true] at h1 h2
  rw [look_sum _ _ h2.2 h2.1.2, look_sum _ _ h1.2 h1.1.2, h3, sum_split _ h1.1.2]

/-- What is put reads back. -/
theorem flat_drop (more : List UInt8) : ∀ (x : List Sp) (i : Nat) (z : Sp), x[i]? = some z → ∃ rest, (x.flatMap rput3 ++ more).drop (12 * i) = rput3 z ++ rest
  | [], i, z, h => by simp at h
  | y :: x, 0, z, h => by
    simp at h; subst h
    exact ⟨x.flatMap rput3 ++ more, by simp⟩
  | y :: x, i + 1, z, h => by
    obtain ⟨rest, hr⟩ := flat_drop more x i z (by simpa using h)
    refine ⟨rest, ?_⟩
    have hl : (rput3 y).length = 12 := by simp [rput3, bytesOf_length]
    rw [List.flatMap_cons, List.append_assoc, ← hr, show 12 * (i + 1) = (rput3 y).length + 12 * i by rw [hl]; omega, List.drop_append]
    simp
theorem rput3_len (y : Sp) : (rput3 y).length = 12 := by simp [rput3, bytesOf_length]
theorem flat_len (x : List Sp) : (x.flatMap rput3).length = 12 * x.length := by
  induction x with
  | nil => rfl
  | cons y x ih => rw [List.flatMap_cons, List.length_append, ih, rput3_len, List.length_cons]; omega
theorem num4 {v : Int} (h0 : 0 ≤ v) (h1 : v < 4294967296) : numB (bytesOf v 4) = v := by
  rw [numB_bytesOf]; exact Int.emod_eq_of_lt h0 (by simpa using h1)
theorem take_pre {a b : List UInt8} {n : Nat} (h : a.length = n) : (a ++ b).take n = a := by rw [← h]; simp
theorem drop_pre {a b : List UInt8} {n : Nat} (h : a.length = n) : (a ++ b).drop n = b := by rw [← h]; simp
theorem get_put {l : List Sp} {format : Int} (h : (groupPutV l format).2 = 0) (more : List UInt8) : groupGetV (bstr ((groupPutV l format).1 ++ more)) = ((splitV l (13 - format)).1, 0) ∧ (splitV l (13 - format)).2 = 0 := by
  rw [groupPut_eq] at h ⊢
  rw [groupGet_eq]
  unfold refGroupPutV at h ⊢
  by_cases hf : format ≠ 12 ∧ format ≠ 13
  · rw [if_pos hf] at h; cases h
  rw [if_neg hf] at h ⊢
  simp only at h ⊢
  by_cases hs : (splitV l (13 - format)).2 ≠ 0
  · rw [if_pos hs] at h; exact absurd h hs
  rw [if_neg hs]
  simp only
  have hs : (splitV l (13 - format)).2 = 0 := by simpa using hs
  refine ⟨?_, hs⟩
  obtain ⟨h1, h2, h3, h4⟩ := split_right hs
  have hle := @splitV_le l (13 - format)
  have hlow := splitV_low l (13 - format)
  rw [← h3] at h4
  generalize (splitV l (13 - format)).1 = x at *
  generalize hB : bytesOf format 2 ++ [0, 0] ++ bytesOf (16 + 12 * (x.length : Int)) 4 ++ [0, 0, 0, 0] ++ bytesOf x.length 4 ++ x.flatMap rput3 ++ more = B
  have hlist : (bstr B).data.toList = B := by simp [bstr]
  have d16 : B.drop 16 = x.flatMap rput3 ++ more := by
    rw [← hB, List.append_assoc]
    exact drop_pre (by simp [bytesOf_length])
  have hlen : B.length = 16 + 12 * x.length + more.length := by rw [← hB]; simp only [List.length_append, bytesOf_length, flat_len, List.length_cons, List.length_nil]
  have t2 : B.take 2 = bytesOf format 2 := by
    rw [← hB]; simp only [List.append_assoc]; exact take_pre (bytesOf_length _ _)
  have l4 : longV (bstr B) 4 = 16 + 12 * (x.length : Int) := by
    rw [longV, hlist, ← hB]
    simp only [List.append_assoc]
    rw [← List.append_assoc, drop_pre (by simp [bytesOf_length]), take_pre (bytesOf_length _ _)]
    exact num4 (by omega) (by omega)
  have l12 : longV (bstr B) 12 = (x.length : Int) := by
    rw [longV, hlist, ← hB]
    simp only [List.append_assoc]
    rw [← List.append_assoc, ← List.append_assoc, ← List.append_assoc, drop_pre (by simp [bytesOf_length]), take_pre (bytesOf_length _ _)]
    exact num4 (by omega) (by omega)
  have nf : numB (bytesOf format 2) = format := by
    rw [numB_bytesOf]; exact Int.emod_eq_of_lt (by omega) (by omega)
  unfold refGroupGetV
  rw [bstr_size, if_neg (by omega)]
  simp only [hlist, t2, l4, l12, nf]
  rw [if_neg hf, if_neg (by omega), if_neg (by simp), if_neg (by omega)]
  have hout : (List.range (x.length : Int).toNat).map (spanAt (bstr B) (13 - format)) = x := by
    apply List.ext_getElem?
    intro i
    rw [List.getElem?_map]
    by_cases hi : i < x.length
    · rw [List.getElem?_range (by simpa using hi), List.getElem?_eq_getElem hi]
      simp only [Option.map_some, Option.some.injEq]
      obtain ⟨rest, hr⟩ := flat_drop more x i x[i] (List.getElem?_eq_getElem hi)
      have hz := hlow x[i] (List.getElem_mem hi)
      have h4z := h4 x[i] (List.getElem_mem hi)
      generalize x[i] = z at *
      simp only [Sp.low] at hz
      have dd : B.drop (16 + 12 * i) = rput3 z ++ rest := by rw [← hr, ← d16, List.drop_drop]
      have e1 : longV (bstr B) (16 + 12 * i) = z.fr := by
        rw [longV, hlist, dd, rput3, List.append_assoc, List.append_assoc, take_pre (bytesOf_length _ _)]
        exact num4 (by omega) (by omega)
      have e2 : longV (bstr B) (16 + 12 * i + 4) = z.to := by
        rw [longV, hlist, ← List.drop_drop, dd, rput3, List.append_assoc, List.append_assoc, drop_pre (bytesOf_length _ _), take_pre (bytesOf_length _ _)]
        exact num4 (by omega) (by omega)
      have e3 : longV (bstr B) (16 + 12 * i + 8) = z.gl := by
        rw [longV, hlist, ← List.drop_drop, dd, rput3, List.append_assoc, drop_pre (by simp [bytesOf_length]), take_pre (bytesOf_length _ _)]
        exact num4 (by omega) (by omega)
      rw [spanAt, e1, e2, e3, ← h4z]
    · rw [List.getElem?_eq_none (by simpa using Nat.le_of_not_lt hi), List.getElem?_eq_none (by omega)]; rfl
  rw [hout, if_pos h2]
end Go.Proofs.Ytmlcfgojoglelaa
