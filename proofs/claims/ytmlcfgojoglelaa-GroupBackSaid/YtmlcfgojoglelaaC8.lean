/- math/bits.Mul; slices.Repeat. -/
import Derived.Test.YtmlcfgojoglelaaC7
set_option maxRecDepth 100000
set_option linter.unusedSimpArgs false
set_option linter.unusedVariables false
set_option pp.maxSteps 3000
set_option pp.deepTerms false
namespace Go.Proofs.Ytmlcfgojoglelaa
open Go Go.AW Go.Proofs

theorem u64w {x : Int} (h1 : 0 ≤ x) (h2 : x < 18446744073709551616) : IntKind.u64.wrap x = x := by
  simp [IntKind.wrap, IntKind.bits, IntKind.signed]; omega
def uV (n : Int) : V := .lit (.int .u64 n)
theorem mul64_spec (x y : Int) (hx : 0 ≤ x) (hx2 : x < 2147483648) (hy : 0 ≤ y) (hy2 : y < 2147483648) (S : List Res) (Q : Out → List Res → Prop) (h : Q (.ret (.tuple [uV 0, uV (x * y)])) S) :
    ACall Try.prog 46 [uV x, uV y] S Q := by
  have p0 : 0 ≤ x * y := Int.mul_nonneg hx hy
  have p1 : x * y < 4611686018427387904 := by
    have : x * y ≤ 2147483647 * 2147483647 := Int.mul_le_mul (by omega) (by omega) hy (by omega)
    omega
  have m : ∀ z : Int, 0 ≤ z → z < 4294967296 → bits .and .u64 z 4294967295 = z := fun z h0 h1 => by
    have := bits_mask .u64 62 (by decide) (fun n h h' => u64w h (by omega)) 32 (by decide) z h0 (by omega)
    rw [show (4294967295 : Int) = 2 ^ 32 - 1 by decide, this, Int.emod_eq_of_lt h0 (by simpa using h1)]
  have d : ∀ z : Int, 0 ≤ z → z < 4294967296 → z.fdiv 4294967296 = 0 := fun z h0 h1 => by rw [Int.fdiv_eq_ediv_of_nonneg _ (by decide)]; omega
  obtain ⟨q, hq⟩ : ∃ q, q = (x * y).fdiv 4294967296 := ⟨_, rfl⟩
  have q0 : 0 ≤ q ∧ q < 4294967296 := by rw [hq, Int.fdiv_eq_ediv_of_nonneg _ (by decide)]; omega
  refine acall_of_awp Try.func46 rfl (by simp [go_sem]) (awp_sound pl0 _ (by kernel_rfl) _ _ ?_)
  simp [go_sem, uV, m x hx (by omega), m y hy (by omega), d x hx (by omega), d y hy (by omega), u64w p0 (by omega), ← hq, u64w q0.1 (by omega), m q q0.1 q0.2, d q q0.1 q0.2, u64w (x := 0) (by omega) (by omega), IntKind.bits]
  exact done (List.Sublist.refl _) h
theorem mul_spec (x y : Int) (hx : 0 ≤ x) (hx2 : x < 2147483648) (hy : 0 ≤ y) (hy2 : y < 2147483648) (S : List Res) (Q : Out → List Res → Prop) (h : Q (.ret (.tuple [uV 0, uV (x * y)])) S) :
    ACall Try.prog 32 [uV x, uV y] S Q := by
  have p0 : 0 ≤ x * y := Int.mul_nonneg hx hy
  have p1 : x * y < 4611686018427387904 := by
    have : x * y ≤ 2147483647 * 2147483647 := Int.mul_le_mul (by omega) (by omega) hy (by omega)
    omega
  refine acall_of_awp Try.func32 rfl (by simp [go_sem]) (awp_sound pl0 _ (by kernel_rfl) _ _ ?_)
  simp [go_sem, uV, u64w hx (by omega), u64w hy (by omega)]
  refine .refl (mul64_spec x y hx hx2 hy hy2 _ _ ?_)
  simp [go_sem, uV]
  exact done (List.Sublist.refl _) h

/-- A list, so many times. -/
def repL (xs : List Int) (c : Nat) : List Int := (List.replicate c xs).flatten
theorem repL_length (xs : List Int) : ∀ c, (repL xs c).length = xs.length * c
  | 0 => rfl
  | c + 1 => by
    have := repL_length xs c
    simp only [repL] at this ⊢
    rw [List.replicate_succ, List.flatten_cons, List.length_append, this, Nat.mul_succ, Nat.add_comm]
theorem repL_get (xs : List Int) (hx : xs ≠ []) : ∀ (c i : Nat), i < xs.length * c → (repL xs c)[i]? = xs[i % xs.length]?
  | 0, i, h => by simp at h
  | c + 1, i, h => by
    have hl : 0 < xs.length := List.length_pos_iff.2 hx
    have e : repL xs (c + 1) = xs ++ repL xs c := by simp [repL, List.replicate_succ]
    rw [e]
    by_cases hi : i < xs.length
    · rw [List.getElem?_append_left hi, Nat.mod_eq_of_lt hi]
    · have hi' : xs.length ≤ i := Nat.le_of_not_lt hi
      rw [List.getElem?_append_right hi', repL_get xs hx c (i - xs.length) (by rw [Nat.mul_succ] at h; omega)]
      congr 1
      conv => rhs; rw [show i = i - xs.length + xs.length by omega, Nat.add_mod_right]
/-- Where n of the N values stand, noughts behind. -/
def part (l : List Int) (n : Nat) : List Int := l.take n ++ List.replicate (l.length - n) 0
theorem part_step (xs : List Int) (hx : xs ≠ []) (c n m : Nat) (hn : n % xs.length = 0) (h0 : n ≤ xs.length * c) (hm : m = min n (xs.length * c - n)) :
    (part (repL xs c) n).take n ++ ((part (repL xs c) n).take n).take m ++ (part (repL xs c) n).drop (n + m) = part (repL xs c) (n + m) := by
  have hl := repL_length xs c
  have hlp : 0 < xs.length := List.length_pos_iff.2 hx
  have hmn : m ≤ n := by omega
  have hmN : n + m ≤ (repL xs c).length := by omega
  have ht : (part (repL xs c) n).take n = (repL xs c).take n := by
    simp only [part]; rw [List.take_append_of_le_length (by simp; omega), List.take_take, Nat.min_self]
  rw [ht]
  refine List.ext_getElem? fun i => ?_
  simp only [part]
  have hd : (List.take n (repL xs c) ++ List.replicate ((repL xs c).length - n) 0).drop (n + m) = List.replicate ((repL xs c).length - (n + m)) 0 := by
    rw [List.drop_append, List.drop_eq_nil_of_le (by simp; omega), List.nil_append, List.drop_replicate]
    congr 1; simp; omega
  rw [hd]
  have hln : (List.take n (repL xs c) ++ List.take m (List.take n (repL xs c))).length = n + m := by simp; omega
  have hln2 : (List.take (n + m) (repL xs c)).length = n + m := by simp; omega
  by_cases h1 : i < n + m
  · rw [List.getElem?_append_left (by omega)]
    by_cases h2 : i < n
    · rw [List.getElem?_append_left (by simp; omega), List.getElem?_take, if_pos h2, List.getElem?_append_left (by omega), List.getElem?_take, if_pos h1]
    · rw [List.getElem?_append_right (by simp; omega), List.length_take, List.getElem?_take, if_pos (by omega), List.getElem?_take, if_pos (by omega), List.getElem?_append_left (by omega), List.getElem?_take, if_pos h1]
      have e : min n (repL xs c).length = n := by omega
      rw [e, repL_get xs hx c _ (by omega), repL_get xs hx c _ (by omega)]
      congr 1
      have : n = xs.length * (n / xs.length) := by have := Nat.div_add_mod n xs.length; omega
      conv => rhs; rw [show i = i - n + n by omega]
      rw [this, Nat.add_mul_mod_self_left]
  · rw [List.getElem?_append_right (by omega), List.getElem?_append_right (by omega), hln, hln2]

def pl16 : Nat → DPlan
  | 9 => .take 0 (.take 1 (.take 2 (.take 3 (.take 4 (.take 5 (.take 6 (one 7 (.take 8 (one 9 .done)))))))))
  | _ => .done
theorem repeat_spec (full : Bool) (xs : List Int) (n : Nat) (hx : xs ≠ []) (hx2 : xs.length < 1024) (hn : xs.length * n < 2097152) (S : List Res) (Q : Out → List Res → Prop)
    (h : Q (.ret (.sl true 1 ((repL xs n).map iV))) S) :
    ACall Try.prog 16 [.sl full 1 (xs.map iV), iV n] S Q := by
  have hlp : 0 < xs.length := List.length_pos_iff.2 hx
  have hnb : n < 2097152 := Nat.lt_of_le_of_lt (Nat.le_mul_of_pos_left n hlp) hn
  refine ACall.post ?_
  refine acall_of_awp Try.func16 rfl (by simp [go_sem]) (awp_sound pl16 _ (by kernel_rfl) _ _ ?_)
  simp [go_sem, iV]
  refine cCond_i (fun c1 => ?_) (fun c1 => ?_)
  · simp at c1; omega
  simp [go_sem]
  rw [u64w (x := (xs.length : Int)) (by omega) (by omega), u64w (x := (n : Int)) (by omega) (by omega)]
  refine .refl (mul_spec xs.length n (by omega) (by omega) (by omega) (by omega) _ _ ?_)
  have hN : (xs.length : Int) * (n : Int) = ((xs.length * n : Nat) : Int) := by simp
  rw [hN]
  generalize hNN : xs.length * n = N at *
  simp [go_sem, uV]
  rw [show decide ((9223372036854775807 : Int) < (N : Int)) = false by simp; omega]
  simp [go_sem, w64 (x := (N : Int)) (by omega) (by omega)]
  refine ⟨by omega, by omega, fun b hb => ?_⟩
  refine AOp.copy1 (ts := #[]) (src := (xs.map iV).take (Nat.min (xs.map iV).length N)) (cs := List.replicate N (.lit (.int .i64 0))) rfl (by simp [go_sem]) rfl (by simp [go_sem]) rfl (by simp [go_sem]) (CopySrc.sl (by simpa using hx) (by simp [iV, V.cells]) N) (by simp; show min _ _ ≤ _; omega) ?_
  simp [go_sem]
  have hrl := repL_length xs n
  refine AWP.loop (ι := Nat) (fun k => k % xs.length = 0 ∧ k ≤ N ∧ (k = 0 → N = 0)) (fun k => N - k)
    (fun k => ⟨48, [(7, .lit (.slice (some ⟨b, 0, none⟩) N N)), (8, iV k)], .obj b ((part (repL xs n) k).map iV) :: S, []⟩) (min xs.length N) ⟨?_, by omega, by omega⟩ ?_ ?_
  · by_cases hn0 : n = 0
    · subst hn0; simp at hNN; subst hNN; simp
    · have : xs.length ≤ N := by rw [← hNN]; exact Nat.le_mul_of_pos_right _ (by omega)
      rw [Nat.min_eq_left this, Nat.mod_self]
  · have hsp : (List.take (xs.length.min N) (List.map iV xs) ++ List.replicate (N - min xs.length N) (V.lit (.int .i64 0))) = (part (repL xs n) (min xs.length N)).map iV := by
      simp only [part, List.map_append, List.map_replicate, List.map_take]
      have h1 : ((repL xs n).take (min xs.length N)) = xs.take (min xs.length N) := by
        refine List.ext_getElem? fun i => ?_
        rw [List.getElem?_take, List.getElem?_take]
        split
        · rw [repL_get xs hx n i (by omega), Nat.mod_eq_of_lt (by omega)]
        · rfl
      rw [← List.map_take (l := repL xs n), h1, hrl, hNN, List.map_take]
      rfl
    rw [hsp]
    exact StLe.env (by simp [go_sem, iV])
  · rintro k ⟨hk1, hk2, hk3⟩
    refine awp_sound pl16 _ (by kernel_rfl) _ _ ?_
    simp [go_sem, iV]
    refine cCond_i (fun c2 => ?_) (fun c2 => ?_)
    · simp at c2
      simp [go_sem, iV, pl16, one]
      refine ⟨hk2, ?_⟩
      rw [if_neg (by omega)]
      have hpl : (part (repL xs n) k).length = N := by simp [part]; omega
      refine AOp.copy1 (ts := #[]) (o' := k) (src := (((part (repL xs n) k).map iV).drop 0).take (Nat.min k (N - k))) (cs := (part (repL xs n) k).map iV) rfl (by simp [go_sem]) rfl (by simp [go_sem]) rfl (by simp [go_sem])
        (CopySrc.own (by simp [go_sem]) (by intro c hc; simp at hc; obtain ⟨x, _, rfl⟩ := hc; rfl) (N - k) (by simp [hpl]; omega)) (by simp [hpl]; omega) ?_
      have hmin : (Nat.min k (N - k)) = min k (N - k) := rfl
      have hsl : (((part (repL xs n) k).map iV).take (min k (N - k))).length = min k (N - k) := by rw [List.length_take, List.length_map, hpl]; omega
      have hps := part_step xs hx n k (min k (N - k)) hk1 (by omega) (by rw [hNN])
      have hsp : List.take k ((part (repL xs n) k).map iV) ++ List.take (min k (N - k)) ((part (repL xs n) k).map iV) ++ List.drop (k + min k (N - k)) ((part (repL xs n) k).map iV) = (part (repL xs n) (k + min k (N - k))).map iV := by
        rw [← hps, List.map_append, List.map_append, List.map_take, List.map_take, List.map_take, List.map_drop]
        congr 2
        rw [List.take_take]; congr 1; omega
      rw [hmin, List.drop_zero, hsl]
      simp [go_sem, iV, pl16, one, hsl]
      rw [w64 (by omega) (by omega)]
      refine round (k + min k (N - k)) ⟨?_, by omega, by omega⟩ (by omega) ?_
      · rcases Nat.le_total k (N - k) with h1 | h1
        · rw [Nat.min_eq_left h1, Nat.add_mod, hk1]; simp
        · rw [Nat.min_eq_right h1, Nat.add_sub_cancel' hk2, ← hNN, Nat.mul_mod_right]
      · rw [← List.append_assoc, hsp]
        refine StLe.env ?_
        simp [go_sem, iV]
    · simp at c2
      simp [go_sem, iV]
      have : k = N := by omega
      subst this
      have hp : part (repL xs n) k = repL xs n := by simp [part, hrl, hNN]; rw [List.take_of_length_le (by omega)]
      rw [hp]
      exact done (List.Sublist.refl _) (OLe.freezeSl (A := []) (by simp [hrl, hNN]) (by intro c hc; simp at hc; obtain ⟨x, _, rfl⟩ := hc; exact ⟨rfl, rfl⟩) h)
end Go.Proofs.Ytmlcfgojoglelaa
