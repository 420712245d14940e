/- The references of layer 3: One, Bytes. -/
import Derived.Test.YtmlcfgojoglelaaC14
set_option maxRecDepth 100000
set_option linter.unusedSimpArgs false
set_option linter.unusedVariables false
set_option pp.maxSteps 3000
set_option pp.deepTerms false
namespace Go.Proofs.Ytmlcfgojoglelaa
open Go Go.AW Go.Proofs

def bstr (l : List UInt8) : ByteArray := ⟨l.toArray⟩
theorem bstr_size (l : List UInt8) : (bstr l).size = l.length := by simp [bstr, ByteArray.size]
theorem bstr_append (a b : List UInt8) : bstr a ++ bstr b = bstr (a ++ b) := by
  apply ByteArray.ext; simp [bstr]
theorem ba_len (s : ByteArray) : s.data.toList.length = s.size := by simp
theorem ba_get (s : ByteArray) (i : Nat) : s[i]? = s.data.toList[i]? := by
  by_cases h : i < s.size
  · rw [getElem?_pos s i h, List.getElem?_eq_getElem (by rw [ba_len]; exact h)]; rfl
  · rw [getElem?_neg s i h, List.getElem?_eq_none (by rw [ba_len]; omega)]
theorem numB_small (l : List UInt8) (h : l.length ≤ 7) : 0 ≤ numB l ∧ numB l < 72057594037927936 := by
  have hb := numB_bound l
  have hp : (256 : Int) ^ l.length ≤ 256 ^ 7 := by
    generalize l.length = m at *
    have : m = 0 ∨ m = 1 ∨ m = 2 ∨ m = 3 ∨ m = 4 ∨ m = 5 ∨ m = 6 ∨ m = 7 := by omega
    rcases this with rfl | rfl | rfl | rfl | rfl | rfl | rfl | rfl <;> decide
  exact ⟨hb.1, by omega⟩

theorem refOne_spec (s : ByteArray) (size : Int) (h0 : 0 ≤ size) (hs : s.size ≤ 7) (S : List Res) (Q : Out → List Res → Prop) (h : Q (.ret (iV (numB s.data.toList))) S) :
    ACall Try.prog 19 [sV s, iV size] S Q := by
  refine acall_of_awp Try.func19 rfl (by simp [go_sem]) (awp_sound pl0 _ (by kernel_rfl) _ _ ?_)
  simp [go_sem, iV, sV]
  have hl := ba_len s
  refine AWP.loop (ι := Nat × Int) (fun i => i.1 ≤ s.size ∧ i.2 = numB (s.data.toList.take i.1)) (fun i => s.size - i.1) (fun i => ⟨36, [(0, sV s), (1, iV size), (5, iV i.2), (6, iV i.1)], S, []⟩) (0, 0) ⟨by simp, by simp [numB]⟩ (StLe.env (by simp [go_sem, iV, sV])) ?_
  rintro ⟨k, v⟩ ⟨hk, hv⟩
  simp only at hk hv
  refine awp_sound pl0 _ (by kernel_rfl) _ _ ?_
  simp [go_sem, iV, sV]
  refine cCond_i (fun c1 => ?_) (fun c1 => ?_)
  · simp at c1
    have hb := numB_small (s.data.toList.take k) (by simp; omega)
    rw [← hv] at hb
    simp [go_sem, iV, sV]
    refine ⟨by omega, fun x hx => ?_⟩
    rw [ba_get] at hx
    have hc : (x.toNat : Int) < 256 := by have := x.toNat_lt; omega
    have hb2 := numB_small (s.data.toList.take (k + 1)) (by simp; omega)
    have e := numB_snoc (s.data.toList.take k) x
    rw [← take_snoc hx, ← hv] at e
    have hw : IntKind.i64.wrap (IntKind.i64.wrap (256 * v) + IntKind.i64.wrap x.toNat) = numB (s.data.toList.take (k + 1)) := by
      rw [w64 (x := (x.toNat : Int)) (by omega) (by omega), w64 (x := 256 * v) (by omega) (by omega), w64 (by omega) (by omega)]; omega
    refine round (k + 1, numB (s.data.toList.take (k + 1))) ⟨by simp only; omega, rfl⟩ (by simp only; omega) (StLe.env ?_)
    rw [hw, w64 (x := (k : Int) + 1) (by omega) (by omega)]
    simp [go_sem, iV, sV]
  · simp at c1
    have e : s.data.toList.take k = s.data.toList := List.take_of_length_le (by omega)
    rw [e] at hv
    simp [go_sem, iV, sV]
    rw [show decide (size < 0) = false by simp; omega]
    simp [go_sem, iV, sV]
    rw [hv]
    exact done (List.Sublist.refl _) h

theorem byteK_eq (v : Int) (h : 0 ≤ v) (k : Nat) : IntKind.u8.wrap ((v / 256 ^ k).tmod 256) = ((byteK v k).toNat : Int) := by
  have h2 : (2 : Int) ^ (8 * k) = 256 ^ k := by rw [Int.pow_mul, show (2 : Int) ^ 8 = 256 by decide]
  have h3 : (0 : Int) < 256 ^ k := Int.pow_pos (by decide)
  have h4 : 0 ≤ v / 256 ^ k := Int.ediv_nonneg h (by omega)
  rw [Int.tmod_eq_emod_of_nonneg h4, u8_wrap, byteK, h2, Int.fdiv_eq_ediv_of_nonneg _ (by omega), Int.emod_emod_of_dvd _ (by decide)]

theorem refBytes_spec (v : Int) (n : Nat) (h0 : 0 ≤ v) (hv : v ≤ 9223372036854775807) (hn : n ≤ 8) (S : List Res) (Q : Out → List Res → Prop) (h : Q (.ret (sV (bstr (bytesOf v n)))) S) :
    ACall Try.prog 26 [iV v, iV n] S Q := by
  refine acall_of_awp Try.func26 rfl (by simp [go_sem]) (awp_sound pl0 _ (by kernel_rfl) _ _ ?_)
  simp [go_sem, iV, sV]
  rw [show decide (v < 0) = false by simp; omega]
  simp [go_sem, iV, sV]
  refine AWP.loop (ι := Nat) (fun k => k ≤ n) (fun k => n - k) (fun k => ⟨28, [(0, iV (v / 256 ^ k)), (1, iV n), (5, sV (bstr (bytesOf v k))), (6, iV k)], S, []⟩) 0 (by simp) (StLe.env (by simp [go_sem, iV, sV, bytesOf, bstr])) ?_
  intro k hk
  have h3 : (0 : Int) < 256 ^ k := Int.pow_pos (by decide)
  have h4 : 0 ≤ v / 256 ^ k := Int.ediv_nonneg h0 (by omega)
  have h5 : v / 256 ^ k ≤ v := Int.ediv_le_self _ h0
  have hbl := bytesOf_length v k
  refine awp_sound pl0 _ (by kernel_rfl) _ _ ?_
  simp [go_sem, iV, sV]
  refine cCond_i (fun c1 => ?_) (fun c1 => ?_)
  · simp at c1
    simp [go_sem, iV, sV]
    refine ⟨bstr [byteK v k], by rw [byteK_eq v h0]; rfl, ?_⟩
    simp [go_sem, iV, sV, bstr_size, bstr_append]
    refine ⟨by omega, ?_⟩
    refine round (k + 1) (by omega) (by omega) (StLe.env ?_)
    have e : IntKind.i64.wrap ((v / 256 ^ k).tdiv 256) = v / 256 ^ (k + 1) := by
      rw [Int.tdiv_eq_ediv_of_nonneg h4, Int.pow_succ, ← Int.ediv_ediv_of_nonneg (by omega)]
      rw [w64 (by omega) (by omega)]
    rw [e, w64 (x := (k : Int) + 1) (by omega) (by omega)]
    simp [go_sem, iV, sV, bytesOf]
  · simp at c1
    obtain rfl : k = n := by omega
    simp [go_sem, iV, sV]
    exact done (List.Sublist.refl _) h
end Go.Proofs.Ytmlcfgojoglelaa
