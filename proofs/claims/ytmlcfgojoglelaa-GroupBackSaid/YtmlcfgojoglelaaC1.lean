import Derived.Test.YtmlcfgojoglelaaTy
import Derived.Test.YtmlcfgojoglelaaAwSimp
set_option maxRecDepth 100000
set_option linter.unusedSimpArgs false
set_option linter.unusedVariables false
namespace Go.Proofs.Ytmlcfgojoglelaa
open Go Go.AW Go.Proofs

def iV (n : Int) : V := .lit (.int .i64 n)
def sV (s : ByteArray) : V := .lit (.string s)
theorem take_snoc {α : Type} {l : List α} {k : Nat} {a : α} (h : l[k]? = some a) : l.take (k + 1) = l.take k ++ [a] := by
  rw [List.take_add_one, h]; rfl
theorem glyph_spec (fr to gl st c : Int) (S : List Res) (Q : Out → List Res → Prop) (h : Q (.ret (.lit (.int .i64 (IntKind.i64.wrap (gl + IntKind.i64.wrap (st * IntKind.i64.wrap (c - fr))))))) S) :
    ACall Try.prog 44 [.agg [iV fr, iV to, iV gl, iV st], iV c] S Q := by
  refine acall_of_awp Try.func44 rfl (by simp [go_sem]) (awp_sound pl0 _ (by kernel_rfl) _ _ ?_)
  simp [go_sem, iV]
  intro b hb
  exact done (by simp) h

def okSize (n : Int) : Bool := !(n == 0 || decide (n < -4) || decide (4 < n))
def rightB (l : List Int) : Bool := l.all okSize
theorem rightB_false {l : List Int} {a : Int} {k : Nat} (h : l[k]? = some a) (ha : okSize a = false) : rightB l = false := by
  have hm : a ∈ l := List.mem_iff_getElem?.2 ⟨k, h⟩
  cases hr : rightB l with
  | false => rfl
  | true => exact absurd (List.all_eq_true.1 hr a hm) (by simp [ha])
theorem right_spec (full : Bool) (l : List Int) (hl : l.length ≤ 4294967296) (S : List Res) (Q : Out → List Res → Prop) (h : Q (.ret (.lit (.bool (rightB l)))) S) :
    ACall Try.prog 30 [.sl full 1 (l.map iV)] S Q := by
  refine acall_of_awp Try.func30 rfl (by simp [go_sem]) (awp_sound pl0 _ (by kernel_rfl) _ _ ?_)
  simp [go_sem]
  refine AWP.loop (ι := Nat) (fun k => k ≤ l.length ∧ rightB (l.take k) = true) (fun k => l.length - k) (fun k => ⟨22, [(5, .sl full 1 (l.map iV)), (6, iV l.length), (7, iV k)], S, []⟩) 0 (by simp [rightB]) (StLe.env (by simp [go_sem, iV])) ?_
  rintro k ⟨hk, hr⟩
  refine awp_sound pl0 _ (by kernel_rfl) _ _ ?_
  simp [go_sem, iV]
  refine cCond_i (fun h1 => ?_) (fun h1 => ?_)
  · simp [go_sem, iV]
    simp at h1
    refine ⟨h1, fun a ha => ?_⟩
    have fin : ∀ b, okSize a = false → b = false → Done S (V.lit (.bool b)) Q := fun b hb e => by
      subst e; rw [rightB_false ha hb] at h; exact done (by simp) h
    refine cGuard_i (fun h2 => ?_) (fun h2 => ?_)
    · simp [go_sem, h2]
      exact fin _ (by simp [okSize, h2]) rfl
    · simp [go_sem, h2]
      refine cGuard_i (fun h3 => ?_) (fun h3 => ?_)
      · simp [go_sem, h2, h3]
        exact fin _ (by simp [okSize, h3]) rfl
      · simp [go_sem, h2, h3]
        refine cCond_i (fun h4 => ?_) (fun h4 => ?_)
        · simp [go_sem, h2, h3, h4]
          exact fin _ (by simp [okSize, h4]) rfl
        · simp [go_sem, h2, h3, h4]
          refine round (k + 1) ⟨by omega, ?_⟩ (by omega) ?_
          · rw [take_snoc ha]; simp [rightB, okSize, h2, h3, h4] at hr ⊢; exact hr
          · refine StLe.env ?_
            rw [w64 (by omega) (by omega)]
            simp [go_sem, iV]
  · simp [go_sem, iV, h1]
    simp at h1
    have : l.take k = l := List.take_of_length_le h1
    rw [this] at hr
    rw [hr] at h
    exact done (by simp) h


def numB (l : List UInt8) : Int := l.foldl (fun v c => v * 256 + c.toNat) 0
theorem numB_snoc (l : List UInt8) (c : UInt8) : numB (l ++ [c]) = numB l * 256 + c.toNat := by simp [numB]
theorem numB_bound (l : List UInt8) : 0 ≤ numB l ∧ numB l < 256 ^ l.length := by
  suffices h : ∀ (l : List UInt8) (v : Int) (m : Nat), 0 ≤ v → v < 256 ^ m → 0 ≤ l.foldl (fun v c => v * 256 + (c.toNat : Int)) v ∧ l.foldl (fun v c => v * 256 + (c.toNat : Int)) v < 256 ^ (m + l.length) by
    have := h l 0 0 (by decide) (by decide); simpa [numB] using this
  intro l
  induction l with
  | nil => intro v m h1 h2; exact ⟨h1, h2⟩
  | cons c l ih =>
    intro v m h1 h2
    have hc : (c.toNat : Int) < 256 := by have := c.toNat_lt; omega
    have := ih (v * 256 + c.toNat) (m + 1) (by omega) (by rw [Int.pow_succ]; omega)
    simpa [Nat.add_assoc, Nat.add_comm 1] using this

def takeV (s : ByteArray) (n : Int) : Int :=
  let v := numB (s.data.toList.take n.natAbs)
  if n < 0 ∧ 2 ^ (8 * n.natAbs - 1) ≤ v then v - 2 * 2 ^ (8 * n.natAbs - 1) else v

theorem half_eq {m : Nat} (h0 : m ≠ 0) (h4 : m ≤ 4) : 0 ≤ IntKind.i64.wrap (IntKind.i64.wrap (8 * (m : Int)) - 1) ∧ IntKind.i64.wrap (2 ^ min (IntKind.i64.wrap (IntKind.i64.wrap (8 * (m : Int)) - 1)).toNat 64) = 2 ^ (8 * m - 1) := by
  have : m = 1 ∨ m = 2 ∨ m = 3 ∨ m = 4 := by omega
  rcases this with rfl | rfl | rfl | rfl <;> decide
theorem join_eq {v : Int} {c : UInt8} (h0 : 0 ≤ v) (h1 : v < 2 ^ 40) : bits .or .i64 (IntKind.i64.wrap (v * 256)) (IntKind.i64.wrap c.toNat) = v * 256 + c.toNat := by
  have hc : (c.toNat : Int) < 256 := by have := c.toNat_lt; omega
  rw [w64 (x := v * 256) (by omega) (by omega), w64 (x := (c.toNat : Int)) (by omega) (by omega)]
  exact bits_join .i64 62 (by decide) (fun n h h' => w64 (by omega) (by omega)) 8 (v * 256) c.toNat (by omega) (by omega) (by omega) (by omega) (by omega) (by omega)

theorem take_spec (b : Nat) (s : ByteArray) (n : Int) (hn : n ≠ 0) (h1 : -4 ≤ n) (h2 : n ≤ 4) (hs : s.size ≤ 9223372036854775807) (S : List Res) (hS : findObj S b = some [sV s]) (Q : Out → List Res → Prop)
    (hp : s.size < n.natAbs → Q (.panic (.iface 24 (.int .i64 4))) S)
    (h : n.natAbs ≤ s.size → Q (.ret (iV (takeV s n))) (AW.setObj S b [sV (s.extract n.natAbs s.size)])) :
    ACall Try.prog 31 [.lit (.pointer (some ⟨b, 0, none⟩)), iV n] S Q := by
  refine acall_of_awp Try.func31 rfl (by simp [go_sem]) (awp_sound pl0 _ (by kernel_rfl) _ _ ?_)
  simp [go_sem, iV, hS, sV]
  have hm : (if n < IntKind.i64.wrap (0 - n) then IntKind.i64.wrap (0 - n) else n) = (n.natAbs : Int) := by
    rw [w64 (by omega) (by omega)]; split <;> omega
  have hm4 : n.natAbs ≤ 4 := by omega
  generalize hmm : n.natAbs = m at *
  simp only [Int.zero_sub] at hm
  rw [hm]
  refine cCond_i (fun c1 => ?_) (fun c1 => ?_)
  · simp [go_sem]
    simp at c1
    exact doneP (by simp) (hp (by omega))
  · simp at c1
    simp [go_sem, iV, hS, sV, bytesV, u8V]
    obtain ⟨bs, hbs⟩ : ∃ bs, bs = s.data.toList.take m := ⟨_, rfl⟩
    have hbl : bs.length = m := by rw [hbs]; simp; omega
    have hsz : min m s.size = m := by omega
    refine ⟨c1, by omega, ?_⟩
    refine AWP.loop (ι := Nat) (fun k => k ≤ m) (fun k => m - k) (fun k => ⟨65, [(0, .lit (.pointer (some ⟨b, 0, none⟩))), (1, iV n), (5, iV m), (6, iV (numB (bs.take k))), (28, .sl false 1 (bs.map u8V)), (29, iV m), (30, iV k)], S, []⟩) 0 (by simp)
      (StLe.env (by simp [go_sem, iV, numB, hsz, hbs, List.map_take])) ?_
    intro k hk
    refine awp_sound pl0 _ (by kernel_rfl) _ _ ?_
    simp [go_sem, iV]
    refine cCond_i (fun c2 => ?_) (fun c2 => ?_)
    · simp [go_sem, iV, u8V]
      simp at c2
      refine ⟨by omega, fun a ha => ?_⟩
      refine round (k + 1) (by omega) (by omega) ?_
      refine StLe.env ?_
      have hb := numB_bound (bs.take k)
      have hl : (bs.take k).length = k := by simp; omega
      rw [hl] at hb
      have hp4 : (256 : Int) ^ k ≤ 256 ^ 4 := by
        have : k = 0 ∨ k = 1 ∨ k = 2 ∨ k = 3 := by omega
        rcases this with rfl | rfl | rfl | rfl <;> decide
      have hj := join_eq (v := numB (bs.take k)) (c := a) hb.1 (by omega)
      rw [w64 (x := (k : Int) + 1) (by omega) (by omega)]
      simp only [take_snoc ha, numB_snoc]
      simp [go_sem, iV, u8V]
      rw [hj]; exact .refl _ _
    · simp at c2
      have hkm : k = m := by omega
      subst hkm
      have hk0 : k ≠ 0 := by omega
      have hbs' : numB (bs.take k) = numB (s.data.toList.take n.natAbs) := by rw [hmm, hbs, List.take_take, Nat.min_self]
      obtain ⟨hh0, hh⟩ := half_eq hk0 hm4
      simp [go_sem, iV, hS, sV]
      refine ⟨c1, hh0, cGuard_i (fun c3 => ?_) (fun c3 => ?_)⟩
      · simp [go_sem, c3]
        rw [hh]
        refine cCond_i (fun c4 => ?_) (fun c4 => ?_)
        · simp [go_sem, c3]
          simp at c3 c4
          refine done (List.Sublist.refl _) ?_
          have hq := h c1
          have hb := numB_bound (bs.take k)
          have hl : (bs.take k).length = k := by simp; omega
          rw [hl] at hb
          have hp4 : (256 : Int) ^ k ≤ 256 ^ 4 := by
            have : k = 1 ∨ k = 2 ∨ k = 3 ∨ k = 4 := by omega
            rcases this with rfl | rfl | rfl | rfl <;> decide
          have hp5 : (0 : Int) < 2 ^ (8 * k - 1) := Int.pow_pos (by decide)
          have he : takeV s n = numB (bs.take k) - 2 * 2 ^ (8 * k - 1) := by
            simp only [takeV]; rw [← hbs', hmm, if_pos ⟨c3, c4⟩]
          rw [w64 (x := 2 * 2 ^ (8 * k - 1)) (by omega) (by omega), w64 (by omega) (by omega)]
          rw [he] at hq
          exact hq
        · simp [go_sem, c3]
          simp at c3 c4
          refine done (List.Sublist.refl _) ?_
          have hq := h c1
          have he : takeV s n = numB (bs.take k) := by
            simp only [takeV]; rw [← hbs', hmm, if_neg (fun h => by omega)]
          rw [he] at hq
          exact hq
      · simp [go_sem, c3]
        simp at c3
        refine done (List.Sublist.refl _) ?_
        have hq := h c1
        have he : takeV s n = numB (bs.take k) := by
          simp only [takeV]; rw [← hbs', hmm, if_neg (fun h => by omega)]
        rw [he] at hq
        exact hq

end Go.Proofs.Ytmlcfgojoglelaa
