import Derived.Test.YtmlcfgojoglelaaC2
import Derived.Test.YtmlcfgojoglelaaAwFreeze
set_option maxRecDepth 100000
set_option linter.unusedSimpArgs false
set_option linter.unusedVariables false
namespace Go.Proofs.Ytmlcfgojoglelaa
open Go Go.AW Go.Proofs

def chunksI (n : Nat) (l : List Int) : List (List Int) := if h : l = [] ∨ n = 0 then [] else l.take n :: chunksI n (l.drop n)
termination_by l.length
decreasing_by
  have : l ≠ [] ∧ n ≠ 0 := not_or.1 h
  have : 0 < l.length := List.length_pos_iff.2 this.1
  simp; omega

def pl33 : Nat → DPlan
  | 3 => .take 0 (.take 1 (.take 2 (.take 3 (.take 4 (.take 5 (.take 6 .done))))))
  | _ => .done

theorem chunk_spec (full : Bool) (l : List Int) (n : Int) (hn : 1 ≤ n) (hl : l.length ≤ 4294967296) (S : List Res) (Q : Out → List Res → Prop)
    (h : Q (.ret (.func (.func 33) [] [.pe [.sl full 1 (l.map iV)], .pe [iV n]])) S) :
    ACall Try.prog 17 [.sl full 1 (l.map iV), iV n] S Q := by
  refine ACall.post ?_
  refine acall_of_awp Try.func17 rfl (by simp [go_sem]) (awp_sound pl0 _ (by kernel_rfl) _ _ ?_)
  simp [go_sem, iV]
  intro b hb b' hb'
  have hne : b' ≠ b := by simp [Fresh, blks, Res.blk] at hb'; exact hb'.1
  rw [show decide (n < 1) = false by simp; omega]
  simp [go_sem, iV, hne]
  exact done (List.Sublist.refl _) (.close2 h)

theorem chunk1_spec (y : Nat) (full : Bool) (l : List Int) (n : Nat) (hn : 1 ≤ n) (hn2 : n ≤ 4294967296) (hl : l.length ≤ 4294967296) (S : List Res) (Q : Out → List Res → Prop)
    (h : AIter Try.prog y ((chunksI n l).map fun c => [.sl true 1 (c.map iV)]) S fun S' => Q (.ret (.tuple [])) S') :
    ACall Try.prog 33 [.lit (.func (.yield y) #[] #[]), .pe [.sl full 1 (l.map iV)], .pe [iV n]] S Q := by
  refine acall_of_awp Try.func33 rfl (by simp [go_sem]) (awp_sound pl33 _ (by kernel_rfl) _ _ ?_)
  simp [go_sem, iV]
  refine AWP.loop (ι := Nat × List Res) (fun i => i.1 ≤ l.length + n ∧ AIter Try.prog y ((chunksI n (l.drop i.1)).map fun c => [.sl true 1 (c.map iV)]) i.2 fun S' => Q (.ret (.tuple [])) S') (fun i => l.length + n - i.1)
    (fun i => ⟨31, [(0, .lit (.func (.yield y) #[] #[])), (1, .pe [.sl full 1 (l.map iV)]), (2, .pe [iV n]), (4, iV i.1)], i.2, []⟩) (0, S) ⟨by omega, by simpa using h⟩ (StLe.env (by simp [go_sem, iV])) ?_
  rintro ⟨k, T⟩ ⟨hk, hit⟩
  simp only at hk hit
  refine awp_sound pl33 _ (by kernel_rfl) _ _ ?_
  simp [go_sem, iV]
  refine cCond_i (fun c1 => ?_) (fun c1 => ?_)
  · simp at c1
    have hm : IntKind.i64.wrap ((k : Int) + if l.length - k < n then ((l.length - k : Nat) : Int) else (n : Int)) = ((k + min n (l.length - k) : Nat) : Int) := by
      rw [w64 (by split <;> omega) (by split <;> omega)]; split <;> omega
    simp [go_sem, iV, pl33, one]
    rw [hm]
    refine ⟨by omega, by omega, by omega, ?_⟩
    refine AOp.yield rfl (by simp [go_sem]) rfl ?_
    simp [go_sem]
    have hne : l.drop k ≠ [] := by simp; omega
    rw [chunksI, dif_neg (by simp; omega)] at hit
    simp only [List.map_cons, AIter] at hit
    have hcs : List.drop k (List.take ((k : Int) + ((min n (l.length - k) : Nat) : Int)).toNat (List.map iV l)) = ((l.drop k).take n).map iV := by
      have e : ((k : Int) + ((min n (l.length - k) : Nat) : Int)).toNat = k + min n (l.length - k) := by omega
      rw [e, List.map_take, List.map_drop, List.drop_take]
      simp only [Nat.add_sub_cancel_left]
      rw [List.take_eq_take_iff]
      simp
    rw [hcs]
    refine hit.mono fun b S' hb => cCond_i (fun c2 => ?_) (fun c2 => ?_)
    · simp at c2
      subst c2
      simp [go_sem]
      exact done (List.Sublist.refl _) (by simpa using hb)
    · simp at c2
      subst c2
      simp [go_sem, iV]
      rw [if_pos rfl, List.drop_drop] at hb
      refine round (k + n, S') ⟨by omega, hb⟩ (by simp only; omega) (StLe.env ?_)
      rw [w64 (by omega) (by omega)]
      simp [go_sem, iV]
  · simp at c1
    simp [go_sem, iV]
    rw [List.drop_eq_nil_of_le c1, chunksI] at hit
    simp [AIter] at hit
    exact done (List.Sublist.refl _) hit
end Go.Proofs.Ytmlcfgojoglelaa
