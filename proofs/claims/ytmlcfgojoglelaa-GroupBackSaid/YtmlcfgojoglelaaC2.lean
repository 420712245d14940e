import Derived.Test.YtmlcfgojoglelaaC1
set_option maxRecDepth 100000
set_option linter.unusedSimpArgs false
set_option linter.unusedVariables false
namespace Go.Proofs.Ytmlcfgojoglelaa
open Go Go.AW Go.Proofs


def one (i : Nat) (p : DPlan) : DPlan := .alt i p .stop
def pl29 : Nat → DPlan
  | 2 => .take 0 (.take 1 (one 2 (one 3 .done)))
  | _ => .done

theorem close29_ret (b6 b7 : Nat) (S : List Res) (K : FrameMode → List Res → Prop) (h : K .returning S) :
    AClose Try.prog 29 [.pointer (some ⟨b6, 0, none⟩), .pointer (some ⟨b7, 0, none⟩)] .returning S K := by
  refine aclose_of Try.func29 rfl (by simp [go_sem]) (by simp [go_sem]) (by simp [go_sem]) .none (awp_sound pl29 _ (by kernel_rfl) _ _ ?_)
  simp [go_sem]
  exact h

theorem close29_panic (b6 b7 : Nat) (e : Int) (c6 c7 : V) (S : List Res) (K : FrameMode → List Res → Prop) (h6 : findObj S b6 = some [c6]) (hne : b6 ≠ b7) (h7 : findObj S b7 = some [c7])
    (h : K (.panicking [⟨.iface 24 (.int .i64 e), true, false⟩]) (AW.setObj (AW.setObj S b6 [.lit (.slice none 0 0)]) b7 [iV e])) :
    AClose Try.prog 29 [.pointer (some ⟨b6, 0, none⟩), .pointer (some ⟨b7, 0, none⟩)] (.panicking [⟨.iface 24 (.int .i64 e), false, false⟩]) S K := by
  refine aclose_of Try.func29 rfl (by simp [go_sem]) (by simp [go_sem]) (by simp [go_sem]) (.some _) (awp_sound pl29 _ (by kernel_rfl) _ _ ?_)
  simp [go_sem, pl29, one, h6, findObj_setObj_ne hne, h7]
  exact h

def readL (s : ByteArray) : List Int → Option (List Int)
  | [] => some []
  | n :: ns => if s.size < n.natAbs then none else (readL (s.extract n.natAbs s.size) ns).map (takeV s n :: ·)
def getV (s : ByteArray) (p : Int) (sizes : List Int) : List Int × Int :=
  if p < 0 ∨ rightB sizes = false then ([], 1) else if (s.size : Int) < p then ([], 4) else
  match readL (s.extract p.toNat s.size) sizes with
  | none => ([], 4)
  | some l => (l, 0)

def pl15 : Nat → DPlan
  | 10 => .take 1 (.take 2 (.alt 0 (one 3 (one 4 (one 5 (one 6 .done)))) (.alt 3 (.alt 0 (one 4 (one 5 (one 6 .done))) (.alt 4 (one 0 (one 5 (one 6 .done))) .stop)) .stop)))
  | _ => .done

theorem get_spec (full : Bool) (s : ByteArray) (p : Int) (sizes : List Int) (hs : s.size ≤ 9223372036854775807) (hl : sizes.length ≤ 4294967296) (S : List Res) (Q : Out → List Res → Prop)
    (h : Q (.ret (.tuple [.sl false 1 ((getV s p sizes).1.map iV), iV (getV s p sizes).2])) S) :
    ACall Try.prog 15 [sV s, iV p, .sl full 1 (sizes.map iV)] S Q := by
  refine acall_of_awpM Try.func15 rfl (by simp [go_sem]) (awp_sound pl15 _ (by kernel_rfl) _ _ ?_)
  simp [go_sem, sV, iV]
  intro b6 hb6 b7 hb7
  have h67 : b7 ≠ b6 := by simp [Fresh, blks, Res.blk] at hb7; exact hb7.1
  have fin : ∀ (e : Int) (S' : List Res), S.Sublist S' → getV s p sizes = ([], e) → Done S' (.tuple [.lit (.slice none 0 0), .lit (.int .i64 e)]) Q := fun e S' hs hg => by
    rw [hg] at h
    exact ⟨_, S, VLe.tuple (.cons (VLe.nilSl _ false 1) (.cons (.refl _ _) (.nil _))), .drop hs, h⟩
  have sub2 : ∀ (a b : Res) , S.Sublist (a :: b :: S) := fun a b => (List.sublist_cons_self _ _).trans (List.sublist_cons_self _ _)
  refine cGuard_i (fun c1 => ?_) (fun c1 => ?_)
  · simp [go_sem, h67, c1]
    refine close29_ret _ _ _ _ ?_
    simp [go_sem, h67]
    simp at c1
    exact fin 1 _ (sub2 _ _) (by simp [getV, c1])
  · simp [go_sem, h67, c1]
    refine .refl (right_spec full sizes hl _ _ ?_)
    simp [go_sem, h67]
    simp at c1
    refine cCond_i (fun c2 => ?_) (fun c2 => ?_)
    · simp [go_sem, h67]
      refine close29_ret _ _ _ _ ?_
      simp [go_sem, h67]
      simp at c2
      exact fin 1 _ (sub2 _ _) (by simp [getV, c2])
    · simp [go_sem, h67]
      simp at c2
      refine cCond_i (fun c3 => ?_) (fun c3 => ?_)
      · simp [go_sem, h67]
        refine close29_ret _ _ _ _ ?_
        simp [go_sem, h67]
        simp at c3
        exact fin 4 _ (sub2 _ _) (by simp [getV, c2, c3]; omega)
      · simp [go_sem, h67]
        simp at c3
        refine ⟨c1, c3, fun b hb => ?_⟩
        have hb7' : b ≠ b7 := by simp [Fresh, blks, Res.blk] at hb; exact hb.1
        have hb6' : b ≠ b6 := by simp [Fresh, blks, Res.blk] at hb; exact hb.2.1
        have h67' := Ne.symm h67
        refine AWP.loop (ι := Nat × List Int × ByteArray × Option Addr × Nat)
          (fun i => i.1 ≤ sizes.length ∧ i.2.1.length = i.1 ∧ i.2.2.1.size ≤ s.size ∧ readL (s.extract p.toNat s.size) sizes = (readL i.2.2.1 (sizes.drop i.1)).map (i.2.1 ++ ·)) (fun i => sizes.length - i.1)
          (fun i => ⟨44, [(6, .lit (.pointer (some ⟨b6, 0, none⟩))), (7, .lit (.pointer (some ⟨b7, 0, none⟩))), (8, .lit (.pointer (some ⟨b, 0, none⟩))), (30, .sl full 1 (sizes.map iV)), (31, iV sizes.length), (32, iV i.1)],
            .vec 41 i.2.2.2.1 i.2.2.2.2 1 (i.2.1.map iV) :: .obj b [sV i.2.2.1] :: .obj b7 [iV 0] :: .obj b6 [.vs 41 i.2.2.2.1 i.2.1.length i.2.2.2.2] :: S,
            [⟨.fn (.func 29) #[.pointer (some ⟨b6, 0, none⟩), .pointer (some ⟨b7, 0, none⟩)], #[]⟩]⟩) (0, [], s.extract p.toNat s.size, none, 0)
          ⟨by simp, by simp, by simp, by simp⟩ ?_ ?_
        · refine (StLe.env (env' := [(6, .lit (.pointer (some ⟨b6, 0, none⟩))), (7, .lit (.pointer (some ⟨b7, 0, none⟩))), (8, .lit (.pointer (some ⟨b, 0, none⟩))), (30, .sl full 1 (sizes.map iV)), (31, iV sizes.length), (32, iV 0)]) (by simp [go_sem, iV])).trans ?_
          refine .ofS ((SLe.obj (A := [_, _]) (fun G us h => VRels.nil_vs 41 h)).trans (SLe.vecNil _ 41 1))
        · rintro ⟨k, acc, rest, a, cap⟩ ⟨hk, hacc, hrest, hread⟩
          simp only at hk hacc hrest hread
          refine awp_sound pl15 _ (by kernel_rfl) _ _ ?_
          simp [go_sem, iV]
          refine cCond_i (fun c4 => ?_) (fun c4 => ?_)
          · simp [go_sem, iV]
            simp at c4
            refine ⟨c4, fun n hn => ?_⟩
            have hok : okSize n = true := List.all_eq_true.1 c2 n (List.mem_iff_getElem?.2 ⟨k, hn⟩)
            simp [okSize] at hok
            simp [go_sem, iV, pl15, one, hb6', hb7', h67, h67', Ne.symm hb6', Ne.symm hb7']
            have hget : sizes.drop k = n :: sizes.drop (k + 1) := by rw [List.drop_eq_getElem_cons c4]; rw [(List.getElem?_eq_some_iff.1 hn).2]
            have hfind : findObj (.vec 41 a cap 1 (acc.map iV) :: .obj b [sV rest] :: .obj b7 [iV 0] :: .obj b6 [.vs 41 a acc.length cap] :: S) b = some [sV rest] := by simp [findObj]
            have hpan : rest.size < n.natAbs → getV s p sizes = ([], 4) := fun hlt => by
              rw [hget] at hread
              simp only [readL, if_pos hlt, Option.map_none] at hread
              simp [getV, c2, hread]
              omega
            have nextOk : n.natAbs ≤ rest.size → k + 1 ≤ sizes.length ∧ (acc ++ [takeV rest n]).length = k + 1 ∧ (rest.extract n.natAbs rest.size).size ≤ s.size ∧ readL (s.extract p.toNat s.size) sizes = (readL (rest.extract n.natAbs rest.size) (sizes.drop (k + 1))).map (acc ++ [takeV rest n] ++ ·) := fun hle => by
              rw [hget] at hread
              simp only [readL, if_neg (show ¬ rest.size < n.natAbs by omega)] at hread
              refine ⟨c4, by simp [hacc], by simp; omega, ?_⟩
              rw [hread, Option.map_map]
              congr 1
              funext x
              simp
            refine ⟨.refl (take_spec b rest n hok.1.1 hok.1.2 hok.2 (by omega) _ hfind _ (fun hlt => ?_) (fun hle => ?_)), .refl (take_spec b rest n hok.1.1 hok.1.2 hok.2 (by omega) _ hfind _ (fun hlt => ?_) (fun hle => ?_))⟩
            · simp [go_sem]
              refine close29_panic b6 b7 4 (.vs 41 a acc.length cap) (iV 0) _ _ (by simp [findObj, hb6', h67]) h67' (by simp [findObj, hb7']) ?_
              simp [go_sem, AW.setObj, findObj, hb6', hb7', h67, h67', iV]
              exact fin 4 _ ((sub2 _ _).trans ((List.sublist_cons_self _ _).trans (List.sublist_cons_self _ _))) (hpan hlt)
            · simp [go_sem, iV, hb6', hb7', h67, h67', Ne.symm hb6', Ne.symm hb7', AW.setObj, findObj]
              refine ⟨by omega, fun a'' cap'' => ?_⟩
              refine round (k + 1, acc ++ [takeV rest n], rest.extract n.natAbs rest.size, a'', cap'') (nextOk hle) (by simp only; omega) ?_
              simp only [List.map_append, List.map_cons, List.map_nil, List.length_append, List.length_cons, List.length_nil, Nat.zero_add, iV, sV]
              refine StLe.env ?_
              rw [w64 (by omega) (by omega)]
              simp [go_sem, iV]
            · simp [go_sem]
              refine close29_panic b6 b7 4 (.vs 41 a acc.length cap) (iV 0) _ _ (by simp [findObj, hb6', h67]) h67' (by simp [findObj, hb7']) ?_
              simp [go_sem, AW.setObj, findObj, hb6', hb7', h67, h67', iV]
              exact fin 4 _ ((sub2 _ _).trans ((List.sublist_cons_self _ _).trans (List.sublist_cons_self _ _))) (hpan hlt)
            · simp [go_sem, iV, hb6', hb7', h67, h67', Ne.symm hb6', Ne.symm hb7', AW.setObj, findObj]
              refine ⟨⟨by omega, fun a'' cap'' => ?_⟩, by omega, fun a'' cap'' => ?_⟩
              · refine round (k + 1, acc ++ [takeV rest n], rest.extract n.natAbs rest.size, a'', cap'') (nextOk hle) (by simp only; omega) ?_
                simp only [List.map_append, List.map_cons, List.map_nil, List.length_append, List.length_cons, List.length_nil, Nat.zero_add, iV, sV]
                refine StLe.env ?_
                rw [w64 (by omega) (by omega)]
                simp [go_sem, iV]
              · refine round (k + 1, acc ++ [takeV rest n], rest.extract n.natAbs rest.size, a'', cap'') (nextOk hle) (by simp only; omega) ?_
                simp only [List.map_append, List.map_cons, List.map_nil, List.length_append, List.length_cons, List.length_nil, Nat.zero_add, iV, sV]
                refine StLe.env ?_
                rw [w64 (by omega) (by omega)]
                simp [go_sem, iV]
          · simp [go_sem, iV, sV, hb6', hb7', h67, h67', Ne.symm hb6', Ne.symm hb7', AW.setObj, findObj]
            refine close29_ret _ _ _ _ ?_
            simp [go_sem, iV, sV, hb6', hb7', h67, h67', findObj]
            simp at c4
            have hd : sizes.drop k = [] := List.drop_eq_nil_of_le c4
            rw [hd] at hread
            simp only [readL, Option.map_some, List.append_nil] at hread
            have hg : getV s p sizes = (acc, 0) := by
              unfold getV
              rw [if_neg (by simp [c2]; omega), if_neg (by omega), hread]
            rw [hg] at h
            exact done ((sub2 _ _).trans ((List.sublist_cons_self _ _).trans (List.sublist_cons_self _ _))) h
end Go.Proofs.Ytmlcfgojoglelaa
