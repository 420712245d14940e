/- group.Split. -/
import Derived.Test.YtmlcfgojoglelaaC10
set_option maxRecDepth 100000
set_option linter.unusedSimpArgs false
set_option linter.unusedVariables false
set_option pp.maxSteps 3000
set_option pp.deepTerms false
namespace Go.Proofs.Ytmlcfgojoglelaa
open Go Go.AW Go.Proofs

def splitAll (l : List Sp) (step : Int) : List Sp := l.flatMap fun x => partsL x step
def splitV (l : List Sp) (step : Int) : List Sp × Int :=
  if isB l = false ∨ step < 0 ∨ 1 < step then ([], 1) else if 65536 < (splitAll l step).length then ([], 7) else (splitAll l step, 0)

theorem split_spec (full : Bool) (l : List Sp) (step : Int) (hl : l.length ≤ 4294967296) (S : List Res) (Q : Out → List Res → Prop)
    (h : Q (.ret (.tuple [.sl false 4 ((splitV l step).1.map Sp.v), iV (splitV l step).2])) S) :
    ACall Try.prog 8 [.sl full 4 (l.map Sp.v), iV step] S Q := by
  refine acall_of_awpM Try.func8 rfl (by simp [go_sem]) (awp_sound pl0 _ (by kernel_rfl) _ _ ?_)
  simp [go_sem, iV]
  intro b4 hb4 b5 hb5
  have h54 : b5 ≠ b4 := by simp [Fresh, blks, Res.blk] at hb5; exact hb5.1
  have h45 := Ne.symm h54
  refine .refl (is_spec full l hl _ _ ?_)
  simp [go_sem]
  have fin : ∀ (e : Int) (S' : List Res), S.Sublist S' → splitV l step = ([], e) → Done S' (.tuple [.lit (.slice none 0 0), .lit (.int .i64 e)]) Q := fun e S' hs hg => by
    rw [hg] at h
    exact ⟨_, S, VLe.tuple (.cons (VLe.nilSl _ false 4) (.cons (.refl _ _) (.nil _))), .drop hs, h⟩
  have sub2 : ∀ (a b : Res), S.Sublist (a :: b :: S) := fun a b => (List.sublist_cons_self _ _).trans (List.sublist_cons_self _ _)
  refine cGuard_i (fun c1 => ?_) (fun c1 => ?_)
  · simp [go_sem, iV, c1, h54, h45]
    simp at c1
    exact fin 1 _ (sub2 _ _) (by simp [splitV, c1])
  simp [go_sem, iV, c1]
  refine cGuard_i (fun c2 => ?_) (fun c2 => ?_)
  · simp [go_sem, iV, c2, h54, h45]
    simp at c2
    exact fin 1 _ (sub2 _ _) (by simp [splitV, c2])
  simp [go_sem, iV, c2]
  refine cCond_i (fun c3 => ?_) (fun c3 => ?_)
  · simp [go_sem, iV, h54, h45]
    simp at c3
    exact fin 1 _ (sub2 _ _) (by simp [splitV, c3])
  simp [go_sem, iV]
  simp at c1 c2 c3
  have hok : ∀ x ∈ l, x.ok = true := by
    have := c1; simp only [isB, Bool.and_eq_true] at this; exact List.all_eq_true.1 this.1.2
  intro b6 hb6
  have h65 : b6 ≠ b5 ∧ b6 ≠ b4 ∧ Fresh b6 S := by simp [Fresh, blks, Res.blk] at hb6 ⊢; exact hb6
  obtain ⟨h65, h64, hb6S⟩ := h65
  have h56 := Ne.symm h65
  have h46 := Ne.symm h64
  have hsp : splitV l step = if 65536 < (splitAll l step).length then ([], 7) else (splitAll l step, 0) := by
    simp only [splitV]; rw [if_neg (by simp [c1]; omega)]
  refine AWP.loop (ι := Nat × Option Addr × Nat × List Nat) (fun i => i.1 ≤ l.length ∧ (splitAll (l.take i.1) step).length ≤ 65536) (fun i => l.length - i.1)
    (fun i => ⟨40, [(1, iV step), (4, .lit (.pointer (some ⟨b4, 0, none⟩))), (5, .lit (.pointer (some ⟨b5, 0, none⟩))), (6, .lit (.pointer (some ⟨b6, 0, none⟩))), (21, .sl full 4 (l.map Sp.v)), (22, iV l.length), (23, iV i.1)],
      raws i.2.2.2 ++ (.vec 37 i.2.1 i.2.2.1 4 ((splitAll (l.take i.1) step).map Sp.v) :: .obj b6 [.vs 37 i.2.1 (splitAll (l.take i.1) step).length i.2.2.1] :: .obj b5 [iV 0] :: .obj b4 [.lit (.slice none 0 0)] :: S), marks i.2.2.2⟩)
    (0, none, 0, []) ⟨by simp, by simp [splitAll]⟩ ?_ ?_
  · refine (StLe.env (env' := [(1, iV step), (4, .lit (.pointer (some ⟨b4, 0, none⟩))), (5, .lit (.pointer (some ⟨b5, 0, none⟩))), (6, .lit (.pointer (some ⟨b6, 0, none⟩))), (21, .sl full 4 (l.map Sp.v)), (22, iV l.length), (23, iV 0)]) (by simp [go_sem, iV])).trans ?_
    exact .ofS ((SLe.obj (A := []) (fun G us h => VRels.nil_vs 37 h)).trans (SLe.vecNil _ 37 4))
  rintro ⟨k, a, cap, dbs⟩ ⟨hk, hlen⟩
  simp only at hk hlen
  refine awp_sound pl0 _ (by kernel_rfl) _ _ ?_
  simp [go_sem, iV]
  refine cCond_i (fun c4 => ?_) (fun c4 => ?_)
  · simp at c4
    simp [go_sem, iV, Sp.v]
    refine ⟨c4, fun x hx b8 hb8 => ?_⟩
    have hxm : x ∈ l := List.mem_iff_getElem?.2 ⟨k, hx⟩
    refine .refl (parts_spec x step _ _ fun b2 b3 hb2 hb3 hb32 => ?_)
    simp [go_sem, iV]
    refine AWP.rangeFunc rfl (by simp [go_sem]) fun db y hdb hy hdby => ?_
    simp [go_sem, iV]
    have n42 : b4 ≠ b2 := fun e => by simp [Fresh, blks, Res.blk, blks_append, blks_raws, e] at hb2
    have n43 : b4 ≠ b3 := fun e => by simp [Fresh, blks, Res.blk, blks_append, blks_raws, e] at hb3
    have n52 : b5 ≠ b2 := fun e => by simp [Fresh, blks, Res.blk, blks_append, blks_raws, e] at hb2
    have n53 : b5 ≠ b3 := fun e => by simp [Fresh, blks, Res.blk, blks_append, blks_raws, e] at hb3
    have n62 : b6 ≠ b2 := fun e => by simp [Fresh, blks, Res.blk, blks_append, blks_raws, e] at hb2
    have n63 : b6 ≠ b3 := fun e => by simp [Fresh, blks, Res.blk, blks_append, blks_raws, e] at hb3
    have n82 : b8 ≠ b2 := fun e => by simp [Fresh, blks, Res.blk, blks_append, blks_raws, e] at hb2
    have n83 : b8 ≠ b3 := fun e => by simp [Fresh, blks, Res.blk, blks_append, blks_raws, e] at hb3
    generalize hacc : splitAll (l.take k) step = acc0 at *
    generalize hlp : Res.lp y 40 _ LoopState.ready none _ _ _ db = LP
    have roundS : ∀ (z : Sp) (acc : List Sp) (a : Option Addr) (cap : Nat) (c2 : List V) (R : Bool → List Res → Prop), acc.length ≤ 65536 →
        (acc.length = 65536 → R false (setLp y .done (some .ret) (LP :: Res.raw db (Obj.deferred (some [])) :: Res.obj b3 [V.lit (.int .i64 step)] :: Res.obj b2 c2 :: (raws dbs ++ Res.obj b5 [iV 7] :: Res.obj b4 [.lit (.slice none 0 0)] :: S)))) →
        (acc.length < 65536 → ∀ a' cap', R true (LP :: Res.raw db (Obj.deferred (some [])) :: Res.obj b3 [V.lit (.int .i64 step)] :: Res.obj b2 c2 :: (raws dbs ++ Res.vec 37 a' cap' 4 ((acc ++ [z]).map Sp.v) :: Res.obj b6 [.vs 37 a' (acc ++ [z]).length cap'] :: Res.obj b5 [iV 0] :: Res.obj b4 [.lit (.slice none 0 0)] :: S))) →
        ARound Try.prog y [z.v] (LP :: Res.raw db (Obj.deferred (some [])) :: Res.obj b3 [V.lit (.int .i64 step)] :: Res.obj b2 c2 :: (raws dbs ++ Res.vec 37 a cap 4 (acc.map Sp.v) :: Res.obj b6 [.vs 37 a acc.length cap] :: Res.obj b5 [iV 0] :: Res.obj b4 [.lit (.slice none 0 0)] :: S)) R := by
      intro z acc a cap c2 R hal hR7 hR
      subst hlp
      refine ARound.post (ARound.of_body (if_pos rfl) rfl (by simp [go_sem]) ?_)
      refine awp_sound pl0 _ (by kernel_rfl) _ _ ?_
      simp [go_sem, assignEnv, Sp.v, iV]
      intro b9 hb9
      have n49 : b9 ≠ b4 := fun e => by simp [Fresh, blks, Res.blk, blks_append, blks_raws, e] at hb9
      have n59 : b9 ≠ b5 := fun e => by simp [Fresh, blks, Res.blk, blks_append, blks_raws, e] at hb9
      have n69 : b9 ≠ b6 := fun e => by simp [Fresh, blks, Res.blk, blks_append, blks_raws, e] at hb9
      refine awp_sound pl0 _ (by kernel_rfl) _ _ ?_
      simp [go_sem, iV, findObj_raws, setObj_raws, findVec_raws, setVec_raws, n49, n59, n69, Ne.symm n49, Ne.symm n59, Ne.symm n69, n62, n63, Ne.symm n62, Ne.symm n63]
      refine cCond_i (fun c5 => ?_) (fun c5 => ?_)
      · simp [go_sem, iV, findObj_raws, setObj_raws, findVec_raws, setVec_raws, n49, n59, n69, Ne.symm n49, Ne.symm n59, Ne.symm n69, n42, n43, Ne.symm n42, Ne.symm n43, n52, n53, Ne.symm n52, Ne.symm n53, h54, h45, h65, h56, h64, h46]
        simp at c5
        have := hR7 (by omega)
        simp only [setLp_lp, if_true] at this
        exact ⟨_, .drop (by (repeat (first | exact List.Sublist.refl _ | refine List.Sublist.cons_cons _ ?_ | refine List.Sublist.append (List.Sublist.refl _) ?_ | refine List.Sublist.cons _ ?_))), this⟩
      · simp [go_sem, iV, findObj_raws, setObj_raws, findVec_raws, setVec_raws, n49, n59, n69, Ne.symm n49, Ne.symm n59, Ne.symm n69, n62, n63, Ne.symm n62, Ne.symm n63]
        simp at c5
        refine ⟨by omega, fun a'' cap'' => ?_⟩
        have := hR (by omega) a'' cap''
        simp only [List.map_append, List.map_cons, List.map_nil, List.length_append, List.length_cons, List.length_nil, Nat.zero_add, Sp.v, iV] at this
        exact ⟨_, .drop (by (repeat (first | exact List.Sublist.refl _ | refine List.Sublist.cons_cons _ ?_ | refine List.Sublist.append (List.Sublist.refl _) ?_ | refine List.Sublist.cons _ ?_))), this⟩
    have hxo := hok x hxm
    have iter : ∀ (zs : List Sp) (acc : List Sp) (a : Option Addr) (cap : Nat) (Qe : List Res → Prop), acc.length ≤ 65536 →
        (65536 < (acc ++ zs).length → Qe (setLp y .done (some .ret) (LP :: Res.raw db (Obj.deferred (some [])) :: Res.obj b3 [V.lit (.int .i64 step)] :: Res.obj b2 (cellsSp x) :: (raws dbs ++ Res.obj b5 [iV 7] :: Res.obj b4 [.lit (.slice none 0 0)] :: S)))) →
        ((acc ++ zs).length ≤ 65536 → ∀ a' cap', Qe (LP :: Res.raw db (Obj.deferred (some [])) :: Res.obj b3 [V.lit (.int .i64 step)] :: Res.obj b2 (cellsSp x) :: (raws dbs ++ Res.vec 37 a' cap' 4 ((acc ++ zs).map Sp.v) :: Res.obj b6 [.vs 37 a' (acc ++ zs).length cap'] :: Res.obj b5 [iV 0] :: Res.obj b4 [.lit (.slice none 0 0)] :: S))) →
        AIterJ Try.prog y (fun S' => findObj S' b2 = some (cellsSp x) ∧ findObj S' b3 = some [iV step]) (zs.map fun z => [z.v]) (LP :: Res.raw db (Obj.deferred (some [])) :: Res.obj b3 [V.lit (.int .i64 step)] :: Res.obj b2 (cellsSp x) :: (raws dbs ++ Res.vec 37 a cap 4 (acc.map Sp.v) :: Res.obj b6 [.vs 37 a acc.length cap] :: Res.obj b5 [iV 0] :: Res.obj b4 [.lit (.slice none 0 0)] :: S)) Qe := by
      intro zs
      induction zs with
      | nil => intro acc a cap Qe hal h7 h0; simp only [List.map_nil, AIterJ]; simpa using h0 (by simpa using hal) a cap
      | cons z zs ih =>
        intro acc a cap Qe hal h7 h0
        simp only [List.map_cons, AIterJ]
        refine roundS z acc a cap _ _ hal (fun e => ⟨?_, ?_⟩) (fun e a' cap' => ⟨?_, ?_⟩)
        · subst hlp; simp [go_sem, iV, hb32, Ne.symm hb32]
        · rw [if_neg (by simp)]; exact h7 (by simp; omega)
        · subst hlp; simp [go_sem, iV, hb32, Ne.symm hb32]
        · rw [if_pos rfl]
          exact ih (acc ++ [z]) a' cap' Qe (by simp; omega) (by simpa using h7) (by simpa using h0)
    refine ACall.pre (S' := LP :: Res.raw db (Obj.deferred (some [])) :: Res.obj b3 [V.lit (.int .i64 step)] :: Res.obj b2 (cellsSp x) :: (raws dbs ++ Res.vec 37 a cap 4 (acc0.map Sp.v) :: Res.obj b6 [.vs 37 a acc0.length cap] :: Res.obj b5 [iV 0] :: Res.obj b4 [.lit (.slice none 0 0)] :: S)) (.drop (by (repeat (first | exact List.Sublist.refl _ | refine List.Sublist.cons_cons _ ?_ | refine List.Sublist.append (List.Sublist.refl _) ?_ | refine List.Sublist.cons _ ?_)))) ?_
    generalize hRQ : rangeQ none _ y _ _ = RQ
    have hstep : splitAll (l.take (k + 1)) step = acc0 ++ partsL x step := by
      rw [← hacc, take_snoc hx]; simp [splitAll]
    have hq1 : ∀ (c2 : List V) (acc1 : List Sp) (a' : Option Addr) (cap' : Nat), acc1 = acc0 ++ partsL x step → acc1.length ≤ 65536 → RQ (.ret (.tuple [])) (LP :: Res.raw db (Obj.deferred (some [])) :: Res.obj b3 [V.lit (.int .i64 step)] :: Res.obj b2 c2 :: (raws dbs ++ Res.vec 37 a' cap' 4 (acc1.map Sp.v) :: Res.obj b6 [.vs 37 a' acc1.length cap'] :: Res.obj b5 [iV 0] :: Res.obj b4 [.lit (.slice none 0 0)] :: S)) := by
      intro c2 acc1 a' cap' e hal
      subst hRQ hlp
      simp [go_sem, iV]
      rw [e] at hal ⊢
      rw [← hstep] at hal ⊢
      refine round (k + 1, a', cap', db :: dbs) ⟨by simp only; omega, hal⟩ (by simp only; omega) ?_
      rw [w64 (by omega) (by omega)]
      refine StLe.trans (StLe.drop (S' := raws (db :: dbs) ++ (Res.vec 37 a' cap' 4 ((splitAll (l.take (k + 1)) step).map Sp.v) :: Res.obj b6 [.vs 37 a' (splitAll (l.take (k + 1)) step).length cap'] :: Res.obj b5 [iV 0] :: Res.obj b4 [.lit (.slice none 0 0)] :: S)) (List.Sublist.cons_cons _ (by (repeat (first | exact List.Sublist.refl _ | refine List.Sublist.cons_cons _ ?_ | refine List.Sublist.append (List.Sublist.refl _) ?_ | refine List.Sublist.cons _ ?_))))) (StLe.env ?_)
      simp [go_sem, iV]
    have hq7 : ∀ (c2 : List V), 65536 < (acc0 ++ partsL x step).length → RQ (.ret (.tuple [])) (setLp y .done (some .ret) (LP :: Res.raw db (Obj.deferred (some [])) :: Res.obj b3 [V.lit (.int .i64 step)] :: Res.obj b2 c2 :: (raws dbs ++ Res.obj b5 [iV 7] :: Res.obj b4 [.lit (.slice none 0 0)] :: S))) := by
      intro c2 hbig
      subst hRQ hlp
      simp [go_sem, iV]
      refine AWP.ret ?_
      simp [go_sem]
      refine ALeave_marks (by simp) [_, _] rfl ?_ dbs
      simp [go_sem, iV, h54, h45, n42, n43, n52, n53, Ne.symm n42, Ne.symm n43, Ne.symm n52, Ne.symm n53]
      refine fin 7 _ (by (repeat (first | exact List.Sublist.refl _ | refine List.Sublist.cons_cons _ ?_ | refine List.Sublist.append (List.Sublist.refl _) ?_ | refine List.Sublist.cons _ ?_))) ?_
      rw [hsp, if_pos ?_]
      rw [← hstep] at hbig
      have : (splitAll (l.take (k + 1)) step).length ≤ (splitAll l step).length := by
        conv => rhs; rw [← List.take_append_drop (k + 1) l]
        simp only [splitAll, List.flatMap_append, List.length_append]; omega
      omega
    refine parts1_spec y b2 b3 hb32 x hxo step _ ?_ ?_ _ (fun hw ha => ?_) (fun hw ha => ?_) (fun hw => ?_)
    · subst hlp; simp [go_sem, iV, hb32, Ne.symm hb32]
    · subst hlp; simp [go_sem, iV, hb32, Ne.symm hb32]
    · have hp : partsL x step = [⟨x.fr, x.to, x.gl, step⟩] := by simp [partsL, hw, ha]
      have hse : ∀ c2 c3 : List V, AW.setObj (LP :: Res.raw db (Obj.deferred (some [])) :: Res.obj b3 [V.lit (.int .i64 step)] :: Res.obj b2 c2 :: (raws dbs ++ Res.vec 37 a cap 4 (acc0.map Sp.v) :: Res.obj b6 [.vs 37 a acc0.length cap] :: Res.obj b5 [iV 0] :: Res.obj b4 [.lit (.slice none 0 0)] :: S)) b2 c3 =
          (LP :: Res.raw db (Obj.deferred (some [])) :: Res.obj b3 [V.lit (.int .i64 step)] :: Res.obj b2 c3 :: (raws dbs ++ Res.vec 37 a cap 4 (acc0.map Sp.v) :: Res.obj b6 [.vs 37 a acc0.length cap] :: Res.obj b5 [iV 0] :: Res.obj b4 [.lit (.slice none 0 0)] :: S)) := fun c2 c3 => by subst hlp; simp [go_sem, hb32]
      rw [hse]
      exact roundS _ acc0 a cap _ _ hlen (fun e => hq7 _ (by rw [hp]; simp; omega)) (fun e a' cap' => hq1 _ _ _ _ (by rw [hp]) (by simp; omega))
    · have hp : partsL x step = [] := by simp [partsL, hw, ha]
      exact hq1 _ acc0 a cap (by rw [hp]; simp) hlen
    · have hp : partsL x step = (List.range (x.to - x.fr + 1).toNat).filterMap (partsF x step) := by simp [partsL, hw]
      rw [← hp]
      exact iter _ acc0 a cap _ hlen (fun hb => hq7 _ hb) (fun hb a' cap' => hq1 _ _ _ _ rfl hb)
  · simp at c4
    simp [go_sem, iV, findObj_raws, setObj_raws, h54, h45, h65, h56, h64, h46]
    refine ALeave_marks (by simp) [] rfl ?_ dbs
    simp [go_sem, iV, h54, h45, h65, h56, h64, h46]
    have : l.take k = l := List.take_of_length_le c4
    rw [this] at hlen ⊢
    rw [hsp, if_neg (by omega)] at h
    exact done (((sub2 _ _).trans (List.sublist_cons_self _ _)).trans (List.sublist_cons_self _ _)) h
end Go.Proofs.Ytmlcfgojoglelaa
