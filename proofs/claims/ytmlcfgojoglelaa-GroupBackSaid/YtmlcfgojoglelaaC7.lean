/- strings.Builder. -/
import Derived.Test.YtmlcfgojoglelaaC6
import Derived.Test.YtmlcfgojoglelaaAwBuild
set_option maxRecDepth 100000
set_option pp.maxSteps 3000
set_option pp.deepTerms false
set_option linter.unusedSimpArgs false
set_option linter.unusedVariables false
namespace Go.Proofs.Ytmlcfgojoglelaa
open Go Go.AW Go.Proofs

theorem setObj_self {b : Nat} {cs : List V} : ∀ S : List Res, findObj S b = some cs → AW.setObj S b cs = S
  | [], h => rfl
  | r :: S, h => by
    cases r with
    | objT x ys tt =>
      simp only [AW.setObj, findObj] at h ⊢
      split
      · rename_i e; rw [if_pos e] at h; simp at h; subst h; rfl
      · rename_i e; rw [if_neg e] at h; rw [setObj_self S h]
    | vec => simp only [AW.setObj, findObj] at h ⊢; rw [setObj_self S h]
    | raw => simp only [AW.setObj, findObj] at h ⊢; rw [setObj_self S h]
    | lp => simp only [AW.setObj, findObj] at h ⊢; rw [setObj_self S h]
theorem findVec_setObj {b k : Nat} {cs : List V} : ∀ S : List Res, findVec (AW.setObj S b cs) k = findVec S k
  | [] => rfl
  | r :: S => by
    have ih := @findVec_setObj b k cs S
    cases r with
    | objT x ys tt => simp only [AW.setObj]; split <;> simp [findVec, ih]
    | vec => simp only [AW.setObj, findVec, ih]
    | raw => simp only [AW.setObj, findVec, ih]
    | lp => simp only [AW.setObj, findVec, ih]
theorem findObj_setVec {b k k' : Nat} {a : Option Addr} {c z : Nat} {xs : List V} : ∀ S : List Res, findObj (setVec S k (.vec k' a c z xs)) b = findObj S b
  | [] => rfl
  | r :: S => by
    have ih := @findObj_setVec b k k' a c z xs S
    cases r with
    | objT x ys tt => simp only [setVec, findObj, ih]
    | vec => simp only [setVec]; split <;> simp [findObj, ih]
    | raw => simp only [setVec, findObj, ih]
    | lp => simp only [setVec, findObj, ih]


theorem copyCheck_spec (b : Nat) (ad : Option Addr) (had : ad = none ∨ ad = some ⟨b, 0, none⟩) (c2 : V) (S : List Res) (hS : findObj S b = some [.lit (.pointer ad), c2]) (hT : findTy S b = some 51)
    (Q : Out → List Res → Prop) (h : Q (.ret (.tuple [])) (AW.setObj S b [.lit (.pointer (some ⟨b, 0, none⟩)), c2])) :
    ACall Try.prog 41 [.lit (.pointer (some ⟨b, 0, none⟩))] S Q := by
  refine acall_of_awp Try.func41 rfl (by simp [go_sem]) (awp_sound pl0 _ (by kernel_rfl) _ _ ?_)
  simp [go_sem, hS]
  refine ATake.aop (AT.ptrNil rfl (by simp [go_sem]) rfl rfl rfl (.inl ⟨rfl, ?_⟩))
  rcases had with rfl | rfl
  · simp [go_sem, hS]
    obtain ⟨j, hj, hjs⟩ : ∃ j, Try.prog.info? 51 = some j ∧ j.size = 2 := by
      have : (Try.prog.info? 51).map (·.size) = some 2 := by kernel_rfl
      simpa using this
    refine AOp.toUnsafe rfl (by simp [go_sem]) rfl hS hT rfl rfl hj (by omega) (by simp) ?_
    simp [go_sem, hS]
    refine AOp.same rfl (by simp [go_sem]) rfl (fun v w => ?_) ?_
    · rw [run_callFunc_extern (f := 49) rfl (by kernel_rfl) (by kernel_rfl) (by kernel_rfl) (e := Extern.AbiNoEscape.same) (by kernel_rfl), Lib.run_noEscape]; rfl
    simp [go_sem, hS]
    refine AOp.fromUnsafe rfl (by simp [go_sem]) rfl hS hT rfl rfl hj (by kernel_rfl) ?_
    simp [go_sem, hS, findObj_setObj_eq S hS]
    exact done (List.Sublist.refl _) h
  · simp [go_sem, hS]
    obtain ⟨j, hj, hjs⟩ : ∃ j, Try.prog.info? 51 = some j ∧ j.size = 2 := by
      have : (Try.prog.info? 51).map (·.size) = some 2 := by kernel_rfl
      simpa using this
    refine ATake.aop (AT.ptrSame rfl (by simp [go_sem]) rfl hj rfl rfl ?_)
    simp [go_sem]
    rw [setObj_self S hS] at h
    exact done (List.Sublist.refl _) h

/-- The key of a builder's bytes. -/
abbrev kB (b : Nat) : Nat := bk b 5
theorem kB_mod (b : Nat) : kB b % 100000 = 5 := bk_mod (by decide)

theorem writeByte_spec (b : Nat) (ad : Option Addr) (had : ad = none ∨ ad = some ⟨b, 0, none⟩) (a : Option Addr) (cap : Nat) (bs : List UInt8) (c : UInt8) (hl : bs.length + 1 ≤ 4294967296) (S : List Res)
    (hS : findObj S b = some [.lit (.pointer ad), .vs (kB b) a bs.length cap]) (hT : findTy S b = some 51) (hV : findVec S (kB b) = some (a, cap, 1, bs.map u8V))
    (Q : Out → List Res → Prop) (h : ∀ a' cap', Q (.ret (.lit .nilIface)) (AW.setObj (setVec (AW.setObj S b [.lit (.pointer (some ⟨b, 0, none⟩)), .vs (kB b) a bs.length cap]) (kB b) (.vec (kB b) a' cap' 1 ((bs ++ [c]).map u8V))) b [.lit (.pointer (some ⟨b, 0, none⟩)), .vs (kB b) a' (bs ++ [c]).length cap'])) :
    ACall Try.prog 40 [.lit (.pointer (some ⟨b, 0, none⟩)), u8V c] S Q := by
  refine acall_of_awp Try.func40 rfl (by simp [go_sem]) (awp_sound pl0 _ (by kernel_rfl) _ _ ?_)
  simp [go_sem]
  refine .refl (copyCheck_spec b ad had _ S hS hT _ ?_)
  simp [go_sem, findObj_setObj_eq S hS, u8V, findVec_setObj, hV, findObj_setVec]
  refine ⟨.inr (kB_mod b).symm, by omega, fun a'' cap'' => ?_⟩
  have := h a'' cap''
  simp only [List.map_append, List.map_cons, List.map_nil, List.length_append, List.length_cons, List.length_nil, Nat.zero_add] at this
  exact done (List.Sublist.refl _) this

theorem writeString_spec (b : Nat) (ad : Option Addr) (had : ad = none ∨ ad = some ⟨b, 0, none⟩) (a : Option Addr) (cap : Nat) (bs : List UInt8) (s : ByteArray) (hl : bs.length + s.size ≤ 4294967296) (S : List Res)
    (hS : findObj S b = some [.lit (.pointer ad), .vs (kB b) a bs.length cap]) (hT : findTy S b = some 51) (hV : findVec S (kB b) = some (a, cap, 1, bs.map u8V))
    (Q : Out → List Res → Prop) (h : ∀ a' cap', Q (.ret (.tuple [iV s.size, .lit .nilIface])) (AW.setObj (setVec (AW.setObj S b [.lit (.pointer (some ⟨b, 0, none⟩)), .vs (kB b) a bs.length cap]) (kB b) (.vec (kB b) a' cap' 1 ((bs ++ s.data.toList).map u8V))) b [.lit (.pointer (some ⟨b, 0, none⟩)), .vs (kB b) a' (bs ++ s.data.toList).length cap'])) :
    ACall Try.prog 24 [.lit (.pointer (some ⟨b, 0, none⟩)), sV s] S Q := by
  refine acall_of_awp Try.func24 rfl (by simp [go_sem]) (awp_sound pl0 _ (by kernel_rfl) _ _ ?_)
  simp [go_sem]
  refine .refl (copyCheck_spec b ad had _ S hS hT _ ?_)
  simp [go_sem, findObj_setObj_eq S hS, sV, findVec_setObj, hV, findObj_setVec, bytesV]
  refine ⟨.inr (kB_mod b).symm, hl, fun a'' cap'' => ?_⟩
  have := h a'' cap''
  rw [List.map_append, List.length_append, show s.data.toList.length = s.size by simp] at this
  exact done (List.Sublist.refl _) this

def plStr : Nat → DPlan
  | 1 => .take 0 (.take 1 (.take 2 (.take 5 (.take 6 (.take 7 (.alt 3 (.take 4 (one 8 (.take 9 (one 10 (one 11 .done))))) (.alt 8 (.take 9 (one 3 (.take 4 (one 10 (one 11 .done))))) .stop)))))))
  | _ => .done
theorem string_spec (b : Nat) (ad : Option Addr) (a : Option Addr) (cap : Nat) (bs : List UInt8) (hl : bs.length ≤ 4294967296) (S : List Res)
    (hS : findObj S b = some [.lit (.pointer ad), .vs (kB b) a bs.length cap]) (hV : findVec S (kB b) = some (a, cap, 1, bs.map u8V))
    (Q : Out → List Res → Prop) (h : Q (.ret (sV ⟨bs.toArray⟩)) (delVec S (kB b))) :
    ACall Try.prog 25 [.lit (.pointer (some ⟨b, 0, none⟩))] S Q := by
  refine ACall.inv (φ := (a ≠ none → cap ≠ 0) ∧ (bs.map u8V ≠ [] → a ≠ none)) (fun G w hi => ⟨hi.own_cap hV (bk_ge _ _), fun hx => hi.own_some hV hx⟩) fun ⟨hc, ha⟩ => ?_
  refine acall_of_awp Try.func25 rfl (by simp [go_sem]) (awp_sound plStr _ (by kernel_rfl) _ _ ?_)
  simp [go_sem, plStr, one, hS]
  by_cases h0 : bs = []
  · subst h0
    refine ⟨⟨fun e => hc e, ?_⟩, fun e => hc e, ?_⟩
    all_goals
      refine ATake.aop (AT.uString0 rfl (by simp [go_sem]) rfl rfl ?_)
      simp [go_sem, plStr, one]
      exact done (delVec_sub _ _) h
  · refine ⟨⟨fun e => hc e, ?_⟩, fun e => hc e, ?_⟩
    all_goals
      refine AOp.uString (e := 5) (b0 := b) rfl (by simp [go_sem]) (by decide) rfl (by kernel_rfl) hV (ha (by simpa using h0)) rfl rfl hl h0 ?_
      simp [go_sem, plStr, one]
      exact done (List.Sublist.refl _) h
end Go.Proofs.Ytmlcfgojoglelaa
