/- The contracts of Go's library that this claim leans on, at this program: the plain print of the kit's own lay-plain. -/
import Derived.Test.YtflpfjeghomepaaDoorMI3
import Derived.Shelf.LaysM
import Derived.Shelf.Strconv.Itoa3
import Derived.Test.YtflpfjeghomepaaDoorProg
namespace Go.Proofs
open Go.Shelf
def Tryd.laysM171_ren : Go.Shelf.Ren := ⟨fun | 171 => 31 | 243 => 40 | 246 => 49 | 283 => 53 | 284 => 54 | 285 => 55 | 286 => 56 | 129 => 61 | 317 => 60 | 318 => 62 | 319 => 63 | 320 => 64 | 337 => 66 | 338 => 67 | n => n, fun | 3 => 3 | 9 => 9 | 2 => 2 | 4 => 4 | 171 => 86 | 0 => 0 | 53 => 87 | 37 => 37 | 5 => 5 | 173 => 90 | 212 => 96 | 51 => 97 | 20 => 20 | 213 => 98 | 46 => 93 | 232 => 101 | 233 => 102 | n => n, fun | 17 => 0 | 18 => 2 | 19 => 3 | n => n⟩
theorem Tryd.laysM171 : Go.Proofs.LaysM.n171 Tryd.prog Tryd.laysM171_ren := {
  mixed := by kernel_rfl
  f129 := Tryd.func61.trans (congrArg some (by kernel_rfl))
  f171 := Tryd.func31.trans (congrArg some (by kernel_rfl))
  f243 := Tryd.func40.trans (congrArg some (by kernel_rfl))
  f246 := Tryd.func49.trans (congrArg some (by kernel_rfl))
  f283 := Tryd.func53.trans (congrArg some (by kernel_rfl))
  f284 := Tryd.func54.trans (congrArg some (by kernel_rfl))
  f285 := Tryd.func55.trans (congrArg some (by kernel_rfl))
  f286 := Tryd.func56.trans (congrArg some (by kernel_rfl))
  f317 := Tryd.func60.trans (congrArg some (by kernel_rfl))
  f318 := Tryd.func62.trans (congrArg some (by kernel_rfl))
  f319 := Tryd.func63.trans (congrArg some (by kernel_rfl))
  f320 := Tryd.func64.trans (congrArg some (by kernel_rfl))
  f337 := Tryd.func66.trans (congrArg some (by kernel_rfl))
  f338 := Tryd.func67.trans (congrArg some (by kernel_rfl))
  t0 := Tryd.underlying0
  a0 := Tryd.isAgg0
  z0 := Tryd.sizeOf0
  v0 := Tryd.zeroValue0
  t2 := Tryd.underlying2
  a2 := Tryd.isAgg2
  z2 := Tryd.sizeOf2
  v2 := Tryd.zeroValue2
  t3 := Tryd.underlying3
  a3 := Tryd.isAgg3
  z3 := Tryd.sizeOf3
  v3 := Tryd.zeroValue3
  t4 := Tryd.underlying4
  a4 := Tryd.isAgg4
  z4 := Tryd.sizeOf4
  v4 := Tryd.zeroValue4
  t5 := Tryd.underlying5
  a5 := Tryd.isAgg5
  z5 := Tryd.sizeOf5
  v5 := Tryd.zeroValue5
  t9 := Tryd.underlying9
  a9 := Tryd.isAgg9
  z9 := Tryd.sizeOf9
  v9 := Tryd.zeroValue9
  t20 := Tryd.underlying20
  a20 := Tryd.isAgg20
  z20 := Tryd.sizeOf20
  v20 := Tryd.zeroValue20
  t37 := Tryd.underlying37
  a37 := Tryd.isAgg37
  z37 := Tryd.sizeOf37
  v37 := Tryd.zeroValue37
  t46 := Tryd.underlying93
  a46 := Tryd.isAgg93
  z46 := Tryd.sizeOf93
  v46 := Tryd.zeroValue93
  t51 := Tryd.underlying97
  a51 := Tryd.isAgg97
  z51 := Tryd.sizeOf97
  v51 := Tryd.zeroValue97
  t53 := Tryd.underlying87
  a53 := Tryd.isAgg87
  z53 := Tryd.sizeOf87
  v53 := Tryd.zeroValue87
  t171 := Tryd.underlying86
  a171 := Tryd.isAgg86
  z171 := Tryd.sizeOf86
  v171 := Tryd.zeroValue86
  t173 := Tryd.underlying90
  a173 := Tryd.isAgg90
  z173 := Tryd.sizeOf90
  v173 := Tryd.zeroValue90
  t212 := Tryd.underlying96
  a212 := Tryd.isAgg96
  z212 := Tryd.sizeOf96
  v212 := Tryd.zeroValue96
  t213 := Tryd.underlying98
  a213 := Tryd.isAgg98
  z213 := Tryd.sizeOf98
  t232 := Tryd.underlying101
  a232 := Tryd.isAgg101
  z232 := Tryd.sizeOf101
  v232 := Tryd.zeroValue101
  t233 := Tryd.underlying102
  a233 := Tryd.isAgg102
  z233 := Tryd.sizeOf102
  v233 := Tryd.zeroValue102
  g17 := by kernel_rfl
  g18 := by kernel_rfl
  g19 := by kernel_rfl
  i0 := by kernel_rfl
  i2 := by kernel_rfl
  i3 := by kernel_rfl
  i4 := by kernel_rfl
  i5 := by kernel_rfl
  i9 := by kernel_rfl
  i20 := by kernel_rfl
  i37 := by kernel_rfl
  i46 := by kernel_rfl
  i51 := by kernel_rfl
  i53 := by kernel_rfl
  i171 := by kernel_rfl
  i173 := by kernel_rfl
  i212 := by kernel_rfl
  i232 := by kernel_rfl
  i233 := by kernel_rfl
  m17 := by kernel_rfl
  m18 := by kernel_rfl
  m19 := by kernel_rfl }
end Go.Proofs
/- strconv.FormatInt at base 16; strconv.Itoa; lex.Quote; show.isRune. -/
set_option maxRecDepth 100000
set_option linter.unusedSimpArgs false
set_option linter.unusedVariables false
set_option pp.maxSteps 3000
set_option pp.deepTerms false
namespace Go.Proofs.YtflpfjeghomepaaDoor
open Go Go.AW Go.Proofs

theorem fmtIn_spec (c : Nat) (hc : c < 256) (S : List Res) (hT : Tab64 S) (Q : Out → List Res → Prop) (h : Q (.ret (sV ⟨(hexL c).toArray⟩)) S) : ACall Tryd.prog 49 [iV c, iV 16] S Q := by
  refine acall_of_awp Tryd.func49 rfl (by simp [go_sem]) (awp_sound pl0 _ (by kernel_rfl) _ _ ?_)
  simp [go_sem, iV]
  rw [u64w' (x := (c : Int)) (by omega) (by omega), show decide ((c : Int) < 0) = false by simp]
  refine .refl (fbits_spec c hc S hT _ ?_)
  simp [go_sem, sV]
  exact done (List.Sublist.refl _) h
theorem fmt_spec (c : Nat) (hc : c < 256) (S : List Res) (hT : Tab64 S) (Q : Out → List Res → Prop) (h : Q (.ret (sV ⟨(hexL c).toArray⟩)) S) : ACall Tryd.prog 48 [iV c, iV 16] S Q := by
  refine acall_of_awp Tryd.func48 rfl (by simp [go_sem]) (awp_sound pl0 _ (by kernel_rfl) _ _ ?_)
  simp [go_sem, iV]
  refine .refl (fmtIn_spec c hc S hT _ ?_)
  simp [go_sem, sV]
  exact done (List.Sublist.refl _) h

/-- The table of powers stands. -/
abbrev Tab10 (S : List Res) : Prop := TabRaw S 0 .u64 Lib.pow10Tab
theorem itoa_spec (n : Int) (h0 : -9223372036854775808 ≤ n) (h1 : n ≤ 9223372036854775807) (S : List Res) (hT : Tab10 S) (Q : Out → List Res → Prop) (h : Q (.ret (sV ⟨(Lib.itoa n).toArray⟩)) S) : ACall Tryd.prog 31 [iV n] S Q :=
  acall_below (v := sV ⟨(Lib.itoa n).toArray⟩) (fun G w xs hv hi => by
    obtain ⟨x, xs', rfl, hx, hv'⟩ := hv.cons_inv
    have := hv'.nil_inv; subst this
    have := hx.lit_inv; subst this
    refine ⟨_, .lit _, (Any.strconv_Itoa Proofs.Tryd.laysM171 n h0 h1 w (hT.is hi (by kernel_rfl))).mono ?_⟩
    rintro e w' ⟨rfl, k, os, rfl⟩
    exact ⟨rfl, below_grow w k os⟩) h
end Go.Proofs.YtflpfjeghomepaaDoor
/- lex.Quote; show.isRune; quote, delim. -/
set_option maxRecDepth 100000
set_option linter.unusedSimpArgs false
set_option linter.unusedVariables false
set_option pp.maxSteps 3000
set_option pp.deepTerms false
namespace Go.Proofs.YtflpfjeghomepaaDoor
open Go Go.AW Go.Proofs

/-- Is it a rune that may stand? -/
def runeB (c : Int) : Bool := decide (1 ≤ c) && decide (c ≤ 1114111) && validB c
def encL (c : Int) : List UInt8 := (Utf8.encode c).data.toList
/-- What stands for a rune. -/
def quoteL (c : Int) : List UInt8 :=
  if plainB c then encL c else if sgnB c || (c == 37) then 92 :: encL c else [92, 99, 104, 97, 114, 123] ++ hexL c.toNat ++ [125]
def quoteS (c : Int) : ByteArray := if runeB c then ⟨(quoteL c).toArray⟩ else .empty
theorem small_rune {c : Int} (h : runeB c = true) (h1 : plainB c = false) (h2 : (sgnB c || (c == 37)) = false) : 1 ≤ c ∧ c < 256 := by
  simp only [runeB, Bool.and_eq_true, decide_eq_true_eq] at h
  obtain ⟨⟨h3, h4⟩, h5⟩ := h
  simp only [Bool.or_eq_false_iff, beq_eq_false_iff_ne, ne_eq] at h2
  refine ⟨h3, Int.not_le.1 fun h6 => ?_⟩
  have e1 : plainB c = true := by
    simp [plainB, h5, h2.1]; omega
  rw [e1] at h1; cases h1
theorem enc_size (c : Int) : (Utf8.encode c).size ≤ 4 := by
  obtain ⟨n, hn⟩ : ∃ n, n = if Utf8.valid c then c.toNat else Utf8.runeError := ⟨_, rfl⟩
  simp only [Utf8.encode, ← hn]
  split
  · show 1 ≤ 4; omega
  · split
    · show 2 ≤ 4; omega
    · split
      · show 3 ≤ 4; omega
      · show 4 ≤ 4; omega
theorem quote_spec (c : Int) (S : List Res) (hT : Tab64 S) (Q : Out → List Res → Prop) (h : Q (.ret (.tuple [sV (quoteS c), iV (if runeB c then 0 else 1)])) S) :
    ACall Tryd.prog 38 [iV c] S Q := by
  refine acall_of_awp Tryd.func38 rfl (by simp [go_sem]) (awp_sound pl0 _ (by kernel_rfl) _ _ ?_)
  simp [go_sem, iV]
  have bad : runeB c = false → Q (.ret (.tuple [sV .empty, iV 1])) S := fun e => by simpa [quoteS, e] using h
  refine cGuard_i (fun c1 => ?_) (fun c1 => ?_)
  · simp [go_sem, c1]
    simp at c1
    refine done (List.Sublist.refl _) (bad ?_)
    simp [runeB]; omega
  simp [go_sem, c1]
  refine cGuard_i (fun c2 => ?_) (fun c2 => ?_)
  · simp [go_sem, c1, c2]
    simp at c2
    refine done (List.Sublist.refl _) (bad ?_)
    simp [runeB]; omega
  simp [go_sem, c2]
  simp at c1 c2
  have hw : IntKind.i32.wrap c = c := i32w (by omega) (by omega)
  rw [hw]
  refine .refl (validRune_spec c _ _ ?_)
  simp [go_sem]
  refine cCond_i (fun c3 => ?_) (fun c3 => ?_)
  · simp [go_sem]
    simp at c3
    refine done (List.Sublist.refl _) (bad ?_)
    simp [runeB, c3]
  simp at c3
  have hr : runeB c = true := by simp [runeB, c3]; omega
  simp only [quoteS, hr, if_true] at h
  simp [go_sem, iV]
  refine .refl (plain_spec c _ _ ?_)
  simp [go_sem]
  refine cCond_i (fun c4 => ?_) (fun c4 => ?_)
  · simp [go_sem, hw]
    refine AOp.intStr (ks := .i32) rfl (by simp [go_sem]) rfl rfl rfl ?_
    simp [go_sem]
    refine done (List.Sublist.refl _) ?_
    simpa [quoteL, c4, encL, sV, iV] using h
  simp [go_sem, hw]
  refine .refl (containsRune_spec c (by omega) c3 _ _ ?_)
  simp [go_sem]
  have fin2 : (sgnB c || (c == 37)) = true → Q (.ret (.tuple [sV (⟨#[92]⟩ ++ Utf8.encode c), iV 0])) S := fun e => by
    have e2 : quoteL c = 92 :: encL c := by rw [quoteL, if_neg (by simp [c4]), if_pos e]
    rw [e2] at h
    have e3 : (⟨#[92]⟩ ++ Utf8.encode c : ByteArray) = ⟨(92 :: encL c).toArray⟩ := by
      apply ByteArray.ext
      simp [encL]
    rw [e3]; exact h
  have hsz : (Utf8.encode c).size ≤ 4 := enc_size c
  refine cGuard_i (fun c5 => ?_) (fun c5 => ?_)
  · simp [go_sem, hw, c5]
    refine AOp.intStr (ks := .i32) rfl (by simp [go_sem]) rfl rfl rfl ?_
    simp [go_sem]
    refine ⟨by omega, ?_⟩
    exact done (List.Sublist.refl _) (fin2 (by simp [c5]))
  · simp [go_sem, c5]
    refine cCond_i (fun c6 => ?_) (fun c6 => ?_)
    · simp [go_sem, hw]
      refine AOp.intStr (ks := .i32) rfl (by simp [go_sem]) rfl rfl rfl ?_
      simp [go_sem]
      refine ⟨by omega, ?_⟩
      exact done (List.Sublist.refl _) (fin2 (by simp [c6]))
    · simp [go_sem]
      obtain ⟨hn1, hn2⟩ := small_rune hr c4 (by simp [c5, c6])
      obtain ⟨n, rfl⟩ : ∃ n : Nat, c = n := ⟨c.toNat, by omega⟩
      refine .refl (fmt_spec n (by omega) S hT _ ?_)
      simp [go_sem, sV]
      have e2 : quoteL n = [92, 99, 104, 97, 114, 123] ++ hexL n ++ [125] := by rw [quoteL, if_neg (by simp [c4]), if_neg (by simp [c5, c6])]; simp
      have hl : (hexL n).length ≤ 2 := by rw [hexL]; split <;> simp
      have e3 : (⟨#[92, 99, 104, 97, 114, 123]⟩ ++ ⟨(hexL n).toArray⟩ ++ ⟨#[125]⟩ : ByteArray) = ⟨([92, 99, 104, 97, 114, 123] ++ hexL n ++ [125]).toArray⟩ := by
        apply ByteArray.ext
        simp
      rw [e2] at h
      refine ⟨by omega, by omega, ?_⟩
      rw [e3]
      exact done (List.Sublist.refl _) h
theorem isRune_spec (c : Int) (S : List Res) (hT : Tab64 S) (Q : Out → List Res → Prop) (h : Q (.ret (.lit (.bool (runeB c)))) S) : ACall Tryd.prog 33 [iV c] S Q := by
  refine acall_of_awp Tryd.func33 rfl (by simp [go_sem]) (awp_sound pl0 _ (by kernel_rfl) _ _ ?_)
  simp [go_sem, iV]
  refine .refl (quote_spec c S hT _ ?_)
  simp [go_sem, sV, iV]
  cases e : runeB c <;> rw [e] at h <;> simp <;> exact done (List.Sublist.refl _) h
theorem wquote_spec (c : Int) {S : List Res} (hT : Tab64 S) (hr : runeB c = true) {b : Nat} {ad a : Option Addr} {cap : Nat} {bs : List UInt8} (hb : Bd S b ad a cap bs) (hl : bs.length + 20 ≤ 4294967296) (Q : Out → List Res → Prop) (hq : ∀ a' cap', Q (.ret (.tuple [])) (upd S b a' cap' (bs ++ quoteL c))) :
    ACall Tryd.prog 28 [.lit (.pointer (some ⟨b, 0, none⟩)), iV c] S Q := by
  refine acall_of_awp Tryd.func28 rfl (by simp [go_sem]) (awp_sound pl0 _ (by kernel_rfl) _ _ ?_)
  simp [go_sem, iV]
  refine .refl (quote_spec c S hT _ ?_)
  simp [go_sem, sV, iV]
  have hs : (quoteL c).length ≤ 9 := by
    have h1 := enc_size c
    have h2 : (encL c).length ≤ 4 := h1
    unfold quoteL
    split
    · omega
    · split
      · simp; omega
      · have : (hexL c.toNat).length ≤ 2 := by rw [hexL]; split <;> simp
        simp; omega
  have e1 : quoteS c = ⟨(quoteL c).toArray⟩ := by rw [quoteS, if_pos hr]
  rw [e1]
  refine .refl (wString hb _ (by show bs.length + (quoteL c).toArray.size ≤ _; simp; omega) _ fun a' cap' => ?_)
  simp [go_sem]
  exact done (List.Sublist.refl _) (by simpa using hq a' cap')
def delimC (c : Int) : Int := if c = 0 then 46 else c
theorem wdelim_spec (c : Int) {S : List Res} (hT : Tab64 S) (hr : runeB (delimC c) = true) {b : Nat} {ad a : Option Addr} {cap : Nat} {bs : List UInt8} (hb : Bd S b ad a cap bs) (hl : bs.length + 20 ≤ 4294967296) (Q : Out → List Res → Prop) (hq : ∀ a' cap', Q (.ret (.tuple [])) (upd S b a' cap' (bs ++ quoteL (delimC c)))) :
    ACall Tryd.prog 39 [.lit (.pointer (some ⟨b, 0, none⟩)), iV c] S Q := by
  refine acall_of_awp Tryd.func39 rfl (by simp [go_sem]) (awp_sound pl0 _ (by kernel_rfl) _ _ ?_)
  simp [go_sem, iV]
  refine cCond_i (fun c1 => ?_) (fun c1 => ?_)
  · simp [go_sem]
    simp at c1
    subst c1
    refine .refl (wquote_spec 46 hT hr hb hl _ fun a' cap' => ?_)
    simp [go_sem]
    exact done (List.Sublist.refl _) (hq a' cap')
  · simp [go_sem]
    simp at c1
    have e : delimC c = c := by rw [delimC, if_neg c1]
    rw [e] at hr hq
    refine .refl (wquote_spec c hT hr hb hl _ fun a' cap' => ?_)
    simp [go_sem]
    exact done (List.Sublist.refl _) (hq a' cap')
end Go.Proofs.YtflpfjeghomepaaDoor
/- The engine AW, part 23: stops at named regions; own blocks that nobody writes any more, on the way. -/
set_option linter.unusedVariables false
set_option linter.unusedSimpArgs false
namespace Go.AW

def cutIn : List Nat → Nat → Bool
  | [], _ => false
  | c :: cs, i => (c == i) || cutIn cs i
@[go_sem] theorem cutIn_nil {i : Nat} : cutIn [] i = false := rfl
@[go_sem] theorem cutIn_cons {c i : Nat} {cs : List Nat} : cutIn (c :: cs) i = ((c == i) || cutIn cs i) := rfl

/-- The first region of a piece of code. -/
def leafCut (cs : List Nat) : Code → Bool
  | .region id _ _ => cutIn cs (2000000 + id)
  | .seq x _ => leafCut cs x
  | _ => false
@[go_sem] theorem leafCut_region {cs : List Nat} {id : Nat} {ops : Array Oper} {b : Bool} : leafCut cs (.region id ops b) = cutIn cs (2000000 + id) := rfl
@[go_sem] theorem leafCut_seq {cs : List Nat} {x y : Code} : leafCut cs (.seq x y) = leafCut cs x := rfl
@[go_sem] theorem leafCut_cond {cs : List Nat} {c : Operand} {x y : Code} : leafCut cs (.cond c x y) = false := rfl
@[go_sem] theorem leafCut_block {cs : List Nat} {id : Nat} {c : Code} : leafCut cs (.block id c) = false := rfl
@[go_sem] theorem leafCut_loop {cs : List Nat} {c : Code} : leafCut cs (.loop c) = false := rfl
@[go_sem] theorem leafCut_scope {cs : List Nat} {c : Code} : leafCut cs (.scope c) = false := rfl
@[go_sem] theorem leafCut_label {cs : List Nat} {l : Nat} : leafCut cs (.label l) = false := rfl
@[go_sem] theorem leafCut_rangeFunc {cs : List Nat} {f : Operand} {ps : Array Tmp} {x y : Code} : leafCut cs (.rangeFunc f ps x y) = false := rfl
def isCut (cs : List Nat) : Code → Bool
  | .seq x _ => leafCut cs x
  | .region id _ _ => cutIn cs id
  | .block id _ => cutIn cs (1000000 + id)
  | _ => false
/-- As awp; but at the named regions, and what stands behind them, it stands still, at AWP. -/
def awpC (cs : List Nat) (pl : Nat → DPlan) (ro : Option Nat) (P : Program) : Code → (Exit → St → Prop) → St → Prop
  | .seq x y, Q, st => if isCut cs x = true then AWP ro P (.seq x y) Q st else awpC cs pl ro P x (thenQ (awpC cs pl ro P y Q) Q) st
  | .cond c x y, Q, st => aCond (st.opnd c) (awpC cs pl ro P x Q st) (awpC cs pl ro P y Q st)
  | .block id c, Q, st => awpC cs pl ro P c (blockQ id Q) st
  | .region id ops b, Q, st => if cutIn cs id = true then AWP ro P (.region id ops b) Q st else awp pl ro P (.region id ops b) Q st
  | c, Q, st => awp pl ro P c Q st

theorem awpC_sound (cs : List Nat) (pl : Nat → DPlan) {ro : Option Nat} {P : Program} : ∀ (c : Code) (hok : okPlans P pl c = true) (Q : Exit → St → Prop) (st : St), awpC cs pl ro P c Q st → AWP ro P c Q st
  | .seq x y, hok, Q, st, h => by
      unfold awpC at h
      split at h
      · exact h
      exact AWP.seq ((awpC_sound cs pl x (by simp only [okPlans, Bool.and_eq_true] at hok; exact hok.1) _ st h).mono fun e st' hq => by
      cases e with
      | normal => exact awpC_sound cs pl y (by simp only [okPlans, Bool.and_eq_true] at hok; exact hok.2) Q st' hq
      | _ => exact hq)
  | .cond c x y, hok, Q, st, h => by
      unfold awpC aCond at h
      split at h
      · rename_i b hc
        refine wpIn_condV hc ?_
        split at h
        · rename_i e; rw [if_pos e]; exact awpC_sound cs pl x (by simp only [okPlans, Bool.and_eq_true] at hok; exact hok.1) Q st h
        · rename_i e; rw [if_neg e]; exact awpC_sound cs pl y (by simp only [okPlans, Bool.and_eq_true] at hok; exact hok.2) Q st h
      · exact h.elim
  | .block id c, hok, Q, st, h => AWP.block (awpC_sound cs pl c hok _ st h)
  | .region id ops b, hok, Q, st, h => by
      unfold awpC at h
      split at h
      · exact h
      · exact awp_sound pl _ hok Q st h
  | .skip, hok, Q, st, h => awp_sound pl _ hok Q st h
  | .label _, hok, Q, st, h => awp_sound pl _ hok Q st h
  | .exit _, hok, Q, st, h => awp_sound pl _ hok Q st h
  | .goto _, hok, Q, st, h => awp_sound pl _ hok Q st h
  | .ret, hok, Q, st, h => awp_sound pl _ hok Q st h
  | .loop c, hok, Q, st, h => h
  | .rangeFunc f ps a b, hok, Q, st, h => h
  | .scope c, hok, Q, st, h => h
  | .refuse s, hok, Q, st, h => h

section
variable {cs : List Nat} {pl : Nat → DPlan} {ro : Option Nat} {P : Program} {Q : Exit → St → Prop} {n : Nat} {env : List (Nat × V)} {S : List Res} {ds : List Deferred}
@[go_sem] theorem awpC_skip : awpC cs pl ro P .skip Q ⟨n, env, S, ds⟩ = Q .normal ⟨n, env, S, ds⟩ := rfl
@[go_sem] theorem awpC_label {l : Nat} : awpC cs pl ro P (.label l) Q ⟨n, env, S, ds⟩ = Q .normal ⟨n, env, S, ds⟩ := rfl
@[go_sem] theorem awpC_exit {id : Nat} : awpC cs pl ro P (.exit id) Q ⟨n, env, S, ds⟩ = Q (.exit id) ⟨n, env, S, ds⟩ := rfl
@[go_sem] theorem awpC_goto {l : Nat} : awpC cs pl ro P (.goto l) Q ⟨n, env, S, ds⟩ = Q (.goto l) ⟨n, env, S, ds⟩ := rfl
@[go_sem] theorem awpC_ret : awpC cs pl ro P .ret Q ⟨n, env, S, ds⟩ = Q .ret ⟨n, env, S, ds⟩ := rfl
def cSeq (cs : List Nat) (pl : Nat → DPlan) (ro : Option Nat) (P : Program) (x y : Code) (Q : Exit → St → Prop) (st : St) : Bool → Prop
  | true => AWP ro P (.seq x y) Q st
  | false => awpC cs pl ro P x (thenQ (awpC cs pl ro P y Q) Q) st
@[go_sem] theorem awpC_seq {x y : Code} : awpC cs pl ro P (.seq x y) Q ⟨n, env, S, ds⟩ = cSeq cs pl ro P x y Q ⟨n, env, S, ds⟩ (isCut cs x) := by
  simp only [awpC, cSeq]; split
  · rename_i h; rw [h]
  · rename_i h; rw [Bool.not_eq_true] at h; rw [h]
@[go_sem] theorem cSeq_t {x y : Code} : cSeq cs pl ro P x y Q ⟨n, env, S, ds⟩ true = AWP ro P (.seq x y) Q ⟨n, env, S, ds⟩ := rfl
@[go_sem] theorem cSeq_f {x y : Code} : cSeq cs pl ro P x y Q ⟨n, env, S, ds⟩ false = awpC cs pl ro P x (thenQ (awpC cs pl ro P y Q) Q) ⟨n, env, S, ds⟩ := rfl
@[congr] theorem cSeq_congr {x y : Code} {st st' : St} {b b' : Bool} (h : st = st') (hb : b = b') : cSeq cs pl ro P x y Q st b = cSeq cs pl ro P x y Q st' b' := by rw [h, hb]
@[go_sem] theorem isCut_region {id : Nat} {ops : Array Oper} {b : Bool} : isCut cs (.region id ops b) = cutIn cs id := rfl
@[go_sem] theorem isCut_seq {x y : Code} : isCut cs (.seq x y) = leafCut cs x := rfl
@[go_sem] theorem isCut_cond {c : Operand} {x y : Code} : isCut cs (.cond c x y) = false := rfl
@[go_sem] theorem isCut_block {id : Nat} {c : Code} : isCut cs (.block id c) = cutIn cs (1000000 + id) := rfl
@[go_sem] theorem isCut_loop {c : Code} : isCut cs (.loop c) = false := rfl
@[go_sem] theorem isCut_scope {c : Code} : isCut cs (.scope c) = false := rfl
@[go_sem] theorem isCut_label {l : Nat} : isCut cs (.label l) = false := rfl
@[go_sem] theorem isCut_exit {l : Nat} : isCut cs (.exit l) = false := rfl
@[go_sem] theorem isCut_goto {l : Nat} : isCut cs (.goto l) = false := rfl
@[go_sem] theorem isCut_skip : isCut cs .skip = false := rfl
@[go_sem] theorem isCut_ret : isCut cs .ret = false := rfl
@[go_sem] theorem isCut_rangeFunc {f : Operand} {ps : Array Tmp} {x y : Code} : isCut cs (.rangeFunc f ps x y) = false := rfl
def cCondC (cs : List Nat) (pl : Nat → DPlan) (ro : Option Nat) (P : Program) (Q : Exit → St → Prop) (x y : Code) (st : St) (v : V) : Prop := aCond v (awpC cs pl ro P x Q st) (awpC cs pl ro P y Q st)
@[go_sem] theorem awpC_cond {c : Operand} {x y : Code} : awpC cs pl ro P (.cond c x y) Q ⟨n, env, S, ds⟩ = cCondC cs pl ro P Q x y ⟨n, env, S, ds⟩ (St.opnd ⟨n, env, S, ds⟩ c) := rfl
@[go_sem] theorem cCondC_t {x y : Code} {st : St} : cCondC cs pl ro P Q x y st (.lit (.bool true)) = awpC cs pl ro P x Q st := rfl
@[go_sem] theorem cCondC_f {x y : Code} {st : St} : cCondC cs pl ro P Q x y st (.lit (.bool false)) = awpC cs pl ro P y Q st := rfl
theorem cCondC_i {x y : Code} {st : St} {b : Bool} (h1 : b = true → awpC cs pl ro P x Q st) (h2 : b = false → awpC cs pl ro P y Q st) : cCondC cs pl ro P Q x y st (.lit (.bool b)) := by cases b; exact h2 rfl; exact h1 rfl
@[congr] theorem cCondC_congr {x y : Code} {st st' : St} {v v' : V} (h : st = st') (hv : v = v') : cCondC cs pl ro P Q x y st v = cCondC cs pl ro P Q x y st' v' := by rw [h, hv]
@[congr] theorem awpC_congr {c : Code} {st st' : St} (h : st = st') : awpC cs pl ro P c Q st = awpC cs pl ro P c Q st' := by rw [h]
@[go_sem] theorem awpC_block {id : Nat} {c : Code} : awpC cs pl ro P (.block id c) Q ⟨n, env, S, ds⟩ = awpC cs pl ro P c (blockQ id Q) ⟨n, env, S, ds⟩ := rfl
def cReg (pl : Nat → DPlan) (ro : Option Nat) (P : Program) (c : Code) (Q : Exit → St → Prop) (st : St) : Bool → Prop
  | true => AWP ro P c Q st
  | false => awp pl ro P c Q st
@[go_sem] theorem awpC_region {id : Nat} {ops : Array Oper} {b : Bool} : awpC cs pl ro P (.region id ops b) Q ⟨n, env, S, ds⟩ = cReg pl ro P (.region id ops b) Q ⟨n, env, S, ds⟩ (cutIn cs id) := by
  simp only [awpC, cReg]; split
  · rename_i h; rw [h]
  · rename_i h; rw [Bool.not_eq_true] at h; rw [h]
@[go_sem] theorem cReg_t {c : Code} : cReg pl ro P c Q ⟨n, env, S, ds⟩ true = AWP ro P c Q ⟨n, env, S, ds⟩ := rfl
@[go_sem] theorem cReg_f {c : Code} : cReg pl ro P c Q ⟨n, env, S, ds⟩ false = awp pl ro P c Q ⟨n, env, S, ds⟩ := rfl
@[congr] theorem cReg_congr {c : Code} {st st' : St} {b b' : Bool} (h : st = st') (hb : b = b') : cReg pl ro P c Q st b = cReg pl ro P c Q st' b' := by rw [h, hb]
@[go_sem] theorem awpC_loop {c : Code} : awpC cs pl ro P (.loop c) Q ⟨n, env, S, ds⟩ = AWP ro P (.loop c) Q ⟨n, env, S, ds⟩ := rfl
@[go_sem] theorem awpC_rangeFunc {f : Operand} {ps : Array Tmp} {x y : Code} : awpC cs pl ro P (.rangeFunc f ps x y) Q ⟨n, env, S, ds⟩ = AWP ro P (.rangeFunc f ps x y) Q ⟨n, env, S, ds⟩ := rfl
@[go_sem] theorem awpC_scope {c : Code} : awpC cs pl ro P (.scope c) Q ⟨n, env, S, ds⟩ = AWP ro P (.scope c) Q ⟨n, env, S, ds⟩ := rfl
end

/-- The ways meet again in one state. -/
theorem AWP.merge {ro : Option Nat} {P : Program} {x y : Code} {Q : Exit → St → Prop} {st : St} (stM : St) (h1 : AWP ro P x (fun e st' => e = .normal ∧ StLe st' stM) st) (h2 : AWP ro P y Q stM) : AWP ro P (.seq x y) Q st :=
  AWP.seq (h1.mono fun e st' ⟨he, hle⟩ => by subst he; exact AWP.le hle h2)

/-- The ways meet again in one of some states. -/
theorem AWP.mergeE {ι : Type} {ro : Option Nat} {P : Program} {x y : Code} {Q : Exit → St → Prop} {st : St} (ok : ι → Prop) (inv : ι → St) (h1 : AWP ro P x (fun e st' => e = .normal ∧ ∃ i, ok i ∧ StLe st' (inv i)) st) (h2 : ∀ i, ok i → AWP ro P y Q (inv i)) : AWP ro P (.seq x y) Q st :=
  AWP.seq (h1.mono fun e st' ⟨he, i, hi, hle⟩ => by subst he; exact AWP.le hle (h2 i hi))
theorem AWP.mergeE2 {ι : Type} {ro : Option Nat} {P : Program} {x y z : Code} {Q : Exit → St → Prop} {st : St} (ok : ι → Prop) (inv : ι → St)
    (h1 : AWP ro P x (fun e st' => e = .normal ∧ AWP ro P y (fun e st'' => e = .normal ∧ ∃ i, ok i ∧ StLe st'' (inv i)) st') st) (h2 : ∀ i, ok i → AWP ro P z Q (inv i)) : AWP ro P (.seq x (.seq y z)) Q st :=
  AWP.seq (h1.mono fun e st' ⟨he, h⟩ => by subst he; exact AWP.mergeE ok inv h h2)
/-- A slice's elements, said otherwise. -/
theorem VLe.sl {S : List Res} {full : Bool} {sz : Nat} {xs ys : List V} (hn : xs.length = ys.length) (hsz : ∀ y ∈ ys, y.cells.length = sz) (hok : ∀ y ∈ ys, V.okv y = true) (h : VsLe S (xs.flatMap V.cells) (ys.flatMap V.cells)) : VLe S (.sl full sz xs) (.sl full sz ys) := fun G w v hi hv => by
  obtain ⟨a, cap, us, rfl, hcap, hfull, hxs, hus, hul, hne⟩ := hv.sl_cells
  have hys := h G w us hi hus
  rw [hn] at hcap hfull hul ⊢
  by_cases he : ys = []
  · subst he
    have hul' : us = [] := List.eq_nil_of_length_eq_zero (by simpa using hul)
    exact .sl (xs := []) 0 0 (fun _ => undef) (fun h => absurd rfl h) (by simp) (by simp) hcap hfull (by simp) (by simp)
  have hx : xs ≠ [] := fun e => he (List.eq_nil_of_length_eq_zero (by rw [← hn, e]; rfl))
  obtain ⟨b, o, rfl, hG⟩ := hne hx
  refine .sl b o (fun i => us.getD i undef) (fun _ => rfl) hsz hok hcap hfull (fun i hi' => ?_) (fun i c hc => ?_)
  · rw [hys.1] at hi'
    rw [List.getD_eq_getElem?_getD, List.getElem?_eq_getElem hi']
    exact hG i _ (List.getElem?_eq_getElem hi')
  · have hi' : i < us.length := by rw [← hys.1]; exact (List.getElem?_eq_some_iff.1 hc).1
    rw [List.getD_eq_getElem?_getD, List.getElem?_eq_getElem hi']
    exact hys.2 i c _ hc (List.getElem?_eq_getElem hi')
theorem Fresh.obj {x b : Nat} {cs : List V} {T : Option TypeId} {S : List Res} (h : Fresh x (.objT b cs T :: S)) : x ≠ b ∧ Fresh x S := by
  simp only [Fresh, blks_cons, Res.blk, Option.toList_some, List.cons_append, List.nil_append, List.mem_cons, not_or] at h
  exact h

theorem aOpt_i {α : Type} {x : Option α} {a : α} {f : α → Prop} (h : x = some a) (hf : f a) : aOpt x f := by rw [h]; exact hf

/-! ### Freezing on the way -/

def frzV (b : Nat) (cs : List V) (d : V) : V → V
  | .lit (.pointer (some ⟨b', 0, none⟩)) => if b' = b then .pe cs else d
  | _ => d
def frzE (b : Nat) (cs : List V) : List (Nat × V) → List (Nat × V)
  | [] => []
  | (k, v) :: e => (k, frzV b cs v v) :: frzE b cs e
def delObj : List Res → Nat → List Res
  | [], _ => []
  | .objT b cs T :: S, x => if b = x then S else .objT b cs T :: delObj S x
  | r :: S, x => r :: delObj S x
theorem delObj_split {b : Nat} {cs : List V} : ∀ {S : List Res}, findObj S b = some cs → ∃ A B tt, S = A ++ .objT b cs tt :: B ∧ delObj S b = A ++ B
  | [], h => by simp [findObj] at h
  | r :: S, h => by
    cases r with
    | objT x ys tt =>
      simp only [findObj] at h
      split at h
      · rename_i e; subst e; simp at h; subst h
        exact ⟨[], S, tt, rfl, by simp [delObj]⟩
      · rename_i e
        obtain ⟨A, B, t, h1, h2⟩ := delObj_split h
        exact ⟨.objT x ys tt :: A, B, t, by rw [h1]; rfl, by simp [delObj, e, h2]⟩
    | vec => obtain ⟨A, B, t, h1, h2⟩ := delObj_split (S := S) h; exact ⟨_ :: A, B, t, by rw [h1]; rfl, by simp [delObj, h2]⟩
    | raw => obtain ⟨A, B, t, h1, h2⟩ := delObj_split (S := S) h; exact ⟨_ :: A, B, t, by rw [h1]; rfl, by simp [delObj, h2]⟩
    | lp => obtain ⟨A, B, t, h1, h2⟩ := delObj_split (S := S) h; exact ⟨_ :: A, B, t, by rw [h1]; rfl, by simp [delObj, h2]⟩
theorem frzV_rel {G : Im} {b : Nat} {cs : List V} (hp : VRel G (.pe cs) (.pointer (some ⟨b, 0, none⟩))) {v : V} {x : Value} (h : VRel G v x) : VRel G (frzV b cs v v) x := by
  unfold frzV
  split
  · split
    · rename_i e; subst e
      have := h.lit_inv; subst this; exact hp
    · exact h
  · exact h
theorem frzE_get (b : Nat) (cs : List V) : ∀ (env : List (Nat × V)) (i : Nat), get (frzE b cs env) i = frzV b cs (get env i) (get env i)
  | [], i => rfl
  | (k, v) :: e, i => by
    simp only [frzE, get_cons]
    split
    · rfl
    · exact frzE_get b cs e i
/-- Block b is written no more: its cells are laid among what never changes. -/
theorem StLe.frz {n : Nat} {env : List (Nat × V)} {S : List Res} {ds : List Deferred} (b : Nat) {cs : List V} (hf : findObj S b = some cs) : StLe ⟨n, env, S, ds⟩ ⟨n, frzE b cs env, delObj S b, ds⟩ := fun G w a hr => by
  obtain ⟨A, B, tt, hS, hd⟩ := delObj_split hf
  have hi := hr.inv
  simp only at hi
  rw [hS] at hi
  obtain ⟨G1, he1, hi1, hv1⟩ := freeze1 hi
  refine ⟨G1, ?_, ?_⟩
  · show Evol S G w (delObj S b) G1 w
    rw [hd, hS]; exact he1
  · refine ⟨⟨hr.env.1, fun i => ?_⟩, hr.ds, ?_⟩
    · show VRel G1 (get (frzE b cs env) i) _
      rw [frzE_get]
      exact frzV_rel hv1 ((hr.env.2 i).mono he1.im)
    · show Inv G1 w (delObj S b)
      rw [hd]; exact hi1
@[go_sem] theorem frzE_nil {b : Nat} {cs : List V} : frzE b cs [] = [] := rfl
@[go_sem] theorem frzE_cons {b k : Nat} {cs : List V} {v : V} {e : List (Nat × V)} : frzE b cs ((k, v) :: e) = (k, frzV b cs v v) :: frzE b cs e := rfl
section
variable {b : Nat} {cs : List V} {d : V}
@[go_sem] theorem frzV_ptr {b' : Nat} : frzV b cs d (.lit (.pointer (some ⟨b', 0, none⟩))) = if b' = b then .pe cs else d := rfl
@[go_sem] theorem frzV_int {k : IntKind} {i : Int} : frzV b cs d (.lit (.int k i)) = d := rfl
@[go_sem] theorem frzV_bool {x : Bool} : frzV b cs d (.lit (.bool x)) = d := rfl
@[go_sem] theorem frzV_string {x : ByteArray} : frzV b cs d (.lit (.string x)) = d := rfl
@[go_sem] theorem frzV_slice {x : Option Addr} {m m' : Nat} : frzV b cs d (.lit (.slice x m m')) = d := rfl
@[go_sem] theorem frzV_float {k : FloatKind} {x : Nat} : frzV b cs d (.lit (.float k x)) = d := rfl
@[go_sem] theorem frzV_map {x : Option Nat} : frzV b cs d (.lit (.map x)) = d := rfl
@[go_sem] theorem frzV_func {f : Fn} {x y : Array Value} : frzV b cs d (.lit (.func f x y)) = d := rfl
@[go_sem] theorem frzV_iface {t : TypeId} {x : Value} : frzV b cs d (.lit (.iface t x)) = d := rfl
@[go_sem] theorem frzV_nilIface : frzV b cs d (.lit .nilIface) = d := rfl
@[go_sem] theorem frzV_nilFunc : frzV b cs d (.lit .nilFunc) = d := rfl
@[go_sem] theorem frzV_undef : frzV b cs d (.lit undef) = d := rfl
@[go_sem] theorem frzV_ptrn {o : Nat} : frzV b cs d (.lit (.pointer (some ⟨b, o + 1, none⟩))) = d := rfl
@[go_sem] theorem frzV_nilptr : frzV b cs d (.lit (.pointer none)) = d := rfl
@[go_sem] theorem frzV_agg {x : List V} : frzV b cs d (.agg x) = d := rfl
@[go_sem] theorem frzV_tuple {x : List V} : frzV b cs d (.tuple x) = d := rfl
@[go_sem] theorem frzV_sl {f : Bool} {m : Nat} {x : List V} : frzV b cs d (.sl f m x) = d := rfl
@[go_sem] theorem frzV_vs {k m m' : Nat} {x : Option Addr} : frzV b cs d (.vs k x m m') = d := rfl
@[go_sem] theorem frzV_pe {x : List V} : frzV b cs d (.pe x) = d := rfl
@[go_sem] theorem frzV_funcV {f : Fn} {x y : List V} : frzV b cs d (.func f x y) = d := rfl
@[go_sem] theorem frzV_ifaceV {t : TypeId} {x : V} : frzV b cs d (.iface t x) = d := rfl
@[go_sem] theorem frzV_any : frzV b cs d .any = d := rfl
end
section
variable {S : List Res} {x : Nat}
@[go_sem] theorem delObj_obj {b : Nat} {cs : List V} {T : Option TypeId} : delObj (.objT b cs T :: S) x = if b = x then S else .objT b cs T :: delObj S x := rfl
@[go_sem] theorem delObj_vec {k c z : Nat} {a : Option Addr} {xs : List V} : delObj (.vec k a c z xs :: S) x = .vec k a c z xs :: delObj S x := rfl
@[go_sem] theorem delObj_raw {b : Nat} {o : Obj} : delObj (.raw b o :: S) x = .raw b o :: delObj S x := rfl
end
@[go_sem] theorem findRaw_obj {S : List Res} {x y : Nat} {cs : List V} {tt : Option TypeId} : findRaw (.objT x cs tt :: S) y = findRaw S y := rfl
@[go_sem] theorem findRaw_vec {S : List Res} {k y c z : Nat} {x : Option Addr} {xs : List V} : findRaw (.vec k x c z xs :: S) y = findRaw S y := rfl
@[go_sem] theorem findRaw_raw {S : List Res} {x y : Nat} {o : Obj} : findRaw (.raw x o :: S) y = if x = y then some o else findRaw S y := rfl
end Go.AW
/- show.limits, delims; ContainsFunc and IndexFunc over ints. -/
set_option maxRecDepth 100000
set_option linter.unusedSimpArgs false
set_option linter.unusedVariables false
set_option pp.maxSteps 3000
set_option pp.deepTerms false
namespace Go.Proofs.YtflpfjeghomepaaDoor
open Go Go.AW Go.Proofs

def Nd.limB (x : Nd) : Bool := (x.lim == 0) || ((x.cls == 1) && x.told)
theorem limits_spec (x : Nd) (S : List Res) (Q : Out → List Res → Prop) (h : Q (.ret (.lit (.bool x.limB))) S) : ACall Tryd.prog 35 [.agg x.ce] S Q := by
  refine acall_of_awp Tryd.func35 rfl (by simp [go_sem]) (awp_sound pl0 _ (by kernel_rfl) _ _ ?_)
  simp [go_sem, iV]
  intro b hb
  have fin : ∀ v : Bool, x.limB = v → ∀ A : Res, Done (A :: S) (.lit (.bool v)) Q := fun v e A => by subst e; exact done (List.sublist_cons_self _ _) h
  refine cGuard_i (fun c1 => ?_) (fun c1 => ?_)
  · simp [go_sem, iV, c1]
    exact fin _ (by simp [Nd.limB, c1]) _
  simp [go_sem, iV, c1]
  refine cGuard_i (fun c2 => ?_) (fun c2 => ?_)
  · simp [go_sem, iV, c1, c2]
    refine .refl (told_spec x _ _ ?_)
    simp [go_sem, iV]
    exact fin _ (by simp [Nd.limB, c1, c2]) _
  · simp [go_sem, iV, c1, c2]
    exact fin _ (by simp [Nd.limB, c1, c2]) _

def idxOfI (p : Int → Bool) : List Int → Nat → Int
  | [], _ => -1
  | x :: xs, k => if p x then k else idxOfI p xs (k + 1)
theorem idxOfI_any (p : Int → Bool) : ∀ (l : List Int) (k : Nat), decide (0 ≤ idxOfI p l k) = l.any p
  | [], k => by simp [idxOfI]
  | x :: xs, k => by
    have ih := idxOfI_any p xs (k + 1)
    by_cases hp : p x = true
    · have e : idxOfI p (x :: xs) k = k := by simp [idxOfI, hp]
      rw [e]; simp [hp]
    · have e : idxOfI p (x :: xs) k = idxOfI p xs (k + 1) := by simp [idxOfI, hp]
      rw [e, ih]; simp [hp]
def PredI (g : Nat) (captured : List V) (p : Int → Bool) (S : List Res) : Prop := ∀ (x : Int) (Q : Out → List Res → Prop), Q (.ret (.lit (.bool (p x)))) S → ACall Tryd.prog g ([iV x] ++ captured) S Q
theorem indexI_spec (full : Bool) (l : List Int) (f : V) (g : Nat) (captured : List V) (p : Int → Bool) (hl : l.length ≤ 4294967296) (S : List Res) (hf : calleeOf f = some (g, [], captured)) (hz : fz S f = f) (hg : goesB Tryd.prog g = true) (hp : PredI g captured p S)
    (Q : Out → List Res → Prop) (h : Q (.ret (iV (idxOfI p l 0))) S) :
    ACall Tryd.prog 51 [.sl full 1 (l.map iV), f] S Q := by
  refine acall_of_awp Tryd.func51 rfl (by simp [go_sem]) (awp_sound pl0 _ (by kernel_rfl) _ _ ?_)
  simp [go_sem, iV]
  refine AWP.loop (ι := Nat) (fun k => k ≤ l.length ∧ idxOfI p l 0 = idxOfI p (l.drop k) k) (fun k => l.length - k) (fun k => ⟨19, [(0, .sl full 1 (l.map iV)), (1, f), (7, iV l.length), (8, iV k)], S, []⟩) 0 (by simp) (StLe.env (by simp [go_sem, iV])) ?_
  rintro k ⟨hk, hr⟩
  refine awp_sound pl0 _ (by kernel_rfl) _ _ ?_
  simp [go_sem, iV]
  refine cCond_i (fun c1 => ?_) (fun c1 => ?_)
  · simp at c1
    simp [go_sem, iV, hf, hg]
    refine ⟨c1, fun a ha => .refl (hp a _ ?_)⟩
    have hd : l.drop k = a :: l.drop (k + 1) := by rw [List.drop_eq_getElem_cons c1, (List.getElem?_eq_some_iff.1 ha).2]
    rw [hd] at hr
    simp [go_sem]
    refine cCond_i (fun c2 => ?_) (fun c2 => ?_)
    · simp [go_sem]
      simp only [idxOfI, c2, if_true] at hr
      rw [hr] at h
      exact done (List.Sublist.refl _) h
    · simp [go_sem]
      simp only [idxOfI, c2, Bool.false_eq_true, if_false] at hr
      refine round (k + 1) ⟨by omega, hr⟩ (by omega) (StLe.env ?_)
      rw [w64 (by omega) (by omega)]
      simp [go_sem, iV]
  · simp at c1
    simp [go_sem, iV]
    rw [List.drop_eq_nil_of_le c1] at hr
    simp [idxOfI] at hr
    rw [hr] at h
    exact done (List.Sublist.refl _) h
theorem containsI_spec (full : Bool) (l : List Int) (f : V) (g : Nat) (captured : List V) (p : Int → Bool) (hl : l.length ≤ 4294967296) (S : List Res) (hf : calleeOf f = some (g, [], captured)) (hz : fz S f = f) (hg : goesB Tryd.prog g = true) (hp : PredI g captured p S)
    (Q : Out → List Res → Prop) (h : Q (.ret (.lit (.bool (l.any p)))) S) :
    ACall Tryd.prog 44 [.sl full 1 (l.map iV), f] S Q := by
  refine acall_of_awp Tryd.func44 rfl (by simp [go_sem]) (awp_sound pl0 _ (by kernel_rfl) _ _ ?_)
  simp [go_sem, hz]
  refine .refl (indexI_spec full l f g captured p hl S hf hz hg hp _ ?_)
  simp [go_sem, iV]
  rw [idxOfI_any]
  exact done (List.Sublist.refl _) h

def wrongB (c : Int) : Bool := !(c == 0) && ((c == 46) || !runeB c)
theorem wrong_spec (S : List Res) (hT : Tab64 S) : PredI 43 [] wrongB S := fun c Q h => by
  refine acall_of_awp Tryd.func43 rfl (by simp [go_sem]) (awp_sound pl0 _ (by kernel_rfl) _ _ ?_)
  simp [go_sem, iV]
  have fin : ∀ v : Bool, wrongB c = v → Done S (.lit (.bool v)) Q := fun v e => by subst e; exact done (List.Sublist.refl _) h
  refine cGuard_i (fun c1 => ?_) (fun c1 => ?_)
  rotate_left
  · simp [go_sem, iV, c1]
    simp at c1
    exact fin _ (by simp [wrongB, c1])
  simp [go_sem, iV, c1]
  refine cGuard_i (fun c2 => ?_) (fun c2 => ?_)
  · simp [go_sem, iV, c1, c2]
    simp at c1 c2
    exact fin _ (by simp [wrongB, c1, c2])
  · simp [go_sem, iV, c1, c2]
    refine .refl (isRune_spec c S hT _ ?_)
    simp [go_sem, iV]
    simp at c1 c2
    have e1 : (c == 0) = false := by simpa using c1
    have e2 : (c == 46) = false := by simpa using c2
    exact fin _ (by simp [wrongB, e1, e2])

def Nd.delB (x : Nd) : Bool := decide (0 < x.parts.length) && (x.runes.length == x.parts.length + 1) && !x.runes.any wrongB
theorem delims_spec (x : Nd) (hx : x.size ≤ 4294967296) (S : List Res) (hT : Tab64 S) (Q : Out → List Res → Prop) (h : Q (.ret (.lit (.bool x.delB))) S) : ACall Tryd.prog 36 [.agg x.ce] S Q := by
  refine acall_of_awp Tryd.func36 rfl (by simp [go_sem]) (awp_sound pl0 _ (by kernel_rfl) _ _ ?_)
  simp [go_sem, iV]
  intro b hb
  have fin : ∀ v : Bool, x.delB = v → ∀ A : Res, Done (A :: S) (.lit (.bool v)) Q := fun v e A => by subst e; exact done (List.sublist_cons_self _ _) h
  have hse := x.size_eq
  have hps := len_sizeP x.parts
  have hw : IntKind.i64.wrap ((x.parts.length : Int) + 1) = x.parts.length + 1 := w64 (by omega) (by omega)
  refine cGuard_i (fun c1 => ?_) (fun c1 => ?_)
  rotate_left
  · simp [go_sem, iV, c1]
    simp at c1
    exact fin _ (by simp [Nd.delB, c1]) _
  simp [go_sem, iV, c1, hw]
  have e1 : ((x.runes.length : Int) == (x.parts.length : Int) + 1) = (x.runes.length == x.parts.length + 1) := by
    cases e : (x.runes.length == x.parts.length + 1) <;> simp at e ⊢ <;> omega
  rw [e1]
  refine cGuard_i (fun c2 => ?_) (fun c2 => ?_)
  rotate_left
  · simp [go_sem, iV, c1, c2]
    exact fin _ (by simp [Nd.delB, c2]) _
  simp [go_sem, iV, c2]
  refine .refl (containsI_spec false x.runes _ 43 [] wrongB (by omega) _ rfl rfl (by kernel_rfl) (wrong_spec _ (by simpa [Tab64, go_sem] using hT)) _ ?_)
  simp [go_sem, iV]
  simp at c1
  exact fin _ (by simp [Nd.delB, c1, c2]) _
end Go.Proofs.YtflpfjeghomepaaDoor
/- parse.Class. -/
set_option maxRecDepth 100000
set_option linter.unusedSimpArgs false
set_option linter.unusedVariables false
set_option pp.maxSteps 3000
set_option pp.deepTerms false
namespace Go.Proofs.YtflpfjeghomepaaDoor
open Go Go.AW Go.Proofs

def clsR : List (Int × List Int) := [(1, cl_t1), (2, cl_t2), (3, cl_t3), (4, cl_t4), (5, cl_t5), (6, cl_t6)]
def classR (c : Int) : List (Int × List Int) → Int
  | [] => 0
  | (k, l) :: rs => if inR c l then k else classR c rs
theorem classR_eq (c : Int) : classR c clsR = classV c := rfl
def rngV (p : Int × List Int) : V := .agg [iV p.1, .sl true 1 (p.2.map iV)]
def inC (c : Int) (p : List Int) : Bool := decide (p.getD 0 0 ≤ c) && decide (c ≤ p.getD 1 0)
theorem inR_chunks (c : Int) : ∀ (n : Nat) (l : List Int), l.length = 2 * n → inR c l = (chunksI 2 l).any (inC c)
  | 0, l, h => by
    have : l = [] := List.eq_nil_of_length_eq_zero (by omega)
    subst this
    rw [chunksI]; rfl
  | n + 1, a :: b :: l, h => by
    rw [chunksI, dif_neg (by simp)]
    have := inR_chunks c n l (by simp at h; omega)
    simp [inR, this, inC]

theorem chunks_len2 : ∀ (n : Nat) (l : List Int), l.length = 2 * n → ∀ p ∈ chunksI 2 l, p.length = 2
  | 0, l, h => by
    have : l = [] := List.eq_nil_of_length_eq_zero (by omega)
    subst this
    rw [chunksI]; simp
  | n + 1, a :: b :: l, h => by
    rw [chunksI, dif_neg (by simp)]
    have := chunks_len2 n l (by simp at h; omega)
    simpa using this
def plCl : Nat → DPlan 
  | 6 => .take 1 (.take 2 (.take 3 (one 0 (.take 4 (.take 5 (.take 7 (.take 8 (.take 9 (one 6 (.take 10 (.take 11 .done)))))))))))
  | _ => .done
theorem classP_spec (c : Int) (S : List Res) (Q : Out → List Res → Prop) (h : Q (.ret (iV (classV c))) S) : ACall Tryd.prog 34 [iV c] S Q := by
  refine acall_of_awpM Tryd.func34 rfl (by simp [go_sem]) (awp_sound plCl _ (by kernel_rfl) _ _ ?_)
  simp [go_sem, iV]
  intro b1 hb1 b2 hb2
  have n21 : b2 ≠ b1 := by simp [Fresh, blks, Res.blk] at hb2; exact hb2.1
  rw [← classR_eq] at h
  refine AWP.loop (ι := Nat × List Nat) (fun p => p.1 ≤ 6 ∧ classR c clsR = classR c (clsR.drop p.1)) (fun p => 6 - p.1)
    (fun p => ⟨43, [(1, .lit (.pointer (some ⟨b1, 0, none⟩))), (2, .lit (.pointer (some ⟨b2, 0, none⟩))), (18, .sl true 2 (clsR.map rngV)), (19, iV 6), (20, iV p.1)], raws p.2 ++ (.objT b2 [iV 0] none :: .obj b1 [iV c] :: S), marks p.2⟩) (0, []) (by simp) (StLe.env (by simp [go_sem, iV, clsR, rngV, cl_t1, cl_t2, cl_t3, cl_t4, cl_t5, cl_t6])) ?_
  rintro ⟨k, dbs⟩ ⟨hk, hcl⟩
  simp only at hk hcl
  obtain ⟨RS, hRS⟩ : ∃ RS, RS = clsR := ⟨_, rfl⟩
  have hRl : RS.length = 6 := by rw [hRS]; rfl
  have hev : ∀ p ∈ RS, ∃ n, n ≤ 10 ∧ p.2.length = 2 * n := by rw [hRS]; decide
  rw [← hRS] at hcl h ⊢
  refine awp_sound plCl _ (by kernel_rfl) _ _ ?_
  simp [go_sem, iV, findObj_raws, setObj_raws]
  refine cCond_i (fun c1 => ?_) (fun c1 => ?_)
  · simp at c1
    simp [go_sem, iV, findObj_raws, setObj_raws, n21, rngV]
    refine ⟨by omega, ?_⟩
    rintro a cl l hal rfl
    simp [go_sem, iV, findObj_raws, setObj_raws, n21]
    intro b4 hb4
    have n41 : b4 ≠ b1 ∧ b4 ≠ b2 := by simp [Fresh, blks_append, blks_raws, blks, Res.blk] at hb4; exact ⟨hb4.2.2.1, hb4.2.1⟩
    obtain ⟨n, hn10, hn⟩ := hev _ (List.mem_of_getElem? hal)
    simp only at hn
    have hd : RS.drop k = (cl, l) :: RS.drop (k + 1) := by rw [List.drop_eq_getElem_cons (List.getElem?_eq_some_iff.1 hal).1, (List.getElem?_eq_some_iff.1 hal).2]
    rw [hd, classR, inR_chunks c n l hn] at hcl
    refine .refl (chunk_spec true l 2 (by omega) (by omega) _ _ ?_)
    simp [go_sem, iV, findObj_raws, setObj_raws]
    refine AWP.rangeFunc rfl (by simp [go_sem]) fun db y hdb hy hdby => ?_
    simp [go_sem, iV, findObj_raws, setObj_raws]
    generalize hlp : Res.lp y 43 _ LoopState.ready none _ _ _ db = LP
    have f1 : b4 ≠ b1 := n41.1
    have f2 : b4 ≠ b2 := n41.2
    have roundS : ∀ (p0 p1 : Int) (R : Bool → List Res → Prop),
        (inC c [p0, p1] = false → R true (LP :: Res.raw db (Obj.deferred (some [])) :: Res.objT b4 [iV cl, V.sl true 1 (l.map iV)] none :: (raws dbs ++ Res.objT b2 [iV 0] none :: Res.obj b1 [iV c] :: S))) →
        (inC c [p0, p1] = true → R false (AW.setLp y .done (some .ret) (LP :: Res.raw db (Obj.deferred (some [])) :: Res.objT b4 [iV cl, V.sl true 1 (l.map iV)] none :: (raws dbs ++ Res.objT b2 [iV cl] none :: Res.obj b1 [iV c] :: S)))) →
        ARound Tryd.prog y [.sl true 1 ([p0, p1].map iV)] (LP :: Res.raw db (Obj.deferred (some [])) :: Res.objT b4 [iV cl, V.sl true 1 (l.map iV)] none :: (raws dbs ++ Res.objT b2 [iV 0] none :: Res.obj b1 [iV c] :: S)) R := by
      intro p0 p1 R hR1 hR2
      subst hlp
      refine ARound.of_body (by simp [go_sem]; rfl) rfl (by simp [go_sem]) ?_
      refine awp_sound plCl _ (by kernel_rfl) _ _ ?_
      simp [go_sem, assignEnv, iV]
      refine awp_sound plCl _ (by kernel_rfl) _ _ ?_
      simp [go_sem, iV, findObj_raws, setObj_raws, plCl, one, f1, f2, n21, Ne.symm f1, Ne.symm f2, Ne.symm n21]
      refine tG_i (fun c2 => ?_) (fun c2 => ?_)
      · simp [go_sem, iV, findObj_raws, setObj_raws, plCl, one, f1, f2, n21, Ne.symm f1, Ne.symm f2, Ne.symm n21, c2]
        refine cCond_i (fun c3 => ?_) (fun c3 => ?_)
        · simp [go_sem, iV, findObj_raws, setObj_raws, plCl, one, f1, f2, n21, Ne.symm f1, Ne.symm f2, Ne.symm n21]
          have := hR2 (by simp [inC, c2, c3])
          simpa [go_sem, iV, findObj_raws, setObj_raws] using this
        · simp [go_sem, iV, findObj_raws, setObj_raws, plCl, one, f1, f2, n21, Ne.symm f1, Ne.symm f2, Ne.symm n21]
          exact hR1 (by simp [inC, c3])
      · simp [go_sem, iV, findObj_raws, setObj_raws, plCl, one, f1, f2, n21, Ne.symm f1, Ne.symm f2, Ne.symm n21, c2]
        exact hR1 (by simp [inC, c2])
    have iter : ∀ (cs : List (List Int)) (Qe : List Res → Prop), (∀ p ∈ cs, p.length = 2) →
        (cs.any (inC c) = false → Qe (LP :: Res.raw db (Obj.deferred (some [])) :: Res.objT b4 [iV cl, V.sl true 1 (l.map iV)] none :: (raws dbs ++ Res.objT b2 [iV 0] none :: Res.obj b1 [iV c] :: S))) →
        (cs.any (inC c) = true → Qe (AW.setLp y .done (some .ret) (LP :: Res.raw db (Obj.deferred (some [])) :: Res.objT b4 [iV cl, V.sl true 1 (l.map iV)] none :: (raws dbs ++ Res.objT b2 [iV cl] none :: Res.obj b1 [iV c] :: S)))) →
        AIter Tryd.prog y (cs.map fun c => [.sl true 1 (c.map iV)]) (LP :: Res.raw db (Obj.deferred (some [])) :: Res.objT b4 [iV cl, V.sl true 1 (l.map iV)] none :: (raws dbs ++ Res.objT b2 [iV 0] none :: Res.obj b1 [iV c] :: S)) Qe := by
      intro cs
      induction cs with
      | nil => intro Qe hc h0 h1; simp only [List.map_nil, AIter]; exact h0 rfl
      | cons p cs ih =>
        intro Qe hc h0 h1
        simp only [List.map_cons, AIter]
        obtain ⟨p0, p1, rfl⟩ : ∃ p0 p1, p = [p0, p1] := by
          match p, hc p (by simp) with
          | [x, y], _ => exact ⟨x, y, rfl⟩
        refine roundS p0 p1 _ (fun e => ?_) (fun e => ?_)
        · rw [if_pos rfl]
          exact ih Qe (fun p hp => hc p (by simp [hp])) (fun e2 => h0 (by simp [e, e2])) (fun e2 => h1 (by simp [e2]))
        · rw [if_neg (by simp)]
          exact h1 (by simp [e])
    have hc2 := (chunks_len2 n l hn)
    refine chunk1_spec y true l 2 (by omega) (by omega) (by omega) _ _ ?_
    refine iter _ _ hc2 (fun e => ?_) (fun e => ?_)
    · subst hlp
      rw [e] at hcl
      simp only [Bool.false_eq_true, if_false] at hcl
      simp [go_sem, iV, findObj_raws, setObj_raws, n41, n21]
      rw [w64 (by omega) (by omega)]
      refine round (k + 1, db :: dbs) ⟨by simp only; omega, hcl⟩ (by simp only; omega) ((StLe.drop (S' := raws (db :: dbs) ++ (Res.objT b2 [iV 0] none :: Res.obj b1 [iV c] :: S)) (by show (Res.raw db (Obj.deferred (some [])) :: (raws dbs ++ (Res.objT b2 [iV 0] none :: Res.obj b1 [iV c] :: S))).Sublist (Res.raw db (Obj.deferred (some [])) :: _ :: (raws dbs ++ (Res.objT b2 [iV 0] none :: Res.obj b1 [iV c] :: S))); exact List.Sublist.cons_cons _ (List.sublist_cons_self _ _))).trans (StLe.env ?_))
      simp [go_sem, iV]
    · subst hlp
      rw [e, if_pos rfl] at hcl
      rw [hcl] at h
      simp [go_sem, iV, findObj_raws, setObj_raws, n41, n21]
      refine AWP.ret ?_
      simp [go_sem, iV, findObj_raws, setObj_raws, n41, n21]
      refine ALeave_marks (by simp) [_] rfl ?_ dbs
      simp [go_sem, iV, n41, n21, Ne.symm n21]
      exact done (by (repeat (first | exact List.Sublist.refl _ | refine List.Sublist.cons_cons _ ?_ | refine List.Sublist.append (List.Sublist.refl _) ?_ | refine List.Sublist.cons _ ?_))) h
  · simp at c1
    simp [go_sem, iV, findObj_raws, setObj_raws, n21]
    rw [show RS.drop k = [] from List.drop_eq_nil_of_le (by omega)] at hcl
    rw [hcl] at h
    refine ALeave_marks (by simp) [] rfl ?_ dbs
    simp [go_sem, iV, n21, Ne.symm n21]
    exact done (by (repeat (first | exact List.Sublist.refl _ | refine List.Sublist.cons_cons _ ?_ | refine List.Sublist.append (List.Sublist.refl _) ?_ | refine List.Sublist.cons _ ?_))) h
end Go.Proofs.YtflpfjeghomepaaDoor
/- show.own. -/
set_option maxRecDepth 100000
set_option linter.unusedSimpArgs false
set_option linter.unusedVariables false
set_option pp.maxSteps 3000
set_option pp.deepTerms false
namespace Go.Proofs.YtflpfjeghomepaaDoor
open Go Go.AW Go.Proofs

def Nd.flatB (x : Nd) : Bool := (x.kind == 10) || (x.kind == 11)
/-- Is a noad right, but for what is in it? -/
def Nd.ownB (x : Nd) : Bool :=
  if x.kind = 0 then ((x.parts.length : Int) == 0) && runeB x.rune && (x.cls == classV x.rune) && x.limB
  else if x.kind = 1 then ((x.parts.length : Int) == 1) && decide (0 ≤ x.cls) && decide (x.cls ≤ 7) && x.limB
  else if x.kind = 2 then ((x.parts.length : Int) == 2) && ((x.n == 0) || (x.n == 1))
  else if x.kind = 3 then ((x.parts.length : Int) == 1) || ((x.parts.length : Int) == 2)
  else if x.kind = 4 ∨ x.kind = 5 ∨ x.kind = 9 then (x.parts.length : Int) == 1
  else if x.kind = 6 then ((x.parts.length : Int) == 1) && runeB x.rune
  else if x.kind = 7 then x.delB
  else if x.kind = 8 then decide (1 ≤ x.n) && decide (x.n ≤ 64) && decide (1 ≤ (x.parts.length : Int)) && ((x.parts.length : Int).tmod x.n == 0)
  else if x.kind = 10 then decide (0 ≤ x.n) && decide (x.n < 4) && !x.hasSup && !x.hasSub
  else if x.kind = 11 then decide (-1000 ≤ x.n) && decide (x.n ≤ 1000) && !x.hasSup && !x.hasSub
  else false
/-- What it has no use for. -/
def Nd.rest0 (x : Nd) : Nd := if x.kind = 10 ∨ x.kind = 11 then x else { x with parts := [] }
def Nd.rest (x : Nd) : Nd :=
  if x.kind = 0 then { x.rest0 with rune := 0, cls := 0, lim := 0 }
  else if x.kind = 1 then { x.rest0 with cls := 0, lim := 0 }
  else if x.kind = 2 then { x.rest0 with n := 0 }
  else if x.kind = 6 then { x.rest0 with rune := 0 }
  else if x.kind = 7 then { x.rest0 with runes := [] }
  else if x.kind = 8 then { x.rest0 with n := 0 }
  else if x.kind = 10 then { x.rest0 with n := 0 }
  else if x.kind = 11 then { x.rest0 with n := 0 }
  else x.rest0

def plOw : Nat → DPlan 
  | 1 => .take 0 (.take 1 (.take 2 (.take 3 (one 4 (one 5 (one 6 .done))))))
  | 7 => .take 0 (.take 1 (.take 2 (.take 3 (.take 4 (.take 19 (one 5 (.take 6 (.take 7 (.take 8 (.take 9 (.take 10 (.take 11 (one 12 (.take 13 (.take 14 (.take 15 (.take 16 (one 17 (.take 18 (one 20 (one 21 .done)))))))))))))))))))))
  | 10 => .take 0 (.take 1 (.take 2 (.take 3 (.take 4 (.take 5 (.take 6 (.take 7 (.take 8 (.take 9 (.take 10 (.take 11 (.take 12 (.take 13 (.take 16 (one 14 (.take 15 (one 17 (one 18 .done))))))))))))))))))
  | 13 => .take 0 (.take 1 (.take 2 (.take 3 (.take 4 (.take 5 (.take 6 (.take 7 (.take 8 (.take 9 (.take 10 (.take 11 (.take 12 (one 13 (one 14 .done))))))))))))))
  | 15 => .take 0 (.take 1 (.take 2 (.take 3 (.take 4 (.take 5 (.take 6 (one 7 (one 8 .done))))))))
  | 19 => .take 0 (.take 1 (.take 2 (one 3 (one 4 .done))))
  | 22 => .take 0 (.take 1 (.take 2 (.take 3 (.take 4 (.take 7 (one 5 (.take 6 (one 8 (one 9 .done)))))))))
  | 25 => .take 0 (.take 2 (one 1 (one 3 (one 4 .done))))
  | 28 => .take 0 (.take 1 (.take 2 (.take 3 (.take 4 (.take 5 (.take 6 (.take 7 (.take 8 (.take 9 (.take 10 (.take 11 (.take 12 (.take 13 (.take 14 (.take 15 (.take 16 (.take 17 (.take 18 (.take 19 (one 20 (one 21 .done)))))))))))))))))))))
  | 31 => .take 0 (.take 1 (.take 2 (.take 3 (.take 4 (.take 5 (.take 6 (.take 7 (.take 8 (.take 9 (.take 10 (.take 11 (.take 12 (.take 13 (.take 14 (.take 15 (.take 16 (.take 17 (.take 18 (one 19 (one 20 .done))))))))))))))))))))
  | 34 => .take 0 (.take 1 (.take 2 (.take 3 (.take 4 (.take 5 (.take 6 (.take 7 (.take 8 (.take 9 (.take 10 (.take 11 (.take 12 (.take 13 (.take 14 (.take 15 (.take 16 (.take 17 (.take 18 (one 19 (one 20 .done))))))))))))))))))))
  | 35 => .take 0 (one 1 (one 2 .done))
  | _ => .done
/-- Where the walks of the kinds begin: behind 'n, rest := len(x.Parts), x'. -/
theorem own_fin {x : Nd} {v : Bool} {S S' : List Res} {cs : List V} {Q : Out → List Res → Prop} (hs : S.Sublist S') (hv : x.ownB = v) (hc : VsLe S' cs x.rest.ce) (h : Q (.ret (.tuple [.lit (.bool x.ownB), .agg x.rest.ce])) S) : Done S' (.tuple [.lit (.bool v), .agg cs]) Q :=
  ⟨_, S, VLe.tuple (.cons (.refl _ _) (.cons (VLe.agg hc) (.nil _))), .drop hs, by rw [← hv]; exact h⟩
set_option maxHeartbeats 1000000 in
theorem own_spec (x : Nd) (hx : x.size ≤ 4294967296) (S : List Res) (hT : Tab64 S) (Q : Out → List Res → Prop) (h : Q (.ret (.tuple [.lit (.bool x.ownB), .agg x.rest.ce])) S) : ACall Tryd.prog 24 [.agg x.ce] S Q := by
  refine acall_of_awp Tryd.func24 rfl (by simp [go_sem]) (awpC_sound [1, 7, 10, 13, 15, 19, 22, 25, 28, 31, 34, 35] plOw _ (by kernel_rfl) _ _ ?_)
  simp [go_sem, iV]
  intro b1 hb1 b3 hb3
  have n31 : b3 ≠ b1 := by simp [Fresh, blks, Res.blk] at hb3; exact hb3.1
  refine AWP.le (StLe.frz b1 (cs := x.ce) (by simp [go_sem, iV, n31])) ?_
  simp [go_sem, iV, n31]
  refine awpC_sound [7, 10, 13, 15, 19, 22, 25, 28, 31, 34, 35] plOw _ (by kernel_rfl) _ _ ?_
  simp [go_sem, iV, plOw, one]
  intro b5 hb5
  have n51 : b5 ≠ b3 := by simp [Fresh, blks, Res.blk] at hb5; exact hb5.1
  have hse := x.size_eq
  have hps := len_sizeP x.parts
-- KINDS
  by_cases k0 : x.kind = 0
  · have how : x.ownB = (((x.parts.length : Int) == 0) && runeB x.rune && (x.cls == classV x.rune) && x.limB) := by rw [Nd.ownB, if_pos (by omega)]
    simp [go_sem, iV, plOw, one, k0, n51, Ne.symm n51]
    refine AWP.le (StLe.frz b5 (by simp [go_sem, n51]; rfl)) ?_
    simp [go_sem, iV, n31, n51, Ne.symm n51, k0]
    refine awp_sound plOw _ (by kernel_rfl) _ _ ?_
    simp [go_sem, iV, plOw, one, k0]
    refine tG_i (fun c1 => ?_) (fun c1 => ?_)
    rotate_left
    · simp [go_sem, iV, plOw, one, k0, c1]
      exact own_fin (by (repeat (first | exact List.Sublist.refl _ | refine List.Sublist.cons_cons _ ?_ | refine List.Sublist.append (List.Sublist.refl _) ?_ | refine List.Sublist.cons _ ?_))) (by first | exact how | (rw [how]; simp only [c1, Bool.and_true, Bool.true_and, Bool.and_false, Bool.false_and, Bool.or_true, Bool.true_or, Bool.or_false, Bool.false_or, Bool.not_true, Bool.not_false])) (by simp [Nd.rest, Nd.rest0, iV, k0]; (repeat (first | exact VsLe.nil _ | refine VsLe.cons (VLe.refl _ _) ?_ | refine VsLe.cons (VLe.nilSl _ _ _) ?_))) h
    simp [go_sem, iV, plOw, one, k0, c1]
    refine .refl (isRune_spec _ _ (by simpa [Tab64, go_sem] using hT) _ ?_)
    simp [go_sem, iV, plOw, one, k0]
    refine tG_i (fun c2 => ?_) (fun c2 => ?_)
    rotate_left
    · simp [go_sem, iV, plOw, one, k0, c2]
      exact own_fin (by (repeat (first | exact List.Sublist.refl _ | refine List.Sublist.cons_cons _ ?_ | refine List.Sublist.append (List.Sublist.refl _) ?_ | refine List.Sublist.cons _ ?_))) (by first | exact how | (rw [how]; simp only [c1, c2, Bool.and_true, Bool.true_and, Bool.and_false, Bool.false_and, Bool.or_true, Bool.true_or, Bool.or_false, Bool.false_or, Bool.not_true, Bool.not_false])) (by simp [Nd.rest, Nd.rest0, iV, k0]; (repeat (first | exact VsLe.nil _ | refine VsLe.cons (VLe.refl _ _) ?_ | refine VsLe.cons (VLe.nilSl _ _ _) ?_))) h
    simp [go_sem, iV, plOw, one, k0, c2]
    refine .refl (classP_spec _ _ _ ?_)
    simp [go_sem, iV, plOw, one, k0]
    refine tG_i (fun c3 => ?_) (fun c3 => ?_)
    rotate_left
    · simp [go_sem, iV, plOw, one, k0, c3]
      exact own_fin (by (repeat (first | exact List.Sublist.refl _ | refine List.Sublist.cons_cons _ ?_ | refine List.Sublist.append (List.Sublist.refl _) ?_ | refine List.Sublist.cons _ ?_))) (by first | exact how | (rw [how]; simp only [c1, c2, c3, Bool.and_true, Bool.true_and, Bool.and_false, Bool.false_and, Bool.or_true, Bool.true_or, Bool.or_false, Bool.false_or, Bool.not_true, Bool.not_false])) (by simp [Nd.rest, Nd.rest0, iV, k0]; (repeat (first | exact VsLe.nil _ | refine VsLe.cons (VLe.refl _ _) ?_ | refine VsLe.cons (VLe.nilSl _ _ _) ?_))) h
    simp [go_sem, iV, plOw, one, k0, c3]
    have key := @limits_spec x
    simp only [Nd.ce, iV, k0] at key
    refine .refl (key _ _ ?_)
    simp [go_sem, iV, plOw, one, k0]
    exact own_fin (by (repeat (first | exact List.Sublist.refl _ | refine List.Sublist.cons_cons _ ?_ | refine List.Sublist.append (List.Sublist.refl _) ?_ | refine List.Sublist.cons _ ?_))) (by first | exact how | (rw [how]; simp only [c1, c2, c3, Bool.and_true, Bool.true_and, Bool.and_false, Bool.false_and, Bool.or_true, Bool.true_or, Bool.or_false, Bool.false_or, Bool.not_true, Bool.not_false])) (by simp [Nd.rest, Nd.rest0, iV, k0]; (repeat (first | exact VsLe.nil _ | refine VsLe.cons (VLe.refl _ _) ?_ | refine VsLe.cons (VLe.nilSl _ _ _) ?_))) h
  by_cases k1 : x.kind = 1
  · have how : x.ownB = (((x.parts.length : Int) == 1) && decide (0 ≤ x.cls) && decide (x.cls ≤ 7) && x.limB) := by rw [Nd.ownB, if_neg (by omega), if_pos (by omega)]
    simp [go_sem, iV, plOw, one, k1, n51, Ne.symm n51]
    refine AWP.le (StLe.frz b5 (by simp [go_sem, n51]; rfl)) ?_
    simp [go_sem, iV, n31, n51, Ne.symm n51, k1]
    refine awp_sound plOw _ (by kernel_rfl) _ _ ?_
    simp [go_sem, iV, plOw, one, k1]
    refine tG_i (fun c1 => ?_) (fun c1 => ?_)
    rotate_left
    · simp [go_sem, iV, plOw, one, k1, c1]
      exact own_fin (by (repeat (first | exact List.Sublist.refl _ | refine List.Sublist.cons_cons _ ?_ | refine List.Sublist.append (List.Sublist.refl _) ?_ | refine List.Sublist.cons _ ?_))) (by first | exact how | (rw [how]; simp only [c1, Bool.and_true, Bool.true_and, Bool.and_false, Bool.false_and, Bool.or_true, Bool.true_or, Bool.or_false, Bool.false_or, Bool.not_true, Bool.not_false])) (by simp [Nd.rest, Nd.rest0, iV, k1]; (repeat (first | exact VsLe.nil _ | refine VsLe.cons (VLe.refl _ _) ?_ | refine VsLe.cons (VLe.nilSl _ _ _) ?_))) h
    simp [go_sem, iV, plOw, one, k1, c1]
    refine tG_i (fun c2 => ?_) (fun c2 => ?_)
    rotate_left
    · simp [go_sem, iV, plOw, one, k1, c2]
      exact own_fin (by (repeat (first | exact List.Sublist.refl _ | refine List.Sublist.cons_cons _ ?_ | refine List.Sublist.append (List.Sublist.refl _) ?_ | refine List.Sublist.cons _ ?_))) (by first | exact how | (rw [how]; simp only [c1, c2, Bool.and_true, Bool.true_and, Bool.and_false, Bool.false_and, Bool.or_true, Bool.true_or, Bool.or_false, Bool.false_or, Bool.not_true, Bool.not_false])) (by simp [Nd.rest, Nd.rest0, iV, k1]; (repeat (first | exact VsLe.nil _ | refine VsLe.cons (VLe.refl _ _) ?_ | refine VsLe.cons (VLe.nilSl _ _ _) ?_))) h
    simp [go_sem, iV, plOw, one, k1, c2]
    refine tG_i (fun c3 => ?_) (fun c3 => ?_)
    rotate_left
    · simp [go_sem, iV, plOw, one, k1, c3]
      exact own_fin (by (repeat (first | exact List.Sublist.refl _ | refine List.Sublist.cons_cons _ ?_ | refine List.Sublist.append (List.Sublist.refl _) ?_ | refine List.Sublist.cons _ ?_))) (by first | exact how | (rw [how]; simp only [c1, c2, c3, Bool.and_true, Bool.true_and, Bool.and_false, Bool.false_and, Bool.or_true, Bool.true_or, Bool.or_false, Bool.false_or, Bool.not_true, Bool.not_false])) (by simp [Nd.rest, Nd.rest0, iV, k1]; (repeat (first | exact VsLe.nil _ | refine VsLe.cons (VLe.refl _ _) ?_ | refine VsLe.cons (VLe.nilSl _ _ _) ?_))) h
    simp [go_sem, iV, plOw, one, k1, c3]
    have key := @limits_spec x
    simp only [Nd.ce, iV, k1] at key
    refine .refl (key _ _ ?_)
    simp [go_sem, iV, plOw, one, k1]
    exact own_fin (by (repeat (first | exact List.Sublist.refl _ | refine List.Sublist.cons_cons _ ?_ | refine List.Sublist.append (List.Sublist.refl _) ?_ | refine List.Sublist.cons _ ?_))) (by first | exact how | (rw [how]; simp only [c1, c2, c3, Bool.and_true, Bool.true_and, Bool.and_false, Bool.false_and, Bool.or_true, Bool.true_or, Bool.or_false, Bool.false_or, Bool.not_true, Bool.not_false])) (by simp [Nd.rest, Nd.rest0, iV, k1]; (repeat (first | exact VsLe.nil _ | refine VsLe.cons (VLe.refl _ _) ?_ | refine VsLe.cons (VLe.nilSl _ _ _) ?_))) h
  by_cases k2 : x.kind = 2
  · have how : x.ownB = (((x.parts.length : Int) == 2) && ((x.n == 0) || (x.n == 1))) := by rw [Nd.ownB, if_neg (by omega), if_neg (by omega), if_pos (by omega)]
    simp [go_sem, iV, plOw, one, k2, n51, Ne.symm n51]
    refine AWP.le (StLe.frz b5 (by simp [go_sem, n51]; rfl)) ?_
    simp [go_sem, iV, n31, n51, Ne.symm n51, k2]
    refine awp_sound plOw _ (by kernel_rfl) _ _ ?_
    simp [go_sem, iV, plOw, one, k2]
    refine tG_i (fun c1 => ?_) (fun c1 => ?_)
    rotate_left
    · simp [go_sem, iV, plOw, one, k2, c1]
      exact own_fin (by (repeat (first | exact List.Sublist.refl _ | refine List.Sublist.cons_cons _ ?_ | refine List.Sublist.append (List.Sublist.refl _) ?_ | refine List.Sublist.cons _ ?_))) (by first | exact how | (rw [how]; simp only [c1, Bool.and_true, Bool.true_and, Bool.and_false, Bool.false_and, Bool.or_true, Bool.true_or, Bool.or_false, Bool.false_or, Bool.not_true, Bool.not_false])) (by simp [Nd.rest, Nd.rest0, iV, k2]; (repeat (first | exact VsLe.nil _ | refine VsLe.cons (VLe.refl _ _) ?_ | refine VsLe.cons (VLe.nilSl _ _ _) ?_))) h
    simp [go_sem, iV, plOw, one, k2, c1]
    refine tG_i (fun c2 => ?_) (fun c2 => ?_)
    · simp [go_sem, iV, plOw, one, k2, c2]
      exact own_fin (by (repeat (first | exact List.Sublist.refl _ | refine List.Sublist.cons_cons _ ?_ | refine List.Sublist.append (List.Sublist.refl _) ?_ | refine List.Sublist.cons _ ?_))) (by first | exact how | (rw [how]; simp only [c1, c2, Bool.and_true, Bool.true_and, Bool.and_false, Bool.false_and, Bool.or_true, Bool.true_or, Bool.or_false, Bool.false_or, Bool.not_true, Bool.not_false])) (by simp [Nd.rest, Nd.rest0, iV, k2]; (repeat (first | exact VsLe.nil _ | refine VsLe.cons (VLe.refl _ _) ?_ | refine VsLe.cons (VLe.nilSl _ _ _) ?_))) h
    simp [go_sem, iV, plOw, one, k2, c2]
    exact own_fin (by (repeat (first | exact List.Sublist.refl _ | refine List.Sublist.cons_cons _ ?_ | refine List.Sublist.append (List.Sublist.refl _) ?_ | refine List.Sublist.cons _ ?_))) (by first | exact how | (rw [how]; simp only [c1, c2, Bool.and_true, Bool.true_and, Bool.and_false, Bool.false_and, Bool.or_true, Bool.true_or, Bool.or_false, Bool.false_or, Bool.not_true, Bool.not_false])) (by simp [Nd.rest, Nd.rest0, iV, k2]; (repeat (first | exact VsLe.nil _ | refine VsLe.cons (VLe.refl _ _) ?_ | refine VsLe.cons (VLe.nilSl _ _ _) ?_))) h
  by_cases k3 : x.kind = 3
  · have how : x.ownB = (((x.parts.length : Int) == 1) || ((x.parts.length : Int) == 2)) := by rw [Nd.ownB, if_neg (by omega), if_neg (by omega), if_neg (by omega), if_pos (by omega)]
    simp [go_sem, iV, plOw, one, k3, n51, Ne.symm n51]
    refine AWP.le (StLe.frz b5 (by simp [go_sem, n51]; rfl)) ?_
    simp [go_sem, iV, n31, n51, Ne.symm n51, k3]
    refine awp_sound plOw _ (by kernel_rfl) _ _ ?_
    simp [go_sem, iV, plOw, one, k3]
    refine tG_i (fun c1 => ?_) (fun c1 => ?_)
    · simp [go_sem, iV, plOw, one, k3, c1]
      exact own_fin (by (repeat (first | exact List.Sublist.refl _ | refine List.Sublist.cons_cons _ ?_ | refine List.Sublist.append (List.Sublist.refl _) ?_ | refine List.Sublist.cons _ ?_))) (by first | exact how | (rw [how]; simp only [c1, Bool.and_true, Bool.true_and, Bool.and_false, Bool.false_and, Bool.or_true, Bool.true_or, Bool.or_false, Bool.false_or, Bool.not_true, Bool.not_false])) (by simp [Nd.rest, Nd.rest0, iV, k3]; (repeat (first | exact VsLe.nil _ | refine VsLe.cons (VLe.refl _ _) ?_ | refine VsLe.cons (VLe.nilSl _ _ _) ?_))) h
    simp [go_sem, iV, plOw, one, k3, c1]
    exact own_fin (by (repeat (first | exact List.Sublist.refl _ | refine List.Sublist.cons_cons _ ?_ | refine List.Sublist.append (List.Sublist.refl _) ?_ | refine List.Sublist.cons _ ?_))) (by first | exact how | (rw [how]; simp only [c1, Bool.and_true, Bool.true_and, Bool.and_false, Bool.false_and, Bool.or_true, Bool.true_or, Bool.or_false, Bool.false_or, Bool.not_true, Bool.not_false])) (by simp [Nd.rest, Nd.rest0, iV, k3]; (repeat (first | exact VsLe.nil _ | refine VsLe.cons (VLe.refl _ _) ?_ | refine VsLe.cons (VLe.nilSl _ _ _) ?_))) h
  by_cases k4 : x.kind = 4
  · have how : x.ownB = ((x.parts.length : Int) == 1) := by rw [Nd.ownB, if_neg (by omega), if_neg (by omega), if_neg (by omega), if_neg (by omega), if_pos (by omega)]
    simp [go_sem, iV, plOw, one, k4, n51, Ne.symm n51]
    refine AWP.le (StLe.frz b5 (by simp [go_sem, n51]; rfl)) ?_
    simp [go_sem, iV, n31, n51, Ne.symm n51, k4]
    refine awp_sound plOw _ (by kernel_rfl) _ _ ?_
    simp [go_sem, iV, plOw, one, k4]
    exact own_fin (by (repeat (first | exact List.Sublist.refl _ | refine List.Sublist.cons_cons _ ?_ | refine List.Sublist.append (List.Sublist.refl _) ?_ | refine List.Sublist.cons _ ?_))) (by first | exact how | (rw [how]; simp only [Bool.and_true, Bool.true_and, Bool.and_false, Bool.false_and, Bool.or_true, Bool.true_or, Bool.or_false, Bool.false_or, Bool.not_true, Bool.not_false])) (by simp [Nd.rest, Nd.rest0, iV, k4]; (repeat (first | exact VsLe.nil _ | refine VsLe.cons (VLe.refl _ _) ?_ | refine VsLe.cons (VLe.nilSl _ _ _) ?_))) h
  by_cases k5 : x.kind = 5
  · have how : x.ownB = ((x.parts.length : Int) == 1) := by rw [Nd.ownB, if_neg (by omega), if_neg (by omega), if_neg (by omega), if_neg (by omega), if_pos (by omega)]
    simp [go_sem, iV, plOw, one, k5, n51, Ne.symm n51]
    refine AWP.le (StLe.frz b5 (by simp [go_sem, n51]; rfl)) ?_
    simp [go_sem, iV, n31, n51, Ne.symm n51, k5]
    refine awp_sound plOw _ (by kernel_rfl) _ _ ?_
    simp [go_sem, iV, plOw, one, k5]
    exact own_fin (by (repeat (first | exact List.Sublist.refl _ | refine List.Sublist.cons_cons _ ?_ | refine List.Sublist.append (List.Sublist.refl _) ?_ | refine List.Sublist.cons _ ?_))) (by first | exact how | (rw [how]; simp only [Bool.and_true, Bool.true_and, Bool.and_false, Bool.false_and, Bool.or_true, Bool.true_or, Bool.or_false, Bool.false_or, Bool.not_true, Bool.not_false])) (by simp [Nd.rest, Nd.rest0, iV, k5]; (repeat (first | exact VsLe.nil _ | refine VsLe.cons (VLe.refl _ _) ?_ | refine VsLe.cons (VLe.nilSl _ _ _) ?_))) h
  by_cases k6 : x.kind = 6
  · have how : x.ownB = (((x.parts.length : Int) == 1) && runeB x.rune) := by rw [Nd.ownB, if_neg (by omega), if_neg (by omega), if_neg (by omega), if_neg (by omega), if_neg (by omega), if_pos (by omega)]
    simp [go_sem, iV, plOw, one, k6, n51, Ne.symm n51]
    refine AWP.le (StLe.frz b5 (by simp [go_sem, n51]; rfl)) ?_
    simp [go_sem, iV, n31, n51, Ne.symm n51, k6]
    refine awp_sound plOw _ (by kernel_rfl) _ _ ?_
    simp [go_sem, iV, plOw, one, k6]
    refine tG_i (fun c1 => ?_) (fun c1 => ?_)
    rotate_left
    · simp [go_sem, iV, plOw, one, k6, c1]
      exact own_fin (by (repeat (first | exact List.Sublist.refl _ | refine List.Sublist.cons_cons _ ?_ | refine List.Sublist.append (List.Sublist.refl _) ?_ | refine List.Sublist.cons _ ?_))) (by first | exact how | (rw [how]; simp only [c1, Bool.and_true, Bool.true_and, Bool.and_false, Bool.false_and, Bool.or_true, Bool.true_or, Bool.or_false, Bool.false_or, Bool.not_true, Bool.not_false])) (by simp [Nd.rest, Nd.rest0, iV, k6]; (repeat (first | exact VsLe.nil _ | refine VsLe.cons (VLe.refl _ _) ?_ | refine VsLe.cons (VLe.nilSl _ _ _) ?_))) h
    simp [go_sem, iV, plOw, one, k6, c1]
    refine .refl (isRune_spec _ _ (by simpa [Tab64, go_sem] using hT) _ ?_)
    simp [go_sem, iV, plOw, one, k6]
    exact own_fin (by (repeat (first | exact List.Sublist.refl _ | refine List.Sublist.cons_cons _ ?_ | refine List.Sublist.append (List.Sublist.refl _) ?_ | refine List.Sublist.cons _ ?_))) (by first | exact how | (rw [how]; simp only [c1, Bool.and_true, Bool.true_and, Bool.and_false, Bool.false_and, Bool.or_true, Bool.true_or, Bool.or_false, Bool.false_or, Bool.not_true, Bool.not_false])) (by simp [Nd.rest, Nd.rest0, iV, k6]; (repeat (first | exact VsLe.nil _ | refine VsLe.cons (VLe.refl _ _) ?_ | refine VsLe.cons (VLe.nilSl _ _ _) ?_))) h
  by_cases k7 : x.kind = 7
  · have how : x.ownB = (x.delB) := by rw [Nd.ownB, if_neg (by omega), if_neg (by omega), if_neg (by omega), if_neg (by omega), if_neg (by omega), if_neg (by omega), if_pos (by omega)]
    simp [go_sem, iV, plOw, one, k7, n51, Ne.symm n51]
    refine AWP.le (StLe.frz b5 (by simp [go_sem, n51]; rfl)) ?_
    simp [go_sem, iV, n31, n51, Ne.symm n51, k7]
    refine awp_sound plOw _ (by kernel_rfl) _ _ ?_
    simp [go_sem, iV, plOw, one, k7]
    have key := @delims_spec x hx
    simp only [Nd.ce, iV, k7] at key
    refine .refl (key _ (by simpa [Tab64, go_sem] using hT) _ ?_)
    simp [go_sem, iV, plOw, one, k7]
    exact own_fin (by (repeat (first | exact List.Sublist.refl _ | refine List.Sublist.cons_cons _ ?_ | refine List.Sublist.append (List.Sublist.refl _) ?_ | refine List.Sublist.cons _ ?_))) (by first | exact how | (rw [how]; simp only [Bool.and_true, Bool.true_and, Bool.and_false, Bool.false_and, Bool.or_true, Bool.true_or, Bool.or_false, Bool.false_or, Bool.not_true, Bool.not_false])) (by simp [Nd.rest, Nd.rest0, iV, k7]; (repeat (first | exact VsLe.nil _ | refine VsLe.cons (VLe.refl _ _) ?_ | refine VsLe.cons (VLe.nilSl _ _ _) ?_))) h
  by_cases k8 : x.kind = 8
  · have how : x.ownB = (decide (1 ≤ x.n) && decide (x.n ≤ 64) && decide (1 ≤ (x.parts.length : Int)) && ((x.parts.length : Int).tmod x.n == 0)) := by rw [Nd.ownB, if_neg (by omega), if_neg (by omega), if_neg (by omega), if_neg (by omega), if_neg (by omega), if_neg (by omega), if_neg (by omega), if_pos (by omega)]
    simp [go_sem, iV, plOw, one, k8, n51, Ne.symm n51]
    refine AWP.le (StLe.frz b5 (by simp [go_sem, n51]; rfl)) ?_
    simp [go_sem, iV, n31, n51, Ne.symm n51, k8]
    refine awp_sound plOw _ (by kernel_rfl) _ _ ?_
    simp [go_sem, iV, plOw, one, k8]
    refine tG_i (fun c1 => ?_) (fun c1 => ?_)
    rotate_left
    · simp [go_sem, iV, plOw, one, k8, c1]
      exact own_fin (by (repeat (first | exact List.Sublist.refl _ | refine List.Sublist.cons_cons _ ?_ | refine List.Sublist.append (List.Sublist.refl _) ?_ | refine List.Sublist.cons _ ?_))) (by first | exact how | (rw [how]; simp only [c1, Bool.and_true, Bool.true_and, Bool.and_false, Bool.false_and, Bool.or_true, Bool.true_or, Bool.or_false, Bool.false_or, Bool.not_true, Bool.not_false])) (by simp [Nd.rest, Nd.rest0, iV, k8]; (repeat (first | exact VsLe.nil _ | refine VsLe.cons (VLe.refl _ _) ?_ | refine VsLe.cons (VLe.nilSl _ _ _) ?_))) h
    simp [go_sem, iV, plOw, one, k8, c1]
    refine tG_i (fun c2 => ?_) (fun c2 => ?_)
    rotate_left
    · simp [go_sem, iV, plOw, one, k8, c2]
      exact own_fin (by (repeat (first | exact List.Sublist.refl _ | refine List.Sublist.cons_cons _ ?_ | refine List.Sublist.append (List.Sublist.refl _) ?_ | refine List.Sublist.cons _ ?_))) (by first | exact how | (rw [how]; simp only [c1, c2, Bool.and_true, Bool.true_and, Bool.and_false, Bool.false_and, Bool.or_true, Bool.true_or, Bool.or_false, Bool.false_or, Bool.not_true, Bool.not_false])) (by simp [Nd.rest, Nd.rest0, iV, k8]; (repeat (first | exact VsLe.nil _ | refine VsLe.cons (VLe.refl _ _) ?_ | refine VsLe.cons (VLe.nilSl _ _ _) ?_))) h
    simp [go_sem, iV, plOw, one, k8, c2]
    refine tG_i (fun c3 => ?_) (fun c3 => ?_)
    rotate_left
    · simp [go_sem, iV, plOw, one, k8, c3]
      exact own_fin (by (repeat (first | exact List.Sublist.refl _ | refine List.Sublist.cons_cons _ ?_ | refine List.Sublist.append (List.Sublist.refl _) ?_ | refine List.Sublist.cons _ ?_))) (by first | exact how | (rw [how]; simp only [c1, c2, c3, Bool.and_true, Bool.true_and, Bool.and_false, Bool.false_and, Bool.or_true, Bool.true_or, Bool.or_false, Bool.false_or, Bool.not_true, Bool.not_false])) (by simp [Nd.rest, Nd.rest0, iV, k8]; (repeat (first | exact VsLe.nil _ | refine VsLe.cons (VLe.refl _ _) ?_ | refine VsLe.cons (VLe.nilSl _ _ _) ?_))) h
    simp [go_sem, iV, plOw, one, k8, c3]
    have hn0 : x.n ≠ 0 := by simp at c1; omega
    refine ⟨hn0, ?_⟩
    exact own_fin (by (repeat (first | exact List.Sublist.refl _ | refine List.Sublist.cons_cons _ ?_ | refine List.Sublist.append (List.Sublist.refl _) ?_ | refine List.Sublist.cons _ ?_))) (by first | exact how | (rw [how]; simp only [c1, c2, c3, Bool.and_true, Bool.true_and, Bool.and_false, Bool.false_and, Bool.or_true, Bool.true_or, Bool.or_false, Bool.false_or, Bool.not_true, Bool.not_false])) (by simp [Nd.rest, Nd.rest0, iV, k8]; (repeat (first | exact VsLe.nil _ | refine VsLe.cons (VLe.refl _ _) ?_ | refine VsLe.cons (VLe.nilSl _ _ _) ?_))) h
  by_cases k9 : x.kind = 9
  · have how : x.ownB = ((x.parts.length : Int) == 1) := by rw [Nd.ownB, if_neg (by omega), if_neg (by omega), if_neg (by omega), if_neg (by omega), if_pos (by omega)]
    simp [go_sem, iV, plOw, one, k9, n51, Ne.symm n51]
    refine AWP.le (StLe.frz b5 (by simp [go_sem, n51]; rfl)) ?_
    simp [go_sem, iV, n31, n51, Ne.symm n51, k9]
    refine awp_sound plOw _ (by kernel_rfl) _ _ ?_
    simp [go_sem, iV, plOw, one, k9]
    exact own_fin (by (repeat (first | exact List.Sublist.refl _ | refine List.Sublist.cons_cons _ ?_ | refine List.Sublist.append (List.Sublist.refl _) ?_ | refine List.Sublist.cons _ ?_))) (by first | exact how | (rw [how]; simp only [Bool.and_true, Bool.true_and, Bool.and_false, Bool.false_and, Bool.or_true, Bool.true_or, Bool.or_false, Bool.false_or, Bool.not_true, Bool.not_false])) (by simp [Nd.rest, Nd.rest0, iV, k9]; (repeat (first | exact VsLe.nil _ | refine VsLe.cons (VLe.refl _ _) ?_ | refine VsLe.cons (VLe.nilSl _ _ _) ?_))) h
  by_cases k10 : x.kind = 10
  · have how : x.ownB = (decide (0 ≤ x.n) && decide (x.n < 4) && !x.hasSup && !x.hasSub) := by rw [Nd.ownB, if_neg (by omega), if_neg (by omega), if_neg (by omega), if_neg (by omega), if_neg (by omega), if_neg (by omega), if_neg (by omega), if_neg (by omega), if_pos (by omega)]
    simp [go_sem, iV, plOw, one, k10, n51, Ne.symm n51]
    refine AWP.le (StLe.frz b5 (by simp [go_sem, n51]; rfl)) ?_
    simp [go_sem, iV, n31, n51, Ne.symm n51, k10]
    refine awp_sound plOw _ (by kernel_rfl) _ _ ?_
    simp [go_sem, iV, plOw, one, k10]
    refine tG_i (fun c1 => ?_) (fun c1 => ?_)
    rotate_left
    · simp [go_sem, iV, plOw, one, k10, c1]
      exact own_fin (by (repeat (first | exact List.Sublist.refl _ | refine List.Sublist.cons_cons _ ?_ | refine List.Sublist.append (List.Sublist.refl _) ?_ | refine List.Sublist.cons _ ?_))) (by first | exact how | (rw [how]; simp only [c1, Bool.and_true, Bool.true_and, Bool.and_false, Bool.false_and, Bool.or_true, Bool.true_or, Bool.or_false, Bool.false_or, Bool.not_true, Bool.not_false])) (by simp [Nd.rest, Nd.rest0, iV, k10]; (repeat (first | exact VsLe.nil _ | refine VsLe.cons (VLe.refl _ _) ?_ | refine VsLe.cons (VLe.nilSl _ _ _) ?_))) h
    simp [go_sem, iV, plOw, one, k10, c1]
    refine tG_i (fun c2 => ?_) (fun c2 => ?_)
    rotate_left
    · simp [go_sem, iV, plOw, one, k10, c2]
      exact own_fin (by (repeat (first | exact List.Sublist.refl _ | refine List.Sublist.cons_cons _ ?_ | refine List.Sublist.append (List.Sublist.refl _) ?_ | refine List.Sublist.cons _ ?_))) (by first | exact how | (rw [how]; simp only [c1, c2, Bool.and_true, Bool.true_and, Bool.and_false, Bool.false_and, Bool.or_true, Bool.true_or, Bool.or_false, Bool.false_or, Bool.not_true, Bool.not_false])) (by simp [Nd.rest, Nd.rest0, iV, k10]; (repeat (first | exact VsLe.nil _ | refine VsLe.cons (VLe.refl _ _) ?_ | refine VsLe.cons (VLe.nilSl _ _ _) ?_))) h
    simp [go_sem, iV, plOw, one, k10, c2]
    refine tG_i (fun c3 => ?_) (fun c3 => ?_)
    rotate_left
    · simp [go_sem, iV, plOw, one, k10, c3]
      exact own_fin (by (repeat (first | exact List.Sublist.refl _ | refine List.Sublist.cons_cons _ ?_ | refine List.Sublist.append (List.Sublist.refl _) ?_ | refine List.Sublist.cons _ ?_))) (by first | exact how | (rw [how]; simp only [c1, c2, c3, Bool.and_true, Bool.true_and, Bool.and_false, Bool.false_and, Bool.or_true, Bool.true_or, Bool.or_false, Bool.false_or, Bool.not_true, Bool.not_false])) (by simp [Nd.rest, Nd.rest0, iV, k10]; (repeat (first | exact VsLe.nil _ | refine VsLe.cons (VLe.refl _ _) ?_ | refine VsLe.cons (VLe.nilSl _ _ _) ?_))) h
    simp [go_sem, iV, plOw, one, k10, c3]
    exact own_fin (by (repeat (first | exact List.Sublist.refl _ | refine List.Sublist.cons_cons _ ?_ | refine List.Sublist.append (List.Sublist.refl _) ?_ | refine List.Sublist.cons _ ?_))) (by first | exact how | (rw [how]; simp only [c1, c2, c3, Bool.and_true, Bool.true_and, Bool.and_false, Bool.false_and, Bool.or_true, Bool.true_or, Bool.or_false, Bool.false_or, Bool.not_true, Bool.not_false])) (by simp [Nd.rest, Nd.rest0, iV, k10]; (repeat (first | exact VsLe.nil _ | refine VsLe.cons (VLe.refl _ _) ?_ | refine VsLe.cons (VLe.nilSl _ _ _) ?_))) h
  by_cases k11 : x.kind = 11
  · have how : x.ownB = (decide (-1000 ≤ x.n) && decide (x.n ≤ 1000) && !x.hasSup && !x.hasSub) := by rw [Nd.ownB, if_neg (by omega), if_neg (by omega), if_neg (by omega), if_neg (by omega), if_neg (by omega), if_neg (by omega), if_neg (by omega), if_neg (by omega), if_neg (by omega), if_pos (by omega)]
    simp [go_sem, iV, plOw, one, k11, n51, Ne.symm n51]
    refine AWP.le (StLe.frz b5 (by simp [go_sem, n51]; rfl)) ?_
    simp [go_sem, iV, n31, n51, Ne.symm n51, k11]
    refine awp_sound plOw _ (by kernel_rfl) _ _ ?_
    simp [go_sem, iV, plOw, one, k11]
    refine tG_i (fun c1 => ?_) (fun c1 => ?_)
    rotate_left
    · simp [go_sem, iV, plOw, one, k11, c1]
      exact own_fin (by (repeat (first | exact List.Sublist.refl _ | refine List.Sublist.cons_cons _ ?_ | refine List.Sublist.append (List.Sublist.refl _) ?_ | refine List.Sublist.cons _ ?_))) (by first | exact how | (rw [how]; simp only [c1, Bool.and_true, Bool.true_and, Bool.and_false, Bool.false_and, Bool.or_true, Bool.true_or, Bool.or_false, Bool.false_or, Bool.not_true, Bool.not_false])) (by simp [Nd.rest, Nd.rest0, iV, k11]; (repeat (first | exact VsLe.nil _ | refine VsLe.cons (VLe.refl _ _) ?_ | refine VsLe.cons (VLe.nilSl _ _ _) ?_))) h
    simp [go_sem, iV, plOw, one, k11, c1]
    refine tG_i (fun c2 => ?_) (fun c2 => ?_)
    rotate_left
    · simp [go_sem, iV, plOw, one, k11, c2]
      exact own_fin (by (repeat (first | exact List.Sublist.refl _ | refine List.Sublist.cons_cons _ ?_ | refine List.Sublist.append (List.Sublist.refl _) ?_ | refine List.Sublist.cons _ ?_))) (by first | exact how | (rw [how]; simp only [c1, c2, Bool.and_true, Bool.true_and, Bool.and_false, Bool.false_and, Bool.or_true, Bool.true_or, Bool.or_false, Bool.false_or, Bool.not_true, Bool.not_false])) (by simp [Nd.rest, Nd.rest0, iV, k11]; (repeat (first | exact VsLe.nil _ | refine VsLe.cons (VLe.refl _ _) ?_ | refine VsLe.cons (VLe.nilSl _ _ _) ?_))) h
    simp [go_sem, iV, plOw, one, k11, c2]
    refine tG_i (fun c3 => ?_) (fun c3 => ?_)
    rotate_left
    · simp [go_sem, iV, plOw, one, k11, c3]
      exact own_fin (by (repeat (first | exact List.Sublist.refl _ | refine List.Sublist.cons_cons _ ?_ | refine List.Sublist.append (List.Sublist.refl _) ?_ | refine List.Sublist.cons _ ?_))) (by first | exact how | (rw [how]; simp only [c1, c2, c3, Bool.and_true, Bool.true_and, Bool.and_false, Bool.false_and, Bool.or_true, Bool.true_or, Bool.or_false, Bool.false_or, Bool.not_true, Bool.not_false])) (by simp [Nd.rest, Nd.rest0, iV, k11]; (repeat (first | exact VsLe.nil _ | refine VsLe.cons (VLe.refl _ _) ?_ | refine VsLe.cons (VLe.nilSl _ _ _) ?_))) h
    simp [go_sem, iV, plOw, one, k11, c3]
    exact own_fin (by (repeat (first | exact List.Sublist.refl _ | refine List.Sublist.cons_cons _ ?_ | refine List.Sublist.append (List.Sublist.refl _) ?_ | refine List.Sublist.cons _ ?_))) (by first | exact how | (rw [how]; simp only [c1, c2, c3, Bool.and_true, Bool.true_and, Bool.and_false, Bool.false_and, Bool.or_true, Bool.true_or, Bool.or_false, Bool.false_or, Bool.not_true, Bool.not_false])) (by simp [Nd.rest, Nd.rest0, iV, k11]; (repeat (first | exact VsLe.nil _ | refine VsLe.cons (VLe.refl _ _) ?_ | refine VsLe.cons (VLe.nilSl _ _ _) ?_))) h
  have how : x.ownB = false := by rw [Nd.ownB, if_neg (by omega), if_neg (by omega), if_neg (by omega), if_neg (by omega), if_neg (by omega), if_neg (by omega), if_neg (by omega), if_neg (by omega), if_neg (by omega), if_neg (by omega)]
  have q : ∀ i : Int, i ∈ [0, 1, 2, 3, 4, 5, 6, 7, 8, 9, 10, 11] → (x.kind == i) = false := fun i hi => by simp at hi; simp; omega
  simp [go_sem, iV, plOw, one, n51, Ne.symm n51, q, bne]
  refine AWP.le (StLe.frz b5 (by simp [go_sem, n51]; rfl)) ?_
  simp [go_sem, iV, n31, n51, Ne.symm n51]
  refine awp_sound plOw _ (by kernel_rfl) _ _ ?_
  simp [go_sem, iV, plOw, one]
  exact own_fin (by (repeat (first | exact List.Sublist.refl _ | refine List.Sublist.cons_cons _ ?_ | refine List.Sublist.append (List.Sublist.refl _) ?_ | refine List.Sublist.cons _ ?_))) how (by simp [Nd.rest, Nd.rest0, iV, k0, k1, k2, k3, k4, k5, k6, k7, k8, k9, k10, k11]; (repeat (first | exact VsLe.nil _ | refine VsLe.cons (VLe.refl _ _) ?_ | refine VsLe.cons (VLe.nilSl _ _ _) ?_))) h
end Go.Proofs.YtflpfjeghomepaaDoor
/- show.right. -/
set_option maxRecDepth 100000
set_option linter.unusedSimpArgs false
set_option linter.unusedVariables false
set_option pp.maxSteps 3000
set_option pp.deepTerms false
namespace Go.Proofs.YtflpfjeghomepaaDoor
open Go Go.AW Go.Proofs

def Nd.leftB (x : Nd) : Bool := (x.rest.cls != 0) || (x.rest.rune != 0) || (x.rest.n != 0) || (x.rest.lim != 0) || decide (0 < (x.rest.parts.length : Int) + x.rest.runes.length)
/-- Is a noad right by itself? -/
def Nd.selfB (x : Nd) : Bool := x.ownB && !x.leftB && (x.hasSup || (x.sup.length == 0)) && (x.hasSub || (x.sub.length == 0))
mutual
def Nd.rightB : Nd → Bool
  | .mk k c r n l ps rs a b u d => (Nd.mk k c r n l ps rs a b u d).selfB && rightL u && rightL d && rightP ps
def rightL : List Nd → Bool
  | [] => true
  | x :: l => x.rightB && rightL l
def rightP : List (List Nd) → Bool
  | [] => true
  | p :: l => rightL p && rightP l
end
theorem Nd.right_eq (x : Nd) : x.rightB = (x.selfB && rightL x.sup && rightL x.sub && rightP x.parts) := by cases x; rfl
theorem rightL_append : ∀ l m, rightL (l ++ m) = (rightL l && rightL m)
  | [], m => by simp [rightL]
  | x :: l, m => by simp only [List.cons_append, rightL, rightL_append l m, Bool.and_assoc]
theorem rightP_any : ∀ l : List (List Nd), (l.any fun p => !rightL p) = !rightP l
  | [] => rfl
  | p :: l => by simp only [List.any_cons, rightP, rightP_any l, Bool.not_and]

def idxOfP (p : List Nd → Bool) : List (List Nd) → Nat → Int
  | [], _ => -1
  | x :: xs, k => if p x then k else idxOfP p xs (k + 1)
theorem idxOfP_any (p : List Nd → Bool) : ∀ (l : List (List Nd)) (k : Nat), decide (0 ≤ idxOfP p l k) = l.any p
  | [], k => by simp [idxOfP]
  | x :: xs, k => by
    have ih := idxOfP_any p xs (k + 1)
    by_cases hp : p x = true
    · have e : idxOfP p (x :: xs) k = k := by simp [idxOfP, hp]
      rw [e]; simp [hp]
    · have e : idxOfP p (x :: xs) k = idxOfP p xs (k + 1) := by simp [idxOfP, hp]
      rw [e, ih]; simp [hp]
def PredP (l : List (List Nd)) (g : Nat) (captured : List V) (p : List Nd → Bool) (S : List Res) : Prop := ∀ x ∈ l, ∀ (Q : Out → List Res → Prop), Q (.ret (.lit (.bool (p x)))) S → ACall Tryd.prog g ([.sl false 11 (x.map Nd.v)] ++ captured) S Q
theorem indexP_spec (full : Bool) (l : List (List Nd)) (f : V) (g : Nat) (captured : List V) (p : List Nd → Bool) (hl : l.length ≤ 4294967296) (S : List Res) (hf : calleeOf f = some (g, [], captured)) (hz : fz S f = f) (hg : goesB Tryd.prog g = true) (hp : PredP l g captured p S)
    (Q : Out → List Res → Prop) (h : Q (.ret (iV (idxOfP p l 0))) S) :
    ACall Tryd.prog 37 [.sl full 1 (l.map partV), f] S Q := by
  refine acall_of_awp Tryd.func37 rfl (by simp [go_sem]) (awp_sound pl0 _ (by kernel_rfl) _ _ ?_)
  simp [go_sem, iV]
  refine AWP.loop (ι := Nat) (fun k => k ≤ l.length ∧ idxOfP p l 0 = idxOfP p (l.drop k) k) (fun k => l.length - k) (fun k => ⟨19, [(0, .sl full 1 (l.map partV)), (1, f), (7, iV l.length), (8, iV k)], S, []⟩) 0 (by simp) (StLe.env (by simp [go_sem, iV])) ?_
  rintro k ⟨hk, hr⟩
  refine awp_sound pl0 _ (by kernel_rfl) _ _ ?_
  simp [go_sem, iV]
  refine cCond_i (fun c1 => ?_) (fun c1 => ?_)
  · simp at c1
    simp [go_sem, iV, hf, hg, partV]
    refine ⟨c1, fun a ha => .refl (hp a (List.mem_of_getElem? ha) _ ?_)⟩
    have hd : l.drop k = a :: l.drop (k + 1) := by rw [List.drop_eq_getElem_cons c1, (List.getElem?_eq_some_iff.1 ha).2]
    rw [hd] at hr
    simp [go_sem]
    refine cCond_i (fun c2 => ?_) (fun c2 => ?_)
    · simp [go_sem]
      simp only [idxOfP, c2, if_true] at hr
      rw [hr] at h
      exact done (List.Sublist.refl _) h
    · simp [go_sem]
      simp only [idxOfP, c2, Bool.false_eq_true, if_false] at hr
      refine round (k + 1) ⟨by omega, hr⟩ (by omega) (StLe.env ?_)
      rw [w64 (by omega) (by omega)]
      simp [go_sem, iV, partV]
  · simp at c1
    simp [go_sem, iV]
    rw [List.drop_eq_nil_of_le c1] at hr
    simp [idxOfP] at hr
    rw [hr] at h
    exact done (List.Sublist.refl _) h
theorem containsP_spec (full : Bool) (l : List (List Nd)) (f : V) (g : Nat) (captured : List V) (p : List Nd → Bool) (hl : l.length ≤ 4294967296) (S : List Res) (hf : calleeOf f = some (g, [], captured)) (hz : fz S f = f) (hg : goesB Tryd.prog g = true) (hp : PredP l g captured p S)
    (Q : Out → List Res → Prop) (h : Q (.ret (.lit (.bool (l.any p)))) S) :
    ACall Tryd.prog 25 [.sl full 1 (l.map partV), f] S Q := by
  refine acall_of_awp Tryd.func25 rfl (by simp [go_sem]) (awp_sound pl0 _ (by kernel_rfl) _ _ ?_)
  simp [go_sem, hz]
  refine .refl (indexP_spec full l f g captured p hl S hf hz hg hp _ ?_)
  simp [go_sem, iV]
  rw [idxOfP_any]
  exact done (List.Sublist.refl _) h

set_option maxHeartbeats 1000000 in
theorem right_spec : ∀ (n : Nat) (l : List Nd), sizeL l ≤ n → n ≤ 4294967296 → ∀ (full : Bool) (S : List Res) (hT : Tab64 S) (Q : Out → List Res → Prop), Q (.ret (.lit (.bool (rightL l)))) S → ACall Tryd.prog 18 [.sl full 11 (l.map Nd.v)] S Q := by
  intro n
  induction n with
  | zero =>
    intro l hl hn full S hT Q h
    have hlen := len_size l
    have : l = [] := List.eq_nil_of_length_eq_zero (by omega)
    subst this
    refine acall_of_awp Tryd.func18 rfl (by simp [go_sem]) (awp_sound pl0 _ (by kernel_rfl) _ _ ?_)
    simp [go_sem, iV]
    refine AWP.loop (ι := Nat) (fun k => k = 0) (fun k => 0) (fun k => ⟨90, [(8, .sl full 11 []), (9, iV 0), (10, iV 0)], S, []⟩) 0 rfl (StLe.env (by simp [go_sem, iV])) ?_
    intro k hk
    refine awp_sound pl0 _ (by kernel_rfl) _ _ ?_
    simp [go_sem, iV]
    exact done (List.Sublist.refl _) h
  | succ n ih =>
    intro l hl hn full S hT Q h
    refine acall_of_awp Tryd.func18 rfl (by simp [go_sem]) (awp_sound pl0 _ (by kernel_rfl) _ _ ?_)
    simp [go_sem, iV]
    have hlen := len_size l
    refine AWP.loop (ι := Nat) (fun k => k ≤ l.length ∧ rightL l = rightL (l.drop k)) (fun k => l.length - k) (fun k => ⟨90, [(8, .sl full 11 (l.map Nd.v)), (9, iV l.length), (10, iV k)], S, []⟩) 0 (by simp) (StLe.env (by simp [go_sem, iV])) ?_
    rintro k ⟨hk, hr⟩
    refine awpC_sound [5, 6] pl0 _ (by kernel_rfl) _ _ ?_
    simp [go_sem, iV]
    refine cCondC_i (fun c1 => ?_) (fun c1 => ?_)
    rotate_left
    · simp at c1
      simp [go_sem, iV]
      rw [List.drop_eq_nil_of_le c1] at hr
      rw [hr] at h
      exact done (List.Sublist.refl _) h
    simp at c1
    simp [go_sem, iV]
    refine ⟨c1, fun x hx => ?_⟩
    have hd : l.drop k = x :: l.drop (k + 1) := by rw [List.drop_eq_getElem_cons c1, (List.getElem?_eq_some_iff.1 hx).2]
    rw [hd, rightL] at hr
    have hxs := sizeL_mem (List.mem_of_getElem? hx)
    have hse := x.size_eq
    have hpl := len_sizeP x.parts
    simp [go_sem, iV, Nd.v_eq x]
    intro b4 hb4
    refine .refl (own_spec x (by omega) _ (by simpa [Tab64, go_sem] using hT) _ ?_)
    simp [go_sem, iV]
    intro b6 hb6
    obtain ⟨R, hR⟩ : ∃ R, R = x.rest := ⟨_, rfl⟩
    rw [← hR]
    have hlb : x.leftB = ((R.cls != 0) || (R.rune != 0) || (R.n != 0) || (R.lim != 0) || decide (0 < (R.parts.length : Int) + R.runes.length)) := by rw [hR]; rfl
    have hRl : (R.parts.length : Int) + R.runes.length ≤ 9223372036854775807 := by
      have : R.parts.length ≤ x.parts.length ∧ R.runes.length ≤ x.runes.length := by
        rw [hR]; unfold Nd.rest Nd.rest0
        repeat' split
        all_goals simp
      omega
    have hw : IntKind.i64.wrap ((R.parts.length : Int) + R.runes.length) = R.parts.length + R.runes.length := w64 (by omega) (by omega)
    refine AWP.merge ⟨90, [(4, .lit (.pointer (some ⟨b4, 0, none⟩))), (5, .lit (.bool x.ownB)), (7, .lit (.bool x.leftB)), (8, .sl full 11 (l.map Nd.v)), (9, iV l.length), (10, iV k)], .objT b4 x.ce none :: S, []⟩ ?_ ?_
    · refine awp_sound pl0 _ (by kernel_rfl) _ _ ?_
      simp [go_sem, iV, Nd.ce, hw]
      refine cGuard_i (fun c2 => ?_) (fun c2 => ?_)
      · simp [go_sem, iV, Nd.ce, hw, c2]
        have e : x.leftB = true := by rw [hlb]; simp only [c2, Bool.and_true, Bool.true_and, Bool.and_false, Bool.false_and, Bool.or_true, Bool.true_or, Bool.or_false, Bool.false_or, Bool.not_true, Bool.not_false]
        refine (StLe.drop (List.sublist_cons_self _ _)).trans (StLe.env (by simp [go_sem, iV, e]))
      simp [go_sem, iV, Nd.ce, hw, c2]
      refine cGuard_i (fun c3 => ?_) (fun c3 => ?_)
      · simp [go_sem, iV, Nd.ce, hw, c3]
        have e : x.leftB = true := by rw [hlb]; simp only [c2, c3, Bool.and_true, Bool.true_and, Bool.and_false, Bool.false_and, Bool.or_true, Bool.true_or, Bool.or_false, Bool.false_or, Bool.not_true, Bool.not_false]
        refine (StLe.drop (List.sublist_cons_self _ _)).trans (StLe.env (by simp [go_sem, iV, e]))
      simp [go_sem, iV, Nd.ce, hw, c3]
      refine cGuard_i (fun c4 => ?_) (fun c4 => ?_)
      · simp [go_sem, iV, Nd.ce, hw, c4]
        have e : x.leftB = true := by rw [hlb]; simp only [c2, c3, c4, Bool.and_true, Bool.true_and, Bool.and_false, Bool.false_and, Bool.or_true, Bool.true_or, Bool.or_false, Bool.false_or, Bool.not_true, Bool.not_false]
        refine (StLe.drop (List.sublist_cons_self _ _)).trans (StLe.env (by simp [go_sem, iV, e]))
      simp [go_sem, iV, Nd.ce, hw, c4]
      refine cGuard_i (fun c5 => ?_) (fun c5 => ?_)
      · simp [go_sem, iV, Nd.ce, hw, c5]
        have e : x.leftB = true := by rw [hlb]; simp only [c2, c3, c4, c5, Bool.and_true, Bool.true_and, Bool.and_false, Bool.false_and, Bool.or_true, Bool.true_or, Bool.or_false, Bool.false_or, Bool.not_true, Bool.not_false]
        refine (StLe.drop (List.sublist_cons_self _ _)).trans (StLe.env (by simp [go_sem, iV, e]))
      simp [go_sem, iV, Nd.ce, hw, c5]
      have e : x.leftB = decide (0 < (R.parts.length : Int) + R.runes.length) := by rw [hlb]; simp only [c2, c3, c4, c5, Bool.and_true, Bool.true_and, Bool.and_false, Bool.false_and, Bool.or_true, Bool.true_or, Bool.or_false, Bool.false_or, Bool.not_true, Bool.not_false]
      refine (StLe.drop (List.sublist_cons_self _ _)).trans (StLe.env (by simp [go_sem, iV, e]))
    · have hself : x.selfB = (x.ownB && !x.leftB && (x.hasSup || (x.sup.length == 0)) && (x.hasSub || (x.sub.length == 0))) := rfl
      have hz1 : decide ((0 : Int) < (x.sup.length : Int)) = !(x.sup.length == 0) := by cases x.sup <;> simp
      have hz2 : decide ((0 : Int) < (x.sub.length : Int)) = !(x.sub.length == 0) := by cases x.sub <;> simp
      refine awpC_sound [6] pl0 _ (by kernel_rfl) _ _ ?_
      simp [go_sem, iV, Nd.ce]
      refine AWP.merge ⟨90, [(4, .lit (.pointer (some ⟨b4, 0, none⟩))), (8, .sl full 11 (l.map Nd.v)), (9, iV l.length), (10, iV k), (85, .lit (.bool (!(x.selfB && rightL x.sup && rightL x.sub))))], .objT b4 x.ce none :: S, []⟩ ?_ ?_
      · refine awp_sound pl0 _ (by kernel_rfl) _ _ ?_
        simp [go_sem, iV, Nd.ce, hz1, hz2]
        refine cGuard_i (fun c1 => ?_) (fun c1 => ?_)
        · simp [go_sem, iV, Nd.ce, hz1, hz2, c1]
          simp at c1
          refine StLe.env ?_
          simp [go_sem, iV, hself, c1]
        simp [go_sem, iV, Nd.ce, hz1, hz2, c1]
        simp at c1
        refine cGuard_i (fun c2 => ?_) (fun c2 => ?_)
        · simp [go_sem, iV, Nd.ce, hz1, hz2, c2]
          refine StLe.env ?_
          simp [go_sem, iV, hself, c1, c2]
        simp [go_sem, iV, Nd.ce, hz1, hz2, c2]
        refine cGuard_i (fun s1 => ?_) (fun s1 => ?_)
        · simp [go_sem, iV, Nd.ce, hz1, hz2, s1]
          simp at s1
          refine cGuard_i (fun z1 => ?_) (fun z1 => ?_)
          · simp [go_sem, iV, Nd.ce, hz1, hz2, z1]
            simp at z1
            have yz1 : (x.sup.length == 0) = false := by rw [beq_eq_false_iff_ne]; omega
            refine StLe.env ?_
            simp [go_sem, iV, hself, c1, c2, s1, yz1]
          simp [go_sem, iV, Nd.ce, hz1, hz2, z1]
          simp at z1
          refine cGuard_i (fun s2 => ?_) (fun s2 => ?_)
          · simp [go_sem, iV, Nd.ce, hz1, hz2, s2]
            simp at s2
            refine cGuard_i (fun z2 => ?_) (fun z2 => ?_)
            · simp [go_sem, iV, Nd.ce, hz1, hz2, z2]
              simp at z2
              have yz2 : (x.sub.length == 0) = false := by rw [beq_eq_false_iff_ne]; omega
              refine StLe.env ?_
              simp [go_sem, iV, hself, c1, c2, s1, z1, s2, yz2]
            simp [go_sem, iV, Nd.ce, hz1, hz2, z2]
            simp at z2
            refine .refl (ih x.sup (by omega) (by omega) false _ (by simpa [Tab64, go_sem] using hT) _ ?_)
            simp [go_sem, iV, Nd.ce, hz1, hz2]
            refine cGuard_i (fun d1 => ?_) (fun d1 => ?_)
            · simp [go_sem, iV, Nd.ce, hz1, hz2, d1]
              simp at d1
              refine StLe.env ?_
              simp [go_sem, iV, hself, c1, c2, s1, z1, s2, z2, d1]
            simp [go_sem, iV, Nd.ce, hz1, hz2, d1]
            simp at d1
            refine .refl (ih x.sub (by omega) (by omega) false _ (by simpa [Tab64, go_sem] using hT) _ ?_)
            simp [go_sem, iV, Nd.ce, hz1, hz2]
            refine StLe.env ?_
            simp [go_sem, iV, hself, c1, c2, s1, z1, s2, z2, d1]
          · simp [go_sem, iV, Nd.ce, hz1, hz2, s2]
            simp at s2
            refine .refl (ih x.sup (by omega) (by omega) false _ (by simpa [Tab64, go_sem] using hT) _ ?_)
            simp [go_sem, iV, Nd.ce, hz1, hz2]
            refine cGuard_i (fun d1 => ?_) (fun d1 => ?_)
            · simp [go_sem, iV, Nd.ce, hz1, hz2, d1]
              simp at d1
              refine StLe.env ?_
              simp [go_sem, iV, hself, c1, c2, s1, z1, s2, d1]
            simp [go_sem, iV, Nd.ce, hz1, hz2, d1]
            simp at d1
            refine .refl (ih x.sub (by omega) (by omega) false _ (by simpa [Tab64, go_sem] using hT) _ ?_)
            simp [go_sem, iV, Nd.ce, hz1, hz2]
            refine StLe.env ?_
            simp [go_sem, iV, hself, c1, c2, s1, z1, s2, d1]
        · simp [go_sem, iV, Nd.ce, hz1, hz2, s1]
          simp at s1
          refine cGuard_i (fun s2 => ?_) (fun s2 => ?_)
          · simp [go_sem, iV, Nd.ce, hz1, hz2, s2]
            simp at s2
            refine cGuard_i (fun z2 => ?_) (fun z2 => ?_)
            · simp [go_sem, iV, Nd.ce, hz1, hz2, z2]
              simp at z2
              have yz2 : (x.sub.length == 0) = false := by rw [beq_eq_false_iff_ne]; omega
              refine StLe.env ?_
              simp [go_sem, iV, hself, c1, c2, s1, s2, yz2]
            simp [go_sem, iV, Nd.ce, hz1, hz2, z2]
            simp at z2
            refine .refl (ih x.sup (by omega) (by omega) false _ (by simpa [Tab64, go_sem] using hT) _ ?_)
            simp [go_sem, iV, Nd.ce, hz1, hz2]
            refine cGuard_i (fun d1 => ?_) (fun d1 => ?_)
            · simp [go_sem, iV, Nd.ce, hz1, hz2, d1]
              simp at d1
              refine StLe.env ?_
              simp [go_sem, iV, hself, c1, c2, s1, s2, z2, d1]
            simp [go_sem, iV, Nd.ce, hz1, hz2, d1]
            simp at d1
            refine .refl (ih x.sub (by omega) (by omega) false _ (by simpa [Tab64, go_sem] using hT) _ ?_)
            simp [go_sem, iV, Nd.ce, hz1, hz2]
            refine StLe.env ?_
            simp [go_sem, iV, hself, c1, c2, s1, s2, z2, d1]
          · simp [go_sem, iV, Nd.ce, hz1, hz2, s2]
            simp at s2
            refine .refl (ih x.sup (by omega) (by omega) false _ (by simpa [Tab64, go_sem] using hT) _ ?_)
            simp [go_sem, iV, Nd.ce, hz1, hz2]
            refine cGuard_i (fun d1 => ?_) (fun d1 => ?_)
            · simp [go_sem, iV, Nd.ce, hz1, hz2, d1]
              simp at d1
              refine StLe.env ?_
              simp [go_sem, iV, hself, c1, c2, s1, s2, d1]
            simp [go_sem, iV, Nd.ce, hz1, hz2, d1]
            simp at d1
            refine .refl (ih x.sub (by omega) (by omega) false _ (by simpa [Tab64, go_sem] using hT) _ ?_)
            simp [go_sem, iV, Nd.ce, hz1, hz2]
            refine StLe.env ?_
            simp [go_sem, iV, hself, c1, c2, s1, s2, d1]
      · refine awp_sound pl0 _ (by kernel_rfl) _ _ ?_
        simp [go_sem, iV, Nd.ce]
        have hre : x.rightB = (x.selfB && rightL x.sup && rightL x.sub && rightP x.parts) := x.right_eq
        refine cCond_i (fun c3 => ?_) (fun c3 => ?_)
        · simp [go_sem, iV]
          have e : rightL l = false := by rw [hr, hre]; revert c3; cases x.selfB <;> cases rightL x.sup <;> cases rightL x.sub <;> simp
          rw [e] at h
          exact done (by (repeat (first | exact List.Sublist.refl _ | refine List.Sublist.cons_cons _ ?_ | refine List.Sublist.append (List.Sublist.refl _) ?_ | refine List.Sublist.cons _ ?_))) h
        · simp [go_sem, iV]
          simp at c3
          refine .refl (containsP_spec false x.parts _ 26 [] (fun p => !rightL p) (by omega) _ rfl rfl (by kernel_rfl) (fun p hp Q hq => ?_) _ ?_)
          · refine acall_of_awp Tryd.func26 rfl (by simp [go_sem]) (awp_sound pl0 _ (by kernel_rfl) _ _ ?_)
            simp [go_sem, iV]
            have := sizeP_mem hp
            refine .refl (ih p (by omega) (by omega) false _ (by simpa [Tab64, go_sem] using hT) _ ?_)
            simp [go_sem, iV]
            exact done (List.Sublist.refl _) hq
          rw [rightP_any]
          simp [go_sem, iV]
          refine cCondC_i (fun c4 => ?_) (fun c4 => ?_)
          · simp [go_sem, iV]
            simp at c4
            have e : rightL l = false := by rw [hr, hre]; simp [c4]
            rw [e] at h
            exact done (by (repeat (first | exact List.Sublist.refl _ | refine List.Sublist.cons_cons _ ?_ | refine List.Sublist.append (List.Sublist.refl _) ?_ | refine List.Sublist.cons _ ?_))) h
          · simp [go_sem, iV]
            simp at c4
            have e : rightL l = rightL (l.drop (k + 1)) := by rw [hr, hre]; simp [c3, c4]
            rw [w64 (by omega) (by omega)]
            refine round (k + 1) ⟨c1, e⟩ (by omega) ((StLe.drop (List.sublist_cons_self _ _)).trans (StLe.env ?_))
            simp [go_sem, iV]
end Go.Proofs.YtflpfjeghomepaaDoor
/- Writers, once more: what a step of a writer leaves. -/
set_option maxRecDepth 100000
set_option linter.unusedSimpArgs false
set_option linter.unusedVariables false
set_option pp.maxSteps 3000
set_option pp.deepTerms false
namespace Go.Proofs.YtflpfjeghomepaaDoor
open Go Go.AW Go.Proofs

theorem findRaw_setObj (b x : Nat) (cs : List V) : ∀ S : List Res, findRaw (AW.setObj S b cs) x = findRaw S x
  | [] => rfl
  | r :: S => by
    have ih := findRaw_setObj b x cs S
    cases r with
    | objT y ys tt => simp only [AW.setObj]; split <;> simp_all [findRaw]
    | vec => simp only [AW.setObj, findRaw, ih]
    | raw => simp only [AW.setObj, findRaw, ih]
    | lp => simp only [AW.setObj, findRaw, ih]
theorem findRaw_setVec (k x k' : Nat) (a : Option Addr) (c z : Nat) (xs : List V) : ∀ S : List Res, findRaw (setVec S k (.vec k' a c z xs)) x = findRaw S x
  | [] => rfl
  | r :: S => by
    have ih := findRaw_setVec k x k' a c z xs S
    cases r with
    | objT y ys tt => simp only [setVec, findRaw, ih]
    | vec => simp only [setVec]; split <;> simp_all [findRaw]
    | raw => simp only [setVec, findRaw, ih]
    | lp => simp only [setVec, findRaw, ih]
theorem findVec_setVec_ne {k x : Nat} (hne : k ≠ x) (a : Option Addr) (c z : Nat) (xs : List V) : ∀ S : List Res, findVec (setVec S k (.vec k a c z xs)) x = findVec S x
  | [] => rfl
  | r :: S => by
    have ih := findVec_setVec_ne hne a c z xs S
    cases r with
    | objT y ys tt => simp only [setVec, findVec, ih]
    | vec k1 a1 c1 z1 x1 =>
      simp only [setVec]
      split
      · rename_i e; subst e; simp [findVec, hne]
      · simp only [findVec, ih]
    | raw => simp only [setVec, findVec, ih]
    | lp => simp only [setVec, findVec, ih]
theorem kB_ne (b : Nat) : kB b ≠ 90001 := by have := bk_ge b 5; unfold kB; omega

/-- A writer, and the tables. -/
structure Wr (S : List Res) (b : Nat) (bs : List UInt8) : Prop where
  bd : ∃ ad a cap, Bd S b ad a cap bs
  t64 : Tab64 S
  t10 : Tab10 S
/-- What a step of a writer leaves. -/
def WS (S : List Res) (b : Nat) (bs bs' : List UInt8) (S' : List Res) : Prop := (S' = S ∧ bs' = bs) ∨ ∃ a cap, S' = upd S b a cap bs'
theorem Wr.upd {S : List Res} {b : Nat} {bs : List UInt8} (h : Wr S b bs) (a : Option Addr) (cap : Nat) (bs' : List UInt8) : Wr (upd S b a cap bs') b bs' := by
  obtain ⟨⟨ad, a0, cap0, hb⟩, h1, h2⟩ := h
  refine ⟨⟨_, _, _, hb.upd a cap bs'⟩, ?_, ?_⟩
  · unfold Tab64 Proofs.YtflpfjeghomepaaDoor.upd
    rw [findVec_setObj, findVec_setVec_ne (kB_ne b)]; exact h1
  · obtain ⟨T, z, hf⟩ := h2
    exact ⟨T, z, by unfold Proofs.YtflpfjeghomepaaDoor.upd; rw [findRaw_setObj, findRaw_setVec]; exact hf⟩
theorem WS.wr {S S' : List Res} {b : Nat} {bs bs' : List UInt8} (h : Wr S b bs) (hw : WS S b bs bs' S') : Wr S' b bs' := by
  rcases hw with ⟨rfl, rfl⟩ | ⟨a, cap, rfl⟩
  · exact h
  · exact h.upd a cap bs'
theorem WS.refl {S : List Res} {b : Nat} {bs : List UInt8} : WS S b bs bs S := .inl ⟨rfl, rfl⟩
theorem WS.trans {S S' S'' : List Res} {b : Nat} {bs bs' bs'' : List UInt8} (h : WS S b bs bs' S') (h' : WS S' b bs' bs'' S'') : WS S b bs bs'' S'' := by
  rcases h with ⟨rfl, rfl⟩ | ⟨a, cap, rfl⟩
  · exact h'
  · rcases h' with ⟨rfl, rfl⟩ | ⟨a', cap', rfl⟩
    · exact .inr ⟨a, cap, rfl⟩
    · exact .inr ⟨a', cap', upd_upd ..⟩
theorem Wr.ne {S : List Res} {b x : Nat} {bs : List UInt8} (h : Wr S b bs) (hx : Fresh x S) : x ≠ b := by
  obtain ⟨⟨ad, a0, cap0, hb⟩, _, _⟩ := h
  exact fun e => hx (e ▸ findObj_blks hb.obj)
theorem Wr.cons {S : List Res} {b x : Nat} {bs : List UInt8} (h : Wr S b bs) (hne : x ≠ b) (cs : List V) (T : Option TypeId) : Wr (.objT x cs T :: S) b bs := by
  obtain ⟨⟨ad, a0, cap0, hb⟩, h1, h2⟩ := h
  refine ⟨⟨ad, a0, cap0, hb.had, ?_, ?_, ?_⟩, h1, h2⟩
  · obtain ⟨TT, h3, h4⟩ := hb.ty
    refine ⟨TT, ?_, h4⟩
    simp only [findTy, if_neg hne]; exact h3
  · simp only [findObj, if_neg hne]; exact hb.obj
  · exact hb.vec
theorem WS.cons {S S' : List Res} {b x : Nat} {bs bs' : List UInt8} {cs : List V} {T : Option TypeId} (hne : x ≠ b) (h : WS (.objT x cs T :: S) b bs bs' S') : ∃ S1, S' = .objT x cs T :: S1 ∧ WS S b bs bs' S1 := by
  rcases h with ⟨rfl, rfl⟩ | ⟨a, cap, rfl⟩
  · exact ⟨S, rfl, .refl⟩
  · refine ⟨upd S b a cap bs', ?_, .inr ⟨a, cap, rfl⟩⟩
    unfold Proofs.YtflpfjeghomepaaDoor.upd
    simp only [setVec, AW.setObj, if_neg hne]
theorem WS.cons2 {S S' : List Res} {b x y : Nat} {bs bs' : List UInt8} {cs cs' : List V} {T T' : Option TypeId} (hne : x ≠ b) (hne' : y ≠ b) (h : WS (.objT x cs T :: .objT y cs' T' :: S) b bs bs' S') : ∃ S1, S' = .objT x cs T :: .objT y cs' T' :: S1 ∧ WS S b bs bs' S1 := by
  obtain ⟨S1, rfl, h1⟩ := h.cons hne
  obtain ⟨S2, rfl, h2⟩ := h1.cons hne'
  exact ⟨S2, rfl, h2⟩

section
variable {S : List Res} {b : Nat} {bs : List UInt8} (h : Wr S b bs) {Q : Out → List Res → Prop}
include h
theorem Wr.byte (c : UInt8) (hl : bs.length + 1 ≤ 4294967296) (hq : ∀ S', WS S b bs (bs ++ [c]) S' → Q (.ret (.lit .nilIface)) S') : ACall Tryd.prog 21 [.lit (.pointer (some ⟨b, 0, none⟩)), u8V c] S Q := by
  obtain ⟨⟨ad, a0, cap0, hb⟩, _, _⟩ := h
  exact wByte hb c hl Q fun a cap => hq _ (.inr ⟨a, cap, rfl⟩)
theorem Wr.string (s : ByteArray) (hl : bs.length + s.size ≤ 4294967296) (hq : ∀ S', WS S b bs (bs ++ s.data.toList) S' → Q (.ret (.tuple [iV s.size, .lit .nilIface])) S') : ACall Tryd.prog 27 [.lit (.pointer (some ⟨b, 0, none⟩)), sV s] S Q := by
  obtain ⟨⟨ad, a0, cap0, hb⟩, _, _⟩ := h
  exact wString hb s hl Q fun a cap => hq _ (.inr ⟨a, cap, rfl⟩)
theorem Wr.word (s : ByteArray) (hl : bs.length + s.size + 1 ≤ 4294967296) (hq : ∀ S', WS S b bs (bs ++ 92 :: s.data.toList) S' → Q (.ret (.tuple [])) S') : ACall Tryd.prog 19 [.lit (.pointer (some ⟨b, 0, none⟩)), sV s] S Q := by
  obtain ⟨⟨ad, a0, cap0, hb⟩, _, _⟩ := h
  exact word_spec hb s hl Q fun a cap => hq _ (.inr ⟨a, cap, rfl⟩)
theorem Wr.wordL (w : List UInt8) (hl : bs.length + w.length + 1 ≤ 4294967296) (hq : ∀ S', WS S b bs (bs ++ 92 :: w) S' → Q (.ret (.tuple [])) S') : ACall Tryd.prog 19 [.lit (.pointer (some ⟨b, 0, none⟩)), sV ⟨w.toArray⟩] S Q :=
  Wr.word h ⟨w.toArray⟩ (by show bs.length + w.toArray.size + 1 ≤ _; simpa using hl) (by simpa using hq)
theorem Wr.quote (c : Int) (hr : runeB c = true) (hl : bs.length + 20 ≤ 4294967296) (hq : ∀ S', WS S b bs (bs ++ quoteL c) S' → Q (.ret (.tuple [])) S') : ACall Tryd.prog 28 [.lit (.pointer (some ⟨b, 0, none⟩)), iV c] S Q := by
  obtain ⟨⟨ad, a0, cap0, hb⟩, h1, _⟩ := h
  exact wquote_spec c h1 hr hb hl Q fun a cap => hq _ (.inr ⟨a, cap, rfl⟩)
theorem Wr.delim (c : Int) (hr : runeB (delimC c) = true) (hl : bs.length + 20 ≤ 4294967296) (hq : ∀ S', WS S b bs (bs ++ quoteL (delimC c)) S' → Q (.ret (.tuple [])) S') : ACall Tryd.prog 39 [.lit (.pointer (some ⟨b, 0, none⟩)), iV c] S Q := by
  obtain ⟨⟨ad, a0, cap0, hb⟩, h1, _⟩ := h
  exact wdelim_spec c h1 hr hb hl Q fun a cap => hq _ (.inr ⟨a, cap, rfl⟩)
end
end Go.Proofs.YtflpfjeghomepaaDoor
/- A list of noads, as a text. -/
set_option maxRecDepth 100000
set_option linter.unusedSimpArgs false
set_option linter.unusedVariables false
set_option pp.maxSteps 3000
set_option pp.deepTerms false
namespace Go.Proofs.YtflpfjeghomepaaDoor
open Go Go.AW Go.Proofs

def bracesT : List (List UInt8) → List UInt8
  | [] => []
  | t :: ts => 123 :: t ++ [125] ++ bracesT ts
def fenceG (w : List UInt8) : List Int → List (List UInt8) → List UInt8
  | c :: rs, t :: ts => 92 :: w ++ quoteL (delimC c) ++ t ++ fenceG [109, 105, 100, 100, 108, 101, 32] rs ts
  | c :: _, [] => 92 :: [114, 105, 103, 104, 116, 32] ++ quoteL (delimC c)
  | [], _ => []
def matT (n : Int) : List (List UInt8) → Nat → List UInt8
  | [], _ => []
  | t :: ts, i => (if i = 0 then [] else if (i : Int).tmod n = 0 then [92, 92] else [38]) ++ t ++ matT n ts (i + 1)
def clsW (c : Int) : List UInt8 :=
  if c = 1 then [109, 97, 116, 104, 111, 112] else if c = 2 then [109, 97, 116, 104, 98, 105, 110] else if c = 3 then [109, 97, 116, 104, 114, 101, 108] else if c = 4 then [109, 97, 116, 104, 111, 112, 101, 110] else if c = 5 then [109, 97, 116, 104, 99, 108, 111, 115, 101] else if c = 6 then [109, 97, 116, 104, 112, 117, 110, 99, 116] else [109, 97, 116, 104, 105, 110, 110, 101, 114]
def styW (n : Int) : List UInt8 := if n = 0 then [100, 105, 115, 112, 108, 97, 121, 115, 116, 121, 108, 101, 32] else if n = 1 then [116, 101, 120, 116, 115, 116, 121, 108, 101, 32] else if n = 2 then [115, 99, 114, 105, 112, 116, 115, 116, 121, 108, 101, 32] else [115, 99, 114, 105, 112, 116, 115, 99, 114, 105, 112, 116, 115, 116, 121, 108, 101, 32]
def simW (k : Int) : List UInt8 := if k = 4 then [111, 118, 101, 114, 108, 105, 110, 101] else if k = 5 then [117, 110, 100, 101, 114, 108, 105, 110, 101] else [118, 99, 101, 110, 116, 101, 114]
def kernW (n : Int) : List UInt8 := if -1000 ≤ n ∧ n ≤ 1000 then Lib.itoa n else []
def nucT (k c r n : Int) (rs : List Int) (ts : List (List UInt8)) : List UInt8 :=
  if k = 0 then quoteL r
  else if k = 1 then (if c = 0 then [] else 92 :: clsW c) ++ bracesT ts
  else if k = 2 then 92 :: (if n = 0 then [97, 116, 111, 112] else [102, 114, 97, 99]) ++ bracesT ts
  else if k = 3 then 92 :: (if ts.length = 1 then [115, 113, 114, 116] else [114, 111, 111, 116]) ++ bracesT (ts.drop 1) ++ bracesT (ts.take 1)
  else if k = 6 then 92 :: [97, 99, 99, 101, 110, 116, 123] ++ quoteL r ++ [125] ++ bracesT ts
  else if k = 7 then fenceG [108, 101, 102, 116, 32] rs ts
  else if k = 8 then 92 :: [109, 97, 116, 114, 105, 120, 123] ++ matT n ts 0 ++ [125]
  else if k = 10 then 92 :: styW n
  else if k = 11 then 92 :: [107, 101, 114, 110, 123] ++ kernW n ++ [125]
  else 92 :: simW k ++ bracesT ts
def limT (l : Int) : List UInt8 := if l = 1 then 92 :: [108, 105, 109, 105, 116, 115, 32] else if l = 2 then 92 :: [110, 111, 108, 105, 109, 105, 116, 115, 32] else []
mutual
def Nd.txt : Nd → List UInt8
  | .mk k c r n l ps rs a b u d => limT l ++ nucT k c r n rs (textP ps) ++ (if a then 94 :: bracesT [textL u] else []) ++ (if b then 95 :: bracesT [textL d] else [])
def textL : List Nd → List UInt8
  | [] => []
  | x :: l => x.txt ++ textL l
def textP : List (List Nd) → List (List UInt8)
  | [] => []
  | p :: l => textL p :: textP l
end
theorem Nd.txt_eq (x : Nd) : x.txt = limT x.lim ++ nucT x.kind x.cls x.rune x.n x.runes (textP x.parts) ++ (if x.hasSup then 94 :: bracesT [textL x.sup] else []) ++ (if x.hasSub then 95 :: bracesT [textL x.sub] else []) := by cases x; rfl
theorem textL_append : ∀ l m, textL (l ++ m) = textL l ++ textL m
  | [], m => rfl
  | x :: l, m => by simp only [List.cons_append, textL, textL_append l m, List.append_assoc]
theorem textP_map : ∀ l, textP l = l.map textL
  | [] => rfl
  | p :: l => by rw [textP, textP_map l]; rfl

/-! ### How long it is -/
def sumT : List (List UInt8) → Nat
  | [] => 0
  | t :: ts => 2 + t.length + sumT ts
theorem bracesT_len : ∀ ts, (bracesT ts).length = sumT ts
  | [] => rfl
  | t :: ts => by simp [bracesT, sumT, bracesT_len ts]; omega
theorem quoteL_len (c : Int) : (quoteL c).length ≤ 9 := by
  have h1 := enc_size c
  have h2 : (encL c).length ≤ 4 := h1
  unfold quoteL
  split
  · omega
  · split
    · simp; omega
    · have : (hexL c.toNat).length ≤ 2 := by rw [hexL]; split <;> simp
      simp; omega
theorem fenceG_len : ∀ (rs : List Int) (ts : List (List UInt8)) (w : List UInt8), w.length ≤ 8 → (fenceG w rs ts).length ≤ 20 * rs.length + sumT ts
  | [], ts, w, h => by simp [fenceG]
  | c :: rs, [], w, h => by have := quoteL_len (delimC c); simp [fenceG, sumT]; omega
  | c :: rs, t :: ts, w, h => by
    have := quoteL_len (delimC c)
    have ih := fenceG_len rs ts [109, 105, 100, 100, 108, 101, 32] (by decide)
    simp [fenceG, sumT] at ih ⊢; omega
theorem matT_len (n : Int) : ∀ (ts : List (List UInt8)) (i : Nat), (matT n ts i).length ≤ sumT ts
  | [], i => by simp [matT]
  | t :: ts, i => by
    have ih := matT_len n ts (i + 1)
    simp only [matT, sumT, List.length_append]
    have : (if i = 0 then [] else if (i : Int).tmod n = 0 then [92, 92] else [38] : List UInt8).length ≤ 2 := by split; simp; split <;> simp
    omega
theorem sumT_split : ∀ ts : List (List UInt8), sumT (ts.drop 1) + sumT (ts.take 1) = sumT ts
  | [] => rfl
  | t :: ts => by simp [sumT]; omega
theorem kernW_len (n : Int) : (kernW n).length ≤ 5 := by
  unfold kernW
  split
  · rename_i h
    have key : ((List.range 2001).all fun m => decide ((Lib.itoa ((m : Int) - 1000)).length ≤ 5)) = true := by kernel_rfl
    have := List.all_eq_true.1 key (n + 1000).toNat (List.mem_range.2 (by omega))
    rw [show (((n + 1000).toNat : Nat) : Int) - 1000 = n by omega] at this
    simpa using this
  · simp
theorem nucT_len (k c r n : Int) (rs : List Int) (ts : List (List UInt8)) : (nucT k c r n rs ts).length ≤ 30 + 20 * rs.length + sumT ts := by
  have h1 := quoteL_len r
  have h2 := bracesT_len ts
  have h3 := fenceG_len rs ts [108, 101, 102, 116, 32] (by decide)
  have h4 := matT_len n ts 0
  have h5 := kernW_len n
  have h6 : (clsW c).length ≤ 9 := by unfold clsW; (repeat' split) <;> simp
  have h7 : (styW n).length ≤ 18 := by unfold styW; (repeat' split) <;> simp
  have h8 : (simW k).length ≤ 9 := by unfold simW; (repeat' split) <;> simp
  have h9 := bracesT_len (ts.drop 1)
  have h10 := bracesT_len (ts.take 1)
  have h11 := sumT_split ts
  unfold nucT
  repeat' split
  all_goals try simp only [List.length_append, List.length_cons, List.length_nil]
  all_goals omega
mutual
theorem Nd.txt_len : ∀ x : Nd, x.txt.length ≤ 64 * x.size
  | .mk k c r n l ps rs a b u d => by
    have h1 := textL_len u
    have h2 := textL_len d
    have h3 := textP_len ps
    have h4 := nucT_len k c r n rs (textP ps)
    have h5 : (limT l).length ≤ 10 := by unfold limT; (repeat' split) <;> simp
    simp only [Nd.txt, Nd.size, List.length_append]
    have h6 : (if a then 94 :: bracesT [textL u] else [] : List UInt8).length ≤ 3 + (textL u).length := by split <;> simp [bracesT]; omega
    have h7 : (if b then 95 :: bracesT [textL d] else [] : List UInt8).length ≤ 3 + (textL d).length := by split <;> simp [bracesT]; omega
    omega
theorem textL_len : ∀ l : List Nd, (textL l).length ≤ 64 * sizeL l
  | [] => by simp [textL]
  | x :: l => by
    have h1 := x.txt_len
    have h2 := textL_len l
    simp only [textL, sizeL, List.length_append]; omega
theorem textP_len : ∀ l : List (List Nd), sumT (textP l) ≤ 64 * sizeP l
  | [] => by simp [textP, sumT]
  | p :: l => by
    have h1 := textL_len p
    have h2 := textP_len l
    simp only [textP, sizeP, sumT]; omega
end
end Go.Proofs.YtflpfjeghomepaaDoor
/- The writers of lists: braces, fence, matrix. -/
set_option maxRecDepth 100000
set_option linter.unusedSimpArgs false
set_option linter.unusedVariables false
set_option pp.maxSteps 3000
set_option pp.deepTerms false
namespace Go.Proofs.YtflpfjeghomepaaDoor
open Go Go.AW Go.Proofs

abbrev ptV (b : Nat) : V := .lit (.pointer (some ⟨b, 0, none⟩))
/-- A list up to a size is written. -/
def ListOK (n : Nat) : Prop := ∀ l : List Nd, sizeL l ≤ n → rightL l = true → ∀ (full : Bool) (S : List Res) (b : Nat) (bs : List UInt8), Wr S b bs → bs.length + (textL l).length + 64 ≤ 4294967296 →
  ∀ Q : Out → List Res → Prop, (∀ S', WS S b bs (bs ++ textL l) S' → Q (.ret (.tuple [])) S') → ACall Tryd.prog 11 [ptV b, .sl full 11 (l.map Nd.v)] S Q

theorem textP_take {ps : List (List Nd)} {k : Nat} {p : List Nd} (h : ps[k]? = some p) : textP (ps.take (k + 1)) = textP (ps.take k) ++ [textL p] := by
  rw [take_snoc h, textP_map, textP_map, List.map_append]; rfl
theorem bracesT_append : ∀ a b, bracesT (a ++ b) = bracesT a ++ bracesT b
  | [], b => rfl
  | t :: a, b => by simp only [List.cons_append, bracesT, bracesT_append a b, List.append_assoc]
theorem bracesT_take_le (ts : List (List UInt8)) (k : Nat) : (bracesT (ts.take k)).length ≤ (bracesT ts).length := by
  have := bracesT_append (ts.take k) (ts.drop k)
  rw [List.take_append_drop] at this
  rw [this, List.length_append]; omega

theorem braces_spec {n : Nat} (ih : ListOK n) (ps : List (List Nd)) (hps : ∀ p ∈ ps, sizeL p ≤ n ∧ rightL p = true) (hpl : ps.length ≤ 4294967296) (full : Bool) (S : List Res) (b : Nat) (bs : List UInt8) (hW : Wr S b bs) (hl : bs.length + (bracesT (textP ps)).length + 64 ≤ 4294967296)
    (Q : Out → List Res → Prop) (hq : ∀ S', WS S b bs (bs ++ bracesT (textP ps)) S' → Q (.ret (.tuple [])) S') : ACall Tryd.prog 22 [ptV b, .sl full 1 (ps.map partV)] S Q := by
  refine acall_of_awp Tryd.func22 rfl (by simp [go_sem]) (awp_sound pl0 _ (by kernel_rfl) _ _ ?_)
  simp [go_sem, iV]
  refine AWP.loop (ι := Nat × List Res) (fun p => p.1 ≤ ps.length ∧ WS S b bs (bs ++ bracesT (textP (ps.take p.1))) p.2) (fun p => ps.length - p.1) (fun p => ⟨24, [(0, ptV b), (6, .sl full 1 (ps.map partV)), (7, iV ps.length), (8, iV p.1)], p.2, []⟩) (0, S) ⟨Nat.zero_le _, by simp [textP, bracesT]; exact .refl⟩ (StLe.env (by simp [go_sem, iV])) ?_
  rintro ⟨k, T⟩ ⟨hk, hws⟩
  simp only at hk hws
  have hWT := hws.wr hW
  refine awp_sound pl0 _ (by kernel_rfl) _ _ ?_
  simp [go_sem, iV]
  refine cCond_i (fun c1 => ?_) (fun c1 => ?_)
  · simp at c1
    simp [go_sem, iV]
    refine ⟨c1, fun p hp => ?_⟩
    obtain ⟨hp1, hp2⟩ := hps p (List.mem_of_getElem? hp)
    have htk := textP_take hp
    have hbl := bracesT_take_le (textP ps) (k + 1)
    rw [textP_map, ← List.map_take, ← textP_map, ← textP_map, htk, bracesT_append] at hbl
    simp [bracesT] at hbl
    simp [go_sem, iV, partV]
    have wb := fun c hl Q hq => @Wr.byte T b _ hWT Q c hl hq
    refine .refl (wb 123 (by simp; omega) _ fun T1 hT1 => ?_)
    simp [go_sem, iV]
    have hW1 := hT1.wr hWT
    refine .refl (ih p hp1 hp2 false T1 b _ hW1 (by simp; omega) _ fun T2 hT2 => ?_)
    simp [go_sem, iV]
    have hW2 := hT2.wr hW1
    refine .refl (Wr.byte hW2 125 (by simp; omega) fun T3 hT3 => ?_)
    simp [go_sem, iV]
    rw [w64 (by omega) (by omega)]
    refine round (k + 1, T3) ⟨c1, ?_⟩ (by simp only; omega) (StLe.env ?_)
    · have := ((hws.trans hT1).trans hT2).trans hT3
      rw [htk, bracesT_append]
      simpa [bracesT, List.append_assoc] using this
    · simp [go_sem, iV]
  · simp at c1
    simp [go_sem, iV]
    rw [List.take_of_length_le c1] at hws
    exact done (List.Sublist.refl _) (hq T hws)

theorem runeB_delim {c : Int} (h : wrongB c = false) : runeB (delimC c) = true := by
  unfold wrongB at h
  unfold delimC
  split
  · decide
  · rename_i e
    have e1 : (c == 0) = false := by simpa using e
    rw [e1] at h
    simp at h
    exact h.2
def wdL (k : Nat) : List UInt8 := if k = 0 then [108, 101, 102, 116, 32] else [109, 105, 100, 100, 108, 101, 32]
theorem fence_spec {n : Nat} (ih : ListOK n) (x : Nd) (hx : x.size ≤ 4294967296) (hps : ∀ p ∈ x.parts, sizeL p ≤ n ∧ rightL p = true) (hd : x.delB = true) (S : List Res) (b : Nat) (bs : List UInt8) (hW : Wr S b bs)
    (hl : bs.length + (fenceG (wdL 0) x.runes (textP x.parts)).length + 64 ≤ 4294967296)
    (Q : Out → List Res → Prop) (hq : ∀ S', WS S b bs (bs ++ fenceG (wdL 0) x.runes (textP x.parts)) S' → Q (.ret (.tuple [])) S') : ACall Tryd.prog 29 [ptV b, .agg x.ce] S Q := by
  simp only [Nd.delB, Bool.and_eq_true, decide_eq_true_eq, beq_iff_eq, Bool.not_eq_true'] at hd
  obtain ⟨⟨hd1, hd2⟩, hd3⟩ := hd
  have hse := x.size_eq
  have hpl := len_sizeP x.parts
  have hru : ∀ (i : Nat) (c : Int), x.runes[i]? = some c → runeB (delimC c) = true := fun i c hc => runeB_delim (by
    cases e : wrongB c with
    | false => rfl
    | true =>
      have : x.runes.any wrongB = true := List.any_eq_true.2 ⟨c, List.mem_of_getElem? hc, e⟩
      rw [this] at hd3; cases hd3)
  refine acall_of_awp Tryd.func29 rfl (by simp [go_sem]) (awp_sound pl0 _ (by kernel_rfl) _ _ ?_)
  simp [go_sem, iV]
  intro b3 hb3
  have n3 := hW.ne hb3
  have hW0 := hW.cons n3 x.ce none
  obtain ⟨TS, hTS⟩ : ∃ TS, TS = textP x.parts := ⟨_, rfl⟩
  have hTl : TS.length = x.parts.length := by rw [hTS, textP_map]; simp
  rw [← hTS] at hl hq
  refine AWP.loop (ι := Nat × List Res × List UInt8) (fun p => p.1 ≤ x.parts.length ∧ WS S b bs p.2.2 p.2.1 ∧ p.2.2 ++ fenceG (wdL p.1) (x.runes.drop p.1) (TS.drop p.1) = bs ++ fenceG (wdL 0) x.runes TS) (fun p => x.parts.length - p.1)
    (fun p => ⟨40, [(0, ptV b), (3, ptV b3), (4, sV ⟨(wdL p.1).toArray⟩), (8, .sl false 1 (x.parts.map partV)), (9, iV x.parts.length), (10, iV p.1)], .obj b3 x.ce :: p.2.1, []⟩) (0, S, bs) ⟨Nat.zero_le _, .refl, by simp⟩ (StLe.env (by simp [go_sem, iV, sV, wdL])) ?_
  rintro ⟨k, T, bk⟩ ⟨hk, hws, heq⟩
  simp only at hk hws heq
  have hWT := (hws.wr hW).cons n3 x.ce none
  have hlen := congrArg List.length heq
  simp only [List.length_append] at hlen
  refine awp_sound pl0 _ (by kernel_rfl) _ _ ?_
  simp [go_sem, iV]
  refine cCond_i (fun c1 => ?_) (fun c1 => ?_)
  · simp at c1
    simp [go_sem, iV]
    refine ⟨c1, fun p hp => ?_⟩
    obtain ⟨hp1, hp2⟩ := hps p (List.mem_of_getElem? hp)
    have hT1 : TS.drop k = textL p :: TS.drop (k + 1) := by
      rw [hTS, textP_map, ← List.map_drop, ← List.map_drop, List.drop_eq_getElem_cons c1, List.map_cons, (List.getElem?_eq_some_iff.1 hp).2]
    obtain ⟨c, hc⟩ : ∃ c, x.runes[k]? = some c := ⟨x.runes[k]'(by omega), List.getElem?_eq_getElem (by omega)⟩
    have hR1 : x.runes.drop k = c :: x.runes.drop (k + 1) := by rw [List.drop_eq_getElem_cons (List.getElem?_eq_some_iff.1 hc).1, (List.getElem?_eq_some_iff.1 hc).2]
    have hwd : (wdL k).length ≤ 7 := by unfold wdL; split <;> simp
    rw [hT1, hR1] at heq hlen
    simp [fenceG] at hlen
    simp [go_sem, iV, partV, sV]
    refine .refl (Wr.word hWT ⟨(wdL k).toArray⟩ (by show bk.length + (wdL k).toArray.size + 1 ≤ _; simp; omega) fun T1 hT1 => ?_)
    have hW1 := hT1.wr hWT
    obtain ⟨T1, rfl, hX1⟩ := hT1.cons n3
    simp [go_sem, iV]
    refine ⟨by omega, fun c' hc' => ?_⟩
    obtain rfl : c = c' := by rw [hc] at hc'; exact Option.some.inj hc'
    refine .refl (Wr.delim hW1 c (hru k c hc) (by simp; omega) fun T2 hT2 => ?_)
    have hW2 := hT2.wr hW1
    obtain ⟨T2, rfl, hX2⟩ := hT2.cons n3
    simp [go_sem, iV]
    refine .refl (ih p hp1 hp2 false _ b _ hW2 (by simp; omega) _ fun T3 hT3 => ?_)
    obtain ⟨T3, rfl, hX3⟩ := hT3.cons n3
    simp [go_sem, iV]
    rw [w64 (by omega) (by omega)]
    refine round (k + 1, T3, _) ⟨c1, ((hws.trans hX1).trans hX2).trans hX3, ?_⟩ (by simp only; omega) (StLe.env ?_)
    · rw [← heq]
      simp [fenceG, wdL]
    · simp [go_sem, iV, sV, wdL]
  · simp at c1
    simp [go_sem, iV]
    have hkl : k = x.parts.length := by omega
    subst hkl
    obtain ⟨c, hc⟩ : ∃ c, x.runes[x.parts.length]? = some c := ⟨x.runes[x.parts.length]'(by omega), List.getElem?_eq_getElem (by omega)⟩
    have hR1 : x.runes.drop x.parts.length = c :: x.runes.drop (x.parts.length + 1) := by rw [List.drop_eq_getElem_cons (List.getElem?_eq_some_iff.1 hc).1, (List.getElem?_eq_some_iff.1 hc).2]
    have hT1 : TS.drop x.parts.length = [] := List.drop_eq_nil_of_le (by omega)
    rw [hT1, hR1] at heq hlen
    simp [fenceG] at hlen
    refine .refl (Wr.word hWT ⟨#[114, 105, 103, 104, 116, 32]⟩ (by show bk.length + 6 + 1 ≤ _; omega) fun T1 hT1 => ?_)
    have hW1 := hT1.wr hWT
    obtain ⟨T1, rfl, hX1⟩ := hT1.cons n3
    simp [go_sem, iV]
    refine ⟨by omega, fun c' hc' => ?_⟩
    obtain rfl : c = c' := by rw [hc] at hc'; exact Option.some.inj hc'
    refine .refl (Wr.delim hW1 c (hru _ c hc) (by simp; omega) fun T2 hT2 => ?_)
    obtain ⟨T2, rfl, hX2⟩ := hT2.cons n3
    simp [go_sem, iV]
    refine done (List.sublist_cons_self _ _) (hq T2 ?_)
    have := (hws.trans hX1).trans hX2
    rw [← heq]
    simpa [fenceG] using this

def matL (n : Int) (ts : List (List UInt8)) : List UInt8 := 92 :: [109, 97, 116, 114, 105, 120, 123] ++ matT n ts 0 ++ [125]
theorem matrix_spec {n : Nat} (ih : ListOK n) (x : Nd) (hx : x.size ≤ 4294967296) (hps : ∀ p ∈ x.parts, sizeL p ≤ n ∧ rightL p = true) (hn0 : 1 ≤ x.n) (hn64 : x.n ≤ 64) (S : List Res) (b : Nat) (bs : List UInt8) (hW : Wr S b bs)
    (hl : bs.length + (matL x.n (textP x.parts)).length + 64 ≤ 4294967296)
    (Q : Out → List Res → Prop) (hq : ∀ S', WS S b bs (bs ++ matL x.n (textP x.parts)) S' → Q (.ret (.tuple [])) S') : ACall Tryd.prog 30 [ptV b, .agg x.ce] S Q := by
  have hse := x.size_eq
  have hpl := len_sizeP x.parts
  refine acall_of_awp Tryd.func30 rfl (by simp [go_sem]) (awp_sound pl0 _ (by kernel_rfl) _ _ ?_)
  simp [go_sem, iV]
  intro b3 hb3
  have n3 := hW.ne hb3
  have hW0 := hW.cons n3 x.ce none
  obtain ⟨TS, hTS⟩ : ∃ TS, TS = textP x.parts := ⟨_, rfl⟩
  have hTl : TS.length = x.parts.length := by rw [hTS, textP_map]; simp
  rw [← hTS] at hl hq
  simp [matL] at hl
  refine .refl (Wr.word hW0 ⟨#[109, 97, 116, 114, 105, 120, 123]⟩ (by show bs.length + 7 + 1 ≤ _; omega) fun T0 hT0 => ?_)
  obtain ⟨T0, rfl, hX0⟩ := hT0.cons n3
  simp [go_sem, iV]
  obtain ⟨B0, hB0⟩ : ∃ B0, B0 = bs ++ 92 :: [109, 97, 116, 114, 105, 120, 123] := ⟨_, rfl⟩
  have hX0 : WS S b bs B0 T0 := by rw [hB0]; exact hX0
  have hB0l : B0.length = bs.length + 8 := by rw [hB0]; simp
  refine AWP.loop (ι := Nat × List Res × List UInt8) (fun p => p.1 ≤ x.parts.length ∧ WS S b bs p.2.2 p.2.1 ∧ p.2.2 ++ matT x.n (TS.drop p.1) p.1 = B0 ++ matT x.n TS 0) (fun p => x.parts.length - p.1)
    (fun p => ⟨41, [(0, ptV b), (3, ptV b3), (9, .sl false 1 (x.parts.map partV)), (10, iV x.parts.length), (11, iV p.1)], .obj b3 x.ce :: p.2.1, []⟩) (0, T0, B0) ⟨Nat.zero_le _, hX0, by simp⟩ (StLe.env (by simp [go_sem, iV, sV])) ?_
  rintro ⟨k, T, bk⟩ ⟨hk, hws, heq⟩
  simp only at hk hws heq
  have hWT := (hws.wr hW).cons n3 x.ce none
  have hlen := congrArg List.length heq
  simp only [List.length_append] at hlen
  refine awp_sound pl0 _ (by kernel_rfl) _ _ ?_
  simp [go_sem, iV]
  refine cCond_i (fun c1 => ?_) (fun c1 => ?_)
  · simp at c1
    simp [go_sem, iV]
    refine ⟨c1, fun p hp => ?_⟩
    obtain ⟨hp1, hp2⟩ := hps p (List.mem_of_getElem? hp)
    have hT1 : TS.drop k = textL p :: TS.drop (k + 1) := by
      rw [hTS, textP_map, ← List.map_drop, ← List.map_drop, List.drop_eq_getElem_cons c1, List.map_cons, (List.getElem?_eq_some_iff.1 hp).2]
    rw [hT1] at heq hlen
    have hwk : IntKind.i64.wrap ((k : Int) + 1) = k + 1 := w64 (by omega) (by omega)
    have hne : x.n ≠ 0 := by omega
    -- behind what stands ahead of a cell
    have rest : ∀ (T1 : List Res) (sep : List UInt8), WS T b bk (bk ++ sep) T1 → sep = (if k = 0 then [] else if (k : Int).tmod x.n = 0 then [92, 92] else [38]) → ∀ (K : Out → List Res → Prop), (∀ T2, WS S b bs (bk ++ sep ++ textL p) T2 → bk ++ sep ++ textL p ++ matT x.n (TS.drop (k + 1)) (k + 1) = B0 ++ matT x.n TS 0 → K (.ret (.tuple [])) (.obj b3 x.ce :: T2)) →
        ACall Tryd.prog 11 [ptV b, .sl false 11 (p.map Nd.v)] (.obj b3 x.ce :: T1) K := by
      intro T1 sep hw hsep K hK
      have hW1 := ((hws.trans hw).wr hW).cons n3 x.ce none
      have hl2 : sep.length + (textL p).length ≤ (matT x.n (textL p :: TS.drop (k + 1)) k).length := by
        simp only [matT, ← hsep, List.length_append]; omega
      refine ih p hp1 hp2 false _ b _ hW1 (by simp; omega) _ fun T2 hT2 => ?_
      obtain ⟨T2, rfl, hX2⟩ := hT2.cons n3
      refine hK T2 ((hws.trans hw).trans hX2) ?_
      rw [← heq]
      simp only [matT, ← hsep, List.append_assoc]
    simp [go_sem, iV, partV]
    by_cases hk0 : k = 0
    · subst hk0
      simp [go_sem, iV]
      refine .refl (rest T [] (by simpa using WS.refl) rfl _ fun T2 h1 h2 => ?_)
      simp [go_sem, iV]
      rw [show IntKind.i64.wrap 1 = 1 by decide]
      refine round (1, T2, _) ⟨c1, h1, h2⟩ (by simp only; omega) (StLe.env ?_)
      simp [go_sem, iV]
    have e0 : ((k : Int) == 0) = false := by simpa using hk0
    rw [e0]
    simp [go_sem, iV, hne]
    refine cCond_i (fun c2 => ?_) (fun c2 => ?_)
    · simp [go_sem, iV]
      simp at c2
      have hsep : ([92, 92] : List UInt8) = (if k = 0 then [] else if (k : Int).tmod x.n = 0 then [92, 92] else [38]) := by rw [if_neg hk0, if_pos c2]
      have hl2 : 2 ≤ (matT x.n (textL p :: TS.drop (k + 1)) k).length := by simp only [matT, ← hsep, List.length_append]; simp; omega
      refine .refl (Wr.string hWT ⟨#[92, 92]⟩ (by show bk.length + 2 ≤ _; omega) fun T1 hT1 => ?_)
      obtain ⟨T1, rfl, hX1⟩ := hT1.cons n3
      simp [go_sem, iV]
      refine .refl (rest T1 [92, 92] hX1 hsep _ fun T2 h1 h2 => ?_)
      simp [go_sem, iV]
      rw [hwk]
      refine round (k + 1, T2, _) ⟨c1, h1, h2⟩ (by simp only; omega) (StLe.env ?_)
      simp [go_sem, iV]
    · simp [go_sem, iV]
      simp at c2
      have hsep : ([38] : List UInt8) = (if k = 0 then [] else if (k : Int).tmod x.n = 0 then [92, 92] else [38]) := by rw [if_neg hk0, if_neg c2]
      have hl2 : 1 ≤ (matT x.n (textL p :: TS.drop (k + 1)) k).length := by simp only [matT, ← hsep, List.length_append]; simp; omega
      refine .refl (Wr.byte hWT 38 (by omega) fun T1 hT1 => ?_)
      obtain ⟨T1, rfl, hX1⟩ := hT1.cons n3
      simp [go_sem, iV]
      refine .refl (rest T1 [38] hX1 hsep _ fun T2 h1 h2 => ?_)
      simp [go_sem, iV]
      rw [hwk]
      refine round (k + 1, T2, _) ⟨c1, h1, h2⟩ (by simp only; omega) (StLe.env ?_)
      simp [go_sem, iV]
  · simp at c1
    simp [go_sem, iV]
    have hT1 : TS.drop k = [] := List.drop_eq_nil_of_le (by omega)
    rw [hT1] at heq hlen
    simp [matT] at heq hlen
    refine .refl (Wr.byte hWT 125 (by omega) fun T1 hT1 => ?_)
    obtain ⟨T1, rfl, hX1⟩ := hT1.cons n3
    simp [go_sem, iV]
    refine done (List.sublist_cons_self _ _) (hq T1 ?_)
    have := hws.trans hX1
    rw [heq, hB0] at this
    simpa [matL, List.append_assoc] using this
end Go.Proofs.YtflpfjeghomepaaDoor
/- The nucleus of a noad, written. -/
set_option maxRecDepth 100000
set_option linter.unusedSimpArgs false
set_option linter.unusedVariables false
set_option pp.maxSteps 3000
set_option pp.deepTerms false
namespace Go.Proofs.YtflpfjeghomepaaDoor
open Go Go.AW Go.Proofs

def simC : List V := [V.lit (.string ⟨#[]⟩), V.lit (.string ⟨#[]⟩), V.lit (.string ⟨#[]⟩), V.lit (.string ⟨#[]⟩), V.lit (.string ⟨#[111, 118, 101, 114, 108, 105, 110, 101]⟩), V.lit (.string ⟨#[117, 110, 100, 101, 114, 108, 105, 110, 101]⟩), V.lit (.string ⟨#[]⟩), V.lit (.string ⟨#[]⟩), V.lit (.string ⟨#[]⟩), V.lit (.string ⟨#[118, 99, 101, 110, 116, 101, 114]⟩), V.lit (.string ⟨#[]⟩), V.lit (.string ⟨#[]⟩)]
theorem nucleus_spec {n : Nat} (ih : ListOK n) (x : Nd) (hx : x.size ≤ 4294967296) (hps : ∀ p ∈ x.parts, sizeL p ≤ n ∧ rightL p = true) (how : x.ownB = true) (S : List Res) (b : Nat) (bs : List UInt8) (hW : Wr S b bs)
    (hl : bs.length + (nucT x.kind x.cls x.rune x.n x.runes (textP x.parts)).length + 64 ≤ 4294967296)
    (Q : Out → List Res → Prop) (hq : ∀ S', WS S b bs (bs ++ nucT x.kind x.cls x.rune x.n x.runes (textP x.parts)) S' → Q (.ret (.tuple [])) S') : ACall Tryd.prog 20 [ptV b, .agg x.ce] S Q := by
  have hse := x.size_eq
  have hpl := len_sizeP x.parts
  have hTl : (textP x.parts).length = x.parts.length := by rw [textP_map]; simp
  refine acall_of_awp Tryd.func20 rfl (by simp [go_sem]) (awp_sound pl0 _ (by kernel_rfl) _ _ ?_)
  simp [go_sem, iV]
  intro b3 hb3 b4 hb4
  have n3 := hW.ne hb3
  have n43 : b4 ≠ b3 := hb4.obj.1
  have n4 : b4 ≠ b := hW.ne hb4.obj.2
  rw [show ([V.lit (.string ⟨#[]⟩), V.lit (.string ⟨#[]⟩), V.lit (.string ⟨#[]⟩), V.lit (.string ⟨#[]⟩), V.lit (.string ⟨#[111, 118, 101, 114, 108, 105, 110, 101]⟩), V.lit (.string ⟨#[117, 110, 100, 101, 114, 108, 105, 110, 101]⟩), V.lit (.string ⟨#[]⟩), V.lit (.string ⟨#[]⟩), V.lit (.string ⟨#[]⟩), V.lit (.string ⟨#[118, 99, 101, 110, 116, 101, 114]⟩), V.lit (.string ⟨#[]⟩), V.lit (.string ⟨#[]⟩)] : List V) = simC from rfl]
  have hW0 := (hW.cons n3 x.ce none).cons n4 simC none
  simp [go_sem, iV, n43, Ne.symm n43]
  -- KINDS
  by_cases k0 : x.kind = 0
  · have ho : x.ownB = (((x.parts.length : Int) == 0) && runeB x.rune && (x.cls == classV x.rune) && x.limB) := by rw [Nd.ownB, if_pos (by omega)]
    rw [how] at ho
    simp only [Bool.true_eq, Bool.and_eq_true, Bool.or_eq_true, beq_iff_eq, decide_eq_true_eq, Bool.not_eq_true'] at ho
    have hnu : nucT x.kind x.cls x.rune x.n x.runes (textP x.parts) = quoteL x.rune := by simp [nucT, k0]
    rw [hnu] at hl hq
    simp at hl
    simp [go_sem, iV, k0, n43, Ne.symm n43]
    refine .refl (Wr.quote hW0 x.rune ho.1.1.2 (by first | omega | (simp; omega)) fun T1 hT1 => ?_)
    have hW1 := hT1.wr hW0
    obtain ⟨T1, rfl, hX1⟩ := hT1.cons2 n4 n3
    simp [go_sem, iV, k0, n43, Ne.symm n43]
    refine done (by (repeat (first | exact List.Sublist.refl _ | refine List.Sublist.cons_cons _ ?_ | refine List.Sublist.append (List.Sublist.refl _) ?_ | refine List.Sublist.cons _ ?_))) (hq T1 ?_)
    have hf := hX1
    simpa [matL, wdL] using hf
  by_cases k1 : x.kind = 1
  · have ho : x.ownB = (((x.parts.length : Int) == 1) && decide (0 ≤ x.cls) && decide (x.cls ≤ 7) && x.limB) := by rw [Nd.ownB, if_neg (by omega), if_pos (by omega)]
    rw [how] at ho
    simp only [Bool.true_eq, Bool.and_eq_true, Bool.or_eq_true, beq_iff_eq, decide_eq_true_eq, Bool.not_eq_true'] at ho
    simp [go_sem, iV, k1, n43, Ne.symm n43]
    refine cCond_i (fun c1 => ?_) (fun c1 => ?_)
    · simp at c1
      have hnu : nucT x.kind x.cls x.rune x.n x.runes (textP x.parts) = 92 :: clsW x.cls ++ bracesT (textP x.parts) := by simp [nucT, k1, c1]
      rw [hnu] at hl hq
      simp at hl
      simp [go_sem, iV, k1, n43, Ne.symm n43]
      refine ⟨by omega, by omega, aOpt_i (a := sV ⟨(clsW x.cls).toArray⟩) ?_ ?_⟩
      · rcases (by omega : x.cls = 1 ∨ x.cls = 2 ∨ x.cls = 3 ∨ x.cls = 4 ∨ x.cls = 5 ∨ x.cls = 6 ∨ x.cls = 7) with e | e | e | e | e | e | e <;> rw [e] <;> rfl
      refine .refl (Wr.wordL hW0 (clsW x.cls) (by first | omega | (simp; omega)) fun T1 hT1 => ?_)
      have hW1 := hT1.wr hW0
      obtain ⟨T1, rfl, hX1⟩ := hT1.cons2 n4 n3
      simp [go_sem, iV, k1, n43, Ne.symm n43]
      refine .refl (braces_spec ih x.parts (hps) (by first | omega | (simp; omega)) false _ b _ hW1 (by first | omega | (simp; omega)) _ fun T2 hT2 => ?_)
      have hW2 := hT2.wr hW1
      obtain ⟨T2, rfl, hX2⟩ := hT2.cons2 n4 n3
      simp [go_sem, iV, k1, n43, Ne.symm n43]
      refine done (by (repeat (first | exact List.Sublist.refl _ | refine List.Sublist.cons_cons _ ?_ | refine List.Sublist.append (List.Sublist.refl _) ?_ | refine List.Sublist.cons _ ?_))) (hq T2 ?_)
      have hf := (hX1.trans hX2)
      simpa [matL, wdL] using hf
    · simp at c1
      have hnu : nucT x.kind x.cls x.rune x.n x.runes (textP x.parts) = bracesT (textP x.parts) := by simp [nucT, k1, c1]
      rw [hnu] at hl hq
      simp at hl
      simp [go_sem, iV, k1, n43, Ne.symm n43]
      refine .refl (braces_spec ih x.parts (hps) (by first | omega | (simp; omega)) false _ b _ hW0 (by first | omega | (simp; omega)) _ fun T1 hT1 => ?_)
      have hW1 := hT1.wr hW0
      obtain ⟨T1, rfl, hX1⟩ := hT1.cons2 n4 n3
      simp [go_sem, iV, k1, n43, Ne.symm n43]
      refine done (by (repeat (first | exact List.Sublist.refl _ | refine List.Sublist.cons_cons _ ?_ | refine List.Sublist.append (List.Sublist.refl _) ?_ | refine List.Sublist.cons _ ?_))) (hq T1 ?_)
      have hf := hX1
      simpa [matL, wdL] using hf
  by_cases k2 : x.kind = 2
  · have ho : x.ownB = (((x.parts.length : Int) == 2) && ((x.n == 0) || (x.n == 1))) := by rw [Nd.ownB, if_neg (by omega), if_neg (by omega), if_pos (by omega)]
    rw [how] at ho
    simp only [Bool.true_eq, Bool.and_eq_true, Bool.or_eq_true, beq_iff_eq, decide_eq_true_eq, Bool.not_eq_true'] at ho
    simp [go_sem, iV, k2, n43, Ne.symm n43]
    have hnu : nucT x.kind x.cls x.rune x.n x.runes (textP x.parts) = 92 :: (if x.n = 0 then [97, 116, 111, 112] else [102, 114, 97, 99]) ++ bracesT (textP x.parts) := by simp [nucT, k2]
    rw [hnu] at hl hq
    simp at hl
    refine ⟨by omega, by omega, aOpt_i (a := sV ⟨(if x.n = 0 then [97, 116, 111, 112] else [102, 114, 97, 99]).toArray⟩) ?_ ?_⟩
    · rcases (by omega : x.n = 0 ∨ x.n = 1) with e | e <;> rw [e] <;> rfl
    refine .refl (Wr.wordL hW0 (if x.n = 0 then [97, 116, 111, 112] else [102, 114, 97, 99]) (by first | omega | (simp; omega)) fun T1 hT1 => ?_)
    have hW1 := hT1.wr hW0
    obtain ⟨T1, rfl, hX1⟩ := hT1.cons2 n4 n3
    simp [go_sem, iV, k2, n43, Ne.symm n43]
    refine .refl (braces_spec ih x.parts (hps) (by first | omega | (simp; omega)) false _ b _ hW1 (by first | omega | (simp; omega)) _ fun T2 hT2 => ?_)
    have hW2 := hT2.wr hW1
    obtain ⟨T2, rfl, hX2⟩ := hT2.cons2 n4 n3
    simp [go_sem, iV, k2, n43, Ne.symm n43]
    refine done (by (repeat (first | exact List.Sublist.refl _ | refine List.Sublist.cons_cons _ ?_ | refine List.Sublist.append (List.Sublist.refl _) ?_ | refine List.Sublist.cons _ ?_))) (hq T2 ?_)
    have hf := (hX1.trans hX2)
    simpa [matL, wdL] using hf
  by_cases k3 : x.kind = 3
  · have ho : x.ownB = (((x.parts.length : Int) == 1) || ((x.parts.length : Int) == 2)) := by rw [Nd.ownB, if_neg (by omega), if_neg (by omega), if_neg (by omega), if_pos (by omega)]
    rw [how] at ho
    simp only [Bool.true_eq, Bool.and_eq_true, Bool.or_eq_true, beq_iff_eq, decide_eq_true_eq, Bool.not_eq_true'] at ho
    simp [go_sem, iV, k3, n43, Ne.symm n43]
    obtain ⟨p0, ps, hpp⟩ : ∃ p0 ps, x.parts = p0 :: ps := by
      cases e : x.parts with
      | nil => rw [e] at ho; simp at ho
      | cons a l => exact ⟨a, l, rfl⟩
    have hw1 : IntKind.i64.wrap ((x.parts.length : Int) - 1) = x.parts.length - 1 := w64 (by omega) (by omega)
    have hnu : nucT x.kind x.cls x.rune x.n x.runes (textP x.parts) = 92 :: (if (textP x.parts).length = 1 then [115, 113, 114, 116] else [114, 111, 111, 116]) ++ bracesT (textP ps) ++ bracesT (textP [p0]) := by simp [nucT, k3, hpp, textP]
    rw [hnu] at hl hq
    simp at hl
    rw [hTl] at hnu hl hq
    rw [hw1]
    refine ⟨by omega, by omega, aOpt_i (a := sV ⟨(if x.parts.length = 1 then [115, 113, 114, 116] else [114, 111, 111, 116]).toArray⟩) ?_ ?_⟩
    · rcases (by omega : x.parts.length = 1 ∨ x.parts.length = 2) with e | e <;> rw [e] <;> rfl
    refine .refl (Wr.wordL hW0 (if x.parts.length = 1 then [115, 113, 114, 116] else [114, 111, 111, 116]) (by first | omega | (simp; omega)) fun T1 hT1 => ?_)
    have hW1 := hT1.wr hW0
    obtain ⟨T1, rfl, hX1⟩ := hT1.cons2 n4 n3
    simp [go_sem, iV, k3, n43, Ne.symm n43]
    have hps' : ∀ p ∈ p0 :: ps, sizeL p ≤ n ∧ rightL p = true := by rw [← hpp]; exact hps
    rw [hpp]
    simp [go_sem, iV, n43, Ne.symm n43]
    have hpl2 : x.parts.length = ps.length + 1 := by rw [hpp]; rfl
    refine ⟨by omega, ?_⟩
    rw [List.take_of_length_le (by simp)]
    refine .refl (braces_spec ih ps (fun p hp => hps' p (by simp [hp])) (by omega) false _ b _ hW1 (by simp; omega) _ fun T2 hT2 => ?_)
    have hW2 := hT2.wr hW1
    obtain ⟨T2, rfl, hX2⟩ := hT2.cons2 n4 n3
    simp [go_sem, iV, k3, n43, Ne.symm n43]
    simp [go_sem, iV, hpp, partV, n43, Ne.symm n43]
    refine .refl (braces_spec ih [p0] (fun p hp => hps' p (by simp at hp; simp [hp])) (by simp) true _ b _ hW2 (by simp; omega) _ fun T3 hT3 => ?_)
    have hW3 := hT3.wr hW2
    obtain ⟨T3, rfl, hX3⟩ := hT3.cons2 n4 n3
    simp [go_sem, iV, k3, n43, Ne.symm n43]
    refine done (by (repeat (first | exact List.Sublist.refl _ | refine List.Sublist.cons_cons _ ?_ | refine List.Sublist.append (List.Sublist.refl _) ?_ | refine List.Sublist.cons _ ?_))) (hq T3 ?_)
    have hf := ((hX1.trans hX2).trans hX3)
    simpa [matL, wdL] using hf
  by_cases k6 : x.kind = 6
  · have ho : x.ownB = (((x.parts.length : Int) == 1) && runeB x.rune) := by rw [Nd.ownB, if_neg (by omega), if_neg (by omega), if_neg (by omega), if_neg (by omega), if_neg (by omega), if_pos (by omega)]
    rw [how] at ho
    simp only [Bool.true_eq, Bool.and_eq_true, Bool.or_eq_true, beq_iff_eq, decide_eq_true_eq, Bool.not_eq_true'] at ho
    simp [go_sem, iV, k6, n43, Ne.symm n43]
    have hnu : nucT x.kind x.cls x.rune x.n x.runes (textP x.parts) = 92 :: [97, 99, 99, 101, 110, 116, 123] ++ quoteL x.rune ++ [125] ++ bracesT (textP x.parts) := by simp [nucT, k6]
    rw [hnu] at hl hq
    simp at hl
    refine .refl (Wr.wordL hW0 [97, 99, 99, 101, 110, 116, 123] (by first | omega | (simp; omega)) fun T1 hT1 => ?_)
    have hW1 := hT1.wr hW0
    obtain ⟨T1, rfl, hX1⟩ := hT1.cons2 n4 n3
    simp [go_sem, iV, k6, n43, Ne.symm n43]
    refine .refl (Wr.quote hW1 x.rune ho.2 (by first | omega | (simp; omega)) fun T2 hT2 => ?_)
    have hW2 := hT2.wr hW1
    obtain ⟨T2, rfl, hX2⟩ := hT2.cons2 n4 n3
    simp [go_sem, iV, k6, n43, Ne.symm n43]
    refine .refl (Wr.byte hW2 125 (by first | omega | (simp; omega)) fun T3 hT3 => ?_)
    have hW3 := hT3.wr hW2
    obtain ⟨T3, rfl, hX3⟩ := hT3.cons2 n4 n3
    simp [go_sem, iV, k6, n43, Ne.symm n43]
    refine .refl (braces_spec ih x.parts (hps) (by first | omega | (simp; omega)) false _ b _ hW3 (by first | omega | (simp; omega)) _ fun T4 hT4 => ?_)
    have hW4 := hT4.wr hW3
    obtain ⟨T4, rfl, hX4⟩ := hT4.cons2 n4 n3
    simp [go_sem, iV, k6, n43, Ne.symm n43]
    refine done (by (repeat (first | exact List.Sublist.refl _ | refine List.Sublist.cons_cons _ ?_ | refine List.Sublist.append (List.Sublist.refl _) ?_ | refine List.Sublist.cons _ ?_))) (hq T4 ?_)
    have hf := (((hX1.trans hX2).trans hX3).trans hX4)
    simpa [matL, wdL] using hf
  by_cases k7 : x.kind = 7
  · have ho : x.ownB = (x.delB) := by rw [Nd.ownB, if_neg (by omega), if_neg (by omega), if_neg (by omega), if_neg (by omega), if_neg (by omega), if_neg (by omega), if_pos (by omega)]
    rw [how] at ho
    simp only [Bool.true_eq, Bool.and_eq_true, Bool.or_eq_true, beq_iff_eq, decide_eq_true_eq, Bool.not_eq_true'] at ho
    simp [go_sem, iV, k7, n43, Ne.symm n43]
    have hnu : nucT x.kind x.cls x.rune x.n x.runes (textP x.parts) = fenceG (wdL 0) x.runes (textP x.parts) := by simp [nucT, k7, wdL]
    rw [hnu] at hl hq
    simp at hl
    rw [show (V.agg [V.lit (.int .i64 7), V.lit (.int .i64 x.cls), V.lit (.int .i64 x.rune), V.lit (.int .i64 x.n), V.lit (.int .i64 x.lim), V.sl false 1 (x.parts.map partV), V.sl false 1 (x.runes.map iV), V.lit (.bool x.hasSup), V.lit (.bool x.hasSub), V.sl false 11 (x.sup.map Nd.v), V.sl false 11 (x.sub.map Nd.v)] : V) = V.agg x.ce by rw [← k7]; rfl]
    refine .refl (fence_spec ih x hx hps (by rw [← ho]) _ b bs hW0 (by omega) _ fun T1 hT1 => ?_)
    have hW1 := hT1.wr hW0
    obtain ⟨T1, rfl, hX1⟩ := hT1.cons2 n4 n3
    simp [go_sem, iV, k7, n43, Ne.symm n43]
    refine done (by (repeat (first | exact List.Sublist.refl _ | refine List.Sublist.cons_cons _ ?_ | refine List.Sublist.append (List.Sublist.refl _) ?_ | refine List.Sublist.cons _ ?_))) (hq T1 ?_)
    have hf := hX1
    simpa [matL, wdL] using hf
  by_cases k8 : x.kind = 8
  · have ho : x.ownB = (decide (1 ≤ x.n) && decide (x.n ≤ 64) && decide (1 ≤ (x.parts.length : Int)) && ((x.parts.length : Int).tmod x.n == 0)) := by rw [Nd.ownB, if_neg (by omega), if_neg (by omega), if_neg (by omega), if_neg (by omega), if_neg (by omega), if_neg (by omega), if_neg (by omega), if_pos (by omega)]
    rw [how] at ho
    simp only [Bool.true_eq, Bool.and_eq_true, Bool.or_eq_true, beq_iff_eq, decide_eq_true_eq, Bool.not_eq_true'] at ho
    simp [go_sem, iV, k8, n43, Ne.symm n43]
    have hnu : nucT x.kind x.cls x.rune x.n x.runes (textP x.parts) = matL x.n (textP x.parts) := by simp [nucT, k8, matL]
    rw [hnu] at hl hq
    simp at hl
    rw [show (V.agg [V.lit (.int .i64 8), V.lit (.int .i64 x.cls), V.lit (.int .i64 x.rune), V.lit (.int .i64 x.n), V.lit (.int .i64 x.lim), V.sl false 1 (x.parts.map partV), V.sl false 1 (x.runes.map iV), V.lit (.bool x.hasSup), V.lit (.bool x.hasSub), V.sl false 11 (x.sup.map Nd.v), V.sl false 11 (x.sub.map Nd.v)] : V) = V.agg x.ce by rw [← k8]; rfl]
    refine .refl (matrix_spec ih x hx hps ho.1.1.1 ho.1.1.2 _ b bs hW0 (by omega) _ fun T1 hT1 => ?_)
    have hW1 := hT1.wr hW0
    obtain ⟨T1, rfl, hX1⟩ := hT1.cons2 n4 n3
    simp [go_sem, iV, k8, n43, Ne.symm n43]
    refine done (by (repeat (first | exact List.Sublist.refl _ | refine List.Sublist.cons_cons _ ?_ | refine List.Sublist.append (List.Sublist.refl _) ?_ | refine List.Sublist.cons _ ?_))) (hq T1 ?_)
    have hf := hX1
    simpa [matL, wdL] using hf
  by_cases k10 : x.kind = 10
  · have ho : x.ownB = (decide (0 ≤ x.n) && decide (x.n < 4) && !x.hasSup && !x.hasSub) := by rw [Nd.ownB, if_neg (by omega), if_neg (by omega), if_neg (by omega), if_neg (by omega), if_neg (by omega), if_neg (by omega), if_neg (by omega), if_neg (by omega), if_pos (by omega)]
    rw [how] at ho
    simp only [Bool.true_eq, Bool.and_eq_true, Bool.or_eq_true, beq_iff_eq, decide_eq_true_eq, Bool.not_eq_true'] at ho
    simp [go_sem, iV, k10, n43, Ne.symm n43]
    have hnu : nucT x.kind x.cls x.rune x.n x.runes (textP x.parts) = 92 :: styW x.n := by simp [nucT, k10]
    rw [hnu] at hl hq
    simp at hl
    refine ⟨by omega, by omega, aOpt_i (a := sV ⟨(styW x.n).toArray⟩) ?_ ?_⟩
    · rcases (by omega : x.n = 0 ∨ x.n = 1 ∨ x.n = 2 ∨ x.n = 3) with e | e | e | e <;> rw [e] <;> rfl
    refine .refl (Wr.wordL hW0 (styW x.n) (by first | omega | (simp; omega)) fun T1 hT1 => ?_)
    have hW1 := hT1.wr hW0
    obtain ⟨T1, rfl, hX1⟩ := hT1.cons2 n4 n3
    simp [go_sem, iV, k10, n43, Ne.symm n43]
    refine done (by (repeat (first | exact List.Sublist.refl _ | refine List.Sublist.cons_cons _ ?_ | refine List.Sublist.append (List.Sublist.refl _) ?_ | refine List.Sublist.cons _ ?_))) (hq T1 ?_)
    have hf := hX1
    simpa [matL, wdL] using hf
  by_cases k11 : x.kind = 11
  · have ho : x.ownB = (decide (-1000 ≤ x.n) && decide (x.n ≤ 1000) && !x.hasSup && !x.hasSub) := by rw [Nd.ownB, if_neg (by omega), if_neg (by omega), if_neg (by omega), if_neg (by omega), if_neg (by omega), if_neg (by omega), if_neg (by omega), if_neg (by omega), if_neg (by omega), if_pos (by omega)]
    rw [how] at ho
    simp only [Bool.true_eq, Bool.and_eq_true, Bool.or_eq_true, beq_iff_eq, decide_eq_true_eq, Bool.not_eq_true'] at ho
    simp [go_sem, iV, k11, n43, Ne.symm n43]
    have hnu : nucT x.kind x.cls x.rune x.n x.runes (textP x.parts) = 92 :: [107, 101, 114, 110, 123] ++ kernW x.n ++ [125] := by simp [nucT, k11]
    rw [hnu] at hl hq
    simp at hl
    have hk : kernW x.n = Lib.itoa x.n := by rw [kernW, if_pos ⟨ho.1.1.1, ho.1.1.2⟩]
    have hkl := kernW_len x.n
    rw [hk] at hkl hnu hl hq
    refine .refl (itoa_spec x.n (by omega) (by omega) _ hW0.t10 _ ?_)
    simp [go_sem, iV, sV, k11, n43, Ne.symm n43]
    refine ⟨by omega, by omega, ?_⟩
    rw [show (⟨#[107, 101, 114, 110, 123]⟩ ++ ⟨(Lib.itoa x.n).toArray⟩ ++ ⟨#[125]⟩ : ByteArray) = ⟨([107, 101, 114, 110, 123] ++ Lib.itoa x.n ++ [125]).toArray⟩ by apply ByteArray.ext; simp]
    refine .refl (Wr.wordL hW0 ([107, 101, 114, 110, 123] ++ Lib.itoa x.n ++ [125]) (by first | omega | (simp; omega)) fun T1 hT1 => ?_)
    have hW1 := hT1.wr hW0
    obtain ⟨T1, rfl, hX1⟩ := hT1.cons2 n4 n3
    simp [go_sem, iV, k11, n43, Ne.symm n43]
    refine done (by (repeat (first | exact List.Sublist.refl _ | refine List.Sublist.cons_cons _ ?_ | refine List.Sublist.append (List.Sublist.refl _) ?_ | refine List.Sublist.cons _ ?_))) (hq T1 ?_)
    have hf := hX1
    simpa [matL, wdL] using hf
  by_cases k4 : x.kind = 4
  · have ho : x.ownB = ((x.parts.length : Int) == 1) := by rw [Nd.ownB, if_neg (by omega), if_neg (by omega), if_neg (by omega), if_neg (by omega), if_pos (by omega)]
    rw [how] at ho
    simp only [Bool.true_eq, Bool.and_eq_true, Bool.or_eq_true, beq_iff_eq, decide_eq_true_eq, Bool.not_eq_true'] at ho
    simp [go_sem, iV, k4, n43, Ne.symm n43]
    have hnu : nucT x.kind x.cls x.rune x.n x.runes (textP x.parts) = 92 :: [111, 118, 101, 114, 108, 105, 110, 101] ++ bracesT (textP x.parts) := by simp [nucT, k4, simW]
    rw [hnu] at hl hq
    simp at hl
    refine ATake.aop (AT.indexArr (n := 12) (e := 9) (k := .i64) (i := 4) (sz := 1) (b := b4) (o' := 0) rfl (by simp [go_sem]) rfl (by kernel_rfl) rfl rfl (by omega) (by omega) ?_)
    simp [go_sem, iV, k4, n43, Ne.symm n43]
    simp only [simC]
    simp [go_sem, iV, k4, n43, Ne.symm n43]
    refine .refl (Wr.wordL hW0 [111, 118, 101, 114, 108, 105, 110, 101] (by first | omega | (simp; omega)) fun T1 hT1 => ?_)
    have hW1 := hT1.wr hW0
    obtain ⟨T1, rfl, hX1⟩ := hT1.cons2 n4 n3
    simp [go_sem, iV, k4, n43, Ne.symm n43]
    refine .refl (braces_spec ih x.parts (hps) (by first | omega | (simp; omega)) false _ b _ hW1 (by first | omega | (simp; omega)) _ fun T2 hT2 => ?_)
    have hW2 := hT2.wr hW1
    obtain ⟨T2, rfl, hX2⟩ := hT2.cons2 n4 n3
    simp [go_sem, iV, k4, n43, Ne.symm n43]
    refine done (by (repeat (first | exact List.Sublist.refl _ | refine List.Sublist.cons_cons _ ?_ | refine List.Sublist.append (List.Sublist.refl _) ?_ | refine List.Sublist.cons _ ?_))) (hq T2 ?_)
    have hf := (hX1.trans hX2)
    simpa [matL, wdL] using hf
  by_cases k5 : x.kind = 5
  · have ho : x.ownB = ((x.parts.length : Int) == 1) := by rw [Nd.ownB, if_neg (by omega), if_neg (by omega), if_neg (by omega), if_neg (by omega), if_pos (by omega)]
    rw [how] at ho
    simp only [Bool.true_eq, Bool.and_eq_true, Bool.or_eq_true, beq_iff_eq, decide_eq_true_eq, Bool.not_eq_true'] at ho
    simp [go_sem, iV, k5, n43, Ne.symm n43]
    have hnu : nucT x.kind x.cls x.rune x.n x.runes (textP x.parts) = 92 :: [117, 110, 100, 101, 114, 108, 105, 110, 101] ++ bracesT (textP x.parts) := by simp [nucT, k5, simW]
    rw [hnu] at hl hq
    simp at hl
    refine ATake.aop (AT.indexArr (n := 12) (e := 9) (k := .i64) (i := 5) (sz := 1) (b := b4) (o' := 0) rfl (by simp [go_sem]) rfl (by kernel_rfl) rfl rfl (by omega) (by omega) ?_)
    simp [go_sem, iV, k5, n43, Ne.symm n43]
    simp only [simC]
    simp [go_sem, iV, k5, n43, Ne.symm n43]
    refine .refl (Wr.wordL hW0 [117, 110, 100, 101, 114, 108, 105, 110, 101] (by first | omega | (simp; omega)) fun T1 hT1 => ?_)
    have hW1 := hT1.wr hW0
    obtain ⟨T1, rfl, hX1⟩ := hT1.cons2 n4 n3
    simp [go_sem, iV, k5, n43, Ne.symm n43]
    refine .refl (braces_spec ih x.parts (hps) (by first | omega | (simp; omega)) false _ b _ hW1 (by first | omega | (simp; omega)) _ fun T2 hT2 => ?_)
    have hW2 := hT2.wr hW1
    obtain ⟨T2, rfl, hX2⟩ := hT2.cons2 n4 n3
    simp [go_sem, iV, k5, n43, Ne.symm n43]
    refine done (by (repeat (first | exact List.Sublist.refl _ | refine List.Sublist.cons_cons _ ?_ | refine List.Sublist.append (List.Sublist.refl _) ?_ | refine List.Sublist.cons _ ?_))) (hq T2 ?_)
    have hf := (hX1.trans hX2)
    simpa [matL, wdL] using hf
  by_cases k9 : x.kind = 9
  · have ho : x.ownB = ((x.parts.length : Int) == 1) := by rw [Nd.ownB, if_neg (by omega), if_neg (by omega), if_neg (by omega), if_neg (by omega), if_pos (by omega)]
    rw [how] at ho
    simp only [Bool.true_eq, Bool.and_eq_true, Bool.or_eq_true, beq_iff_eq, decide_eq_true_eq, Bool.not_eq_true'] at ho
    simp [go_sem, iV, k9, n43, Ne.symm n43]
    have hnu : nucT x.kind x.cls x.rune x.n x.runes (textP x.parts) = 92 :: [118, 99, 101, 110, 116, 101, 114] ++ bracesT (textP x.parts) := by simp [nucT, k9, simW]
    rw [hnu] at hl hq
    simp at hl
    refine ATake.aop (AT.indexArr (n := 12) (e := 9) (k := .i64) (i := 9) (sz := 1) (b := b4) (o' := 0) rfl (by simp [go_sem]) rfl (by kernel_rfl) rfl rfl (by omega) (by omega) ?_)
    simp [go_sem, iV, k9, n43, Ne.symm n43]
    simp only [simC]
    simp [go_sem, iV, k9, n43, Ne.symm n43]
    refine .refl (Wr.wordL hW0 [118, 99, 101, 110, 116, 101, 114] (by first | omega | (simp; omega)) fun T1 hT1 => ?_)
    have hW1 := hT1.wr hW0
    obtain ⟨T1, rfl, hX1⟩ := hT1.cons2 n4 n3
    simp [go_sem, iV, k9, n43, Ne.symm n43]
    refine .refl (braces_spec ih x.parts (hps) (by first | omega | (simp; omega)) false _ b _ hW1 (by first | omega | (simp; omega)) _ fun T2 hT2 => ?_)
    have hW2 := hT2.wr hW1
    obtain ⟨T2, rfl, hX2⟩ := hT2.cons2 n4 n3
    simp [go_sem, iV, k9, n43, Ne.symm n43]
    refine done (by (repeat (first | exact List.Sublist.refl _ | refine List.Sublist.cons_cons _ ?_ | refine List.Sublist.append (List.Sublist.refl _) ?_ | refine List.Sublist.cons _ ?_))) (hq T2 ?_)
    have hf := (hX1.trans hX2)
    simpa [matL, wdL] using hf
  exfalso
  rw [Nd.ownB, if_neg (by omega), if_neg (by omega), if_neg (by omega), if_neg (by omega), if_neg (by omega), if_neg (by omega), if_neg (by omega), if_neg (by omega), if_neg (by omega), if_neg (by omega)] at how
  cases how
end Go.Proofs.YtflpfjeghomepaaDoor
/- Lists of noads, written. -/
set_option maxRecDepth 100000
set_option linter.unusedSimpArgs false
set_option linter.unusedVariables false
set_option pp.maxSteps 3000
set_option pp.deepTerms false
namespace Go.Proofs.YtflpfjeghomepaaDoor
open Go Go.AW Go.Proofs

theorem textL_take {l : List Nd} {k : Nat} {x : Nd} (h : l[k]? = some x) : textL (l.take (k + 1)) = textL (l.take k) ++ x.txt := by
  rw [take_snoc h, textL_append]; simp [textL]
theorem textL_take_le (l : List Nd) (k : Nat) : (textL (l.take k)).length ≤ (textL l).length := by
  have := textL_append (l.take k) (l.drop k)
  rw [List.take_append_drop] at this
  rw [this, List.length_append]; omega
theorem rightL_mem : ∀ {l : List Nd} {x : Nd}, rightL l = true → x ∈ l → x.rightB = true
  | y :: l, x, h, hm => by
    simp only [rightL, Bool.and_eq_true] at h
    rcases List.mem_cons.1 hm with rfl | hm
    · exact h.1
    · exact rightL_mem h.2 hm
theorem rightP_mem : ∀ {l : List (List Nd)} {p : List Nd}, rightP l = true → p ∈ l → rightL p = true
  | y :: l, x, h, hm => by
    simp only [rightP, Bool.and_eq_true] at h
    rcases List.mem_cons.1 hm with rfl | hm
    · exact h.1
    · exact rightP_mem h.2 hm

set_option maxHeartbeats 1000000 in
theorem list_ok : ∀ n : Nat, n ≤ 4294967296 → ListOK n := by
  intro n
  induction n with
  | zero =>
    intro hn l hl hr full S b bs hW hlen Q hq
    have hlen := len_size l
    have : l = [] := List.eq_nil_of_length_eq_zero (by omega)
    subst this
    refine acall_of_awp Tryd.func11 rfl (by simp [go_sem]) (awp_sound pl0 _ (by kernel_rfl) _ _ ?_)
    simp [go_sem, iV]
    refine AWP.loop (ι := Nat) (fun k => k = 0) (fun k => 0) (fun k => ⟨48, [(0, ptV b), (6, .sl full 11 []), (7, iV 0), (8, iV 0)], S, []⟩) 0 rfl (StLe.env (by simp [go_sem, iV])) ?_
    intro k hk
    refine awp_sound pl0 _ (by kernel_rfl) _ _ ?_
    simp [go_sem, iV]
    exact done (List.Sublist.refl _) (hq S (by simpa [textL] using WS.refl))
  | succ n ih =>
    intro hn l hl hr full S b bs hW hlen Q hq
    have ih := ih (by omega)
    have hlens := len_size l
    refine acall_of_awp Tryd.func11 rfl (by simp [go_sem]) (awp_sound pl0 _ (by kernel_rfl) _ _ ?_)
    simp [go_sem, iV]
    refine AWP.loop (ι := Nat × List Res) (fun p => p.1 ≤ l.length ∧ WS S b bs (bs ++ textL (l.take p.1)) p.2) (fun p => l.length - p.1) (fun p => ⟨48, [(0, ptV b), (6, .sl full 11 (l.map Nd.v)), (7, iV l.length), (8, iV p.1)], p.2, []⟩) (0, S) ⟨Nat.zero_le _, by simpa [textL] using WS.refl⟩ (StLe.env (by simp [go_sem, iV])) ?_
    rintro ⟨k, T⟩ ⟨hk, hws⟩
    simp only at hk hws
    have hWT := hws.wr hW
    refine awpC_sound [2000003] pl0 _ (by kernel_rfl) _ _ ?_
    simp [go_sem, iV]
    refine cCondC_i (fun c1 => ?_) (fun c1 => ?_)
    rotate_left
    · simp at c1
      simp [go_sem, iV]
      rw [List.take_of_length_le c1] at hws
      exact done (List.Sublist.refl _) (hq T hws)
    simp at c1
    simp [go_sem, iV]
    refine ⟨c1, fun x hx => ?_⟩
    have hxr := rightL_mem hr (List.mem_of_getElem? hx)
    have hxs := sizeL_mem (List.mem_of_getElem? hx)
    have hse := x.size_eq
    have hpl := len_sizeP x.parts
    have htk := textL_take hx
    have htl := textL_take_le l (k + 1)
    rw [htk, List.length_append] at htl
    have htx := congrArg List.length x.txt_eq
    simp only [List.length_append] at htx
    rw [x.right_eq] at hxr
    simp only [Nd.selfB, Bool.and_eq_true] at hxr
    simp [go_sem, iV, Nd.v_eq x]
    intro b5 hb5
    have n5 : b5 ≠ b := by
      obtain ⟨⟨ad, a0, cap0, hb⟩, _, _⟩ := hWT
      exact fun e => hb5 (e ▸ findObj_blks hb.obj)
    have hW0 := hWT.cons n5 x.ce none
    obtain ⟨bk, hbk⟩ : ∃ bk, bk = bs ++ textL (l.take k) := ⟨_, rfl⟩
    rw [← hbk] at hws hWT hW0
    have hbkl : bk.length = bs.length + (textL (l.take k)).length := by rw [hbk, List.length_append]
    obtain ⟨NU, hNU⟩ : ∃ NU, NU = nucT x.kind x.cls x.rune x.n x.runes (textP x.parts) := ⟨_, rfl⟩
    have htq := x.txt_eq
    rw [← hNU] at htx htq
    refine AWP.mergeE (fun T1 => WS T b bk (bk ++ limT x.lim) T1) (fun T1 => ⟨48, [(0, ptV b), (5, ptV b5), (6, .sl full 11 (l.map Nd.v)), (7, iV l.length), (8, iV k)], .objT b5 x.ce none :: T1, []⟩) ?_ (fun T1 hT1 => ?_)
    · refine awp_sound pl0 _ (by kernel_rfl) _ _ ?_
      simp [go_sem, iV]
      refine cCond_i (fun c2 => ?_) (fun c2 => ?_)
      · simp at c2
        have hlim : limT x.lim = 92 :: [108, 105, 109, 105, 116, 115, 32] := by simp [limT, c2]
        rw [hlim] at htx ⊢
        simp at htx
        simp [go_sem, iV]
        refine .refl (Wr.wordL hW0 [108, 105, 109, 105, 116, 115, 32] (by simp; omega) fun T1 hT1 => ?_)
        obtain ⟨T1, rfl, hX1⟩ := hT1.cons n5
        simp [go_sem, iV]
        exact ⟨T1, hX1, StLe.env (by simp [go_sem, iV])⟩
      · simp [go_sem, iV]
        simp at c2
        refine cCond_i (fun c3 => ?_) (fun c3 => ?_)
        · simp at c3
          have hlim : limT x.lim = 92 :: [110, 111, 108, 105, 109, 105, 116, 115, 32] := by simp [limT, c3]
          rw [hlim] at htx ⊢
          simp at htx
          simp [go_sem, iV]
          refine .refl (Wr.wordL hW0 [110, 111, 108, 105, 109, 105, 116, 115, 32] (by simp; omega) fun T1 hT1 => ?_)
          obtain ⟨T1, rfl, hX1⟩ := hT1.cons n5
          simp [go_sem, iV]
          exact ⟨T1, hX1, StLe.env (by simp [go_sem, iV])⟩
        · simp at c3
          have hlim : limT x.lim = [] := by simp [limT, c2, c3]
          rw [hlim]
          simp [go_sem, iV]
          exact ⟨T, .refl, StLe.env (by simp [go_sem, iV])⟩
    have hW1 := (hT1.wr hWT).cons n5 x.ce none
    refine awpC_sound [2000009] pl0 _ (by kernel_rfl) _ _ ?_
    simp [go_sem, iV]
    refine .refl (nucleus_spec ih x (by omega) (fun p hp => ⟨by have := sizeP_mem hp; omega, rightP_mem hxr.2 hp⟩) hxr.1.1.1.1.1.1 _ b _ hW1 (by rw [← hNU]; simp; omega) _ fun T2 hT2 => ?_)
    rw [← hNU] at hT2
    obtain ⟨T2, rfl, hX2⟩ := hT2.cons n5
    have hY2 := hT1.trans hX2
    simp [go_sem, iV]
    refine AWP.mergeE (fun T3 => WS T b bk (bk ++ limT x.lim ++ NU ++ (if x.hasSup then 94 :: bracesT [textL x.sup] else [])) T3) (fun T1 => ⟨48, [(0, ptV b), (5, ptV b5), (6, .sl full 11 (l.map Nd.v)), (7, iV l.length), (8, iV k)], .objT b5 x.ce none :: T1, []⟩) ?_ (fun T3 hT3 => ?_)
    · refine awp_sound pl0 _ (by kernel_rfl) _ _ ?_
      simp [go_sem, iV]
      have hW2 := (hY2.wr hWT).cons n5 x.ce none
      cases hs : x.hasSup
      · simp [go_sem, iV, hs]
        exact ⟨T2, by simpa using hY2, StLe.env (by simp [go_sem, iV])⟩
      · rw [hs, if_pos rfl] at htx
        simp at htx
        simp [go_sem, iV, hs]
        refine .refl (Wr.byte hW2 94 (by simp; omega) fun T3 hT3 => ?_)
        have hW3 := hT3.wr hW2
        obtain ⟨T3, rfl, hX3⟩ := hT3.cons n5
        simp [go_sem, iV, hs]
        refine .refl (braces_spec ih [x.sup] (fun p hp => by simp at hp; subst hp; exact ⟨by omega, hxr.1.1.2⟩) (by simp) true _ b _ hW3 (by simp [textP]; omega) _ fun T4 hT4 => ?_)
        obtain ⟨T4, rfl, hX4⟩ := hT4.cons n5
        simp [go_sem, iV, hs]
        have hf := (hY2.trans hX3).trans hX4
        exact ⟨T4, by simpa [textP] using hf, StLe.env (by simp [go_sem, iV])⟩
    obtain ⟨b3, hb3⟩ : ∃ b3, b3 = bk ++ limT x.lim ++ NU ++ (if x.hasSup then 94 :: bracesT [textL x.sup] else []) := ⟨_, rfl⟩
    rw [← hb3] at hT3
    have hb3l := congrArg List.length hb3
    simp only [List.length_append] at hb3l
    refine awp_sound pl0 _ (by kernel_rfl) _ _ ?_
    simp [go_sem, iV]
    have hW3 := (hT3.wr hWT).cons n5 x.ce none
    have hwk : IntKind.i64.wrap ((k : Int) + 1) = k + 1 := w64 (by omega) (by omega)
    cases hs : x.hasSub
    · rw [hs] at htx htq
      simp [go_sem, iV, hs, hwk]
      refine round (k + 1, T3) ⟨c1, ?_⟩ (by simp only; omega) ((StLe.drop (List.sublist_cons_self _ _)).trans (StLe.env ?_))
      · rw [htk, htq]
        have hf := hws.trans hT3
        rw [hb3, hbk] at hf
        simpa [List.append_assoc] using hf
      · simp [go_sem, iV]
    · rw [hs, if_pos rfl] at htx htq
      simp at htx
      simp [go_sem, iV, hs]
      refine .refl (Wr.byte hW3 95 (by omega) fun T4 hT4 => ?_)
      have hW4 := hT4.wr hW3
      obtain ⟨T4, rfl, hX4⟩ := hT4.cons n5
      simp [go_sem, iV, hs]
      refine .refl (braces_spec ih [x.sub] (fun p hp => by simp at hp; subst hp; exact ⟨by omega, hxr.1.2⟩) (by simp) true _ b _ hW4 (by simp [textP]; omega) _ fun T5 hT5 => ?_)
      obtain ⟨T5, rfl, hX5⟩ := hT5.cons n5
      simp [go_sem, iV, hs, hwk]
      refine round (k + 1, T5) ⟨c1, ?_⟩ (by simp only; omega) ((StLe.drop (List.sublist_cons_self _ _)).trans (StLe.env ?_))
      · rw [htk, htq]
        have hf := ((hws.trans hT3).trans hX4).trans hX5
        rw [hb3, hbk] at hf
        simpa [List.append_assoc, textP] using hf
      · simp [go_sem, iV]
end Go.Proofs.YtflpfjeghomepaaDoor
/- show.Check, show.Text. -/
set_option maxRecDepth 100000
set_option linter.unusedSimpArgs false
set_option linter.unusedVariables false
set_option pp.maxSteps 3000
set_option pp.deepTerms false
namespace Go.Proofs.YtflpfjeghomepaaDoor
open Go Go.AW Go.Proofs

def checkV (l : List Nd) : Int := if 64 < depL l then 8 else if 65535 < cntL l then 7 else if rightL l then 0 else 5
def textV (l : List Nd) : List UInt8 × Int := if checkV l = 0 then (if 65536 < (textL l).length then ([], 7) else (textL l, 0)) else ([], checkV l)
theorem check_spec (full : Bool) (l : List Nd) (hl : sizeL l ≤ 4294967296) (S : List Res) (hT : Tab64 S) (Q : Out → List Res → Prop) (h : Q (.ret (iV (checkV l))) S) : ACall Tryd.prog 10 [.sl full 11 (l.map Nd.v)] S Q := by
  refine acall_of_awp Tryd.func10 rfl (by simp [go_sem]) (awp_sound pl0 _ (by kernel_rfl) _ _ ?_)
  simp [go_sem, iV]
  have fin : ∀ v : Int, checkV l = v → Done S (.lit (.int .i64 v)) Q := fun v e => by subst e; exact done (List.Sublist.refl _) h
  refine .refl (depth_spec _ l (Nat.le_refl _) hl full _ _ ?_)
  simp [go_sem, iV]
  refine cCond_i (fun c1 => ?_) (fun c1 => ?_)
  · simp [go_sem]
    simp at c1
    exact fin _ (by rw [checkV, if_pos c1])
  simp at c1
  simp [go_sem, iV]
  refine .refl (count_spec _ l (Nat.le_refl _) hl full _ _ ?_)
  simp [go_sem, iV]
  refine cCond_i (fun c2 => ?_) (fun c2 => ?_)
  · simp [go_sem]
    simp at c2
    exact fin _ (by rw [checkV, if_neg (by omega), if_pos c2])
  simp at c2
  simp [go_sem, iV]
  refine .refl (right_spec _ l (Nat.le_refl _) hl full _ hT _ ?_)
  simp [go_sem, iV]
  cases e : rightL l
  · simp [go_sem, iV]
    exact fin _ (by rw [checkV, if_neg (by omega), if_neg (by omega), e]; rfl)
  · simp [go_sem, iV]
    exact fin _ (by rw [checkV, if_neg (by omega), if_neg (by omega), e]; rfl)

theorem text_spec (full : Bool) (l : List Nd) (hl : sizeL l ≤ 33554432) (S : List Res) (hT : Tab64 S) (hT' : Tab10 S) (Q : Out → List Res → Prop) (h : Q (.ret (.tuple [sV ⟨(textV l).1.toArray⟩, iV (textV l).2])) S) : ACall Tryd.prog 6 [.sl full 11 (l.map Nd.v)] S Q := by
  refine acall_of_awp Tryd.func6 rfl (by simp [go_sem]) (awp_sound pl0 _ (by kernel_rfl) _ _ ?_)
  simp [go_sem, iV]
  refine .refl (check_spec full l (by omega) S hT _ ?_)
  simp [go_sem, iV]
  refine cCond_i (fun c1 => ?_) (fun c1 => ?_)
  · simp at c1
    simp [go_sem]
    rw [textV, if_neg c1] at h
    exact done (List.Sublist.refl _) h
  simp at c1
  rw [textV, if_pos c1] at h
  have hr : rightL l = true := by
    rw [checkV] at c1
    split at c1
    · cases c1
    · split at c1
      · cases c1
      · split at c1
        · assumption
        · cases c1
  have hlen := textL_len l
  simp [go_sem]
  intro b hb
  refine .refl (ACall.pre (SLe.builder [] S b none _) ?_)
  have hW : Wr (Res.vec (kB b) none 0 1 [] :: ([] ++ Res.objT b [V.lit (Value.pointer none), V.vs (kB b) none 0 0] (some 41) :: S)) b [] := by
    refine ⟨⟨none, none, 0, .inl rfl, ⟨41, by simp [findTy], by kernel_rfl⟩, by simp [findObj], by simp [findVec]⟩, ?_, ?_⟩
    · simp only [Tab64, findVec, if_neg (kB_ne b), List.nil_append]; exact hT
    · obtain ⟨TT, z, hf⟩ := hT'
      exact ⟨TT, z, by simpa [findRaw] using hf⟩
  refine list_ok (sizeL l) (by omega) l (Nat.le_refl _) hr full _ b [] hW (by simp; omega) _ fun S1 hS1 => ?_
  have hW1 := hS1.wr hW
  simp only [List.nil_append] at hS1 hW1
  obtain ⟨⟨ad, a1, cap1, hb1⟩, _, _⟩ := hW1
  have hsub : ∃ S2, delVec S1 (kB b) = S2 ∧ S.Sublist S2 := by
    rcases hS1 with ⟨e, _⟩ | ⟨a, cap, e⟩
    · rw [e]
      exact ⟨_, rfl, by simp only [delVec, if_true]; exact List.sublist_cons_self _ _⟩
    · rw [e]
      refine ⟨_, rfl, ?_⟩
      simp only [upd, setVec, if_true, AW.setObj, delVec]
      exact List.sublist_cons_self _ _
  have hsub1 : S.Sublist S1 := by
    obtain ⟨S2, h1, h2⟩ := hsub
    rw [← h1] at h2
    exact h2.trans (delVec_sub _ _)
  simp [go_sem]
  refine .refl (len_spec hb1 _ ?_)
  simp [go_sem, iV]
  refine cCond_i (fun c2 => ?_) (fun c2 => ?_)
  · simp at c2
    simp [go_sem]
    rw [if_pos (by omega)] at h
    exact done hsub1 h
  · simp at c2
    simp [go_sem]
    rw [if_neg (by omega)] at h
    refine .refl (string_spec b ad a1 cap1 (textL l) (by omega) S1 hb1.obj hb1.vec _ ?_)
    simp [go_sem, sV]
    obtain ⟨S2, h1, h2⟩ := hsub
    rw [h1]
    exact done h2 h
end Go.Proofs.YtflpfjeghomepaaDoor
/- The fixed answers of layer 21's statements. -/
set_option maxRecDepth 100000
set_option linter.unusedSimpArgs false
set_option linter.unusedVariables false
set_option pp.maxSteps 3000
set_option pp.deepTerms false
namespace Go.Proofs.YtflpfjeghomepaaDoor
open Go Go.AW Go.Proofs

def charN (c : Int) : Nd := ⟨0, classV c, c, 0, 0, [], [], false, false, [], []⟩
theorem char_spec (c : Int) (S : List Res) (Q : Out → List Res → Prop) (h : Q (.ret (.agg (charN c).ce)) S) : ACall Tryd.prog 15 [iV c] S Q := by
  refine acall_of_awp Tryd.func15 rfl (by simp [go_sem]) (awp_sound pl0 _ (by kernel_rfl) _ _ ?_)
  simp [go_sem, iV]
  intro b hb
  refine .refl (class20_spec c _ _ ?_)
  simp [go_sem, iV]
  exact ⟨_, S, VLe.agg (by simp [charN, Nd.ce, iV]; (repeat (first | exact VsLe.nil _ | refine VsLe.cons (VLe.refl _ _) ?_ | refine VsLe.cons (VLe.nilSl _ _ _) ?_))), .drop (List.sublist_cons_self _ _), h⟩
def shownN : Nd := ⟨2, 0, 0, 1, 0, [[charN 97], [charN 98, charN 123]], [], true, false, [charN 50], []⟩
def fracN : Nd := ⟨2, 0, 0, 0, 0, [], [], false, false, [], []⟩
theorem shownN_text : textV [shownN] = ([92, 102, 114, 97, 99, 123, 97, 125, 123, 98, 92, 123, 125, 94, 123, 50, 125], 0) := by kernel_rfl
theorem shownN_check : checkV [shownN] = 0 := by kernel_rfl
theorem shownN_cnt : cntL [shownN] = 5 := by kernel_rfl
theorem fracN_text : textV [fracN] = ([], 5) := by kernel_rfl
theorem VLe.slF {S : List Res} {sz : Nat} {xs ys : List V} (hn : xs.length = ys.length) (hsz : ∀ y ∈ ys, y.cells.length = sz) (hok : ∀ y ∈ ys, V.okv y = true) (h : VsLe S (xs.flatMap V.cells) (ys.flatMap V.cells)) : VLe S (.sl true sz xs) (.sl false sz ys) :=
  (VLe.sl hn hsz hok h).trans (VLe.full _ _ _)
theorem nd_cells (x : Nd) : x.v.cells.length = 11 := by rw [x.v_eq]; rfl
theorem nd_okv (x : Nd) : x.v.okv = true := by rw [x.v_eq]; rfl
theorem ndl_cells (l : List Nd) : ∀ y ∈ l.map Nd.v, y.cells.length = 11 := fun y hy => by
  obtain ⟨x, _, rfl⟩ := List.mem_map.1 hy; exact nd_cells x
theorem ndl_okv (l : List Nd) : ∀ y ∈ l.map Nd.v, V.okv y = true := fun y hy => by
  obtain ⟨x, _, rfl⟩ := List.mem_map.1 hy; exact nd_okv x
/-- One noad, with parts that were laid just now. -/
theorem one_le {S : List Res} {cs : List V} (x : Nd) (h : VsLe S cs x.ce) : VLe S (.sl true 11 [.agg cs]) (.sl true 11 ([x].map Nd.v)) := by
  refine VLe.sl rfl (ndl_cells [x]) (ndl_okv [x]) ?_
  have e : x.v.cells = x.ce := by rw [x.v_eq]; rfl
  show VsLe S (cs ++ []) (x.v.cells ++ [])
  rw [e, List.append_nil, List.append_nil]
  exact h
theorem parts1_le {S : List Res} {full : Bool} {a : List Nd} : VLe S (.sl true 1 [.sl full 11 (a.map Nd.v)]) (.sl false 1 ([a].map partV)) := by
  refine VLe.slF rfl (by simp [partV, V.cells]) (by simp [partV, V.okv, V.one]) ?_
  refine .cons ?_ (.nil _)
  cases full
  · exact .refl _ _
  · exact .full _ _ _
theorem parts2_le {S : List Res} {f1 f2 : Bool} {a b : List Nd} : VLe S (.sl true 1 [.sl f1 11 (a.map Nd.v), .sl f2 11 (b.map Nd.v)]) (.sl false 1 ([a, b].map partV)) := by
  refine VLe.slF rfl (by simp [partV, V.cells]) (by simp [partV, V.okv, V.one]) ?_
  refine .cons ?_ (.cons ?_ (.nil _))
  · cases f1
    · exact .refl _ _
    · exact .full _ _ _
  · cases f2
    · exact .refl _ _
    · exact .full _ _ _
theorem part_le {S : List Res} {full : Bool} {a : List Nd} : VLe S (.sl full 11 (a.map Nd.v)) (.sl false 11 (a.map Nd.v)) := by
  cases full
  · exact .refl _ _
  · exact .full _ _ _
theorem char1 (c : Int) : [V.agg (charN c).ce] = [charN c].map Nd.v := by simp only [List.map_cons, List.map_nil, Nd.v_eq]
theorem char2 (c d : Int) : [V.agg (charN c).ce, V.agg (charN d).ce] = [charN c, charN d].map Nd.v := by simp only [List.map_cons, List.map_nil, Nd.v_eq]
theorem shown_le (S : List Res) : VLe S (.sl true 11 [.agg [iV 2, iV 0, iV 0, iV 1, iV 0, .sl true 1 [.sl true 11 [.agg (charN 97).ce], .sl true 11 [.agg (charN 98).ce, .agg (charN 123).ce]], .lit (.slice none 0 0), .lit (.bool true), .lit (.bool false), .sl true 11 [.agg (charN 50).ce], .lit (.slice none 0 0)]])
    (.sl true 11 ([shownN].map Nd.v)) := by
  rw [char2, char1, char1]
  exact one_le shownN (.cons (.refl _ _) (.cons (.refl _ _) (.cons (.refl _ _) (.cons (.refl _ _) (.cons (.refl _ _) (.cons parts2_le (.cons (VLe.nilSl _ _ _) (.cons (.refl _ _) (.cons (.refl _ _) (.cons part_le (.cons (VLe.nilSl _ _ _) (.nil _))))))))))))
theorem frac_le (S : List Res) : VLe S (.sl true 11 [.agg [iV 2, iV 0, iV 0, iV 0, iV 0, .lit (.slice none 0 0), .lit (.slice none 0 0), .lit (.bool false), .lit (.bool false), .lit (.slice none 0 0), .lit (.slice none 0 0)]])
    (.sl true 11 ([fracN].map Nd.v)) :=
  one_le fracN (by simp only [fracN, Nd.ce]; (repeat (first | exact VsLe.nil _ | refine VsLe.cons (VLe.refl _ _) ?_ | refine VsLe.cons (VLe.nilSl _ _ _) ?_)))
theorem shown_spec (S : List Res) (hT : Tab64 S) (hT' : Tab10 S) (Q : Out → List Res → Prop) (h : Q (.ret (.lit (.bool true))) S) : ACall Tryd.prog 8 [] S Q := by
  refine acall_of_awp Tryd.func8 rfl (by simp [go_sem]) (awp_sound pl0 _ (by kernel_rfl) _ _ ?_)
  simp [go_sem, iV]
  refine .refl (char_spec 97 _ _ ?_)
  simp [go_sem, iV]
  refine .refl (char_spec 98 _ _ ?_)
  simp [go_sem, iV]
  refine .refl (char_spec 123 _ _ ?_)
  simp [go_sem, iV]
  refine .refl (char_spec 50 _ _ ?_)
  simp [go_sem, iV]
  intro b hb
  have hT2 : ∀ cs T, Tab64 (.objT b cs T :: S) := fun cs T => by simpa [Tab64, go_sem] using hT
  have hT3 : ∀ cs T, Tab10 (.objT b cs T :: S) := fun cs T => by
    obtain ⟨TT, z, hf⟩ := hT'
    exact ⟨TT, z, by simpa [findRaw] using hf⟩
  refine ⟨_, .cons (shown_le _) (.nil _), text_spec true [shownN] (by decide) _ (hT2 _ _) (hT3 _ _) _ ?_⟩
  rw [shownN_text]
  simp [go_sem, iV, sV]
  refine ⟨_, .cons (frac_le _) (.nil _), text_spec true [fracN] (by decide) _ (hT2 _ _) (hT3 _ _) _ ?_⟩
  rw [fracN_text]
  simp [go_sem, iV, sV]
  refine ⟨_, .cons (shown_le _) (.nil _), count_spec 100 [shownN] (by decide) (by omega) true _ _ ?_⟩
  rw [shownN_cnt]
  simp [go_sem, iV, sV]
  refine ⟨_, .cons (shown_le _) (.nil _), check_spec true [shownN] (by decide) _ (hT2 _ _) _ ?_⟩
  rw [shownN_check]
  simp [go_sem, iV, sV]
  exact done (List.sublist_cons_self _ _) h
end Go.Proofs.YtflpfjeghomepaaDoor
/- The plain laws of layer 21: what joins and what stands inside. -/
set_option maxRecDepth 100000
set_option linter.unusedSimpArgs false
set_option linter.unusedVariables false
set_option pp.maxSteps 3000
set_option pp.deepTerms false
namespace Go.Proofs.YtflpfjeghomepaaDoor
open Go Go.AW Go.Proofs

theorem checkV_zero (l : List Nd) : checkV l = 0 ↔ depL l ≤ 64 ∧ cntL l ≤ 65535 ∧ rightL l = true := by
  unfold checkV
  split
  · constructor
    · intro h; cases h
    · intro h; omega
  · split
    · constructor
      · intro h; cases h
      · intro h; omega
    · split
      · rename_i h1 h2 h3; exact ⟨fun _ => ⟨by omega, by omega, h3⟩, fun _ => rfl⟩
      · rename_i h1 h2 h3; exact ⟨fun h => (by cases h), fun h => absurd h.2.2 h3⟩
theorem checkV_cases (l : List Nd) : checkV l = 0 ∨ checkV l = 5 ∨ checkV l = 7 ∨ checkV l = 8 := by
  unfold checkV; split
  · simp
  · split
    · simp
    · split <;> simp
theorem textV_zero (l : List Nd) : (textV l).2 = 0 ↔ checkV l = 0 ∧ (textL l).length ≤ 65536 := by
  unfold textV
  split
  · rename_i h
    split
    · constructor
      · intro h; cases h
      · intro h; omega
    · exact ⟨fun _ => ⟨h, by omega⟩, fun _ => rfl⟩
  · rename_i h; exact ⟨fun h' => absurd h' h, fun h' => absurd h'.1 h⟩
theorem textV_text {l : List Nd} (h : (textV l).2 = 0) : (textV l).1 = textL l := by
  obtain ⟨h1, h2⟩ := (textV_zero l).1 h
  rw [textV, if_pos h1, if_neg (by omega)]
theorem textV_empty {l : List Nd} (h : (textV l).2 ≠ 0) : (textV l).1 = [] := by
  unfold textV at h ⊢
  split
  · split
    · rfl
    · rename_i h1 h2; rw [if_pos h1, if_neg h2] at h; exact absurd rfl h
  · rfl
/-- 8: too deep. 5: not right. -/
theorem textV_8 {l : List Nd} : (textV l).2 = 8 ↔ 64 < depL l := by
  unfold textV checkV
  by_cases h1 : 64 < depL l
  · simp [h1]
  · by_cases h2 : 65535 < cntL l
    · simp [h1, h2]
    · by_cases h3 : rightL l = true
      · simp only [if_neg h1, if_neg h2, if_pos h3, if_true]
        split <;> simp <;> omega
      · simp [h1, h2, h3]
theorem textV_5 {l : List Nd} : (textV l).2 = 5 ↔ ¬ 64 < depL l ∧ ¬ 65535 < cntL l ∧ rightL l = false := by
  unfold textV checkV
  by_cases h1 : 64 < depL l
  · simp [h1]
  · by_cases h2 : 65535 < cntL l
    · simp [h1, h2]
    · by_cases h3 : rightL l = true
      · simp only [if_neg h1, if_neg h2, if_pos h3, if_true]
        split <;> simp [h3]
      · simp only [Bool.not_eq_true] at h3
        simp [h1, h2, h3]
theorem textV_vals (l : List Nd) : (textV l).2 = 0 ∨ (textV l).2 = 5 ∨ (textV l).2 = 7 ∨ (textV l).2 = 8 := by
  unfold textV
  split
  · split <;> simp
  · rename_i h; rcases checkV_cases l with h' | h' | h' | h'
    · exact absurd h' h
    · simp [h']
    · simp [h']
    · simp [h']
theorem joins_bad {l m : List Nd} (h : (textV (l ++ m)).2 ≠ 0) : (textV l).2 ≠ 0 ∨ (textV m).2 ≠ 0 ∨ (textV (l ++ m)).2 = 7 := by
  have hd := depL_append l m
  have hr := rightL_append l m
  rcases textV_vals (l ++ m) with h' | h' | h' | h'
  · exact absurd h' h
  · by_cases h1 : (textV l).2 = 0
    · by_cases h2 : (textV m).2 = 0
      · have h3 := (textV_5.1 h').2.2
        rw [hr, ((checkV_zero l).1 ((textV_zero l).1 h1).1).2.2, ((checkV_zero m).1 ((textV_zero m).1 h2).1).2.2] at h3
        cases h3
      · exact .inr (.inl h2)
    · exact .inl h1
  · exact .inr (.inr h')
  · have h3 := textV_8.1 h'
    rw [hd] at h3
    have : 64 < depL l ∨ 64 < depL m := by omega
    rcases this with h4 | h4
    · exact .inl (by rw [textV_8.2 h4]; decide)
    · exact .inr (.inl (by rw [textV_8.2 h4]; decide))
theorem joins_good {l m : List Nd} (h : (textV (l ++ m)).2 = 0) : (textV l).2 = 0 ∧ (textV m).2 = 0 ∧ (textV (l ++ m)).1 = (textV l).1 ++ (textV m).1 := by
  have hd := depL_append l m
  have hr := rightL_append l m
  have hc := cntL_append l m
  have hcl := cntL_le l
  have hcm := cntL_le m
  obtain ⟨h1, h2⟩ := (textV_zero _).1 h
  obtain ⟨h3, h4, h5⟩ := (checkV_zero _).1 h1
  rw [hr, Bool.and_eq_true] at h5
  have ht := textL_append l m
  have htl := congrArg List.length ht
  rw [List.length_append] at htl
  have el : (textV l).2 = 0 := (textV_zero l).2 ⟨(checkV_zero l).2 ⟨by omega, by omega, h5.1⟩, by omega⟩
  have em : (textV m).2 = 0 := (textV_zero m).2 ⟨(checkV_zero m).2 ⟨by omega, by omega, h5.2⟩, by omega⟩
  exact ⟨el, em, by rw [textV_text h, textV_text el, textV_text em, ht]⟩

/-! ### Inside -/
def groupN (l : List Nd) : Nd := ⟨1, 0, 0, 0, 0, [l], [], false, false, [], []⟩
def atopN (l : List Nd) : Nd := ⟨2, 0, 0, 0, 0, [l, []], [], false, false, [], []⟩
def subN (l : List Nd) : Nd := ⟨0, 0, 120, 0, 0, [], [], false, true, [], l⟩
theorem group_facts (l : List Nd) : depL [groupN l] = 1 + depL l ∧ cntL [groupN l] = 1 + cntL l ∧ rightL [groupN l] = rightL l ∧ textL [groupN l] = 123 :: textL l ++ [125] := by
  have hd := depL_le l
  refine ⟨?_, ?_, ?_, ?_⟩
  · simp only [groupN, depL, Nd.dep, depP]; simp; omega
  · simp [groupN, cntL, Nd.extra, cntP]
  · simp only [groupN, rightL, Nd.rightB, rightP]
    have : (Nd.mk 1 0 0 0 0 [l] [] false false [] []).selfB = true := rfl
    rw [this]; simp
  · simp [groupN, textL, Nd.txt, limT, nucT, textP, bracesT]
theorem atop_facts (l : List Nd) : depL [atopN l] = 1 + depL l ∧ cntL [atopN l] = 1 + cntL l ∧ rightL [atopN l] = rightL l ∧ textL [atopN l] = 92 :: 97 :: 116 :: 111 :: 112 :: 123 :: textL l ++ [125, 123, 125] := by
  have hd := depL_le l
  refine ⟨?_, ?_, ?_, ?_⟩
  · simp only [atopN, depL, Nd.dep, depP]; simp; omega
  · simp [atopN, cntL, Nd.extra, cntP]
  · simp only [atopN, rightL, Nd.rightB, rightP]
    have : (Nd.mk 2 0 0 0 0 [l, []] [] false false [] []).selfB = true := rfl
    rw [this]; simp
  · simp [atopN, textL, Nd.txt, limT, nucT, textP, bracesT]
theorem sub_facts (l : List Nd) : depL [subN l] = 1 + depL l ∧ cntL [subN l] = 1 + cntL l ∧ rightL [subN l] = rightL l ∧ textL [subN l] = 120 :: 95 :: 123 :: textL l ++ [125] := by
  have hd := depL_le l
  refine ⟨?_, ?_, ?_, ?_⟩
  · simp only [subN, depL, Nd.dep, depP]; simp; omega
  · simp [subN, cntL, Nd.extra, cntP]
  · simp only [subN, rightL, Nd.rightB, rightP]
    have : (Nd.mk 0 0 120 0 0 [] [] false true [] l).selfB = true := by
      simp only [Nd.selfB]
      have h1 : (Nd.mk 0 0 120 0 0 [] [] false true [] l).ownB = true := by
        simp only [Nd.ownB, if_true]
        rw [show runeB 120 = true by kernel_rfl, show classV 120 = 0 by kernel_rfl]; rfl
      have h2 : (Nd.mk 0 0 120 0 0 [] [] false true [] l).leftB = false := rfl
      rw [h1, h2]; rfl
    rw [this]; simp
  · have : quoteL 120 = [120] := by kernel_rfl
    simp [subN, textL, Nd.txt, limT, nucT, textP, bracesT, this]
/-- One that holds a list and a few letters more. -/
structure Holds (l : List Nd) (x : Nd) (a z : List UInt8) : Prop where
  dep : depL [x] = 1 + depL l
  cnt : cntL [x] = 1 + cntL l
  right : rightL [x] = rightL l
  text : textL [x] = a ++ textL l ++ z
theorem groupH (l : List Nd) : Holds l (groupN l) [123] [125] := ⟨(group_facts l).1, (group_facts l).2.1, (group_facts l).2.2.1, (group_facts l).2.2.2⟩
theorem atopH (l : List Nd) : Holds l (atopN l) [92, 97, 116, 111, 112, 123] [125, 123, 125] := ⟨(atop_facts l).1, (atop_facts l).2.1, (atop_facts l).2.2.1, (atop_facts l).2.2.2⟩
theorem subH (l : List Nd) : Holds l (subN l) [120, 95, 123] [125] := ⟨(sub_facts l).1, (sub_facts l).2.1, (sub_facts l).2.2.1, (sub_facts l).2.2.2⟩
theorem Holds.bad {l : List Nd} {x : Nd} {a z : List UInt8} (H : Holds l x a z) (h : (textV l).2 ≠ 0) : (textV [x]).2 ≠ 0 := by
  intro h'
  obtain ⟨h1, h2⟩ := (textV_zero _).1 h'
  obtain ⟨h3, h4, h5⟩ := (checkV_zero _).1 h1
  rw [H.dep] at h3
  rw [H.cnt] at h4
  rw [H.right] at h5
  rw [H.text] at h2
  simp at h2
  exact h ((textV_zero l).2 ⟨(checkV_zero l).2 ⟨by omega, by omega, h5⟩, by omega⟩)
theorem Holds.deep {l : List Nd} {x : Nd} {a z : List UInt8} (H : Holds l x a z) : (textV [x]).2 = 8 ↔ 64 < 1 + depL l := by rw [textV_8, H.dep]
theorem Holds.good {l : List Nd} {x : Nd} {a z : List UInt8} (H : Holds l x a z) (h : (textV l).2 = 0) (h8 : ¬ 64 < 1 + depL l) (h7 : (textV [x]).2 ≠ 7) : (textV [x]).2 = 0 ∧ (textV [x]).1 = a ++ (textV l).1 ++ z := by
  have h0 : (textV [x]).2 = 0 := by
    rcases textV_vals [x] with h' | h' | h' | h'
    · exact h'
    · have := (textV_5.1 h').2.2
      rw [H.right, ((checkV_zero l).1 ((textV_zero l).1 h).1).2.2] at this
      cases this
    · exact absurd h' h7
    · exact absurd (H.deep.1 h') h8
  exact ⟨h0, by rw [textV_text h0, textV_text h, H.text]⟩
end Go.Proofs.YtflpfjeghomepaaDoor
/- ShowJoins, ShowInside: walked. -/
set_option maxRecDepth 100000
set_option linter.unusedSimpArgs false
set_option linter.unusedVariables false
set_option pp.maxSteps 3000
set_option pp.deepTerms false
namespace Go.Proofs.YtflpfjeghomepaaDoor
open Go Go.AW Go.Proofs

theorem bapp (a b : List UInt8) : (⟨a.toArray⟩ ++ ⟨b.toArray⟩ : ByteArray) = ⟨(a ++ b).toArray⟩ := by
  apply ByteArray.ext; simp
theorem baL (a x z : List UInt8) : (⟨a.toArray⟩ ++ ⟨x.toArray⟩ ++ ⟨z.toArray⟩ : ByteArray).toList = a ++ x ++ z := by
  rw [bapp, bapp]; simp
theorem textV_len (l : List Nd) : (textV l).1.length ≤ 65536 := by
  unfold textV
  split
  · split
    · simp
    · simp only; omega
  · simp
theorem joins_spec (f1 f2 : Bool) (l m : List Nd) (hl : sizeL l ≤ 2097152) (hm : sizeL m ≤ 2097152) (S : List Res) (hT : Tab64 S) (hT' : Tab10 S) (Q : Out → List Res → Prop) (h : Q (.ret (.lit (.bool true))) S) :
    ACall Tryd.prog 3 [.sl f1 11 (l.map Nd.v), .sl f2 11 (m.map Nd.v)] S Q := by
  refine acall_of_awp Tryd.func3 rfl (by simp [go_sem]) (awp_sound pl0 _ (by kernel_rfl) _ _ ?_)
  simp [go_sem, iV]
  have hll := len_size l
  have hlm := len_size m
  have happ : l.map Nd.v ++ m.map Nd.v = (l ++ m).map Nd.v := by rw [List.map_append]
  have hsz : sizeL (l ++ m) ≤ 4194304 := by rw [sizeL_append]; omega
  refine .refl (few_spec f1 l (by omega) _ _ fun b1 => ?_)
  simp [go_sem, iV]
  cases b1
  · simp [go_sem, iV]
    exact done (List.Sublist.refl _) h
  simp [go_sem, iV]
  refine .refl (few_spec f2 m (by omega) _ _ fun b2 => ?_)
  simp [go_sem, iV]
  cases b2
  · simp [go_sem, iV]
    exact done (List.Sublist.refl _) h
  simp [go_sem, iV]
  refine ⟨by omega, fun a1 c1 => ⟨by omega, fun a2 c2 => ?_⟩⟩
  have t1 : ∀ (a : Option Addr) c xs, Tab64 (.vec 22 a c 11 xs :: S) := fun a c xs => by simpa [Tab64, findVec] using hT
  have t2 : ∀ (a : Option Addr) c xs, Tab10 (.vec 22 a c 11 xs :: S) := fun a c xs => by
    obtain ⟨TT, z, hf⟩ := hT'
    exact ⟨TT, z, by simpa [findRaw] using hf⟩
  refine .refl (text_spec f1 l (by omega) _ (t1 _ _ _) (t2 _ _ _) _ ?_)
  simp [go_sem, iV]
  refine .refl (text_spec f2 m (by omega) _ (t1 _ _ _) (t2 _ _ _) _ ?_)
  simp [go_sem, iV]
  rw [happ]
  refine .refl (text_spec false (l ++ m) (by omega) _ (t1 _ _ _) (t2 _ _ _) _ ?_)
  simp [go_sem, iV]
  rw [happ]
  refine .refl (count_spec _ (l ++ m) (Nat.le_refl _) (by omega) false _ _ ?_)
  simp [go_sem, iV]
  refine .refl (count_spec _ l (Nat.le_refl _) (by omega) f1 _ _ ?_)
  simp [go_sem, iV]
  refine .refl (count_spec _ m (Nat.le_refl _) (by omega) f2 _ _ ?_)
  simp [go_sem, iV]
  have hcl := cntL_le l
  have hcm := cntL_le m
  rw [w64 (by omega) (by omega), cntL_append]
  simp [go_sem, iV]
  have hbad := @joins_bad l m
  have hgood := @joins_good l m
  refine cCond_i (fun c3 => ?_) (fun c3 => ?_)
  · simp at c3
    simp [go_sem, iV]
    refine .refl (shown_spec _ (t1 _ _ _) (t2 _ _ _) _ ?_)
    simp [go_sem, iV]
    refine cGuard_i (fun d1 => ?_) (fun d1 => ?_)
    · simp [go_sem, iV, d1]
      exact done (List.sublist_cons_self _ _) h
    simp [go_sem, iV, d1]
    simp at d1
    refine cGuard_i (fun d2 => ?_) (fun d2 => ?_)
    · simp [go_sem, iV, d2]
      exact done (List.sublist_cons_self _ _) h
    simp [go_sem, iV, d2]
    simp at d2
    have h7 : (textV (l ++ m)).2 = 7 := by
      rcases hbad c3 with e | e | e
      · exact absurd d1 e
      · exact absurd d2 e
      · exact e
    rw [h7]
    exact done (List.sublist_cons_self _ _) h
  · simp at c3
    simp [go_sem, iV]
    obtain ⟨e1, e2, e3⟩ := hgood c3
    refine .refl (shown_spec _ (t1 _ _ _) (t2 _ _ _) _ ?_)
    simp [go_sem, iV, sV, e1, e2, e3]
    refine ⟨by have := textV_len l; have := textV_len m; omega, ?_⟩
    rw [bapp]
    simp
    exact done (List.sublist_cons_self _ _) h

theorem group_le (S : List Res) (f : Bool) (l : List Nd) : VLe S (.sl true 11 [.agg [iV 1, iV 0, iV 0, iV 0, iV 0, .sl true 1 [.sl f 11 (l.map Nd.v)], .lit (.slice none 0 0), .lit (.bool false), .lit (.bool false), .lit (.slice none 0 0), .lit (.slice none 0 0)]]) (.sl true 11 ([groupN l].map Nd.v)) :=
  one_le (groupN l) (.cons (.refl _ _) (.cons (.refl _ _) (.cons (.refl _ _) (.cons (.refl _ _) (.cons (.refl _ _) (.cons parts1_le (.cons (VLe.nilSl _ _ _) (.cons (.refl _ _) (.cons (.refl _ _) (.cons (VLe.nilSl _ _ _) (.cons (VLe.nilSl _ _ _) (.nil _))))))))))))
theorem atop_le (S : List Res) (f : Bool) (l : List Nd) : VLe S (.sl true 11 [.agg [iV 2, iV 0, iV 0, iV 0, iV 0, .sl true 1 [.sl f 11 (l.map Nd.v), .lit (.slice none 0 0)], .lit (.slice none 0 0), .lit (.bool false), .lit (.bool false), .lit (.slice none 0 0), .lit (.slice none 0 0)]]) (.sl true 11 ([atopN l].map Nd.v)) := by
  refine one_le (atopN l) (.cons (.refl _ _) (.cons (.refl _ _) (.cons (.refl _ _) (.cons (.refl _ _) (.cons (.refl _ _) (.cons ?_ (.cons (VLe.nilSl _ _ _) (.cons (.refl _ _) (.cons (.refl _ _) (.cons (VLe.nilSl _ _ _) (.cons (VLe.nilSl _ _ _) (.nil _))))))))))))
  refine VLe.trans (VLe.sl (ys := [.sl f 11 (l.map Nd.v), .sl true 11 (([] : List Nd).map Nd.v)]) rfl (by simp [V.cells]) (by simp [V.okv, V.one]) (.cons (.refl _ _) (.cons (VLe.nilSl _ _ _) (.nil _)))) parts2_le
theorem sub_le (S : List Res) (f : Bool) (l : List Nd) : VLe S (.sl true 11 [.agg [iV 0, iV 0, iV 120, iV 0, iV 0, .lit (.slice none 0 0), .lit (.slice none 0 0), .lit (.bool false), .lit (.bool true), .lit (.slice none 0 0), .sl f 11 (l.map Nd.v)]]) (.sl true 11 ([subN l].map Nd.v)) :=
  one_le (subN l) (.cons (.refl _ _) (.cons (.refl _ _) (.cons (.refl _ _) (.cons (.refl _ _) (.cons (.refl _ _) (.cons (VLe.nilSl _ _ _) (.cons (VLe.nilSl _ _ _) (.cons (.refl _ _) (.cons (.refl _ _) (.cons (VLe.nilSl _ _ _) (.cons part_le (.nil _))))))))))))

theorem inside_spec (f1 : Bool) (l : List Nd) (hl : sizeL l ≤ 2097152) (S : List Res) (hT : Tab64 S) (hT' : Tab10 S) (Q : Out → List Res → Prop) (h : Q (.ret (.lit (.bool true))) S) :
    ACall Tryd.prog 4 [.sl f1 11 (l.map Nd.v)] S Q := by
  refine acall_of_awp Tryd.func4 rfl (by simp [go_sem]) (awp_sound pl0 _ (by kernel_rfl) _ _ ?_)
  simp [go_sem, iV]
  have hll := len_size l
  refine .refl (few_spec f1 l (by omega) _ _ fun b1 => ?_)
  simp [go_sem, iV]
  cases b1
  · simp [go_sem, iV]
    exact done (List.Sublist.refl _) h
  simp [go_sem, iV]
  refine .refl (text_spec f1 l (by omega) _ hT hT' _ ?_)
  simp [go_sem, iV]
  refine ⟨_, .cons (group_le _ f1 l) (.nil _), text_spec true [groupN l] (by simp [sizeL, groupN, Nd.size, sizeP]; omega) _ hT hT' _ ?_⟩
  simp [go_sem, iV]
  refine ⟨_, .cons (atop_le _ f1 l) (.nil _), text_spec true [atopN l] (by simp [sizeL, atopN, Nd.size, sizeP]; omega) _ hT hT' _ ?_⟩
  simp [go_sem, iV]
  refine ⟨_, .cons (sub_le _ f1 l) (.nil _), text_spec true [subN l] (by simp [sizeL, subN, Nd.size, sizeP]; omega) _ hT hT' _ ?_⟩
  simp [go_sem, iV]
  have hG := groupH l
  have hA := atopH l
  have hU := subH l
  refine cCond_i (fun c3 => ?_) (fun c3 => ?_)
  · simp at c3
    have g1 : ((textV [groupN l]).2 != 0) = true := by simpa using hG.bad c3
    have g2 : ((textV [atopN l]).2 != 0) = true := by simpa using hA.bad c3
    have g3 : ((textV [subN l]).2 != 0) = true := by simpa using hU.bad c3
    simp [go_sem, iV]
    refine .refl (shown_spec _ hT hT' _ ?_)
    simp [go_sem, iV, g1, g2, g3]
    exact done (List.Sublist.refl _) h
  simp at c3
  simp [go_sem, iV]
  cases q1 : ((textV [groupN l]).2 == 8) <;> cases q2 : ((textV [groupN l]).2 == 7) <;> cases q3 : ((textV [atopN l]).2 == 7) <;> cases q4 : ((textV [subN l]).2 == 7)
  all_goals simp [go_sem, iV, q1, q2, q3, q4]
  all_goals refine .refl (shown_spec _ hT hT' _ ?_)
  rotate_left
  all_goals try (simp [go_sem, iV]; exact done (List.Sublist.refl _) h)
  simp at q1 q2 q3 q4
  have h8 : ¬ 64 < 1 + depL l := fun e => q1 (hG.deep.2 e)
  obtain ⟨a1, a2⟩ := hG.good c3 h8 q2
  obtain ⟨b1, b2⟩ := hA.good c3 h8 q3
  obtain ⟨u1, u2⟩ := hU.good c3 h8 q4
  have hlen := textV_len l
  have l1 := baL [123] (textV l).1 [125]
  have l2 := baL [92, 97, 116, 111, 112, 123] (textV l).1 [125, 123, 125]
  have l3 := baL [120, 95, 123] (textV l).1 [125]
  simp [go_sem, iV, sV, a1, b1, u1, a2, b2, u2, l1, l2, l3]
  refine ⟨by omega, by omega, by omega, by omega, by omega, by omega, ?_⟩
  exact done (List.Sublist.refl _) h
end Go.Proofs.YtflpfjeghomepaaDoor
