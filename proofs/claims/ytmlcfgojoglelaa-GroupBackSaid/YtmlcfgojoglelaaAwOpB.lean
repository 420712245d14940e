/- The engine AW, part 6: more rules of single operations. -/
import Derived.Test.YtmlcfgojoglelaaAwOpA
import Derived.Great.FillDense
import Derived.Great.BuildSlice
set_option linter.unusedVariables false
set_option linter.unusedSimpArgs false
namespace Go.AW

section
variable {ro : Option Nat} {P : Program} {o : Oper} {K : St → Prop} {Q : Exit → St → Prop} {st : St}

/-- The operand's value is known whole. -/
theorem Rel.lit {G : Im} {w : World} {a : Act} (hr : Rel G w a st) {x : Operand} {v : Value} (h : st.opnd x = .lit v) : a.eval x = v := by
  have := hr.opnd x
  rw [h] at this
  exact this.lit_inv

theorem AT.nilCheck {x : Operand} {ad : Addr} (hop : o.op = .nilCheck x) (hd : dstOk st.n o.dst) (hx : st.opnd x = .lit (.pointer (some ad)))
    (hk : K (st.put o.dst (.lit (.pointer (some ad))))) : ATake P o K st :=
  AT.pure hd (by rw [hop]; rfl) (fun G w a hr => ⟨_, fun w _ => by simp only [execOp, hop, hr.lit hx]; rfl, .lit _⟩) hk
theorem AT.nilCheck_pe {x : Operand} {cs : List V} (hop : o.op = .nilCheck x) (hd : dstOk st.n o.dst) (hx : st.opnd x = .pe cs)
    (hk : K (st.put o.dst (.pe cs))) : ATake P o K st :=
  AT.pure hd (by rw [hop]; rfl) (fun G w a hr => by
    have h := hr.opnd x
    rw [hx] at h
    cases hv : a.eval x <;> rw [hv] at h <;> cases h
    rename_i b o' us hG hh
    exact ⟨_, fun w _ => by simp only [execOp, hop, hv]; rfl, .pe b o' us hG hh⟩) hk

theorem AT.unNot {t : TypeId} {x : Operand} {b : Bool} (hop : o.op = .unOp .not t x) (hd : dstOk st.n o.dst) (hx : st.opnd x = .lit (.bool b))
    (hk : K (st.put o.dst (.lit (.bool !b)))) : ATake P o K st :=
  AT.pure hd (by rw [hop]; rfl) (fun G w a hr => ⟨_, fun w _ => by simp only [execOp, hop, hr.lit hx, Op.unary]; rfl, .lit _⟩) hk
theorem AT.unNeg {t : TypeId} {x : Operand} {k : IntKind} {n : Int} (hop : o.op = .unOp .neg t x) (hd : dstOk st.n o.dst) (hx : st.opnd x = .lit (.int k n))
    (hk : K (st.put o.dst (.lit (.int k (k.wrap (0 - n)))))) : ATake P o K st :=
  AT.pure hd (by rw [hop]; rfl) (fun G w a hr => ⟨_, fun w _ => by simp only [execOp, hop, hr.lit hx, Op.unary, Op.intArith]; rfl, .lit _⟩) hk

/-- Arithmetic on whole numbers that never panics. -/
def binI (op : BinOp) (k : IntKind) (a b : Int) : Option Value :=
  match op with
  | .add => some (.int k (k.wrap (a + b)))
  | .sub => some (.int k (k.wrap (a - b)))
  | .mul => some (.int k (k.wrap (a * b)))
  | .and => some (.int k (k.wrap (BitVec.ofInt k.bits a &&& BitVec.ofInt k.bits b).toNat))
  | .or => some (.int k (k.wrap (BitVec.ofInt k.bits a ||| BitVec.ofInt k.bits b).toNat))
  | .xor => some (.int k (k.wrap (BitVec.ofInt k.bits a ^^^ BitVec.ofInt k.bits b).toNat))
  | .eql => some (.bool (a == b))
  | .neq => some (.bool (a != b))
  | .lss => some (.bool (decide (a < b)))
  | .leq => some (.bool (decide (a ≤ b)))
  | .gtr => some (.bool (decide (a > b)))
  | .geq => some (.bool (decide (a ≥ b)))
  | _ => none

theorem run_binI {op : BinOp} {t : TypeId} {k : IntKind} {a b : Int} {r : Value} (h : binI op k a b = some r) (w : World) : (binOp op t (.int k a) (.int k b)).run P w = .ok r w := by
  cases op <;> first
    | (simp only [binI, Option.some.injEq] at h; subst h; simp [binOp, Op.intArith, Op.intBits, Op.intCmp]; done)
    | (simp [binI] at h; done)

theorem AT.binI {op : BinOp} {t t' : TypeId} {x y : Operand} {k : IntKind} {a b : Int} {r : Value} (hop : o.op = .binOp op t x y t') (hd : dstOk st.n o.dst)
    (hx : st.opnd x = .lit (.int k a)) (hy : st.opnd y = .lit (.int k b)) (hr : binI op k a b = some r) (hk : K (st.put o.dst (.lit r))) : ATake P o K st :=
  AT.pure hd (by rw [hop]; rfl) (fun G w a' hr' => ⟨r, fun w _ => by
    simp only [execOp, hop, hr'.lit hx, hr'.lit hy, eqGuard_at_int]
    simp [run_binI hr], .lit _⟩) hk

theorem AT.quo {t t' : TypeId} {x y : Operand} {k : IntKind} {a b : Int} (hop : o.op = .binOp .quo t x y t') (hd : dstOk st.n o.dst)
    (hx : st.opnd x = .lit (.int k a)) (hy : st.opnd y = .lit (.int k b)) (hb : b ≠ 0) (hk : K (st.put o.dst (.lit (.int k (k.wrap (a.tdiv b)))))) : ATake P o K st :=
  AT.pure hd (by rw [hop]; rfl) (fun G w a' hr' => ⟨_, fun w _ => by
    simp only [execOp, hop, hr'.lit hx, hr'.lit hy, eqGuard_at_int]
    simp [binOp, Op.intDiv, hb], .lit _⟩) hk
theorem AT.rem {t t' : TypeId} {x y : Operand} {k : IntKind} {a b : Int} (hop : o.op = .binOp .rem t x y t') (hd : dstOk st.n o.dst)
    (hx : st.opnd x = .lit (.int k a)) (hy : st.opnd y = .lit (.int k b)) (hb : b ≠ 0) (hk : K (st.put o.dst (.lit (.int k (a.tmod b))))) : ATake P o K st :=
  AT.pure hd (by rw [hop]; rfl) (fun G w a' hr' => ⟨_, fun w _ => by
    simp only [execOp, hop, hr'.lit hx, hr'.lit hy, eqGuard_at_int]
    simp [binOp, Op.intDiv, hb], .lit _⟩) hk
theorem AT.shl {t t' : TypeId} {x y : Operand} {k k' : IntKind} {a b : Int} (hop : o.op = .binOp .shl t x y t') (hd : dstOk st.n o.dst)
    (hx : st.opnd x = .lit (.int k a)) (hy : st.opnd y = .lit (.int k' b)) (hb : 0 ≤ b) (hk : K (st.put o.dst (.lit (.int k (k.wrap (a * 2 ^ min b.toNat k.bits)))))) : ATake P o K st :=
  AT.pure hd (by rw [hop]; rfl) (fun G w a' hr' => ⟨_, fun w _ => by
    simp only [execOp, hop, hr'.lit hx, hr'.lit hy, eqGuard_at_int]
    simp [binOp, Op.shift, show ¬ b < 0 by omega], .lit _⟩) hk
theorem AT.shr {t t' : TypeId} {x y : Operand} {k k' : IntKind} {a b : Int} (hop : o.op = .binOp .shr t x y t') (hd : dstOk st.n o.dst)
    (hx : st.opnd x = .lit (.int k a)) (hy : st.opnd y = .lit (.int k' b)) (hb : 0 ≤ b) (hk : K (st.put o.dst (.lit (.int k (a.fdiv (2 ^ min b.toNat k.bits)))))) : ATake P o K st :=
  AT.pure hd (by rw [hop]; rfl) (fun G w a' hr' => ⟨_, fun w _ => by
    simp only [execOp, hop, hr'.lit hx, hr'.lit hy, eqGuard_at_int]
    simp [binOp, Op.shift, show ¬ b < 0 by omega], .lit _⟩) hk

/-- Strings. -/
def binS (op : BinOp) (x y : ByteArray) : Option Value :=
  match op with
  | .eql => some (.bool (x.toList == y.toList))
  | .neq => some (.bool !(x.toList == y.toList))
  | .lss => some (.bool (Op.bytesLess x.toList y.toList))
  | .leq => some (.bool (Op.bytesLess x.toList y.toList || (x.toList == y.toList)))
  | .gtr => some (.bool !(Op.bytesLess x.toList y.toList || (x.toList == y.toList)))
  | .geq => some (.bool !(Op.bytesLess x.toList y.toList))
  | _ => none
theorem AT.binS {op : BinOp} {t t' : TypeId} {x y : Operand} {a b : ByteArray} {r : Value} (hop : o.op = .binOp op t x y t') (hd : dstOk st.n o.dst)
    (hx : st.opnd x = .lit (.string a)) (hy : st.opnd y = .lit (.string b)) (hr : binS op a b = some r) (hk : K (st.put o.dst (.lit r))) : ATake P o K st :=
  AT.pure hd (by rw [hop]; rfl) (fun G w a' hr' => ⟨r, fun w _ => by
    simp only [execOp, hop, hr'.lit hx, hr'.lit hy, eqGuard_at_string]
    cases op <;> first
      | (simp only [AW.binS, Option.some.injEq] at hr; subst hr; simp [binOp, Op.stringOp]; done)
      | (simp [AW.binS] at hr; done), .lit _⟩) hk
theorem AT.cat {t t' : TypeId} {x y : Operand} {a b : ByteArray} (hop : o.op = .binOp .add t x y t') (hd : dstOk st.n o.dst)
    (hx : st.opnd x = .lit (.string a)) (hy : st.opnd y = .lit (.string b)) (hl : a.size + b.size ≤ 9223372036854775807) (hk : K (st.put o.dst (.lit (.string (a ++ b))))) : ATake P o K st :=
  AT.pure hd (by rw [hop]; rfl) (fun G w a' hr' => ⟨_, fun w _ => by
    simp only [execOp, hop, hr'.lit hx, hr'.lit hy, eqGuard_at_string]
    have : ¬ ((a.size : Int) + (b.size : Int)) > IntKind.i64.max := by rw [IntKind.max_i64]; omega
    simp [binOp, Op.stringOp, this]
    omega, .lit _⟩) hk

/-- Bools. -/
theorem run_equal_bool {t : TypeId} (ht : P.underlying t = some .bool) (a b : Bool) (w : World) : (Op.equal t (.bool a) (.bool b)).run P w = .ok (a == b) w := by
  show (Op.equalIn (9999 + 1) t _ _).run P w = _
  rw [Op.equalIn, Sem.run_bind, run_und ht]
  rfl
theorem AT.eqlB {t t' : TypeId} {x y : Operand} {a b : Bool} (hop : o.op = .binOp .eql t x y t') (hd : dstOk st.n o.dst) (ht : P.underlying t = some .bool)
    (hx : st.opnd x = .lit (.bool a)) (hy : st.opnd y = .lit (.bool b)) (hk : K (st.put o.dst (.lit (.bool (a == b))))) : ATake P o K st :=
  AT.pure hd (by rw [hop]; rfl) (fun G w a' hr' => ⟨_, fun w _ => by
    simp only [execOp, hop, hr'.lit hx, hr'.lit hy, eqGuard_at_bool]
    simp [binOp, run_equal_bool ht], .lit _⟩) hk
theorem AT.neqB {t t' : TypeId} {x y : Operand} {a b : Bool} (hop : o.op = .binOp .neq t x y t') (hd : dstOk st.n o.dst) (ht : P.underlying t = some .bool)
    (hx : st.opnd x = .lit (.bool a)) (hy : st.opnd y = .lit (.bool b)) (hk : K (st.put o.dst (.lit (.bool (a != b))))) : ATake P o K st :=
  AT.pure hd (by rw [hop]; rfl) (fun G w a' hr' => ⟨_, fun w _ => by
    simp only [execOp, hop, hr'.lit hx, hr'.lit hy, eqGuard_at_bool]
    simp [binOp, run_equal_bool ht, bne], .lit _⟩) hk

theorem AT.convI {s d : TypeId} {x : Operand} {k k' : IntKind} {n : Int} (hop : o.op = .convert s d x) (hd : dstOk st.n o.dst) {ds : TypeDesc} (hs : P.underlying s = some ds) (hdd : P.underlying d = some (.int k))
    (hx : st.opnd x = .lit (.int k' n)) (hk : K (st.put o.dst (.lit (.int k (k.wrap n))))) : ATake P o K st :=
  AT.pure hd (by rw [hop]; rfl) (fun G w a' hr' => ⟨_, fun w _ => by
    simp only [execOp, hop, hr'.lit hx]
    simp [convert, run_und hs, run_und hdd, Conv.intToInt], .lit _⟩) hk
theorem AT.convS {s d : TypeId} {x : Operand} {v : ByteArray} (hop : o.op = .convert s d x) (hd : dstOk st.n o.dst) {ds : TypeDesc} (hs : P.underlying s = some ds) (hdd : P.underlying d = some .string)
    (hx : st.opnd x = .lit (.string v)) (hk : K (st.put o.dst (.lit (.string v)))) : ATake P o K st :=
  AT.pure hd (by rw [hop]; rfl) (fun G w a' hr' => ⟨_, fun w _ => by
    simp only [execOp, hop, hr'.lit hx]
    simp [convert, run_und hs, run_und hdd], .lit _⟩) hk

/-! #### Values of several parts -/

theorem AT.extract {x : Operand} {ix : Nat} {vs : List V} {v : V} (hop : o.op = .extract x ix) (hd : dstOk st.n o.dst) (hx : st.opnd x = .tuple vs) (hv : vs[ix]? = some v)
    (hk : K (st.put o.dst v)) : ATake P o K st :=
  AT.pure hd (by rw [hop]; rfl) (fun G w a hr => by
    have h := hr.opnd x
    rw [hx] at h
    obtain ⟨xs, hxs, hrel⟩ := h.tuple_inv
    obtain ⟨y, hy, hvy⟩ := hrel.get hv
    exact ⟨y, fun w _ => by simp only [execOp, hop, hxs, Instr.extract]; simp [hy], hvy⟩) hk

theorem VRels.sub {G : Im} {cs : List V} {us : List Value} (h : VRels G cs us) (a n : Nat) : VRels G ((cs.drop a).take n) ((us.drop a).take n) := by
  refine ⟨by simp [h.1], fun i v y hv hy => ?_⟩
  rw [List.getElem?_take] at hv hy
  split at hv
  · rename_i hlt; rw [if_pos hlt] at hy
    rw [List.getElem?_drop] at hv hy
    exact h.2 _ v y hv hy
  · cases hv
theorem VRels.drop {G : Im} {cs : List V} {us : List Value} (h : VRels G cs us) (a : Nat) : VRels G (cs.drop a) (us.drop a) := by
  refine ⟨by simp [h.1], fun i v y hv hy => ?_⟩
  rw [List.getElem?_drop] at hv hy
  exact h.2 _ v y hv hy

/-- A part of a struct's cells, from a place on. -/
theorem part_run {G : Im} {t : TypeId} {cs : List V} {us : List Value} (h : VRels G cs us) (off : Nat) {v : V} (hv : readAs P t (cs.drop off) = some v) (hl : ∀ n, szA P t = some n → aggA P t = some true → n ≤ (cs.drop off).length) :
    ∃ x, (∀ w, (part t us.toArray off).run P w = .ok x w) ∧ VRel G v x := by
  unfold readAs at hv
  split at hv
  · rename_i n ha hs
    split at hv
    · rename_i hn
      simp at hv; subst hv
      refine ⟨.agg ((us.drop off).take n).toArray, fun w => ?_, VRel.agg' (h.sub off n)⟩
      simp only [part, Sem.run_bind, run_agg ha, Result.andThen_ok, if_true, run_size hs]
      simp [List.extract_eq_take_drop]
    · cases hv
  · rename_i ha
    have hd := h.drop off
    cases hc : cs.drop off with
    | nil => rw [hc] at hv; simp at hv
    | cons c cs' =>
      rw [hc] at hv hd; simp at hv; subst hv
      obtain ⟨u, us', hu, hrel, _⟩ := hd.cons_inv
      refine ⟨u, fun w => ?_, hrel⟩
      have : us[off]? = some u := by
        have := congrArg (·[0]?) hu
        simpa using this
      simp only [part, Sem.run_bind, run_agg ha, Result.andThen_ok, Bool.false_eq_true, if_false]
      simp [this]
  · cases hv

theorem AT.field {xT : TypeId} {x : Operand} {f : Nat} {fs : Array Field} {fl : Field} {cs : List V} {v : V} (hop : o.op = .field xT x f) (hd : dstOk st.n o.dst) (hu : P.underlying xT = some (.struct fs)) (hf : fs[f]? = some fl)
    (hx : st.opnd x = .agg cs) (hv : readAs P fl.type (cs.drop fl.offset) = some v) (hk : K (st.put o.dst v)) : ATake P o K st :=
  AT.pure hd (by rw [hop]; rfl) (fun G w a hr => by
    have h := hr.opnd x
    rw [hx] at h
    obtain ⟨us, hus, hrel⟩ := h.agg_inv
    obtain ⟨y, hy, hvy⟩ := part_run (P := P) hrel fl.offset hv (fun n hs ha => by
      unfold readAs at hv; rw [hs, ha] at hv; simp only at hv; split at hv; assumption; cases hv)
    exact ⟨y, fun w _ => by simp only [execOp, hop, hus, Instr.field, Sem.run_bind, run_und hu, Result.andThen_ok, hf, asAgg, Sem.run_pure, hy], hvy⟩) hk

theorem Addr.add_eq (b o n : Nat) : (⟨b, o, none⟩ : Addr).add n = ⟨b, o + n, none⟩ := by unfold Addr.add; split <;> simp_all

/-- The address of a field: of an own block, or among cells that never change. -/
def ptrAdd (p : V) (n : Nat) : Option V :=
  match p with
  | .lit (.pointer (some ⟨b, o, none⟩)) => some (.lit (.pointer (some ⟨b, o + n, none⟩)))
  | .pe cs => some (.pe (cs.drop n))
  | _ => none

theorem ptrAdd_run {G : Im} {p q : V} {n : Nat} (h : ptrAdd p n = some q) {x : Value} (hx : VRel G p x) : ∃ ad : Addr, x = .pointer (some ad) ∧ VRel G q (.pointer (some (ad.add n))) := by
  cases p with
  | lit v =>
    have hv := hx.lit_inv; subst hv
    simp only [ptrAdd] at h
    split at h
    · rename_i b o heq
      cases heq
      simp at h; subst h
      exact ⟨_, rfl, by rw [Addr.add_eq]; exact .lit _⟩
    · rename_i heq; cases heq
    · cases h
  | pe cs =>
    simp [ptrAdd] at h; subst h
    cases hx with
    | pe b o us hG hh =>
      refine ⟨_, rfl, ?_⟩
      rw [Addr.add_eq]
      refine .pe b (o + n) (fun i => us (n + i)) (fun i hi => ?_) (fun i c hc => ?_)
      · have := hG (n + i) (by simp at hi; omega)
        rw [show o + n + i = o + (n + i) by omega]; exact this
      · exact hh _ _ (by simpa using hc)
  | _ => simp [ptrAdd] at h

theorem AT.fieldAddr {s : TypeId} {x : Operand} {f : Nat} {fs : Array Field} {fl : Field} {n : Nat} {q : V} (hop : o.op = .fieldAddr s x f) (hd : dstOk st.n o.dst) (hu : P.underlying s = some (.struct fs)) (hf : fs[f]? = some fl)
    (hs : szA P fl.type = some n) (hn : n ≠ 0) (hq : ptrAdd (st.opnd x) fl.offset = some q) (hk : K (st.put o.dst q)) : ATake P o K st :=
  AT.pure hd (by rw [hop]; rfl) (fun G w a hr => by
    obtain ⟨ad, hx, hv⟩ := ptrAdd_run hq (hr.opnd x)
    exact ⟨_, fun w _ => by simp only [execOp, hop, hx, Instr.fieldAt, Sem.run_bind, run_und hu, Result.andThen_ok, hf, Instr.sureAddr, Sem.run_pure, fieldPlace, run_size hs, hn, if_false], hv⟩) hk

/-- What a slice holds. -/
theorem VRel.sl_at {G : Im} {full : Bool} {sz : Nat} {xs : List V} {x : Value} (h : VRel G (.sl full sz xs) x) {i : Nat} {v : V} (hi : xs[i]? = some v) :
    ∃ b o cap, x = .slice (some ⟨b, o, none⟩) xs.length cap ∧ v.cells.length = sz ∧ VRel G (.pe v.cells) (.pointer (some ⟨b, o + i * sz, none⟩)) := by
  cases h with
  | sl b o us ha hsz hok hcap hfull hG hh =>
    rename_i ad cap
    have hne : xs ≠ [] := by intro e; subst e; simp at hi
    have hv : v ∈ xs := List.mem_iff_getElem?.2 ⟨i, hi⟩
    refine ⟨b, o, cap, by rw [ha hne], hsz v hv, ?_⟩
    have flat : ∀ (xs : List V), (∀ x ∈ xs, x.cells.length = sz) → ∀ i v, xs[i]? = some v → ∀ j, j < v.cells.length → (xs.flatMap V.cells)[i * sz + j]? = v.cells[j]? ∧ i * sz + j < (xs.flatMap V.cells).length := by
      intro xs
      induction xs with
      | nil => intro _ i v hi; simp at hi
      | cons x xs ih =>
        intro hs i v hi j hj
        have hx := hs x List.mem_cons_self
        cases i with
        | zero =>
          simp at hi; subst hi
          simp only [List.flatMap_cons, Nat.zero_mul, Nat.zero_add]
          exact ⟨List.getElem?_append_left hj, by simp; omega⟩
        | succ i =>
          simp at hi
          obtain ⟨h1, h2⟩ := ih (fun y hy => hs y (List.mem_cons_of_mem _ hy)) i v hi j hj
          simp only [List.flatMap_cons]
          have e : (i + 1) * sz + j = x.cells.length + (i * sz + j) := by rw [hx, Nat.succ_mul]; omega
          rw [e, List.getElem?_append_right (by omega)]
          simp only [Nat.add_sub_cancel_left]
          exact ⟨h1, by simp at h2 ⊢; omega⟩
    refine .pe b (o + i * sz) (fun j => us (i * sz + j)) (fun j hj => ?_) (fun j c hc => ?_)
    · rw [Nat.add_assoc]; exact hG _ (flat xs hsz i v hi j hj).2
    · have hj := (List.getElem?_eq_some_iff.1 hc).1
      exact hh _ _ (by rw [(flat xs hsz i v hi j hj).1]; exact hc)

theorem AT.indexSl {t e : TypeId} {x ix : Operand} {k : IntKind} {i : Int} {full : Bool} {sz : Nat} {xs : List V} (hop : o.op = .indexAddr t x ix) (hd : dstOk st.n o.dst)
    (hu : P.underlying t = some (.slice e)) (hx : VLe st.S (st.opnd x) (.sl full sz xs)) (hi : st.opnd ix = .lit (.int k i)) (hs : szA P e = some sz) (h0 : 0 ≤ i) (h1 : i < xs.length)
    (hk : ∀ v, xs[i.toNat]? = some v → K (st.put o.dst (.pe v.cells))) : ATake P o K st := by
  obtain ⟨v, hv⟩ : ∃ v, xs[i.toNat]? = some v := ⟨xs[i.toNat]'(by omega), by simp⟩
  refine AT.pure hd (by rw [hop]; rfl) (fun G w a hr => ?_) (hk v hv)
  have h := hx G w _ hr.inv (hr.opnd x)
  obtain ⟨b, o', cap, hax, _, hpe⟩ := h.sl_at hv
  refine ⟨_, fun w _ => ?_, hpe⟩
  simp only [execOp, hop, Instr.indexAt, hr.lit hi, hax, asIntOf, Sem.run_bind, Sem.run_pure, Result.andThen_ok, run_und hu]
  simp [h0, h1, run_size hs, Addr.add_eq, run_und hu]

theorem AT.indexStr {t : TypeId} {x ix : Operand} {k : IntKind} {i : Int} {s : ByteArray} (hop : o.op = .index t x ix) (hd : dstOk st.n o.dst)
    (hu : P.underlying t = some .string) (hx : st.opnd x = .lit (.string s)) (hi : st.opnd ix = .lit (.int k i)) (h0 : 0 ≤ i) (h1 : i < s.size)
    (hk : ∀ c : UInt8, s[i.toNat]? = some c → K (st.put o.dst (.lit (.int .u8 c.toNat)))) : ATake P o K st := by
  have hlt : i.toNat < s.size := by omega
  refine AT.pure hd (by rw [hop]; rfl) (fun G w a hr => ⟨.int .u8 (s[i.toNat]).toNat, fun w _ => ?_, .lit _⟩) (hk s[i.toNat] (by simp [hlt]))
  simp only [execOp, hop, Instr.index, hr.lit hi, hr.lit hx, asIntOf, Sem.run_bind, Sem.run_pure, Result.andThen_ok, run_und hu]
  simp [h0, hlt]

/-! #### len -/

theorem AT.lenSl {c : Call} {x : Operand} {t e : TypeId} {full : Bool} {sz : Nat} {xs : List V} (hop : o.op = .call c) (hc : c = ⟨.builtin .len, #[x], #[t]⟩) (hd : dstOk st.n o.dst)
    (hu : P.underlying t = some (.slice e)) (hx : st.opnd x = .sl full sz xs) (hk : K (st.put o.dst (.lit (.int .i64 xs.length)))) : ATake P o K st :=
  AT.pure hd (by rw [hop]; rfl) (fun G w a hr => by
    have h := hr.opnd x
    rw [hx] at h
    obtain ⟨ad, cap, hv⟩ : ∃ ad cap, a.eval x = .slice ad xs.length cap := by
      cases hv : a.eval x <;> rw [hv] at h <;> cases h
      exact ⟨_, _, rfl⟩
    refine ⟨_, fun w _ => ?_, .lit _⟩
    subst hc
    simp only [execOp, hop]
    simp [resolve, invoke, builtin, Builtin.len_, hv, run_und hu, goInt]) hk
theorem AT.lenLit {c : Call} {x : Operand} {t e : TypeId} {ad : Option Addr} {n cap : Nat} (hop : o.op = .call c) (hc : c = ⟨.builtin .len, #[x], #[t]⟩) (hd : dstOk st.n o.dst)
    (hu : P.underlying t = some (.slice e)) (hx : st.opnd x = .lit (.slice ad n cap)) (hk : K (st.put o.dst (.lit (.int .i64 n)))) : ATake P o K st :=
  AT.pure hd (by rw [hop]; rfl) (fun G w a hr => by
    refine ⟨_, fun w _ => ?_, .lit _⟩
    subst hc
    simp only [execOp, hop]
    simp [resolve, invoke, builtin, Builtin.len_, hr.lit hx, run_und hu, goInt]) hk
theorem AT.lenStr {c : Call} {x : Operand} {t : TypeId} {s : ByteArray} (hop : o.op = .call c) (hc : c = ⟨.builtin .len, #[x], #[t]⟩) (hd : dstOk st.n o.dst)
    (hu : P.underlying t = some .string) (hx : st.opnd x = .lit (.string s)) (hk : K (st.put o.dst (.lit (.int .i64 s.size)))) : ATake P o K st :=
  AT.pure hd (by rw [hop]; rfl) (fun G w a hr => by
    refine ⟨_, fun w _ => ?_, .lit _⟩
    subst hc
    simp only [execOp, hop]
    simp [resolve, invoke, builtin, Builtin.len_, hr.lit hx, run_und hu, goInt]) hk

end
end Go.AW
