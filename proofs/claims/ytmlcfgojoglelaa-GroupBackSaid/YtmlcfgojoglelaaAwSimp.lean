/- The engine AW, part 14: what simp is told. -/
import Derived.Test.YtmlcfgojoglelaaAwRange
import Derived.Laws.BitsLemmas
set_option linter.unusedVariables false
set_option linter.unusedSimpArgs false
namespace Go.AW

section
variable {pl : Nat → DPlan} {ro : Option Nat} {P : Program} {K : St → Prop} {Q : Exit → St → Prop} {ops : Array Oper} {rest : List Oper} {n : Nat} {env : List (Nat × V)} {S : List Res} {ds : List Deferred}
  {d : Nat} {op : Op} {ty : TypeId} {pos : String} {after : Array Edge} {g : Option (Nat × Bool)}

@[go_sem] theorem awp_skip : awp pl ro P .skip Q ⟨n, env, S, ds⟩ = Q .normal ⟨n, env, S, ds⟩ := rfl
@[go_sem] theorem awp_label {l : Nat} : awp pl ro P (.label l) Q ⟨n, env, S, ds⟩ = Q .normal ⟨n, env, S, ds⟩ := rfl
@[go_sem] theorem awp_exit {id : Nat} : awp pl ro P (.exit id) Q ⟨n, env, S, ds⟩ = Q (.exit id) ⟨n, env, S, ds⟩ := rfl
@[go_sem] theorem awp_goto {l : Nat} : awp pl ro P (.goto l) Q ⟨n, env, S, ds⟩ = Q (.goto l) ⟨n, env, S, ds⟩ := rfl
@[go_sem] theorem awp_ret : awp pl ro P .ret Q ⟨n, env, S, ds⟩ = Q .ret ⟨n, env, S, ds⟩ := rfl
@[go_sem] theorem awp_seq {x y : Code} : awp pl ro P (.seq x y) Q ⟨n, env, S, ds⟩ = awp pl ro P x (thenQ (awp pl ro P y Q) Q) ⟨n, env, S, ds⟩ := rfl
def cCond (pl : Nat → DPlan) (ro : Option Nat) (P : Program) (Q : Exit → St → Prop) (x y : Code) (st : St) (v : V) : Prop := aCond v (awp pl ro P x Q st) (awp pl ro P y Q st)
@[go_sem] theorem awp_cond {c : Operand} {x y : Code} : awp pl ro P (.cond c x y) Q ⟨n, env, S, ds⟩ = cCond pl ro P Q x y ⟨n, env, S, ds⟩ (St.opnd ⟨n, env, S, ds⟩ c) := rfl
@[go_sem] theorem cCond_t {x y : Code} {st : St} : cCond pl ro P Q x y st (.lit (.bool true)) = awp pl ro P x Q st := rfl
@[go_sem] theorem cCond_f {x y : Code} {st : St} : cCond pl ro P Q x y st (.lit (.bool false)) = awp pl ro P y Q st := rfl
theorem cCond_i {x y : Code} {st : St} {b : Bool} (h1 : b = true → awp pl ro P x Q st) (h2 : b = false → awp pl ro P y Q st) : cCond pl ro P Q x y st (.lit (.bool b)) := by cases b; exact h2 rfl; exact h1 rfl
@[go_sem] theorem awp_block {id : Nat} {c : Code} : awp pl ro P (.block id c) Q ⟨n, env, S, ds⟩ = awp pl ro P c (blockQ id Q) ⟨n, env, S, ds⟩ := rfl
@[go_sem] theorem awp_region {id : Nat} {l : List Oper} : awp pl ro P (.region id l.toArray false) Q ⟨n, env, S, ds⟩ = aops ro P l.toArray Q l ⟨n, env, S, ds⟩ := rfl
@[go_sem] theorem awp_loop {c : Code} : awp pl ro P (.loop c) Q ⟨n, env, S, ds⟩ = AWP ro P (.loop c) Q ⟨n, env, S, ds⟩ := rfl
@[go_sem] theorem awp_rangeFunc {f : Operand} {ps : Array Tmp} {x y : Code} : awp pl ro P (.rangeFunc f ps x y) Q ⟨n, env, S, ds⟩ = AWP ro P (.rangeFunc f ps x y) Q ⟨n, env, S, ds⟩ := rfl
@[go_sem] theorem awp_draw {id : Nat} {l : Array Oper} : awp pl ro P (.region id l true) Q ⟨n, env, S, ds⟩ = adr ro P l Q (pl id) ⟨n, env, S, ds⟩ := rfl
@[go_sem] theorem thenQ_normal {st : St} : thenQ K Q .normal st = K st := rfl
@[go_sem] theorem thenQ_exit {id : Nat} {st : St} : thenQ K Q (.exit id) st = Q (.exit id) st := rfl
@[go_sem] theorem thenQ_goto {l : Nat} {st : St} : thenQ K Q (.goto l) st = Q (.goto l) st := rfl
@[go_sem] theorem thenQ_ret {st : St} : thenQ K Q .ret st = Q .ret st := rfl
@[go_sem] theorem thenQ_panic {c : List PanicEntry} {st : St} : thenQ K Q (.panic c) st = Q (.panic c) st := rfl
@[go_sem] theorem blockQ_normal {id : Nat} {st : St} : blockQ id Q .normal st = Q .normal st := rfl
@[go_sem] theorem blockQ_exit {id id' : Nat} {st : St} : blockQ id Q (.exit id') st = if id' = id then Q .normal st else Q (.exit id') st := rfl
@[go_sem] theorem blockQ_goto {id l : Nat} {st : St} : blockQ id Q (.goto l) st = Q (.goto l) st := rfl
@[go_sem] theorem blockQ_ret {id : Nat} {st : St} : blockQ id Q .ret st = Q .ret st := rfl
@[go_sem] theorem blockQ_panic {id : Nat} {c : List PanicEntry} {st : St} : blockQ id Q (.panic c) st = Q (.panic c) st := rfl
section
variable {ι : Type} {ok : ι → Prop} {μ : ι → Nat} {inv : ι → St} {m : Nat} {st : St}
@[go_sem] theorem roundQ_exit {id : Nat} : roundQ ok μ inv m Q (.exit id) st = Q (.exit id) st := rfl
@[go_sem] theorem roundQ_goto {l : Nat} : roundQ ok μ inv m Q (.goto l) st = Q (.goto l) st := rfl
@[go_sem] theorem roundQ_ret : roundQ ok μ inv m Q .ret st = Q .ret st := rfl
@[go_sem] theorem roundQ_panic {c : List PanicEntry} : roundQ ok μ inv m Q (.panic c) st = Q (.panic c) st := rfl
theorem round {st : St} (j : ι) (hok : ok j) (hm : μ j < m) (h : StLe st (inv j)) : roundQ ok μ inv m Q .normal st := ⟨j, hok, hm, h⟩
end
section
variable {fn : Func} {R : Out → List Res → Prop} {st : St} {v : V} {x : Value}
@[go_sem] theorem retQ_normal : retQ P fn R .normal ⟨n, env, S, ds⟩ = (ds = [] ∧ optDone P fn ⟨n, env, S, ds⟩ R (resOf P fn ⟨n, env, S, ds⟩)) := rfl
@[go_sem] theorem retQ_ret : retQ P fn R .ret ⟨n, env, S, ds⟩ = (ds = [] ∧ optDone P fn ⟨n, env, S, ds⟩ R (resOf P fn ⟨n, env, S, ds⟩)) := rfl
@[go_sem] theorem retQ_panic : retQ P fn R (.panic [⟨x, false, false⟩]) ⟨n, env, S, ds⟩ = (ds = [] ∧ DoneP S x R) := by simp [retQ]
@[go_sem] theorem optDone_some : optDone P fn ⟨n, env, S, ds⟩ R (some v) = Done S (fz S v) R := rfl
@[go_sem] theorem callQ_ret {dst : Option Tmp} {S' : List Res} : callQ K Q ⟨n, env, S, ds⟩ dst (.ret v) S' = K (St.put ⟨n, env, S', ds⟩ dst v) := rfl
@[go_sem] theorem callQ_panic {dst : Option Tmp} {S' : List Res} : callQ K Q ⟨n, env, S, ds⟩ dst (.panic x) S' = Q (.panic [⟨x, false, false⟩]) ⟨n, env, S', ds⟩ := rfl
end

@[go_sem] theorem aops_nil : aops ro P ops Q [] ⟨n, env, S, ds⟩ = Q .normal ⟨n, env, S, ds⟩ := rfl
@[go_sem] theorem aops_cons {dst : Option Tmp} : aops ro P ops Q (⟨dst, op, ty, pos, after, none⟩ :: rest) ⟨n, env, S, ds⟩ = aop ro P ⟨dst, op, ty, pos, after, none⟩ (aops ro P ops Q rest) Q ⟨n, env, S, ds⟩ := rfl
def cGuard (ro : Option Nat) (P : Program) (ops : Array Oper) (Q : Exit → St → Prop) (o : Oper) (rest : List Oper) (want : Bool) (st : St) (v : V) : Prop :=
  aGuard v want (aop ro P o (aops ro P ops Q rest) Q st) (dstOk st.n o.dst ∧ aops ro P ops Q rest (st.put o.dst (.lit undef)))
@[go_sem] theorem aops_guard {dst : Option Tmp} {j : Nat} {want : Bool} : aops ro P ops Q (⟨dst, op, ty, pos, after, some (j, want)⟩ :: rest) ⟨n, env, S, ds⟩ =
    aOpt ((ops[j]?).bind (·.dst)) fun d => cGuard ro P ops Q ⟨dst, op, ty, pos, after, some (j, want)⟩ rest want ⟨n, env, S, ds⟩ (AW.get env d) := rfl
section
variable {o : Oper} {want : Bool}
@[go_sem] theorem cGuard_tt : cGuard ro P ops Q o rest true ⟨n, env, S, ds⟩ (.lit (.bool true)) = aop ro P o (aops ro P ops Q rest) Q ⟨n, env, S, ds⟩ := rfl
@[go_sem] theorem cGuard_ff : cGuard ro P ops Q o rest false ⟨n, env, S, ds⟩ (.lit (.bool false)) = aop ro P o (aops ro P ops Q rest) Q ⟨n, env, S, ds⟩ := rfl
@[go_sem] theorem cGuard_tf : cGuard ro P ops Q o rest false ⟨n, env, S, ds⟩ (.lit (.bool true)) = (dstOk n o.dst ∧ aops ro P ops Q rest (St.put ⟨n, env, S, ds⟩ o.dst (.lit undef))) := rfl
@[go_sem] theorem cGuard_ft : cGuard ro P ops Q o rest true ⟨n, env, S, ds⟩ (.lit (.bool false)) = (dstOk n o.dst ∧ aops ro P ops Q rest (St.put ⟨n, env, S, ds⟩ o.dst (.lit undef))) := rfl
@[go_sem] theorem cGuard_undef : cGuard ro P ops Q o rest want ⟨n, env, S, ds⟩ (.lit undef) = (dstOk n o.dst ∧ aops ro P ops Q rest (St.put ⟨n, env, S, ds⟩ o.dst (.lit undef))) := rfl
theorem cGuard_i {b : Bool} (h1 : b = true → cGuard ro P ops Q o rest want ⟨n, env, S, ds⟩ (.lit (.bool true))) (h2 : b = false → cGuard ro P ops Q o rest want ⟨n, env, S, ds⟩ (.lit (.bool false))) : cGuard ro P ops Q o rest want ⟨n, env, S, ds⟩ (.lit (.bool b)) := by cases b; exact h2 rfl; exact h1 rfl
end
@[go_sem] theorem aop_eq {dst : Option Tmp} : aop ro P ⟨dst, op, ty, pos, after, g⟩ K Q ⟨n, env, S, ds⟩ = (dstOk n dst ∧ aopB ro P ⟨dst, op, ty, pos, after, g⟩ K Q ⟨n, env, S, ds⟩ op) := rfl
@[go_sem] theorem dstOk_some : dstOk n (some d) = (d < n) := rfl
@[go_sem] theorem dstOk_none : dstOk n none = True := rfl

variable {dst : Option Tmp} {o : Oper} {st : St}
def cPick (K : St → Prop) (dst : Option Tmp) (x y : Operand) (st : St) (v : V) : Prop := aPick v (K (st.put dst (st.opnd x))) (K (st.put dst (st.opnd y)))
@[go_sem] theorem cPick_t {x y : Operand} : cPick K dst x y st (.lit (.bool true)) = K (st.put dst (st.opnd x)) := rfl
@[go_sem] theorem cPick_f {x y : Operand} : cPick K dst x y st (.lit (.bool false)) = K (st.put dst (st.opnd y)) := rfl
theorem cPick_i {x y : Operand} {b : Bool} (h1 : b = true → K (st.put dst (st.opnd x))) (h2 : b = false → K (st.put dst (st.opnd y))) : cPick K dst x y st (.lit (.bool b)) := by cases b; exact h2 rfl; exact h1 rfl
@[go_sem] theorem aopB_move {x : Operand} : aopB ro P o K Q ⟨n, env, S, ds⟩ (.move x) = K (St.put ⟨n, env, S, ds⟩ o.dst (St.opnd ⟨n, env, S, ds⟩ x)) := rfl
@[go_sem] theorem aopB_assign {x : Operand} : aopB ro P o K Q ⟨n, env, S, ds⟩ (.assign x) = K (St.put ⟨n, env, S, ds⟩ o.dst (St.opnd ⟨n, env, S, ds⟩ x)) := rfl
@[go_sem] theorem aopB_pick {c x y : Operand} : aopB ro P o K Q ⟨n, env, S, ds⟩ (.pick c x y) = cPick K o.dst x y ⟨n, env, S, ds⟩ (St.opnd ⟨n, env, S, ds⟩ c) := rfl
@[go_sem] theorem aopB_alloc {T : TypeId} : aopB ro P o K Q ⟨n, env, S, ds⟩ (.alloc T) = aOpt (zeroA P T) fun z => ∀ b, Fresh b S → K (St.put ⟨n, env, .objT b (z.cells.toList.map .lit) (keepO P T) :: S, ds⟩ o.dst (.lit (.pointer (some ⟨b, 0, none⟩)))) := rfl
@[go_sem] theorem aopB_box {T : TypeId} {x : Operand} : aopB ro P o K Q ⟨n, env, S, ds⟩ (.box T x) = aBox (St.opnd ⟨n, env, S, ds⟩ x) fun v => ∀ b, Fresh b S → K (St.put ⟨n, env, .obj b v.cells :: S, ds⟩ o.dst (.lit (.pointer (some ⟨b, 0, none⟩)))) := rfl
@[go_sem] theorem aopB_load {T : TypeId} {x : Operand} : aopB ro P o K Q ⟨n, env, S, ds⟩ (.load T x) = aOpt ((cellsAt S (St.opnd ⟨n, env, S, ds⟩ x)).bind (readAs P T)) fun v => K (St.put ⟨n, env, S, ds⟩ o.dst v) := rfl
@[go_sem] theorem aopB_store {T : TypeId} {p x : Operand} : aopB ro P o K Q ⟨n, env, S, ds⟩ (.store T p x) = aStore S (AOp ro P o K Q ⟨n, env, S, ds⟩) (St.opnd ⟨n, env, S, ds⟩ p) (St.opnd ⟨n, env, S, ds⟩ x) (szA P T) fun S' => K (St.put ⟨n, env, S', ds⟩ o.dst (.lit undef)) := rfl
@[go_sem] theorem aopB_nilCheck {x : Operand} : aopB ro P o K Q ⟨n, env, S, ds⟩ (.nilCheck x) = aNil (AOp ro P o K Q ⟨n, env, S, ds⟩) (St.opnd ⟨n, env, S, ds⟩ x) fun v => K (St.put ⟨n, env, S, ds⟩ o.dst v) := rfl
@[go_sem] theorem aopB_unOp {u : UnOp} {t : TypeId} {x : Operand} : aopB ro P o K Q ⟨n, env, S, ds⟩ (.unOp u t x) = aUn u (AOp ro P o K Q ⟨n, env, S, ds⟩) (St.opnd ⟨n, env, S, ds⟩ x) fun v => K (St.put ⟨n, env, S, ds⟩ o.dst (.lit v)) := rfl
@[go_sem] theorem aopB_binOp {u : BinOp} {t t' : TypeId} {x y : Operand} : aopB ro P o K Q ⟨n, env, S, ds⟩ (.binOp u t x y t') = aBinN P t u (AOp ro P o K Q ⟨n, env, S, ds⟩) y (P.underlying t) (St.opnd ⟨n, env, S, ds⟩ x) (St.opnd ⟨n, env, S, ds⟩ y) fun v => K (St.put ⟨n, env, S, ds⟩ o.dst (.lit v)) := rfl
@[go_sem] theorem aopB_convert {s t : TypeId} {x : Operand} : aopB ro P o K Q ⟨n, env, S, ds⟩ (.convert s t x) = aConvX P (P.underlying s) (P.underlying t) (AOp ro P o K Q ⟨n, env, S, ds⟩) true (fz S (St.opnd ⟨n, env, S, ds⟩ x)) fun v => K (St.put ⟨n, env, S, ds⟩ o.dst v) := rfl
@[go_sem] theorem aopB_extract {x : Operand} {ix : Nat} : aopB ro P o K Q ⟨n, env, S, ds⟩ (.extract x ix) = aExtract (AOp ro P o K Q ⟨n, env, S, ds⟩) ix (St.opnd ⟨n, env, S, ds⟩ x) fun v => K (St.put ⟨n, env, S, ds⟩ o.dst v) := rfl
@[go_sem] theorem aopB_field {t : TypeId} {x : Operand} {f : Nat} : aopB ro P o K Q ⟨n, env, S, ds⟩ (.field t x f) = aField P f (AOp ro P o K Q ⟨n, env, S, ds⟩) (P.underlying t) (St.opnd ⟨n, env, S, ds⟩ x) fun v => K (St.put ⟨n, env, S, ds⟩ o.dst v) := rfl
@[go_sem] theorem aopB_fieldAddr {t : TypeId} {x : Operand} {f : Nat} : aopB ro P o K Q ⟨n, env, S, ds⟩ (.fieldAddr t x f) = aFieldAddr P f (AOp ro P o K Q ⟨n, env, S, ds⟩) (P.underlying t) (St.opnd ⟨n, env, S, ds⟩ x) fun v => K (St.put ⟨n, env, S, ds⟩ o.dst v) := rfl
@[go_sem] theorem aopB_indexAddr {t : TypeId} {x ix : Operand} : aopB ro P o K Q ⟨n, env, S, ds⟩ (.indexAddr t x ix) = aIndexAddr S (P.underlying t) (szA P) (AOp ro P o K Q ⟨n, env, S, ds⟩) (St.opnd ⟨n, env, S, ds⟩ x) (St.opnd ⟨n, env, S, ds⟩ ix) fun v => K (St.put ⟨n, env, S, ds⟩ o.dst v) := rfl
@[go_sem] theorem aopB_index {t : TypeId} {x ix : Operand} : aopB ro P o K Q ⟨n, env, S, ds⟩ (.index t x ix) = aIndex (P.underlying t) (AOp ro P o K Q ⟨n, env, S, ds⟩) (St.opnd ⟨n, env, S, ds⟩ x) (St.opnd ⟨n, env, S, ds⟩ ix) fun v => K (St.put ⟨n, env, S, ds⟩ o.dst v) := rfl
@[go_sem] theorem aopB_build {t : TypeId} {parts : Array (Nat × Operand)} : aopB ro P o K Q ⟨n, env, S, ds⟩ (.build t parts) = aBuild P t (AOp ro P o K Q ⟨n, env, S, ds⟩) (P.underlying t) (parts.toList.map fun p => (p.1, fz S (St.opnd ⟨n, env, S, ds⟩ p.2))) fun v => K (St.put ⟨n, env, S, ds⟩ o.dst v) := rfl
@[go_sem] theorem aopB_buildSlice {t : TypeId} {len : Nat} {parts : Array (Nat × Operand)} : aopB ro P o K Q ⟨n, env, S, ds⟩ (.buildSlice t len parts) = aBuildSlice P len (partsOk len parts.toList) (AOp ro P o K Q ⟨n, env, S, ds⟩) (P.underlying t) (parts.toList.map fun p => fz S (St.opnd ⟨n, env, S, ds⟩ p.2)) fun v => K (St.put ⟨n, env, S, ds⟩ o.dst v) := rfl
@[go_sem] theorem aopB_makeInterface {t : TypeId} {x : Operand} : aopB ro P o K Q ⟨n, env, S, ds⟩ (.makeInterface t x) = aOpt (P.underlying t) fun u => isIfaceD u = false ∧ K (St.put ⟨n, env, S, ds⟩ o.dst (ifaceOf t (fz S (St.opnd ⟨n, env, S, ds⟩ x)))) := rfl
@[go_sem] theorem aopB_makeFunc {fn : Fn} {f c : Array Operand} : aopB ro P o K Q ⟨n, env, S, ds⟩ (.makeFunc fn f c) = K (St.put ⟨n, env, S, ds⟩ o.dst (funcOf fn (f.toList.map fun x => fz S (St.opnd ⟨n, env, S, ds⟩ x)) (c.toList.map fun x => St.opnd ⟨n, env, S, ds⟩ x))) := rfl
@[go_sem] theorem aopB_typeAssert {x : Operand} {xT t : TypeId} : aopB ro P o K Q ⟨n, env, S, ds⟩ (.typeAssert x xT t false) = aOpt (P.underlying t) fun u => isIfaceD u = false ∧ aOpt (unwrap t (St.opnd ⟨n, env, S, ds⟩ x)) fun v => K (St.put ⟨n, env, S, ds⟩ o.dst v) := rfl
@[go_sem] theorem aopB_slice {t : TypeId} {x : Operand} {lo hi : Option Operand} : aopB ro P o K Q ⟨n, env, S, ds⟩ (.slice t x lo hi none) = aSliceL ⟨n, env, S, ds⟩ (P.underlying t) (szA P) lo hi (AOp ro P o K Q ⟨n, env, S, ds⟩) (fz S (St.opnd ⟨n, env, S, ds⟩ x)) fun v => K (St.put ⟨n, env, S, ds⟩ o.dst v) := rfl
@[go_sem] theorem aopB_slice3 {t : TypeId} {x : Operand} {lo : Option Operand} {hi mx : Operand} : aopB ro P o K Q ⟨n, env, S, ds⟩ (.slice t x lo (some hi) (some mx)) = aSlice3 ⟨n, env, S, ds⟩ (P.underlying t) (szA P) lo hi mx (AOp ro P o K Q ⟨n, env, S, ds⟩) (fz S (St.opnd ⟨n, env, S, ds⟩ x)) fun v => K (St.put ⟨n, env, S, ds⟩ o.dst v) := rfl
@[go_sem] theorem aopB_panic {x : Operand} : aopB ro P o K Q ⟨n, env, S, ds⟩ (.panic x) = aPanic (AOp ro P o K Q ⟨n, env, S, ds⟩) (St.opnd ⟨n, env, S, ds⟩ x) fun v => Q (.panic [⟨v, false, false⟩]) ⟨n, env, S, ds⟩ := rfl
@[go_sem] theorem aopB_defer {f : Operand} {args : Array Operand} {tys : Array TypeId} : aopB ro P o K Q ⟨n, env, S, ds⟩ (.defer ⟨.value f, args, tys⟩) = aDefer ro o K ⟨n, env, S, ds⟩ args (AOp ro P o K Q ⟨n, env, S, ds⟩) (St.opnd ⟨n, env, S, ds⟩ f) := rfl
@[go_sem] theorem aDefer_lit {args : Array Operand} {d : Prop} {fn : Fn} {x y : Array Value} : aDefer ro o K ⟨n, env, S, ds⟩ args d (.lit (.func fn x y)) = (ro = none ∧ args = #[] ∧ K (St.put ⟨n, env, S, ⟨.fn fn y, x⟩ :: ds⟩ o.dst (.lit undef))) := rfl
@[go_sem] theorem aopB_max {x y : Operand} {ts : Array TypeId} : aopB ro P o K Q ⟨n, env, S, ds⟩ (.call ⟨.builtin .max, #[x, y], ts⟩) = aMax (AOp ro P o K Q ⟨n, env, S, ds⟩) (St.opnd ⟨n, env, S, ds⟩ x) (St.opnd ⟨n, env, S, ds⟩ y) fun v => K (St.put ⟨n, env, S, ds⟩ o.dst v) := rfl
@[go_sem] theorem aopB_min {x y : Operand} {ts : Array TypeId} : aopB ro P o K Q ⟨n, env, S, ds⟩ (.call ⟨.builtin .min, #[x, y], ts⟩) = aMin (AOp ro P o K Q ⟨n, env, S, ds⟩) (St.opnd ⟨n, env, S, ds⟩ x) (St.opnd ⟨n, env, S, ds⟩ y) fun v => K (St.put ⟨n, env, S, ds⟩ o.dst v) := rfl
@[go_sem] theorem aopT_max {x y : Operand} {ts : Array TypeId} : aopT P o K ⟨n, env, S, ds⟩ (.call ⟨.builtin .max, #[x, y], ts⟩) = aMax False (St.opnd ⟨n, env, S, ds⟩ x) (St.opnd ⟨n, env, S, ds⟩ y) fun v => K (St.put ⟨n, env, S, ds⟩ o.dst v) := rfl
@[go_sem] theorem aopT_min {x y : Operand} {ts : Array TypeId} : aopT P o K ⟨n, env, S, ds⟩ (.call ⟨.builtin .min, #[x, y], ts⟩) = aMin False (St.opnd ⟨n, env, S, ds⟩ x) (St.opnd ⟨n, env, S, ds⟩ y) fun v => K (St.put ⟨n, env, S, ds⟩ o.dst v) := rfl
@[go_sem] theorem aopB_makeSlice {t : TypeId} {x y : Operand} : aopB ro P o K Q ⟨n, env, S, ds⟩ (.makeSlice t x y) = aMake P ⟨n, env, S, ds⟩ (AOp ro P o K Q ⟨n, env, S, ds⟩) (P.underlying t) (St.opnd ⟨n, env, S, ds⟩ x) (St.opnd ⟨n, env, S, ds⟩ y) fun v S' => K (St.put ⟨n, env, S', ds⟩ o.dst v) := rfl
@[go_sem] theorem aopB_callV {f : Operand} {args : Array Operand} {tys : Array TypeId} : aopB ro P o K Q ⟨n, env, S, ds⟩ (.call ⟨.value f, args, tys⟩) = aCall ro P o K Q ⟨n, env, S, ds⟩ args (AOp ro P o K Q ⟨n, env, S, ds⟩) (calleeOf (St.opnd ⟨n, env, S, ds⟩ f)) := rfl
@[go_sem] theorem aopB_sdata {x : Operand} {ts : Array TypeId} : aopB ro P o K Q ⟨n, env, S, ds⟩ (.call ⟨.builtin .unsafeSliceData, #[x], ts⟩) = aSData (AOp ro P o K Q ⟨n, env, S, ds⟩) (St.opnd ⟨n, env, S, ds⟩ x) fun v => K (St.put ⟨n, env, S, ds⟩ o.dst v) := rfl
@[go_sem] theorem aopT_sdata {x : Operand} {ts : Array TypeId} : aopT P o K ⟨n, env, S, ds⟩ (.call ⟨.builtin .unsafeSliceData, #[x], ts⟩) = aSData False (St.opnd ⟨n, env, S, ds⟩ x) fun v => K (St.put ⟨n, env, S, ds⟩ o.dst v) := rfl
@[go_sem] theorem aSData_vs {d : Prop} {c : V → Prop} {k m m' : Nat} {a : Option Addr} : aSData d (.vs k a m m') c = ((a ≠ none → m' ≠ 0) ∧ c (.lit (.pointer a))) := rfl
@[go_sem] theorem aSData_nil {d : Prop} {c : V → Prop} {m m' : Nat} : aSData d (.lit (.slice none m m')) c = c (.lit (.pointer none)) := rfl
@[congr] theorem aSData_congr {d : Prop} {c : V → Prop} {v v' : V} (h : v = v') : aSData d v c = aSData d v' c := by rw [h]
@[go_sem] theorem aopB_len {x : Operand} {t : TypeId} : aopB ro P o K Q ⟨n, env, S, ds⟩ (.call ⟨.builtin .len, #[x], #[t]⟩) = aLen (P.underlying t) (AOp ro P o K Q ⟨n, env, S, ds⟩) (St.opnd ⟨n, env, S, ds⟩ x) fun v => K (St.put ⟨n, env, S, ds⟩ o.dst v) := rfl
@[go_sem] theorem aopB_append {x y : Operand} {t t2 : TypeId} : aopB ro P o K Q ⟨n, env, S, ds⟩ (.call ⟨.builtin .append, #[x, y], #[t, t2]⟩) = aAppendT P S (o.dst.getD 0) t t2 (AOp ro P o K Q ⟨n, env, S, ds⟩) (P.underlying t) (St.opnd ⟨n, env, S, ds⟩ x) (St.opnd ⟨n, env, S, ds⟩ y) fun v S' => K (St.put ⟨n, env, S', ds⟩ o.dst v) := rfl

@[go_sem] theorem aopT_move {x : Operand} : aopT P o K ⟨n, env, S, ds⟩ (.move x) = K (St.put ⟨n, env, S, ds⟩ o.dst (St.opnd ⟨n, env, S, ds⟩ x)) := rfl
@[go_sem] theorem aopT_assign {x : Operand} : aopT P o K ⟨n, env, S, ds⟩ (.assign x) = K (St.put ⟨n, env, S, ds⟩ o.dst (St.opnd ⟨n, env, S, ds⟩ x)) := rfl
@[go_sem] theorem aopT_pick {c x y : Operand} : aopT P o K ⟨n, env, S, ds⟩ (.pick c x y) = cPick K o.dst x y ⟨n, env, S, ds⟩ (St.opnd ⟨n, env, S, ds⟩ c) := rfl
@[go_sem] theorem aopT_nilCheck {x : Operand} : aopT P o K ⟨n, env, S, ds⟩ (.nilCheck x) = aNil False (St.opnd ⟨n, env, S, ds⟩ x) fun v => K (St.put ⟨n, env, S, ds⟩ o.dst v) := rfl
@[go_sem] theorem aopT_unOp {u : UnOp} {t : TypeId} {x : Operand} : aopT P o K ⟨n, env, S, ds⟩ (.unOp u t x) = aUn u False (St.opnd ⟨n, env, S, ds⟩ x) fun v => K (St.put ⟨n, env, S, ds⟩ o.dst (.lit v)) := rfl
@[go_sem] theorem aopT_binOp {u : BinOp} {t t' : TypeId} {x y : Operand} : aopT P o K ⟨n, env, S, ds⟩ (.binOp u t x y t') = aBinN P t u False y (P.underlying t) (St.opnd ⟨n, env, S, ds⟩ x) (St.opnd ⟨n, env, S, ds⟩ y) fun v => K (St.put ⟨n, env, S, ds⟩ o.dst (.lit v)) := rfl
@[go_sem] theorem aopT_convert {s t : TypeId} {x : Operand} : aopT P o K ⟨n, env, S, ds⟩ (.convert s t x) = aConvX P (P.underlying s) (P.underlying t) False false (fz S (St.opnd ⟨n, env, S, ds⟩ x)) fun v => K (St.put ⟨n, env, S, ds⟩ o.dst v) := rfl
@[go_sem] theorem aopT_extract {x : Operand} {ix : Nat} : aopT P o K ⟨n, env, S, ds⟩ (.extract x ix) = aExtract False ix (St.opnd ⟨n, env, S, ds⟩ x) fun v => K (St.put ⟨n, env, S, ds⟩ o.dst v) := rfl
@[go_sem] theorem aopT_field {t : TypeId} {x : Operand} {f : Nat} : aopT P o K ⟨n, env, S, ds⟩ (.field t x f) = aField P f False (P.underlying t) (St.opnd ⟨n, env, S, ds⟩ x) fun v => K (St.put ⟨n, env, S, ds⟩ o.dst v) := rfl
@[go_sem] theorem aopT_fieldAddr {t : TypeId} {x : Operand} {f : Nat} : aopT P o K ⟨n, env, S, ds⟩ (.fieldAddr t x f) = aFieldAddr P f False (P.underlying t) (St.opnd ⟨n, env, S, ds⟩ x) fun v => K (St.put ⟨n, env, S, ds⟩ o.dst v) := rfl
@[go_sem] theorem aopT_indexAddr {t : TypeId} {x ix : Operand} : aopT P o K ⟨n, env, S, ds⟩ (.indexAddr t x ix) = aIndexAddr S (P.underlying t) (szA P) False (St.opnd ⟨n, env, S, ds⟩ x) (St.opnd ⟨n, env, S, ds⟩ ix) fun v => K (St.put ⟨n, env, S, ds⟩ o.dst v) := rfl
@[go_sem] theorem aopT_index {t : TypeId} {x ix : Operand} : aopT P o K ⟨n, env, S, ds⟩ (.index t x ix) = aIndex (P.underlying t) False (St.opnd ⟨n, env, S, ds⟩ x) (St.opnd ⟨n, env, S, ds⟩ ix) fun v => K (St.put ⟨n, env, S, ds⟩ o.dst v) := rfl
@[go_sem] theorem aopT_build {t : TypeId} {parts : Array (Nat × Operand)} : aopT P o K ⟨n, env, S, ds⟩ (.build t parts) = aBuild P t False (P.underlying t) (parts.toList.map fun p => (p.1, fz S (St.opnd ⟨n, env, S, ds⟩ p.2))) fun v => K (St.put ⟨n, env, S, ds⟩ o.dst v) := rfl
@[go_sem] theorem aopT_makeInterface {t : TypeId} {x : Operand} : aopT P o K ⟨n, env, S, ds⟩ (.makeInterface t x) = aOpt (P.underlying t) fun u => isIfaceD u = false ∧ K (St.put ⟨n, env, S, ds⟩ o.dst (ifaceOf t (fz S (St.opnd ⟨n, env, S, ds⟩ x)))) := rfl
@[go_sem] theorem aopT_makeFunc {fn : Fn} {f c : Array Operand} : aopT P o K ⟨n, env, S, ds⟩ (.makeFunc fn f c) = K (St.put ⟨n, env, S, ds⟩ o.dst (funcOf fn (f.toList.map fun x => fz S (St.opnd ⟨n, env, S, ds⟩ x)) (c.toList.map fun x => St.opnd ⟨n, env, S, ds⟩ x))) := rfl
@[go_sem] theorem aopT_typeAssert {x : Operand} {xT t : TypeId} : aopT P o K ⟨n, env, S, ds⟩ (.typeAssert x xT t false) = aOpt (P.underlying t) fun u => isIfaceD u = false ∧ aOpt (unwrap t (St.opnd ⟨n, env, S, ds⟩ x)) fun v => K (St.put ⟨n, env, S, ds⟩ o.dst v) := rfl
@[go_sem] theorem aopT_slice {t : TypeId} {x : Operand} {lo hi : Option Operand} : aopT P o K ⟨n, env, S, ds⟩ (.slice t x lo hi none) = aSliceL ⟨n, env, S, ds⟩ (P.underlying t) (szA P) lo hi False (fz S (St.opnd ⟨n, env, S, ds⟩ x)) fun v => K (St.put ⟨n, env, S, ds⟩ o.dst v) := rfl
@[go_sem] theorem aopT_slice3 {t : TypeId} {x : Operand} {lo : Option Operand} {hi mx : Operand} : aopT P o K ⟨n, env, S, ds⟩ (.slice t x lo (some hi) (some mx)) = aSlice3 ⟨n, env, S, ds⟩ (P.underlying t) (szA P) lo hi mx False (fz S (St.opnd ⟨n, env, S, ds⟩ x)) fun v => K (St.put ⟨n, env, S, ds⟩ o.dst v) := rfl
@[go_sem] theorem aopT_len {x : Operand} {t : TypeId} : aopT P o K ⟨n, env, S, ds⟩ (.call ⟨.builtin .len, #[x], #[t]⟩) = aLen (P.underlying t) False (St.opnd ⟨n, env, S, ds⟩ x) fun v => K (St.put ⟨n, env, S, ds⟩ o.dst v) := rfl
@[go_sem] theorem aopT_load {T : TypeId} {x : Operand} : aopT P o K ⟨n, env, S, ds⟩ (.load T x) = aLoadPe P T (St.opnd ⟨n, env, S, ds⟩ x) fun v => K (St.put ⟨n, env, S, ds⟩ o.dst v) := rfl
@[go_sem] theorem adr_done {l : Array Oper} : adr ro P l Q .done ⟨n, env, S, ds⟩ = Q .normal ⟨n, env, S, ds⟩ := rfl
@[go_sem] theorem adr_stop {l : Array Oper} : adr ro P l Q .stop ⟨n, env, S, ds⟩ = True := rfl
def tGuard (ro : Option Nat) (P : Program) (l : Array Oper) (Q : Exit → St → Prop) (p : DPlan) (o : Oper) (st : St) : Option (Nat × Bool) → Prop := dGuard l st o.dst (adr ro P l Q p) (dstOk st.n o.dst ∧ aopT P o (adr ro P l Q p) st o.op)
def tG (ro : Option Nat) (P : Program) (l : Array Oper) (Q : Exit → St → Prop) (p : DPlan) (o : Oper) (want : Bool) (st : St) (v : V) : Prop := aGuard v want (dstOk st.n o.dst ∧ aopT P o (adr ro P l Q p) st o.op) (dstOk st.n o.dst ∧ adr ro P l Q p (st.put o.dst (.lit undef)))
def sGuard (ro : Option Nat) (P : Program) (l : Array Oper) (Q : Exit → St → Prop) (p : DPlan) (o : Oper) (st : St) : Option (Nat × Bool) → Prop := dGuard l st o.dst (adr ro P l Q p) (aop ro P o (adr ro P l Q p) (dropQ l Q) st)
def sG (ro : Option Nat) (P : Program) (l : Array Oper) (Q : Exit → St → Prop) (p : DPlan) (o : Oper) (want : Bool) (st : St) (v : V) : Prop := aGuard v want (aop ro P o (adr ro P l Q p) (dropQ l Q) st) (dstOk st.n o.dst ∧ adr ro P l Q p (st.put o.dst (.lit undef)))
section
variable {l : Array Oper} {i j : Nat} {p p' : DPlan} {want : Bool}
@[go_sem] theorem adr_take : adr ro P l Q (.take i p) ⟨n, env, S, ds⟩ = aOpt l[i]? fun o => tGuard ro P l Q p o ⟨n, env, S, ds⟩ o.guard := rfl
@[go_sem] theorem adr_alt : adr ro P l Q (.alt i p p') ⟨n, env, S, ds⟩ = ((aOpt l[i]? fun o => sGuard ro P l Q p o ⟨n, env, S, ds⟩ o.guard) ∧ adr ro P l Q p' ⟨n, env, S, ds⟩) := rfl
@[go_sem] theorem tGuard_none : tGuard ro P l Q p o ⟨n, env, S, ds⟩ none = (dstOk n o.dst ∧ aopT P o (adr ro P l Q p) ⟨n, env, S, ds⟩ o.op) := rfl
@[go_sem] theorem tGuard_some : tGuard ro P l Q p o ⟨n, env, S, ds⟩ (some (j, want)) = aOpt ((l[j]?).bind (·.dst)) fun d => tG ro P l Q p o want ⟨n, env, S, ds⟩ (AW.get env d) := rfl
@[go_sem] theorem sGuard_none : sGuard ro P l Q p o ⟨n, env, S, ds⟩ none = aop ro P o (adr ro P l Q p) (dropQ l Q) ⟨n, env, S, ds⟩ := rfl
@[go_sem] theorem sGuard_some : sGuard ro P l Q p o ⟨n, env, S, ds⟩ (some (j, want)) = aOpt ((l[j]?).bind (·.dst)) fun d => sG ro P l Q p o want ⟨n, env, S, ds⟩ (AW.get env d) := rfl
@[go_sem] theorem tG_tt : tG ro P l Q p o true ⟨n, env, S, ds⟩ (.lit (.bool true)) = (dstOk n o.dst ∧ aopT P o (adr ro P l Q p) ⟨n, env, S, ds⟩ o.op) := rfl
@[go_sem] theorem tG_ff : tG ro P l Q p o false ⟨n, env, S, ds⟩ (.lit (.bool false)) = (dstOk n o.dst ∧ aopT P o (adr ro P l Q p) ⟨n, env, S, ds⟩ o.op) := rfl
@[go_sem] theorem tG_tf : tG ro P l Q p o false ⟨n, env, S, ds⟩ (.lit (.bool true)) = (dstOk n o.dst ∧ adr ro P l Q p (St.put ⟨n, env, S, ds⟩ o.dst (.lit undef))) := rfl
@[go_sem] theorem tG_ft : tG ro P l Q p o true ⟨n, env, S, ds⟩ (.lit (.bool false)) = (dstOk n o.dst ∧ adr ro P l Q p (St.put ⟨n, env, S, ds⟩ o.dst (.lit undef))) := rfl
@[go_sem] theorem tG_undef : tG ro P l Q p o want ⟨n, env, S, ds⟩ (.lit undef) = (dstOk n o.dst ∧ adr ro P l Q p (St.put ⟨n, env, S, ds⟩ o.dst (.lit undef))) := rfl
theorem tG_i {b : Bool} (h1 : b = true → tG ro P l Q p o want ⟨n, env, S, ds⟩ (.lit (.bool true))) (h2 : b = false → tG ro P l Q p o want ⟨n, env, S, ds⟩ (.lit (.bool false))) : tG ro P l Q p o want ⟨n, env, S, ds⟩ (.lit (.bool b)) := by cases b; exact h2 rfl; exact h1 rfl
@[go_sem] theorem sG_tt : sG ro P l Q p o true ⟨n, env, S, ds⟩ (.lit (.bool true)) = aop ro P o (adr ro P l Q p) (dropQ l Q) ⟨n, env, S, ds⟩ := rfl
@[go_sem] theorem sG_ff : sG ro P l Q p o false ⟨n, env, S, ds⟩ (.lit (.bool false)) = aop ro P o (adr ro P l Q p) (dropQ l Q) ⟨n, env, S, ds⟩ := rfl
@[go_sem] theorem sG_tf : sG ro P l Q p o false ⟨n, env, S, ds⟩ (.lit (.bool true)) = (dstOk n o.dst ∧ adr ro P l Q p (St.put ⟨n, env, S, ds⟩ o.dst (.lit undef))) := rfl
@[go_sem] theorem sG_ft : sG ro P l Q p o true ⟨n, env, S, ds⟩ (.lit (.bool false)) = (dstOk n o.dst ∧ adr ro P l Q p (St.put ⟨n, env, S, ds⟩ o.dst (.lit undef))) := rfl
@[go_sem] theorem sG_undef : sG ro P l Q p o want ⟨n, env, S, ds⟩ (.lit undef) = (dstOk n o.dst ∧ adr ro P l Q p (St.put ⟨n, env, S, ds⟩ o.dst (.lit undef))) := rfl
theorem sG_i {b : Bool} (h1 : b = true → sG ro P l Q p o want ⟨n, env, S, ds⟩ (.lit (.bool true))) (h2 : b = false → sG ro P l Q p o want ⟨n, env, S, ds⟩ (.lit (.bool false))) : sG ro P l Q p o want ⟨n, env, S, ds⟩ (.lit (.bool b)) := by cases b; exact h2 rfl; exact h1 rfl
end
@[go_sem] theorem dropQ_panic {l : Array Oper} {c : List PanicEntry} : dropQ l Q (.panic c) ⟨n, env, S, ds⟩ = Q (.panic c) ⟨n, dropE l.toList env, S, ds⟩ := rfl
@[go_sem] theorem dropE_nil {l : List Oper} : dropE l [] = [] := rfl
@[go_sem] theorem dropE_cons {l : List Oper} {k : Nat} {v : V} : dropE l ((k, v) :: env) = if hasDst l k = true then dropE l env else (k, v) :: dropE l env := rfl
@[go_sem] theorem hasDst_nil {k : Nat} : hasDst [] k = false := rfl
@[go_sem] theorem hasDst_some {l : List Oper} {k d : Nat} : hasDst (⟨some d, op, ty, pos, after, g⟩ :: l) k = (d == k || hasDst l k) := rfl
@[go_sem] theorem hasDst_none {l : List Oper} {k : Nat} : hasDst (⟨none, op, ty, pos, after, g⟩ :: l) k = hasDst l k := by simp [hasDst]
@[go_sem] theorem aLoadPe_pe {T : TypeId} {cs : List V} {c : V → Prop} : aLoadPe P T (.pe cs) c = aOpt (readAs P T cs) c := rfl

@[go_sem] theorem opnd_tmp {t : Nat} : St.opnd ⟨n, env, S, ds⟩ (.tmp t) = AW.get env t := rfl
@[go_sem] theorem opnd_const {v : Value} : St.opnd ⟨n, env, S, ds⟩ (.const v) = V.of v := rfl
@[go_sem] theorem opnd_func {f : Nat} : St.opnd ⟨n, env, S, ds⟩ (.func f) = .lit (.func (.func f) #[] #[]) := rfl
@[go_sem] theorem opnd_global {f : Nat} : St.opnd ⟨n, env, S, ds⟩ (.global f) = .lit (.pointer (some ⟨f, 0, none⟩)) := rfl
end

section
variable {a b d : Prop} {c : V → Prop} {cv : Value → Prop} {P : Program} {S : List Res}
@[go_sem] theorem of_int {k : IntKind} {i : Int} : V.of (.int k i) = .lit (.int k i) := rfl
@[go_sem] theorem of_bool {x : Bool} : V.of (.bool x) = .lit (.bool x) := rfl
@[go_sem] theorem of_string {x : ByteArray} : V.of (.string x) = .lit (.string x) := rfl
@[go_sem] theorem of_float {k : FloatKind} {x : Nat} : V.of (.float k x) = .lit (.float k x) := rfl
@[go_sem] theorem of_slice {x : Option Addr} {m n : Nat} : V.of (.slice x m n) = .lit (.slice x m n) := rfl
@[go_sem] theorem of_pointer {x : Option Addr} : V.of (.pointer x) = .lit (.pointer x) := rfl
@[go_sem] theorem of_map {x : Option Nat} : V.of (.map x) = .lit (.map x) := rfl
@[go_sem] theorem of_nilIface : V.of .nilIface = .lit .nilIface := rfl
@[go_sem] theorem of_nilFunc : V.of .nilFunc = .lit .nilFunc := rfl
@[go_sem] theorem of_func {f : Fn} {x y : Array Value} : V.of (.func f x y) = .lit (.func f x y) := rfl
@[go_sem] theorem of_iface {t : TypeId} {x : Value} : V.of (.iface t x) = .lit (.iface t x) := rfl
@[go_sem] theorem of_agg {xs : List Value} : V.of (.agg xs.toArray) = .agg (xs.map .lit) := by simp [V.of]
@[go_sem] theorem of_tuple {xs : List Value} : V.of (.tuple xs.toArray) = .tuple (xs.map .lit) := by simp [V.of]
@[go_sem] theorem cells_agg' {xs : List Value} : (Value.agg xs.toArray).cells.toList = xs := rfl
@[go_sem] theorem cells_int' {k : IntKind} {i : Int} : (Value.int k i).cells.toList = [.int k i] := rfl
@[go_sem] theorem cells_bool' {x : Bool} : (Value.bool x).cells.toList = [.bool x] := rfl
@[go_sem] theorem cells_string' {x : ByteArray} : (Value.string x).cells.toList = [.string x] := rfl
@[go_sem] theorem cells_slice' {x : Option Addr} {m n : Nat} : (Value.slice x m n).cells.toList = [.slice x m n] := rfl
@[go_sem] theorem cells_pointer' {x : Option Addr} : (Value.pointer x).cells.toList = [.pointer x] := rfl
@[go_sem] theorem cells_map' {x : Option Nat} : (Value.map x).cells.toList = [.map x] := rfl
@[go_sem] theorem cells_nilIface' : Value.nilIface.cells.toList = [.nilIface] := rfl
@[go_sem] theorem cells_nilFunc' : Value.nilFunc.cells.toList = [.nilFunc] := rfl
@[go_sem] theorem cells_float' {k : FloatKind} {x : Nat} : (Value.float k x).cells.toList = [.float k x] := rfl
@[go_sem] theorem vcells_agg {cs : List V} : V.cells (.agg cs) = cs := rfl
@[go_sem] theorem vcells_lit {x : Value} : V.cells (.lit x) = [.lit x] := rfl
@[go_sem] theorem vcells_sl {f : Bool} {n : Nat} {xs : List V} : V.cells (.sl f n xs) = [.sl f n xs] := rfl
@[go_sem] theorem vcells_vs {k n m : Nat} {x : Option Addr} : V.cells (.vs k x n m) = [.vs k x n m] := rfl
@[go_sem] theorem vcells_pe {cs : List V} : V.cells (.pe cs) = [.pe cs] := rfl
@[go_sem] theorem vcells_func {f : Fn} {x y : List V} : V.cells (.func f x y) = [.func f x y] := rfl
@[go_sem] theorem vcells_iface {t : TypeId} {x : V} : V.cells (.iface t x) = [.iface t x] := rfl
@[go_sem] theorem okv_agg {cs : List V} : V.okv (.agg cs) = cs.all V.one := rfl
@[go_sem] theorem okv_sl {f : Bool} {n : Nat} {xs : List V} : V.okv (.sl f n xs) = true := rfl
@[go_sem] theorem okv_vs {k n m : Nat} {x : Option Addr} : V.okv (.vs k x n m) = true := rfl
@[go_sem] theorem okv_pe {cs : List V} : V.okv (.pe cs) = true := rfl
@[go_sem] theorem okv_func {f : Fn} {x y : List V} : V.okv (.func f x y) = true := rfl
@[go_sem] theorem okv_iface {t : TypeId} {x : V} : V.okv (.iface t x) = true := rfl
@[go_sem] theorem okv_lit {x : Value} : V.okv (.lit x) = x.oneCell' := rfl
@[go_sem] theorem one_sl {f : Bool} {n : Nat} {xs : List V} : V.one (.sl f n xs) = true := rfl
@[go_sem] theorem one_vs {k n m : Nat} {x : Option Addr} : V.one (.vs k x n m) = true := rfl
@[go_sem] theorem one_pe {cs : List V} : V.one (.pe cs) = true := rfl
@[go_sem] theorem one_func {f : Fn} {x y : List V} : V.one (.func f x y) = true := rfl
@[go_sem] theorem one_iface {t : TypeId} {x : V} : V.one (.iface t x) = true := rfl
@[go_sem] theorem one_lit {x : Value} : V.one (.lit x) = x.oneCell' := rfl
attribute [go_sem] Value.oneCell'.eq_def
@[go_sem] theorem get_nil' {i : Nat} : AW.get [] i = .any := rfl
@[go_sem] theorem get_cons' {k i : Nat} {v : V} {e : List (Nat × V)} : AW.get ((k, v) :: e) i = if k = i then v else AW.get e i := rfl
@[go_sem] theorem params_nil {k : Nat} : params k [] = [] := rfl
@[go_sem] theorem params_cons {k : Nat} {v : V} {vs : List V} : params k (v :: vs) = (k, v) :: params (k + 1) vs := rfl
@[go_sem] theorem cellsAt_ptr {x o : Nat} : cellsAt S (.lit (.pointer (some ⟨x, o, none⟩))) = (findObj S x).map fun l => l.drop o := rfl
@[go_sem] theorem cellsAt_pe {cs : List V} : cellsAt S (.pe cs) = some cs := rfl
def readAs' : Option Bool → Option Nat → List V → Option V
  | some true, some n, cs => if n ≤ cs.length then some (.agg (cs.take n)) else none
  | some false, _, cs => cs.head?
  | _, _, _ => none
@[go_sem] theorem readAs_eq {t : TypeId} {cs : List V} : readAs P t cs = readAs' (aggA P t) (szA P t) cs := by unfold readAs readAs'; split <;> simp_all
@[go_sem] theorem readAs'_true {n : Nat} {cs : List V} : readAs' (some true) (some n) cs = if n ≤ cs.length then some (.agg (cs.take n)) else none := rfl
@[go_sem] theorem readAs'_false {n : Option Nat} {cs : List V} : readAs' (some false) n cs = cs.head? := rfl
@[go_sem] theorem findObj_obj {x y : Nat} {cs : List V} {tt : Option TypeId} : findObj (.objT x cs tt :: S) y = if x = y then some cs else findObj S y := rfl
@[go_sem] theorem findObj_vec {k y c z : Nat} {x : Option Addr} {xs : List V} : findObj (.vec k x c z xs :: S) y = findObj S y := rfl
@[go_sem] theorem findObj_raw {x y : Nat} {o : Obj} : findObj (.raw x o :: S) y = findObj S y := rfl
@[go_sem] theorem setObj_obj {x y : Nat} {cs cs' : List V} {tt : Option TypeId} : setObj (.objT x cs tt :: S) y cs' = if x = y then .objT x cs' tt :: S else .objT x cs tt :: setObj S y cs' := rfl
@[go_sem] theorem setObj_vec {k y c z : Nat} {x : Option Addr} {xs cs' : List V} : setObj (.vec k x c z xs :: S) y cs' = .vec k x c z xs :: setObj S y cs' := rfl
@[go_sem] theorem setObj_raw {x y : Nat} {o : Obj} {cs' : List V} : setObj (.raw x o :: S) y cs' = .raw x o :: setObj S y cs' := rfl
@[go_sem] theorem findVec_obj {x y : Nat} {cs : List V} {tt : Option TypeId} : findVec (.objT x cs tt :: S) y = findVec S y := rfl
@[go_sem] theorem findVec_vec {k y c z : Nat} {x : Option Addr} {xs : List V} : findVec (.vec k x c z xs :: S) y = if k = y then some (x, c, z, xs) else findVec S y := rfl
@[go_sem] theorem findVec_raw {x y : Nat} {o : Obj} : findVec (.raw x o :: S) y = findVec S y := rfl
@[go_sem] theorem setVec_obj {x y : Nat} {cs : List V} {r : Res} {tt : Option TypeId} : setVec (.objT x cs tt :: S) y r = .objT x cs tt :: setVec S y r := rfl
@[go_sem] theorem setVec_vec {k y c z : Nat} {x : Option Addr} {xs : List V} {r : Res} : setVec (.vec k x c z xs :: S) y r = if k = y then r :: S else .vec k x c z xs :: setVec S y r := rfl
@[go_sem] theorem setVec_raw {x y : Nat} {o : Obj} {r : Res} : setVec (.raw x o :: S) y r = .raw x o :: setVec S y r := rfl
@[go_sem] theorem splice_eq {cs vs : List V} {o : Nat} : splice cs o vs = cs.take o ++ vs ++ cs.drop (o + vs.length) := rfl
@[go_sem] theorem ptrAdd_ptr {x o n : Nat} : ptrAdd (.lit (.pointer (some ⟨x, o, none⟩))) n = some (.lit (.pointer (some ⟨x, o + n, none⟩))) := rfl
@[go_sem] theorem ptrAdd_pe {cs : List V} {n : Nat} : ptrAdd (.pe cs) n = some (.pe (cs.drop n)) := rfl
@[go_sem] theorem calleeOf_lit {f : Nat} {x y : List Value} : calleeOf (.lit (.func (.func f) x.toArray y.toArray)) = some (f, x.map .lit, y.map .lit) := rfl
@[go_sem] theorem calleeOf_yield {l : Nat} {x y : Array Value} : calleeOf (.lit (.func (.yield l) x y)) = none := rfl
@[go_sem] theorem calleeOf_func {f : Nat} {x y : List V} : calleeOf (.func (.func f) x y) = some (f, x, y) := rfl
@[go_sem] theorem fz_litv {x : Value} : fz S (.lit x) = .lit x := rfl
@[go_sem] theorem fz_sl {f : Bool} {n : Nat} {xs : List V} : fz S (.sl f n xs) = .sl f n xs := rfl
@[go_sem] theorem fz_pe {cs : List V} : fz S (.pe cs) = .pe cs := rfl
@[go_sem] theorem fz_func {f : Fn} {x y : List V} : fz S (.func f x y) = .func f x y := rfl
@[go_sem] theorem fz_iface {t : TypeId} {x : V} : fz S (.iface t x) = .iface t x := rfl
@[go_sem] theorem fz_agg {cs : List V} : fz S (.agg cs) = .agg (cs.map (fz1 S)) := rfl
@[go_sem] theorem fz_tuple {cs : List V} : fz S (.tuple cs) = .tuple (cs.map (fz1 S)) := rfl
@[go_sem] theorem fz1_lit {x : Value} : fz1 S (.lit x) = .lit x := rfl
@[go_sem] theorem fz1_sl {f : Bool} {n : Nat} {xs : List V} : fz1 S (.sl f n xs) = .sl f n xs := rfl
@[go_sem] theorem fz1_pe {cs : List V} : fz1 S (.pe cs) = .pe cs := rfl
@[go_sem] theorem fz1_func {f : Fn} {x y : List V} : fz1 S (.func f x y) = .func f x y := rfl
@[go_sem] theorem fz1_iface {t : TypeId} {x : V} : fz1 S (.iface t x) = .iface t x := rfl
@[go_sem] theorem fz1_agg {cs : List V} : fz1 S (.agg cs) = .agg cs := rfl
def fzV (k : Nat) (a : Option Addr) (n cap : Nat) : Option (Option Addr × Nat × Nat × List V) → V
  | some (a', cap', sz, xs) => if a' = a ∧ cap' = cap ∧ xs.length = n then .sl false sz xs else .vs k a n cap
  | none => .vs k a n cap
@[go_sem] theorem fz_vs {k n m : Nat} {x : Option Addr} : fz S (.vs k x n m) = fzV k x n m (findVec S k) := rfl
@[go_sem] theorem fz1_vs {k n m : Nat} {x : Option Addr} : fz1 S (.vs k x n m) = fzV k x n m (findVec S k) := rfl
@[go_sem] theorem fzV_some {k n m m' z : Nat} {x x' : Option Addr} {xs : List V} : fzV k x n m (some (x', m', z, xs)) = if x' = x ∧ m' = m ∧ xs.length = n then .sl false z xs else .vs k x n m := rfl
@[go_sem] theorem srcOf_sl {z z' : Nat} {f : Bool} {xs : List V} : srcOf S z (.sl f z' xs) = if z' = z then some xs else none := rfl
@[go_sem] theorem srcOf_nil {z : Nat} : srcOf S z (.lit (.slice none 0 0)) = some [] := rfl
@[go_sem] theorem srcOf_str {z : Nat} {s : ByteArray} : srcOf S z (.lit (.string s)) = if z = 1 then some (s.data.toList.map fun c => .lit (.int .u8 c.toNat)) else none := rfl
def srcV (z : Nat) (a : Option Addr) (n cap : Nat) : Option (Option Addr × Nat × Nat × List V) → Option (List V)
  | some (a', cap', sz', xs) => if a' = a ∧ cap' = cap ∧ xs.length = n ∧ sz' = z then some xs else none
  | none => none
@[go_sem] theorem srcOf_vs {z k n m : Nat} {x : Option Addr} : srcOf S z (.vs k x n m) = srcV z x n m (findVec S k) := rfl
@[go_sem] theorem srcV_some {k n m m' z z' : Nat} {x x' : Option Addr} {xs : List V} : srcV z x n m (some (x', m', z', xs)) = if x' = x ∧ m' = m ∧ xs.length = n ∧ z' = z then some xs else none := rfl
@[go_sem] theorem exacts_nil : exacts [] = some [] := rfl
def consO : Option Value → Option (List Value) → Option (List Value)
  | some x, some xs => some (x :: xs)
  | _, _ => none
@[go_sem] theorem exacts_cons {v : V} {vs : List V} : exacts (v :: vs) = consO (exact1 v) (exacts vs) := by
  simp only [exacts, consO]; split <;> simp_all
@[go_sem] theorem consO_some {x : Value} {xs : List Value} : consO (some x) (some xs) = some (x :: xs) := rfl
@[go_sem] theorem consO_none {xs : Option (List Value)} : consO none xs = none := rfl
@[go_sem] theorem consO_none' {x : Option Value} : consO x none = none := by cases x <;> rfl
@[go_sem] theorem exact1_lit {x : Value} : exact1 (.lit x) = some x := rfl
@[go_sem] theorem exact1_sl {f : Bool} {n : Nat} {xs : List V} : exact1 (.sl f n xs) = none := rfl
@[go_sem] theorem exact1_vs {k n m : Nat} {x : Option Addr} : exact1 (.vs k x n m) = none := rfl
@[go_sem] theorem exact1_pe {cs : List V} : exact1 (.pe cs) = none := rfl
@[go_sem] theorem exact1_func {f : Fn} {x y : List V} : exact1 (.func f x y) = none := rfl
@[go_sem] theorem exact1_iface {t : TypeId} {x : V} : exact1 (.iface t x) = none := rfl
@[go_sem] theorem exact1_agg {cs : List V} : exact1 (.agg cs) = none := rfl
@[go_sem] theorem exact_lit {x : Value} : exact (.lit x) = some x := rfl
@[go_sem] theorem exact_agg {cs : List V} : exact (.agg cs) = (exacts cs).map fun xs => .agg xs.toArray := rfl
@[go_sem] theorem exact_sl {f : Bool} {n : Nat} {xs : List V} : exact (.sl f n xs) = none := rfl
@[go_sem] theorem exact_func {f : Fn} {x y : List V} : exact (.func f x y) = none := rfl
def ifV (t : TypeId) (v : V) : Option Value → V
  | some x => .lit (.iface t x)
  | none => .iface t v
@[go_sem] theorem ifaceOf_eq {t : TypeId} {v : V} : ifaceOf t v = ifV t v (exact v) := by unfold ifaceOf ifV; split <;> simp_all
@[go_sem] theorem ifV_some {t : TypeId} {v : V} {x : Value} : ifV t v (some x) = .lit (.iface t x) := rfl
@[go_sem] theorem ifV_none {t : TypeId} {v : V} : ifV t v none = .iface t v := rfl
def fnV (fn : Fn) (f c : List V) : Option (List Value) → Option (List Value) → V
  | some f', some c' => .lit (.func fn f'.toArray c'.toArray)
  | _, _ => .func fn f c
@[go_sem] theorem funcOf_eq {fn : Fn} {f c : List V} : funcOf fn f c = fnV fn f c (exacts f) (exacts c) := by unfold funcOf fnV; split <;> simp_all
@[go_sem] theorem fnV_some {fn : Fn} {f c : List V} {x y : List Value} : fnV fn f c (some x) (some y) = .lit (.func fn x.toArray y.toArray) := rfl
@[go_sem] theorem fnV_none {fn : Fn} {f c : List V} {y : Option (List Value)} : fnV fn f c none y = .func fn f c := rfl
@[go_sem] theorem fnV_none' {fn : Fn} {f c : List V} {y : Option (List Value)} : fnV fn f c y none = .func fn f c := by cases y <;> rfl
@[go_sem] theorem unwrap_lit {t t' : TypeId} {x : Value} : unwrap t (.lit (.iface t' x)) = if t' = t then some (V.of x) else none := rfl
@[go_sem] theorem unwrap_iface {t t' : TypeId} {x : V} : unwrap t (.iface t' x) = if t' = t then some x else none := rfl
attribute [go_sem] isIfaceD
@[go_sem] theorem partsOk_eq' {len : Nat} {parts : List (Nat × Operand)} : partsOk len parts = (parts.map (·.1) == List.range len) := rfl
@[go_sem] theorem fillV_nil {pl : Nat → Option (Nat × Nat)} {cs : List V} : fillV pl cs [] = some cs := rfl
def fillAt (pl : Nat → Option (Nat × Nat)) (cells : List V) (v : V) (rest : List (Nat × V)) : Option (Nat × Nat) → Option (List V)
  | none => none
  | some (off, size) => if v.cells.length = size ∧ off + v.cells.length ≤ cells.length ∧ v.okv = true then fillV pl (splice cells off v.cells) rest else none
@[go_sem] theorem fillV_cons {pl : Nat → Option (Nat × Nat)} {cs : List V} {i : Nat} {v : V} {rest : List (Nat × V)} : fillV pl cs ((i, v) :: rest) = fillAt pl cs v rest (pl i) := by
  simp only [fillV, fillAt]; split <;> simp_all
@[go_sem] theorem fillAt_some {pl : Nat → Option (Nat × Nat)} {cs : List V} {v : V} {rest : List (Nat × V)} {off size : Nat} : fillAt pl cs v rest (some (off, size)) = if v.cells.length = size ∧ off + v.cells.length ≤ cs.length ∧ v.okv = true then fillV pl (splice cs off v.cells) rest else none := rfl
@[go_sem] theorem placesOf_nil : placesOf P [] = some [] := rfl
def consP (o : Nat) : Option Nat → Option (List (Nat × Nat)) → Option (List (Nat × Nat))
  | some n, some ps => some ((o, n) :: ps)
  | _, _ => none
@[go_sem] theorem placesOf_cons {f : Field} {fs : List Field} : placesOf P (f :: fs) = consP f.offset (szA P f.type) (placesOf P fs) := by simp only [placesOf, consP]; split <;> simp_all
@[go_sem] theorem consP_some {o n : Nat} {ps : List (Nat × Nat)} : consP o (some n) (some ps) = some ((o, n) :: ps) := rfl
def resOf' : Option (List V) → Option V
  | some [v] => some v
  | some vs => some (.tuple vs)
  | none => none
@[go_sem] theorem resOf_eq {fn : Func} {st : St} : resOf P fn st = resOf' (resVs P st fn.results.toList) := by unfold resOf resOf'; split <;> simp_all
@[go_sem] theorem resOf'_one {v : V} : resOf' (some [v]) = some v := rfl
@[go_sem] theorem resOf'_nil : resOf' (some []) = some (.tuple []) := rfl
@[go_sem] theorem resOf'_two {v w : V} {r : List V} : resOf' (some (v :: w :: r)) = some (.tuple (v :: w :: r)) := rfl
@[go_sem] theorem resVs_nil {st : St} : resVs P st [] = some [] := rfl
def consR : Option V → Option (List V) → Option (List V)
  | some v, some vs => some (v :: vs)
  | _, _ => none
@[go_sem] theorem resVs_cons {st : St} {r : ResultVar} {rs : List ResultVar} : resVs P st (r :: rs) = consR (resV P st r) (resVs P st rs) := by simp only [resVs, consR]; split <;> simp_all
@[go_sem] theorem consR_some {v : V} {vs : List V} : consR (some v) (some vs) = some (v :: vs) := rfl
@[go_sem] theorem resV_tmp {n t : Nat} {env : List (Nat × V)} {ds : List Deferred} : resV P ⟨n, env, S, ds⟩ (.tmp t) = some (AW.get env t) := rfl
@[go_sem] theorem resV_cell {n t x : Nat} {env : List (Nat × V)} {ds : List Deferred} : resV P ⟨n, env, S, ds⟩ (.cell x t) = (cellsAt S (AW.get env x)).bind (readAs P t) := rfl
@[go_sem] theorem boundOf_none {st : St} {n : Nat} : boundOf st n none = some (n : Int) := rfl
def litI : V → Option Int
  | .lit (.int _ i) => some i
  | _ => none
@[go_sem] theorem boundOf_some {st : St} {n : Nat} {x : Operand} : boundOf st n (some x) = litI (st.opnd x) := by simp only [boundOf, litI]; split <;> simp_all
@[go_sem] theorem litI_int {k : IntKind} {i : Int} : litI (.lit (.int k i)) = some i := rfl

@[go_sem] theorem aCond_t : aCond (.lit (.bool true)) a b = a := rfl
@[go_sem] theorem aCond_f : aCond (.lit (.bool false)) a b = b := rfl
theorem aCond_i {x : Bool} (h1 : x = true → a) (h2 : x = false → b) : aCond (.lit (.bool x)) a b := by cases x; exact h2 rfl; exact h1 rfl
@[go_sem] theorem aGuard_tt : aGuard (.lit (.bool true)) true a b = a := rfl
@[go_sem] theorem aGuard_tf : aGuard (.lit (.bool true)) false a b = b := rfl
@[go_sem] theorem aGuard_ft : aGuard (.lit (.bool false)) true a b = b := rfl
@[go_sem] theorem aGuard_ff : aGuard (.lit (.bool false)) false a b = a := rfl
theorem aGuard_it {x : Bool} (h1 : x = true → a) (h2 : x = false → b) : aGuard (.lit (.bool x)) true a b := by cases x; exact h2 rfl; exact h1 rfl
theorem aGuard_if {x : Bool} (h1 : x = true → b) (h2 : x = false → a) : aGuard (.lit (.bool x)) false a b := by cases x; exact h2 rfl; exact h1 rfl
@[go_sem] theorem aGuard_tuple {xs : Array Value} {w : Bool} : aGuard (.lit (.tuple xs)) w a b = b := rfl
@[go_sem] theorem aGuard_undef {w : Bool} : aGuard (.lit undef) w a b = b := rfl
@[go_sem] theorem aPick_t : aPick (.lit (.bool true)) a b = a := rfl
@[go_sem] theorem aPick_f : aPick (.lit (.bool false)) a b = b := rfl
theorem aPick_i {x : Bool} (h1 : x = true → a) (h2 : x = false → b) : aPick (.lit (.bool x)) a b := by cases x; exact h2 rfl; exact h1 rfl
@[go_sem] theorem aOpt_some' {α : Type} {x : α} {f : α → Prop} : aOpt (some x) f = f x := rfl
@[go_sem] theorem aOpt_none' {α : Type} {f : α → Prop} : aOpt none f = False := rfl
@[go_sem] theorem aNil_ptr {x : Addr} : aNil d (.lit (.pointer (some x))) c = c (.lit (.pointer (some x))) := rfl
@[go_sem] theorem aNil_pe {cs : List V} : aNil d (.pe cs) c = c (.pe cs) := rfl
@[go_sem] theorem aUn_not {x : Bool} : aUn .not d (.lit (.bool x)) cv = cv (.bool !x) := rfl
@[go_sem] theorem aUn_neg {k : IntKind} {i : Int} : aUn .neg d (.lit (.int k i)) cv = cv (.int k (k.wrap (0 - i))) := rfl
section
variable {t : TypeId} {k k' : IntKind} {x y : Int}
section
variable {t : TypeId} {op : BinOp} {u : Option TypeDesc} {vx vy : V} {k : Nat}
@[go_sem] theorem aBinN_tmp : aBinN P t op d (.tmp k) u vx vy cv = aBinG P t op d u vx vy cv := rfl
@[go_sem] theorem aBinN_int {i : IntKind} {n : Int} : aBinN P t op d (.const (.int i n)) u vx vy cv = aBinG P t op d u vx vy cv := rfl
@[go_sem] theorem aBinN_bool {x : Bool} : aBinN P t op d (.const (.bool x)) u vx vy cv = aBinG P t op d u vx vy cv := rfl
@[go_sem] theorem aBinN_string {x : ByteArray} : aBinN P t op d (.const (.string x)) u vx vy cv = aBinG P t op d u vx vy cv := rfl
@[go_sem] theorem aBinN_slice {x : Option Addr} {m n : Nat} : aBinN P t op d (.const (.slice x m n)) u vx vy cv = aBinG P t op d u vx vy cv := rfl
@[go_sem] theorem aBinN_pointer {x : Option Addr} : aBinN P t op d (.const (.pointer x)) u vx vy cv = aBinG P t op d u vx vy cv := rfl
@[go_sem] theorem aBinN_nilE {ms : _} : aBinN P t .eql d (.const .nilIface) (some (.interface ms)) vx vy cv = aOpt (nilB vx) fun b => cv (.bool b) := rfl
@[go_sem] theorem aBinN_nilN {ms : _} : aBinN P t .neq d (.const .nilIface) (some (.interface ms)) vx vy cv = aOpt (nilB vx) fun b => cv (.bool !b) := rfl
@[go_sem] theorem aBinG_lit {x : Value} : aBinG P t op d u (.lit x) vy cv = aBin P t op d (.lit x) vy cv := by cases vy <;> rfl
@[go_sem] theorem aBinG_agg {xs ys : List V} : aBinG P t op d u (.agg xs) (.agg ys) cv = aBinA P t op xs ys u cv := rfl
@[go_sem] theorem aBinA_eql {xs ys : List V} {fs : Array Field} : aBinA P t .eql xs ys (some (.struct fs)) cv = (P.stoodInHeld t = false ∧ P.eqGuardType P.depth t = false ∧ aOpt (eqFieldsV P fs.toList xs ys) fun r => cv (.bool r)) := rfl
@[go_sem] theorem aBinA_neq {xs ys : List V} {fs : Array Field} : aBinA P t .neq xs ys (some (.struct fs)) cv = (P.stoodInHeld t = false ∧ P.eqGuardType P.depth t = false ∧ aOpt (eqFieldsV P fs.toList xs ys) fun r => cv (.bool !r)) := rfl
@[go_sem] theorem nilB_nil : nilB (.lit .nilIface) = some true := rfl
@[go_sem] theorem nilB_lit {T : TypeId} {x : Value} : nilB (.lit (.iface T x)) = some false := rfl
@[go_sem] theorem nilB_iface {T : TypeId} {x : V} : nilB (.iface T x) = some false := rfl
attribute [go_sem] eqFieldsV eqLit litOf
@[go_sem] theorem aConvX_int {a : TypeDesc} {mk : Bool} {k' k : IntKind} {x : Int} : aConvX P (some a) (some (.int k)) d mk (.lit (.int k' x)) c = c (.lit (.int k (k.wrap x))) := rfl
@[go_sem] theorem aConvX_strS {a : TypeDesc} {mk : Bool} {s : ByteArray} : aConvX P (some a) (some .string) d mk (.lit (.string s)) c = c (.lit (.string s)) := rfl
@[go_sem] theorem aConvX_strB {a : TypeDesc} {mk : Bool} {s : ByteArray} {e : TypeId} : aConvX P (some a) (some (.slice e)) d mk (.lit (.string s)) c = (mk = true ∧ P.underlying e = some (.int .u8) ∧ s.size ≤ 4294967296 ∧ c (.sl false 1 (bytesV s))) := rfl
@[go_sem] theorem aConvX_sl {e : TypeId} {mk full : Bool} {z : Nat} {xs : List V} : aConvX P (some (.slice e)) (some .string) d mk (.sl full z xs) c = (z = 1 ∧ P.underlying e = some (.int .u8) ∧ ∃ s, xs = bytesV s ∧ c (.lit (.string s))) := rfl
@[go_sem] theorem aMax_int {i j : IntKind} {x y : Int} : aMax d (.lit (.int i x)) (.lit (.int j y)) c = c (.lit (.int i (if y > x then y else x))) := rfl
@[go_sem] theorem aMin_int {i j : IntKind} {x y : Int} : aMin d (.lit (.int i x)) (.lit (.int j y)) c = c (.lit (.int i (if y < x then y else x))) := rfl
end
@[go_sem] theorem aBin_add : aBin P t .add d (.lit (.int k x)) (.lit (.int k y)) cv = cv (.int k (k.wrap (x + y))) := by simp [aBin, aBinI]
@[go_sem] theorem aBin_sub : aBin P t .sub d (.lit (.int k x)) (.lit (.int k y)) cv = cv (.int k (k.wrap (x - y))) := by simp [aBin, aBinI]
@[go_sem] theorem aBin_mul : aBin P t .mul d (.lit (.int k x)) (.lit (.int k y)) cv = cv (.int k (k.wrap (x * y))) := by simp [aBin, aBinI]
@[go_sem] theorem aBin_quo : aBin P t .quo d (.lit (.int k x)) (.lit (.int k y)) cv = (y ≠ 0 ∧ cv (.int k (k.wrap (x.tdiv y)))) := by simp [aBin, aBinI]
@[go_sem] theorem aBin_rem : aBin P t .rem d (.lit (.int k x)) (.lit (.int k y)) cv = (y ≠ 0 ∧ cv (.int k (x.tmod y))) := by simp [aBin, aBinI]
@[go_sem] theorem aBin_and : aBin P t .and d (.lit (.int k x)) (.lit (.int k y)) cv = cv (.int k (bits .and k x y)) := by simp [aBin, aBinI, bits]
@[go_sem] theorem aBin_or : aBin P t .or d (.lit (.int k x)) (.lit (.int k y)) cv = cv (.int k (bits .or k x y)) := by simp [aBin, aBinI, bits]
@[go_sem] theorem aBin_xor : aBin P t .xor d (.lit (.int k x)) (.lit (.int k y)) cv = cv (.int k (bits .xor k x y)) := by simp [aBin, aBinI, bits]
@[go_sem] theorem aBin_shl : aBin P t .shl d (.lit (.int k x)) (.lit (.int k' y)) cv = (0 ≤ y ∧ cv (.int k (k.wrap (x * 2 ^ min y.toNat k.bits)))) := rfl
@[go_sem] theorem aBin_shr : aBin P t .shr d (.lit (.int k x)) (.lit (.int k' y)) cv = (0 ≤ y ∧ cv (.int k (x.fdiv (2 ^ min y.toNat k.bits)))) := rfl
@[go_sem] theorem aBin_eql : aBin P t .eql d (.lit (.int k x)) (.lit (.int k y)) cv = cv (.bool (x == y)) := by simp [aBin, aBinI]
@[go_sem] theorem aBin_neq : aBin P t .neq d (.lit (.int k x)) (.lit (.int k y)) cv = cv (.bool (x != y)) := by simp [aBin, aBinI]
@[go_sem] theorem aBin_lss : aBin P t .lss d (.lit (.int k x)) (.lit (.int k y)) cv = cv (.bool (decide (x < y))) := by simp [aBin, aBinI]
@[go_sem] theorem aBin_leq : aBin P t .leq d (.lit (.int k x)) (.lit (.int k y)) cv = cv (.bool (decide (x ≤ y))) := by simp [aBin, aBinI]
@[go_sem] theorem aBin_gtr : aBin P t .gtr d (.lit (.int k x)) (.lit (.int k y)) cv = cv (.bool (decide (y < x))) := by simp [aBin, aBinI]
@[go_sem] theorem aBin_geq : aBin P t .geq d (.lit (.int k x)) (.lit (.int k y)) cv = cv (.bool (decide (y ≤ x))) := by simp [aBin, aBinI]
@[go_sem] theorem aBin_str {op : BinOp} {x y : ByteArray} : aBin P t op d (.lit (.string x)) (.lit (.string y)) cv = aBinS op x y cv := rfl
@[go_sem] theorem aBin_bool {op : BinOp} {x y : Bool} : aBin P t op d (.lit (.bool x)) (.lit (.bool y)) cv = aBinB P t op x y cv := rfl
attribute [go_sem] aBinS aBinB
end
@[go_sem] theorem aBox_eq {v : V} : aBox v c = (v.okv = true ∧ c v) := rfl
@[go_sem] theorem aStore_ptr {x o : Nat} {v : V} {z : Option Nat} {f : List Res → Prop} : aStore S d (.lit (.pointer (some ⟨x, o, none⟩))) v z f = aOpt (findObj S x) fun cs => v.okv = true ∧ z = some v.cells.length ∧ o + v.cells.length ≤ cs.length ∧ f (setObj S x (splice cs o v.cells)) := rfl
@[go_sem] theorem aConv_int {u : TypeDesc} {k k' : IntKind} {i : Int} : aConv (some u) (some (.int k)) d (.lit (.int k' i)) c = c (.lit (.int k (k.wrap i))) := rfl
@[go_sem] theorem aConv_str {u : TypeDesc} {s : ByteArray} : aConv (some u) (some .string) d (.lit (.string s)) c = c (.lit (.string s)) := rfl
@[go_sem] theorem aExtract_tuple {ix : Nat} {vs : List V} : aExtract d ix (.tuple vs) c = aOpt vs[ix]? c := rfl
@[go_sem] theorem aField_agg {f : Nat} {fs : Array Field} {cs : List V} : aField P f d (some (.struct fs)) (.agg cs) c = aOpt fs[f]? fun fl => aOpt (readAs P fl.type (cs.drop fl.offset)) c := rfl
@[go_sem] theorem aFieldAddr_eq {f : Nat} {fs : Array Field} {v : V} : aFieldAddr P f d (some (.struct fs)) v c = aOpt fs[f]? fun fl => (aOpt (szA P fl.type) fun n => n ≠ 0) ∧ aOpt (ptrAdd v fl.offset) c := rfl
@[go_sem] theorem aIndexAddr_sl {e : TypeId} {f : TypeId → Option Nat} {full : Bool} {z : Nat} {xs : List V} {k : IntKind} {i : Int} : aIndexAddr S (some (.slice e)) f d (.sl full z xs) (.lit (.int k i)) c =
    (f e = some z ∧ 0 ≤ i ∧ i < xs.length ∧ ∀ v, xs[i.toNat]? = some v → c (.pe v.cells)) := rfl
def ixV (n : Nat) (a : Option Addr) (cap : Nat) (z : Option Nat) (i : Int) (c : V → Prop) : Option (Option Addr × Nat × Nat × List V) → Prop
  | some (a', cap', sz, xs) => a' = a ∧ cap' = cap ∧ n = xs.length ∧ z = some sz ∧ 0 ≤ i ∧ i < xs.length ∧ ∀ v, xs[i.toNat]? = some v → c (.pe v.cells)
  | none => False
theorem aIndexAddr_vs' {e : TypeId} {f : TypeId → Option Nat} {k n m z : Nat} {x x' : Option Addr} {m' : Nat} {xs : List V} {k' : IntKind} {i : Int} (h : findVec S k = some (x', m', z, xs)) : aIndexAddr S (some (.slice e)) f d (.vs k x n m) (.lit (.int k' i)) c =
    (x' = x ∧ m' = m ∧ n = xs.length ∧ f e = some z ∧ 0 ≤ i ∧ i < xs.length ∧ ∀ v, xs[i.toNat]? = some v → c (.pe v.cells)) := by simp [aIndexAddr, h]
@[go_sem] theorem aIndex_str {s : ByteArray} {k : IntKind} {i : Int} {u : Option TypeDesc} : aIndex u d (.lit (.string s)) (.lit (.int k i)) c = (u = some .string ∧ 0 ≤ i ∧ i < s.size ∧ ∀ x : UInt8, s[i.toNat]? = some x → c (.lit (.int .u8 x.toNat))) := rfl
@[go_sem] theorem aLen_sl {e : TypeId} {f : Bool} {z : Nat} {xs : List V} : aLen (some (.slice e)) d (.sl f z xs) c = c (.lit (.int .i64 xs.length)) := rfl
@[go_sem] theorem aLen_vs {e : TypeId} {k n m : Nat} {x : Option Addr} : aLen (some (.slice e)) d (.vs k x n m) c = c (.lit (.int .i64 n)) := rfl
@[go_sem] theorem aLen_slice {e : TypeId} {n m : Nat} {x : Option Addr} : aLen (some (.slice e)) d (.lit (.slice x n m)) c = c (.lit (.int .i64 n)) := rfl
@[go_sem] theorem aLen_str {s : ByteArray} : aLen (some .string) d (.lit (.string s)) c = c (.lit (.int .i64 s.size)) := rfl
section
variable {key : Nat} {t t2 e : TypeId} {z : Nat} {f : V → List Res → Prop} {y : V}
@[go_sem] theorem aAppendT_eq {x : V} : aAppendT P S key t t2 d (some (.slice e)) x y f = aOpt (szA P e) fun z => aAppend P S key t t2 e z d x y f := rfl
@[go_sem] theorem aAppend_nil : aAppend P S key t t2 e z d (.lit (.slice none 0 0)) y f = (AppOk P t t2 e z ∧ key < 100000 ∧ aOpt (srcOf S z y) fun ys => ys.length ≤ 4294967296 ∧ ∀ a'' cap'', f (.vs key a'' ys.length cap'') (.vec key a'' cap'' z ys :: S)) := rfl
@[go_sem] theorem aAppend_full {xs : List V} {z' : Nat} : aAppend P S key t t2 e z d (.sl true z' xs) y f = (z' = z ∧ AppOk P t t2 e z ∧ key < 100000 ∧ aOpt (srcOf S z y) fun ys => xs.length + ys.length ≤ 4294967296 ∧ ∀ a'' cap'', f (.vs key a'' (xs.length + ys.length) cap'') (.vec key a'' cap'' z (xs ++ ys) :: S)) := rfl
def appV (P : Program) (S : List Res) (t t2 e : TypeId) (sz k : Nat) (a : Option Addr) (n cap : Nat) (dflt : Prop) (y : V) (c : V → List Res → Prop) : Option (Option Addr × Nat × Nat × List V) → Prop
  | some (a', cap', sz', xs) => a' = a ∧ cap' = cap ∧ sz' = sz ∧ xs.length = n ∧ AppOk P t t2 e sz ∧ (k < 100000 ∨ e = k % 100000) ∧ aOpt (srcOf S sz y) fun ys => xs.length + ys.length ≤ 4294967296 ∧
        ∀ a'' cap'', c (.vs k a'' (xs.length + ys.length) cap'') (setVec S k (.vec k a'' cap'' sz (xs ++ ys)))
  | none => dflt
@[go_sem] theorem aAppend_vs {k n m : Nat} {x : Option Addr} : aAppend P S key t t2 e z d (.vs k x n m) y f = appV P S t t2 e z k x n m d y f (findVec S k) := by
  simp only [aAppend, appV]; split <;> simp_all
@[congr] theorem appV_congr {k n m : Nat} {x : Option Addr} {o o' : Option (Option Addr × Nat × Nat × List V)} (h : o = o') : appV P S t t2 e z k x n m d y f o = appV P S t t2 e z k x n m d y f o' := by rw [h]
@[go_sem] theorem appV_some {k n m m' z' : Nat} {x x' : Option Addr} {xs : List V} : appV P S t t2 e z k x n m d y f (some (x', m', z', xs)) =
    (x' = x ∧ m' = m ∧ z' = z ∧ xs.length = n ∧ AppOk P t t2 e z ∧ (k < 100000 ∨ e = k % 100000) ∧ aOpt (srcOf S z y) fun ys => xs.length + ys.length ≤ 4294967296 ∧ ∀ a'' cap'', f (.vs k a'' (xs.length + ys.length) cap'') (setVec S k (.vec k a'' cap'' z (xs ++ ys)))) := rfl
@[go_sem] theorem AppOk_eq : AppOk P t t2 e z = (P.underlying t = some (.slice e) ∧ isSlStr e (P.underlying t2) ∧ szA P e = some z ∧ (aOpt (zeroA P e) fun v => v.cells.size = z) ∧ aOpt (bytesA P e) fun n => n ≤ 16384) := by
  apply propext
  constructor
  · rintro ⟨h1, h2, h3, ⟨v, hv, hv'⟩, ⟨n, hn, hn'⟩⟩
    exact ⟨h1, h2, h3, by rw [hv]; exact hv', by rw [hn]; exact hn'⟩
  · rintro ⟨h1, h2, h3, h4, h5⟩
    exact ⟨h1, h2, h3, aOpt_some h4, aOpt_some h5⟩
@[go_sem] theorem isSlStr_sl {e' : TypeId} : isSlStr e (some (.slice e')) = (e' = e) := rfl
@[go_sem] theorem isSlStr_str : isSlStr e (some .string) = True := rfl
end
@[go_sem] theorem aBuild_eq {t : TypeId} {fs : Array Field} {ps : List (Nat × V)} : aBuild P t d (some (.struct fs)) ps c = aOpt (zeroA P t) fun z => aOpt (placesOf P fs.toList) fun pl => aOpt (fillV (fun i => pl[i]?) (z.cells.toList.map .lit) ps) fun cs => c (.agg cs) := rfl
@[go_sem] theorem aBuildSlice_eq {len : Nat} {ok : Bool} {e : TypeId} {xs : List V} : aBuildSlice P len ok d (some (.slice e)) xs c = (ok = true ∧ (zeroA P e).isSome = true ∧ aOpt (szA P e) fun sz => 0 < sz ∧ len * sz ≤ 16777216 ∧ (∀ v ∈ xs, v.cells.length = sz ∧ v.okv = true) ∧ c (.sl true sz xs)) := rfl
@[go_sem] theorem aSlice_str {st : St} {u : Option TypeDesc} {f : TypeId → Option Nat} {lo hi : Option Operand} {s : ByteArray} : aSlice st u f lo hi d (.lit (.string s)) c =
    (u = some .string ∧ aOpt (boundOf st 0 lo) fun l => aOpt (boundOf st s.size hi) fun h => 0 ≤ l ∧ l ≤ h ∧ h ≤ s.size ∧ c (.lit (.string (s.extract l.toNat h.toNat)))) := rfl
@[go_sem] theorem aSlice_sl {st : St} {e : TypeId} {f : TypeId → Option Nat} {lo hi : Option Operand} {full : Bool} {z : Nat} {xs : List V} : aSlice st (some (.slice e)) f lo hi d (.sl full z xs) c =
    (f e = some z ∧ aOpt (boundOf st 0 lo) fun l => aOpt (boundOf st xs.length hi) fun h => 0 ≤ l ∧ l ≤ h ∧ h ≤ xs.length ∧ c (.sl (full && decide (h = xs.length)) z ((xs.take h.toNat).drop l.toNat))) := rfl
@[go_sem] theorem aSlice3_sl {st : St} {e : TypeId} {f : TypeId → Option Nat} {lo : Option Operand} {hi mx : Operand} {full : Bool} {z : Nat} {xs : List V} : aSlice3 st (some (.slice e)) f lo hi mx d (.sl full z xs) c =
    (f e = some z ∧ aOpt (boundOf st 0 lo) fun l => aOpt (boundOf st 0 (some hi)) fun h => aOpt (boundOf st 0 (some mx)) fun m => 0 ≤ l ∧ l ≤ h ∧ h ≤ m ∧ m ≤ xs.length ∧ c (.sl (decide (h = m)) z ((xs.take h.toNat).drop l.toNat))) := rfl
@[go_sem] theorem aSliceL_str {st : St} {u : Option TypeDesc} {f : TypeId → Option Nat} {lo hi : Option Operand} {s : ByteArray} : aSliceL st u f lo hi d (.lit (.string s)) c = aSlice st u f lo hi d (.lit (.string s)) c := rfl
@[go_sem] theorem aSliceL_sl {st : St} {u : Option TypeDesc} {f : TypeId → Option Nat} {lo hi : Option Operand} {full : Bool} {z : Nat} {xs : List V} : aSliceL st u f lo hi d (.sl full z xs) c = aSlice st u f lo hi d (.sl full z xs) c := rfl
@[go_sem] theorem aSliceL_lit {st : St} {e : TypeId} {f : TypeId → Option Nat} {lo hi : Option Operand} {x y len cap : Nat} : aSliceL st (some (.slice e)) f lo hi d (.lit (.slice (some ⟨x, y, none⟩) len cap)) c =
    aOpt (f e) fun sz => aOpt (boundOf st 0 lo) fun l => aOpt (boundOf st len hi) fun h => 0 ≤ l ∧ l ≤ h ∧ h ≤ cap ∧ c (.lit (.slice (some ⟨x, if cap = l.toNat then y else y + l.toNat * sz, none⟩) (h.toNat - l.toNat) (cap - l.toNat))) := rfl
@[go_sem] theorem aMake_int {st : St} {e : TypeId} {k k' : IntKind} {x x' : Int} {f : V → List Res → Prop} : aMake P st d (some (.slice e)) (.lit (.int k x)) (.lit (.int k' x')) f =
    (x' = x ∧ szA P e = some 1 ∧ aOpt (zeroA P e) fun z => z.cells = #[z] ∧ aOpt (bytesA P e) fun by' => 0 ≤ x ∧ (by' : Int) * x ≤ 281474976710656 ∧ x ≤ 9223372036854775807 ∧
        ∀ b, Fresh b st.S → f (.lit (.slice (some ⟨b, 0, none⟩) x.toNat x.toNat)) (.obj b (List.replicate x.toNat (.lit z)) :: st.S)) := rfl
@[go_sem] theorem aPanic_iface {t : TypeId} {x : Value} : aPanic d (.lit (.iface t x)) cv = cv (.iface t x) := rfl
@[go_sem] theorem aCall_none {ro : Option Nat} {o : Oper} {K : St → Prop} {Q : Exit → St → Prop} {st : St} {args : Array Operand} : aCall ro P o K Q st args d none = d := rfl
@[go_sem] theorem aCall_some {ro : Option Nat} {o : Oper} {K : St → Prop} {Q : Exit → St → Prop} {st : St} {args : Array Operand} {f : Nat} {x y : List V} : aCall ro P o K Q st args d (some (f, x, y)) =
    aGo (goesB P f) (ACallLe P f (x ++ args.toList.map (fun z => fz st.S (st.opnd z)) ++ y) st.S (callQ K Q st o.dst)) d := rfl
@[go_sem] theorem aGo_t {a b : Prop} : aGo true a b = a := rfl
@[go_sem] theorem aGo_f {a b : Prop} : aGo false a b = b := rfl
@[congr] theorem aGo_congr {x y : Bool} {a b : Prop} (h : x = y) : aGo x a b = aGo y a b := by rw [h]
end

attribute [go_sem] List.map_cons List.map_nil List.cons_append List.nil_append List.append_nil List.getElem?_cons_zero List.getElem?_cons_succ List.getElem?_nil Option.bind_some Option.map_some Option.bind_none Option.map_none
  List.drop_zero List.drop_succ_cons List.take_zero List.take_succ_cons List.drop_nil List.take_nil List.length_cons List.length_nil List.head?_cons List.head?_nil List.all_cons List.all_nil
  Option.getD_some Option.getD_none Nat.zero_add Nat.add_zero if_true if_false ite_true ite_false

section
variable {pl : Nat → DPlan} {ro : Option Nat} {P : Program} {o : Oper} {K : St → Prop} {Q : Exit → St → Prop} {st st' : St}
@[congr] theorem awp_congr {c : Code} (h : st = st') : awp pl ro P c Q st = awp pl ro P c Q st' := by rw [h]
@[congr] theorem AWP_congr {c : Code} (h : st = st') : AWP ro P c Q st = AWP ro P c Q st' := by rw [h]
@[congr] theorem aops_congr {ops : Array Oper} {l : List Oper} (h : st = st') : aops ro P ops Q l st = aops ro P ops Q l st' := by rw [h]
@[congr] theorem aop_congr (h : st = st') : aop ro P o K Q st = aop ro P o K Q st' := by rw [h]
@[congr] theorem AOp_congr (h : st = st') : AOp ro P o K Q st = AOp ro P o K Q st' := by rw [h]
@[congr] theorem aopB_congr {op : Op} (h : st = st') : aopB ro P o K Q st op = aopB ro P o K Q st' op := by rw [h]
@[congr] theorem aopT_congr {op : Op} (h : st = st') : aopT P o K st op = aopT P o K st' op := by rw [h]
@[congr] theorem aDefer_congr {args : Array Operand} {d : Prop} {v v' : V} (h : st = st') (hv : v = v') : aDefer ro o K st args d v = aDefer ro o K st' args d v' := by rw [h, hv]
@[congr] theorem adr_congr {l : Array Oper} {p : DPlan} (h : st = st') : adr ro P l Q p st = adr ro P l Q p st' := by rw [h]
@[congr] theorem cCond_congr {x y : Code} {v v' : V} (h : st = st') (hv : v = v') : cCond pl ro P Q x y st v = cCond pl ro P Q x y st' v' := by rw [h, hv]
@[congr] theorem cGuard_congr {l : Array Oper} {rest : List Oper} {want : Bool} {v v' : V} (h : st = st') (hv : v = v') : cGuard ro P l Q o rest want st v = cGuard ro P l Q o rest want st' v' := by rw [h, hv]
@[congr] theorem cPick_congr {dst : Option Tmp} {x y : Operand} {v v' : V} (h : st = st') (hv : v = v') : cPick K dst x y st v = cPick K dst x y st' v' := by rw [h, hv]
@[congr] theorem tG_congr {l : Array Oper} {p : DPlan} {want : Bool} {v v' : V} (h : st = st') (hv : v = v') : tG ro P l Q p o want st v = tG ro P l Q p o want st' v' := by rw [h, hv]
@[congr] theorem sG_congr {l : Array Oper} {p : DPlan} {want : Bool} {v v' : V} (h : st = st') (hv : v = v') : sG ro P l Q p o want st v = sG ro P l Q p o want st' v' := by rw [h, hv]
@[congr] theorem dropQ_congr {l : Array Oper} {e e' : Exit} (he : e = e') (h : st = st') : dropQ l Q e st = dropQ l Q e' st' := by rw [he, h]
@[congr] theorem aLoadPe_congr {T : TypeId} {v v' : V} {c : V → Prop} (h : v = v') : aLoadPe P T v c = aLoadPe P T v' c := by rw [h]
@[congr] theorem thenQ_congr {e e' : Exit} (he : e = e') (h : st = st') : thenQ K Q e st = thenQ K Q e' st' := by rw [he, h]
@[congr] theorem blockQ_congr {id : Nat} {e e' : Exit} (he : e = e') (h : st = st') : blockQ id Q e st = blockQ id Q e' st' := by rw [he, h]
@[congr] theorem retQ_congr {fn : Func} {R : Out → List Res → Prop} {e e' : Exit} (he : e = e') (h : st = st') : retQ P fn R e st = retQ P fn R e' st' := by rw [he, h]
@[congr] theorem roundQ_congr {ι : Type} {ok : ι → Prop} {μ : ι → Nat} {inv : ι → St} {m : Nat} {e e' : Exit} (he : e = e') (h : st = st') : roundQ ok μ inv m Q e st = roundQ ok μ inv m Q e' st' := by rw [he, h]
@[congr] theorem callQ_congr {d : Option Tmp} {x x' : Out} {S S' : List Res} (hx : x = x') (h : S = S') : callQ K Q st d x S = callQ K Q st d x' S' := by rw [hx, h]
@[congr] theorem ACallLe_congr {f : FuncId} {R : Out → List Res → Prop} {args args' : List V} {S S' : List Res} (ha : args = args') (h : S = S') : ACallLe P f args S R = ACallLe P f args' S' R := by rw [ha, h]
@[congr] theorem ACall_congr {f : FuncId} {R : Out → List Res → Prop} {args args' : List V} {S S' : List Res} (ha : args = args') (h : S = S') : ACall P f args S R = ACall P f args' S' R := by rw [ha, h]
@[congr] theorem Done_congr {R : Out → List Res → Prop} {v v' : V} {S S' : List Res} (ha : v = v') (h : S = S') : Done S v R = Done S' v' R := by rw [ha, h]
@[congr] theorem optDone_congr {fn : Func} {R : Out → List Res → Prop} {v v' : Option V} (ha : v = v') (h : st = st') : optDone P fn st R v = optDone P fn st' R v' := by rw [ha, h]
variable {u v u' v' : V} {a b d : Prop} {c : V → Prop} {cv : Value → Prop}
@[congr] theorem aOpt_congr {α : Type} {x x' : Option α} {f : α → Prop} (h : x = x') : aOpt x f = aOpt x' f := by rw [h]
@[congr] theorem aNil_congr (h : v = v') : aNil d v c = aNil d v' c := by rw [h]
@[congr] theorem aUn_congr {op : UnOp} (h : v = v') : aUn op d v cv = aUn op d v' cv := by rw [h]
@[congr] theorem aBinN_congr {t : TypeId} {op : BinOp} {y : Operand} {x x' : Option TypeDesc} (hx : x = x') (h : u = u') (h' : v = v') : aBinN P t op d y x u v cv = aBinN P t op d y x' u' v' cv := by rw [hx, h, h']
@[congr] theorem aBinG_congr {t : TypeId} {op : BinOp} {x x' : Option TypeDesc} (hx : x = x') (h : u = u') (h' : v = v') : aBinG P t op d x u v cv = aBinG P t op d x' u' v' cv := by rw [hx, h, h']
@[congr] theorem aConvX_congr {mk : Bool} {x y x' y' : Option TypeDesc} (hx : x = x') (hy : y = y') (h : v = v') : aConvX P x y d mk v c = aConvX P x' y' d mk v' c := by rw [hx, hy, h]
@[congr] theorem aMax_congr (h : u = u') (h' : v = v') : aMax d u v c = aMax d u' v' c := by rw [h, h']
@[congr] theorem aMin_congr (h : u = u') (h' : v = v') : aMin d u v c = aMin d u' v' c := by rw [h, h']
@[congr] theorem aBin_congr {t : TypeId} {op : BinOp} (h : u = u') (h' : v = v') : aBin P t op d u v cv = aBin P t op d u' v' cv := by rw [h, h']
@[congr] theorem aBinI_congr {op : BinOp} {k k' : IntKind} {x y x' y' : Int} (h : x = x') (h' : y = y') : aBinI op k k' x y cv = aBinI op k k' x' y' cv := by rw [h, h']
@[congr] theorem aBinS_congr {op : BinOp} {x y x' y' : ByteArray} (h : x = x') (h' : y = y') : aBinS op x y cv = aBinS op x' y' cv := by rw [h, h']
@[congr] theorem aBinB_congr {t : TypeId} {op : BinOp} {x y x' y' : Bool} (h : x = x') (h' : y = y') : aBinB P t op x y cv = aBinB P t op x' y' cv := by rw [h, h']
@[congr] theorem aStore_congr {S S' : List Res} {n n' : Option Nat} {f : List Res → Prop} (hS : S = S') (h : u = u') (h' : v = v') (hn : n = n') : aStore S d u v n f = aStore S' d u' v' n' f := by rw [hS, h, h', hn]
@[congr] theorem aConv_congr {x y x' y' : Option TypeDesc} (hx : x = x') (hy : y = y') (h : v = v') : aConv x y d v c = aConv x' y' d v' c := by rw [hx, hy, h]
@[congr] theorem aIndexAddr_congr {S S' : List Res} {x x' : Option TypeDesc} {f : TypeId → Option Nat} (hS : S = S') (hx : x = x') (h : u = u') (h' : v = v') : aIndexAddr S x f d u v c = aIndexAddr S' x' f d u' v' c := by rw [hS, hx, h, h']
@[congr] theorem aIndex_congr {x x' : Option TypeDesc} (hx : x = x') (h : u = u') (h' : v = v') : aIndex x d u v c = aIndex x' d u' v' c := by rw [hx, h, h']
@[congr] theorem aLen_congr {x x' : Option TypeDesc} (hx : x = x') (h : v = v') : aLen x d v c = aLen x' d v' c := by rw [hx, h]
@[congr] theorem aAppend_congr {S S' : List Res} {k sz : Nat} {t t2 e : TypeId} {f : V → List Res → Prop} (hS : S = S') (h : u = u') (h' : v = v') : aAppend P S k t t2 e sz d u v f = aAppend P S' k t t2 e sz d u' v' f := by rw [hS, h, h']
@[congr] theorem aBox_congr (h : v = v') : aBox v c = aBox v' c := by rw [h]
@[congr] theorem aExtract_congr {ix : Nat} (h : v = v') : aExtract d ix v c = aExtract d ix v' c := by rw [h]
@[congr] theorem aField_congr {f : Nat} {x x' : Option TypeDesc} (hx : x = x') (h : v = v') : aField P f d x v c = aField P f d x' v' c := by rw [hx, h]
@[congr] theorem aFieldAddr_congr {f : Nat} {x x' : Option TypeDesc} (hx : x = x') (h : v = v') : aFieldAddr P f d x v c = aFieldAddr P f d x' v' c := by rw [hx, h]
@[congr] theorem aBuild_congr {t : TypeId} {x x' : Option TypeDesc} {ps ps' : List (Nat × V)} (hx : x = x') (h : ps = ps') : aBuild P t d x ps c = aBuild P t d x' ps' c := by rw [hx, h]
@[congr] theorem aBuildSlice_congr {n : Nat} {k k' : Bool} {x x' : Option TypeDesc} {ps ps' : List V} (hk : k = k') (hx : x = x') (h : ps = ps') : aBuildSlice P n k d x ps c = aBuildSlice P n k' d x' ps' c := by rw [hk, hx, h]
@[congr] theorem aAppendT_congr {S S' : List Res} {k : Nat} {t t2 : TypeId} {x x' : Option TypeDesc} {f : V → List Res → Prop} (hS : S = S') (hx : x = x') (h : u = u') (h' : v = v') : aAppendT P S k t t2 d x u v f = aAppendT P S' k t t2 d x' u' v' f := by rw [hS, hx, h, h']
@[congr] theorem aSlice_congr {x x' : Option TypeDesc} {f : TypeId → Option Nat} {lo hi : Option Operand} (hst : st = st') (hx : x = x') (h : v = v') : aSlice st x f lo hi d v c = aSlice st' x' f lo hi d v' c := by rw [hst, hx, h]
@[congr] theorem aSlice3_congr {x x' : Option TypeDesc} {f : TypeId → Option Nat} {lo : Option Operand} {hi mx : Operand} (hst : st = st') (hx : x = x') (h : v = v') : aSlice3 st x f lo hi mx d v c = aSlice3 st' x' f lo hi mx d v' c := by rw [hst, hx, h]
@[congr] theorem aSliceL_congr {x x' : Option TypeDesc} {f : TypeId → Option Nat} {lo hi : Option Operand} (hst : st = st') (hx : x = x') (h : v = v') : aSliceL st x f lo hi d v c = aSliceL st' x' f lo hi d v' c := by rw [hst, hx, h]
@[congr] theorem aMake_congr {x x' : Option TypeDesc} {f : V → List Res → Prop} (hst : st = st') (hx : x = x') (h : u = u') (h' : v = v') : aMake P st d x u v f = aMake P st' d x' u' v' f := by rw [hst, hx, h, h']
@[congr] theorem aPanic_congr (h : v = v') : aPanic d v cv = aPanic d v' cv := by rw [h]
@[congr] theorem aCall_congr {args : Array Operand} {x x' : Option (FuncId × List V × List V)} (hst : st = st') (hx : x = x') : aCall ro P o K Q st args d x = aCall ro P o K Q st' args d x' := by rw [hst, hx]
@[congr] theorem aBuiltin_congr {bi : Builtin} {xs xs' : List Operand} {ts ts' : List TypeId} (hst : st = st') (hx : xs = xs') (ht : ts = ts') : aBuiltin ro P o K Q st bi xs ts = aBuiltin ro P o K Q st' bi xs' ts' := by rw [hst, hx, ht]
end

@[go_sem] theorem put_some (n : Nat) (env : List (Nat × V)) (S : List Res) (ds : List Deferred) (d : Nat) (v : V) : St.put ⟨n, env, S, ds⟩ (some d) v = ⟨n, (d, v) :: env, S, ds⟩ := rfl
@[go_sem] theorem put_none (n : Nat) (env : List (Nat × V)) (S : List Res) (ds : List Deferred) (v : V) : St.put ⟨n, env, S, ds⟩ none v = ⟨n, env, S, ds⟩ := rfl

attribute [go_sem] List.map_cons List.map_nil List.cons_append List.nil_append List.append_nil List.getElem?_cons_zero List.getElem?_cons_succ List.getElem?_nil Option.bind_some Option.map_some Option.bind_none Option.map_none
  List.drop_zero List.drop_succ_cons List.take_zero List.take_succ_cons List.drop_nil List.take_nil List.length_cons List.length_nil List.head?_cons List.head?_nil List.all_cons List.all_nil
  Option.getD_some Option.getD_none Nat.zero_add Nat.add_zero if_true if_false ite_true ite_false

@[go_sem] theorem VLe_self (S : List Res) (v : V) : VLe S v v = True := eq_true (.refl S v)
@[go_sem] theorem VLe_any (S : List Res) (v : V) : VLe S v .any = True := eq_true (.any S v)


theorem w64 {x : Int} (h1 : -9223372036854775808 ≤ x) (h2 : x ≤ 9223372036854775807) : IntKind.i64.wrap x = x := by
  rw [IntKind.wrap_i64]; omega

/-! ### Resources said otherwise -/

theorem StLe.ofS {n : Nat} {env : List (Nat × V)} {S S' : List Res} {ds : List Deferred} (h : SLe S S') : StLe ⟨n, env, S, ds⟩ ⟨n, env, S', ds⟩ := StLe.S h
theorem SLe.vecNil (S : List Res) (k sz : Nat) : SLe S (.vec k none 0 sz [] :: S) := fun G w h =>
  ⟨G, (Evol.refl S G w).cons (by simp [Res.blk, ownB_nil]), h.vec_nil k sz⟩
theorem SLe.obj {A B : List Res} {b : Nat} {cs cs' : List V} {tt : Option TypeId} (h : ∀ G us, VRels G cs us → VRels G cs' us) : SLe (A ++ .objT b cs tt :: B) (A ++ .objT b cs' tt :: B) := fun G w hi => by
  have hb : blks (A ++ .objT b cs' tt :: B) = blks (A ++ .objT b cs tt :: B) := by rw [blks_mid, blks_mid]; rfl
  refine ⟨G, ⟨Nat.le_refl _, rfl, rfl, rfl, Im.le_refl _, fun _ _ _ => rfl, fun _ _ _ _ => rfl, fun x hx => .inl (hb ▸ hx)⟩, hi.im, fun r hr => ?_, hb ▸ hi.nd⟩
  rcases List.mem_append.1 hr with hr | hr
  · exact hi.res r (by simp [hr])
  · rcases List.mem_cons.1 hr with rfl | hr
    · obtain ⟨us, T, h1, h2, h3⟩ := hi.res (.objT b cs tt) (by simp)
      exact ⟨us, T, h1, h _ _ h2, h3⟩
    · exact hi.res r (by simp [hr])
theorem VRels.nil_vs {G : Im} {us : List Value} (k : Nat) (h : VRels G [.lit (.slice none 0 0)] us) : VRels G [.vs k none 0 0] us := by
  obtain ⟨x, xs, rfl, h1, h2⟩ := h.cons_inv
  have := h1.lit_inv; subst this
  exact .cons (.vs _ _ _ _) h2

/-! ### More of what simp is told -/

theorem findObj_setObj_ne {b b' : Nat} {cs : List V} (h : b ≠ b') : ∀ S : List Res, findObj (AW.setObj S b cs) b' = findObj S b'
  | [] => rfl
  | .objT x ys tt :: S => by
    simp only [AW.setObj]
    split
    · rename_i e; subst e; simp only [findObj, if_neg h]
    · simp only [findObj, findObj_setObj_ne h S]
  | .vec .. :: S => by simp only [AW.setObj, findObj, findObj_setObj_ne h S]
  | .raw .. :: S => by simp only [AW.setObj, findObj, findObj_setObj_ne h S]
  | .lp .. :: S => by simp only [AW.setObj, findObj, findObj_setObj_ne h S]
theorem findObj_setObj_eq {b : Nat} {cs cs' : List V} : ∀ S : List Res, findObj S b = some cs' → findObj (AW.setObj S b cs) b = some cs
  | [], h => by simp [findObj] at h
  | .objT x ys tt :: S, h => by
    simp only [AW.setObj]
    split
    · rename_i e; subst e; simp [findObj]
    · rename_i e; simp only [findObj, if_neg e] at h ⊢; exact findObj_setObj_eq S h
  | .vec .. :: S, h => by simp only [AW.setObj, findObj] at h ⊢; exact findObj_setObj_eq S h
  | .raw .. :: S, h => by simp only [AW.setObj, findObj] at h ⊢; exact findObj_setObj_eq S h
  | .lp .. :: S, h => by simp only [AW.setObj, findObj] at h ⊢; exact findObj_setObj_eq S h

section
variable {P : Program} {fn : Func} {K : List Res → Prop} {R : Out → List Res → Prop} {n : Nat} {env : List (Nat × V)} {S : List Res} {ds : List Deferred} {x : Value} {cap : Array Value} {g : Nat} {u : FrameMode}
@[go_sem] theorem closeQ_normal : closeQ P fn K .normal ⟨n, env, S, ds⟩ = (ds = [] ∧ (resOf P fn ⟨n, env, S, ds⟩).isSome = true ∧ K S) := rfl
@[go_sem] theorem closeQ_ret : closeQ P fn K .ret ⟨n, env, S, ds⟩ = (ds = [] ∧ (resOf P fn ⟨n, env, S, ds⟩).isSome = true ∧ K S) := rfl
@[go_sem] theorem retM_normal : retM P fn R .normal ⟨n, env, S, ds⟩ = ALeave P fn R ds .returning ⟨n, env, S, ds⟩ := rfl
@[go_sem] theorem retM_ret : retM P fn R .ret ⟨n, env, S, ds⟩ = ALeave P fn R ds .returning ⟨n, env, S, ds⟩ := rfl
@[go_sem] theorem retM_panic : retM P fn R (.panic [⟨x, false, false⟩]) ⟨n, env, S, ds⟩ = ALeave P fn R ds (.panicking [⟨x, false, false⟩]) ⟨n, env, S, ds⟩ := by simp [retM]
@[go_sem] theorem ALeave_nil {ds' : List Deferred} : ALeave P fn R [] .returning ⟨n, env, S, ds'⟩ = optDone P fn ⟨n, env, S, []⟩ R (resOf P fn ⟨n, env, S, []⟩) := rfl
@[go_sem] theorem ALeave_nilP {ds' : List Deferred} : ALeave P fn R [] (.panicking [⟨x, false, false⟩]) ⟨n, env, S, ds'⟩ = DoneP S x R := by simp [ALeave]
@[go_sem] theorem ALeave_fn {ds' : List Deferred} : ALeave P fn R (⟨.fn (.func g) cap, #[]⟩ :: ds) u ⟨n, env, S, ds'⟩ = (u ≠ .run ∧ goesB P g = true ∧ AClose P g cap.toList u S fun u' S' => ALeave P fn R ds (settle u') ⟨n, env, S', ds'⟩) := by
  cases u <;> simp [ALeave]
@[go_sem] theorem ALeave_mark {ds' : List Deferred} {db : Nat} {a : Array Value} : ALeave P fn R (⟨.collected db, a⟩ :: ds) u ⟨n, env, S, ds'⟩ = (u ≠ .run ∧ aOpt (takeDef db S) fun S' => ALeave P fn R ds u ⟨n, env, S', ds'⟩) := by
  have : ∀ (o : Option (List Res)) (f : List Res → Prop), (∃ S', o = some S' ∧ f S') = aOpt o f := fun o f => by cases o <;> simp [aOpt]
  cases u <;> simp only [ALeave, this]
end
@[go_sem] theorem settle_ret : settle .returning = .returning := rfl
@[go_sem] theorem settle_rec {v : Value} : settle (.panicking [⟨v, true, false⟩]) = .returning := rfl

end Go.AW
