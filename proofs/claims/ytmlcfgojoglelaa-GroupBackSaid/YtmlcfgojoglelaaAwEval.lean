/- The engine AW, part 11: the wp as a function that simp reckons. -/
import Derived.Test.YtmlcfgojoglelaaAwOpG
set_option linter.unusedVariables false
set_option linter.unusedSimpArgs false
namespace Go.AW

/-- Operands of two kinds of numbers. -/
def aBinI (op : BinOp) (k k' : IntKind) (a b : Int) (c : Value → Prop) : Prop :=
  match op with
  | .add => k = k' ∧ c (.int k (k.wrap (a + b)))
  | .sub => k = k' ∧ c (.int k (k.wrap (a - b)))
  | .mul => k = k' ∧ c (.int k (k.wrap (a * b)))
  | .quo => k = k' ∧ b ≠ 0 ∧ c (.int k (k.wrap (a.tdiv b)))
  | .rem => k = k' ∧ b ≠ 0 ∧ c (.int k (a.tmod b))
  | .and => k = k' ∧ c (.int k (k.wrap (BitVec.ofInt k.bits a &&& BitVec.ofInt k.bits b).toNat))
  | .or => k = k' ∧ c (.int k (k.wrap (BitVec.ofInt k.bits a ||| BitVec.ofInt k.bits b).toNat))
  | .xor => k = k' ∧ c (.int k (k.wrap (BitVec.ofInt k.bits a ^^^ BitVec.ofInt k.bits b).toNat))
  | .andNot => False
  | .shl => 0 ≤ b ∧ c (.int k (k.wrap (a * 2 ^ min b.toNat k.bits)))
  | .shr => 0 ≤ b ∧ c (.int k (a.fdiv (2 ^ min b.toNat k.bits)))
  | .eql => k = k' ∧ c (.bool (a == b))
  | .neq => k = k' ∧ c (.bool (a != b))
  | .lss => k = k' ∧ c (.bool (decide (a < b)))
  | .leq => k = k' ∧ c (.bool (decide (a ≤ b)))
  | .gtr => k = k' ∧ c (.bool (decide (b < a)))
  | .geq => k = k' ∧ c (.bool (decide (b ≤ a)))

def aBinS (op : BinOp) (a b : ByteArray) (c : Value → Prop) : Prop :=
  match op with
  | .add => a.size + b.size ≤ 9223372036854775807 ∧ c (.string (a ++ b))
  | .eql => c (.bool (a.toList == b.toList))
  | .neq => c (.bool !(a.toList == b.toList))
  | .lss => c (.bool (Op.bytesLess a.toList b.toList))
  | .leq => c (.bool (Op.bytesLess a.toList b.toList || (a.toList == b.toList)))
  | .gtr => c (.bool !(Op.bytesLess a.toList b.toList || (a.toList == b.toList)))
  | .geq => c (.bool !(Op.bytesLess a.toList b.toList))
  | _ => False

def aBinB (P : Program) (t : TypeId) (op : BinOp) (a b : Bool) (c : Value → Prop) : Prop :=
  match op with
  | .eql => P.underlying t = some .bool ∧ c (.bool (a == b))
  | .neq => P.underlying t = some .bool ∧ c (.bool (a != b))
  | _ => False

/-- dflt: what is asked where none of the rules fits. -/
def aBin (P : Program) (t : TypeId) (op : BinOp) (dflt : Prop) : V → V → (Value → Prop) → Prop
  | .lit (.int k a), .lit (.int k' b), c => aBinI op k k' a b c
  | .lit (.string a), .lit (.string b), c => aBinS op a b c
  | .lit (.bool a), .lit (.bool b), c => aBinB P t op a b c
  | _, _, _ => dflt

def aUn (op : UnOp) (dflt : Prop) : V → (Value → Prop) → Prop
  | .lit (.bool b), c => match op with | .not => c (.bool !b) | _ => dflt
  | .lit (.int k n), c => match op with | .neg => c (.int k (k.wrap (0 - n))) | _ => dflt
  | _, _ => dflt

def aPick (v : V) (a b : Prop) : Prop :=
  match v with
  | .lit (.bool c) => if c then a else b
  | _ => False

def aOpt {α : Type} (x : Option α) (c : α → Prop) : Prop :=
  match x with
  | some a => c a
  | none => False

def aNil (dflt : Prop) : V → (V → Prop) → Prop
  | .lit (.pointer (some ad)), c => c (.lit (.pointer (some ad)))
  | .pe cs, c => c (.pe cs)
  | _, _ => dflt

def aStore (S : List Res) (dflt : Prop) : V → V → Option Nat → (List Res → Prop) → Prop
  | .lit (.pointer (some ⟨b, o, none⟩)), x, sz, c => aOpt (findObj S b) fun cs => x.okv = true ∧ sz = some x.cells.length ∧ o + x.cells.length ≤ cs.length ∧ c (setObj S b (splice cs o x.cells))
  | _, _, _, _ => dflt

def aConv (src dst : Option TypeDesc) (dflt : Prop) : V → (V → Prop) → Prop
  | .lit (.int _ n), c => match src, dst with | some _, some (.int k) => c (.lit (.int k (k.wrap n))) | _, _ => dflt
  | .lit (.string s), c => match src, dst with | some _, some .string => c (.lit (.string s)) | _, _ => dflt
  | _, _ => dflt

def aIndexAddr (S : List Res) (u : Option TypeDesc) (szOf : TypeId → Option Nat) (dflt : Prop) : V → V → (V → Prop) → Prop
  | .sl _ sz xs, .lit (.int _ i), c => match u with
    | some (.slice e) => szOf e = some sz ∧ 0 ≤ i ∧ i < xs.length ∧ ∀ v, xs[i.toNat]? = some v → c (.pe v.cells)
    | _ => dflt
  | .vs k a n cap, .lit (.int _ i), c => match u, findVec S k with
    | some (.slice e), some (a', cap', sz, xs) => a' = a ∧ cap' = cap ∧ n = xs.length ∧ szOf e = some sz ∧ 0 ≤ i ∧ i < xs.length ∧ ∀ v, xs[i.toNat]? = some v → c (.pe v.cells)
    | _, _ => dflt
  | _, _, _ => dflt

def aIndex (u : Option TypeDesc) (dflt : Prop) : V → V → (V → Prop) → Prop
  | .lit (.string s), .lit (.int _ i), c => u = some .string ∧ 0 ≤ i ∧ i < s.size ∧ ∀ x : UInt8, s[i.toNat]? = some x → c (.lit (.int .u8 x.toNat))
  | _, _, _ => dflt

def aLen (u : Option TypeDesc) (dflt : Prop) : V → (V → Prop) → Prop
  | .sl _ _ xs, c => match u with | some (.slice _) => c (.lit (.int .i64 xs.length)) | _ => dflt
  | .vs _ _ n _, c => match u with | some (.slice _) => c (.lit (.int .i64 n)) | _ => dflt
  | .lit (.slice _ n _), c => match u with | some (.slice _) => c (.lit (.int .i64 n)) | _ => dflt
  | .lit (.string s), c => match u with | some .string => c (.lit (.int .i64 s.size)) | _ => dflt
  | _, _ => dflt

def isSlStr (e : TypeId) : Option TypeDesc → Prop
  | some (.slice e') => e' = e
  | some .string => True
  | _ => False

/-- What must be so of a slice's type ahead of an append. -/
structure AppOk (P : Program) (t t2 e : TypeId) (sz : Nat) : Prop where
  ht : P.underlying t = some (.slice e)
  ht2 : isSlStr e (P.underlying t2)
  hs : szA P e = some sz
  hz : ∃ z, zeroA P e = some z ∧ z.cells.size = sz
  hb : ∃ n, bytesA P e = some n ∧ n ≤ 16384

def aAppend (P : Program) (S : List Res) (key : Nat) (t t2 e : TypeId) (sz : Nat) (dflt : Prop) : V → V → (V → List Res → Prop) → Prop
  | .vs k a n cap, y, c => match findVec S k with
    | some (a', cap', sz', xs) => a' = a ∧ cap' = cap ∧ sz' = sz ∧ xs.length = n ∧ AppOk P t t2 e sz ∧ (k < 100000 ∨ e = k % 100000) ∧ aOpt (srcOf S sz y) fun ys => xs.length + ys.length ≤ 4294967296 ∧
        ∀ a'' cap'', c (.vs k a'' (xs.length + ys.length) cap'') (setVec S k (.vec k a'' cap'' sz (xs ++ ys)))
    | none => dflt
  | .lit (.slice none 0 0), y, c => AppOk P t t2 e sz ∧ key < 100000 ∧ aOpt (srcOf S sz y) fun ys => ys.length ≤ 4294967296 ∧ ∀ a'' cap'', c (.vs key a'' ys.length cap'') (.vec key a'' cap'' sz ys :: S)
  | .sl true sz' xs, y, c => sz' = sz ∧ AppOk P t t2 e sz ∧ key < 100000 ∧ aOpt (srcOf S sz y) fun ys => xs.length + ys.length ≤ 4294967296 ∧ ∀ a'' cap'', c (.vs key a'' (xs.length + ys.length) cap'') (.vec key a'' cap'' sz (xs ++ ys) :: S)
  | _, _, _ => dflt

def aSlice (st : St) (u : Option TypeDesc) (szOf : TypeId → Option Nat) (lo hi : Option Operand) (dflt : Prop) : V → (V → Prop) → Prop
  | .lit (.string s), c => u = some .string ∧ aOpt (boundOf st 0 lo) fun l => aOpt (boundOf st s.size hi) fun h => 0 ≤ l ∧ l ≤ h ∧ h ≤ s.size ∧ c (.lit (.string (s.extract l.toNat h.toNat)))
  | .sl full sz xs, c => match u with
    | some (.slice e) => szOf e = some sz ∧ aOpt (boundOf st 0 lo) fun l => aOpt (boundOf st xs.length hi) fun h => 0 ≤ l ∧ l ≤ h ∧ h ≤ xs.length ∧ c (.sl (full && decide (h = xs.length)) sz ((xs.take h.toNat).drop l.toNat))
    | _ => dflt
  | _, _ => dflt

/-- Parts of slices of one's own too. -/
def aSliceL (st : St) (u : Option TypeDesc) (szOf : TypeId → Option Nat) (lo hi : Option Operand) (dflt : Prop) : V → (V → Prop) → Prop
  | .lit (.slice (some ⟨b, o', none⟩) len cap), c => match u with
    | some (.slice e) => aOpt (szOf e) fun sz => aOpt (boundOf st 0 lo) fun l => aOpt (boundOf st len hi) fun h => 0 ≤ l ∧ l ≤ h ∧ h ≤ cap ∧ c (.lit (.slice (some ⟨b, if cap = l.toNat then o' else o' + l.toNat * sz, none⟩) (h.toNat - l.toNat) (cap - l.toNat)))
    | _ => dflt
  | v, c => aSlice st u szOf lo hi dflt v c

def aMake (P : Program) (st : St) (dflt : Prop) (u : Option TypeDesc) : V → V → (V → List Res → Prop) → Prop
  | .lit (.int _ n), .lit (.int _ n'), c => match u with
    | some (.slice e) => n' = n ∧ szA P e = some 1 ∧ aOpt (zeroA P e) fun z => z.cells = #[z] ∧ aOpt (bytesA P e) fun by' => 0 ≤ n ∧ (by' : Int) * n ≤ 281474976710656 ∧ n ≤ 9223372036854775807 ∧
        ∀ b, Fresh b st.S → c (.lit (.slice (some ⟨b, 0, none⟩) n.toNat n.toNat)) (.obj b (List.replicate n.toNat (.lit z)) :: st.S)
    | _ => dflt
  | _, _, _ => dflt

def aSlice3 (st : St) (u : Option TypeDesc) (szOf : TypeId → Option Nat) (lo : Option Operand) (hi mx : Operand) (dflt : Prop) : V → (V → Prop) → Prop
  | .sl full sz xs, c => match u with
    | some (.slice e) => szOf e = some sz ∧ aOpt (boundOf st 0 lo) fun l => aOpt (boundOf st 0 (some hi)) fun h => aOpt (boundOf st 0 (some mx)) fun m => 0 ≤ l ∧ l ≤ h ∧ h ≤ m ∧ m ≤ xs.length ∧ c (.sl (decide (h = m)) sz ((xs.take h.toNat).drop l.toNat))
    | _ => dflt
  | _, _ => dflt

def aPanic (dflt : Prop) : V → (Value → Prop) → Prop
  | .lit (.iface t v), c => c (.iface t v)
  | _, _ => dflt

def aGo (g : Bool) (a b : Prop) : Prop := match g with | true => a | false => b

def aCall (ro : Option Nat) (P : Program) (o : Oper) (K : St → Prop) (Q : Exit → St → Prop) (st : St) (args : Array Operand) (dflt : Prop) : Option (FuncId × List V × List V) → Prop
  | some (g, first, captured) => aGo (goesB P g) (ACallLe P g (first ++ args.toList.map (fun x => fz st.S (st.opnd x)) ++ captured) st.S (callQ K Q st o.dst)) dflt
  | none => dflt

def aBox (v : V) (c : V → Prop) : Prop := v.okv = true ∧ c v
def aExtract (dflt : Prop) (ix : Nat) : V → (V → Prop) → Prop
  | .tuple vs, c => aOpt vs[ix]? c
  | _, _ => dflt
def aField (P : Program) (f : Nat) (dflt : Prop) : Option TypeDesc → V → (V → Prop) → Prop
  | some (.struct fs), .agg cs, c => aOpt fs[f]? fun fl => aOpt (readAs P fl.type (cs.drop fl.offset)) c
  | _, _, _ => dflt
def aFieldAddr (P : Program) (f : Nat) (dflt : Prop) : Option TypeDesc → V → (V → Prop) → Prop
  | some (.struct fs), v, c => aOpt fs[f]? fun fl => (aOpt (szA P fl.type) fun n => n ≠ 0) ∧ aOpt (ptrAdd v fl.offset) c
  | _, _, _ => dflt
def aBuild (P : Program) (t : TypeId) (dflt : Prop) : Option TypeDesc → List (Nat × V) → (V → Prop) → Prop
  | some (.struct fs), ps, c => aOpt (zeroA P t) fun z => aOpt (placesOf P fs.toList) fun pl => aOpt (fillV (fun i => pl[i]?) (z.cells.toList.map .lit) ps) fun cs => c (.agg cs)
  | _, _, _ => dflt
def aBuildSlice (P : Program) (len : Nat) (ok : Bool) (dflt : Prop) : Option TypeDesc → List V → (V → Prop) → Prop
  | some (.slice e), xs, c => ok = true ∧ (zeroA P e).isSome = true ∧ aOpt (szA P e) fun sz => 0 < sz ∧ len * sz ≤ 16777216 ∧ (∀ v ∈ xs, v.cells.length = sz ∧ v.okv = true) ∧ c (.sl true sz xs)
  | _, _, _ => dflt
def aAppendT (P : Program) (S : List Res) (key : Nat) (t t2 : TypeId) (dflt : Prop) : Option TypeDesc → V → V → (V → List Res → Prop) → Prop
  | some (.slice e), x, y, c => aOpt (szA P e) fun sz => aAppend P S key t t2 e sz dflt x y c
  | _, _, _, _ => dflt

def aBinA (P : Program) (t : TypeId) (op : BinOp) (xs ys : List V) (u : Option TypeDesc) (c : Value → Prop) : Prop :=
  match u, op with
  | some (.struct fs), .eql => P.stoodInHeld t = false ∧ P.eqGuardType P.depth t = false ∧ aOpt (eqFieldsV P fs.toList xs ys) fun r => c (.bool r)
  | some (.struct fs), .neq => P.stoodInHeld t = false ∧ P.eqGuardType P.depth t = false ∧ aOpt (eqFieldsV P fs.toList xs ys) fun r => c (.bool !r)
  | _, _ => False

def aBinG (P : Program) (t : TypeId) (op : BinOp) (dflt : Prop) (u : Option TypeDesc) : V → V → (Value → Prop) → Prop
  | .agg xs, .agg ys, c => aBinA P t op xs ys u c
  | vx, vy, c => aBin P t op dflt vx vy c
/-- Two values, the second one maybe the literal nil of an interface's type. -/
def aBinN (P : Program) (t : TypeId) (op : BinOp) (dflt : Prop) (y : Operand) (u : Option TypeDesc) (vx vy : V) (c : Value → Prop) : Prop :=
  match y, u, op with
  | .const .nilIface, some (.interface _), .eql => aOpt (nilB vx) fun b => c (.bool b)
  | .const .nilIface, some (.interface _), .neq => aOpt (nilB vx) fun b => c (.bool !b)
  | _, _, _ => aBinG P t op dflt u vx vy c
/-- Bytes made of a string, and a string of bytes. -/
def aConvX (P : Program) (src dst : Option TypeDesc) (dflt : Prop) (mk : Bool) : V → (V → Prop) → Prop
  | .lit (.string s), c => match src, dst with
    | some _, some (.slice e) => mk = true ∧ P.underlying e = some (.int .u8) ∧ s.size ≤ 4294967296 ∧ c (.sl false 1 (bytesV s))
    | _, _ => aConv src dst dflt (.lit (.string s)) c
  | .sl full z xs, c => match src, dst with
    | some (.slice e), some .string => z = 1 ∧ P.underlying e = some (.int .u8) ∧ ∃ s, xs = bytesV s ∧ c (.lit (.string s))
    | _, _ => dflt
  | v, c => aConv src dst dflt v c
def aMax (dflt : Prop) : V → V → (V → Prop) → Prop
  | .lit (.int k a), .lit (.int _ b), c => c (.lit (.int k (if b > a then b else a)))
  | _, _, _ => dflt
def aMin (dflt : Prop) : V → V → (V → Prop) → Prop
  | .lit (.int k a), .lit (.int _ b), c => c (.lit (.int k (if b < a then b else a)))
  | _, _, _ => dflt

def aSData (dflt : Prop) : V → (V → Prop) → Prop
  | .vs _ a _ cap, c => (a ≠ none → cap ≠ 0) ∧ c (.lit (.pointer a))
  | .lit (.slice none _ _), c => c (.lit (.pointer none))
  | _, _ => dflt

def aBuiltin (ro : Option Nat) (P : Program) (o : Oper) (K : St → Prop) (Q : Exit → St → Prop) (st : St) : Builtin → List Operand → List TypeId → Prop
  | .len, [x], [t] => aLen (P.underlying t) (AOp ro P o K Q st) (st.opnd x) fun v => K (st.put o.dst v)
  | .max, [x, y], _ => aMax (AOp ro P o K Q st) (st.opnd x) (st.opnd y) fun v => K (st.put o.dst v)
  | .min, [x, y], _ => aMin (AOp ro P o K Q st) (st.opnd x) (st.opnd y) fun v => K (st.put o.dst v)
  | .unsafeSliceData, [x], _ => aSData (AOp ro P o K Q st) (st.opnd x) fun v => K (st.put o.dst v)
  | .append, [x, y], [t, t2] => aAppendT P st.S (o.dst.getD 0) t t2 (AOp ro P o K Q st) (P.underlying t) (st.opnd x) (st.opnd y) fun v S' => K (St.put { st with S := S' } o.dst v)
  | _, _, _ => AOp ro P o K Q st

def aDefer (ro : Option Nat) (o : Oper) (K : St → Prop) (st : St) (args : Array Operand) (dflt : Prop) : V → Prop
  | .lit (.func fn first captured) => ro = none ∧ args = #[] ∧ K (St.put { st with ds := ⟨.fn fn captured, first⟩ :: st.ds } o.dst (.lit undef))
  | _ => dflt

def partsOk (len : Nat) (parts : List (Nat × Operand)) : Bool := parts.map (·.1) == List.range len

def aopB (ro : Option Nat) (P : Program) (o : Oper) (K : St → Prop) (Q : Exit → St → Prop) (st : St) : Op → Prop
  | .move x => K (st.put o.dst (st.opnd x))
  | .assign x => K (st.put o.dst (st.opnd x))
  | .pick c x y => aPick (st.opnd c) (K (st.put o.dst (st.opnd x))) (K (st.put o.dst (st.opnd y)))
  | .alloc T => aOpt (zeroA P T) fun z => ∀ b, Fresh b st.S → K (St.put { st with S := .objT b (z.cells.toList.map .lit) (keepO P T) :: st.S } o.dst (.lit (.pointer (some ⟨b, 0, none⟩))))
  | .box T x => aBox (st.opnd x) fun v => ∀ b, Fresh b st.S → K (St.put { st with S := .obj b v.cells :: st.S } o.dst (.lit (.pointer (some ⟨b, 0, none⟩))))
  | .load T x => aOpt ((cellsAt st.S (st.opnd x)).bind (readAs P T)) fun v => K (st.put o.dst v)
  | .store T p x => aStore st.S (AOp ro P o K Q st) (st.opnd p) (st.opnd x) (szA P T) fun S' => K (St.put { st with S := S' } o.dst (.lit undef))
  | .nilCheck x => aNil (AOp ro P o K Q st) (st.opnd x) fun v => K (st.put o.dst v)
  | .unOp op t x => aUn op (AOp ro P o K Q st) (st.opnd x) fun v => K (st.put o.dst (.lit v))
  | .binOp op t x y t' => aBinN P t op (AOp ro P o K Q st) y (P.underlying t) (st.opnd x) (st.opnd y) fun v => K (st.put o.dst (.lit v))
  | .convert s d x => aConvX P (P.underlying s) (P.underlying d) (AOp ro P o K Q st) true (fz st.S (st.opnd x)) fun v => K (st.put o.dst v)
  | .extract x ix => aExtract (AOp ro P o K Q st) ix (st.opnd x) fun v => K (st.put o.dst v)
  | .field xT x f => aField P f (AOp ro P o K Q st) (P.underlying xT) (st.opnd x) fun v => K (st.put o.dst v)
  | .fieldAddr s x f => aFieldAddr P f (AOp ro P o K Q st) (P.underlying s) (st.opnd x) fun v => K (st.put o.dst v)
  | .indexAddr t x ix => aIndexAddr st.S (P.underlying t) (szA P) (AOp ro P o K Q st) (st.opnd x) (st.opnd ix) fun v => K (st.put o.dst v)
  | .index t x ix => aIndex (P.underlying t) (AOp ro P o K Q st) (st.opnd x) (st.opnd ix) fun v => K (st.put o.dst v)
  | .build t parts => aBuild P t (AOp ro P o K Q st) (P.underlying t) (parts.toList.map fun p => (p.1, fz st.S (st.opnd p.2))) fun v => K (st.put o.dst v)
  | .buildSlice t len parts => aBuildSlice P len (partsOk len parts.toList) (AOp ro P o K Q st) (P.underlying t) (parts.toList.map fun p => fz st.S (st.opnd p.2)) fun v => K (st.put o.dst v)
  | .makeInterface t x => aOpt (P.underlying t) fun d => isIfaceD d = false ∧ K (st.put o.dst (ifaceOf t (fz st.S (st.opnd x))))
  | .makeFunc fn f c => K (st.put o.dst (funcOf fn (f.toList.map fun x => fz st.S (st.opnd x)) (c.toList.map st.opnd)))
  | .typeAssert x xT t false => aOpt (P.underlying t) fun d => isIfaceD d = false ∧ aOpt (unwrap t (st.opnd x)) fun u => K (st.put o.dst u)
  | .slice t x lo hi none => aSliceL st (P.underlying t) (szA P) lo hi (AOp ro P o K Q st) (fz st.S (st.opnd x)) fun v => K (st.put o.dst v)
  | .slice t x lo (some hi) (some mx) => aSlice3 st (P.underlying t) (szA P) lo hi mx (AOp ro P o K Q st) (fz st.S (st.opnd x)) fun v => K (st.put o.dst v)
  | .makeSlice t x y => aMake P st (AOp ro P o K Q st) (P.underlying t) (st.opnd x) (st.opnd y) fun v S' => K (St.put { st with S := S' } o.dst v)
  | .panic x => aPanic (AOp ro P o K Q st) (st.opnd x) fun v => Q (.panic [{ v, recovered := false }]) st
  | .defer c => match c.callee with
    | .value f => aDefer ro o K st c.args (AOp ro P o K Q st) (st.opnd f)
    | _ => AOp ro P o K Q st
  | .call c => match c.callee with
    | .value f => aCall ro P o K Q st c.args (AOp ro P o K Q st) (calleeOf (st.opnd f))
    | .builtin b => aBuiltin ro P o K Q st b c.args.toList c.argTypes.toList
    | .invoke _ _ => AOp ro P o K Q st
  | _ => AOp ro P o K Q st

/-- The load of what never changes. -/
def aLoadPe (P : Program) (T : TypeId) : V → (V → Prop) → Prop
  | .pe cs, c => aOpt (readAs P T cs) c
  | _, _ => False
def aBuiltinT (P : Program) (o : Oper) (K : St → Prop) (st : St) : Builtin → List Operand → List TypeId → Prop
  | .len, [x], [t] => aLen (P.underlying t) False (st.opnd x) fun v => K (st.put o.dst v)
  | .max, [x, y], _ => aMax False (st.opnd x) (st.opnd y) fun v => K (st.put o.dst v)
  | .min, [x, y], _ => aMin False (st.opnd x) (st.opnd y) fun v => K (st.put o.dst v)
  | .unsafeSliceData, [x], _ => aSData False (st.opnd x) fun v => K (st.put o.dst v)
  | _, _, _ => False

/-- Operations that may be taken ahead of others: they look at their operands, and at what never changes. -/
def aopT (P : Program) (o : Oper) (K : St → Prop) (st : St) : Op → Prop
  | .move x => K (st.put o.dst (st.opnd x))
  | .assign x => K (st.put o.dst (st.opnd x))
  | .pick c x y => aPick (st.opnd c) (K (st.put o.dst (st.opnd x))) (K (st.put o.dst (st.opnd y)))
  | .load T x => aLoadPe P T (st.opnd x) fun v => K (st.put o.dst v)
  | .nilCheck x => aNil False (st.opnd x) fun v => K (st.put o.dst v)
  | .unOp op t x => aUn op False (st.opnd x) fun v => K (st.put o.dst (.lit v))
  | .binOp op t x y t' => aBinN P t op False y (P.underlying t) (st.opnd x) (st.opnd y) fun v => K (st.put o.dst (.lit v))
  | .convert s d x => aConvX P (P.underlying s) (P.underlying d) False false (fz st.S (st.opnd x)) fun v => K (st.put o.dst v)
  | .extract x ix => aExtract False ix (st.opnd x) fun v => K (st.put o.dst v)
  | .field xT x f => aField P f False (P.underlying xT) (st.opnd x) fun v => K (st.put o.dst v)
  | .fieldAddr s x f => aFieldAddr P f False (P.underlying s) (st.opnd x) fun v => K (st.put o.dst v)
  | .indexAddr t x ix => aIndexAddr st.S (P.underlying t) (szA P) False (st.opnd x) (st.opnd ix) fun v => K (st.put o.dst v)
  | .index t x ix => aIndex (P.underlying t) False (st.opnd x) (st.opnd ix) fun v => K (st.put o.dst v)
  | .build t parts => aBuild P t False (P.underlying t) (parts.toList.map fun p => (p.1, fz st.S (st.opnd p.2))) fun v => K (st.put o.dst v)
  | .makeInterface t x => aOpt (P.underlying t) fun d => isIfaceD d = false ∧ K (st.put o.dst (ifaceOf t (fz st.S (st.opnd x))))
  | .makeFunc fn f c => K (st.put o.dst (funcOf fn (f.toList.map fun x => fz st.S (st.opnd x)) (c.toList.map st.opnd)))
  | .typeAssert x xT t false => aOpt (P.underlying t) fun d => isIfaceD d = false ∧ aOpt (unwrap t (st.opnd x)) fun u => K (st.put o.dst u)
  | .slice t x lo hi none => aSliceL st (P.underlying t) (szA P) lo hi False (fz st.S (st.opnd x)) fun v => K (st.put o.dst v)
  | .slice t x lo (some hi) (some mx) => aSlice3 st (P.underlying t) (szA P) lo hi mx False (fz st.S (st.opnd x)) fun v => K (st.put o.dst v)
  | .call c => match c.callee with
    | .builtin b => aBuiltinT P o K st b c.args.toList c.argTypes.toList
    | _ => False
  | _ => False

def aop (ro : Option Nat) (P : Program) (o : Oper) (K : St → Prop) (Q : Exit → St → Prop) (st : St) : Prop := dstOk st.n o.dst ∧ aopB ro P o K Q st o.op

end Go.AW
