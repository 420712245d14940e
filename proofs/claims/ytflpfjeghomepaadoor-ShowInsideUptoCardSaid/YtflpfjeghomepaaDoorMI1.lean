/- The engine AW, part 1: values by content, resources, what a world must hold. -/
import Derived.RangeFuncIn
import Derived.RecoverIn
import Derived.RangeFuncLeaves
import Derived.Laws.World
import Derived.RangeFuncOwn
import Derived.LoopNIn
import Derived.TacticsIn
import Derived.Tactics
import Derived.WalkKit
import Derived.Laws.CopyRow
import Derived.Laws.Cells
import Derived.Great.FillDense
import Derived.Great.BuildSlice
import Derived.Laws.AppendOwn
import Derived.Laws.StructEq
import Derived.Laws.BytesString
import Derived.Laws.MakeOwn
import Derived.Lib.UnsafeStr
set_option linter.unusedVariables false
set_option linter.unusedSimpArgs false
namespace Go.AW

/-- Values by content. -/
inductive V where
  | lit (v : Value)
  | agg (cs : List V)
  | tuple (cs : List V)
  | sl (full : Bool) (sz : Nat) (xs : List V)
  | vs (k : Nat) (a : Option Addr) (n cap : Nat)
  | pe (cs : List V)
  | func (fn : Fn) (first captured : List V)
  | iface (t : TypeId) (v : V)
  | any

def V.cells : V → List V
  | .agg cs => cs
  | v => [v]

/-- A value that fills one cell. -/
def V.one : V → Bool
  | .lit v => v.oneCell'
  | .sl .. | .vs .. | .pe _ | .func .. | .iface .. => true
  | .agg _ | .tuple _ | .any => false

/-- A value whose cells are known. -/
def V.okv : V → Bool
  | .agg cs => cs.all V.one
  | v => v.one

/-- The cells that never change any more, and what they hold. -/
abbrev Im := Nat → Nat → Option Value

def Im.le (G G' : Im) : Prop := ∀ b o u, G b o = some u → G' b o = some u

inductive VRel (G : Im) : V → Value → Prop
  | lit (v : Value) : VRel G (.lit v) v
  | any (v : Value) : VRel G .any v
  | agg {cs : List V} {xs : Array Value} (hn : cs.length = xs.size) (h : ∀ (i : Nat) (c : V) (x : Value), cs[i]? = some c → xs[i]? = some x → VRel G c x) : VRel G (.agg cs) (.agg xs)
  | tuple {cs : List V} {xs : Array Value} (hn : cs.length = xs.size) (h : ∀ (i : Nat) (c : V) (x : Value), cs[i]? = some c → xs[i]? = some x → VRel G c x) : VRel G (.tuple cs) (.tuple xs)
  | sl {full : Bool} {sz : Nat} {xs : List V} {a : Option Addr} {cap : Nat} (b o : Nat) (us : Nat → Value)
      (ha : xs ≠ [] → a = some ⟨b, o, none⟩) (hsz : ∀ x ∈ xs, x.cells.length = sz) (hok : ∀ x ∈ xs, V.okv x = true) (hcap : xs.length ≤ cap) (hfull : full = true → cap = xs.length)
      (hG : ∀ i, i < (xs.flatMap V.cells).length → G b (o + i) = some (us i))
      (h : ∀ (i : Nat) (c : V), (xs.flatMap V.cells)[i]? = some c → VRel G c (us i)) : VRel G (.sl full sz xs) (.slice a xs.length cap)
  | vs (k : Nat) (a : Option Addr) (n cap : Nat) : VRel G (.vs k a n cap) (.slice a n cap)
  | pe {cs : List V} (b o : Nat) (us : Nat → Value) (hG : ∀ i, i < cs.length → G b (o + i) = some (us i)) (h : ∀ (i : Nat) (c : V), cs[i]? = some c → VRel G c (us i)) :
      VRel G (.pe cs) (.pointer (some ⟨b, o, none⟩))
  | func {fn : Fn} {f c : List V} {f' c' : Array Value} (hf : f.length = f'.size) (hc : c.length = c'.size)
      (h : ∀ (i : Nat) (v : V) (x : Value), f[i]? = some v → f'[i]? = some x → VRel G v x) (h' : ∀ (i : Nat) (v : V) (x : Value), c[i]? = some v → c'[i]? = some x → VRel G v x) : VRel G (.func fn f c) (.func fn f' c')
  | iface {t : TypeId} {v : V} {x : Value} (h : VRel G v x) : VRel G (.iface t v) (.iface t x)

theorem VRel.mono {G G' : Im} (hle : Im.le G G') {v : V} {x : Value} (h : VRel G v x) : VRel G' v x := by
  induction h with
  | lit v => exact .lit v
  | any v => exact .any v
  | agg hn _ ih => exact .agg hn ih
  | tuple hn _ ih => exact .tuple hn ih
  | sl b o us ha hsz hok hcap hfull hG _ ih => exact .sl b o us ha hsz hok hcap hfull (fun i hi => hle _ _ _ (hG i hi)) ih
  | vs k a n cap => exact .vs k a n cap
  | pe b o us hG _ ih => exact .pe b o us (fun i hi => hle _ _ _ (hG i hi)) ih
  | func hf hc _ _ ih ih' => exact .func hf hc ih ih'
  | iface _ ih => exact .iface ih

theorem VRel.lit_inv {G : Im} {v x : Value} (h : VRel G (.lit v) x) : x = v := by cases h; rfl

theorem Im.le_refl (G : Im) : Im.le G G := fun _ _ _ h => h
theorem Im.le_trans {G G' G'' : Im} (h : Im.le G G') (h' : Im.le G' G'') : Im.le G G'' := fun b o u e => h' b o u (h b o u e)

/-- Pointwise. -/
def VRels (G : Im) (vs : List V) (xs : List Value) : Prop := vs.length = xs.length ∧ ∀ (i : Nat) (v : V) (x : Value), vs[i]? = some v → xs[i]? = some x → VRel G v x

theorem VRels.nil {G : Im} : VRels G [] [] := ⟨rfl, fun i v x h => by simp at h⟩
theorem VRels.cons {G : Im} {v : V} {x : Value} {vs : List V} {xs : List Value} (h : VRel G v x) (h' : VRels G vs xs) : VRels G (v :: vs) (x :: xs) := by
  refine ⟨by simp [h'.1], fun i v' x' hv hx => ?_⟩
  cases i with
  | zero => simp at hv hx; subst hv hx; exact h
  | succ i => simp at hv hx; exact h'.2 i v' x' hv hx
theorem VRels.cons_inv {G : Im} {v : V} {vs : List V} {xs : List Value} (h : VRels G (v :: vs) xs) : ∃ x xs', xs = x :: xs' ∧ VRel G v x ∧ VRels G vs xs' := by
  obtain ⟨hn, h⟩ := h
  cases xs with
  | nil => simp at hn
  | cons x xs => exact ⟨x, xs, rfl, h 0 v x rfl rfl, by simpa using hn, fun i v' x' hv hx => h (i + 1) v' x' (by simpa using hv) (by simpa using hx)⟩
theorem VRels.nil_inv {G : Im} {xs : List Value} (h : VRels G [] xs) : xs = [] := by
  cases xs with
  | nil => rfl
  | cons x xs => simp [VRels] at h
theorem VRels.mono {G G' : Im} (hle : Im.le G G') {vs : List V} {xs : List Value} (h : VRels G vs xs) : VRels G' vs xs :=
  ⟨h.1, fun i v x hv hx => (h.2 i v x hv hx).mono hle⟩
theorem VRels.append {G : Im} {vs vs' : List V} {xs xs' : List Value} (h : VRels G vs xs) (h' : VRels G vs' xs') : VRels G (vs ++ vs') (xs ++ xs') := by
  induction vs generalizing xs with
  | nil => rw [VRels.nil_inv h]; exact h'
  | cons v vs ih => obtain ⟨x, xs, rfl, h1, h2⟩ := h.cons_inv; exact .cons h1 (ih h2)
theorem VRels.get {G : Im} {vs : List V} {xs : List Value} (h : VRels G vs xs) {i : Nat} {v : V} (hv : vs[i]? = some v) : ∃ x, xs[i]? = some x ∧ VRel G v x := by
  have hi : i < xs.length := by rw [← h.1]; exact (List.getElem?_eq_some_iff.1 hv).1
  exact ⟨xs[i], by simp [hi], h.2 i v _ hv (by simp [hi])⟩

theorem VRel.agg' {G : Im} {cs : List V} {xs : List Value} (h : VRels G cs xs) : VRel G (.agg cs) (.agg xs.toArray) :=
  .agg (by simpa using h.1) (fun i c x hc hx => h.2 i c x hc (by simpa using hx))
theorem VRel.tuple' {G : Im} {cs : List V} {xs : List Value} (h : VRels G cs xs) : VRel G (.tuple cs) (.tuple xs.toArray) :=
  .tuple (by simpa using h.1) (fun i c x hc hx => h.2 i c x hc (by simpa using hx))
theorem VRel.agg_inv {G : Im} {cs : List V} {x : Value} (h : VRel G (.agg cs) x) : ∃ xs : List Value, x = .agg xs.toArray ∧ VRels G cs xs := by
  cases h with
  | agg hn h => rename_i xs; exact ⟨xs.toList, by simp, by simpa using hn, fun i v x hv hx => h i v x hv (by simpa using hx)⟩
theorem VRel.tuple_inv {G : Im} {cs : List V} {x : Value} (h : VRel G (.tuple cs) x) : ∃ xs : List Value, x = .tuple xs.toArray ∧ VRels G cs xs := by
  cases h with
  | tuple hn h => rename_i xs; exact ⟨xs.toList, by simp, by simpa using hn, fun i v x hv hx => h i v x hv (by simpa using hx)⟩
theorem VRel.func_inv {G : Im} {fn : Fn} {f c : List V} {x : Value} (h : VRel G (.func fn f c) x) : ∃ f' c' : List Value, x = .func fn f'.toArray c'.toArray ∧ VRels G f f' ∧ VRels G c c' := by
  cases h with
  | func hf hc h h' =>
    rename_i f' c'
    exact ⟨f'.toList, c'.toList, by simp, ⟨by simpa using hf, fun i v x hv hx => h i v x hv (by simpa using hx)⟩, ⟨by simpa using hc, fun i v x hv hx => h' i v x hv (by simpa using hx)⟩⟩
theorem VRel.func' {G : Im} {fn : Fn} {f c : List V} {f' c' : List Value} (h : VRels G f f') (h' : VRels G c c') : VRel G (.func fn f c) (.func fn f'.toArray c'.toArray) :=
  .func (by simpa using h.1) (by simpa using h'.1) (fun i v x hv hx => h.2 i v x hv (by simpa using hx)) (fun i v x hv hx => h'.2 i v x hv (by simpa using hx))

/-- A value as it stands: a struct's or an array's cells one by one. -/
def V.of : Value → V
  | .agg xs => .agg (xs.toList.map .lit)
  | .tuple xs => .tuple (xs.toList.map .lit)
  | v => .lit v
theorem VRels.lits (G : Im) (xs : List Value) : VRels G (xs.map .lit) xs := by
  induction xs with
  | nil => exact .nil
  | cons x xs ih => exact .cons (.lit x) ih
theorem VRel.of (G : Im) (v : Value) : VRel G (V.of v) v := by
  cases v <;> simp only [V.of] <;> first | exact .lit _ | skip
  · rename_i xs; have := VRel.agg' (VRels.lits G xs.toList); simpa using this
  · rename_i xs; have := VRel.tuple' (VRels.lits G xs.toList); simpa using this

theorem VRel.cells {G : Im} {v : V} {x : Value} (h : VRel G v x) (hv : v ≠ .any) (hx : ∀ xs, v = .lit (.agg xs) → False) : VRels G v.cells x.cells.toList := by
  cases h with
  | lit =>
    cases x <;> simp [V.cells, Value.cells] <;> first | exact .cons (.lit _) .nil | exact absurd rfl (fun e => hx _ e)
  | any v => exact absurd rfl hv
  | agg hn h => simp [V.cells, Value.cells]; exact ⟨by simpa using hn, fun i c x hc hx => h i c x hc (by simpa using hx)⟩
  | tuple hn h => simp [V.cells, Value.cells]; exact .cons (.tuple hn h) .nil
  | sl b o us ha hsz hok hcap hfull hG h => simp [V.cells, Value.cells]; exact .cons (.sl b o us ha hsz hok hcap hfull hG h) .nil
  | vs k a n cap => simp [V.cells, Value.cells]; exact .cons (.vs k a n cap) .nil
  | pe b o us hG h => simp [V.cells, Value.cells]; exact .cons (.pe b o us hG h) .nil
  | func hf hc h h' => simp [V.cells, Value.cells]; exact .cons (.func hf hc h h') .nil
  | iface h => simp [V.cells, Value.cells]; exact .cons (.iface h) .nil

/-! ### Resources -/

inductive Res where
  | objT (b : Nat) (cs : List V) (T : Option TypeId)
  | vec (k : Nat) (a : Option Addr) (cap sz : Nat) (xs : List V)
  | raw (b : Nat) (o : Obj)
  | lp (b : Nat) (n : Nat) (env : List (Nat × V)) (st : LoopState) (pend : Option Code) (ps : Array Tmp) (assign body : Code) (db : Nat)

def get (env : List (Nat × V)) (i : Nat) : V :=
  match env with
  | [] => .any
  | (k, v) :: e => if k = i then v else get e i

def EnvRel (G : Im) (n : Nat) (env : List (Nat × V)) (tmps : Array Value) : Prop := tmps.size = n ∧ ∀ i, VRel G (get env i) (tmps.getD i undef)

/-- An own block of whatever type. -/
abbrev Res.obj (b : Nat) (cs : List V) : Res := .objT b cs none

/-- The key of a slice that is owned whole, also where it is full, of elements of type T: that of the block b that holds it. -/
def bk (b T : Nat) : Nat := 100000 * (b + 1) + T
theorem bk_ge (b T : Nat) : 100000 ≤ bk b T := by unfold bk; omega
theorem bk_mod {b T : Nat} (h : T < 100000) : bk b T % 100000 = T := by unfold bk; omega

/-- Is the row behind it owned? -/
def ownB (k : Nat) (a : Option Addr) (n cap : Nat) : Bool := decide (n < cap) || (decide (100000 ≤ k) && a.isSome)

def Res.blk : Res → Option Nat
  | .objT b _ _ => some b
  | .vec k a cap _ xs => if ownB k a xs.length cap = true then a.map (·.block) else none
  | .raw b _ => some b
  | .lp b .. => some b

def Res.holds (G : Im) (w : World) : Res → Prop
  | .objT b cs T? => ∃ us T, w.heap[b]? = some (.cells us T (0, 0)) ∧ VRels G cs us.toList ∧ (∀ i, G b i = none) ∧ ∀ t, T? = some t → T = t
  | .vec k a cap sz xs => VRel G (.sl false sz xs) (.slice a xs.length cap) ∧
      (ownB k a xs.length cap = true → ∃ b us T, a = some ⟨b, 0, none⟩ ∧ w.heap[b]? = some (.cells us T (0, 0)) ∧ cap * sz ≤ us.size ∧ (100000 ≤ k → 0 < cap ∧ T = k % 100000) ∧ ∀ i, xs.length * sz ≤ i → G b i = none)
  | .raw b o => w.heap[b]? = some o ∧ o = o ∧ ∀ i, G b i = none
  | .lp b n env st pend ps assign body db => ∃ fn tmps, w.heap[b]? = some (.loop { state := st, pending := pend, fn, tmps, params := ps, assign, body, defers := db }) ∧ EnvRel G n env tmps ∧ ∀ i, G b i = none

def blks (S : List Res) : List Nat := S.filterMap Res.blk

structure Inv (G : Im) (w : World) (S : List Res) : Prop where
  im : ∀ b o u, G b o = some u → w.cell? ⟨b, o, none⟩ = some u
  res : ∀ r ∈ S, r.holds G w
  nd : (blks S).Nodup

/-- What a piece of code may do to the world, given the resources that it holds. -/
structure Evol (S : List Res) (G : Im) (w : World) (S' : List Res) (G' : Im) (w' : World) : Prop where
  size : w.heap.size ≤ w'.heap.size
  tape : w'.tape = w.tape
  os : w'.os = w.os
  out : w'.output = w.output
  im : Im.le G G'
  keep : ∀ b, b < w.heap.size → b ∉ blks S → w'.heap[b]? = w.heap[b]?
  keepG : ∀ b, b < w.heap.size → b ∉ blks S → ∀ o, G' b o = G b o
  own : ∀ b, b ∈ blks S' → b ∈ blks S ∨ w.heap.size ≤ b

theorem Evol.refl (S : List Res) (G : Im) (w : World) : Evol S G w S G w :=
  ⟨Nat.le_refl _, rfl, rfl, rfl, Im.le_refl _, fun _ _ _ => rfl, fun _ _ _ _ => rfl, fun _ h => .inl h⟩

theorem Evol.trans {S S' S'' : List Res} {G G' G'' : Im} {w w' w'' : World} (h : Evol S G w S' G' w') (h' : Evol S' G' w' S'' G'' w'') : Evol S G w S'' G'' w'' := by
  have hn : ∀ b, b < w.heap.size → b ∉ blks S → b ∉ blks S' := fun b hb hs hs' => by
    rcases h.own b hs' with h1 | h1
    · exact hs h1
    · omega
  refine ⟨Nat.le_trans h.size h'.size, h'.tape.trans h.tape, h'.os.trans h.os, h'.out.trans h.out, Im.le_trans h.im h'.im, fun b hb hs => ?_, fun b hb hs o => ?_, fun b hb => ?_⟩
  · rw [h'.keep b (Nat.lt_of_lt_of_le hb h.size) (hn b hb hs), h.keep b hb hs]
  · rw [h'.keepG b (Nat.lt_of_lt_of_le hb h.size) (hn b hb hs), h.keepG b hb hs]
  · rcases h'.own b hb with h1 | h1
    · exact h.own b h1
    · exact .inr (Nat.le_trans h.size h1)

/-! ### One value said otherwise -/

def VLe (S : List Res) (v v' : V) : Prop := ∀ G w x, Inv G w S → VRel G v x → VRel G v' x
theorem VLe.refl (S : List Res) (v : V) : VLe S v v := fun _ _ _ _ h => h

end Go.AW
/- The engine AW, part 2: states, the wp of code, the contract of a call. -/
set_option linter.unusedVariables false
set_option linter.unusedSimpArgs false
namespace Go.AW

/-- The state of an activation: so many slots, what they hold, resources, deferred calls. -/
structure St where
  n : Nat
  env : List (Nat × V)
  S : List Res
  ds : List Deferred

structure Rel (G : Im) (w : World) (a : Act) (st : St) : Prop where
  env : EnvRel G st.n st.env a.tmps
  ds : a.defers = st.ds
  inv : Inv G w st.S

def WF (ro : Option Nat) : Fence := { Fence.wide with round := ro }

theorem wf_fn {ro : Option Nat} {f : FuncId} : (WF ro).fn f := trivial
theorem wf_none : WF none = Fence.wide := rfl

/-- What is known behind: some evolution, and a state that fits. -/
def Post (st : St) (G : Im) (w : World) (Q : Exit → St → Prop) (e : Exit) (a' : Act) (w' : World) : Prop :=
  ∃ G' st', Evol st.S G w st'.S G' w' ∧ Rel G' w' a' st' ∧ Q e st'

def AWP (ro : Option Nat) (P : Program) (c : Code) (Q : Exit → St → Prop) (st : St) : Prop :=
  ∀ G w a, Rel G w a st → c.wpIn (WF ro) 0 P (Post st G w Q) a w

/-- A step of the prover's alone: the world stays, what is said of it turns. -/
def StLe (st st' : St) : Prop := ∀ G w a, Rel G w a st → ∃ G', Evol st.S G w st'.S G' w ∧ Rel G' w a st'

theorem StLe.refl (st : St) : StLe st st := fun G w a h => ⟨G, .refl _ _ _, h⟩
theorem StLe.trans {st st' st'' : St} (h : StLe st st') (h' : StLe st' st'') : StLe st st'' := fun G w a hr =>
  let ⟨G', e, r⟩ := h G w a hr
  let ⟨G'', e', r'⟩ := h' G' w a r
  ⟨G'', e.trans e', r'⟩

section
variable {ro : Option Nat} {P : Program} {Q Q' : Exit → St → Prop} {st st' : St}

theorem AWP.mono {c : Code} (h : AWP ro P c Q st) (hq : ∀ e st, Q e st → Q' e st) : AWP ro P c Q' st := fun G w a hr =>
  wpIn_mono (h G w a hr) fun e a' w' ⟨G', st', he, hr', hq'⟩ => ⟨G', st', he, hr', hq _ _ hq'⟩

theorem AWP.le {c : Code} (hle : StLe st st') (h : AWP ro P c Q st') : AWP ro P c Q st := fun G w a hr =>
  let ⟨G', e, r⟩ := hle G w a hr
  wpIn_mono (h G' w a r) fun e' a' w' ⟨G'', st'', he, hr', hq'⟩ => ⟨G'', st'', e.trans he, hr', hq'⟩

/-- From a place on the way: what holds behind it holds behind all. -/
theorem AWP.from {c : Code} {G G' : Im} {w w' : World} {a' : Act} (he : Evol st.S G w st'.S G' w') (hr : Rel G' w' a' st') (h : AWP ro P c Q st') :
    c.wpIn (WF ro) 0 P (Post st G w Q) a' w' :=
  wpIn_mono (h G' w' a' hr) fun e' a'' w'' ⟨G'', st'', he', hr', hq'⟩ => ⟨G'', st'', he.trans he', hr', hq'⟩

theorem Post.here {e : Exit} {G : Im} {w : World} {a : Act} (hr : Rel G w a st) (h : Q e st) : Post st G w Q e a w := ⟨G, st, .refl _ _ _, hr, h⟩

theorem AWP.skip (h : Q .normal st) : AWP ro P .skip Q st := fun G w a hr => wpIn_skip (.here hr h)
theorem AWP.label {l : Nat} (h : Q .normal st) : AWP ro P (.label l) Q st := fun G w a hr => wpIn_label (.here hr h)
theorem AWP.exit {id : Nat} (h : Q (.exit id) st) : AWP ro P (.exit id) Q st := fun G w a hr => wpIn_exit (.here hr h)
theorem AWP.goto {l : Nat} (h : Q (.goto l) st) : AWP ro P (.goto l) Q st := fun G w a hr => wpIn_goto (.here hr h)
theorem AWP.ret (h : Q .ret st) : AWP ro P .ret Q st := fun G w a hr => wpIn_ret (.here hr h)

/-- Behind the first part: on with the second one. -/
def thenQ (next : St → Prop) (Q : Exit → St → Prop) : Exit → St → Prop
  | .normal, st => next st
  | e, st => Q e st

theorem AWP.seq {x y : Code} (h : AWP ro P x (thenQ (AWP ro P y Q) Q) st) : AWP ro P (.seq x y) Q st := fun G w a hr => by
  refine wpIn_seq (wpIn_mono (h G w a hr) fun e a' w' ⟨G', st', he, hr', hq⟩ => ?_)
  cases e with
  | normal => exact AWP.from he hr' hq
  | exit id => exact ⟨G', st', he, hr', hq⟩
  | goto l => exact ⟨G', st', he, hr', hq⟩
  | ret => exact ⟨G', st', he, hr', hq⟩
  | panic ch => exact ⟨G', st', he, hr', hq⟩
  | outgrown => exact ⟨G', st', he, hr', hq⟩

def blockQ (id : Nat) (Q : Exit → St → Prop) : Exit → St → Prop
  | .exit id', st => if id' = id then Q .normal st else Q (.exit id') st
  | e, st => Q e st

theorem AWP.block {id : Nat} {c : Code} (h : AWP ro P c (blockQ id Q) st) : AWP ro P (.block id c) Q st := fun G w a hr => by
  refine wpIn_block (wpIn_mono (h G w a hr) fun e a' w' ⟨G', st', he, hr', hq⟩ => ?_)
  cases e with
  | exit id' =>
    simp only [blockQ] at hq
    simp only [Exit.inBlock]
    split
    · rename_i hid; rw [if_pos hid] at hq; exact ⟨G', st', he, hr', hq⟩
    · rename_i hid; rw [if_neg hid] at hq; exact ⟨G', st', he, hr', hq⟩
  | normal => exact ⟨G', st', he, hr', hq⟩
  | goto l => exact ⟨G', st', he, hr', hq⟩
  | ret => exact ⟨G', st', he, hr', hq⟩
  | panic ch => exact ⟨G', st', he, hr', hq⟩
  | outgrown => exact ⟨G', st', he, hr', hq⟩

/-- What a round of a loop has to come to. -/
def roundQ {ι : Type} (ok : ι → Prop) (μ : ι → Nat) (inv : ι → St) (m : Nat) (Q : Exit → St → Prop) : Exit → St → Prop
  | .normal, st => ∃ j, ok j ∧ μ j < m ∧ StLe st (inv j)
  | e, st => Q e st

theorem AWP.loop {ι : Type} {c : Code} (ok : ι → Prop) (μ : ι → Nat) (inv : ι → St) (i₀ : ι) (hok : ok i₀) (h0 : StLe st (inv i₀)) (round : ∀ i, ok i → AWP ro P c (roundQ ok μ inv (μ i) Q) (inv i)) :
    AWP ro P (.loop c) Q st := by
  have key : ∀ m i, ok i → μ i < m → ∀ st0 G0 w0 G w a, Evol st0.S G0 w0 (inv i).S G w → Rel G w a (inv i) → Code.roundsIn (WF ro) 0 P c (Post st0 G0 w0 Q) m a w := by
    intro m
    induction m with
    | zero => intro i _ hi; omega
    | succ m ih =>
      intro i hoki hi st0 G0 w0 G w a he hr
      rw [roundsIn_succ]
      refine wpIn_mono (AWP.from he hr (round i hoki)) fun e a' w' ⟨G', st', he', hr', hq⟩ => ?_
      cases e with
      | normal =>
        obtain ⟨j, hokj, hj, hle⟩ := hq
        obtain ⟨G'', e'', r''⟩ := hle G' w' a' hr'
        exact ih j hokj (by omega) st0 G0 w0 G'' w' a' (he'.trans e'') r''
      | exit id => exact ⟨G', st', he', hr', hq⟩
      | goto l => exact ⟨G', st', he', hr', hq⟩
      | ret => exact ⟨G', st', he', hr', hq⟩
      | panic ch => exact ⟨G', st', he', hr', hq⟩
      | outgrown => exact ⟨G', st', he', hr', hq⟩
  refine AWP.le h0 fun G w a hr => wpIn_loop_rounds (μ i₀ + 1) (key _ i₀ hok (by omega) (inv i₀) G w G w a (.refl _ _ _) hr)

/-! ### Slots -/

theorem get_cons (k : Nat) (v : V) (e : List (Nat × V)) (i : Nat) : get ((k, v) :: e) i = if k = i then v else get e i := rfl
theorem get_nil (i : Nat) : get [] i = .any := rfl

def St.get (st : St) (i : Nat) : V := AW.get st.env i

def St.opnd (st : St) : Operand → V
  | .tmp t => AW.get st.env t
  | .const v => V.of v
  | .global g => .lit (.pointer (some ⟨g, 0, none⟩))
  | .func f => .lit (.func (.func f) #[] #[])

theorem Rel.opnd {G : Im} {w : World} {a : Act} (hr : Rel G w a st) (x : Operand) : VRel G (st.opnd x) (a.eval x) := by
  cases x with
  | tmp t => exact hr.env.2 t
  | const v => exact .of G v
  | global g => exact .lit _
  | func f => exact .lit _

def St.put (st : St) (dst : Option Nat) (v : V) : St :=
  match dst with
  | some d => { st with env := (d, v) :: st.env }
  | none => st

theorem EnvRel.put {G : Im} {n : Nat} {env : List (Nat × V)} {tmps : Array Value} (h : EnvRel G n env tmps) {d : Nat} (hd : d < n) {v : V} {x : Value} (hv : VRel G v x) :
    EnvRel G n ((d, v) :: env) (tmps.setIfInBounds d x) := by
  refine ⟨by simp [h.1], fun i => ?_⟩
  rw [get_cons]
  split
  · rename_i e; subst e
    have : d < tmps.size := by rw [h.1]; exact hd
    simpa [Array.getD, this] using hv
  · rename_i hne
    have := h.2 i
    simpa [Array.getElem?_setIfInBounds_ne hne] using this
theorem EnvRel.mono {G G' : Im} (hle : Im.le G G') {n : Nat} {env : List (Nat × V)} {tmps : Array Value} (h : EnvRel G n env tmps) : EnvRel G' n env tmps :=
  ⟨h.1, fun i => (h.2 i).mono hle⟩

def dstOk (n : Nat) : Option Nat → Prop
  | some d => d < n
  | none => True

/-- Behind an operation that leaves x in its slot. -/
theorem Rel.put {G G' : Im} {w w' : World} {a : Act} (hr : Rel G w a st) {S' : List Res} (he : Evol st.S G w S' G' w') (hi : Inv G' w' S') {dst : Option Nat} (hd : dstOk st.n dst) {v : V} {x : Value} (hv : VRel G' v x) :
    Rel G' w' (a.put dst x) (St.put { st with S := S' } dst v) := by
  cases dst with
  | none => exact ⟨hr.env.mono he.im, hr.ds, hi⟩
  | some d => exact ⟨(hr.env.mono he.im).put hd hv, hr.ds, hi⟩
end

/-! ### Calls -/

inductive Out where
  | ret (v : V)
  | panic (v : Value)

inductive ERel (G : Im) : Out → Ending → Prop
  | ret {v : V} {x : Value} (h : VRel G v x) : ERel G (.ret v) (.returned x)
  | panic (v : Value) : ERel G (.panic v) (.panicked [{ v, recovered := false }])

def CPost (S : List Res) (G : Im) (w : World) (Q : Out → List Res → Prop) (e : Ending) (w' : World) : Prop :=
  ∃ G' S' o, Evol S G w S' G' w' ∧ Inv G' w' S' ∧ ERel G' o e ∧ Q o S'

def ACall (P : Program) (f : FuncId) (args : List V) (S : List Res) (Q : Out → List Res → Prop) : Prop :=
  ∀ G w xs, VRels G args xs → Inv G w S → Calls P f xs.toArray w (CPost S G w Q)

theorem ACall.mono {P : Program} {f : FuncId} {args : List V} {S : List Res} {Q Q' : Out → List Res → Prop} (h : ACall P f args S Q) (hq : ∀ o S', Q o S' → Q' o S') : ACall P f args S Q' :=
  fun G w xs ha hi => (h G w xs ha hi).mono fun e w' ⟨G', S', o, he, hi', her, hq'⟩ => ⟨G', S', o, he, hi', her, hq _ _ hq'⟩

end Go.AW
/- The engine AW, part 3: operations. -/
set_option linter.unusedVariables false
set_option linter.unusedSimpArgs false
namespace Go.AW

def AOp (ro : Option Nat) (P : Program) (o : Oper) (K : St → Prop) (Q : Exit → St → Prop) (st : St) : Prop :=
  ∀ G w a, Rel G w a st → o.wpIn (WF ro) 0 P a w (fun a' w' => ∃ G' st', Evol st.S G w st'.S G' w' ∧ Rel G' w' a' st' ∧ K st') (Post st G w Q)

section
variable {ro : Option Nat} {P : Program} {o : Oper} {K : St → Prop} {Q : Exit → St → Prop} {st : St}

def Op.isDefer : Op → Bool
  | .defer _ => true
  | _ => false

theorem AOp.value (hd : dstOk st.n o.dst) (hdf : Op.isDefer o.op = false)
    (h : ∀ G w a, Rel G w a st → ∃ x w' G' v S', (execOp a.eval o).run P w = .ok (.value x) w' ∧ Evol st.S G w S' G' w' ∧ Inv G' w' S' ∧ VRel G' v x ∧ K (St.put { st with S := S' } o.dst v)) : AOp ro P o K Q st := by
  intro G w a hr
  obtain ⟨x, w', G', v, S', hrun, he, hi, hv, hk⟩ := h G w a hr
  refine ⟨fun _ _ => trivial, ?_⟩
  rw [Oper.semAt_eq _ _ _ (fun c hc => by simp [Op.isDefer, hc] at hdf), hrun]
  exact ⟨G', _, by cases o.dst <;> exact he, hr.put he hi hd hv, hk⟩

theorem AOp.skip (hd : dstOk st.n o.dst) (hdf : Op.isDefer o.op = false)
    (h : ∀ G w a, Rel G w a st → ∃ w' G' S', (execOp a.eval o).run P w = .ok .skip w' ∧ Evol st.S G w S' G' w' ∧ Inv G' w' S' ∧ K (St.put { st with S := S' } o.dst (.lit undef))) : AOp ro P o K Q st := by
  intro G w a hr
  obtain ⟨w', G', S', hrun, he, hi, hk⟩ := h G w a hr
  refine ⟨fun _ _ => trivial, ?_⟩
  rw [Oper.semAt_eq _ _ _ (fun c hc => by simp [Op.isDefer, hc] at hdf), hrun]
  exact ⟨G', _, by cases o.dst <;> exact he, hr.put he hi hd (.lit _), hk⟩

/-- An operation that looks at its operands alone and leaves the world as it is. -/
theorem AOp.pure {v : V} (hd : dstOk st.n o.dst) (hdf : Op.isDefer o.op = false)
    (h : ∀ G w a, Rel G w a st → ∃ x, (execOp a.eval o).run P w = .ok (.value x) w ∧ VRel G v x) (hk : K (st.put o.dst v)) : AOp ro P o K Q st :=
  AOp.value hd hdf fun G w a hr =>
    let ⟨x, hx, hv⟩ := h G w a hr
    ⟨x, w, G, v, st.S, hx, .refl _ _ _, hr.inv, hv, hk⟩

def ImHold (G : Im) (w : World) : Prop := ∀ b o u, G b o = some u → w.cell? ⟨b, o, none⟩ = some u

/-- One value, whatever the world, as long as what never changes stands. -/
def AYield (P : Program) (o : Oper) (st : St) (v : V) : Prop :=
  ∀ G w a, Rel G w a st → ∃ x, (∀ w', ImHold G w' → (execOp a.eval o).run P w' = .ok (.value x) w') ∧ VRel G v x

def ATake (P : Program) (o : Oper) (K : St → Prop) (st : St) : Prop := dstOk st.n o.dst ∧ Op.isDefer o.op = false ∧ ∃ v, AYield P o st v ∧ K (st.put o.dst v)

theorem AT.pure {v : V} (hd : dstOk st.n o.dst) (hdf : Op.isDefer o.op = false)
    (h : ∀ G w a, Rel G w a st → ∃ x, (∀ w', ImHold G w' → (execOp a.eval o).run P w' = .ok (.value x) w') ∧ VRel G v x) (hk : K (st.put o.dst v)) : ATake P o K st := ⟨hd, hdf, v, h, hk⟩
theorem ATake.aop (h : ATake P o K st) : AOp ro P o K Q st :=
  let ⟨hd, hdf, v, h1, hk⟩ := h
  AOp.pure hd hdf (fun G w a hr => let ⟨x, hx, hv⟩ := h1 G w a hr; ⟨x, hx w hr.inv.im, hv⟩) hk
end

theorem St.put_S (st : St) (d : Option Nat) (v : V) : (st.put d v).S = st.S := by cases d <;> rfl
theorem St.put_n (st : St) (d : Option Nat) (v : V) : (st.put d v).n = st.n := by cases d <;> rfl

/-! ### Regions in their written order -/

def AOps (ro : Option Nat) (P : Program) (ops : Array Oper) (Q : Exit → St → Prop) : List Oper → St → Prop
  | [], st => Q .normal st
  | o :: rest, st =>
    match o.guard with
    | none => AOp ro P o (AOps ro P ops Q rest) Q st
    | some (j, want) =>
      match ((ops[j]?).bind (·.dst)) with
      | none => False
      | some d =>
        match AW.get st.env d with
        | .lit (.bool b) => if b = want then AOp ro P o (AOps ro P ops Q rest) Q st else dstOk st.n o.dst ∧ AOps ro P ops Q rest (st.put o.dst (.lit undef))
        | .lit (.tuple _) => dstOk st.n o.dst ∧ AOps ro P ops Q rest (st.put o.dst (.lit undef))
        | _ => False

theorem wpListIn_of {ro : Option Nat} {P : Program} {ops : Array Oper} {Q : Exit → St → Prop} : ∀ (l : List Oper) (st : St), AOps ro P ops Q l st →
    ∀ st0 G0 w0 G w a, Evol st0.S G0 w0 st.S G w → Rel G w a st → wpListIn (WF ro) 0 P ops (Post st0 G0 w0 Q) l a w := by
  intro l
  induction l with
  | nil => intro st h st0 G0 w0 G w a he hr; exact ⟨G, st, he, hr, h⟩
  | cons o rest ih =>
    intro st h st0 G0 w0 G w a he hr
    have run : ∀ (h : AOp ro P o (AOps ro P ops Q rest) Q st) , o.wpIn (WF ro) 0 P a w (wpListIn (WF ro) 0 P ops (Post st0 G0 w0 Q) rest) (Post st0 G0 w0 Q) := by
      intro h
      have h1 := h G w a hr
      refine ⟨h1.1, ?_⟩
      have h2 := h1.2
      generalize (o.semAt (WF ro).round a.eval).run P w = r at h2
      cases r with
      | ok nx w' =>
        cases nx with
        | value v => obtain ⟨G', st', he', hr', hk⟩ := h2; exact ih st' hk st0 G0 w0 G' w' _ (he.trans he') hr'
        | skip => obtain ⟨G', st', he', hr', hk⟩ := h2; exact ih st' hk st0 G0 w0 G' w' _ (he.trans he') hr'
        | defer d => obtain ⟨G', st', he', hr', hk⟩ := h2; exact ih st' hk st0 G0 w0 G' w' _ (he.trans he') hr'
        | enter f args =>
          refine ⟨h2.1, ⟨h2.2.1, fun cs hroom => ?_⟩⟩
          obtain ⟨e, w'', fr, hR, rest'⟩ := h2.2.2 cs hroom
          refine ⟨e, w'', fr, ?_, rest'⟩
          cases e with
          | returned v => obtain ⟨G', st', he', hr', hk⟩ := hR; exact ih st' hk st0 G0 w0 G' w'' _ (he.trans he') hr'
          | panicked chain => obtain ⟨G', st', he', hr', hk⟩ := hR; exact ⟨G', st', he.trans he', hr', hk⟩
          | outgrown => obtain ⟨a₀, w₀, G', st', he', hr', hk⟩ := hR; exact ⟨a₀, w₀, G', st', he.trans he', hr', hk⟩
        | row row args =>
          refine ⟨h2.1, fun c cs hroom => ?_⟩
          obtain ⟨v, w'', hR, rest'⟩ := h2.2 c cs hroom
          obtain ⟨G', st', he', hr', hk⟩ := hR
          exact ⟨v, w'', ih st' hk st0 G0 w0 G' w'' _ (he.trans he') hr', rest'⟩
        | round l f tmps assign body =>
          refine ⟨h2.1, ⟨h2.2.1, fun c cs hroom => ?_⟩⟩
          obtain ⟨e, w'', hR, rest'⟩ := h2.2.2 c cs hroom
          refine ⟨e, w'', ?_, rest'⟩
          cases e with
          | returned v => obtain ⟨G', st', he', hr', hk⟩ := hR; exact ih st' hk st0 G0 w0 G' w'' _ (he.trans he') hr'
          | panicked chain => obtain ⟨G', st', he', hr', hk⟩ := hR; exact ⟨G', st', he.trans he', hr', hk⟩
          | outgrown => obtain ⟨a₀, w₀, G', st', he', hr', hk⟩ := hR; exact ⟨a₀, w₀, G', st', he.trans he', hr', hk⟩
        | _ => exact h2.elim
      | halt x w' =>
        cases x with
        | panic v => obtain ⟨G', st', he', hr', hk⟩ := h2; exact ⟨G', st', he.trans he', hr', hk⟩
        | _ => exact h2.elim
    have pass : ∀ (h : dstOk st.n o.dst ∧ AOps ro P ops Q rest (st.put o.dst (.lit undef))), wpListIn (WF ro) 0 P ops (Post st0 G0 w0 Q) rest (a.put o.dst undef) w := by
      intro h
      refine ih _ h.2 st0 G0 w0 G w _ (by rw [St.put_S]; exact he) ?_
      have := hr.put (.refl _ _ _) hr.inv h.1 (.lit undef)
      exact this
    simp only [wpListIn]
    unfold AOps at h
    split at h
    · rename_i hg
      have hw : Region.wanted o (yielded ops a.tmps) = true := by simp [Region.wanted, hg]
      rw [if_pos hw]; exact run h
    · rename_i j want hg
      split at h
      · exact h.elim
      · rename_i d hd
        have hy : yielded ops a.tmps j = match a.tmps[d]? with | some (.bool b) => some b | _ => none := by simp [yielded, hd]; rfl
        have hrel := hr.env.2 d
        split at h
        · rename_i b hb
          rw [hb] at hrel
          have hx := hrel.lit_inv
          have hy' : yielded ops a.tmps j = some b := by
            rw [hy]
            cases hdt : a.tmps[d]? with
            | none => simp [hdt, undef] at hx
            | some u => simp [hdt] at hx; subst hx; rfl
          split at h
          · rename_i hbw
            have hw : Region.wanted o (yielded ops a.tmps) = true := by simp [Region.wanted, hg, hy', hbw]
            rw [if_pos hw]; exact run h
          · rename_i hbw
            have hw : ¬ Region.wanted o (yielded ops a.tmps) = true := by simp [Region.wanted, hg, hy', hbw]
            rw [if_neg hw]; exact ⟨fun _ _ => trivial, pass h⟩
        · rename_i t hb
          rw [hb] at hrel
          have hx := hrel.lit_inv
          have hy' : yielded ops a.tmps j = none := by
            rw [hy]
            cases hdt : a.tmps[d]? with
            | none => rfl
            | some u => simp [hdt] at hx; subst hx; rfl
          have hw : ¬ Region.wanted o (yielded ops a.tmps) = true := by simp [Region.wanted, hg, hy']
          rw [if_neg hw]; exact ⟨fun _ _ => trivial, pass h⟩
        · exact h.elim

theorem AWP.region {ro : Option Nat} {P : Program} {id : Nat} {l : List Oper} {Q : Exit → St → Prop} {st : St} (h : AOps ro P l.toArray Q l st) : AWP ro P (.region id l.toArray false) Q st :=
  fun G w a hr => wpIn_region_lit (wpListIn_of l st h st G w G w a (.refl _ _ _) hr)

end Go.AW
/- The engine AW, part 4: memory: own blocks, new blocks, blocks that never change. -/
set_option linter.unusedVariables false
set_option linter.unusedSimpArgs false
namespace Go.AW

def findObj : List Res → Nat → Option (List V)
  | [], _ => none
  | .objT b cs _ :: S, x => if b = x then some cs else findObj S x
  | .vec .. :: S, x => findObj S x
  | .raw .. :: S, x => findObj S x
  | .lp .. :: S, x => findObj S x

def setObj : List Res → Nat → List V → List Res
  | [], _, _ => []
  | .objT b cs T :: S, x, cs' => if b = x then .objT b cs' T :: S else .objT b cs T :: setObj S x cs'
  | r :: S, x, cs' => r :: setObj S x cs'

theorem findObj_mem {S : List Res} {b : Nat} {cs : List V} (h : findObj S b = some cs) : ∃ T, Res.objT b cs T ∈ S := by
  induction S with
  | nil => simp [findObj] at h
  | cons r S ih =>
    cases r with
    | objT b' cs' T' =>
      simp only [findObj] at h
      split at h
      · rename_i e; subst e; simp at h; subst h; exact ⟨T', List.mem_cons_self⟩
      · obtain ⟨T, hT⟩ := ih h; exact ⟨T, List.mem_cons_of_mem _ hT⟩
    | _ => obtain ⟨T, hT⟩ := ih h; exact ⟨T, List.mem_cons_of_mem _ hT⟩

theorem mem_blks {S : List Res} {b : Nat} : b ∈ blks S ↔ ∃ r ∈ S, r.blk = some b := by simp [blks]

theorem findObj_blks {S : List Res} {b : Nat} {cs : List V} (h : findObj S b = some cs) : b ∈ blks S := (findObj_mem h).elim fun T hT => mem_blks.2 ⟨_, hT, rfl⟩

theorem blks_setObj (S : List Res) (b : Nat) (cs : List V) : blks (setObj S b cs) = blks S := by
  induction S with
  | nil => rfl
  | cons r S ih =>
    cases r with
    | objT b' cs' T' =>
      simp only [setObj]
      split
      · simp [blks, Res.blk]
      · simp only [blks] at ih ⊢; simp [Res.blk, ih]
    | vec k a cap sz xs => simp only [setObj, blks, List.filterMap_cons] at ih ⊢; rw [ih]
    | raw b' o => simp only [setObj, blks, List.filterMap_cons] at ih ⊢; rw [ih]
    | lp => simp only [setObj, blks, List.filterMap_cons] at ih ⊢; rw [ih]

theorem nodup_tail {r : Res} {S : List Res} (h : (blks (r :: S)).Nodup) : (blks S).Nodup := by
  simp only [blks, List.filterMap_cons] at h ⊢
  split at h
  · exact h
  · exact (List.nodup_cons.1 h).2
theorem nodup_head {r : Res} {S : List Res} {b : Nat} (h : (blks (r :: S)).Nodup) (hb : b ∈ blks S) : r.blk ≠ some b := fun e => by
  simp only [blks, List.filterMap_cons, e] at h
  exact (List.nodup_cons.1 h).1 hb

theorem mem_setObj {S : List Res} {b : Nat} {cs c0 : List V} {r : Res} (h : r ∈ setObj S b cs) (hnd : (blks S).Nodup) (hf : findObj S b = some c0) : (∃ T, Res.objT b c0 T ∈ S ∧ r = .objT b cs T) ∨ (r ∈ S ∧ r.blk ≠ some b) := by
  induction S with
  | nil => simp [findObj] at hf
  | cons r' S ih =>
    have rest : findObj S b = some c0 → r = r' ∨ r ∈ setObj S b cs → (∃ T, Res.objT b c0 T ∈ r' :: S ∧ r = .objT b cs T) ∨ (r ∈ r' :: S ∧ r.blk ≠ some b) := fun hf2 h => by
      rcases h with rfl | h
      · exact .inr ⟨List.mem_cons_self, nodup_head hnd (findObj_blks hf2)⟩
      · rcases ih h (nodup_tail hnd) hf2 with ⟨T, h1, h2⟩ | ⟨h1, h2⟩
        · exact .inl ⟨T, List.mem_cons_of_mem _ h1, h2⟩
        · exact .inr ⟨List.mem_cons_of_mem _ h1, h2⟩
    cases r' with
    | objT b' cs' T' =>
      by_cases e : b' = b
      · subst e
        simp only [setObj, if_true] at h
        simp only [findObj, if_true, Option.some.injEq] at hf
        subst hf
        rcases List.mem_cons.1 h with rfl | h
        · exact .inl ⟨T', List.mem_cons_self, rfl⟩
        · exact .inr ⟨List.mem_cons_of_mem _ h, fun e => nodup_head hnd (mem_blks.2 ⟨r, h, e⟩) rfl⟩
      · simp only [setObj, if_neg e] at h
        simp only [findObj, if_neg e] at hf
        exact rest hf (List.mem_cons.1 h)
    | vec => exact rest (by simpa [findObj] using hf) (by simpa [setObj] using h)
    | raw => exact rest (by simpa [findObj] using hf) (by simpa [setObj] using h)
    | lp => exact rest (by simpa [findObj] using hf) (by simpa [setObj] using h)

/-- With one block only turned, and the cells that never change as they were: whatever does not lie in it holds. -/
theorem Res.holds_of {G G' : Im} {w w' : World} {r : Res} (h : r.holds G w) (hle : Im.le G G') (hh : ∀ b, r.blk = some b → w'.heap[b]? = w.heap[b]? ∧ ∀ o, G' b o = G b o) : r.holds G' w' := by
  cases r with
  | objT b cs T? =>
    obtain ⟨us, T, h1, h2, h3, h4⟩ := h
    obtain ⟨e1, e2⟩ := hh b rfl
    exact ⟨us, T, e1.trans h1, h2.mono hle, fun i => (e2 i).trans (h3 i), h4⟩
  | vec k a cap sz xs =>
    refine ⟨h.1.mono hle, fun hlt => ?_⟩
    obtain ⟨b, us, T, rfl, h2, h3, h5, h4⟩ := h.2 hlt
    obtain ⟨e1, e2⟩ := hh b (by simp [Res.blk, hlt])
    exact ⟨b, us, T, rfl, e1.trans h2, h3, h5, fun i hi => (e2 i).trans (h4 i hi)⟩
  | raw b o =>
    obtain ⟨e1, e2⟩ := hh b rfl
    exact ⟨e1.trans h.1, h.2.1, fun i => (e2 i).trans (h.2.2 i)⟩
  | lp b n env st pend ps assign body db =>
    obtain ⟨fn, tmps, h1, h2, h3⟩ := h
    obtain ⟨e1, e2⟩ := hh b rfl
    exact ⟨fn, tmps, e1.trans h1, h2.mono hle, fun i => (e2 i).trans (h3 i)⟩

theorem Res.blk_lt {G : Im} {w : World} {r : Res} (h : r.holds G w) {b : Nat} (hb : r.blk = some b) : b < w.heap.size := by
  cases r with
  | objT b' cs T' => obtain ⟨us, T, h1, _⟩ := h; simp [Res.blk] at hb; subst hb; exact (Array.getElem?_eq_some_iff.1 h1).1
  | vec k a cap sz xs =>
    simp only [Res.blk] at hb
    split at hb
    · rename_i hlt
      obtain ⟨b', us, T, rfl, h2, _⟩ := h.2 hlt
      simp at hb; subst hb; exact (Array.getElem?_eq_some_iff.1 h2).1
    · cases hb
  | raw b' o => simp [Res.blk] at hb; subst hb; exact (Array.getElem?_eq_some_iff.1 h.1).1
  | lp b' => obtain ⟨fn, tmps, h1, _⟩ := h; simp [Res.blk] at hb; subst hb; exact (Array.getElem?_eq_some_iff.1 h1).1

theorem Inv.lt {G : Im} {w : World} {S : List Res} (h : Inv G w S) {b : Nat} (hb : b ∈ blks S) : b < w.heap.size := by
  obtain ⟨r, hr, e⟩ := mem_blks.1 hb
  exact Res.blk_lt (h.res r hr) e

theorem World.cell?_lt {w : World} {b o : Nat} {u : Value} (h : w.cell? ⟨b, o, none⟩ = some u) : b < w.heap.size := by
  simp only [World.cell?] at h
  cases hb : w.heap[b]? with
  | none => simp [hb] at h
  | some x => exact (Array.getElem?_eq_some_iff.1 hb).1

theorem Inv.G_lt {G : Im} {w : World} {S : List Res} (h : Inv G w S) {b o : Nat} {u : Value} (hg : G b o = some u) : b < w.heap.size := World.cell?_lt (h.im b o u hg)

theorem Inv.G_new {G : Im} {w : World} {S : List Res} (h : Inv G w S) {b : Nat} (hb : w.heap.size ≤ b) (o : Nat) : G b o = none := by
  cases hg : G b o with
  | none => rfl
  | some u => exact absurd (h.G_lt hg) (by omega)

theorem Inv.obj {G : Im} {w : World} {S : List Res} (h : Inv G w S) {b : Nat} {cs : List V} (hf : findObj S b = some cs) :
    ∃ us T, w.heap[b]? = some (.cells us T (0, 0)) ∧ VRels G cs us.toList ∧ ∀ i, G b i = none :=
  let ⟨_, hT⟩ := findObj_mem hf
  let ⟨us, T, h1, h2, h3, _⟩ := h.res _ hT
  ⟨us, T, h1, h2, h3⟩

/-- An own block is written. -/
theorem Inv.write {G : Im} {w w' : World} {S : List Res} (h : Inv G w S) {b : Nat} {cs cs' : List V} (hf : findObj S b = some cs)
    {us0 us' : Array Value} {T : TypeId} (hw0 : w.heap[b]? = some (.cells us0 T (0, 0))) (hw : w'.heap[b]? = some (.cells us' T (0, 0))) (hv : VRels G cs' us'.toList) (hsz : w'.heap.size = w.heap.size)
    (ho : ∀ b', b' ≠ b → w'.heap[b']? = w.heap[b']?) (ht : w'.tape = w.tape) (hos : w'.os = w.os) (hout : w'.output = w.output) :
    Evol S G w (setObj S b cs') G w' ∧ Inv G w' (setObj S b cs') := by
  have hb := findObj_blks hf
  obtain ⟨us, T0, h1, h2, h3⟩ := h.obj hf
  refine ⟨⟨by omega, ht, hos, hout, Im.le_refl _, fun b' _ hb' => ho b' (fun e => hb' (e ▸ hb)), fun _ _ _ _ => rfl, fun b' hb' => .inl (by rwa [blks_setObj] at hb')⟩, ?_, ?_, ?_⟩
  · intro b' o u hg
    have hne : b' ≠ b := fun e => by subst e; rw [h3] at hg; cases hg
    have := h.im b' o u hg
    simp only [World.cell?] at this ⊢
    rw [ho b' hne]; exact this
  · intro r hr
    rcases mem_setObj hr h.nd hf with ⟨T', hm, rfl⟩ | ⟨hm, hne⟩
    · obtain ⟨us2, T2, h4, h5, h6, h7⟩ := h.res _ hm
      refine ⟨us', T, hw, hv, h3, ?_⟩
      rw [hw0] at h4; simp at h4; rw [h4.2]; exact h7
    · exact Res.holds_of (h.res r hm) (Im.le_refl _) fun b' hb' => ⟨ho b' (fun e => hne (e ▸ hb')), fun _ => rfl⟩
  · rw [blks_setObj]; exact h.nd

theorem World.heap_alloc_ne {w : World} {o : Obj} {b : Nat} (h : b ≠ w.heap.size) : (w.alloc o).heap[b]? = w.heap[b]? := by
  show (w.heap.push o)[b]? = _
  rw [Array.getElem?_push, if_neg h]
theorem World.heap_alloc_eq {w : World} {o : Obj} : (w.alloc o).heap[w.heap.size]? = some o := by
  show (w.heap.push o)[w.heap.size]? = _
  simp


/-- A new block that is nobody's yet: what held holds. -/
theorem Inv.alloc0 {G : Im} {w : World} {S : List Res} (h : Inv G w S) (o : Obj) : Evol S G w S G (w.alloc o) ∧ Inv G (w.alloc o) S := by
  have hne : ∀ b, b < w.heap.size → (w.alloc o).heap[b]? = w.heap[b]? := fun b hb => World.heap_alloc_ne (by omega)
  refine ⟨⟨by simp, rfl, rfl, rfl, Im.le_refl _, fun b hb _ => hne b hb, fun _ _ _ _ => rfl, fun b hb => .inl hb⟩, ?_, ?_, h.nd⟩
  · intro b o' u hg
    have := h.im b o' u hg
    have hlt := World.cell?_lt this
    simp only [World.cell?] at this ⊢
    rw [hne b hlt]; exact this
  · intro r hr
    exact Res.holds_of (h.res r hr) (Im.le_refl _) fun b hb => ⟨hne b (Res.blk_lt (h.res r hr) hb), fun _ => rfl⟩

theorem Inv.cons {G : Im} {w : World} {S : List Res} (h : Inv G w S) {r : Res} (hr : r.holds G w) (hn : ∀ b, r.blk = some b → b ∉ blks S) : Inv G w (r :: S) := by
  refine ⟨h.im, fun x hx => ?_, ?_⟩
  · rcases List.mem_cons.1 hx with rfl | hx
    · exact hr
    · exact h.res x hx
  · simp only [blks, List.filterMap_cons]
    split
    · exact h.nd
    · rename_i b hb; exact List.nodup_cons.2 ⟨hn b hb, h.nd⟩

theorem Evol.cons {S S' : List Res} {G G' : Im} {w w' : World} (h : Evol S G w S' G' w') {r : Res} (hr : ∀ b, r.blk = some b → b ∈ blks S ∨ w.heap.size ≤ b) : Evol S G w (r :: S') G' w' :=
  ⟨h.size, h.tape, h.os, h.out, h.im, h.keep, h.keepG, fun b hb => by
    obtain ⟨r', hr', e⟩ := mem_blks.1 hb
    rcases List.mem_cons.1 hr' with rfl | hr'
    · exact hr b e
    · exact h.own b (mem_blks.2 ⟨r', hr', e⟩)⟩

/-- A new block of one's own. -/
theorem Inv.alloc_objT {G : Im} {w : World} {S : List Res} (h : Inv G w S) {us : Array Value} (T : TypeId) (T' : Option TypeId) (hT : ∀ t, T' = some t → T = t) {cs : List V} (hv : VRels G cs us.toList) :
    Evol S G w (.objT w.heap.size cs T' :: S) G (w.alloc (.cells us T)) ∧ Inv G (w.alloc (.cells us T)) (.objT w.heap.size cs T' :: S) := by
  obtain ⟨he, hi⟩ := h.alloc0 (.cells us T)
  refine ⟨he.cons fun b hb => ?_, hi.cons ⟨us, T, World.heap_alloc_eq, hv, fun i => h.G_new (Nat.le_refl _) i, hT⟩ fun b hb hb' => ?_⟩
  · simp [Res.blk] at hb; exact .inr (by omega)
  · simp [Res.blk] at hb; have := h.lt hb'; omega

theorem Inv.alloc_obj {G : Im} {w : World} {S : List Res} (h : Inv G w S) {us : Array Value} (T : TypeId) {cs : List V} (hv : VRels G cs us.toList) :
    Evol S G w (.obj w.heap.size cs :: S) G (w.alloc (.cells us T)) ∧ Inv G (w.alloc (.cells us T)) (.obj w.heap.size cs :: S) := h.alloc_objT T none (by simp) hv

theorem Inv.alloc_raw {G : Im} {w : World} {S : List Res} (h : Inv G w S) {o : Obj} (ho : o.isCells = false) :
    Evol S G w (.raw w.heap.size o :: S) G (w.alloc o) ∧ Inv G (w.alloc o) (.raw w.heap.size o :: S) := by
  obtain ⟨he, hi⟩ := h.alloc0 o
  refine ⟨he.cons fun b hb => ?_, hi.cons ⟨World.heap_alloc_eq, rfl, fun i => h.G_new (Nat.le_refl _) i⟩ fun b hb hb' => ?_⟩
  · simp [Res.blk] at hb; exact .inr (by omega)
  · simp [Res.blk] at hb; have := h.lt hb'; omega

/-- The cells of a new block are laid among those that never change. -/
def Im.add (G : Im) (n : Nat) (us : Array Value) : Im := fun b o => if b = n then us[o]? else G b o

theorem Inv.alloc_im {G : Im} {w : World} {S : List Res} (h : Inv G w S) (us : Array Value) (T : TypeId) :
    Evol S G w S (G.add w.heap.size us) (w.alloc (.cells us T)) ∧ Inv (G.add w.heap.size us) (w.alloc (.cells us T)) S := by
  obtain ⟨he, hi⟩ := h.alloc0 (.cells us T)
  have hle : Im.le G (G.add w.heap.size us) := fun b o u hg => by
    have := h.G_lt hg
    simp [Im.add, show b ≠ w.heap.size by omega, hg]
  have hsame : ∀ b, b < w.heap.size → ∀ o, G.add w.heap.size us b o = G b o := fun b hb o => by simp [Im.add, show b ≠ w.heap.size by omega]
  refine ⟨⟨he.size, he.tape, he.os, he.out, hle, he.keep, fun b hb _ o => hsame b hb o, he.own⟩, ?_, ?_, hi.nd⟩
  · intro b o u hg
    simp only [Im.add] at hg
    split at hg
    · rename_i e; subst e
      simp only [World.cell?, World.heap_alloc_eq]; exact hg
    · exact hi.im b o u hg
  · intro r hr
    exact Res.holds_of (hi.res r hr) hle fun b hb => ⟨rfl, hsame b (Res.blk_lt (h.res r hr) hb)⟩

end Go.AW
/- The engine AW, part 5: the rules of single operations. -/
set_option linter.unusedVariables false
set_option linter.unusedSimpArgs false
namespace Go.AW

/-! ### What the program's tables tell -/

def szA (P : Program) (t : TypeId) : Option Nat := (P.info? t).map (·.size)
def zeroA (P : Program) (t : TypeId) : Option Value := (P.info? t).bind (·.zero)
def bytesA (P : Program) (t : TypeId) : Option Nat := (P.info? t).map (·.bytes)
def aggA (P : Program) (t : TypeId) : Option Bool := (P.underlying t).map fun d => match d with | .struct _ | .array _ _ => true | _ => false

section
variable {P : Program} {w : World} {t : TypeId}
theorem run_size {n : Nat} (h : szA P t = some n) : (sizeOf t).run P w = .ok n w := by
  simp only [szA, Option.map_eq_some_iff] at h
  obtain ⟨i, hi, rfl⟩ := h
  simp [sizeOf, typeInfo, hi]
theorem run_zero {z : Value} (h : zeroA P t = some z) : (zeroValue t).run P w = .ok z w := by
  simp only [zeroA, Option.bind_eq_some_iff] at h
  obtain ⟨i, hi, hz⟩ := h
  simp [zeroValue, typeInfo, hi, hz]
theorem run_bytes {n : Nat} (h : bytesA P t = some n) : ∃ i, P.info? t = some i ∧ i.bytes = n := by
  simpa only [bytesA, Option.map_eq_some_iff] using h
theorem run_und {d : TypeDesc} (h : P.underlying t = some d) : (underlying t).run P w = .ok d w := by
  simp [underlying, h]
theorem run_agg {b : Bool} (h : aggA P t = some b) : (isAgg t).run P w = .ok b w := by
  simp only [aggA, Option.map_eq_some_iff] at h
  obtain ⟨d, hd, rfl⟩ := h
  simp only [isAgg, Sem.run_bind, run_und hd, Result.andThen_ok]
  cases d <;> rfl
end

theorem VRel.one {G : Im} {v : V} {x : Value} (h : VRel G v x) (hv : v.one = true) : x.oneCell' = true := by
  cases h <;> simp_all [V.one, Value.oneCell']

theorem VRel.okv {G : Im} {v : V} {x : Value} (h : VRel G v x) (hv : v.okv = true) : VRels G v.cells x.cells.toList ∧ ∀ y ∈ x.cells.toList, y.oneCell' = true := by
  cases hc : v with
  | agg cs =>
    subst hc
    obtain ⟨xs, rfl, hx⟩ := h.agg_inv
    refine ⟨by simpa [V.cells, Value.cells] using hx, fun y hy => ?_⟩
    have hy' : y ∈ xs := by simpa [Value.cells] using hy
    obtain ⟨i, hi⟩ := List.mem_iff_getElem?.1 hy'
    have hi' : i < cs.length := by rw [hx.1]; exact (List.getElem?_eq_some_iff.1 hi).1
    have := hx.2 i cs[i] y (by simp [hi']) hi
    simp [V.okv] at hv
    exact this.one (hv _ (List.getElem_mem hi'))
  | any => subst hc; simp [V.okv, V.one] at hv
  | tuple cs => subst hc; simp [V.okv, V.one] at hv
  | lit u =>
    subst hc
    have := h.lit_inv; subst this
    have h1 : x.oneCell' = true := by simpa [V.okv, V.one] using hv
    have hc : x.cells = #[x] := by cases x <;> simp_all [Value.cells, Value.oneCell']
    rw [hc]; simp [V.cells]; exact ⟨.cons (.lit _) .nil, h1⟩
  | sl full sz xs => subst hc; have h1 := h.one rfl; have hc : x.cells = #[x] := by cases x <;> simp_all [Value.cells, Value.oneCell']
                     rw [hc]; simp [V.cells]; exact ⟨.cons h .nil, h1⟩
  | vs k a n cap => subst hc; have h1 := h.one rfl; have hc : x.cells = #[x] := by cases x <;> simp_all [Value.cells, Value.oneCell']
                    rw [hc]; simp [V.cells]; exact ⟨.cons h .nil, h1⟩
  | pe cs => subst hc; have h1 := h.one rfl; have hc : x.cells = #[x] := by cases x <;> simp_all [Value.cells, Value.oneCell']
             rw [hc]; simp [V.cells]; exact ⟨.cons h .nil, h1⟩
  | func fn f c => subst hc; have h1 := h.one rfl; have hc : x.cells = #[x] := by cases x <;> simp_all [Value.cells, Value.oneCell']
                   rw [hc]; simp [V.cells]; exact ⟨.cons h .nil, h1⟩
  | iface t u => subst hc; have h1 := h.one rfl; have hc : x.cells = #[x] := by cases x <;> simp_all [Value.cells, Value.oneCell']
                 rw [hc]; simp [V.cells]; exact ⟨.cons h .nil, h1⟩

/-- 'b' is the number of a block that none of the resources holds. -/
def Fresh (b : Nat) (S : List Res) : Prop := b ∉ blks S

section
variable {ro : Option Nat} {P : Program} {o : Oper} {K : St → Prop} {Q : Exit → St → Prop} {st : St}

theorem AT.move {x : Operand} (hop : o.op = .move x) (hd : dstOk st.n o.dst) (hk : K (st.put o.dst (st.opnd x))) : ATake P o K st :=
  AT.pure hd (by rw [hop]; rfl) (fun G w a hr => ⟨a.eval x, fun w _ => by simp only [execOp, hop]; rfl, hr.opnd x⟩) hk
theorem AT.assign {x : Operand} (hop : o.op = .assign x) (hd : dstOk st.n o.dst) (hk : K (st.put o.dst (st.opnd x))) : ATake P o K st :=
  AT.pure hd (by rw [hop]; rfl) (fun G w a hr => ⟨a.eval x, fun w _ => by simp only [execOp, hop]; rfl, hr.opnd x⟩) hk
theorem AT.pick {c x y : Operand} {b : Bool} (hop : o.op = .pick c x y) (hd : dstOk st.n o.dst) (hc : st.opnd c = .lit (.bool b))
    (hk : if b then K (st.put o.dst (st.opnd x)) else K (st.put o.dst (st.opnd y))) : ATake P o K st := by
  have hrun : ∀ G w a, Rel G w a st → ∀ w', (execOp a.eval o).run P w' = .ok (.value (if b then a.eval x else a.eval y)) w' := fun G w a hr w' => by
    have h1 := hr.opnd c
    rw [hc] at h1
    have h2 := h1.lit_inv
    simp only [execOp, hop, h2, asBool]
    simp
  cases b with
  | true => exact AT.pure hd (by rw [hop]; rfl) (fun G w a hr => ⟨a.eval x, fun w' _ => hrun G w a hr w', hr.opnd x⟩) hk
  | false => exact AT.pure hd (by rw [hop]; rfl) (fun G w a hr => ⟨a.eval y, fun w' _ => hrun G w a hr w', hr.opnd y⟩) hk

/-- Blocks whose type is kept in mind: those that a strings.Builder begins. -/
def keepT (P : Program) (T : TypeId) : Bool :=
  match P.underlying T with
  | some (.struct fs) => (match fs[0]? with | some f => f.name == "addr" || f.name == "Builder" | none => false)
  | _ => false
def keepO (P : Program) (T : TypeId) : Option TypeId := if keepT P T = true then some T else none
theorem keepO_eq {P : Program} {T : TypeId} : ∀ t, keepO P T = some t → T = t := fun t h => by unfold keepO at h; split at h <;> simp_all

theorem AOp.alloc {T : TypeId} {z : Value} (hop : o.op = .alloc T) (hd : dstOk st.n o.dst) (hz : zeroA P T = some z)
    (hk : ∀ b, Fresh b st.S → K (St.put { st with S := .objT b (z.cells.toList.map .lit) (keepO P T) :: st.S } o.dst (.lit (.pointer (some ⟨b, 0, none⟩))))) : AOp ro P o K Q st := by
  refine AOp.value hd (by rw [hop]; rfl) fun G w a hr => ?_
  obtain ⟨he, hi⟩ := hr.inv.alloc_objT (us := z.cells) T (keepO P T) keepO_eq (VRels.lits G _)
  refine ⟨.pointer (some ⟨w.heap.size, 0, none⟩), w.alloc (.cells z.cells T), G, _, _, ?_, he, hi, .lit _, hk _ (fun hb => by have := hr.inv.lt hb; omega)⟩
  simp only [execOp, hop, Instr.alloc, Sem.run_bind, run_zero hz, Result.andThen_ok]
  rfl

theorem AOp.box {T : TypeId} {x : Operand} (hop : o.op = .box T x) (hd : dstOk st.n o.dst) (hv : (st.opnd x).okv = true)
    (hk : ∀ b, Fresh b st.S → K (St.put { st with S := .obj b (st.opnd x).cells :: st.S } o.dst (.lit (.pointer (some ⟨b, 0, none⟩))))) : AOp ro P o K Q st := by
  refine AOp.value hd (by rw [hop]; rfl) fun G w a hr => ?_
  obtain ⟨he, hi⟩ := hr.inv.alloc_obj (us := (a.eval x).cells) T ((hr.opnd x).okv hv).1
  refine ⟨.pointer (some ⟨w.heap.size, 0, none⟩), w.alloc (.cells (a.eval x).cells T), G, _, _, ?_, he, hi, .lit _, hk _ (fun hb => by have := hr.inv.lt hb; omega)⟩
  simp only [execOp, hop, Instr.box]
  rfl

/-! #### Loads -/

/-- What stands at a pointer: its cells, from there on. -/
def cellsAt (S : List Res) : V → Option (List V)
  | .lit (.pointer (some ⟨b, o, none⟩)) => (findObj S b).map (·.drop o)
  | .pe cs => some cs
  | _ => none

/-- The first of these cells as a value of a type. -/
def readAs (P : Program) (t : TypeId) (cs : List V) : Option V :=
  match aggA P t, szA P t with
  | some true, some n => if n ≤ cs.length then some (.agg (cs.take n)) else none
  | some false, _ => cs.head?
  | _, _ => none

theorem cellsAt_run {G : Im} {w : World} {S : List Res} (hi : Inv G w S) {p : V} {x : Value} (hp : VRel G p x) {cs : List V} (h : cellsAt S p = some cs) :
    ∃ b o us, x = .pointer (some ⟨b, o, none⟩) ∧ VRels G cs us ∧ ∀ (i : Nat) u, us[i]? = some u → w.cell? ⟨b, o + i, none⟩ = some u := by
  cases p with
  | lit v =>
    have hx := hp.lit_inv
    subst hx
    simp only [cellsAt] at h
    split at h
    · rename_i b o heq
      simp only [Option.map_eq_some_iff] at h
      obtain ⟨cs0, h0, rfl⟩ := h
      obtain ⟨us, T, h1, h2, h3⟩ := hi.obj h0
      cases heq
      refine ⟨b, o, us.toList.drop o, rfl, ⟨by simp [h2.1], fun i v y hv hy => h2.2 (o + i) v y (by simpa using hv) (by simpa using hy)⟩, fun i u hu => ?_⟩
      simp only [World.cell?, h1]
      simpa using hu
    · rename_i heq; cases heq
    · cases h
  | pe cs' =>
    simp only [cellsAt, Option.some.injEq] at h; subst h
    cases hp with
    | pe b o us hG hr =>
      refine ⟨b, o, (List.range cs'.length).map us, rfl, ⟨by simp, fun i v y hv hy => ?_⟩, fun i u hu => ?_⟩
      · simp at hy
        obtain ⟨j, hj, rfl⟩ := hy
        have := (List.getElem?_eq_some_iff.1 hj)
        simp at this; obtain ⟨_, rfl⟩ := this
        exact hr _ _ hv
      · simp at hu
        obtain ⟨j, hj, rfl⟩ := hu
        have := (List.getElem?_eq_some_iff.1 hj)
        simp at this; obtain ⟨hl, rfl⟩ := this
        exact hi.im _ _ _ (hG _ hl)
  | _ => simp [cellsAt] at h

theorem AOp.load {T : TypeId} {x : Operand} {cs : List V} {v : V} (hop : o.op = .load T x) (hd : dstOk st.n o.dst) (hc : cellsAt st.S (st.opnd x) = some cs) (hv : readAs P T cs = some v)
    (hk : K (st.put o.dst v)) : AOp ro P o K Q st := by
  refine AOp.pure (v := v) hd (by rw [hop]; rfl) (fun G w a hr => ?_) hk
  obtain ⟨b, o', us, hx, hus, hcell⟩ := cellsAt_run hr.inv (hr.opnd x) hc
  unfold readAs at hv
  split at hv
  · rename_i n ha hs
    split at hv
    · rename_i hn
      simp at hv; subst hv
      have hrun := run_loadCells_list (P := P) (w := w) ⟨b, o', none⟩ (us.take n) (fun j u hu => by
        have hj : us[j]? = some u := by rw [List.getElem?_take] at hu; split at hu; exact hu; cases hu
        have := hcell j u hj
        rw [show (⟨b, o', none⟩ : Addr).add j = ⟨b, o' + j, none⟩ by unfold Addr.add; split <;> simp_all]
        exact this)
      have hl : (us.take n).length = n := by have := hus.1; simp; omega
      rw [hl] at hrun
      refine ⟨.agg (us.take n).toArray, ?_, VRel.agg' ⟨by simp [hus.1], fun i v y hv' hy => ?_⟩⟩
      · simp only [execOp, hop, Instr.loadAt, hx, Instr.sureAddr, loadVar, Sem.run_bind, Sem.run_pure, Result.andThen_ok, run_agg ha, if_true, run_size hs, hrun]
      · rw [List.getElem?_take] at hv' hy
        split at hv'
        · rename_i hlt; rw [if_pos hlt] at hy; exact hus.2 i v y hv' hy
        · cases hv'
    · cases hv
  · rename_i ha
    cases cs with
    | nil => simp at hv
    | cons c cs =>
      simp at hv; subst hv
      obtain ⟨u, us', rfl, hu, _⟩ := hus.cons_inv
      have := hcell 0 u (by simp)
      refine ⟨u, ?_, hu⟩
      simp only [execOp, hop, Instr.loadAt, hx, Instr.sureAddr, loadVar, Sem.run_bind, Sem.run_pure, Result.andThen_ok, run_agg ha, Bool.false_eq_true, if_false, run_load]
      simp only [Nat.add_zero] at this
      simp [this]
  · cases hv

theorem loadVar_run {G : Im} {T : TypeId} {cs : List V} {us : List Value} {v : V} (b o' : Nat) (hus : VRels G cs us) (hv : readAs P T cs = some v) :
    ∃ y, VRel G v y ∧ ∀ w : World, (∀ (i : Nat) u, us[i]? = some u → w.cell? ⟨b, o' + i, none⟩ = some u) → (loadVar T ⟨b, o', none⟩).run P w = .ok y w := by
  unfold readAs at hv
  split at hv
  · rename_i n ha hs
    split at hv
    · rename_i hn
      simp at hv; subst hv
      have hl : (us.take n).length = n := by have := hus.1; simp; omega
      refine ⟨.agg (us.take n).toArray, VRel.agg' ⟨by simp [hus.1], fun i v y hv' hy => ?_⟩, fun w hcell => ?_⟩
      · rw [List.getElem?_take] at hv' hy
        split at hv'
        · rename_i hlt; rw [if_pos hlt] at hy; exact hus.2 i v y hv' hy
        · cases hv'
      · have hrun := run_loadCells_list (P := P) (w := w) ⟨b, o', none⟩ (us.take n) (fun j u hu => by
          have hj : us[j]? = some u := by rw [List.getElem?_take] at hu; split at hu; exact hu; cases hu
          have := hcell j u hj
          rw [show (⟨b, o', none⟩ : Addr).add j = ⟨b, o' + j, none⟩ by unfold Addr.add; split <;> simp_all]
          exact this)
        rw [hl] at hrun
        simp only [loadVar, Sem.run_bind, Sem.run_pure, Result.andThen_ok, run_agg ha, if_true, run_size hs, hrun]
    · cases hv
  · rename_i ha
    cases cs with
    | nil => simp at hv
    | cons c cs =>
      simp at hv; subst hv
      obtain ⟨u, us', rfl, hu, _⟩ := hus.cons_inv
      refine ⟨u, hu, fun w hcell => ?_⟩
      have := hcell 0 u (by simp)
      simp only [loadVar, Sem.run_bind, Sem.run_pure, Result.andThen_ok, run_agg ha, Bool.false_eq_true, if_false, run_load]
      simp only [Nat.add_zero] at this
      simp [this]
  · cases hv

/-- A load from what never changes. -/
theorem AT.loadPe {T : TypeId} {x : Operand} {cs : List V} {v : V} (hop : o.op = .load T x) (hd : dstOk st.n o.dst) (hc : st.opnd x = .pe cs) (hv : readAs P T cs = some v)
    (hk : K (st.put o.dst v)) : ATake P o K st := by
  refine AT.pure (v := v) hd (by rw [hop]; rfl) (fun G w a hr => ?_) hk
  have hp := hr.opnd x
  rw [hc] at hp
  cases hx : a.eval x <;> rw [hx] at hp <;> cases hp
  rename_i b o' us hG hh
  obtain ⟨y, hy, hrun⟩ := loadVar_run (P := P) (G := G) (us := (List.range cs.length).map us) b o' ⟨by simp, fun i v y hv hy => by
    simp at hy
    obtain ⟨j, hj, rfl⟩ := hy
    have := (List.getElem?_eq_some_iff.1 hj)
    simp at this; obtain ⟨_, rfl⟩ := this
    exact hh _ _ hv⟩ hv
  refine ⟨y, fun w' hw' => ?_, hy⟩
  have := hrun w' (fun i u hu => by
    simp at hu
    obtain ⟨j, hj, rfl⟩ := hu
    have := (List.getElem?_eq_some_iff.1 hj)
    simp at this; obtain ⟨hl, rfl⟩ := this
    exact hw' _ _ _ (hG _ hl))
  simp only [execOp, hop, Instr.loadAt, hx, Instr.sureAddr, Sem.run_bind, Sem.run_pure, Result.andThen_ok, this]

/-! #### Stores -/

def splice (cs : List V) (o : Nat) (vs : List V) : List V := cs.take o ++ vs ++ cs.drop (o + vs.length)

theorem AOp.store {T : TypeId} {p x : Operand} {b o' : Nat} {cs : List V} (hop : o.op = .store T p x) (hd : dstOk st.n o.dst) (hp : st.opnd p = .lit (.pointer (some ⟨b, o', none⟩)))
    (hf : findObj st.S b = some cs) (hv : (st.opnd x).okv = true) (hs : szA P T = some (st.opnd x).cells.length) (hl : o' + (st.opnd x).cells.length ≤ cs.length)
    (hk : K (St.put { st with S := setObj st.S b (splice cs o' (st.opnd x).cells) } o.dst (.lit undef))) : AOp ro P o K Q st := by
  refine AOp.skip hd (by rw [hop]; rfl) fun G w a hr => ?_
  obtain ⟨us, T0, h1, h2, h3⟩ := hr.inv.obj hf
  obtain ⟨hx, hone⟩ := (hr.opnd x).okv hv
  have hpx := hr.opnd p
  rw [hp] at hpx
  have hpx := hpx.lit_inv
  have hlen : (a.eval x).cells.size = (st.opnd x).cells.length := by rw [hx.1]; simp
  have hsz : us.size = cs.length := by rw [h2.1]; simp
  have hrun := run_storeCells_at (P := P) b o' T0 (a.eval x).cells.toList 0 us w h1 (by simp [hlen, hsz]; omega) hone
  simp only [Nat.add_zero] at hrun
  obtain ⟨us', hus'⟩ : ∃ us', us' = (us.toList.take o' ++ (a.eval x).cells.toList ++ us.toList.drop (o' + (a.eval x).cells.toList.length)).toArray := ⟨_, rfl⟩
  rw [← hus'] at hrun
  have hb := (Array.getElem?_eq_some_iff.1 h1).1
  obtain ⟨he, hi⟩ := hr.inv.write (w' := w.setRow b us') hf (us' := us') (T := T0) (cs' := splice cs o' (st.opnd x).cells) h1 (setRow_heap w b us us' T0 (0, 0) h1) (by
      subst hus'
      simp only [splice]
      refine VRels.append (VRels.append ⟨by simp [h2.1], fun i v y hv hy => ?_⟩ hx) ⟨by simp [h2.1, hlen], fun i v y hv hy => ?_⟩
      · rw [List.getElem?_take] at hv hy
        split at hv
        · rename_i hlt; rw [if_pos hlt] at hy; exact h2.2 i v y hv hy
        · cases hv
      · rw [List.getElem?_drop] at hv hy
        simp only [Array.length_toList, hlen] at hy
        exact h2.2 _ v y hv hy)
    (by simp [World.setRow]) (fun b' hb' => by simp [World.setRow, Array.getElem?_modify, Ne.symm hb']) rfl rfl rfl
  refine ⟨w.setRow b us', G, _, ?_, he, hi, hk⟩
  simp only [execOp, hop, Instr.storeAt, hpx, Instr.sureAddr, storeVar, Sem.run_bind, Sem.run_pure, Result.andThen_ok, run_size hs, hlen]
  simp only [ne_eq, not_true_eq_false, if_false]
  simp [hrun]

end
end Go.AW
/- The engine AW, part 6: more rules of single operations. -/
set_option linter.unusedVariables false
set_option linter.unusedSimpArgs false
namespace Go.AW

section
variable {ro : Option Nat} {P : Program} {o : Oper} {K : St → Prop} {Q : Exit → St → Prop} {st : St}

/-- The operand's value is known whole. -/
theorem Rel.lit {G : Im} {w : World} {a : Act} (hr : Rel G w a st) {x : Operand} {v : Value} (h : st.opnd x = .lit v) : a.eval x = v := by
  have := hr.opnd x
  rw [h] at this
  exact this.lit_inv

theorem AT.nilCheck {x : Operand} {ad : Addr} (hop : o.op = .nilCheck x) (hd : dstOk st.n o.dst) (hx : st.opnd x = .lit (.pointer (some ad)))
    (hk : K (st.put o.dst (.lit (.pointer (some ad))))) : ATake P o K st :=
  AT.pure hd (by rw [hop]; rfl) (fun G w a hr => ⟨_, fun w _ => by simp only [execOp, hop, hr.lit hx]; rfl, .lit _⟩) hk
theorem AT.nilCheck_pe {x : Operand} {cs : List V} (hop : o.op = .nilCheck x) (hd : dstOk st.n o.dst) (hx : st.opnd x = .pe cs)
    (hk : K (st.put o.dst (.pe cs))) : ATake P o K st :=
  AT.pure hd (by rw [hop]; rfl) (fun G w a hr => by
    have h := hr.opnd x
    rw [hx] at h
    cases hv : a.eval x <;> rw [hv] at h <;> cases h
    rename_i b o' us hG hh
    exact ⟨_, fun w _ => by simp only [execOp, hop, hv]; rfl, .pe b o' us hG hh⟩) hk

theorem AT.unNot {t : TypeId} {x : Operand} {b : Bool} (hop : o.op = .unOp .not t x) (hd : dstOk st.n o.dst) (hx : st.opnd x = .lit (.bool b))
    (hk : K (st.put o.dst (.lit (.bool !b)))) : ATake P o K st :=
  AT.pure hd (by rw [hop]; rfl) (fun G w a hr => ⟨_, fun w _ => by simp only [execOp, hop, hr.lit hx, Op.unary]; rfl, .lit _⟩) hk
theorem AT.unNeg {t : TypeId} {x : Operand} {k : IntKind} {n : Int} (hop : o.op = .unOp .neg t x) (hd : dstOk st.n o.dst) (hx : st.opnd x = .lit (.int k n))
    (hk : K (st.put o.dst (.lit (.int k (k.wrap (0 - n)))))) : ATake P o K st :=
  AT.pure hd (by rw [hop]; rfl) (fun G w a hr => ⟨_, fun w _ => by simp only [execOp, hop, hr.lit hx, Op.unary, Op.intArith]; rfl, .lit _⟩) hk

/-- Arithmetic on whole numbers that never panics. -/
def binI (op : BinOp) (k : IntKind) (a b : Int) : Option Value :=
  match op with
  | .add => some (.int k (k.wrap (a + b)))
  | .sub => some (.int k (k.wrap (a - b)))
  | .mul => some (.int k (k.wrap (a * b)))
  | .and => some (.int k (k.wrap (BitVec.ofInt k.bits a &&& BitVec.ofInt k.bits b).toNat))
  | .or => some (.int k (k.wrap (BitVec.ofInt k.bits a ||| BitVec.ofInt k.bits b).toNat))
  | .xor => some (.int k (k.wrap (BitVec.ofInt k.bits a ^^^ BitVec.ofInt k.bits b).toNat))
  | .eql => some (.bool (a == b))
  | .neq => some (.bool (a != b))
  | .lss => some (.bool (decide (a < b)))
  | .leq => some (.bool (decide (a ≤ b)))
  | .gtr => some (.bool (decide (a > b)))
  | .geq => some (.bool (decide (a ≥ b)))
  | _ => none

theorem run_binI {op : BinOp} {t : TypeId} {k : IntKind} {a b : Int} {r : Value} (h : binI op k a b = some r) (w : World) : (binOp op t (.int k a) (.int k b)).run P w = .ok r w := by
  cases op <;> first
    | (simp only [binI, Option.some.injEq] at h; subst h; simp [binOp, Op.intArith, Op.intBits, Op.intCmp]; done)
    | (simp [binI] at h; done)

theorem AT.binI {op : BinOp} {t t' : TypeId} {x y : Operand} {k : IntKind} {a b : Int} {r : Value} (hop : o.op = .binOp op t x y t') (hd : dstOk st.n o.dst)
    (hx : st.opnd x = .lit (.int k a)) (hy : st.opnd y = .lit (.int k b)) (hr : binI op k a b = some r) (hk : K (st.put o.dst (.lit r))) : ATake P o K st :=
  AT.pure hd (by rw [hop]; rfl) (fun G w a' hr' => ⟨r, fun w _ => by
    simp only [execOp, hop, hr'.lit hx, hr'.lit hy, eqGuard_at_int]
    simp [run_binI hr], .lit _⟩) hk

theorem AT.quo {t t' : TypeId} {x y : Operand} {k : IntKind} {a b : Int} (hop : o.op = .binOp .quo t x y t') (hd : dstOk st.n o.dst)
    (hx : st.opnd x = .lit (.int k a)) (hy : st.opnd y = .lit (.int k b)) (hb : b ≠ 0) (hk : K (st.put o.dst (.lit (.int k (k.wrap (a.tdiv b)))))) : ATake P o K st :=
  AT.pure hd (by rw [hop]; rfl) (fun G w a' hr' => ⟨_, fun w _ => by
    simp only [execOp, hop, hr'.lit hx, hr'.lit hy, eqGuard_at_int]
    simp [binOp, Op.intDiv, hb], .lit _⟩) hk
theorem AT.rem {t t' : TypeId} {x y : Operand} {k : IntKind} {a b : Int} (hop : o.op = .binOp .rem t x y t') (hd : dstOk st.n o.dst)
    (hx : st.opnd x = .lit (.int k a)) (hy : st.opnd y = .lit (.int k b)) (hb : b ≠ 0) (hk : K (st.put o.dst (.lit (.int k (a.tmod b))))) : ATake P o K st :=
  AT.pure hd (by rw [hop]; rfl) (fun G w a' hr' => ⟨_, fun w _ => by
    simp only [execOp, hop, hr'.lit hx, hr'.lit hy, eqGuard_at_int]
    simp [binOp, Op.intDiv, hb], .lit _⟩) hk
theorem AT.shl {t t' : TypeId} {x y : Operand} {k k' : IntKind} {a b : Int} (hop : o.op = .binOp .shl t x y t') (hd : dstOk st.n o.dst)
    (hx : st.opnd x = .lit (.int k a)) (hy : st.opnd y = .lit (.int k' b)) (hb : 0 ≤ b) (hk : K (st.put o.dst (.lit (.int k (k.wrap (a * 2 ^ min b.toNat k.bits)))))) : ATake P o K st :=
  AT.pure hd (by rw [hop]; rfl) (fun G w a' hr' => ⟨_, fun w _ => by
    simp only [execOp, hop, hr'.lit hx, hr'.lit hy, eqGuard_at_int]
    simp [binOp, Op.shift, show ¬ b < 0 by omega], .lit _⟩) hk
theorem AT.shr {t t' : TypeId} {x y : Operand} {k k' : IntKind} {a b : Int} (hop : o.op = .binOp .shr t x y t') (hd : dstOk st.n o.dst)
    (hx : st.opnd x = .lit (.int k a)) (hy : st.opnd y = .lit (.int k' b)) (hb : 0 ≤ b) (hk : K (st.put o.dst (.lit (.int k (a.fdiv (2 ^ min b.toNat k.bits)))))) : ATake P o K st :=
  AT.pure hd (by rw [hop]; rfl) (fun G w a' hr' => ⟨_, fun w _ => by
    simp only [execOp, hop, hr'.lit hx, hr'.lit hy, eqGuard_at_int]
    simp [binOp, Op.shift, show ¬ b < 0 by omega], .lit _⟩) hk

/-- Strings. -/
def binS (op : BinOp) (x y : ByteArray) : Option Value :=
  match op with
  | .eql => some (.bool (x.toList == y.toList))
  | .neq => some (.bool !(x.toList == y.toList))
  | .lss => some (.bool (Op.bytesLess x.toList y.toList))
  | .leq => some (.bool (Op.bytesLess x.toList y.toList || (x.toList == y.toList)))
  | .gtr => some (.bool !(Op.bytesLess x.toList y.toList || (x.toList == y.toList)))
  | .geq => some (.bool !(Op.bytesLess x.toList y.toList))
  | _ => none
theorem AT.binS {op : BinOp} {t t' : TypeId} {x y : Operand} {a b : ByteArray} {r : Value} (hop : o.op = .binOp op t x y t') (hd : dstOk st.n o.dst)
    (hx : st.opnd x = .lit (.string a)) (hy : st.opnd y = .lit (.string b)) (hr : binS op a b = some r) (hk : K (st.put o.dst (.lit r))) : ATake P o K st :=
  AT.pure hd (by rw [hop]; rfl) (fun G w a' hr' => ⟨r, fun w _ => by
    simp only [execOp, hop, hr'.lit hx, hr'.lit hy, eqGuard_at_string]
    cases op <;> first
      | (simp only [AW.binS, Option.some.injEq] at hr; subst hr; simp [binOp, Op.stringOp]; done)
      | (simp [AW.binS] at hr; done), .lit _⟩) hk
theorem AT.cat {t t' : TypeId} {x y : Operand} {a b : ByteArray} (hop : o.op = .binOp .add t x y t') (hd : dstOk st.n o.dst)
    (hx : st.opnd x = .lit (.string a)) (hy : st.opnd y = .lit (.string b)) (hl : a.size + b.size ≤ 9223372036854775807) (hk : K (st.put o.dst (.lit (.string (a ++ b))))) : ATake P o K st :=
  AT.pure hd (by rw [hop]; rfl) (fun G w a' hr' => ⟨_, fun w _ => by
    simp only [execOp, hop, hr'.lit hx, hr'.lit hy, eqGuard_at_string]
    have : ¬ ((a.size : Int) + (b.size : Int)) > IntKind.i64.max := by rw [IntKind.max_i64]; omega
    simp [binOp, Op.stringOp, this]
    omega, .lit _⟩) hk

/-- Bools. -/
theorem run_equal_bool {t : TypeId} (ht : P.underlying t = some .bool) (a b : Bool) (w : World) : (Op.equal t (.bool a) (.bool b)).run P w = .ok (a == b) w := by
  show (Op.equalIn (9999 + 1) t _ _).run P w = _
  rw [Op.equalIn, Sem.run_bind, run_und ht]
  rfl
theorem AT.eqlB {t t' : TypeId} {x y : Operand} {a b : Bool} (hop : o.op = .binOp .eql t x y t') (hd : dstOk st.n o.dst) (ht : P.underlying t = some .bool)
    (hx : st.opnd x = .lit (.bool a)) (hy : st.opnd y = .lit (.bool b)) (hk : K (st.put o.dst (.lit (.bool (a == b))))) : ATake P o K st :=
  AT.pure hd (by rw [hop]; rfl) (fun G w a' hr' => ⟨_, fun w _ => by
    simp only [execOp, hop, hr'.lit hx, hr'.lit hy, eqGuard_at_bool]
    simp [binOp, run_equal_bool ht], .lit _⟩) hk
theorem AT.neqB {t t' : TypeId} {x y : Operand} {a b : Bool} (hop : o.op = .binOp .neq t x y t') (hd : dstOk st.n o.dst) (ht : P.underlying t = some .bool)
    (hx : st.opnd x = .lit (.bool a)) (hy : st.opnd y = .lit (.bool b)) (hk : K (st.put o.dst (.lit (.bool (a != b))))) : ATake P o K st :=
  AT.pure hd (by rw [hop]; rfl) (fun G w a' hr' => ⟨_, fun w _ => by
    simp only [execOp, hop, hr'.lit hx, hr'.lit hy, eqGuard_at_bool]
    simp [binOp, run_equal_bool ht, bne], .lit _⟩) hk

theorem AT.convI {s d : TypeId} {x : Operand} {k k' : IntKind} {n : Int} (hop : o.op = .convert s d x) (hd : dstOk st.n o.dst) {ds : TypeDesc} (hs : P.underlying s = some ds) (hdd : P.underlying d = some (.int k))
    (hx : st.opnd x = .lit (.int k' n)) (hk : K (st.put o.dst (.lit (.int k (k.wrap n))))) : ATake P o K st :=
  AT.pure hd (by rw [hop]; rfl) (fun G w a' hr' => ⟨_, fun w _ => by
    simp only [execOp, hop, hr'.lit hx]
    simp [convert, run_und hs, run_und hdd, Conv.intToInt], .lit _⟩) hk
theorem AT.convS {s d : TypeId} {x : Operand} {v : ByteArray} (hop : o.op = .convert s d x) (hd : dstOk st.n o.dst) {ds : TypeDesc} (hs : P.underlying s = some ds) (hdd : P.underlying d = some .string)
    (hx : st.opnd x = .lit (.string v)) (hk : K (st.put o.dst (.lit (.string v)))) : ATake P o K st :=
  AT.pure hd (by rw [hop]; rfl) (fun G w a' hr' => ⟨_, fun w _ => by
    simp only [execOp, hop, hr'.lit hx]
    simp [convert, run_und hs, run_und hdd], .lit _⟩) hk

/-! #### Values of several parts -/

theorem AT.extract {x : Operand} {ix : Nat} {vs : List V} {v : V} (hop : o.op = .extract x ix) (hd : dstOk st.n o.dst) (hx : st.opnd x = .tuple vs) (hv : vs[ix]? = some v)
    (hk : K (st.put o.dst v)) : ATake P o K st :=
  AT.pure hd (by rw [hop]; rfl) (fun G w a hr => by
    have h := hr.opnd x
    rw [hx] at h
    obtain ⟨xs, hxs, hrel⟩ := h.tuple_inv
    obtain ⟨y, hy, hvy⟩ := hrel.get hv
    exact ⟨y, fun w _ => by simp only [execOp, hop, hxs, Instr.extract]; simp [hy], hvy⟩) hk

theorem VRels.sub {G : Im} {cs : List V} {us : List Value} (h : VRels G cs us) (a n : Nat) : VRels G ((cs.drop a).take n) ((us.drop a).take n) := by
  refine ⟨by simp [h.1], fun i v y hv hy => ?_⟩
  rw [List.getElem?_take] at hv hy
  split at hv
  · rename_i hlt; rw [if_pos hlt] at hy
    rw [List.getElem?_drop] at hv hy
    exact h.2 _ v y hv hy
  · cases hv
theorem VRels.drop {G : Im} {cs : List V} {us : List Value} (h : VRels G cs us) (a : Nat) : VRels G (cs.drop a) (us.drop a) := by
  refine ⟨by simp [h.1], fun i v y hv hy => ?_⟩
  rw [List.getElem?_drop] at hv hy
  exact h.2 _ v y hv hy

/-- A part of a struct's cells, from a place on. -/
theorem part_run {G : Im} {t : TypeId} {cs : List V} {us : List Value} (h : VRels G cs us) (off : Nat) {v : V} (hv : readAs P t (cs.drop off) = some v) (hl : ∀ n, szA P t = some n → aggA P t = some true → n ≤ (cs.drop off).length) :
    ∃ x, (∀ w, (part t us.toArray off).run P w = .ok x w) ∧ VRel G v x := by
  unfold readAs at hv
  split at hv
  · rename_i n ha hs
    split at hv
    · rename_i hn
      simp at hv; subst hv
      refine ⟨.agg ((us.drop off).take n).toArray, fun w => ?_, VRel.agg' (h.sub off n)⟩
      simp only [part, Sem.run_bind, run_agg ha, Result.andThen_ok, if_true, run_size hs]
      simp [List.extract_eq_take_drop]
    · cases hv
  · rename_i ha
    have hd := h.drop off
    cases hc : cs.drop off with
    | nil => rw [hc] at hv; simp at hv
    | cons c cs' =>
      rw [hc] at hv hd; simp at hv; subst hv
      obtain ⟨u, us', hu, hrel, _⟩ := hd.cons_inv
      refine ⟨u, fun w => ?_, hrel⟩
      have : us[off]? = some u := by
        have := congrArg (·[0]?) hu
        simpa using this
      simp only [part, Sem.run_bind, run_agg ha, Result.andThen_ok, Bool.false_eq_true, if_false]
      simp [this]
  · cases hv

theorem AT.field {xT : TypeId} {x : Operand} {f : Nat} {fs : Array Field} {fl : Field} {cs : List V} {v : V} (hop : o.op = .field xT x f) (hd : dstOk st.n o.dst) (hu : P.underlying xT = some (.struct fs)) (hf : fs[f]? = some fl)
    (hx : st.opnd x = .agg cs) (hv : readAs P fl.type (cs.drop fl.offset) = some v) (hk : K (st.put o.dst v)) : ATake P o K st :=
  AT.pure hd (by rw [hop]; rfl) (fun G w a hr => by
    have h := hr.opnd x
    rw [hx] at h
    obtain ⟨us, hus, hrel⟩ := h.agg_inv
    obtain ⟨y, hy, hvy⟩ := part_run (P := P) hrel fl.offset hv (fun n hs ha => by
      unfold readAs at hv; rw [hs, ha] at hv; simp only at hv; split at hv; assumption; cases hv)
    exact ⟨y, fun w _ => by simp only [execOp, hop, hus, Instr.field, Sem.run_bind, run_und hu, Result.andThen_ok, hf, asAgg, Sem.run_pure, hy], hvy⟩) hk

theorem Addr.add_eq (b o n : Nat) : (⟨b, o, none⟩ : Addr).add n = ⟨b, o + n, none⟩ := by unfold Addr.add; split <;> simp_all

/-- The address of a field: of an own block, or among cells that never change. -/
def ptrAdd (p : V) (n : Nat) : Option V :=
  match p with
  | .lit (.pointer (some ⟨b, o, none⟩)) => some (.lit (.pointer (some ⟨b, o + n, none⟩)))
  | .pe cs => some (.pe (cs.drop n))
  | _ => none

theorem ptrAdd_run {G : Im} {p q : V} {n : Nat} (h : ptrAdd p n = some q) {x : Value} (hx : VRel G p x) : ∃ ad : Addr, x = .pointer (some ad) ∧ VRel G q (.pointer (some (ad.add n))) := by
  cases p with
  | lit v =>
    have hv := hx.lit_inv; subst hv
    simp only [ptrAdd] at h
    split at h
    · rename_i b o heq
      cases heq
      simp at h; subst h
      exact ⟨_, rfl, by rw [Addr.add_eq]; exact .lit _⟩
    · rename_i heq; cases heq
    · cases h
  | pe cs =>
    simp [ptrAdd] at h; subst h
    cases hx with
    | pe b o us hG hh =>
      refine ⟨_, rfl, ?_⟩
      rw [Addr.add_eq]
      refine .pe b (o + n) (fun i => us (n + i)) (fun i hi => ?_) (fun i c hc => ?_)
      · have := hG (n + i) (by simp at hi; omega)
        rw [show o + n + i = o + (n + i) by omega]; exact this
      · exact hh _ _ (by simpa using hc)
  | _ => simp [ptrAdd] at h

theorem AT.fieldAddr {s : TypeId} {x : Operand} {f : Nat} {fs : Array Field} {fl : Field} {n : Nat} {q : V} (hop : o.op = .fieldAddr s x f) (hd : dstOk st.n o.dst) (hu : P.underlying s = some (.struct fs)) (hf : fs[f]? = some fl)
    (hs : szA P fl.type = some n) (hn : n ≠ 0) (hq : ptrAdd (st.opnd x) fl.offset = some q) (hk : K (st.put o.dst q)) : ATake P o K st :=
  AT.pure hd (by rw [hop]; rfl) (fun G w a hr => by
    obtain ⟨ad, hx, hv⟩ := ptrAdd_run hq (hr.opnd x)
    exact ⟨_, fun w _ => by simp only [execOp, hop, hx, Instr.fieldAt, Sem.run_bind, run_und hu, Result.andThen_ok, hf, Instr.sureAddr, Sem.run_pure, fieldPlace, run_size hs, hn, if_false], hv⟩) hk

/-- What a slice holds. -/
theorem VRel.sl_at {G : Im} {full : Bool} {sz : Nat} {xs : List V} {x : Value} (h : VRel G (.sl full sz xs) x) {i : Nat} {v : V} (hi : xs[i]? = some v) :
    ∃ b o cap, x = .slice (some ⟨b, o, none⟩) xs.length cap ∧ v.cells.length = sz ∧ VRel G (.pe v.cells) (.pointer (some ⟨b, o + i * sz, none⟩)) := by
  cases h with
  | sl b o us ha hsz hok hcap hfull hG hh =>
    rename_i ad cap
    have hne : xs ≠ [] := by intro e; subst e; simp at hi
    have hv : v ∈ xs := List.mem_iff_getElem?.2 ⟨i, hi⟩
    refine ⟨b, o, cap, by rw [ha hne], hsz v hv, ?_⟩
    have flat : ∀ (xs : List V), (∀ x ∈ xs, x.cells.length = sz) → ∀ i v, xs[i]? = some v → ∀ j, j < v.cells.length → (xs.flatMap V.cells)[i * sz + j]? = v.cells[j]? ∧ i * sz + j < (xs.flatMap V.cells).length := by
      intro xs
      induction xs with
      | nil => intro _ i v hi; simp at hi
      | cons x xs ih =>
        intro hs i v hi j hj
        have hx := hs x List.mem_cons_self
        cases i with
        | zero =>
          simp at hi; subst hi
          simp only [List.flatMap_cons, Nat.zero_mul, Nat.zero_add]
          exact ⟨List.getElem?_append_left hj, by simp; omega⟩
        | succ i =>
          simp at hi
          obtain ⟨h1, h2⟩ := ih (fun y hy => hs y (List.mem_cons_of_mem _ hy)) i v hi j hj
          simp only [List.flatMap_cons]
          have e : (i + 1) * sz + j = x.cells.length + (i * sz + j) := by rw [hx, Nat.succ_mul]; omega
          rw [e, List.getElem?_append_right (by omega)]
          simp only [Nat.add_sub_cancel_left]
          exact ⟨h1, by simp at h2 ⊢; omega⟩
    refine .pe b (o + i * sz) (fun j => us (i * sz + j)) (fun j hj => ?_) (fun j c hc => ?_)
    · rw [Nat.add_assoc]; exact hG _ (flat xs hsz i v hi j hj).2
    · have hj := (List.getElem?_eq_some_iff.1 hc).1
      exact hh _ _ (by rw [(flat xs hsz i v hi j hj).1]; exact hc)

theorem AT.indexSl {t e : TypeId} {x ix : Operand} {k : IntKind} {i : Int} {full : Bool} {sz : Nat} {xs : List V} (hop : o.op = .indexAddr t x ix) (hd : dstOk st.n o.dst)
    (hu : P.underlying t = some (.slice e)) (hx : VLe st.S (st.opnd x) (.sl full sz xs)) (hi : st.opnd ix = .lit (.int k i)) (hs : szA P e = some sz) (h0 : 0 ≤ i) (h1 : i < xs.length)
    (hk : ∀ v, xs[i.toNat]? = some v → K (st.put o.dst (.pe v.cells))) : ATake P o K st := by
  obtain ⟨v, hv⟩ : ∃ v, xs[i.toNat]? = some v := ⟨xs[i.toNat]'(by omega), by simp⟩
  refine AT.pure hd (by rw [hop]; rfl) (fun G w a hr => ?_) (hk v hv)
  have h := hx G w _ hr.inv (hr.opnd x)
  obtain ⟨b, o', cap, hax, _, hpe⟩ := h.sl_at hv
  refine ⟨_, fun w _ => ?_, hpe⟩
  simp only [execOp, hop, Instr.indexAt, hr.lit hi, hax, asIntOf, Sem.run_bind, Sem.run_pure, Result.andThen_ok, run_und hu]
  simp [h0, h1, run_size hs, Addr.add_eq, run_und hu]

theorem AT.indexStr {t : TypeId} {x ix : Operand} {k : IntKind} {i : Int} {s : ByteArray} (hop : o.op = .index t x ix) (hd : dstOk st.n o.dst)
    (hu : P.underlying t = some .string) (hx : st.opnd x = .lit (.string s)) (hi : st.opnd ix = .lit (.int k i)) (h0 : 0 ≤ i) (h1 : i < s.size)
    (hk : ∀ c : UInt8, s[i.toNat]? = some c → K (st.put o.dst (.lit (.int .u8 c.toNat)))) : ATake P o K st := by
  have hlt : i.toNat < s.size := by omega
  refine AT.pure hd (by rw [hop]; rfl) (fun G w a hr => ⟨.int .u8 (s[i.toNat]).toNat, fun w _ => ?_, .lit _⟩) (hk s[i.toNat] (by simp [hlt]))
  simp only [execOp, hop, Instr.index, hr.lit hi, hr.lit hx, asIntOf, Sem.run_bind, Sem.run_pure, Result.andThen_ok, run_und hu]
  simp [h0, hlt]

/-! #### len -/

theorem AT.lenSl {c : Call} {x : Operand} {t e : TypeId} {full : Bool} {sz : Nat} {xs : List V} (hop : o.op = .call c) (hc : c = ⟨.builtin .len, #[x], #[t]⟩) (hd : dstOk st.n o.dst)
    (hu : P.underlying t = some (.slice e)) (hx : st.opnd x = .sl full sz xs) (hk : K (st.put o.dst (.lit (.int .i64 xs.length)))) : ATake P o K st :=
  AT.pure hd (by rw [hop]; rfl) (fun G w a hr => by
    have h := hr.opnd x
    rw [hx] at h
    obtain ⟨ad, cap, hv⟩ : ∃ ad cap, a.eval x = .slice ad xs.length cap := by
      cases hv : a.eval x <;> rw [hv] at h <;> cases h
      exact ⟨_, _, rfl⟩
    refine ⟨_, fun w _ => ?_, .lit _⟩
    subst hc
    simp only [execOp, hop]
    simp [resolve, invoke, builtin, Builtin.len_, hv, run_und hu, goInt]) hk
theorem AT.lenLit {c : Call} {x : Operand} {t e : TypeId} {ad : Option Addr} {n cap : Nat} (hop : o.op = .call c) (hc : c = ⟨.builtin .len, #[x], #[t]⟩) (hd : dstOk st.n o.dst)
    (hu : P.underlying t = some (.slice e)) (hx : st.opnd x = .lit (.slice ad n cap)) (hk : K (st.put o.dst (.lit (.int .i64 n)))) : ATake P o K st :=
  AT.pure hd (by rw [hop]; rfl) (fun G w a hr => by
    refine ⟨_, fun w _ => ?_, .lit _⟩
    subst hc
    simp only [execOp, hop]
    simp [resolve, invoke, builtin, Builtin.len_, hr.lit hx, run_und hu, goInt]) hk
theorem AT.lenStr {c : Call} {x : Operand} {t : TypeId} {s : ByteArray} (hop : o.op = .call c) (hc : c = ⟨.builtin .len, #[x], #[t]⟩) (hd : dstOk st.n o.dst)
    (hu : P.underlying t = some .string) (hx : st.opnd x = .lit (.string s)) (hk : K (st.put o.dst (.lit (.int .i64 s.size)))) : ATake P o K st :=
  AT.pure hd (by rw [hop]; rfl) (fun G w a hr => by
    refine ⟨_, fun w _ => ?_, .lit _⟩
    subst hc
    simp only [execOp, hop]
    simp [resolve, invoke, builtin, Builtin.len_, hr.lit hx, run_und hu, goInt]) hk

end
end Go.AW
/- The engine AW, part 7: slices that are made and appended to. -/
set_option linter.unusedVariables false
set_option linter.unusedSimpArgs false
namespace Go.AW
open Go.Great

/-! ### The entry of an appended slice -/

def findVec : List Res → Nat → Option (Option Addr × Nat × Nat × List V)
  | [], _ => none
  | .vec k a cap sz xs :: S, x => if k = x then some (a, cap, sz, xs) else findVec S x
  | .objT .. :: S, x => findVec S x
  | .raw .. :: S, x => findVec S x
  | .lp .. :: S, x => findVec S x

def setVec : List Res → Nat → Res → List Res
  | [], _, _ => []
  | .vec k a cap sz xs :: S, x, r => if k = x then r :: S else .vec k a cap sz xs :: setVec S x r
  | r' :: S, x, r => r' :: setVec S x r

theorem findVec_split {S : List Res} {k : Nat} {a : Option Addr} {cap sz : Nat} {xs : List V} (h : findVec S k = some (a, cap, sz, xs)) :
    ∃ S1 S2, S = S1 ++ .vec k a cap sz xs :: S2 ∧ ∀ r, setVec S k r = S1 ++ r :: S2 := by
  induction S with
  | nil => simp [findVec] at h
  | cons r S ih =>
    cases r with
    | vec k' a' cap' sz' xs' =>
      simp only [findVec] at h
      split at h
      · rename_i e; subst e
        simp at h; obtain ⟨rfl, rfl, rfl, rfl⟩ := h
        exact ⟨[], S, rfl, fun r => by simp [setVec]⟩
      · rename_i e
        obtain ⟨S1, S2, h1, h2⟩ := ih h
        exact ⟨_ :: S1, S2, by rw [h1]; rfl, fun r => by simp [setVec, e, h2]⟩
    | objT b cs => obtain ⟨S1, S2, h1, h2⟩ := ih h; exact ⟨_ :: S1, S2, by rw [h1]; rfl, fun r => by simp [setVec, h2]⟩
    | raw b o => obtain ⟨S1, S2, h1, h2⟩ := ih h; exact ⟨_ :: S1, S2, by rw [h1]; rfl, fun r => by simp [setVec, h2]⟩
    | lp => obtain ⟨S1, S2, h1, h2⟩ := ih h; exact ⟨_ :: S1, S2, by rw [h1]; rfl, fun r => by simp [setVec, h2]⟩

theorem blks_append (S S' : List Res) : blks (S ++ S') = blks S ++ blks S' := by simp [blks]
theorem blks_cons (r : Res) (S : List Res) : blks (r :: S) = (match r.blk with | some b => [b] | none => []) ++ blks S := by
  simp only [blks, List.filterMap_cons]; cases r.blk <;> rfl

/-- One resource is changed for another one, in a world that has turned in the first one's block, or has new blocks. -/
theorem Inv.swap {G G' : Im} {w w' : World} {S1 S2 : List Res} {r r' : Res} (h : Inv G w (S1 ++ r :: S2))
    (hsz : w.heap.size ≤ w'.heap.size) (ht : w'.tape = w.tape) (hos : w'.os = w.os) (hout : w'.output = w.output) (hle : Im.le G G')
    (him : ∀ b o u, G' b o = some u → w'.cell? ⟨b, o, none⟩ = some u)
    (hk : ∀ b, b < w.heap.size → r.blk ≠ some b → w'.heap[b]? = w.heap[b]? ∧ ∀ o, G' b o = G b o) (hr : r'.holds G' w')
    (hbr : ∀ b, r'.blk = some b → r.blk = some b ∨ w.heap.size ≤ b) :
    Evol (S1 ++ r :: S2) G w (S1 ++ r' :: S2) G' w' ∧ Inv G' w' (S1 ++ r' :: S2) := by
  have hnd := h.nd
  rw [blks_append, blks_cons] at hnd
  have hdis : ∀ x ∈ S1 ++ S2, ∀ b, x.blk = some b → r.blk ≠ some b := by
    intro x hx b hxb hrb
    rw [hrb] at hnd
    have hm : b ∈ blks S1 ∨ b ∈ blks S2 := by
      rcases List.mem_append.1 hx with h1 | h1
      · exact .inl (mem_blks.2 ⟨x, h1, hxb⟩)
      · exact .inr (mem_blks.2 ⟨x, h1, hxb⟩)
    rw [List.nodup_append] at hnd
    obtain ⟨_, h2, h3⟩ := hnd
    rcases hm with h1 | h1
    · exact h3 b h1 b (by simp) rfl
    · simp at h2; exact h2.1 h1
  have hother : ∀ x ∈ S1 ++ S2, x.holds G' w' := fun x hx => by
    have hx0 : x ∈ S1 ++ r :: S2 := by rcases List.mem_append.1 hx with h1 | h1 <;> simp [h1]
    exact Res.holds_of (h.res x hx0) hle fun b hb => hk b (Res.blk_lt (h.res x hx0) hb) (hdis x hx b hb)
  have hlt : ∀ b ∈ blks S1 ++ blks S2, b < w.heap.size := fun b hb => h.lt (by
    rw [blks_append, blks_cons]
    rcases List.mem_append.1 hb with h1 | h1 <;> simp [h1])
  refine ⟨⟨hsz, ht, hos, hout, hle, fun b hb hnb => (hk b hb fun e => hnb (by rw [blks_append, blks_cons, e]; simp)).1,
    fun b hb hnb => (hk b hb fun e => hnb (by rw [blks_append, blks_cons, e]; simp)).2, fun b hb => ?_⟩, ⟨him, fun x hx => ?_, ?_⟩⟩
  · rw [blks_append, blks_cons] at hb
    rw [blks_append, blks_cons]
    rcases List.mem_append.1 hb with h1 | h1
    · exact .inl (by simp [h1])
    · rcases List.mem_append.1 h1 with h1 | h1
      · have : r'.blk = some b := by cases hrb : r'.blk <;> simp [hrb] at h1; rw [h1]
        rcases hbr b this with h2 | h2
        all_goals first | (exact .inl (by rw [h2]; simp)) | exact .inr h2
      · exact .inl (by simp [h1])
  · rcases List.mem_append.1 hx with h1 | h1
    · exact hother x (by simp [h1])
    · rcases List.mem_cons.1 h1 with rfl | h1
      · exact hr
      · exact hother x (by simp [h1])
  · rw [blks_append, blks_cons]
    have hnd' : (blks S1 ++ blks S2).Nodup := by
      rw [List.nodup_append] at hnd ⊢
      obtain ⟨h1, h2, h3⟩ := hnd
      rw [List.nodup_append] at h2
      exact ⟨h1, h2.2.1, fun a ha b hb => h3 a ha b (by simp [hb])⟩
    cases hrb : r'.blk with
    | none => simpa using hnd'
    | some b =>
      have hnb : b ∉ blks S1 ++ blks S2 := by
        intro hm
        rcases hbr b hrb with h1 | h1
        · have : ∃ x ∈ S1 ++ S2, x.blk = some b := by
            rcases List.mem_append.1 hm with h2 | h2
            · obtain ⟨x, hx, e⟩ := mem_blks.1 h2; exact ⟨x, by simp [hx], e⟩
            · obtain ⟨x, hx, e⟩ := mem_blks.1 h2; exact ⟨x, by simp [hx], e⟩
          obtain ⟨x, hx, e⟩ := this
          exact hdis x hx b e h1
        · have := hlt b hm; omega
      rw [List.nodup_append] at hnd' ⊢
      obtain ⟨h1, h2, h3⟩ := hnd'
      refine ⟨h1, ?_, fun a ha c hc => ?_⟩
      · simp; exact ⟨fun h => hnb (by simp [h]), h2⟩
      · simp at hc
        rcases hc with rfl | hc
        · intro e; subst e; exact hnb (by simp [ha])
        · exact h3 a ha c hc

/-- A slice of nothing may be appended to. -/
theorem ownB_nil (k : Nat) : ownB k none 0 0 = false := by simp [ownB]
theorem Inv.vec_nil {G : Im} {w : World} {S : List Res} (h : Inv G w S) (k sz : Nat) : Inv G w (.vec k none 0 sz [] :: S) :=
  h.cons ⟨.sl 0 0 (fun _ => undef) (fun e => absurd rfl e) (by simp) (by simp) (by simp) (by simp) (by simp) (by simp), fun hlt => by rw [List.length_nil, ownB_nil] at hlt; cases hlt⟩ (by simp [Res.blk, ownB_nil])

/-! ### What is appended -/

structure News (P : Program) (G : Im) (sz m : Nat) (ys : List V) (y : Value) (news : List Value) : Prop where
  len : ys.length = m
  lenOf : ∀ w, (Builtin.lenOf y).run P w = .ok m w
  rel : VRels G (ys.flatMap V.cells) news
  size : news.length = m * sz
  one : ∀ u ∈ news, u.oneCell' = true
  first : ∀ w, (∀ b o u, G b o = some u → w.cell? ⟨b, o, none⟩ = some u) → (Builtin.firstCells sz m y).run P w = .ok news.toArray w

theorem VRel.one_cells {G : Im} {cs : List V} {us : List Value} (h : VRels G cs us) (hc : ∀ c ∈ cs, V.one c = true) : ∀ u ∈ us, u.oneCell' = true := by
  intro u hu
  obtain ⟨i, hi⟩ := List.mem_iff_getElem?.1 hu
  have hl : i < cs.length := by rw [h.1]; exact (List.getElem?_eq_some_iff.1 hi).1
  exact (h.2 i cs[i] u (by simp [hl]) hi).one (hc _ (List.getElem_mem hl))

theorem flat_length {xs : List V} {sz : Nat} (h : ∀ x ∈ xs, x.cells.length = sz) : (xs.flatMap V.cells).length = xs.length * sz := by
  induction xs with
  | nil => simp
  | cons x xs ih =>
    rw [List.flatMap_cons, List.length_append, ih fun y hy => h y (List.mem_cons_of_mem _ hy), h x List.mem_cons_self, List.length_cons, Nat.succ_mul]
    omega

/-- The cells of a slice by content, one by one. -/
theorem VRel.sl_cells {G : Im} {full : Bool} {sz : Nat} {xs : List V} {x : Value} (h : VRel G (.sl full sz xs) x) :
    ∃ a cap us, x = .slice a xs.length cap ∧ xs.length ≤ cap ∧ (full = true → cap = xs.length) ∧ (∀ x ∈ xs, x.cells.length = sz ∧ V.okv x = true) ∧ VRels G (xs.flatMap V.cells) us ∧ us.length = xs.length * sz ∧
      (xs ≠ [] → ∃ b o, a = some ⟨b, o, none⟩ ∧ ∀ (i : Nat) u, us[i]? = some u → G b (o + i) = some u) := by
  cases h with
  | sl b o us ha hsz hok hcap hfull hG hh =>
    rename_i a cap
    refine ⟨a, cap, (List.range (xs.flatMap V.cells).length).map us, rfl, hcap, hfull, fun x hx => ⟨hsz x hx, hok x hx⟩, ⟨by simp, fun i v y hv hy => ?_⟩, ?_, fun hne => ⟨b, o, ha hne, fun i u hu => ?_⟩⟩
    · simp only [List.getElem?_map, Option.map_eq_some_iff] at hy
      obtain ⟨j, hj, rfl⟩ := hy
      have := List.getElem?_eq_some_iff.1 hj
      simp at this; obtain ⟨_, rfl⟩ := this
      exact hh _ _ hv
    · rw [List.length_map, List.length_range]; exact flat_length hsz
    · simp only [List.getElem?_map, Option.map_eq_some_iff] at hu
      obtain ⟨j, hj, rfl⟩ := hu
      have := List.getElem?_eq_some_iff.1 hj
      simp at this; obtain ⟨hl, rfl⟩ := this
      exact hG _ (by simpa using hl)

theorem News.sl {P : Program} {G : Im} {full : Bool} {sz : Nat} {ys : List V} {y : Value} (h : VRel G (.sl full sz ys) y) : ∃ news, News P G sz ys.length ys y news := by
  obtain ⟨a, cap, us, rfl, hcap, hfull, hsz, hrel, hlen, hne⟩ := h.sl_cells
  refine ⟨us, ⟨rfl, fun w => rfl, hrel, hlen, VRel.one_cells hrel fun c hc => ?_, fun w hw => ?_⟩⟩
  · obtain ⟨y, hy, hc⟩ := List.mem_flatMap.1 hc
    have := (hsz y hy).2
    cases y <;> simp_all [V.okv, V.cells]
  · by_cases he : ys = []
    · subst he
      simp at hlen
      subst hlen
      cases a with
      | none => rfl
      | some a => simp [Builtin.firstCells, loadCells, loadCellsFrom]
    · obtain ⟨b, o, rfl, hG⟩ := hne he
      exact run_firstCells_some (P := P) w sz ys.length ⟨b, o, none⟩ ys.length cap us hlen fun j u hu => by rw [Addr.add_eq]; exact hw _ _ _ (hG j u hu)

theorem run_lenOf_nil (P : Program) (w : World) : (Builtin.lenOf (.slice none 0 0)).run P w = .ok 0 w := rfl

/-! ### append -/

theorem VRel.sl_mk {G : Im} {full : Bool} {sz b : Nat} {xs : List V} {us : List Value} {cap : Nat} (hcap : xs.length ≤ cap) (hfull : full = true → cap = xs.length) (hsz : ∀ x ∈ xs, x.cells.length = sz ∧ V.okv x = true)
    (hrel : VRels G (xs.flatMap V.cells) us) {o : Nat} (hG : ∀ (i : Nat) u, us[i]? = some u → G b (o + i) = some u) : VRel G (.sl full sz xs) (.slice (some ⟨b, o, none⟩) xs.length cap) := by
  refine .sl b o (fun i => us.getD i undef) (fun _ => rfl) (fun x hx => (hsz x hx).1) (fun x hx => (hsz x hx).2) hcap hfull (fun i hi => ?_) (fun i c hc => ?_)
  · have hi' : i < us.length := by rw [← hrel.1]; exact hi
    rw [List.getD_eq_getElem?_getD, List.getElem?_eq_getElem hi']
    exact hG i _ (List.getElem?_eq_getElem hi')
  · have hi : i < us.length := by rw [← hrel.1]; exact (List.getElem?_eq_some_iff.1 hc).1
    rw [List.getD_eq_getElem?_getD, List.getElem?_eq_getElem hi]
    exact hrel.2 i c _ hc (List.getElem?_eq_getElem hi)

theorem run_app_room {P : Program} {w w' : World} {t t2 ty e : TypeId} (ht : P.underlying t = some (.slice e)) {d2 : TypeDesc} (ht2 : P.underlying t2 = some d2) (hd2 : d2 = .slice e ∨ d2 = .string)
    {i : TypeInfo} (hti : P.info? e = some i) {b : Nat} {n cap m : Nat} {y : Value} (hl : (Builtin.lenOf y).run P w = .ok m w) {news : Array Value} (hf : (Builtin.firstCells i.size m y).run P w = .ok news w)
    (hroom : n + m ≤ cap) (hst : (storeCells ⟨b, n * i.size, none⟩ news.toList).run P w = .ok () w') :
    (Builtin.append_ #[t, t2] ty #[.slice (some ⟨b, 0, none⟩) n cap, y]).run P w = .ok (.slice (some ⟨b, 0, none⟩) (n + m) cap) w' := by
  rcases hd2 with rfl | rfl <;> simp [Builtin.append_, run_und ht, run_und ht2, sizeOf, typeInfo, hti, hl, hf, hroom, Addr.add_lit, hst]

theorem run_app_none {P : Program} {w : World} {t t2 ty e : TypeId} (ht : P.underlying t = some (.slice e)) {d2 : TypeDesc} (ht2 : P.underlying t2 = some d2) (hd2 : d2 = .slice e ∨ d2 = .string)
    {i : TypeInfo} (hti : P.info? e = some i) {a : Option Addr} {n cap : Nat} {y : Value} (hl : (Builtin.lenOf y).run P w = .ok 0 w) (hf : (Builtin.firstCells i.size 0 y).run P w = .ok #[] w)
    (hroom : n ≤ cap) : (Builtin.append_ #[t, t2] ty #[.slice a n cap, y]).run P w = .ok (.slice a n cap) w := by
  cases a <;> rcases hd2 with rfl | rfl <;> simp [Builtin.append_, run_und ht, run_und ht2, sizeOf, typeInfo, hti, hl, hf, hroom, storeCells]

theorem run_app_grow {P : Program} {w : World} {t t2 ty e : TypeId} (ht : P.underlying t = some (.slice e)) {d2 : TypeDesc} (ht2 : P.underlying t2 = some d2) (hd2 : d2 = .slice e ∨ d2 = .string)
    {i : TypeInfo} (hti : P.info? e = some i) {z : Value} (hz : i.zero = some z) {a : Option Addr} {n cap m : Nat} {y : Value} (hl : (Builtin.lenOf y).run P w = .ok m w) {olds news : Array Value}
    (ho : (Builtin.firstCells i.size n (.slice a n cap)).run P w.drew = .ok olds w.drew) (hf : (Builtin.firstCells i.size m y).run P w.drew = .ok news w.drew)
    (hroom : cap < n + m) (h63 : ((n + m : Nat) : Int) ≤ 9223372036854775807) (hfit : Builtin.nextslicecap (n + m) cap * i.bytes ≤ 281474976710656) :
    (Builtin.append_ #[t, t2] ty #[.slice a n cap, y]).run P w = .ok (.slice (some ⟨w.heap.size, 0, none⟩) (n + m) (grownCap w (n + m) cap e))
      (w.drew.alloc (.cells (olds ++ news ++ Builtin.zeroCells z.cells (grownCap w (n + m) cap e - (n + m))) e)) := by
  have hn : ¬ (n + m ≤ cap) := by omega
  have h63' : ¬ (9223372036854775807 < ((n : Int) + (m : Int))) := by omega
  have h48' : ¬ (281474976710656 < Builtin.nextslicecap (n + m) cap * i.bytes) := by omega
  have hdr : ({ heap := w.heap, tape := w.tape, drawn := w.drawn + 1, os := w.os, output := w.output } : World) = w.drew := rfl
  rcases hd2 with rfl | rfl <;>
    simp [Builtin.append_, run_und ht, run_und ht2, sizeOf, typeInfo, zeroValue, hti, hz, hl, hn, h63', h48', Question.forced, ho, hf, newRow, grownCap, hdr]

theorem firstCells_zero {P : Program} (sz : Nat) {y : Value} {n : Nat} (w : World) (a : Option Addr) (cap : Nat) : (Builtin.firstCells sz 0 (.slice a n cap)).run P w = .ok #[] w := by
  cases a with
  | none => rfl
  | some a => simp [Builtin.firstCells, loadCells, loadCellsFrom]

theorem append_core {P : Program} {G : Im} {w : World} {S1 S2 : List Res} {k : Nat} {a : Option Addr} {cap sz : Nat} {xs ys : List V} (hi : Inv G w (S1 ++ .vec k a cap sz xs :: S2))
    {t t2 ty e : TypeId} (ht : P.underlying t = some (.slice e)) {d2 : TypeDesc} (ht2 : P.underlying t2 = some d2) (hd2 : d2 = .slice e ∨ d2 = .string) {i : TypeInfo} (hti : P.info? e = some i) (hsz : i.size = sz) {z : Value} (hz : i.zero = some z) (hzs : z.cells.size = sz)
    {y : Value} {news : List Value} (hn : News P G sz ys.length ys y news) (hys : ∀ y ∈ ys, y.cells.length = sz ∧ V.okv y = true) (hbig : xs.length + ys.length ≤ 4294967296) (hby : i.bytes ≤ 16384) (hke : k < 100000 ∨ e = k % 100000) :
    ∃ a' cap' G' w', (Builtin.append_ #[t, t2] ty #[.slice a xs.length cap, y]).run P w = .ok (.slice a' (xs ++ ys).length cap') w' ∧
      Evol (S1 ++ .vec k a cap sz xs :: S2) G w (S1 ++ .vec k a' cap' sz (xs ++ ys) :: S2) G' w' ∧ Inv G' w' (S1 ++ .vec k a' cap' sz (xs ++ ys) :: S2) := by
  subst hsz
  obtain ⟨hrel, hown⟩ := hi.res (.vec k a cap i.size xs) (by simp)
  obtain ⟨a0, cap0, us, he, hcap, _, hxsz, hus, husl, hne⟩ := hrel.sl_cells
  simp at he; obtain ⟨rfl, rfl⟩ := he
  have hall : ∀ x ∈ xs ++ ys, x.cells.length = i.size ∧ V.okv x = true := fun x hx => by rcases List.mem_append.1 hx with h | h; exact hxsz x h; exact hys x h
  have hboth : VRels G ((xs ++ ys).flatMap V.cells) (us ++ news) := by rw [List.flatMap_append]; exact hus.append hn.rel
  have hns := hn.size
  have hlen : (xs ++ ys).length = xs.length + ys.length := List.length_append
  rw [hlen]
  by_cases hy : ys = []
  · subst hy
    have hnews : news = [] := List.eq_nil_of_length_eq_zero (by simpa using hns)
    subst hnews
    exact ⟨a, cap, G, w, run_app_none ht ht2 hd2 hti (by simpa using hn.lenOf w) (by simpa using hn.first w hi.im) hcap, by simpa using Evol.refl _ G w, by simpa using hi⟩
  have hm : 0 < ys.length := List.length_pos_iff.2 hy
  by_cases hroom : xs.length + ys.length ≤ cap
  · obtain ⟨b, us0, T, rfl, hb, hfit, hT, hfree⟩ := hown (by simp [ownB]; left; omega)
    have hzero : xs ≠ [] → ∀ (j : Nat) u, us[j]? = some u → G b j = some u := fun hx => by
      obtain ⟨b', o', hab, hG⟩ := hne hx
      simp at hab; obtain ⟨rfl, rfl⟩ := hab
      simpa using hG
    have hus0 : ∀ (j : Nat) u, us[j]? = some u → G b j = some u := fun j u hu => hzero (fun e => by subst e; simp at husl; subst husl; simp at hu) j u hu
    have hsum : xs.length * i.size + news.length ≤ us0.size := by
      rw [hns, ← Nat.add_mul]; exact Nat.le_trans (Nat.mul_le_mul_right _ hroom) hfit
    have hst := run_storeCells_at P b (xs.length * i.size) T news 0 us0 w hb (by simpa using hsum) hn.one
    simp only [Nat.add_zero] at hst
    have hr := run_app_room (P := P) (ty := ty) ht ht2 hd2 hti (hn.lenOf w) (hn.first w hi.im) hroom (news := news.toArray) hst
    obtain ⟨us1, hus1⟩ : ∃ us1, us1 = (us0.toList.take (xs.length * i.size) ++ news ++ us0.toList.drop (xs.length * i.size + news.length)).toArray := ⟨_, rfl⟩
    rw [← hus1] at hr
    have hget : ∀ j, us1[j]? = if j < xs.length * i.size then us0[j]? else if j < xs.length * i.size + news.length then news[j - xs.length * i.size]? else us0[j]? := by
      intro j
      have hl : (us0.toList.take (xs.length * i.size)).length = xs.length * i.size := by simp; omega
      rw [hus1]
      simp only [List.getElem?_toArray, List.append_assoc]
      by_cases h1 : j < xs.length * i.size
      · rw [if_pos h1, List.getElem?_append_left (by omega), List.getElem?_take, if_pos h1]; simp
      · rw [if_neg h1, List.getElem?_append_right (by omega), hl]
        by_cases h2 : j < xs.length * i.size + news.length
        · rw [if_pos h2, List.getElem?_append_left (by omega)]
        · rw [if_neg h2, List.getElem?_append_right (by omega), List.getElem?_drop]
          simp; congr 1; omega
    have hsz1 : us1.size = us0.size := by rw [hus1]; simp; omega
    have hw1 : (w.setRow b us1).heap[b]? = some (.cells us1 T (0, 0)) := setRow_heap w b us0 us1 T (0, 0) hb
    obtain ⟨G', hG'⟩ : ∃ G' : Im, G' = fun b' o => if b' = b ∧ xs.length * i.size ≤ o ∧ o < xs.length * i.size + news.length then news[o - xs.length * i.size]? else G b' o := ⟨_, rfl⟩
    have hle : Im.le G G' := fun b' o u hg => by
      rw [hG']; simp only
      rw [if_neg (fun h => by obtain ⟨rfl, h1, h2⟩ := h; rw [hfree o h1] at hg; cases hg)]
      exact hg
    have hsame : ∀ b', b' ≠ b → ∀ o, G' b' o = G b' o := fun b' hb' o => by rw [hG']; simp only; rw [if_neg (fun h => hb' h.1)]
    have hcells : ∀ (j : Nat) u, (us ++ news)[j]? = some u → G' b j = some u := by
      intro j u hu
      by_cases h1 : j < us.length
      · rw [List.getElem?_append_left h1] at hu; exact hle _ _ _ (hus0 j u hu)
      · rw [List.getElem?_append_right (by omega)] at hu
        have hl := (List.getElem?_eq_some_iff.1 hu).1
        rw [hG']; simp only
        rw [if_pos ⟨trivial, by omega, by omega⟩, ← husl]; exact hu
    have hrel' : VRel G' (.sl false i.size (xs ++ ys)) (.slice (some ⟨b, 0, none⟩) (xs ++ ys).length cap) :=
      VRel.sl_mk (by omega) (by simp) hall (hboth.mono hle) (by simpa using hcells)
    have hblk : (Res.vec k (some ⟨b, 0, none⟩) cap i.size xs).blk = some b := by simp [Res.blk, ownB, show xs.length < cap by omega]
    refine ⟨some ⟨b, 0, none⟩, cap, G', w.setRow b us1, hr, Inv.swap hi (by simp [World.setRow]) rfl rfl rfl hle (fun b' o u hg => ?_) (fun b' hb' hne' => ?_) ⟨hrel', fun hlt => ?_⟩ (fun b' hb' => ?_)⟩
    · by_cases hbb : b' = b
      · subst hbb
        simp only [World.cell?, hw1]
        show us1[o]? = some u
        rw [hget]
        rw [hG'] at hg; simp only [true_and] at hg
        split at hg
        · rename_i h1
          rw [if_neg (by omega), if_pos h1.2]; exact hg
        · rename_i h1
          have h0 := hi.im _ _ _ hg
          simp only [World.cell?, hb] at h0
          have h0 : us0[o]? = some u := by simpa using h0
          split
          · exact h0
          · split
            · omega
            · exact h0
      · rw [hsame b' hbb] at hg
        have h0 := hi.im _ _ _ hg
        simp only [World.cell?] at h0 ⊢
        rw [setRow_other w b b' us1 hbb]; exact h0
    · have hbb : b' ≠ b := fun e => hne' (by rw [hblk, e])
      exact ⟨setRow_other w b b' us1 hbb, hsame b' hbb⟩
    · refine ⟨b, us1, T, rfl, hw1, by rw [hsz1]; exact hfit, hT, fun j hj => ?_⟩
      rw [hlen, Nat.add_mul] at hj
      rw [hG']; simp only
      rw [if_neg (by omega)]
      exact hfree j (by omega)
    · simp only [Res.blk] at hb'
      split at hb'
      · simp at hb'; subst hb'; exact .inl hblk
      · cases hb'
  · have hfc : (Builtin.firstCells i.size xs.length (.slice a xs.length cap)).run P w.drew = .ok us.toArray w.drew := by
      by_cases hx : xs = []
      · subst hx; simp at husl; subst husl; exact firstCells_zero (y := undef) _ _ _ _
      · obtain ⟨b', o', rfl, hG⟩ := hne hx
        exact run_firstCells_some (P := P) w.drew i.size xs.length ⟨b', o', none⟩ xs.length cap us husl fun j u hu => by
          rw [Addr.add_eq]; exact hi.im _ _ _ (hG j u hu)
    have hby' : (xs.length + ys.length) * i.bytes ≤ 140737488355328 := Nat.le_trans (Nat.mul_le_mul hbig hby) (by decide)
    have hr := run_app_grow (P := P) (ty := ty) ht ht2 hd2 hti hz (hn.lenOf w) hfc (hn.first w.drew hi.im) (by omega) (by omega) (growslice_fits (by omega) hby')
    obtain ⟨nc, hnc⟩ : ∃ nc, nc = grownCap w (xs.length + ys.length) cap e := ⟨_, rfl⟩
    have hge : xs.length + ys.length ≤ nc := by rw [hnc]; exact grownCap_ge _ _ _ _
    rw [← hnc] at hr
    obtain ⟨cells, hcs⟩ : ∃ cells, cells = us.toArray ++ news.toArray ++ Builtin.zeroCells z.cells (nc - (xs.length + ys.length)) := ⟨_, rfl⟩
    rw [← hcs] at hr
    have hcsz : cells.size = nc * i.size := by
      rw [hcs]; simp only [Array.size_append, List.size_toArray, size_zeroCells, hzs, husl, hns, ← Nat.add_mul]
      congr 1; omega
    have hpre : ∀ (j : Nat) u, (us ++ news)[j]? = some u → cells[j]? = some u := by
      intro j u hu
      have hl := (List.getElem?_eq_some_iff.1 hu).1
      rw [hcs, Array.getElem?_append_left (by simp at hl ⊢; omega)]
      rw [← Array.getElem?_toList]
      simpa using hu
    obtain ⟨G', hG'⟩ : ∃ G' : Im, G' = fun b' o => if b' = w.heap.size then (us ++ news)[o]? else G b' o := ⟨_, rfl⟩
    have hle : Im.le G G' := fun b' o u hg => by
      rw [hG']; simp only
      rw [if_neg (by have := hi.G_lt hg; omega)]; exact hg
    have hsame : ∀ b', b' ≠ w.heap.size → ∀ o, G' b' o = G b' o := fun b' hb' o => by rw [hG']; simp only; rw [if_neg hb']
    have hnew : (w.drew.alloc (.cells cells e)).heap[w.heap.size]? = some (.cells cells e (0, 0)) := World.heap_alloc_eq (w := w.drew)
    have hold : ∀ b', b' ≠ w.heap.size → (w.drew.alloc (.cells cells e)).heap[b']? = w.heap[b']? := fun b' hb' => World.heap_alloc_ne (w := w.drew) hb'
    have hrel' : VRel G' (.sl false i.size (xs ++ ys)) (.slice (some ⟨w.heap.size, 0, none⟩) (xs ++ ys).length nc) :=
      VRel.sl_mk (by omega) (by simp) hall (hboth.mono hle) (fun j u hu => by rw [hG']; simp only [if_true, Nat.zero_add]; exact hu)
    refine ⟨some ⟨w.heap.size, 0, none⟩, nc, G', w.drew.alloc (.cells cells e), hr, Inv.swap hi (by simp [World.size_alloc]) rfl rfl rfl hle (fun b' o u hg => ?_) (fun b' hb' _ => ⟨hold b' (by omega), hsame b' (by omega)⟩) ⟨hrel', fun hlt => ?_⟩ (fun b' hb' => ?_)⟩
    · by_cases hbb : b' = w.heap.size
      · subst hbb
        rw [hG'] at hg; simp only [if_true] at hg
        simp only [World.cell?, hnew]
        simpa using hpre o u hg
      · rw [hsame b' hbb] at hg
        have h0 := hi.im _ _ _ hg
        simp only [World.cell?] at h0 ⊢
        rw [hold b' hbb]; exact h0
    · refine ⟨w.heap.size, cells, e, rfl, hnew, by omega, fun hk => ⟨by omega, hke.elim (fun h => absurd hk (by omega)) id⟩, fun j hj => ?_⟩
      rw [hlen, Nat.add_mul] at hj
      rw [hG']; simp only [if_true]
      exact List.getElem?_eq_none (by simp; omega)
    · simp only [Res.blk] at hb'
      split at hb'
      · simp at hb'; exact .inr (by omega)
      · cases hb'

end Go.AW
/- The engine AW, part 8: append, literals, calls. -/
set_option linter.unusedVariables false
set_option linter.unusedSimpArgs false
namespace Go.AW
open Go.Great

/-! ### append, as an operation -/

/-- What is appended, by content. -/
def srcOf (S : List Res) (sz : Nat) : V → Option (List V)
  | .sl _ sz' ys => if sz' = sz then some ys else none
  | .vs k a n cap =>
    match findVec S k with
    | some (a', cap', sz', xs) => if a' = a ∧ cap' = cap ∧ xs.length = n ∧ sz' = sz then some xs else none
    | none => none
  | .lit (.slice none 0 0) => some []
  | .lit (.string s) => if sz = 1 then some (s.data.toList.map fun c => .lit (.int .u8 c.toNat)) else none
  | _ => none

theorem srcOf_news {P : Program} {G : Im} {w : World} {S : List Res} (hi : Inv G w S) {sz : Nat} {v : V} {x : Value} (hv : VRel G v x) {ys : List V} (h : srcOf S sz v = some ys) :
    (∃ news, News P G sz ys.length ys x news) ∧ ∀ y ∈ ys, y.cells.length = sz ∧ V.okv y = true := by
  cases v with
  | sl full sz' ys' =>
    simp only [srcOf] at h
    split at h
    · rename_i e; subst e; simp at h; subst h
      obtain ⟨_, _, _, _, _, _, hok, _⟩ := hv.sl_cells
      exact ⟨News.sl hv, hok⟩
    · cases h
  | vs k a n cap =>
    simp only [srcOf] at h
    split at h
    · rename_i a' cap' sz' xs hf
      split at h
      · rename_i e
        obtain ⟨rfl, rfl, rfl, rfl⟩ := e
        simp at h; subst h
        obtain ⟨S1, S2, rfl, _⟩ := findVec_split hf
        have hr := (hi.res (.vec k a' cap' sz' xs) (by simp)).1
        obtain ⟨_, _, _, _, _, _, hok, _⟩ := hr.sl_cells
        cases hv
        exact ⟨News.sl hr, hok⟩
      · cases h
    · cases h
  | lit u =>
    have hx := hv.lit_inv
    subst hx
    simp only [srcOf] at h
    split at h
    · rename_i e; cases e
    · rename_i e; cases e
    · rename_i e; cases e
      simp at h; subst h
      exact ⟨⟨[], rfl, fun w => rfl, .nil, by simp, by simp, fun w _ => rfl⟩, by simp⟩
    · rename_i s e; cases e
      split at h
      · rename_i e; subst e
        simp at h; subst h
        refine ⟨⟨s.data.toList.map fun c => .int .u8 c.toNat, by simp, fun w => by simp [Builtin.lenOf], ?_, by simp, ?_, fun w _ => ?_⟩, ?_⟩
        · have : ∀ l : List UInt8, VRels G ((l.map fun c => V.lit (.int .u8 c.toNat)).flatMap V.cells) (l.map fun c => Value.int .u8 c.toNat) := by
            intro l
            induction l with
            | nil => exact .nil
            | cons c l ih => simp only [List.map_cons, List.flatMap_cons, V.cells, List.singleton_append]; exact .cons (.lit _) ih
          exact this _
        · intro u hu
          simp at hu
          obtain ⟨c, _, rfl⟩ := hu; rfl
        · simp only [Builtin.firstCells, Sem.run_pure, List.length_map, Array.length_toList]
          congr 1
          have e : s.extract 0 s.data.size = s := by
            apply ByteArray.ext; simp
          rw [e]
          apply Array.ext'
          simp
        · intro y hy
          simp at hy
          obtain ⟨c, _, rfl⟩ := hy
          exact ⟨rfl, rfl⟩
      · cases h
    · cases h
  | _ => simp [srcOf] at h

/-- A slice that may be appended to. -/
def AppTo (S : List Res) (v : V) (k sz : Nat) (xs : List V) (S1 S2 : List Res) : Prop :=
  ∀ G w x, Inv G w S → VRel G v x → ∃ a cap, x = .slice a xs.length cap ∧ Inv G w (S1 ++ .vec k a cap sz xs :: S2) ∧ Evol S G w (S1 ++ .vec k a cap sz xs :: S2) G w

theorem AppTo.nil (S : List Res) (k sz : Nat) : AppTo S (.lit (.slice none 0 0)) k sz [] [] S := fun G w x hi hv => by
  have hx := hv.lit_inv
  subst hx
  exact ⟨none, 0, rfl, hi.vec_nil k sz, (Evol.refl _ _ _).cons (by simp [Res.blk, ownB_nil])⟩

theorem AppTo.full (S : List Res) {k : Nat} (hk : k < 100000) (sz : Nat) (xs : List V) : AppTo S (.sl true sz xs) k sz xs [] S := fun G w x hi hv => by
  obtain ⟨a, cap, us, rfl, hcap, hfull, hok, hrel, hlen, hne⟩ := hv.sl_cells
  have hc := hfull rfl
  subst hc
  have ho : ownB k a xs.length xs.length = false := by simp [ownB]; omega
  have hb : (Res.vec k a xs.length sz xs).blk = none := by simp [Res.blk, ho]
  refine ⟨a, xs.length, rfl, hi.cons ⟨?_, fun h => by rw [ho] at h; cases h⟩ (by simp [hb]), (Evol.refl _ _ _).cons (by simp [hb])⟩
  cases hv with
  | sl b o us ha hsz hok hcap hfull hG hh => exact .sl b o us ha hsz hok hcap (by simp) hG hh

theorem AppTo.vs {S : List Res} {k : Nat} {a : Option Addr} {n cap sz : Nat} {xs : List V} (hf : findVec S k = some (a, cap, sz, xs)) (hn : xs.length = n) :
    ∃ S1 S2, AppTo S (.vs k a n cap) k sz xs S1 S2 ∧ ∀ r, setVec S k r = S1 ++ r :: S2 := by
  obtain ⟨S1, S2, rfl, h2⟩ := findVec_split hf
  refine ⟨S1, S2, fun G w x hi hv => ?_, h2⟩
  cases hv
  exact ⟨a, cap, by rw [hn], hi, .refl _ _ _⟩

section
variable {ro : Option Nat} {P : Program} {o : Oper} {K : St → Prop} {Q : Exit → St → Prop} {st : St}

theorem AOp.append {x y : Operand} {t t2 e : TypeId} {k sz bytes : Nat} {xs ys : List V} {S1 S2 : List Res} {z : Value} {d2 : TypeDesc} (hop : o.op = .call ⟨.builtin .append, #[x, y], #[t, t2]⟩) (hd : dstOk st.n o.dst)
    (ht : P.underlying t = some (.slice e)) (ht2 : P.underlying t2 = some d2) (hd2 : d2 = .slice e ∨ d2 = .string) (hs : szA P e = some sz) (hz : zeroA P e = some z) (hzs : z.cells.size = sz) (hby : bytesA P e = some bytes) (hb : bytes ≤ 16384)
    (hx : AppTo st.S (st.opnd x) k sz xs S1 S2) (hy : srcOf st.S sz (st.opnd y) = some ys) (hbig : xs.length + ys.length ≤ 4294967296) (hke : k < 100000 ∨ e = k % 100000)
    (hk : ∀ a' cap', K (St.put { st with S := S1 ++ .vec k a' cap' sz (xs ++ ys) :: S2 } o.dst (.vs k a' (xs.length + ys.length) cap'))) : AOp ro P o K Q st := by
  refine AOp.value hd (by rw [hop]; rfl) fun G w a hr => ?_
  obtain ⟨⟨news, hn⟩, hys⟩ := srcOf_news (P := P) hr.inv (hr.opnd y) hy
  obtain ⟨ad, cap, hax, hi, he0⟩ := hx G w (a.eval x) hr.inv (hr.opnd x)
  simp only [szA, zeroA, bytesA, Option.map_eq_some_iff, Option.bind_eq_some_iff] at hs hz hby
  obtain ⟨i, hti, rfl⟩ := hs
  obtain ⟨i', hti', hz⟩ := hz
  obtain ⟨i'', hti'', rfl⟩ := hby
  obtain rfl : i = i' := by rw [hti] at hti'; exact Option.some.inj hti'
  obtain rfl : i = i'' := by rw [hti] at hti''; exact Option.some.inj hti''
  obtain ⟨a', cap', G', w', hrun, he, hi'⟩ := append_core hi (ty := o.type) ht ht2 hd2 hti rfl hz hzs hn hys hbig hb hke
  rw [List.length_append] at hrun
  refine ⟨_, w', G', .vs k a' (xs.length + ys.length) cap', _, ?_, he0.trans he, hi', .vs _ _ _ _, hk a' cap'⟩
  simp only [execOp, hop, resolve, invoke, builtin, Sem.run_bind, Sem.run_pure, Result.andThen_ok]
  simp only [List.map_toArray, List.map_cons, List.map_nil, hax, hrun, Result.andThen_ok]

theorem AT.lenVs {x : Operand} {t e : TypeId} {k : Nat} {ad : Option Addr} {n cap : Nat} (hop : o.op = .call ⟨.builtin .len, #[x], #[t]⟩) (hd : dstOk st.n o.dst)
    (hu : P.underlying t = some (.slice e)) (hx : st.opnd x = .vs k ad n cap) (hk : K (st.put o.dst (.lit (.int .i64 n)))) : ATake P o K st :=
  AT.pure hd (by rw [hop]; rfl) (fun G w a hr => by
    have h := hr.opnd x
    rw [hx] at h
    have hv : a.eval x = .slice ad n cap := by cases hv : a.eval x <;> rw [hv] at h <;> cases h; rfl
    refine ⟨_, fun w _ => ?_, .lit _⟩
    simp only [execOp, hop]
    simp [resolve, invoke, builtin, Builtin.len_, hv, run_und hu, goInt]) hk

/-! ### Literals -/

theorem VRels.flat {G : Im} : ∀ {vs : List V} {xs : List Value}, VRels G vs xs → (∀ v ∈ vs, V.okv v = true) → VRels G (vs.flatMap V.cells) (xs.flatMap fun x => x.cells.toList)
  | [], xs, h, _ => by rw [h.nil_inv]; exact .nil
  | v :: vs, xs, h, hok => by
    obtain ⟨x, xs', rfl, h1, h2⟩ := h.cons_inv
    simp only [List.flatMap_cons]
    exact VRels.append (h1.okv (hok v List.mem_cons_self)).1 (VRels.flat h2 fun v hv => hok v (List.mem_cons_of_mem _ hv))

theorem Rel.opnds {G : Im} {w : World} {a : Act} (hr : Rel G w a st) (xs : List Operand) : VRels G (xs.map st.opnd) (xs.map a.eval) := by
  induction xs with
  | nil => exact .nil
  | cons x xs ih => exact .cons (hr.opnd x) ih


end
end Go.AW
/- The engine AW, part 9: calls, panics, functions from their bodies. -/
set_option linter.unusedVariables false
set_option linter.unusedSimpArgs false
namespace Go.AW

/-! ### One value said otherwise -/

def VsLe (S : List Res) (vs vs' : List V) : Prop := ∀ G w xs, Inv G w S → VRels G vs xs → VRels G vs' xs

theorem VLe.any (S : List Res) (v : V) : VLe S v .any := fun _ _ x _ _ => .any x
theorem VLe.trans {S : List Res} {a b c : V} (h : VLe S a b) (h' : VLe S b c) : VLe S a c := fun G w x hi hv => h' G w x hi (h G w x hi hv)
theorem VsLe.refl (S : List Res) (vs : List V) : VsLe S vs vs := fun _ _ _ _ h => h
theorem VsLe.nil (S : List Res) : VsLe S [] [] := .refl S []
theorem VsLe.cons {S : List Res} {v v' : V} {vs vs' : List V} (h : VLe S v v') (h' : VsLe S vs vs') : VsLe S (v :: vs) (v' :: vs') := fun G w xs hi hv => by
  obtain ⟨x, xs', rfl, h1, h2⟩ := hv.cons_inv
  exact .cons (h G w x hi h1) (h' G w xs' hi h2)
theorem VLe.agg {S : List Res} {cs cs' : List V} (h : VsLe S cs cs') : VLe S (.agg cs) (.agg cs') := fun G w x hi hv => by
  obtain ⟨xs, rfl, hx⟩ := hv.agg_inv
  exact .agg' (h G w xs hi hx)
theorem VLe.tuple {S : List Res} {cs cs' : List V} (h : VsLe S cs cs') : VLe S (.tuple cs) (.tuple cs') := fun G w x hi hv => by
  obtain ⟨xs, rfl, hx⟩ := hv.tuple_inv
  exact .tuple' (h G w xs hi hx)
theorem VLe.nilSl (S : List Res) (full : Bool) (sz : Nat) : VLe S (.lit (.slice none 0 0)) (.sl full sz []) := fun G w x hi hv => by
  have hx := hv.lit_inv
  subst hx
  exact .sl 0 0 (fun _ => undef) (fun h => absurd rfl h) (by simp) (by simp) (by simp) (by simp) (by simp) (by simp)
theorem VLe.full (S : List Res) (sz : Nat) (xs : List V) : VLe S (.sl true sz xs) (.sl false sz xs) := fun G w x hi hv => by
  cases hv with
  | sl b o us ha hsz hok hcap hfull hG hh => exact .sl b o us ha hsz hok hcap (by simp) hG hh
theorem VLe.vs {S : List Res} {k : Nat} {a : Option Addr} {n cap sz : Nat} {xs : List V} (hf : findVec S k = some (a, cap, sz, xs)) (hn : n = xs.length) : VLe S (.vs k a n cap) (.sl false sz xs) := fun G w x hi hv => by
  obtain ⟨S1, S2, rfl, _⟩ := findVec_split hf
  subst hn
  cases hv
  exact (hi.res (.vec k a cap sz xs) (by simp)).1

/-- A slice that was appended to, by its content. -/
def fz1 (S : List Res) : V → V
  | .vs k a n cap =>
    match findVec S k with
    | some (a', cap', sz, xs) => if a' = a ∧ cap' = cap ∧ xs.length = n then .sl false sz xs else .vs k a n cap
    | none => .vs k a n cap
  | v => v
def fz (S : List Res) : V → V
  | .agg cs => .agg (cs.map (fz1 S))
  | .tuple cs => .tuple (cs.map (fz1 S))
  | v => fz1 S v

theorem VLe.fz1 (S : List Res) (v : V) : VLe S v (fz1 S v) := by
  cases v <;> try exact .refl S _
  rename_i k a n cap
  simp only [AW.fz1]
  split
  · rename_i a' cap' sz xs hf
    split
    · rename_i e; obtain ⟨rfl, rfl, e⟩ := e; exact .vs hf e.symm
    · exact .refl S _
  · exact .refl S _
theorem VsLe.map {S : List Res} {f : V → V} (h : ∀ v, VLe S v (f v)) : ∀ vs, VsLe S vs (vs.map f)
  | [] => .nil S
  | v :: vs => .cons (h v) (VsLe.map h vs)
theorem VLe.fz (S : List Res) (v : V) : VLe S v (fz S v) := by
  cases v with
  | agg cs => exact .agg (VsLe.map (VLe.fz1 S) cs)
  | tuple cs => exact .tuple (VsLe.map (VLe.fz1 S) cs)
  | _ => exact VLe.fz1 S _

/-! ### Calls -/

def goesB (P : Program) (f : FuncId) : Bool :=
  match P.funcs[f]? with
  | some fn => fn.name != "runtime.NumGoroutine" && fn.body.isSome
  | none => false

theorem run_goes {P : Program} {f : FuncId} (h : goesB P f = true) (args : Array Value) (w : World) : (callFunc f args).run P w = .ok (.enter f args) w := by
  unfold goesB at h
  split at h
  · rename_i fn hf
    simp at h
    obtain ⟨h1, h2⟩ := h
    have h3 : fn.body.isNone = false := by cases hb : fn.body <;> simp_all
    simp only [callFunc, Sem.run_bind, run_program, Result.andThen_ok, hf]
    simp [h1, h3]
  · cases h

def calleeOf : V → Option (FuncId × List V × List V)
  | .lit (.func (.func f) first captured) => some (f, first.toList.map .lit, captured.toList.map .lit)
  | .func (.func f) first captured => some (f, first, captured)
  | _ => none

theorem calleeOf_rel {G : Im} {v : V} {x : Value} (hv : VRel G v x) {f : FuncId} {first captured : List V} (h : calleeOf v = some (f, first, captured)) :
    ∃ f' c' : List Value, x = .func (.func f) f'.toArray c'.toArray ∧ VRels G first f' ∧ VRels G captured c' := by
  cases v with
  | lit u =>
    have hx := hv.lit_inv; subst hx
    simp only [calleeOf] at h
    split at h
    · rename_i f1 a1 c1 e; cases e; simp at h; obtain ⟨rfl, rfl, rfl⟩ := h
      exact ⟨a1.toList, c1.toList, by simp, .lits G _, .lits G _⟩
    · rename_i e; cases e
    · cases h
  | func fn a b =>
    simp only [calleeOf] at h
    split at h
    · rename_i e; cases e
    · rename_i e; cases e; simp at h; obtain ⟨rfl, rfl, rfl⟩ := h
      exact hv.func_inv
    · cases h
  | _ => simp [calleeOf] at h

/-- A call with what is said of the arguments turned. -/
def ACallLe (P : Program) (f : FuncId) (args : List V) (S : List Res) (Q : Out → List Res → Prop) : Prop := ∃ args', VsLe S args args' ∧ ACall P f args' S Q

theorem ACallLe.refl {P : Program} {f : FuncId} {args : List V} {S : List Res} {Q : Out → List Res → Prop} (h : ACall P f args S Q) : ACallLe P f args S Q := ⟨args, .refl S args, h⟩
theorem ACallLe.call {P : Program} {f : FuncId} {args : List V} {S : List Res} {Q : Out → List Res → Prop} (h : ACallLe P f args S Q) : ACall P f args S Q := fun G w xs hv hi => by
  obtain ⟨args', hle, h⟩ := h
  exact h G w xs (hle G w xs hi hv) hi

/-- What follows a call. -/
def callQ (K : St → Prop) (Q : Exit → St → Prop) (st : St) (dst : Option Tmp) : Out → List Res → Prop
  | .ret v, S' => K (St.put { st with S := S' } dst v)
  | .panic x, S' => Q (.panic [{ v := x, recovered := false }]) { st with S := S' }

section
variable {ro : Option Nat} {P : Program} {o : Oper} {K : St → Prop} {Q : Exit → St → Prop} {st : St}

theorem AOp.call {f : Operand} {args : Array Operand} {tys : Array TypeId} {g : FuncId} {first captured : List V} (hop : o.op = .call ⟨.value f, args, tys⟩) (hd : dstOk st.n o.dst)
    (hf : calleeOf (st.opnd f) = some (g, first, captured)) (hg : goesB P g = true)
    (hk : ACallLe P g (first ++ args.toList.map (fun x => fz st.S (st.opnd x)) ++ captured) st.S (callQ K Q st o.dst)) : AOp ro P o K Q st := by
  intro G w a hr
  refine ⟨fun _ _ => trivial, ?_⟩
  rw [Oper.semAt_eq _ _ _ (fun c hc => by rw [hop] at hc; cases hc)]
  obtain ⟨f', c', hfx, hf1, hc1⟩ := calleeOf_rel (hr.opnd f) hf
  have hargs : VRels G (args.toList.map (fun x => fz st.S (st.opnd x))) (args.toList.map a.eval) := by
    have h1 := hr.opnds args.toList
    have h2 := (VsLe.map (VLe.fz st.S) (args.toList.map st.opnd)) G w _ hr.inv h1
    rw [List.map_map] at h2; exact h2
  have hall : VRels G (first ++ args.toList.map (fun x => fz st.S (st.opnd x)) ++ captured) (f' ++ args.toList.map a.eval ++ c') := (hf1.append hargs).append hc1
  have hrun : (execOp a.eval o).run P w = .ok (.enter g (f' ++ args.toList.map a.eval ++ c').toArray) w := by
    simp only [execOp, hop, resolve, hfx, Deferred.ofValue, Sem.run_bind, Sem.run_pure, Result.andThen_ok, invoke, run_goes hg]
    congr 2
    apply Array.ext'
    simp
  rw [hrun, Oper.uponIn_enter]
  refine ⟨(fun h => by cases h), ?_⟩
  have hc := hk.call G w _ hall hr.inv
  refine callsIn_wide.2 (hc.mono fun e w' ⟨G', S', out, he, hi, her, hq⟩ => ?_)
  cases her with
  | ret hv =>
    refine ⟨G', _, ?_, hr.put he hi hd hv, hq⟩
    rw [St.put_S]; exact he
  | panic v => exact ⟨G', { st with S := S' }, he, ⟨hr.env.mono he.im, hr.ds, hi⟩, hq⟩

theorem AOp.defer {f : Operand} {tys : Array TypeId} {fn : Fn} {first captured : Array Value} (hro : ro = none) (hop : o.op = .defer ⟨.value f, #[], tys⟩) (hd : dstOk st.n o.dst)
    (hf : st.opnd f = .lit (.func fn first captured)) (hk : K (St.put { st with ds := ⟨.fn fn captured, first⟩ :: st.ds } o.dst (.lit undef))) : AOp ro P o K Q st := by
  subst hro
  intro G w a hr
  refine ⟨fun _ _ => trivial, ?_⟩
  have hv := hr.opnd f
  rw [hf] at hv
  have hv := hv.lit_inv
  have hrun : (o.semAt (WF none).round a.eval).run P w = .ok (.defer ⟨.fn fn captured, first⟩) w := by
    show (o.semAt none a.eval).run P w = _
    rw [Oper.semAt_none]
    simp only [execOp, hop, resolve, hv, Deferred.ofValue, Sem.run_bind, Sem.run_pure, Result.andThen_ok]
    simp
  rw [hrun]
  refine ⟨G, _, ?_, ?_, hk⟩
  · rw [St.put_S]; exact .refl _ _ _
  · have h1 : Rel G w { a with defers := ⟨.fn fn captured, first⟩ :: a.defers } { st with ds := ⟨.fn fn captured, first⟩ :: st.ds } := ⟨hr.env, by rw [← hr.ds], hr.inv⟩
    exact h1.put (.refl _ _ _) h1.inv hd (.lit undef)

theorem AOp.panic {x : Operand} {v : Value} {T : TypeId} (hop : o.op = .panic x) (hx : st.opnd x = .lit (.iface T v))
    (hk : Q (.panic [{ v := .iface T v, recovered := false }]) st) : AOp ro P o K Q st := by
  intro G w a hr
  refine ⟨fun _ _ => trivial, ?_⟩
  rw [Oper.semAt_eq _ _ _ (fun c hc => by rw [hop] at hc; cases hc)]
  have hrun : (execOp a.eval o).run P w = .halt (.panic (.iface T v)) w := by
    simp only [execOp, hop, hr.lit hx]
    simp [Instr.panic]
  rw [hrun]
  exact ⟨G, st, .refl _ _ _, hr, hk⟩

end

/-! ### Functions from their bodies -/

def resV (P : Program) (st : St) : ResultVar → Option V
  | .tmp t => some (AW.get st.env t)
  | .cell a t => (cellsAt st.S (AW.get st.env a)).bind (readAs P t)

def resVs (P : Program) (st : St) : List ResultVar → Option (List V)
  | [] => some []
  | r :: rs =>
    match resV P st r, resVs P st rs with
    | some v, some vs => some (v :: vs)
    | _, _ => none

def resOf (P : Program) (fn : Func) (st : St) : Option V :=
  match resVs P st fn.results.toList with
  | some [v] => some v
  | some vs => some (.tuple vs)
  | none => none

theorem load_run {P : Program} {G : Im} {w : World} {S : List Res} (hi : Inv G w S) {T : TypeId} {p v : V} {x : Value} {cs : List V} (hp : VRel G p x) (hc : cellsAt S p = some cs) (hv : readAs P T cs = some v) :
    ∃ ad y, x = .pointer (some ad) ∧ (loadVar T ad).run P w = .ok y w ∧ VRel G v y := by
  obtain ⟨b, o', us, hx, hus, hcell⟩ := cellsAt_run hi hp hc
  unfold readAs at hv
  split at hv
  · rename_i n ha hs
    split at hv
    · rename_i hn
      simp at hv; subst hv
      have hrun := run_loadCells_list (P := P) (w := w) ⟨b, o', none⟩ (us.take n) (fun j u hu => by
        have hj : us[j]? = some u := by rw [List.getElem?_take] at hu; split at hu; exact hu; cases hu
        have := hcell j u hj
        rw [Addr.add_eq]
        exact this)
      have hl : (us.take n).length = n := by have := hus.1; simp; omega
      rw [hl] at hrun
      refine ⟨_, .agg (us.take n).toArray, hx, ?_, VRel.agg' ⟨by simp [hus.1], fun i v y hv' hy => ?_⟩⟩
      · simp only [loadVar, Sem.run_bind, Sem.run_pure, Result.andThen_ok, run_agg ha, if_true, run_size hs, hrun]
      · rw [List.getElem?_take] at hv' hy
        split at hv'
        · rename_i hlt; rw [if_pos hlt] at hy; exact hus.2 i v y hv' hy
        · cases hv'
    · cases hv
  · rename_i ha
    cases cs with
    | nil => simp at hv
    | cons c cs =>
      simp at hv; subst hv
      obtain ⟨u, us', rfl, hu, _⟩ := hus.cons_inv
      have := hcell 0 u (by simp)
      refine ⟨_, u, hx, ?_, hu⟩
      simp only [loadVar, Sem.run_bind, Sem.run_pure, Result.andThen_ok, run_agg ha, Bool.false_eq_true, if_false, run_load]
      simp only [Nat.add_zero] at this
      simp [this]
  · cases hv

def resSem (a : Act) : ResultVar → Sem Value
  | .tmp t => Pure.pure (a.tmps.getD t undef)
  | .cell b t => do loadVar t (← asAddr (a.tmps.getD b undef))

theorem resVs_run {P : Program} {G : Im} {w : World} {a : Act} {st : St} (hr : Rel G w a st) : ∀ (rs : List ResultVar) (vs : List V), resVs P st rs = some vs →
    ∃ ys, (rs.mapM (resSem a)).run P w = .ok ys w ∧ VRels G vs ys
  | [], vs, h => by simp [resVs] at h; subst h; exact ⟨[], rfl, .nil⟩
  | r :: rs, vs, h => by
    simp only [resVs] at h
    split at h
    · rename_i v vs' hv hvs
      simp at h; subst h
      obtain ⟨ys, h1, h2⟩ := resVs_run hr rs vs' hvs
      cases r with
      | tmp t =>
        simp [resV] at hv; subst hv
        refine ⟨a.tmps.getD t undef :: ys, ?_, .cons (hr.env.2 t) h2⟩
        simp only [List.mapM_cons, resSem, Sem.run_bind, Sem.run_pure, Result.andThen_ok, h1]
      | cell b t =>
        simp only [resV, Option.bind_eq_some_iff] at hv
        obtain ⟨cs, hc, hv⟩ := hv
        obtain ⟨ad, y, hx, hrun, hrel⟩ := load_run hr.inv (hr.env.2 b) hc hv
        refine ⟨y :: ys, ?_, .cons hrel h2⟩
        simp only [List.mapM_cons, resSem, Sem.run_bind, Sem.run_pure, Result.andThen_ok, hx, asAddr, hrun, h1]
    · cases h

theorem resOf_run {P : Program} {fn : Func} {G : Im} {w : World} {a : Act} {st : St} (hr : Rel G w a st) {v : V} (h : resOf P fn st = some v) : ∃ y, (results fn a.tmps).run P w = .ok y w ∧ VRel G v y := by
  unfold resOf at h
  have key : ∀ vs, resVs P st fn.results.toList = some vs → ∃ ys, (results fn a.tmps).run P w = .ok (if h : ys.toArray.size = 1 then ys.toArray[0] else .tuple ys.toArray) w ∧ VRels G vs ys := fun vs hvs => by
    obtain ⟨ys, h1, h2⟩ := resVs_run hr _ vs hvs
    refine ⟨ys, ?_, h2⟩
    have e : results fn a.tmps = (do let vs ← fn.results.mapM (resSem a); Pure.pure (if h : vs.size = 1 then vs[0] else .tuple vs)) := rfl
    rw [e, Array.mapM_eq_mapM_toList]
    simp only [Sem.run_bind, Sem.run_map, h1, Result.andThen_ok, Sem.run_pure]
  split at h
  · rename_i v' hvs
    simp at h; subst h
    obtain ⟨ys, h1, h2⟩ := key _ hvs
    obtain ⟨y, ys', rfl, hy, h3⟩ := h2.cons_inv
    obtain rfl := h3.nil_inv
    exact ⟨y, by simpa using h1, hy⟩
  · rename_i vs hvs hne
    simp at h; subst h
    obtain ⟨ys, h1, h2⟩ := key _ hne
    have hl : ys.length ≠ 1 := by
      intro e
      rw [← h2.1] at e
      match vs, e with
      | [v], _ => exact hvs v rfl
    refine ⟨.tuple ys.toArray, ?_, VRel.tuple' h2⟩
    rw [h1]; simp [hl]
  · cases h

/-- Resources said otherwise. -/
def SLe (S S' : List Res) : Prop := ∀ G w, Inv G w S → ∃ G', Evol S G w S' G' w ∧ Inv G' w S'

/-- What a function hands back, with what is said of it turned. -/
def Done (S : List Res) (v : V) (Q : Out → List Res → Prop) : Prop := ∃ v' S', VLe S v v' ∧ SLe S S' ∧ Q (.ret v') S'
def DoneP (S : List Res) (x : Value) (Q : Out → List Res → Prop) : Prop := ∃ S', SLe S S' ∧ Q (.panic x) S'

def optDone (P : Program) (fn : Func) (st : St) (Q : Out → List Res → Prop) : Option V → Prop
  | some v => Done st.S (fz st.S v) Q
  | none => False

/-- What a body has to come to, where no call was deferred. -/
def retQ (P : Program) (fn : Func) (Q : Out → List Res → Prop) : Exit → St → Prop
  | .normal, st => st.ds = [] ∧ optDone P fn st Q (resOf P fn st)
  | .ret, st => st.ds = [] ∧ optDone P fn st Q (resOf P fn st)
  | .panic ch, st => st.ds = [] ∧ match ch with
    | [x] => x.recovered = false ∧ x.goexit = false ∧ DoneP st.S x.v Q
    | _ => False
  | _, _ => False

def params : Nat → List V → List (Nat × V)
  | _, [] => []
  | k, v :: vs => (k, v) :: params (k + 1) vs

theorem get_params : ∀ (vs : List V) (k i : Nat), get (params k vs) i = if k ≤ i then (vs[i - k]?).getD .any else .any
  | [], k, i => by simp [params, get]
  | v :: vs, k, i => by
    simp only [params, get]
    split
    · rename_i e; subst e; simp
    · rename_i e
      rw [get_params vs (k + 1) i]
      by_cases h : k ≤ i
      · rw [if_pos (by omega), if_pos h]
        have : i - k = (i - (k + 1)) + 1 := by omega
        rw [this, List.getElem?_cons_succ]
      · rw [if_neg (by omega), if_neg h]

theorem enter_rel {G : Im} {w : World} {S : List Res} {args : List V} {xs : List Value} (hv : VRels G args xs) (hi : Inv G w S) {n : Nat} (hn : args.length ≤ n) :
    Rel G w { tmps := xs.toArray ++ Array.replicate (n - xs.toArray.size) undef, defers := [] } ⟨n, params 0 args, S, []⟩ := by
  have hl := hv.1
  refine ⟨⟨by simp; omega, fun i => ?_⟩, rfl, hi⟩
  simp only [get_params, Nat.zero_le, if_true, Nat.sub_zero]
  by_cases h : i < args.length
  · rw [List.getElem?_eq_getElem h]
    have h' : i < xs.length := by omega
    have := hv.2 i args[i] xs[i] (by simp [h]) (by simp [h'])
    simpa [Array.getD, Array.getElem_append, h', show i < xs.length + (n - xs.length) by omega] using this
  · rw [List.getElem?_eq_none (by omega)]
    exact .any _

theorem acall_of_awp {P : Program} {f : FuncId} {fn : Func} {c : Code} {args : List V} {S : List Res} {Q : Out → List Res → Prop} (hf : P.funcs[f]? = some fn) (hb : fn.body = some c)
    (hn : args.length ≤ fn.ntmps) (h : AWP none P c (retQ P fn Q) ⟨fn.ntmps, params 0 args, S, []⟩) : ACall P f args S Q := by
  intro G w xs hv hi
  refine callsIn_wide.1 (callsIn_of_wp (F := Fence.wide) (n := 0) hf hb trivial ?_)
  refine wpIn_mono (h G w _ (enter_rel hv hi hn)) fun e a' w' ⟨G', st', he, hr', hq⟩ => ?_
  have fin : (st'.ds = [] ∧ optDone P fn st' Q (resOf P fn st')) → a'.defers = [] ∧ ∃ v, (results fn a'.tmps).run P w' = .ok v w' ∧ CPost S G w Q (.returned v) w' := by
    rintro ⟨hds, hd⟩
    cases hres : resOf P fn st' with
    | none => rw [hres] at hd; exact hd.elim
    | some v =>
      rw [hres] at hd
      obtain ⟨v', S'', hvl, hle, hQ⟩ := hd
      obtain ⟨y, hy, hrel⟩ := resOf_run hr' hres
      obtain ⟨G'', he', hi''⟩ := hle G' w' hr'.inv
      exact ⟨hr'.ds.trans hds, y, hy, G'', S'', .ret v', he.trans he', hi'', .ret ((hvl G' w' y hr'.inv (VLe.fz _ _ G' w' y hr'.inv hrel)).mono he'.im), hQ⟩
  cases e with
  | normal => exact fin hq
  | ret => exact fin hq
  | panic ch =>
    match ch, hq with
    | [x], hq =>
      obtain ⟨hds, h1, h2, S'', hle, hQ⟩ := hq
      obtain ⟨G'', he', hi''⟩ := hle G' w' hr'.inv
      refine ⟨hr'.ds.trans hds, G'', S'', .panic x.v, he.trans he', hi'', ?_, hQ⟩
      have : x = { v := x.v, recovered := false } := by cases x; simp_all
      rw [this]; exact .panic _
  | exit id => exact hq.elim
  | goto l => exact hq.elim
  | outgrown => exact hq.elim

/-! ### Steps of the prover's alone -/

theorem StLe.S {n : Nat} {env : List (Nat × V)} {ds : List Deferred} {S S' : List Res} (h : ∀ G w, Inv G w S → ∃ G', Evol S G w S' G' w ∧ Inv G' w S') : StLe ⟨n, env, S, ds⟩ ⟨n, env, S', ds⟩ := fun G w a hr =>
  let ⟨G', e, i⟩ := h G w hr.inv
  ⟨G', e, ⟨hr.env.mono e.im, hr.ds, i⟩⟩

/-- Resources that are not needed any more. -/
theorem Inv.sub {G : Im} {w : World} {S S' : List Res} (h : Inv G w S) (hs : S'.Sublist S) : Inv G w S' ∧ Evol S G w S' G w := by
  have hb : (blks S').Sublist (blks S) := hs.filterMap _
  exact ⟨⟨h.im, fun r hr => h.res r (hs.subset hr), h.nd.sublist hb⟩, ⟨Nat.le_refl _, rfl, rfl, rfl, Im.le_refl _, fun _ _ _ => rfl, fun _ _ _ _ => rfl, fun b hb' => .inl (hb.subset hb')⟩⟩

theorem SLe.refl (S : List Res) : SLe S S := fun G w h => ⟨G, .refl _ _ _, h⟩
theorem SLe.trans {S S' S'' : List Res} (h : SLe S S') (h' : SLe S' S'') : SLe S S'' := fun G w hi =>
  let ⟨G', e, i⟩ := h G w hi
  let ⟨G'', e', i'⟩ := h' G' w i
  ⟨G'', e.trans e', i'⟩
theorem SLe.drop {S S' : List Res} (hs : S'.Sublist S) : SLe S S' := fun G w h =>
  let ⟨i, e⟩ := h.sub hs
  ⟨G, e, i⟩
theorem done_drop {S S' : List Res} {v v' : V} {Q : Out → List Res → Prop} (hs : S'.Sublist S) (hv : VLe S v v') (h : Q (.ret v') S') : Done S v Q := ⟨v', S', hv, .drop hs, h⟩
theorem done {S S' : List Res} {v : V} {Q : Out → List Res → Prop} (hs : S'.Sublist S) (h : Q (.ret v) S') : Done S v Q := ⟨v, S', .refl _ _, .drop hs, h⟩
theorem doneP {S S' : List Res} {x : Value} {Q : Out → List Res → Prop} (hs : S'.Sublist S) (h : Q (.panic x) S') : DoneP S x Q := ⟨S', .drop hs, h⟩

theorem StLe.drop {st : St} {S' : List Res} (hs : S'.Sublist st.S) : StLe st { st with S := S' } := fun G w a hr =>
  let ⟨i, e⟩ := hr.inv.sub hs
  ⟨G, e, ⟨hr.env, hr.ds, i⟩⟩

/-- Slots said otherwise: each one of those that are named, all others unknown. -/
theorem StLe.env {n : Nat} {env env' : List (Nat × V)} {S : List Res} {ds : List Deferred} (h : ∀ p ∈ env', VLe S (get env p.1) p.2) : StLe ⟨n, env, S, ds⟩ ⟨n, env', S, ds⟩ := fun G w a hr => by
  refine ⟨G, .refl _ _ _, ⟨⟨hr.env.1, fun i => ?_⟩, hr.ds, hr.inv⟩⟩
  have key : ∀ (l : List (Nat × V)), (∀ p ∈ l, VLe S (get env p.1) p.2) → VRel G (get l i) (a.tmps.getD i undef) := by
    intro l
    induction l with
    | nil => intro _; exact .any _
    | cons p l ih =>
      intro hl
      obtain ⟨k, v⟩ := p
      simp only [get]
      split
      · rename_i e; subst e
        exact hl (k, v) List.mem_cons_self G w _ hr.inv (hr.env.2 k)
      · exact ih fun p hp => hl p (List.mem_cons_of_mem _ hp)
  exact key env' h

end Go.AW
/- The engine AW, part 10: structs, interfaces, function values, slicing, conversions. -/
set_option linter.unusedVariables false
set_option linter.unusedSimpArgs false
namespace Go.AW
open Go.Great

theorem splice_get (cs : List V) (o : Nat) (vs : List V) (h : o + vs.length ≤ cs.length) (k : Nat) :
    (splice cs o vs)[k]? = if o ≤ k ∧ k < o + vs.length then vs[k - o]? else cs[k]? := by
  unfold splice
  have hl : (cs.take o).length = o := by simp; omega
  rw [List.append_assoc]
  by_cases h1 : k < o
  · rw [List.getElem?_append_left (by omega), List.getElem?_take, if_pos h1, if_neg (by omega)]
  · rw [List.getElem?_append_right (by omega), hl]
    by_cases h2 : k < o + vs.length
    · rw [List.getElem?_append_left (by omega), if_pos ⟨by omega, h2⟩]
    · rw [List.getElem?_append_right (by omega), List.getElem?_drop, if_neg (by omega)]
      congr 1; omega
theorem splice_length (cs : List V) (o : Nat) (vs : List V) (h : o + vs.length ≤ cs.length) : (splice cs o vs).length = cs.length := by
  unfold splice; simp; omega

def fillV (place : Nat → Option (Nat × Nat)) (cells : List V) : List (Nat × V) → Option (List V)
  | [] => some cells
  | (i, v) :: rest =>
    match place i with
    | none => none
    | some (off, size) => if v.cells.length = size ∧ off + v.cells.length ≤ cells.length ∧ v.okv = true then fillV place (splice cells off v.cells) rest else none

theorem fillV_run {G : Im} (place : Nat → Option (Nat × Nat)) : ∀ (parts : List (Nat × V)) (parts' : List (Nat × Value)) (cells : List V) (us : Array Value) (cs : List V),
    VRels G cells us.toList → parts.map (·.1) = parts'.map (·.1) → VRels G (parts.map (·.2)) (parts'.map (·.2)) → fillV place cells parts = some cs → ∃ r, Instr.fill place us parts' = some r ∧ VRels G cs r.toList
  | [], parts', cells, us, cs, hc, hi, hv, h => by
    cases parts' with
    | nil => simp [fillV] at h; subst h; exact ⟨us, rfl, hc⟩
    | cons p ps => simp at hi
  | (i, v) :: rest, parts', cells, us, cs, hc, hi, hv, h => by
    cases parts' with
    | nil => simp at hi
    | cons p ps =>
      obtain ⟨i', x⟩ := p
      simp at hi
      obtain ⟨rfl, hi⟩ := hi
      simp only [List.map_cons] at hv
      obtain ⟨x', xs', hx, hvx, hrest⟩ := hv.cons_inv
      simp at hx
      obtain ⟨rfl, rfl⟩ := hx
      simp only [fillV] at h
      split at h
      · cases h
      · rename_i off size hp
        split at h
        · rename_i hcond
          obtain ⟨h1, h2, h3⟩ := hcond
          have hcl := (hvx.okv h3).1
          have hsz : x.cells.size = v.cells.length := by rw [hcl.1]; simp
          have hcs := hc.1
          simp only [Instr.fill, hp, hsz, h1]
          rw [if_neg (by simp; rw [← h1]; simp at hcs; omega)]
          obtain ⟨hs, hk⟩ := foldl_set off x.cells.toList 0 us
          refine fillV_run place rest ps (splice cells off v.cells) _ cs ?_ hi hrest h
          have e : (Array.foldl (fun cs (x : Value × Nat) => cs.setIfInBounds (off + x.2) x.1) us x.cells.zipIdx) = (x.cells.toList.zipIdx 0).foldl (fun cs (x : Value × Nat) => cs.setIfInBounds (off + x.2) x.1) us := by
            rw [← Array.foldl_toList]; simp
          show VRels G _ (Array.foldl (fun cs (x : Value × Nat) => cs.setIfInBounds (off + x.2) x.1) us x.cells.zipIdx).toList
          rw [e]
          refine ⟨by rw [splice_length _ _ _ h2, hcs]; simpa using hs.symm, fun k c y hkc hky => ?_⟩
          rw [splice_get _ _ _ h2] at hkc
          rw [Array.getElem?_toList, hk k] at hky
          simp only [Nat.add_zero, Array.length_toList, hsz] at hky
          have hlt : k < us.size ∨ ¬ k < us.size := Nat.lt_or_ge _ _ |>.imp id (by omega)
          by_cases hin : off ≤ k ∧ k < off + v.cells.length
          · rw [if_pos hin] at hkc
            rw [if_pos ⟨hin.1, hin.2, by simp at hcs; omega⟩] at hky
            exact hcl.2 _ c y hkc hky
          · rw [if_neg hin] at hkc
            rw [if_neg (fun h => hin ⟨h.1, h.2.1⟩)] at hky
            exact hc.2 k c y hkc (by simpa using hky)
        · cases h

def placesOf (P : Program) : List Field → Option (List (Nat × Nat))
  | [] => some []
  | f :: fs =>
    match szA P f.type, placesOf P fs with
    | some n, some ps => some ((f.offset, n) :: ps)
    | _, _ => none

theorem placesOf_run {P : Program} {w : World} : ∀ (fs : List Field) (ps : List (Nat × Nat)), placesOf P fs = some ps → (fs.mapM fun (f : Field) => (do pure (f.offset, ← sizeOf f.type) : Sem (Nat × Nat))).run P w = .ok ps w
  | [], ps, h => by simp [placesOf] at h; subst h; rfl
  | f :: fs, ps, h => by
    simp only [placesOf] at h
    split at h
    · rename_i n ps' hn hps
      simp at h; subst h
      simp only [List.mapM_cons, Sem.run_bind, run_size hn, Result.andThen_ok, Sem.run_pure, placesOf_run fs ps' hps]
    · cases h

section
variable {ro : Option Nat} {P : Program} {o : Oper} {K : St → Prop} {Q : Exit → St → Prop} {st : St}

theorem AT.build {t : TypeId} {parts : Array (Nat × Operand)} {fs : Array Field} {ps : List (Nat × Nat)} {z : Value} {cs : List V} (hop : o.op = .build t parts) (hd : dstOk st.n o.dst)
    (hz : zeroA P t = some z) (hu : P.underlying t = some (.struct fs)) (hps : placesOf P fs.toList = some ps)
    (hf : fillV (ps[·]?) (z.cells.toList.map .lit) (parts.toList.map fun p => (p.1, fz st.S (st.opnd p.2))) = some cs) (hk : K (st.put o.dst (.agg cs))) : ATake P o K st :=
  AT.pure hd (by rw [hop]; rfl) (fun G w a hr => by
    have hrel : VRels G ((parts.toList.map fun p => (p.1, fz st.S (st.opnd p.2))).map (·.2)) ((parts.toList.map fun p => (p.1, a.eval p.2)).map (·.2)) := by
      rw [List.map_map, List.map_map]
      have h1 := (VsLe.map (VLe.fz st.S) ((parts.toList.map (·.2)).map st.opnd)) G w _ hr.inv (hr.opnds (parts.toList.map (·.2)))
      rw [List.map_map, List.map_map] at h1
      rw [List.map_map] at h1
      exact h1
    obtain ⟨r, hr1, hr2⟩ := fillV_run (G := G) (ps[·]?) _ (parts.toList.map fun p => (p.1, a.eval p.2)) _ z.cells cs (VRels.lits G _) (by simp) hrel hf
    refine ⟨.agg r, fun w _ => ?_, by have := VRel.agg' hr2; simpa using this⟩
    have hparts : (parts.map fun (i, x) => (i, a.eval x)).toList = parts.toList.map fun p => (p.1, a.eval p.2) := by simp
    simp only [execOp, hop, Instr.build, Sem.run_bind, run_zero hz, Result.andThen_ok, run_und hu, Array.mapM_eq_mapM_toList, Sem.run_map, placesOf_run _ _ hps]
    have e : (fun (x : Nat) => (ps.toArray[x]? : Option (Nat × Nat))) = fun (x : Nat) => ps[x]? := by funext x; simp
    simp only [hparts, e, hr1, Sem.run_pure, Result.andThen_ok]) hk

theorem AOp.buildSlice {t e : TypeId} {len : Nat} {parts : Array (Nat × Operand)} {xs : List Operand} {sz : Nat} {z : Value} (hop : o.op = .buildSlice t len parts) (hd : dstOk st.n o.dst)
    (hu : P.underlying t = some (.slice e)) (hs : szA P e = some sz) (hz : zeroA P e = some z) (hsz : 0 < sz) (hparts : parts.toList = (xs.zipIdx 0).map fun x => (x.2, x.1)) (hlen : len = xs.length) (hbig : len * sz ≤ 16777216)
    (hv : ∀ v ∈ xs.map (fun x => fz st.S (st.opnd x)), v.cells.length = sz ∧ v.okv = true) (hk : K (st.put o.dst (.sl true sz (xs.map fun x => fz st.S (st.opnd x))))) : AOp ro P o K Q st := by
  subst hlen
  refine AOp.value hd (by rw [hop]; rfl) fun G w a hr => ?_
  have hrel : VRels G (xs.map fun x => fz st.S (st.opnd x)) (xs.map a.eval) := by
    have h2 := (VsLe.map (VLe.fz st.S) (xs.map st.opnd)) G w _ hr.inv (hr.opnds xs)
    rw [List.map_map] at h2; exact h2
  have hflat := hrel.flat fun v hv' => (hv v hv').2
  obtain ⟨cells, hcells⟩ : ∃ cells, cells = ((xs.map a.eval).flatMap fun x => x.cells.toList).toArray := ⟨_, rfl⟩
  obtain ⟨he, hi⟩ := hr.inv.alloc_im cells e
  have hsizes : ∀ x ∈ xs.map a.eval, x.cells.size = sz := by
    intro x hx
    obtain ⟨i, hi⟩ := List.mem_iff_getElem?.1 hx
    have hl : i < (xs.map fun x => fz st.S (st.opnd x)).length := by have := (List.getElem?_eq_some_iff.1 hi).1; simpa using this
    have h1 := hrel.2 i _ x (List.getElem?_eq_getElem hl) hi
    have h2 := hv _ (List.getElem_mem hl)
    have h3 := (h1.okv h2.2).1.1
    rw [h2.1] at h3; simpa using h3.symm
  refine ⟨.slice (some ⟨w.heap.size, 0, none⟩) xs.length xs.length, w.alloc (.cells cells e), G.add w.heap.size cells, .sl true sz (xs.map fun x => fz st.S (st.opnd x)), st.S, ?_, he, hi, ?_, hk⟩
  · simp only [szA, zeroA, Option.map_eq_some_iff, Option.bind_eq_some_iff] at hs hz
    obtain ⟨i, hti, rfl⟩ := hs
    obtain ⟨i', hti', hz⟩ := hz
    obtain rfl : i = i' := by rw [hti] at hti'; exact Option.some.inj hti'
    have hpl : (parts.map fun (i, x) => (i, a.eval x)).toList = ((xs.map a.eval).zipIdx 0).map fun x => (x.2, x.1) := by
      rw [Array.toList_map, hparts, List.zipIdx_map, List.map_map, List.map_map]
      rfl
    by_cases h0 : xs.length * i.size = 0
    · have hx : xs = [] := by
        rcases Nat.mul_eq_zero.1 h0 with h | h
        · exact List.eq_nil_of_length_eq_zero h
        · omega
      subst hx
      simp only [execOp, hop]
      simp at hpl
      simp [Instr.buildSlice, run_und hu, sizeOf, typeInfo, hti, hpl, Instr.fill, newRow, hcells]
      rw [Go.Array.range_zero', Array.map_empty]
    · have hf := fill_whole (s := i.size) hsz (xs.map a.eval) ((Array.range (xs.length * i.size)).map (z.cells[· % z.cells.size]!)) hsizes (by simp)
      rw [← hpl, ← hcells] at hf
      have hb := run_buildSlice (P := P) w t e xs.length _ cells i z hu hti hz (by simp; omega) h0 hf
      simp only [execOp, hop, Sem.run_bind, hb, Result.andThen_ok]
      rfl
  · have hlen' : (xs.map fun x => fz st.S (st.opnd x)).length = xs.length := by simp
    have := VRel.sl_mk (G := G.add w.heap.size cells) (full := true) (sz := sz) (b := w.heap.size) (xs := xs.map fun x => fz st.S (st.opnd x)) (us := cells.toList) (cap := xs.length) (by simp) (by simp) hv
      (by have h := hflat.mono he.im; have e : cells.toList = (xs.map a.eval).flatMap fun x => x.cells.toList := by rw [hcells]
          rw [e]; exact h) (o := 0) (fun i u hu => by simp only [Im.add, Nat.zero_add, if_true]; simpa using hu)
    rw [hlen'] at this
    exact this


/-- A value known whole. -/
def exact1 : V → Option Value
  | .lit v => some v
  | _ => none
def exacts : List V → Option (List Value)
  | [] => some []
  | v :: vs =>
    match exact1 v, exacts vs with
    | some x, some xs => some (x :: xs)
    | _, _ => none
def exact : V → Option Value
  | .lit v => some v
  | .agg cs => (exacts cs).map fun xs => .agg xs.toArray
  | _ => none
theorem exacts_rel {G : Im} : ∀ {vs : List V} {xs ys : List Value}, exacts vs = some xs → VRels G vs ys → ys = xs
  | [], xs, ys, h, hv => by simp [exacts] at h; subst h; exact hv.nil_inv
  | v :: vs, xs, ys, h, hv => by
    simp only [exacts] at h
    split at h
    · rename_i x xs' hx hxs
      simp at h; subst h
      obtain ⟨y, ys', rfl, h1, h2⟩ := hv.cons_inv
      rw [exacts_rel hxs h2]
      cases v <;> simp [exact1] at hx
      subst hx
      rw [h1.lit_inv]
    · cases h
theorem exact_rel {G : Im} {v : V} {x y : Value} (h : exact v = some x) (hv : VRel G v y) : y = x := by
  cases v <;> simp [exact] at h
  · subst h; exact hv.lit_inv
  · obtain ⟨xs, h1, rfl⟩ := h
    obtain ⟨ys, rfl, h2⟩ := hv.agg_inv
    rw [exacts_rel h1 h2]

/-- A value wrapped with its type. -/
def ifaceOf (t : TypeId) (v : V) : V :=
  match exact v with
  | some x => .lit (.iface t x)
  | none => .iface t v
theorem ifaceOf_rel {G : Im} {t : TypeId} {v : V} {x : Value} (hv : VRel G v x) : VRel G (ifaceOf t v) (.iface t x) := by
  unfold ifaceOf
  split
  · rename_i y hy
    rw [exact_rel hy hv]; exact .lit _
  · exact .iface hv

def isIfaceD : TypeDesc → Bool
  | .interface _ => true
  | _ => false

theorem AT.makeInterface {t : TypeId} {x : Operand} {d : TypeDesc} (hop : o.op = .makeInterface t x) (hd : dstOk st.n o.dst) (hu : P.underlying t = some d) (hi : isIfaceD d = false)
    (hk : K (st.put o.dst (ifaceOf t (fz st.S (st.opnd x))))) : ATake P o K st :=
  AT.pure hd (by rw [hop]; rfl) (fun G w a hr => ⟨.iface t (a.eval x), fun w _ => by
    simp only [execOp, hop, Instr.makeInterface, Sem.run_bind, run_und hu, Result.andThen_ok]
    cases d <;> simp [isIfaceD] at hi <;> rfl, ifaceOf_rel (VLe.fz st.S _ G w _ hr.inv (hr.opnd x))⟩) hk

def funcOf (fn : Fn) (f c : List V) : V :=
  match exacts f, exacts c with
  | some f', some c' => .lit (.func fn f'.toArray c'.toArray)
  | _, _ => .func fn f c
theorem funcOf_rel {G : Im} {fn : Fn} {f c : List V} {f' c' : List Value} (hf : VRels G f f') (hc : VRels G c c') : VRel G (funcOf fn f c) (.func fn f'.toArray c'.toArray) := by
  unfold funcOf
  split
  · rename_i a b ha hb
    rw [exacts_rel ha hf, exacts_rel hb hc]; exact .lit _
  · exact .func' hf hc

theorem AT.makeFunc {fn : Fn} {f c : Array Operand} (hop : o.op = .makeFunc fn f c) (hd : dstOk st.n o.dst)
    (hk : K (st.put o.dst (funcOf fn (f.toList.map fun x => fz st.S (st.opnd x)) (c.toList.map st.opnd)))) : ATake P o K st :=
  AT.pure hd (by rw [hop]; rfl) (fun G w a hr => ⟨.func fn (f.toList.map a.eval).toArray (c.toList.map a.eval).toArray, fun w _ => by
    simp only [execOp, hop, Instr.makeFunc]
    simp
    exact ⟨Array.ext' (by simp), Array.ext' (by simp)⟩, funcOf_rel (by
      have h2 := (VsLe.map (VLe.fz st.S) (f.toList.map st.opnd)) G w _ hr.inv (hr.opnds f.toList)
      rw [List.map_map] at h2; exact h2) (hr.opnds c.toList)⟩) hk

/-- What an interface value holds, of a type. -/
def unwrap (t : TypeId) : V → Option V
  | .lit (.iface t' x) => if t' = t then some (V.of x) else none
  | .iface t' v => if t' = t then some v else none
  | _ => none
theorem unwrap_rel {G : Im} {t : TypeId} {v u : V} {x : Value} (h : unwrap t v = some u) (hv : VRel G v x) : ∃ y, x = .iface t y ∧ VRel G u y := by
  cases v with
  | lit l =>
    have hx := hv.lit_inv; subst hx
    simp only [unwrap] at h
    split at h
    · rename_i t' y e; cases e
      split at h
      · rename_i e; subst e; simp at h; subst h; exact ⟨y, rfl, .of G y⟩
      · cases h
    · rename_i e; cases e
    · cases h
  | iface t' v =>
    simp only [unwrap] at h
    split at h
    · rename_i e; subst e; simp at h; subst h
      cases hv with
      | iface h => exact ⟨_, rfl, h⟩
    · cases h
  | _ => simp [unwrap] at h

theorem AT.typeAssert {x : Operand} {xT t : TypeId} {d : TypeDesc} {u : V} (hop : o.op = .typeAssert x xT t false) (hd : dstOk st.n o.dst) (hu : P.underlying t = some d) (hi : isIfaceD d = false)
    (hx : unwrap t (st.opnd x) = some u) (hk : K (st.put o.dst u)) : ATake P o K st :=
  AT.pure hd (by rw [hop]; rfl) (fun G w a hr => by
    obtain ⟨y, hy, hrel⟩ := unwrap_rel hx (hr.opnd x)
    refine ⟨y, fun w _ => ?_, hrel⟩
    simp only [execOp, hop, hy, Instr.typeAssert, Sem.run_bind, run_und hu, Result.andThen_ok]
    cases d <;> simp [isIfaceD] at hi <;> simp) hk

/-! #### Slicing -/

def boundOf (st : St) (dflt : Nat) : Option Operand → Option Int
  | none => some dflt
  | some x =>
    match st.opnd x with
    | .lit (.int _ i) => some i
    | _ => none

theorem boundOf_val {G : Im} {w : World} {a : Act} (hr : Rel G w a st) {d : Nat} {x : Option Operand} {i : Int} (h : boundOf st d x = some i) :
    (x = none ∧ i = d) ∨ ∃ k, x.map a.eval = some (.int k i) := by
  cases x with
  | none => simp [boundOf] at h; exact .inl ⟨rfl, h.symm⟩
  | some y =>
    simp only [boundOf] at h
    split at h
    · rename_i k i' hy
      simp at h; subst h
      exact .inr ⟨k, by simp [hr.lit hy]⟩
    · cases h

theorem run_sliceBounds {w : World} (isS : Bool) (len cap : Nat) {lo hi : Option Value} {l h : Int} (hl : (lo = none ∧ l = 0) ∨ ∃ k, lo = some (.int k l)) (hh : (hi = none ∧ h = len) ∨ ∃ k, hi = some (.int k h))
    (h0 : 0 ≤ l) (h1 : l ≤ h) (h2 : h ≤ cap) : (Instr.sliceBounds isS len cap lo hi none).run P w = .ok (l.toNat, h.toNat, cap) w := by
  have h3 : l ≤ (h.toNat : Int) := by omega
  have h4 : 0 ≤ h := by omega
  rcases hl with ⟨rfl, rfl⟩ | ⟨k, rfl⟩ <;> rcases hh with ⟨rfl, rfl⟩ | ⟨k', rfl⟩ <;>
    simp only [Instr.sliceBounds, Instr.sliceBound, asIntOf, Sem.run_bind, Sem.run_pure, Result.andThen_ok, Option.isSome_none]
  · simp
  · simp [h4, h2]
  · rw [Int.toNat_natCast] at h3
    simp [h0, h3]
  · simp only [if_pos (And.intro h4 h2), Sem.run_pure, Result.andThen_ok, if_pos (And.intro h0 h3)]

theorem AT.sliceStr {t : TypeId} {x : Operand} {lo hi : Option Operand} {s : ByteArray} {l h : Int} (hop : o.op = .slice t x lo hi none) (hd : dstOk st.n o.dst)
    (hu : P.underlying t = some .string) (hx : VLe st.S (st.opnd x) (.lit (.string s))) (hl : boundOf st 0 lo = some l) (hh : boundOf st s.size hi = some h) (h0 : 0 ≤ l) (h1 : l ≤ h) (h2 : h ≤ s.size)
    (hk : K (st.put o.dst (.lit (.string (s.extract l.toNat h.toNat))))) : ATake P o K st :=
  AT.pure hd (by rw [hop]; rfl) (fun G w a hr => by
    have hax := (hx G w _ hr.inv (hr.opnd x)).lit_inv
    refine ⟨_, fun w _ => ?_, .lit _⟩
    have hb := run_sliceBounds (P := P) (w := w) false s.size s.size (lo := lo.map a.eval) (hi := hi.map a.eval) (l := l) (h := h)
      ((boundOf_val hr hl).imp (fun ⟨e, e'⟩ => ⟨by rw [e]; rfl, e'⟩) id) ((boundOf_val hr hh).imp (fun ⟨e, e'⟩ => ⟨by rw [e]; rfl, e'⟩) id) h0 h1 h2
    simp only [execOp, hop, hax, Instr.sliceAt, Sem.run_bind, run_und hu, Result.andThen_ok, Instr.slice]
    simp [hb]) hk

/-- A part of a slice, by content. -/
theorem AT.sliceSl {t e : TypeId} {x : Operand} {lo hi : Option Operand} {full : Bool} {sz : Nat} {xs : List V} {l h : Int} (hop : o.op = .slice t x lo hi none) (hd : dstOk st.n o.dst)
    (hu : P.underlying t = some (.slice e)) (hs : szA P e = some sz) (hx : VLe st.S (st.opnd x) (.sl full sz xs)) (hl : boundOf st 0 lo = some l) (hh : boundOf st xs.length hi = some h) (h0 : 0 ≤ l) (h1 : l ≤ h) (h2 : h ≤ xs.length)
    (hk : K (st.put o.dst (.sl (full && decide (h = xs.length)) sz ((xs.take h.toNat).drop l.toNat)))) : ATake P o K st :=
  AT.pure hd (by rw [hop]; rfl) (fun G w a hr => by
    have hv := hx G w _ hr.inv (hr.opnd x)
    obtain ⟨ad, cap, us, hax, hcap, hfull, hok, hrel, hlen, hne⟩ := hv.sl_cells
    have hb := fun w => run_sliceBounds (P := P) (w := w) true xs.length cap (lo := lo.map a.eval) (hi := hi.map a.eval) (l := l) (h := h)
      ((boundOf_val hr hl).imp (fun ⟨e, e'⟩ => ⟨by rw [e]; rfl, e'⟩) id) ((boundOf_val hr hh).imp (fun ⟨e, e'⟩ => ⟨by rw [e]; rfl, e'⟩) id) h0 h1 (by omega)
    refine ⟨.slice (if cap = l.toNat then ad else ad.map (·.add (l.toNat * sz))) (h.toNat - l.toNat) (cap - l.toNat), fun w _ => ?_, ?_⟩
    · simp only [execOp, hop, hax, Instr.sliceAt, Sem.run_bind, run_und hu, Result.andThen_ok, Instr.slice]
      simp [hb, run_size hs]
    · have hlen' : ((xs.take h.toNat).drop l.toNat).length = h.toNat - l.toNat := by simp; omega
      rw [← hlen']
      have hsub : ∀ x ∈ (xs.take h.toNat).drop l.toNat, x ∈ xs := fun x hx => List.mem_of_mem_take (List.mem_of_mem_drop hx)
      by_cases he : (xs.take h.toNat).drop l.toNat = []
      · rw [he]
        refine .sl 0 0 (fun _ => undef) (fun e => absurd rfl e) (by simp) (by simp) (by simp) (fun hf => ?_) (by simp) (by simp)
        simp only [Bool.and_eq_true, decide_eq_true_eq] at hf
        have := hfull hf.1
        have h5 : (xs.take h.toNat).drop l.toNat = [] := he
        have : ((xs.take h.toNat).drop l.toNat).length = 0 := by rw [he]; rfl
        simp; omega
      · have hxs : xs ≠ [] := fun e => he (by rw [e]; simp)
        obtain ⟨b, o', rfl, hG⟩ := hne hxs
        have hlt : l.toNat < h.toNat := by
          rcases Nat.lt_or_ge l.toNat h.toNat with h | h
          · exact h
          · exact absurd (List.eq_nil_of_length_eq_zero (by rw [hlen']; omega)) he
        have had : (if cap = l.toNat then (some ⟨b, o', none⟩ : Option Addr) else (some ⟨b, o', none⟩ : Option Addr).map (·.add (l.toNat * sz))) = some ⟨b, o' + l.toNat * sz, none⟩ := by
          rw [if_neg (by omega)]; simp [Addr.add_eq]
        rw [had]
        have hflat : ∀ (l : List V) (n : Nat), (∀ x ∈ l, x.cells.length = sz) → (l.drop n).flatMap V.cells = (l.flatMap V.cells).drop (n * sz) := by
          intro l
          induction l with
          | nil => intro n _; simp
          | cons y l ih =>
            intro n hy
            cases n with
            | zero => simp
            | succ n =>
              rw [List.drop_succ_cons, ih n fun z hz => hy z (List.mem_cons_of_mem _ hz), List.flatMap_cons, List.drop_append]
              have h1 := hy y List.mem_cons_self
              rw [h1, Nat.succ_mul]
              have : List.drop (n * sz + sz) y.cells = [] := List.drop_eq_nil_of_le (by omega)
              rw [this]; simp
        have hflatT : ∀ (l : List V) (n : Nat), (∀ x ∈ l, x.cells.length = sz) → (l.take n).flatMap V.cells = (l.flatMap V.cells).take (n * sz) := by
          intro l
          induction l with
          | nil => intro n _; simp
          | cons y l ih =>
            intro n hy
            cases n with
            | zero => simp
            | succ n =>
              rw [List.take_succ_cons, List.flatMap_cons, ih n fun z hz => hy z (List.mem_cons_of_mem _ hz), List.flatMap_cons, List.take_append]
              have h1 := hy y List.mem_cons_self
              rw [h1, Nat.succ_mul]
              have : List.take (n * sz + sz) y.cells = y.cells := List.take_of_length_le (by omega)
              rw [this]; simp
        refine VRel.sl_mk (us := (us.take (h.toNat * sz)).drop (l.toNat * sz)) (by rw [hlen']; omega) (fun hf => ?_) (fun x hx => hok x (hsub x hx)) ?_ (fun i u hu => ?_)
        · simp only [Bool.and_eq_true, decide_eq_true_eq] at hf
          have := hfull hf.1
          rw [hlen']; omega
        · rw [hflat _ _ fun x hx => (hok x (List.mem_of_mem_take hx)).1, hflatT _ _ fun x hx => (hok x hx).1]
          refine VRels.drop ⟨by simp [hrel.1], fun i v y hv hy => ?_⟩ _
          rw [List.getElem?_take] at hv hy
          split at hv
          · rename_i hlt; rw [if_pos hlt] at hy; exact hrel.2 i v y hv hy
          · cases hv
        · rw [List.getElem?_drop, List.getElem?_take] at hu
          split at hu
          · rw [Nat.add_assoc]; exact hG _ _ hu
          · cases hu) hk

theorem run_sliceBounds3 (isS : Bool) (len cap : Nat) {lo hi mx : Option Value} {l h m : Int} (hl : (lo = none ∧ l = 0) ∨ ∃ k, lo = some (.int k l)) (hh : ∃ k, hi = some (.int k h)) (hm : ∃ k, mx = some (.int k m))
    (h0 : 0 ≤ l) (h1 : l ≤ h) (h2 : h ≤ m) (h3 : m ≤ cap) (w : World) : (Instr.sliceBounds isS len cap lo hi mx).run P w = .ok (l.toNat, h.toNat, m.toNat) w := by
  obtain ⟨k', rfl⟩ := hh
  obtain ⟨k'', rfl⟩ := hm
  have e1 : 0 ≤ m ∧ m ≤ (cap : Int) := ⟨by omega, h3⟩
  have e2 : 0 ≤ h ∧ h ≤ (m.toNat : Int) := ⟨by omega, by omega⟩
  have e3 : 0 ≤ l ∧ l ≤ (h.toNat : Int) := ⟨h0, by omega⟩
  rcases hl with ⟨rfl, rfl⟩ | ⟨k, rfl⟩ <;>
    simp only [Instr.sliceBounds, Instr.sliceBound, asIntOf, Sem.run_bind, Sem.run_pure, Result.andThen_ok, Option.isSome_some, if_pos e1, if_pos e2, if_pos e3]
  simp

/-- A part of a slice, by content, its capacity told. -/
theorem AT.sliceSl3 {t e : TypeId} {x : Operand} {lo : Option Operand} {hi mx : Operand} {full : Bool} {sz : Nat} {xs : List V} {l h m : Int} (hop : o.op = .slice t x lo (some hi) (some mx)) (hd : dstOk st.n o.dst)
    (hu : P.underlying t = some (.slice e)) (hs : szA P e = some sz) (hx : VLe st.S (st.opnd x) (.sl full sz xs)) (hl : boundOf st 0 lo = some l) (hh : boundOf st 0 (some hi) = some h) (hm : boundOf st 0 (some mx) = some m) (h0 : 0 ≤ l) (h1 : l ≤ h) (h2 : h ≤ m) (h3 : m ≤ xs.length)
    (hk : K (st.put o.dst (.sl (decide (h = m)) sz ((xs.take h.toNat).drop l.toNat)))) : ATake P o K st :=
  AT.pure hd (by rw [hop]; rfl) (fun G w a hr => by
    have hv := hx G w _ hr.inv (hr.opnd x)
    obtain ⟨ad, cap, us, hax, hcap, hfull, hok, hrel, hlen, hne⟩ := hv.sl_cells
    have hb := run_sliceBounds3 (P := P) true xs.length cap (lo := lo.map a.eval) (hi := (some hi).map a.eval) (mx := (some mx).map a.eval) (l := l) (h := h) (m := m)
      ((boundOf_val hr hl).imp (fun ⟨e, e'⟩ => ⟨by rw [e]; rfl, e'⟩) id) ((boundOf_val hr hh).resolve_left (fun e => by cases e.1)) ((boundOf_val hr hm).resolve_left (fun e => by cases e.1)) h0 h1 h2 (by omega)
    simp only [Option.map_some] at hb
    refine ⟨.slice (if m.toNat = l.toNat then ad else ad.map (·.add (l.toNat * sz))) (h.toNat - l.toNat) (m.toNat - l.toNat), fun w _ => ?_, ?_⟩
    · simp only [execOp, hop, hax, Instr.sliceAt, Sem.run_bind, run_und hu, Result.andThen_ok, Instr.slice]
      simp [hb, run_size hs]
    · have hlen' : ((xs.take h.toNat).drop l.toNat).length = h.toNat - l.toNat := by simp; omega
      rw [← hlen']
      have hsub : ∀ x ∈ (xs.take h.toNat).drop l.toNat, x ∈ xs := fun x hx => List.mem_of_mem_take (List.mem_of_mem_drop hx)
      by_cases he : (xs.take h.toNat).drop l.toNat = []
      · rw [he]
        refine .sl 0 0 (fun _ => undef) (fun e => absurd rfl e) (by simp) (by simp) (by simp) (fun hf => ?_) (by simp) (by simp)
        simp only [decide_eq_true_eq] at hf
        have h5 : (xs.take h.toNat).drop l.toNat = [] := he
        have : ((xs.take h.toNat).drop l.toNat).length = 0 := by rw [he]; rfl
        simp; omega
      · have hxs : xs ≠ [] := fun e => he (by rw [e]; simp)
        obtain ⟨b, o', rfl, hG⟩ := hne hxs
        have hlt : l.toNat < h.toNat := by
          rcases Nat.lt_or_ge l.toNat h.toNat with h | h
          · exact h
          · exact absurd (List.eq_nil_of_length_eq_zero (by rw [hlen']; omega)) he
        have had : (if m.toNat = l.toNat then (some ⟨b, o', none⟩ : Option Addr) else (some ⟨b, o', none⟩ : Option Addr).map (·.add (l.toNat * sz))) = some ⟨b, o' + l.toNat * sz, none⟩ := by
          rw [if_neg (by omega)]; simp [Addr.add_eq]
        rw [had]
        have hflat : ∀ (l : List V) (n : Nat), (∀ x ∈ l, x.cells.length = sz) → (l.drop n).flatMap V.cells = (l.flatMap V.cells).drop (n * sz) := by
          intro l
          induction l with
          | nil => intro n _; simp
          | cons y l ih =>
            intro n hy
            cases n with
            | zero => simp
            | succ n =>
              rw [List.drop_succ_cons, ih n fun z hz => hy z (List.mem_cons_of_mem _ hz), List.flatMap_cons, List.drop_append]
              have h1 := hy y List.mem_cons_self
              rw [h1, Nat.succ_mul]
              have : List.drop (n * sz + sz) y.cells = [] := List.drop_eq_nil_of_le (by omega)
              rw [this]; simp
        have hflatT : ∀ (l : List V) (n : Nat), (∀ x ∈ l, x.cells.length = sz) → (l.take n).flatMap V.cells = (l.flatMap V.cells).take (n * sz) := by
          intro l
          induction l with
          | nil => intro n _; simp
          | cons y l ih =>
            intro n hy
            cases n with
            | zero => simp
            | succ n =>
              rw [List.take_succ_cons, List.flatMap_cons, ih n fun z hz => hy z (List.mem_cons_of_mem _ hz), List.flatMap_cons, List.take_append]
              have h1 := hy y List.mem_cons_self
              rw [h1, Nat.succ_mul]
              have : List.take (n * sz + sz) y.cells = y.cells := List.take_of_length_le (by omega)
              rw [this]; simp
        refine VRel.sl_mk (us := (us.take (h.toNat * sz)).drop (l.toNat * sz)) (by rw [hlen']; omega) (fun hf => ?_) (fun x hx => hok x (hsub x hx)) ?_ (fun i u hu => ?_)
        · simp only [decide_eq_true_eq] at hf
          rw [hlen']; omega
        · rw [hflat _ _ fun x hx => (hok x (List.mem_of_mem_take hx)).1, hflatT _ _ fun x hx => (hok x hx).1]
          refine VRels.drop ⟨by simp [hrel.1], fun i v y hv hy => ?_⟩ _
          rw [List.getElem?_take] at hv hy
          split at hv
          · rename_i hlt; rw [if_pos hlt] at hy; exact hrel.2 i v y hv hy
          · cases hv
        · rw [List.getElem?_drop, List.getElem?_take] at hu
          split at hu
          · rw [Nat.add_assoc]; exact hG _ _ hu
          · cases hu) hk

end
end Go.AW
/- The engine AW, part 11: max, min, structs compared, interfaces compared with nil. -/
set_option linter.unusedVariables false
set_option linter.unusedSimpArgs false
namespace Go.AW

section
variable {ro : Option Nat} {P : Program} {o : Oper} {K : St → Prop} {Q : Exit → St → Prop} {st : St}

theorem AT.max {x y : Operand} {ts : Array TypeId} {k k' : IntKind} {a b : Int} (hop : o.op = .call ⟨.builtin .max, #[x, y], ts⟩) (hd : dstOk st.n o.dst)
    (hx : st.opnd x = .lit (.int k a)) (hy : st.opnd y = .lit (.int k' b)) (hk : K (st.put o.dst (.lit (.int k (if b > a then b else a))))) : ATake P o K st :=
  AT.pure hd (by rw [hop]; rfl) (fun G w a' hr => ⟨_, fun w _ => by
    simp only [execOp, hop, resolve, invoke, builtin, Sem.run_bind, Sem.run_pure, Result.andThen_ok]
    simp [Builtin.max_, Builtin.max2, hr.lit hx, hr.lit hy], .lit _⟩) hk
theorem AT.min {x y : Operand} {ts : Array TypeId} {k k' : IntKind} {a b : Int} (hop : o.op = .call ⟨.builtin .min, #[x, y], ts⟩) (hd : dstOk st.n o.dst)
    (hx : st.opnd x = .lit (.int k a)) (hy : st.opnd y = .lit (.int k' b)) (hk : K (st.put o.dst (.lit (.int k (if b < a then b else a))))) : ATake P o K st :=
  AT.pure hd (by rw [hop]; rfl) (fun G w a' hr => ⟨_, fun w _ => by
    simp only [execOp, hop, resolve, invoke, builtin, Sem.run_bind, Sem.run_pure, Result.andThen_ok]
    simp [Builtin.min_, Builtin.min2, hr.lit hx, hr.lit hy], .lit _⟩) hk

/-! #### Structs of numbers, Bools and strings, compared -/

def eqLit (P : Program) (t : TypeId) : Value → Value → Option Bool
  | .int k a, .int k' b => match P.underlying t with | some (.int _) => if k = k' then some (a == b) else none | _ => none
  | .bool a, .bool b => match P.underlying t with | some .bool => some (a == b) | _ => none
  | .string a, .string b => match P.underlying t with | some .string => some (a.toList == b.toList) | _ => none
  | _, _ => none

theorem eqLit_run {t : TypeId} {a b : Value} {r : Bool} (h : eqLit P t a b = some r) (d : Nat) (w : World) : (Op.equalIn (d + 1) t a b).run P w = .ok r w := by
  unfold eqLit at h
  split at h
  · split at h
    · rename_i hu
      split at h
      · rename_i e; subst e; cases h; exact run_equalIn_int w d t _ _ _ _ hu
      · cases h
    · cases h
  · split at h
    · rename_i hu; cases h; exact run_equalIn_bool' w d t _ _ hu
    · cases h
  · split at h
    · rename_i hu; cases h; exact run_equalIn_string w d t _ _ hu
    · cases h
  · cases h

def litOf : Option V → Option Value
  | some (.lit v) => some v
  | _ => none
def eqFieldsV (P : Program) : List Field → List V → List V → Option Bool
  | [], _, _ => some true
  | f :: fs, xs, ys =>
    if (f.name == "_") = true then none else
    if aggA P f.type = some false then
      (litOf xs[f.offset]?).bind fun a => (litOf ys[f.offset]?).bind fun b => (eqLit P f.type a b).bind fun r => (eqFieldsV P fs xs ys).map fun s => r && s
    else none

theorem litOf_some {v : Option V} {a : Value} (h : litOf v = some a) : v = some (.lit a) := by
  unfold litOf at h
  split at h
  · cases h; rfl
  · cases h

theorem eqFieldsV_run {G : Im} {xs ys : List V} {us vs : List Value} (hx : VRels G xs us) (hy : VRels G ys vs) (d : Nat) (w : World) : ∀ (fs : List Field) (r : Bool), eqFieldsV P fs xs ys = some r →
    (Op.eqFields (d + 1) us.toArray vs.toArray fs).run P w = .ok r w
  | [], r, h => by simp [eqFieldsV] at h; subst h; simp [Op.eqFields]
  | f :: fs, r, h => by
    simp only [eqFieldsV] at h
    split at h
    · cases h
    · rename_i hn
      split at h
      · rename_i ha
        obtain ⟨a, h1, h⟩ := Option.bind_eq_some_iff.1 h
        obtain ⟨b, h2, h⟩ := Option.bind_eq_some_iff.1 h
        obtain ⟨q, h3, h⟩ := Option.bind_eq_some_iff.1 h
        obtain ⟨s, h4, rfl⟩ := Option.map_eq_some_iff.1 h
        obtain ⟨a', ha', hra⟩ := hx.get (litOf_some h1)
        obtain ⟨b', hb', hrb⟩ := hy.get (litOf_some h2)
        have := hra.lit_inv; subst this
        have := hrb.lit_inv; subst this
        have hpa : (part f.type us.toArray f.offset).run P w = .ok a' w := by
          simp only [part, Sem.run_bind, run_agg ha, Result.andThen_ok, Bool.false_eq_true, if_false]; simp [ha']
        have hpb : (part f.type vs.toArray f.offset).run P w = .ok b' w := by
          simp only [part, Sem.run_bind, run_agg ha, Result.andThen_ok, Bool.false_eq_true, if_false]; simp [hb']
        have hn' : f.name ≠ "_" := by simpa using hn
        rw [Op.eqFields]
        simp only [if_pos hn', Sem.run_bind, hpa, hpb, eqLit_run h3, Result.andThen_ok]
        cases q
        · simp
        · simpa using eqFieldsV_run hx hy d w fs s h4
      · cases h

theorem AT.eqlA {op : BinOp} {t t' : TypeId} {x y : Operand} {fs : Array Field} {xs ys : List V} {r : Bool} (hop : o.op = .binOp op t x y t') (hd : dstOk st.n o.dst) (hu : P.underlying t = some (.struct fs)) (hp : P.stoodInHeld t = false) (hg : P.eqGuardType P.depth t = false)
    (hx : st.opnd x = .agg xs) (hy : st.opnd y = .agg ys) (hr : eqFieldsV P fs.toList xs ys = some r) (hk : (op = .eql ∧ K (st.put o.dst (.lit (.bool r)))) ∨ (op = .neq ∧ K (st.put o.dst (.lit (.bool !r))))) : ATake P o K st := by
  have key : ∀ G w a, Rel G w a st → ∀ w', (∃ us vs, a.eval x = .agg us ∧ a.eval y = .agg vs ∧ (Op.equalIn 10000 t (.agg us) (.agg vs)).run P w' = .ok r w') := fun G w a hrel w' => by
    have h1 := hrel.opnd x
    have h2 := hrel.opnd y
    rw [hx] at h1; rw [hy] at h2
    obtain ⟨us, e1, r1⟩ := h1.agg_inv
    obtain ⟨vs, e2, r2⟩ := h2.agg_inv
    refine ⟨_, _, e1, e2, ?_⟩
    have hf : P.fieldsOf t = fs := by simp [Program.fieldsOf, hu]
    rw [run_equalIn_struct (P := P) w' 9999 t _ _ (by rw [hf]; exact hu) hp, hf]
    exact eqFieldsV_run r1 r2 9998 w' _ _ hr
  rcases hk with ⟨rfl, hk⟩ | ⟨rfl, hk⟩
  · refine AT.pure hd (by rw [hop]; rfl) (fun G w a hrel => ⟨_, fun w' _ => ?_, .lit _⟩) hk
    obtain ⟨us, vs, e1, e2, h⟩ := key G w a hrel w'
    simp only [execOp, hop, e1, e2, Sem.run_bind, run_eqGuard_agg (P := P) w' _ t x y _ _ hg, Result.andThen_ok, run_eql_struct, h, Sem.run_pure]
  · refine AT.pure hd (by rw [hop]; rfl) (fun G w a hrel => ⟨_, fun w' _ => ?_, .lit _⟩) hk
    obtain ⟨us, vs, e1, e2, h⟩ := key G w a hrel w'
    simp only [execOp, hop, e1, e2, Sem.run_bind, run_eqGuard_agg (P := P) w' _ t x y _ _ hg, Result.andThen_ok, run_neq_struct, h, Sem.run_pure]

/-! #### An interface compared with nil -/

def nilB : V → Option Bool
  | .lit .nilIface => some true
  | .lit (.iface _ _) => some false
  | .iface _ _ => some false
  | _ => none

theorem nilB_run {t : TypeId} (hu0 : ∃ ms, P.underlying t = some (.interface ms)) {G : Im} {v : V} {x : Value} {b : Bool} (h : nilB v = some b) (hv : VRel G v x) (w : World) :
    (Op.equal t x .nilIface).run P w = .ok b w := by
  obtain ⟨ms, hu⟩ := hu0
  unfold nilB at h
  show (Op.equalIn (9999 + 1) t _ _).run P w = _
  split at h
  · cases h; have := hv.lit_inv; subst this; rw [Op.equalIn, Sem.run_bind, run_und hu]; rfl
  · cases h; have := hv.lit_inv; subst this; rw [Op.equalIn, Sem.run_bind, run_und hu]; rfl
  · cases h; cases hv; rw [Op.equalIn, Sem.run_bind, run_und hu]; rfl
  · cases h

theorem AT.eqlNil {op : BinOp} {t t' : TypeId} {x : Operand} {b : Bool} (hop : o.op = .binOp op t x (.const .nilIface) t') (hd : dstOk st.n o.dst) (hu : ∃ ms, P.underlying t = some (.interface ms))
    (hx : nilB (st.opnd x) = some b) (hk : (op = .eql ∧ K (st.put o.dst (.lit (.bool b)))) ∨ (op = .neq ∧ K (st.put o.dst (.lit (.bool !b))))) : ATake P o K st := by
  have hg : ∀ (op : BinOp) (v : Value), (∃ w, nilB (st.opnd x) = some b ∧ w = v) → ∀ w, (eqGuard op t x (.const .nilIface) v .nilIface).run P w = .ok () w := fun op v _ w => by
    cases op <;> cases v <;> simp [eqGuard]
  have hb : ∀ (v : Value) w, (∃ G, VRel G (st.opnd x) v) → (binOp .eql t v .nilIface).run P w = .ok (.bool b) w ∧ (binOp .neq t v .nilIface).run P w = .ok (.bool !b) w := fun v w ⟨G, hv⟩ => by
    have h := nilB_run (P := P) hu hx hv w
    have hc : v = .nilIface ∨ ∃ T u, v = .iface T u := by
      unfold nilB at hx
      split at hx
      · rename_i e; rw [e] at hv; exact .inl hv.lit_inv
      · rename_i e; rw [e] at hv; exact .inr ⟨_, _, hv.lit_inv⟩
      · rename_i e; rw [e] at hv; cases hv; exact .inr ⟨_, _, rfl⟩
      · cases hx
    rcases hc with rfl | ⟨T, u, rfl⟩
    · simp only [binOp]; simp [h]
    · simp only [binOp]; simp [h]
  rcases hk with ⟨rfl, hk⟩ | ⟨rfl, hk⟩
  · refine AT.pure hd (by rw [hop]; rfl) (fun G w a hrel => ⟨_, fun w' _ => ?_, .lit _⟩) hk
    have e : a.eval (.const .nilIface) = .nilIface := rfl
    simp only [execOp, hop, e, Sem.run_bind, hg .eql (a.eval x) ⟨_, hx, rfl⟩ w', (hb _ w' ⟨G, hrel.opnd x⟩).1, Result.andThen_ok, Sem.run_pure]
  · refine AT.pure hd (by rw [hop]; rfl) (fun G w a hrel => ⟨_, fun w' _ => ?_, .lit _⟩) hk
    have e : a.eval (.const .nilIface) = .nilIface := rfl
    simp only [execOp, hop, e, Sem.run_bind, hg .neq (a.eval x) ⟨_, hx, rfl⟩ w', (hb _ w' ⟨G, hrel.opnd x⟩).2, Result.andThen_ok, Sem.run_pure]

/-! #### Bytes of a string -/

theorem Inv.new_im {G : Im} {w w' : World} {S : List Res} (h : Inv G w S) (us : Array Value) (T : TypeId) (fr : Nat × Nat) (hsz : w'.heap.size = w.heap.size + 1) (hold : ∀ b, b < w.heap.size → w'.heap[b]? = w.heap[b]?)
    (hnew : w'.heap[w.heap.size]? = some (.cells us T fr)) (ht : w'.tape = w.tape) (ho : w'.os = w.os) (hout : w'.output = w.output) :
    Evol S G w S (G.add w.heap.size us) w' ∧ Inv (G.add w.heap.size us) w' S := by
  have hle : Im.le G (G.add w.heap.size us) := fun b o u hg => by
    have := h.G_lt hg
    simp [Im.add, show b ≠ w.heap.size by omega, hg]
  have hsame : ∀ b, b < w.heap.size → ∀ o, G.add w.heap.size us b o = G b o := fun b hb o => by simp [Im.add, show b ≠ w.heap.size by omega]
  refine ⟨⟨by omega, ht, ho, hout, hle, fun b hb _ => hold b hb, fun b hb _ o => hsame b hb o, fun b hb => .inl hb⟩, ?_, ?_, h.nd⟩
  · intro b o u hg
    simp only [Im.add] at hg
    split at hg
    · rename_i e; subst e
      simp only [World.cell?, hnew]; exact hg
    · have := h.im b o u hg
      have hlt := World.cell?_lt this
      simp only [World.cell?] at this ⊢
      rw [hold b hlt]; exact this
  · intro r hr
    exact Res.holds_of (h.res r hr) hle fun b hb => ⟨hold b (Res.blk_lt (h.res r hr) hb), hsame b (Res.blk_lt (h.res r hr) hb)⟩

def u8V (b : UInt8) : V := .lit (.int .u8 b.toNat)
def bytesV (s : ByteArray) : List V := s.data.toList.map u8V

theorem AOp.toBytes {s t e : TypeId} {x : Operand} {v : ByteArray} {ds : TypeDesc} (hop : o.op = .convert s t x) (hd : dstOk st.n o.dst) (hs : P.underlying s = some ds) (ht : P.underlying t = some (.slice e)) (he : P.underlying e = some (.int .u8))
    (hx : st.opnd x = .lit (.string v)) (hv : v.size ≤ 4294967296) (hk : K (st.put o.dst (.sl false 1 (bytesV v)))) : AOp ro P o K Q st := by
  refine AOp.value hd (by rw [hop]; rfl) fun G w a hr => ?_
  have hax := hr.lit hx
  obtain ⟨cap, hcap⟩ : ∃ cap, cap = (Question.appendCap v.size 0 e).cut (w.tape w.drawn (.appendCap v.size 0 e)) := ⟨_, rfl⟩
  have hle : v.size ≤ cap := by rw [hcap]; simp [Question.cut]
  obtain ⟨us, hus⟩ : ∃ us : Array Value, us = v.data.map (fun b => .int .u8 b.toNat) ++ Array.replicate (cap - v.size) (.int .u8 0) := ⟨_, rfl⟩
  obtain ⟨w3, hw3⟩ : ∃ w3, w3 = ((w.drew.alloc (.cells us e)).freeze ⟨w.heap.size, us.size, none⟩ 1) := ⟨_, rfl⟩
  have hold : ∀ b, b < w.heap.size → w3.heap[b]? = w.heap[b]? := fun b hb => by
    rw [hw3]
    simp only [World.freeze, Nat.one_ne_zero, if_false]
    rw [Array.getElem?_modify, if_neg (by omega)]
    exact World.heap_alloc_ne (w := w.drew) (by show b ≠ w.heap.size; omega)
  have hsz : w3.heap.size = w.heap.size + 1 := by
    rw [hw3]
    simp only [World.freeze, Nat.one_ne_zero, if_false, Array.size_modify]
    exact World.size_alloc _ _
  obtain ⟨fr, hnew⟩ : ∃ fr, w3.heap[w.heap.size]? = some (.cells us e fr) := by
    rw [hw3]
    simp only [World.freeze, Nat.one_ne_zero, if_false]
    have : (w.drew.alloc (.cells us e)).heap[w.heap.size]? = some (.cells us e) := World.heap_alloc_eq (w := w.drew)
    rw [Array.getElem?_modify, if_pos rfl, this]
    exact ⟨_, rfl⟩
  obtain ⟨hev, hinv⟩ := hr.inv.new_im us e fr hsz hold hnew (by rw [hw3]; rfl) (by rw [hw3]; rfl) (by rw [hw3]; rfl)
  have hlen : (bytesV v).length = v.size := by simp [bytesV]
  refine ⟨.slice (some ⟨w.heap.size, 0, none⟩) v.size cap, w3, _, _, st.S, ?_, hev, hinv, ?_, hk⟩
  · have hshape : (w.drew.alloc (.cells us e)).shape? w.heap.size = some (e, us.size) := by
      have : (w.drew.alloc (.cells us e)).heap[w.heap.size]? = some (.cells us e) := World.heap_alloc_eq (w := w.drew)
      unfold World.shape?; rw [this]
    simp only [execOp, hop, hax, convert, Sem.run_bind, run_und hs, run_und ht, run_und he, Result.andThen_ok]
    have hd1 : v.data.map (fun b => Value.int .u8 b.toNat) ++ Array.replicate (cap - v.size) (.int .u8 0) = us := hus.symm
    have hrun : (Conv.stringToBytes e v).run P w = .ok (.slice (some ⟨w.heap.size, 0, none⟩) v.size cap) w3 := by
      unfold Conv.stringToBytes
      simp only [Sem.run_bind, run_choose_drew, Question.forced, Bool.false_eq_true, if_false, Result.andThen_ok, ← hcap, hd1]
      rw [hw3]
      have h1 : (newRow e us).run P w.drew = .ok ⟨w.heap.size, 0, none⟩ (w.drew.alloc (.cells us e)) := by
        simp only [newRow, Sem.run_bind, run_newObj_alloc, Result.andThen_ok, Sem.run_pure]; rfl
      rw [h1]
      simp only [Result.andThen_ok]
      have h2 : (markStringish ⟨w.heap.size, 0, none⟩).run P (w.drew.alloc (.cells us e)) = .ok () ((w.drew.alloc (.cells us e)).freeze ⟨w.heap.size, us.size, none⟩ 1) := by
        simp only [markStringish, shape, freeze, Sem.run_bind, Sem.run, hshape]
        rfl
      rw [h2]
      simp only [Result.andThen_ok, Sem.run_pure]
    rw [hrun]
    rfl
  · rw [← hlen]
    refine VRel.sl_mk (us := v.data.toList.map fun b => .int .u8 b.toNat) (by omega) (by simp) (fun x hx => ?_) ?_ fun i u hu => ?_
    · simp only [bytesV, List.mem_map] at hx
      obtain ⟨b, _, rfl⟩ := hx
      simp [u8V, V.cells, V.okv, V.one, Value.oneCell']
    · have : (bytesV v).flatMap V.cells = (v.data.toList.map fun b => Value.int .u8 b.toNat).map .lit := by
        simp only [bytesV, List.flatMap_map, u8V, V.cells, List.map_map]
        induction v.data.toList with
        | nil => rfl
        | cons b l ih => simp only [List.flatMap_cons, List.map_cons, ih]; rfl
      rw [this]; exact VRels.lits _ _
    · simp only [Im.add, if_true, Nat.zero_add]
      rw [hus]
      have hi := (List.getElem?_eq_some_iff.1 hu).1
      simp at hi
      rw [Array.getElem?_append_left (by simpa using hi)]
      simpa using hu

theorem foldl_push (l : List UInt8) (acc : ByteArray) : (l.map fun b => (b.toNat : Int)).foldl (fun r n => r.push (UInt8.ofNat n.toNat)) acc = ⟨acc.data ++ l.toArray⟩ := by
  induction l generalizing acc with
  | nil => simp
  | cons b l ih =>
    simp only [List.map_cons, List.foldl_cons]
    rw [ih]
    have : UInt8.ofNat ((b.toNat : Int).toNat) = b := by simp
    rw [this]
    simp [ByteArray.push]

theorem AT.ofBytes {s t e : TypeId} {x : Operand} {v : ByteArray} {full : Bool} (hop : o.op = .convert s t x) (hd : dstOk st.n o.dst) (hs : P.underlying s = some (.slice e)) (he : P.underlying e = some (.int .u8)) (ht : P.underlying t = some .string)
    (hx : VLe st.S (st.opnd x) (.sl full 1 (bytesV v))) (hk : K (st.put o.dst (.lit (.string v)))) : ATake P o K st := by
  refine AT.pure (v := .lit (.string v)) hd (by rw [hop]; rfl) (fun G w a hr => ?_) hk
  have hv := hx G w _ hr.inv (hr.opnd x)
  obtain ⟨ad, cap, us, hax, hcap, hfull, hok, hrel, hlen, hne⟩ := hv.sl_cells
  refine ⟨.string v, fun w' hw' => ?_, .lit _⟩
  have hbl : (bytesV v).length = v.size := by simp [bytesV]
  have hus : us = (v.data.toList.map fun b => (b.toNat : Int)).map (Value.int .u8) := by
    have h1 : (bytesV v).flatMap V.cells = ((v.data.toList.map fun b => (b.toNat : Int)).map (Value.int .u8)).map .lit := by
      simp only [bytesV, List.flatMap_map, u8V, V.cells, List.map_map]
      induction v.data.toList with
      | nil => rfl
      | cons b l ih => simp only [List.flatMap_cons, List.map_cons, ih]; rfl
    rw [h1] at hrel
    refine List.ext_getElem? fun i => ?_
    cases hi : us[i]? with
    | none =>
      have h2 := List.getElem?_eq_none_iff.1 hi
      have h3 := hrel.1
      rw [List.length_map] at h3
      rw [List.getElem?_eq_none (by omega)]
    | some u =>
      have h2 := (List.getElem?_eq_some_iff.1 hi).1
      have h3 := hrel.1
      rw [List.length_map] at h3
      have h4 := hrel.2 i _ u (by rw [List.getElem?_map, List.getElem?_eq_getElem (by omega)]; rfl) hi
      have h5 := h4.lit_inv
      rw [List.getElem?_eq_getElem (by omega), h5]
  have hrun : (convert s t (a.eval x)).run P w' = .ok (.string v) w' := by
    rw [hax]
    rw [run_convert_bytes_string w' s t e _ _ _ hs he ht]
    by_cases hz : v.size = 0
    · have hv0 : v = ByteArray.empty := by
        cases v with | mk d => have : d = #[] := Array.eq_empty_of_size_eq_zero hz; subst this; rfl
      cases ad with
      | none => subst hv0; simp [Conv.bytesToString]
      | some ad =>
        have := run_bytesToString (P := P) w' ad (bytesV v).length cap [] (by rw [hbl, hz]; rfl)
        rw [this]; subst hv0; rfl
    · have hne' : bytesV v ≠ [] := fun e => by rw [e] at hbl; simp at hbl; omega
      obtain ⟨b, o', rfl, hG⟩ := hne hne'
      have hl := run_loadCells_list (P := P) (w := w') ⟨b, o', none⟩ us (fun j u hu => by rw [Addr.add_eq]; exact hw' _ _ _ (hG j u hu))
      rw [hlen, Nat.mul_one, hus] at hl
      rw [run_bytesToString (P := P) w' ⟨b, o', none⟩ (bytesV v).length cap _ hl, foldl_push]
      simp
  simp only [execOp, hop, Sem.run_bind, hrun, Result.andThen_ok, Sem.run_pure]

end
end Go.AW
/- The engine AW, part 11b: slices of one's own that are written: make, parts, copy. -/
set_option linter.unusedVariables false
set_option linter.unusedSimpArgs false
namespace Go.AW

section
variable {ro : Option Nat} {P : Program} {o : Oper} {K : St → Prop} {Q : Exit → St → Prop} {st : St}

theorem madeCells_one (z : Value) (n : Nat) : (madeCells #[z] n).toList = List.replicate n z := by
  refine List.ext_getElem? fun i => ?_
  by_cases h : i < n
  · simp [madeCells, h, Nat.mod_one]
  · simp [madeCells, h]

/-- A new slice of values of one cell each. -/
theorem AOp.makeSlice1 {t e : TypeId} {x y : Operand} {k k' : IntKind} {n : Int} {z : Value} {bytes : Nat} (hop : o.op = .makeSlice t x y) (hd : dstOk st.n o.dst) (ht : P.underlying t = some (.slice e)) (hs : szA P e = some 1) (hz : zeroA P e = some z) (hzc : z.cells = #[z])
    (hb : bytesA P e = some bytes) (hx : st.opnd x = .lit (.int k n)) (hy : st.opnd y = .lit (.int k' n)) (h0 : 0 ≤ n) (hn : (bytes : Int) * n ≤ 281474976710656) (hn2 : n ≤ 9223372036854775807)
    (hk : ∀ b, Fresh b st.S → K (St.put { st with S := .obj b (List.replicate n.toNat (.lit z)) :: st.S } o.dst (.lit (.slice (some ⟨b, 0, none⟩) n.toNat n.toNat)))) : AOp ro P o K Q st := by
  refine AOp.value hd (by rw [hop]; rfl) fun G w a hr => ?_
  obtain ⟨i, hi, hib⟩ := run_bytes hb
  have hz' : i.zero = some z := by simpa [zeroA, hi] using hz
  have hs' : i.size = 1 := by simpa [szA, hi] using hs
  obtain ⟨he, hinv⟩ := hr.inv.alloc_obj (us := madeCells #[z] n.toNat) (cs := List.replicate n.toNat (.lit z)) e (by
    rw [madeCells_one]
    have := VRels.lits G (List.replicate n.toNat z)
    simpa using this)
  refine ⟨.slice (some ⟨w.heap.size, 0, none⟩) n.toNat n.toNat, w.alloc (.cells (madeCells #[z] n.toNat) e), G, _, _, ?_, he, hinv, .lit _, hk _ (fun hb => by have := hr.inv.lt hb; omega)⟩
  have hrun := run_make (P := P) w t e i z ht hi hz' k k' n n h0 (Int.le_refl _) (by rw [hib]; exact hn) hn2
  rw [hs', Nat.mul_one, hzc] at hrun
  simp only [execOp, hop, hr.lit hx, hr.lit hy, hrun, Sem.run_bind, Result.andThen_ok, Sem.run_pure]

/-- A part of a slice of one's own. -/
theorem AT.sliceLit {t e : TypeId} {x : Operand} {lo hi : Option Operand} {b o' len cap sz : Nat} {l h : Int} (hop : o.op = .slice t x lo hi none) (hd : dstOk st.n o.dst)
    (hu : P.underlying t = some (.slice e)) (hs : szA P e = some sz) (hx : st.opnd x = .lit (.slice (some ⟨b, o', none⟩) len cap)) (hl : boundOf st 0 lo = some l) (hh : boundOf st len hi = some h) (h0 : 0 ≤ l) (h1 : l ≤ h) (h2 : h ≤ cap)
    (hk : K (st.put o.dst (.lit (.slice (some ⟨b, if cap = l.toNat then o' else o' + l.toNat * sz, none⟩) (h.toNat - l.toNat) (cap - l.toNat))))) : ATake P o K st :=
  AT.pure hd (by rw [hop]; rfl) (fun G w a hr => ⟨_, fun w _ => by
    have hb := run_sliceBounds (P := P) (w := w) true len cap (lo := lo.map a.eval) (hi := hi.map a.eval) (l := l) (h := h)
      ((boundOf_val hr hl).imp (fun ⟨e, e'⟩ => ⟨by rw [e]; rfl, e'⟩) id) ((boundOf_val hr hh).imp (fun ⟨e, e'⟩ => ⟨by rw [e]; rfl, e'⟩) id) h0 h1 h2
    simp only [execOp, hop, hr.lit hx, Instr.sliceAt, Sem.run_bind, run_und hu, Result.andThen_ok, Instr.slice]
    simp only [Option.map_none, hb, Sem.run_bind, Result.andThen_ok, run_size hs, Sem.run_pure]
    split
    · rfl
    · simp [Addr.add_eq], .lit _⟩) hk

/-- Copied into a slice of one's own, of values of one cell each, from a slice of one's own or one that never changes. -/
theorem AOp.copy1 {x y : Operand} {t t2 e : TypeId} {ts : Array TypeId} {b o' len cap : Nat} {cs : List V} {src : List V} (hop : o.op = .call ⟨.builtin .copy, #[x, y], #[t, t2]⟩) (hd : dstOk st.n o.dst) (hu : P.underlying t = some (.slice e)) (hs : szA P e = some 1)
    (hx : st.opnd x = .lit (.slice (some ⟨b, o', none⟩) len cap)) (hf : findObj st.S b = some cs)
    (hsrc : ∀ G w v, Inv G w st.S → VRel G (st.opnd y) v → ∃ a slen scap, v = .slice (some a) slen scap ∧ src.length = Nat.min slen len ∧ ∃ us : List Value, VRels G src us ∧ (∀ j u, us[j]? = some u → w.cell? (a.add j) = some u) ∧ ∀ u ∈ us, u.oneCell' = true)
    (hl : o' + src.length ≤ cs.length)
    (hk : K (St.put { st with S := AW.setObj st.S b (splice cs o' src) } o.dst (.lit (.int .i64 src.length)))) : AOp ro P o K Q st := by
  refine AOp.value hd (by rw [hop]; rfl) fun G w a hr => ?_
  obtain ⟨us, T0, h1, h2, h3⟩ := hr.inv.obj hf
  obtain ⟨ad, slen, scap, hy, hlen, vs, hvs, hcell, hone⟩ := hsrc G w _ hr.inv (hr.opnd y)
  have hsz : us.size = cs.length := by rw [h2.1]; simp
  have hvl : vs.length = src.length := hvs.1.symm
  have hs' : (P.info? e).map (·.size) = some 1 := hs
  have hrun := run_copy_row (P := P) w t t2 o.type e b o' len cap ad slen scap us T0 vs hu hs' h1 (by rw [hvl, hlen]) hcell (by omega) hone
  obtain ⟨us', hus'⟩ : ∃ us', us' = (us.toList.take o' ++ vs ++ us.toList.drop (o' + vs.length)).toArray := ⟨_, rfl⟩
  rw [← hus'] at hrun
  obtain ⟨he, hi⟩ := hr.inv.write (w' := w.setRow b us') hf (us' := us') (T := T0) (cs' := splice cs o' src) h1 (setRow_heap w b us us' T0 (0, 0) h1) (by
      subst hus'
      simp only [splice]
      refine VRels.append (VRels.append ⟨by simp [h2.1], fun i v y hv hy => ?_⟩ hvs) ⟨by simp [h2.1, hvl], fun i v y hv hy => ?_⟩
      · rw [List.getElem?_take] at hv hy
        split at hv
        · rename_i hlt; rw [if_pos hlt] at hy; exact h2.2 i v y hv hy
        · cases hv
      · rw [List.getElem?_drop] at hv hy
        rw [hvl] at hy
        exact h2.2 _ v y hv hy)
    (by simp [World.setRow]) (fun b' hb' => by simp [World.setRow, Array.getElem?_modify, Ne.symm hb']) rfl rfl rfl
  refine ⟨goInt vs.length, w.setRow b us', G, .lit (.int .i64 src.length), _, ?_, he, hi, by rw [hvl]; exact .lit _, hk⟩
  simp only [execOp, hop, resolve, invoke, builtin, Sem.run_bind, Sem.run_pure, Result.andThen_ok]
  simp only [List.map_toArray, List.map_cons, List.map_nil, hr.lit hx, hy, hrun, Result.andThen_ok]

/-- unsafe.SliceData of a slice with room, or of nil. -/
theorem AT.sliceData {x : Operand} {tys : Array TypeId} {k : Nat} {a : Option Addr} {n cap : Nat} (hop : o.op = .call ⟨.builtin .unsafeSliceData, #[x], tys⟩) (hd : dstOk st.n o.dst)
    (hx : st.opnd x = .vs k a n cap) (hc : a ≠ none → cap ≠ 0) (hk : K (st.put o.dst (.lit (.pointer a)))) : ATake P o K st :=
  AT.pure hd (by rw [hop]; rfl) (fun G w a' hr => by
    have h := hr.opnd x
    rw [hx] at h
    have hv : a'.eval x = .slice a n cap := by cases hv : a'.eval x <;> rw [hv] at h <;> cases h; rfl
    refine ⟨_, fun w _ => ?_, .lit _⟩
    simp only [execOp, hop]
    cases a with
    | none => simp [resolve, invoke, builtin, hv, Lib.run_unsafeSliceData_nil]
    | some a => simp [resolve, invoke, builtin, hv, Lib.run_unsafeSliceData_row _ _ _ _ _ _ (hc (by simp))]) hk
theorem AT.sliceDataLit {x : Operand} {tys : Array TypeId} {n cap : Nat} (hop : o.op = .call ⟨.builtin .unsafeSliceData, #[x], tys⟩) (hd : dstOk st.n o.dst)
    (hx : st.opnd x = .lit (.slice none n cap)) (hk : K (st.put o.dst (.lit (.pointer none)))) : ATake P o K st :=
  AT.pure hd (by rw [hop]; rfl) (fun G w a' hr => by
    refine ⟨_, fun w _ => ?_, .lit _⟩
    simp only [execOp, hop]
    simp [resolve, invoke, builtin, hr.lit hx, Lib.run_unsafeSliceData_nil]) hk

theorem AT.indexArr {t e : TypeId} {n : Nat} {x ix : Operand} {k : IntKind} {i : Int} {b o' sz : Nat} (hop : o.op = .indexAddr t x ix) (hd : dstOk st.n o.dst)
    (hu : P.underlying t = some (.array n e)) (hs : szA P e = some sz) (hx : st.opnd x = .lit (.pointer (some ⟨b, o', none⟩))) (hi : st.opnd ix = .lit (.int k i)) (h0 : 0 ≤ i) (h1 : i < n)
    (hk : K (st.put o.dst (.lit (.pointer (some ⟨b, o' + i.toNat * sz, none⟩))))) : ATake P o K st :=
  AT.pure hd (by rw [hop]; rfl) (fun G w a hr => ⟨_, fun w _ => by
    simp only [execOp, hop, Instr.indexAt, hr.lit hi, hr.lit hx, asIntOf, Instr.sureAddr, Sem.run_bind, Sem.run_pure, Result.andThen_ok, run_und hu]
    simp [h0, h1, run_size hs, Addr.add_eq, run_und hu], .lit _⟩) hk
theorem AT.indexLit {t e : TypeId} {x ix : Operand} {k : IntKind} {i : Int} {b o' len cap sz : Nat} (hop : o.op = .indexAddr t x ix) (hd : dstOk st.n o.dst)
    (hu : P.underlying t = some (.slice e)) (hs : szA P e = some sz) (hx : st.opnd x = .lit (.slice (some ⟨b, o', none⟩) len cap)) (hi : st.opnd ix = .lit (.int k i)) (h0 : 0 ≤ i) (h1 : i < len)
    (hk : K (st.put o.dst (.lit (.pointer (some ⟨b, o' + i.toNat * sz, none⟩))))) : ATake P o K st :=
  AT.pure hd (by rw [hop]; rfl) (fun G w a hr => ⟨_, fun w _ => by
    simp only [execOp, hop, Instr.indexAt, hr.lit hi, hr.lit hx, asIntOf, Sem.run_bind, Sem.run_pure, Result.andThen_ok, run_und hu]
    simp [h0, h1, run_size hs, Addr.add_eq, run_und hu], .lit _⟩) hk
theorem AT.indexPtr {t e : TypeId} {n : Nat} {x ix : Operand} {k : IntKind} {i : Int} {sz : Nat} {v : V} (hop : o.op = .indexAddr t x ix) (hd : dstOk st.n o.dst)
    (hu : P.underlying t = some (.array n e)) (hs : szA P e = some sz) (hi : st.opnd ix = .lit (.int k i)) (h0 : 0 ≤ i) (h1 : i < n) (hp : ptrAdd (st.opnd x) (i.toNat * sz) = some v)
    (hk : K (st.put o.dst v)) : ATake P o K st :=
  AT.pure hd (by rw [hop]; rfl) (fun G w a hr => by
    obtain ⟨ad, hx, hv⟩ := ptrAdd_run hp (hr.opnd x)
    refine ⟨_, fun w _ => ?_, hv⟩
    simp only [execOp, hop, Instr.indexAt, hr.lit hi, hx, asIntOf, Instr.sureAddr, Sem.run_bind, Sem.run_pure, Result.andThen_ok, run_und hu]
    simp [h0, h1, run_size hs, run_und hu]) hk
theorem AT.indexAgg {t e : TypeId} {n : Nat} {x ix : Operand} {k : IntKind} {i : Int} {sz : Nat} {cs : List V} {v : V} (hop : o.op = .index t x ix) (hd : dstOk st.n o.dst)
    (hu : P.underlying t = some (.array n e)) (hs : szA P e = some sz) (hx : st.opnd x = .agg cs) (hi : st.opnd ix = .lit (.int k i)) (h0 : 0 ≤ i) (h1 : i < n) (hv : readAs P e (cs.drop (i.toNat * sz)) = some v)
    (hk : K (st.put o.dst v)) : ATake P o K st :=
  AT.pure hd (by rw [hop]; rfl) (fun G w a hr => by
    have h := hr.opnd x
    rw [hx] at h
    obtain ⟨us, hus, hrel⟩ := h.agg_inv
    obtain ⟨y, hy, hvy⟩ := part_run (P := P) hrel (i.toNat * sz) hv (fun n hs ha => by
      unfold readAs at hv; rw [hs, ha] at hv; simp only at hv; split at hv; assumption; cases hv)
    exact ⟨y, fun w _ => by
      simp only [execOp, hop, hus, Instr.index, hr.lit hi, asIntOf, Sem.run_bind, Sem.run_pure, Result.andThen_ok, run_und hu]
      rw [if_pos ⟨h0, h1⟩]
      simp only [Sem.run_bind, run_size hs, Result.andThen_ok, hy], hvy⟩) hk
theorem AT.buildArr {t e : TypeId} {n sz : Nat} {parts : Array (Nat × Operand)} {z : Value} {cs : List V} (hop : o.op = .build t parts) (hd : dstOk st.n o.dst)
    (hz : zeroA P t = some z) (hu : P.underlying t = some (.array n e)) (hs : szA P e = some sz)
    (hf : fillV (fun i => some (i * sz, sz)) (z.cells.toList.map .lit) (parts.toList.map fun p => (p.1, fz st.S (st.opnd p.2))) = some cs) (hk : K (st.put o.dst (.agg cs))) : ATake P o K st :=
  AT.pure hd (by rw [hop]; rfl) (fun G w a hr => by
    have hrel : VRels G ((parts.toList.map fun p => (p.1, fz st.S (st.opnd p.2))).map (·.2)) ((parts.toList.map fun p => (p.1, a.eval p.2)).map (·.2)) := by
      rw [List.map_map, List.map_map]
      have h1 := (VsLe.map (VLe.fz st.S) ((parts.toList.map (·.2)).map st.opnd)) G w _ hr.inv (hr.opnds (parts.toList.map (·.2)))
      rw [List.map_map, List.map_map] at h1
      rw [List.map_map] at h1
      exact h1
    obtain ⟨r, hr1, hr2⟩ := fillV_run (G := G) (fun i => some (i * sz, sz)) _ (parts.toList.map fun p => (p.1, a.eval p.2)) _ z.cells cs (VRels.lits G _) (by simp) hrel hf
    refine ⟨.agg r, fun w _ => ?_, by have := VRel.agg' hr2; simpa using this⟩
    have hparts : (parts.map fun (i, x) => (i, a.eval x)).toList = parts.toList.map fun p => (p.1, a.eval p.2) := by simp
    simp only [execOp, hop, Instr.build, Sem.run_bind, run_zero hz, Result.andThen_ok, run_und hu, run_size hs]
    simp only [hparts, hr1, Sem.run_pure, Result.andThen_ok]) hk
end
end Go.AW
/- The engine AW, part 11: the wp as a function that simp reckons. -/
set_option linter.unusedVariables false
set_option linter.unusedSimpArgs false
namespace Go.AW

/-- Operands of two kinds of numbers. -/
def aBinI (op : BinOp) (k k' : IntKind) (a b : Int) (c : Value → Prop) : Prop :=
  match op with
  | .add => k = k' ∧ c (.int k (k.wrap (a + b)))
  | .sub => k = k' ∧ c (.int k (k.wrap (a - b)))
  | .mul => k = k' ∧ c (.int k (k.wrap (a * b)))
  | .quo => k = k' ∧ b ≠ 0 ∧ c (.int k (k.wrap (a.tdiv b)))
  | .rem => k = k' ∧ b ≠ 0 ∧ c (.int k (a.tmod b))
  | .and => k = k' ∧ c (.int k (k.wrap (BitVec.ofInt k.bits a &&& BitVec.ofInt k.bits b).toNat))
  | .or => k = k' ∧ c (.int k (k.wrap (BitVec.ofInt k.bits a ||| BitVec.ofInt k.bits b).toNat))
  | .xor => k = k' ∧ c (.int k (k.wrap (BitVec.ofInt k.bits a ^^^ BitVec.ofInt k.bits b).toNat))
  | .andNot => False
  | .shl => 0 ≤ b ∧ c (.int k (k.wrap (a * 2 ^ min b.toNat k.bits)))
  | .shr => 0 ≤ b ∧ c (.int k (a.fdiv (2 ^ min b.toNat k.bits)))
  | .eql => k = k' ∧ c (.bool (a == b))
  | .neq => k = k' ∧ c (.bool (a != b))
  | .lss => k = k' ∧ c (.bool (decide (a < b)))
  | .leq => k = k' ∧ c (.bool (decide (a ≤ b)))
  | .gtr => k = k' ∧ c (.bool (decide (b < a)))
  | .geq => k = k' ∧ c (.bool (decide (b ≤ a)))

def aBinS (op : BinOp) (a b : ByteArray) (c : Value → Prop) : Prop :=
  match op with
  | .add => a.size + b.size ≤ 9223372036854775807 ∧ c (.string (a ++ b))
  | .eql => c (.bool (a.toList == b.toList))
  | .neq => c (.bool !(a.toList == b.toList))
  | .lss => c (.bool (Op.bytesLess a.toList b.toList))
  | .leq => c (.bool (Op.bytesLess a.toList b.toList || (a.toList == b.toList)))
  | .gtr => c (.bool !(Op.bytesLess a.toList b.toList || (a.toList == b.toList)))
  | .geq => c (.bool !(Op.bytesLess a.toList b.toList))
  | _ => False

def aBinB (P : Program) (t : TypeId) (op : BinOp) (a b : Bool) (c : Value → Prop) : Prop :=
  match op with
  | .eql => P.underlying t = some .bool ∧ c (.bool (a == b))
  | .neq => P.underlying t = some .bool ∧ c (.bool (a != b))
  | _ => False

/-- dflt: what is asked where none of the rules fits. -/
def aBin (P : Program) (t : TypeId) (op : BinOp) (dflt : Prop) : V → V → (Value → Prop) → Prop
  | .lit (.int k a), .lit (.int k' b), c => aBinI op k k' a b c
  | .lit (.string a), .lit (.string b), c => aBinS op a b c
  | .lit (.bool a), .lit (.bool b), c => aBinB P t op a b c
  | _, _, _ => dflt

def aUn (op : UnOp) (dflt : Prop) : V → (Value → Prop) → Prop
  | .lit (.bool b), c => match op with | .not => c (.bool !b) | _ => dflt
  | .lit (.int k n), c => match op with | .neg => c (.int k (k.wrap (0 - n))) | _ => dflt
  | _, _ => dflt

def aPick (v : V) (a b : Prop) : Prop :=
  match v with
  | .lit (.bool c) => if c then a else b
  | _ => False

def aOpt {α : Type} (x : Option α) (c : α → Prop) : Prop :=
  match x with
  | some a => c a
  | none => False

def aNil (dflt : Prop) : V → (V → Prop) → Prop
  | .lit (.pointer (some ad)), c => c (.lit (.pointer (some ad)))
  | .pe cs, c => c (.pe cs)
  | _, _ => dflt

def aStore (S : List Res) (dflt : Prop) : V → V → Option Nat → (List Res → Prop) → Prop
  | .lit (.pointer (some ⟨b, o, none⟩)), x, sz, c => aOpt (findObj S b) fun cs => x.okv = true ∧ sz = some x.cells.length ∧ o + x.cells.length ≤ cs.length ∧ c (setObj S b (splice cs o x.cells))
  | _, _, _, _ => dflt

def aConv (src dst : Option TypeDesc) (dflt : Prop) : V → (V → Prop) → Prop
  | .lit (.int _ n), c => match src, dst with | some _, some (.int k) => c (.lit (.int k (k.wrap n))) | _, _ => dflt
  | .lit (.string s), c => match src, dst with | some _, some .string => c (.lit (.string s)) | _, _ => dflt
  | _, _ => dflt

def aIndexAddr (S : List Res) (u : Option TypeDesc) (szOf : TypeId → Option Nat) (dflt : Prop) : V → V → (V → Prop) → Prop
  | .sl _ sz xs, .lit (.int _ i), c => match u with
    | some (.slice e) => szOf e = some sz ∧ 0 ≤ i ∧ i < xs.length ∧ ∀ v, xs[i.toNat]? = some v → c (.pe v.cells)
    | _ => dflt
  | .vs k a n cap, .lit (.int _ i), c => match u, findVec S k with
    | some (.slice e), some (a', cap', sz, xs) => a' = a ∧ cap' = cap ∧ n = xs.length ∧ szOf e = some sz ∧ 0 ≤ i ∧ i < xs.length ∧ ∀ v, xs[i.toNat]? = some v → c (.pe v.cells)
    | _, _ => dflt
  | .pe cs, .lit (.int _ i), c => match u with
    | some (.array n e) => aOpt (szOf e) fun sz => 0 ≤ i ∧ i < n ∧ c (.pe (cs.drop (i.toNat * sz)))
    | _ => dflt
  | .lit (.slice (some ⟨b, o', none⟩) len _), .lit (.int _ i), c => match u with
    | some (.slice e) => aOpt (szOf e) fun sz => 0 ≤ i ∧ i < len ∧ c (.lit (.pointer (some ⟨b, o' + i.toNat * sz, none⟩)))
    | _ => dflt
  | _, _, _ => dflt

def aIndex (P : Program) (u : Option TypeDesc) (dflt : Prop) : V → V → (V → Prop) → Prop
  | .agg cs, .lit (.int _ i), c => match u with
    | some (.array n e) => aOpt (szA P e) fun sz => 0 ≤ i ∧ i < n ∧ aOpt (readAs P e (cs.drop (i.toNat * sz))) c
    | _ => dflt
  | .lit (.string s), .lit (.int _ i), c => u = some .string ∧ 0 ≤ i ∧ i < s.size ∧ ∀ x : UInt8, s[i.toNat]? = some x → c (.lit (.int .u8 x.toNat))
  | _, _, _ => dflt

def aLen (u : Option TypeDesc) (dflt : Prop) : V → (V → Prop) → Prop
  | .sl _ _ xs, c => match u with | some (.slice _) => c (.lit (.int .i64 xs.length)) | _ => dflt
  | .vs _ _ n _, c => match u with | some (.slice _) => c (.lit (.int .i64 n)) | _ => dflt
  | .lit (.slice _ n _), c => match u with | some (.slice _) => c (.lit (.int .i64 n)) | _ => dflt
  | .lit (.string s), c => match u with | some .string => c (.lit (.int .i64 s.size)) | _ => dflt
  | _, _ => dflt

def isSlStr (e : TypeId) : Option TypeDesc → Prop
  | some (.slice e') => e' = e
  | some .string => True
  | _ => False

/-- What must be so of a slice's type ahead of an append. -/
structure AppOk (P : Program) (t t2 e : TypeId) (sz : Nat) : Prop where
  ht : P.underlying t = some (.slice e)
  ht2 : isSlStr e (P.underlying t2)
  hs : szA P e = some sz
  hz : ∃ z, zeroA P e = some z ∧ z.cells.size = sz
  hb : ∃ n, bytesA P e = some n ∧ n ≤ 16384

def aAppend (P : Program) (S : List Res) (key : Nat) (t t2 e : TypeId) (sz : Nat) (dflt : Prop) : V → V → (V → List Res → Prop) → Prop
  | .vs k a n cap, y, c => match findVec S k with
    | some (a', cap', sz', xs) => a' = a ∧ cap' = cap ∧ sz' = sz ∧ xs.length = n ∧ AppOk P t t2 e sz ∧ (k < 100000 ∨ e = k % 100000) ∧ aOpt (srcOf S sz y) fun ys => xs.length + ys.length ≤ 4294967296 ∧
        ∀ a'' cap'', c (.vs k a'' (xs.length + ys.length) cap'') (setVec S k (.vec k a'' cap'' sz (xs ++ ys)))
    | none => dflt
  | .lit (.slice none 0 0), y, c => AppOk P t t2 e sz ∧ key < 100000 ∧ aOpt (srcOf S sz y) fun ys => ys.length ≤ 4294967296 ∧ ∀ a'' cap'', c (.vs key a'' ys.length cap'') (.vec key a'' cap'' sz ys :: S)
  | .sl true sz' xs, y, c => sz' = sz ∧ AppOk P t t2 e sz ∧ key < 100000 ∧ aOpt (srcOf S sz y) fun ys => xs.length + ys.length ≤ 4294967296 ∧ ∀ a'' cap'', c (.vs key a'' (xs.length + ys.length) cap'') (.vec key a'' cap'' sz (xs ++ ys) :: S)
  | _, _, _ => dflt

def aSlice (st : St) (u : Option TypeDesc) (szOf : TypeId → Option Nat) (lo hi : Option Operand) (dflt : Prop) : V → (V → Prop) → Prop
  | .lit (.string s), c => u = some .string ∧ aOpt (boundOf st 0 lo) fun l => aOpt (boundOf st s.size hi) fun h => 0 ≤ l ∧ l ≤ h ∧ h ≤ s.size ∧ c (.lit (.string (s.extract l.toNat h.toNat)))
  | .sl full sz xs, c => match u with
    | some (.slice e) => szOf e = some sz ∧ aOpt (boundOf st 0 lo) fun l => aOpt (boundOf st xs.length hi) fun h => 0 ≤ l ∧ l ≤ h ∧ h ≤ xs.length ∧ c (.sl (full && decide (h = xs.length)) sz ((xs.take h.toNat).drop l.toNat))
    | _ => dflt
  | _, _ => dflt

/-- Parts of slices of one's own too. -/
def aSliceL (st : St) (u : Option TypeDesc) (szOf : TypeId → Option Nat) (lo hi : Option Operand) (dflt : Prop) : V → (V → Prop) → Prop
  | .lit (.slice (some ⟨b, o', none⟩) len cap), c => match u with
    | some (.slice e) => aOpt (szOf e) fun sz => aOpt (boundOf st 0 lo) fun l => aOpt (boundOf st len hi) fun h => 0 ≤ l ∧ l ≤ h ∧ h ≤ cap ∧ c (.lit (.slice (some ⟨b, if cap = l.toNat then o' else o' + l.toNat * sz, none⟩) (h.toNat - l.toNat) (cap - l.toNat)))
    | _ => dflt
  | v, c => aSlice st u szOf lo hi dflt v c

def aMake (P : Program) (st : St) (dflt : Prop) (u : Option TypeDesc) : V → V → (V → List Res → Prop) → Prop
  | .lit (.int _ n), .lit (.int _ n'), c => match u with
    | some (.slice e) => n' = n ∧ szA P e = some 1 ∧ aOpt (zeroA P e) fun z => z.cells = #[z] ∧ aOpt (bytesA P e) fun by' => 0 ≤ n ∧ (by' : Int) * n ≤ 281474976710656 ∧ n ≤ 9223372036854775807 ∧
        ∀ b, Fresh b st.S → c (.lit (.slice (some ⟨b, 0, none⟩) n.toNat n.toNat)) (.obj b (List.replicate n.toNat (.lit z)) :: st.S)
    | _ => dflt
  | _, _, _ => dflt

def aSlice3 (st : St) (u : Option TypeDesc) (szOf : TypeId → Option Nat) (lo : Option Operand) (hi mx : Operand) (dflt : Prop) : V → (V → Prop) → Prop
  | .sl full sz xs, c => match u with
    | some (.slice e) => szOf e = some sz ∧ aOpt (boundOf st 0 lo) fun l => aOpt (boundOf st 0 (some hi)) fun h => aOpt (boundOf st 0 (some mx)) fun m => 0 ≤ l ∧ l ≤ h ∧ h ≤ m ∧ m ≤ xs.length ∧ c (.sl (decide (h = m)) sz ((xs.take h.toNat).drop l.toNat))
    | _ => dflt
  | _, _ => dflt

def aPanic (dflt : Prop) : V → (Value → Prop) → Prop
  | .lit (.iface t v), c => c (.iface t v)
  | _, _ => dflt

def aGo (g : Bool) (a b : Prop) : Prop := match g with | true => a | false => b

def aCall (ro : Option Nat) (P : Program) (o : Oper) (K : St → Prop) (Q : Exit → St → Prop) (st : St) (args : Array Operand) (dflt : Prop) : Option (FuncId × List V × List V) → Prop
  | some (g, first, captured) => aGo (goesB P g) (ACallLe P g (first ++ args.toList.map (fun x => fz st.S (st.opnd x)) ++ captured) st.S (callQ K Q st o.dst)) dflt
  | none => dflt

def aBox (v : V) (c : V → Prop) : Prop := v.okv = true ∧ c v
def aExtract (dflt : Prop) (ix : Nat) : V → (V → Prop) → Prop
  | .tuple vs, c => aOpt vs[ix]? c
  | _, _ => dflt
def aField (P : Program) (f : Nat) (dflt : Prop) : Option TypeDesc → V → (V → Prop) → Prop
  | some (.struct fs), .agg cs, c => aOpt fs[f]? fun fl => aOpt (readAs P fl.type (cs.drop fl.offset)) c
  | _, _, _ => dflt
def aFieldAddr (P : Program) (f : Nat) (dflt : Prop) : Option TypeDesc → V → (V → Prop) → Prop
  | some (.struct fs), v, c => aOpt fs[f]? fun fl => (aOpt (szA P fl.type) fun n => n ≠ 0) ∧ aOpt (ptrAdd v fl.offset) c
  | _, _, _ => dflt
def aBuild (P : Program) (t : TypeId) (dflt : Prop) : Option TypeDesc → List (Nat × V) → (V → Prop) → Prop
  | some (.struct fs), ps, c => aOpt (zeroA P t) fun z => aOpt (placesOf P fs.toList) fun pl => aOpt (fillV (fun i => pl[i]?) (z.cells.toList.map .lit) ps) fun cs => c (.agg cs)
  | some (.array _ e), ps, c => aOpt (zeroA P t) fun z => aOpt (szA P e) fun sz => aOpt (fillV (fun i => some (i * sz, sz)) (z.cells.toList.map .lit) ps) fun cs => c (.agg cs)
  | _, _, _ => dflt
def aBuildSlice (P : Program) (len : Nat) (ok : Bool) (dflt : Prop) : Option TypeDesc → List V → (V → Prop) → Prop
  | some (.slice e), xs, c => ok = true ∧ (zeroA P e).isSome = true ∧ aOpt (szA P e) fun sz => 0 < sz ∧ len * sz ≤ 16777216 ∧ (∀ v ∈ xs, v.cells.length = sz ∧ v.okv = true) ∧ c (.sl true sz xs)
  | _, _, _ => dflt
def aAppendT (P : Program) (S : List Res) (key : Nat) (t t2 : TypeId) (dflt : Prop) : Option TypeDesc → V → V → (V → List Res → Prop) → Prop
  | some (.slice e), x, y, c => aOpt (szA P e) fun sz => aAppend P S key t t2 e sz dflt x y c
  | _, _, _, _ => dflt

def aBinA (P : Program) (t : TypeId) (op : BinOp) (xs ys : List V) (u : Option TypeDesc) (c : Value → Prop) : Prop :=
  match u, op with
  | some (.struct fs), .eql => P.stoodInHeld t = false ∧ P.eqGuardType P.depth t = false ∧ aOpt (eqFieldsV P fs.toList xs ys) fun r => c (.bool r)
  | some (.struct fs), .neq => P.stoodInHeld t = false ∧ P.eqGuardType P.depth t = false ∧ aOpt (eqFieldsV P fs.toList xs ys) fun r => c (.bool !r)
  | _, _ => False

def aBinG (P : Program) (t : TypeId) (op : BinOp) (dflt : Prop) (u : Option TypeDesc) : V → V → (Value → Prop) → Prop
  | .agg xs, .agg ys, c => aBinA P t op xs ys u c
  | vx, vy, c => aBin P t op dflt vx vy c
/-- Two values, the second one maybe the literal nil of an interface's type. -/
def aBinN (P : Program) (t : TypeId) (op : BinOp) (dflt : Prop) (y : Operand) (u : Option TypeDesc) (vx vy : V) (c : Value → Prop) : Prop :=
  match y, u, op with
  | .const .nilIface, some (.interface _), .eql => aOpt (nilB vx) fun b => c (.bool b)
  | .const .nilIface, some (.interface _), .neq => aOpt (nilB vx) fun b => c (.bool !b)
  | _, _, _ => aBinG P t op dflt u vx vy c
/-- Bytes made of a string, and a string of bytes. -/
def aConvX (P : Program) (src dst : Option TypeDesc) (dflt : Prop) (mk : Bool) : V → (V → Prop) → Prop
  | .lit (.string s), c => match src, dst with
    | some _, some (.slice e) => mk = true ∧ P.underlying e = some (.int .u8) ∧ s.size ≤ 4294967296 ∧ c (.sl false 1 (bytesV s))
    | _, _ => aConv src dst dflt (.lit (.string s)) c
  | .sl full z xs, c => match src, dst with
    | some (.slice e), some .string => z = 1 ∧ P.underlying e = some (.int .u8) ∧ ∃ s, xs = bytesV s ∧ c (.lit (.string s))
    | _, _ => dflt
  | v, c => aConv src dst dflt v c
def aMax (dflt : Prop) : V → V → (V → Prop) → Prop
  | .lit (.int k a), .lit (.int _ b), c => c (.lit (.int k (if b > a then b else a)))
  | _, _, _ => dflt
def aMin (dflt : Prop) : V → V → (V → Prop) → Prop
  | .lit (.int k a), .lit (.int _ b), c => c (.lit (.int k (if b < a then b else a)))
  | _, _, _ => dflt

def aSData (dflt : Prop) : V → (V → Prop) → Prop
  | .vs _ a _ cap, c => (a ≠ none → cap ≠ 0) ∧ c (.lit (.pointer a))
  | .lit (.slice none _ _), c => c (.lit (.pointer none))
  | _, _ => dflt

def aBuiltin (ro : Option Nat) (P : Program) (o : Oper) (K : St → Prop) (Q : Exit → St → Prop) (st : St) : Builtin → List Operand → List TypeId → Prop
  | .len, [x], [t] => aLen (P.underlying t) (AOp ro P o K Q st) (st.opnd x) fun v => K (st.put o.dst v)
  | .max, [x, y], _ => aMax (AOp ro P o K Q st) (st.opnd x) (st.opnd y) fun v => K (st.put o.dst v)
  | .min, [x, y], _ => aMin (AOp ro P o K Q st) (st.opnd x) (st.opnd y) fun v => K (st.put o.dst v)
  | .unsafeSliceData, [x], _ => aSData (AOp ro P o K Q st) (st.opnd x) fun v => K (st.put o.dst v)
  | .append, [x, y], [t, t2] => aAppendT P st.S (o.dst.getD 0) t t2 (AOp ro P o K Q st) (P.underlying t) (st.opnd x) (st.opnd y) fun v S' => K (St.put { st with S := S' } o.dst v)
  | _, _, _ => AOp ro P o K Q st

def aDefer (ro : Option Nat) (o : Oper) (K : St → Prop) (st : St) (args : Array Operand) (dflt : Prop) : V → Prop
  | .lit (.func fn first captured) => ro = none ∧ args = #[] ∧ K (St.put { st with ds := ⟨.fn fn captured, first⟩ :: st.ds } o.dst (.lit undef))
  | _ => dflt

def partsOk (len : Nat) (parts : List (Nat × Operand)) : Bool := parts.map (·.1) == List.range len

def aopB (ro : Option Nat) (P : Program) (o : Oper) (K : St → Prop) (Q : Exit → St → Prop) (st : St) : Op → Prop
  | .move x => K (st.put o.dst (st.opnd x))
  | .assign x => K (st.put o.dst (st.opnd x))
  | .pick c x y => aPick (st.opnd c) (K (st.put o.dst (st.opnd x))) (K (st.put o.dst (st.opnd y)))
  | .alloc T => aOpt (zeroA P T) fun z => ∀ b, Fresh b st.S → K (St.put { st with S := .objT b (z.cells.toList.map .lit) (keepO P T) :: st.S } o.dst (.lit (.pointer (some ⟨b, 0, none⟩))))
  | .box T x => aBox (st.opnd x) fun v => ∀ b, Fresh b st.S → K (St.put { st with S := .obj b v.cells :: st.S } o.dst (.lit (.pointer (some ⟨b, 0, none⟩))))
  | .load T x => aOpt ((cellsAt st.S (st.opnd x)).bind (readAs P T)) fun v => K (st.put o.dst v)
  | .store T p x => aStore st.S (AOp ro P o K Q st) (st.opnd p) (st.opnd x) (szA P T) fun S' => K (St.put { st with S := S' } o.dst (.lit undef))
  | .nilCheck x => aNil (AOp ro P o K Q st) (st.opnd x) fun v => K (st.put o.dst v)
  | .unOp op t x => aUn op (AOp ro P o K Q st) (st.opnd x) fun v => K (st.put o.dst (.lit v))
  | .binOp op t x y t' => aBinN P t op (AOp ro P o K Q st) y (P.underlying t) (st.opnd x) (st.opnd y) fun v => K (st.put o.dst (.lit v))
  | .convert s d x => aConvX P (P.underlying s) (P.underlying d) (AOp ro P o K Q st) true (fz st.S (st.opnd x)) fun v => K (st.put o.dst v)
  | .extract x ix => aExtract (AOp ro P o K Q st) ix (st.opnd x) fun v => K (st.put o.dst v)
  | .field xT x f => aField P f (AOp ro P o K Q st) (P.underlying xT) (st.opnd x) fun v => K (st.put o.dst v)
  | .fieldAddr s x f => aFieldAddr P f (AOp ro P o K Q st) (P.underlying s) (st.opnd x) fun v => K (st.put o.dst v)
  | .indexAddr t x ix => aIndexAddr st.S (P.underlying t) (szA P) (AOp ro P o K Q st) (st.opnd x) (st.opnd ix) fun v => K (st.put o.dst v)
  | .index t x ix => aIndex P (P.underlying t) (AOp ro P o K Q st) (st.opnd x) (st.opnd ix) fun v => K (st.put o.dst v)
  | .build t parts => aBuild P t (AOp ro P o K Q st) (P.underlying t) (parts.toList.map fun p => (p.1, fz st.S (st.opnd p.2))) fun v => K (st.put o.dst v)
  | .buildSlice t len parts => aBuildSlice P len (partsOk len parts.toList) (AOp ro P o K Q st) (P.underlying t) (parts.toList.map fun p => fz st.S (st.opnd p.2)) fun v => K (st.put o.dst v)
  | .makeInterface t x => aOpt (P.underlying t) fun d => isIfaceD d = false ∧ K (st.put o.dst (ifaceOf t (fz st.S (st.opnd x))))
  | .makeFunc fn f c => K (st.put o.dst (funcOf fn (f.toList.map fun x => fz st.S (st.opnd x)) (c.toList.map st.opnd)))
  | .typeAssert x xT t false => aOpt (P.underlying t) fun d => isIfaceD d = false ∧ aOpt (unwrap t (st.opnd x)) fun u => K (st.put o.dst u)
  | .slice t x lo hi none => aSliceL st (P.underlying t) (szA P) lo hi (AOp ro P o K Q st) (fz st.S (st.opnd x)) fun v => K (st.put o.dst v)
  | .slice t x lo (some hi) (some mx) => aSlice3 st (P.underlying t) (szA P) lo hi mx (AOp ro P o K Q st) (fz st.S (st.opnd x)) fun v => K (st.put o.dst v)
  | .makeSlice t x y => aMake P st (AOp ro P o K Q st) (P.underlying t) (st.opnd x) (st.opnd y) fun v S' => K (St.put { st with S := S' } o.dst v)
  | .panic x => aPanic (AOp ro P o K Q st) (st.opnd x) fun v => Q (.panic [{ v, recovered := false }]) st
  | .defer c => match c.callee with
    | .value f => aDefer ro o K st c.args (AOp ro P o K Q st) (st.opnd f)
    | _ => AOp ro P o K Q st
  | .call c => match c.callee with
    | .value f => aCall ro P o K Q st c.args (AOp ro P o K Q st) (calleeOf (st.opnd f))
    | .builtin b => aBuiltin ro P o K Q st b c.args.toList c.argTypes.toList
    | .invoke _ _ => AOp ro P o K Q st
  | _ => AOp ro P o K Q st

/-- The load of what never changes. -/
def aLoadPe (P : Program) (T : TypeId) : V → (V → Prop) → Prop
  | .pe cs, c => aOpt (readAs P T cs) c
  | _, _ => False
def aBuiltinT (P : Program) (o : Oper) (K : St → Prop) (st : St) : Builtin → List Operand → List TypeId → Prop
  | .len, [x], [t] => aLen (P.underlying t) False (st.opnd x) fun v => K (st.put o.dst v)
  | .max, [x, y], _ => aMax False (st.opnd x) (st.opnd y) fun v => K (st.put o.dst v)
  | .min, [x, y], _ => aMin False (st.opnd x) (st.opnd y) fun v => K (st.put o.dst v)
  | .unsafeSliceData, [x], _ => aSData False (st.opnd x) fun v => K (st.put o.dst v)
  | _, _, _ => False

/-- Operations that may be taken ahead of others: they look at their operands, and at what never changes. -/
def aopT (P : Program) (o : Oper) (K : St → Prop) (st : St) : Op → Prop
  | .move x => K (st.put o.dst (st.opnd x))
  | .assign x => K (st.put o.dst (st.opnd x))
  | .pick c x y => aPick (st.opnd c) (K (st.put o.dst (st.opnd x))) (K (st.put o.dst (st.opnd y)))
  | .load T x => aLoadPe P T (st.opnd x) fun v => K (st.put o.dst v)
  | .nilCheck x => aNil False (st.opnd x) fun v => K (st.put o.dst v)
  | .unOp op t x => aUn op False (st.opnd x) fun v => K (st.put o.dst (.lit v))
  | .binOp op t x y t' => aBinN P t op False y (P.underlying t) (st.opnd x) (st.opnd y) fun v => K (st.put o.dst (.lit v))
  | .convert s d x => aConvX P (P.underlying s) (P.underlying d) False false (fz st.S (st.opnd x)) fun v => K (st.put o.dst v)
  | .extract x ix => aExtract False ix (st.opnd x) fun v => K (st.put o.dst v)
  | .field xT x f => aField P f False (P.underlying xT) (st.opnd x) fun v => K (st.put o.dst v)
  | .fieldAddr s x f => aFieldAddr P f False (P.underlying s) (st.opnd x) fun v => K (st.put o.dst v)
  | .indexAddr t x ix => aIndexAddr st.S (P.underlying t) (szA P) False (st.opnd x) (st.opnd ix) fun v => K (st.put o.dst v)
  | .index t x ix => aIndex P (P.underlying t) False (st.opnd x) (st.opnd ix) fun v => K (st.put o.dst v)
  | .build t parts => aBuild P t False (P.underlying t) (parts.toList.map fun p => (p.1, fz st.S (st.opnd p.2))) fun v => K (st.put o.dst v)
  | .makeInterface t x => aOpt (P.underlying t) fun d => isIfaceD d = false ∧ K (st.put o.dst (ifaceOf t (fz st.S (st.opnd x))))
  | .makeFunc fn f c => K (st.put o.dst (funcOf fn (f.toList.map fun x => fz st.S (st.opnd x)) (c.toList.map st.opnd)))
  | .typeAssert x xT t false => aOpt (P.underlying t) fun d => isIfaceD d = false ∧ aOpt (unwrap t (st.opnd x)) fun u => K (st.put o.dst u)
  | .slice t x lo hi none => aSliceL st (P.underlying t) (szA P) lo hi False (fz st.S (st.opnd x)) fun v => K (st.put o.dst v)
  | .slice t x lo (some hi) (some mx) => aSlice3 st (P.underlying t) (szA P) lo hi mx False (fz st.S (st.opnd x)) fun v => K (st.put o.dst v)
  | .call c => match c.callee with
    | .builtin b => aBuiltinT P o K st b c.args.toList c.argTypes.toList
    | _ => False
  | _ => False

def aop (ro : Option Nat) (P : Program) (o : Oper) (K : St → Prop) (Q : Exit → St → Prop) (st : St) : Prop := dstOk st.n o.dst ∧ aopB ro P o K Q st o.op

end Go.AW
