/- The engine AW, part 1: values by content, resources, what a world must hold. -/
import Derived.RangeFuncIn
import Derived.RecoverIn
import Derived.RangeFuncLeaves
import Derived.Laws.World
import Derived.RangeFuncOwn
set_option linter.unusedVariables false
set_option linter.unusedSimpArgs false
namespace Go.AW

/-- Values by content. -/
inductive V where
  | lit (v : Value)
  | agg (cs : List V)
  | tuple (cs : List V)
  | sl (full : Bool) (sz : Nat) (xs : List V)
  | vs (k : Nat) (a : Option Addr) (n cap : Nat)
  | pe (cs : List V)
  | func (fn : Fn) (first captured : List V)
  | iface (t : TypeId) (v : V)
  | any

def V.cells : V → List V
  | .agg cs => cs
  | v => [v]

/-- A value that fills one cell. -/
def V.one : V → Bool
  | .lit v => v.oneCell'
  | .sl .. | .vs .. | .pe _ | .func .. | .iface .. => true
  | .agg _ | .tuple _ | .any => false

/-- A value whose cells are known. -/
def V.okv : V → Bool
  | .agg cs => cs.all V.one
  | v => v.one

/-- The cells that never change any more, and what they hold. -/
abbrev Im := Nat → Nat → Option Value

def Im.le (G G' : Im) : Prop := ∀ b o u, G b o = some u → G' b o = some u

inductive VRel (G : Im) : V → Value → Prop
  | lit (v : Value) : VRel G (.lit v) v
  | any (v : Value) : VRel G .any v
  | agg {cs : List V} {xs : Array Value} (hn : cs.length = xs.size) (h : ∀ (i : Nat) (c : V) (x : Value), cs[i]? = some c → xs[i]? = some x → VRel G c x) : VRel G (.agg cs) (.agg xs)
  | tuple {cs : List V} {xs : Array Value} (hn : cs.length = xs.size) (h : ∀ (i : Nat) (c : V) (x : Value), cs[i]? = some c → xs[i]? = some x → VRel G c x) : VRel G (.tuple cs) (.tuple xs)
  | sl {full : Bool} {sz : Nat} {xs : List V} {a : Option Addr} {cap : Nat} (b o : Nat) (us : Nat → Value)
      (ha : xs ≠ [] → a = some ⟨b, o, none⟩) (hsz : ∀ x ∈ xs, x.cells.length = sz) (hok : ∀ x ∈ xs, V.okv x = true) (hcap : xs.length ≤ cap) (hfull : full = true → cap = xs.length)
      (hG : ∀ i, i < (xs.flatMap V.cells).length → G b (o + i) = some (us i))
      (h : ∀ (i : Nat) (c : V), (xs.flatMap V.cells)[i]? = some c → VRel G c (us i)) : VRel G (.sl full sz xs) (.slice a xs.length cap)
  | vs (k : Nat) (a : Option Addr) (n cap : Nat) : VRel G (.vs k a n cap) (.slice a n cap)
  | pe {cs : List V} (b o : Nat) (us : Nat → Value) (hG : ∀ i, i < cs.length → G b (o + i) = some (us i)) (h : ∀ (i : Nat) (c : V), cs[i]? = some c → VRel G c (us i)) :
      VRel G (.pe cs) (.pointer (some ⟨b, o, none⟩))
  | func {fn : Fn} {f c : List V} {f' c' : Array Value} (hf : f.length = f'.size) (hc : c.length = c'.size)
      (h : ∀ (i : Nat) (v : V) (x : Value), f[i]? = some v → f'[i]? = some x → VRel G v x) (h' : ∀ (i : Nat) (v : V) (x : Value), c[i]? = some v → c'[i]? = some x → VRel G v x) : VRel G (.func fn f c) (.func fn f' c')
  | iface {t : TypeId} {v : V} {x : Value} (h : VRel G v x) : VRel G (.iface t v) (.iface t x)

theorem VRel.mono {G G' : Im} (hle : Im.le G G') {v : V} {x : Value} (h : VRel G v x) : VRel G' v x := by
  induction h with
  | lit v => exact .lit v
  | any v => exact .any v
  | agg hn _ ih => exact .agg hn ih
  | tuple hn _ ih => exact .tuple hn ih
  | sl b o us ha hsz hok hcap hfull hG _ ih => exact .sl b o us ha hsz hok hcap hfull (fun i hi => hle _ _ _ (hG i hi)) ih
  | vs k a n cap => exact .vs k a n cap
  | pe b o us hG _ ih => exact .pe b o us (fun i hi => hle _ _ _ (hG i hi)) ih
  | func hf hc _ _ ih ih' => exact .func hf hc ih ih'
  | iface _ ih => exact .iface ih

theorem VRel.lit_inv {G : Im} {v x : Value} (h : VRel G (.lit v) x) : x = v := by cases h; rfl

theorem Im.le_refl (G : Im) : Im.le G G := fun _ _ _ h => h
theorem Im.le_trans {G G' G'' : Im} (h : Im.le G G') (h' : Im.le G' G'') : Im.le G G'' := fun b o u e => h' b o u (h b o u e)

/-- Pointwise. -/
def VRels (G : Im) (vs : List V) (xs : List Value) : Prop := vs.length = xs.length ∧ ∀ (i : Nat) (v : V) (x : Value), vs[i]? = some v → xs[i]? = some x → VRel G v x

theorem VRels.nil {G : Im} : VRels G [] [] := ⟨rfl, fun i v x h => by simp at h⟩
theorem VRels.cons {G : Im} {v : V} {x : Value} {vs : List V} {xs : List Value} (h : VRel G v x) (h' : VRels G vs xs) : VRels G (v :: vs) (x :: xs) := by
  refine ⟨by simp [h'.1], fun i v' x' hv hx => ?_⟩
  cases i with
  | zero => simp at hv hx; subst hv hx; exact h
  | succ i => simp at hv hx; exact h'.2 i v' x' hv hx
theorem VRels.cons_inv {G : Im} {v : V} {vs : List V} {xs : List Value} (h : VRels G (v :: vs) xs) : ∃ x xs', xs = x :: xs' ∧ VRel G v x ∧ VRels G vs xs' := by
  obtain ⟨hn, h⟩ := h
  cases xs with
  | nil => simp at hn
  | cons x xs => exact ⟨x, xs, rfl, h 0 v x rfl rfl, by simpa using hn, fun i v' x' hv hx => h (i + 1) v' x' (by simpa using hv) (by simpa using hx)⟩
theorem VRels.nil_inv {G : Im} {xs : List Value} (h : VRels G [] xs) : xs = [] := by
  cases xs with
  | nil => rfl
  | cons x xs => simp [VRels] at h
theorem VRels.mono {G G' : Im} (hle : Im.le G G') {vs : List V} {xs : List Value} (h : VRels G vs xs) : VRels G' vs xs :=
  ⟨h.1, fun i v x hv hx => (h.2 i v x hv hx).mono hle⟩
theorem VRels.append {G : Im} {vs vs' : List V} {xs xs' : List Value} (h : VRels G vs xs) (h' : VRels G vs' xs') : VRels G (vs ++ vs') (xs ++ xs') := by
  induction vs generalizing xs with
  | nil => rw [VRels.nil_inv h]; exact h'
  | cons v vs ih => obtain ⟨x, xs, rfl, h1, h2⟩ := h.cons_inv; exact .cons h1 (ih h2)
theorem VRels.get {G : Im} {vs : List V} {xs : List Value} (h : VRels G vs xs) {i : Nat} {v : V} (hv : vs[i]? = some v) : ∃ x, xs[i]? = some x ∧ VRel G v x := by
  have hi : i < xs.length := by rw [← h.1]; exact (List.getElem?_eq_some_iff.1 hv).1
  exact ⟨xs[i], by simp [hi], h.2 i v _ hv (by simp [hi])⟩

theorem VRel.agg' {G : Im} {cs : List V} {xs : List Value} (h : VRels G cs xs) : VRel G (.agg cs) (.agg xs.toArray) :=
  .agg (by simpa using h.1) (fun i c x hc hx => h.2 i c x hc (by simpa using hx))
theorem VRel.tuple' {G : Im} {cs : List V} {xs : List Value} (h : VRels G cs xs) : VRel G (.tuple cs) (.tuple xs.toArray) :=
  .tuple (by simpa using h.1) (fun i c x hc hx => h.2 i c x hc (by simpa using hx))
theorem VRel.agg_inv {G : Im} {cs : List V} {x : Value} (h : VRel G (.agg cs) x) : ∃ xs : List Value, x = .agg xs.toArray ∧ VRels G cs xs := by
  cases h with
  | agg hn h => rename_i xs; exact ⟨xs.toList, by simp, by simpa using hn, fun i v x hv hx => h i v x hv (by simpa using hx)⟩
theorem VRel.tuple_inv {G : Im} {cs : List V} {x : Value} (h : VRel G (.tuple cs) x) : ∃ xs : List Value, x = .tuple xs.toArray ∧ VRels G cs xs := by
  cases h with
  | tuple hn h => rename_i xs; exact ⟨xs.toList, by simp, by simpa using hn, fun i v x hv hx => h i v x hv (by simpa using hx)⟩
theorem VRel.func_inv {G : Im} {fn : Fn} {f c : List V} {x : Value} (h : VRel G (.func fn f c) x) : ∃ f' c' : List Value, x = .func fn f'.toArray c'.toArray ∧ VRels G f f' ∧ VRels G c c' := by
  cases h with
  | func hf hc h h' =>
    rename_i f' c'
    exact ⟨f'.toList, c'.toList, by simp, ⟨by simpa using hf, fun i v x hv hx => h i v x hv (by simpa using hx)⟩, ⟨by simpa using hc, fun i v x hv hx => h' i v x hv (by simpa using hx)⟩⟩
theorem VRel.func' {G : Im} {fn : Fn} {f c : List V} {f' c' : List Value} (h : VRels G f f') (h' : VRels G c c') : VRel G (.func fn f c) (.func fn f'.toArray c'.toArray) :=
  .func (by simpa using h.1) (by simpa using h'.1) (fun i v x hv hx => h.2 i v x hv (by simpa using hx)) (fun i v x hv hx => h'.2 i v x hv (by simpa using hx))

/-- A value as it stands: a struct's or an array's cells one by one. -/
def V.of : Value → V
  | .agg xs => .agg (xs.toList.map .lit)
  | .tuple xs => .tuple (xs.toList.map .lit)
  | v => .lit v
theorem VRels.lits (G : Im) (xs : List Value) : VRels G (xs.map .lit) xs := by
  induction xs with
  | nil => exact .nil
  | cons x xs ih => exact .cons (.lit x) ih
theorem VRel.of (G : Im) (v : Value) : VRel G (V.of v) v := by
  cases v <;> simp only [V.of] <;> first | exact .lit _ | skip
  · rename_i xs; have := VRel.agg' (VRels.lits G xs.toList); simpa using this
  · rename_i xs; have := VRel.tuple' (VRels.lits G xs.toList); simpa using this

theorem VRel.cells {G : Im} {v : V} {x : Value} (h : VRel G v x) (hv : v ≠ .any) (hx : ∀ xs, v = .lit (.agg xs) → False) : VRels G v.cells x.cells.toList := by
  cases h with
  | lit =>
    cases x <;> simp [V.cells, Value.cells] <;> first | exact .cons (.lit _) .nil | exact absurd rfl (fun e => hx _ e)
  | any v => exact absurd rfl hv
  | agg hn h => simp [V.cells, Value.cells]; exact ⟨by simpa using hn, fun i c x hc hx => h i c x hc (by simpa using hx)⟩
  | tuple hn h => simp [V.cells, Value.cells]; exact .cons (.tuple hn h) .nil
  | sl b o us ha hsz hok hcap hfull hG h => simp [V.cells, Value.cells]; exact .cons (.sl b o us ha hsz hok hcap hfull hG h) .nil
  | vs k a n cap => simp [V.cells, Value.cells]; exact .cons (.vs k a n cap) .nil
  | pe b o us hG h => simp [V.cells, Value.cells]; exact .cons (.pe b o us hG h) .nil
  | func hf hc h h' => simp [V.cells, Value.cells]; exact .cons (.func hf hc h h') .nil
  | iface h => simp [V.cells, Value.cells]; exact .cons (.iface h) .nil

/-! ### Resources -/

inductive Res where
  | objT (b : Nat) (cs : List V) (T : Option TypeId)
  | vec (k : Nat) (a : Option Addr) (cap sz : Nat) (xs : List V)
  | raw (b : Nat) (o : Obj)
  | lp (b : Nat) (n : Nat) (env : List (Nat × V)) (st : LoopState) (pend : Option Code) (ps : Array Tmp) (assign body : Code) (db : Nat)

def get (env : List (Nat × V)) (i : Nat) : V :=
  match env with
  | [] => .any
  | (k, v) :: e => if k = i then v else get e i

def EnvRel (G : Im) (n : Nat) (env : List (Nat × V)) (tmps : Array Value) : Prop := tmps.size = n ∧ ∀ i, VRel G (get env i) (tmps.getD i undef)

/-- An own block of whatever type. -/
abbrev Res.obj (b : Nat) (cs : List V) : Res := .objT b cs none

/-- The key of a slice that is owned whole, also where it is full, of elements of type T: that of the block b that holds it. -/
def bk (b T : Nat) : Nat := 100000 * (b + 1) + T
theorem bk_ge (b T : Nat) : 100000 ≤ bk b T := by unfold bk; omega
theorem bk_mod {b T : Nat} (h : T < 100000) : bk b T % 100000 = T := by unfold bk; omega

/-- Is the row behind it owned? -/
def ownB (k : Nat) (a : Option Addr) (n cap : Nat) : Bool := decide (n < cap) || (decide (100000 ≤ k) && a.isSome)

def Res.blk : Res → Option Nat
  | .objT b _ _ => some b
  | .vec k a cap _ xs => if ownB k a xs.length cap = true then a.map (·.block) else none
  | .raw b _ => some b
  | .lp b .. => some b

def Res.holds (G : Im) (w : World) : Res → Prop
  | .objT b cs T? => ∃ us T, w.heap[b]? = some (.cells us T (0, 0)) ∧ VRels G cs us.toList ∧ (∀ i, G b i = none) ∧ ∀ t, T? = some t → T = t
  | .vec k a cap sz xs => VRel G (.sl false sz xs) (.slice a xs.length cap) ∧
      (ownB k a xs.length cap = true → ∃ b us T, a = some ⟨b, 0, none⟩ ∧ w.heap[b]? = some (.cells us T (0, 0)) ∧ cap * sz ≤ us.size ∧ (100000 ≤ k → 0 < cap ∧ T = k % 100000) ∧ ∀ i, xs.length * sz ≤ i → G b i = none)
  | .raw b o => w.heap[b]? = some o ∧ o.isCells = false ∧ ∀ i, G b i = none
  | .lp b n env st pend ps assign body db => ∃ fn tmps, w.heap[b]? = some (.loop { state := st, pending := pend, fn, tmps, params := ps, assign, body, defers := db }) ∧ EnvRel G n env tmps ∧ ∀ i, G b i = none

def blks (S : List Res) : List Nat := S.filterMap Res.blk

structure Inv (G : Im) (w : World) (S : List Res) : Prop where
  im : ∀ b o u, G b o = some u → w.cell? ⟨b, o, none⟩ = some u
  res : ∀ r ∈ S, r.holds G w
  nd : (blks S).Nodup

/-- What a piece of code may do to the world, given the resources that it holds. -/
structure Evol (S : List Res) (G : Im) (w : World) (S' : List Res) (G' : Im) (w' : World) : Prop where
  size : w.heap.size ≤ w'.heap.size
  tape : w'.tape = w.tape
  os : w'.os = w.os
  out : w'.output = w.output
  im : Im.le G G'
  keep : ∀ b, b < w.heap.size → b ∉ blks S → w'.heap[b]? = w.heap[b]?
  keepG : ∀ b, b < w.heap.size → b ∉ blks S → ∀ o, G' b o = G b o
  own : ∀ b, b ∈ blks S' → b ∈ blks S ∨ w.heap.size ≤ b

theorem Evol.refl (S : List Res) (G : Im) (w : World) : Evol S G w S G w :=
  ⟨Nat.le_refl _, rfl, rfl, rfl, Im.le_refl _, fun _ _ _ => rfl, fun _ _ _ _ => rfl, fun _ h => .inl h⟩

theorem Evol.trans {S S' S'' : List Res} {G G' G'' : Im} {w w' w'' : World} (h : Evol S G w S' G' w') (h' : Evol S' G' w' S'' G'' w'') : Evol S G w S'' G'' w'' := by
  have hn : ∀ b, b < w.heap.size → b ∉ blks S → b ∉ blks S' := fun b hb hs hs' => by
    rcases h.own b hs' with h1 | h1
    · exact hs h1
    · omega
  refine ⟨Nat.le_trans h.size h'.size, h'.tape.trans h.tape, h'.os.trans h.os, h'.out.trans h.out, Im.le_trans h.im h'.im, fun b hb hs => ?_, fun b hb hs o => ?_, fun b hb => ?_⟩
  · rw [h'.keep b (Nat.lt_of_lt_of_le hb h.size) (hn b hb hs), h.keep b hb hs]
  · rw [h'.keepG b (Nat.lt_of_lt_of_le hb h.size) (hn b hb hs), h.keepG b hb hs]
  · rcases h'.own b hb with h1 | h1
    · exact h.own b h1
    · exact .inr (Nat.le_trans h.size h1)

/-! ### One value said otherwise -/

def VLe (S : List Res) (v v' : V) : Prop := ∀ G w x, Inv G w S → VRel G v x → VRel G v' x
theorem VLe.refl (S : List Res) (v : V) : VLe S v v := fun _ _ _ _ h => h

end Go.AW
