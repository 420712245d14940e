/- The engine AW, part 2: states, the wp of code, the contract of a call. -/
import Derived.Test.YtmlcfgojoglelaaAwCore
import Derived.LoopNIn
import Derived.TacticsIn
set_option linter.unusedVariables false
set_option linter.unusedSimpArgs false
namespace Go.AW

/-- The state of an activation: so many slots, what they hold, resources, deferred calls. -/
structure St where
  n : Nat
  env : List (Nat × V)
  S : List Res
  ds : List Deferred

structure Rel (G : Im) (w : World) (a : Act) (st : St) : Prop where
  env : EnvRel G st.n st.env a.tmps
  ds : a.defers = st.ds
  inv : Inv G w st.S

def WF (ro : Option Nat) : Fence := { Fence.wide with round := ro }

theorem wf_fn {ro : Option Nat} {f : FuncId} : (WF ro).fn f := trivial
theorem wf_none : WF none = Fence.wide := rfl

/-- What is known behind: some evolution, and a state that fits. -/
def Post (st : St) (G : Im) (w : World) (Q : Exit → St → Prop) (e : Exit) (a' : Act) (w' : World) : Prop :=
  ∃ G' st', Evol st.S G w st'.S G' w' ∧ Rel G' w' a' st' ∧ Q e st'

def AWP (ro : Option Nat) (P : Program) (c : Code) (Q : Exit → St → Prop) (st : St) : Prop :=
  ∀ G w a, Rel G w a st → c.wpIn (WF ro) 0 P (Post st G w Q) a w

/-- A step of the prover's alone: the world stays, what is said of it turns. -/
def StLe (st st' : St) : Prop := ∀ G w a, Rel G w a st → ∃ G', Evol st.S G w st'.S G' w ∧ Rel G' w a st'

theorem StLe.refl (st : St) : StLe st st := fun G w a h => ⟨G, .refl _ _ _, h⟩
theorem StLe.trans {st st' st'' : St} (h : StLe st st') (h' : StLe st' st'') : StLe st st'' := fun G w a hr =>
  let ⟨G', e, r⟩ := h G w a hr
  let ⟨G'', e', r'⟩ := h' G' w a r
  ⟨G'', e.trans e', r'⟩

section
variable {ro : Option Nat} {P : Program} {Q Q' : Exit → St → Prop} {st st' : St}

theorem AWP.mono {c : Code} (h : AWP ro P c Q st) (hq : ∀ e st, Q e st → Q' e st) : AWP ro P c Q' st := fun G w a hr =>
  wpIn_mono (h G w a hr) fun e a' w' ⟨G', st', he, hr', hq'⟩ => ⟨G', st', he, hr', hq _ _ hq'⟩

theorem AWP.le {c : Code} (hle : StLe st st') (h : AWP ro P c Q st') : AWP ro P c Q st := fun G w a hr =>
  let ⟨G', e, r⟩ := hle G w a hr
  wpIn_mono (h G' w a r) fun e' a' w' ⟨G'', st'', he, hr', hq'⟩ => ⟨G'', st'', e.trans he, hr', hq'⟩

/-- From a place on the way: what holds behind it holds behind all. -/
theorem AWP.from {c : Code} {G G' : Im} {w w' : World} {a' : Act} (he : Evol st.S G w st'.S G' w') (hr : Rel G' w' a' st') (h : AWP ro P c Q st') :
    c.wpIn (WF ro) 0 P (Post st G w Q) a' w' :=
  wpIn_mono (h G' w' a' hr) fun e' a'' w'' ⟨G'', st'', he', hr', hq'⟩ => ⟨G'', st'', he.trans he', hr', hq'⟩

theorem Post.here {e : Exit} {G : Im} {w : World} {a : Act} (hr : Rel G w a st) (h : Q e st) : Post st G w Q e a w := ⟨G, st, .refl _ _ _, hr, h⟩

theorem AWP.skip (h : Q .normal st) : AWP ro P .skip Q st := fun G w a hr => wpIn_skip (.here hr h)
theorem AWP.label {l : Nat} (h : Q .normal st) : AWP ro P (.label l) Q st := fun G w a hr => wpIn_label (.here hr h)
theorem AWP.exit {id : Nat} (h : Q (.exit id) st) : AWP ro P (.exit id) Q st := fun G w a hr => wpIn_exit (.here hr h)
theorem AWP.goto {l : Nat} (h : Q (.goto l) st) : AWP ro P (.goto l) Q st := fun G w a hr => wpIn_goto (.here hr h)
theorem AWP.ret (h : Q .ret st) : AWP ro P .ret Q st := fun G w a hr => wpIn_ret (.here hr h)

/-- Behind the first part: on with the second one. -/
def thenQ (next : St → Prop) (Q : Exit → St → Prop) : Exit → St → Prop
  | .normal, st => next st
  | e, st => Q e st

theorem AWP.seq {x y : Code} (h : AWP ro P x (thenQ (AWP ro P y Q) Q) st) : AWP ro P (.seq x y) Q st := fun G w a hr => by
  refine wpIn_seq (wpIn_mono (h G w a hr) fun e a' w' ⟨G', st', he, hr', hq⟩ => ?_)
  cases e with
  | normal => exact AWP.from he hr' hq
  | exit id => exact ⟨G', st', he, hr', hq⟩
  | goto l => exact ⟨G', st', he, hr', hq⟩
  | ret => exact ⟨G', st', he, hr', hq⟩
  | panic ch => exact ⟨G', st', he, hr', hq⟩
  | outgrown => exact ⟨G', st', he, hr', hq⟩

def blockQ (id : Nat) (Q : Exit → St → Prop) : Exit → St → Prop
  | .exit id', st => if id' = id then Q .normal st else Q (.exit id') st
  | e, st => Q e st

theorem AWP.block {id : Nat} {c : Code} (h : AWP ro P c (blockQ id Q) st) : AWP ro P (.block id c) Q st := fun G w a hr => by
  refine wpIn_block (wpIn_mono (h G w a hr) fun e a' w' ⟨G', st', he, hr', hq⟩ => ?_)
  cases e with
  | exit id' =>
    simp only [blockQ] at hq
    simp only [Exit.inBlock]
    split
    · rename_i hid; rw [if_pos hid] at hq; exact ⟨G', st', he, hr', hq⟩
    · rename_i hid; rw [if_neg hid] at hq; exact ⟨G', st', he, hr', hq⟩
  | normal => exact ⟨G', st', he, hr', hq⟩
  | goto l => exact ⟨G', st', he, hr', hq⟩
  | ret => exact ⟨G', st', he, hr', hq⟩
  | panic ch => exact ⟨G', st', he, hr', hq⟩
  | outgrown => exact ⟨G', st', he, hr', hq⟩

/-- What a round of a loop has to come to. -/
def roundQ {ι : Type} (ok : ι → Prop) (μ : ι → Nat) (inv : ι → St) (m : Nat) (Q : Exit → St → Prop) : Exit → St → Prop
  | .normal, st => ∃ j, ok j ∧ μ j < m ∧ StLe st (inv j)
  | e, st => Q e st

theorem AWP.loop {ι : Type} {c : Code} (ok : ι → Prop) (μ : ι → Nat) (inv : ι → St) (i₀ : ι) (hok : ok i₀) (h0 : StLe st (inv i₀)) (round : ∀ i, ok i → AWP ro P c (roundQ ok μ inv (μ i) Q) (inv i)) :
    AWP ro P (.loop c) Q st := by
  have key : ∀ m i, ok i → μ i < m → ∀ st0 G0 w0 G w a, Evol st0.S G0 w0 (inv i).S G w → Rel G w a (inv i) → Code.roundsIn (WF ro) 0 P c (Post st0 G0 w0 Q) m a w := by
    intro m
    induction m with
    | zero => intro i _ hi; omega
    | succ m ih =>
      intro i hoki hi st0 G0 w0 G w a he hr
      rw [roundsIn_succ]
      refine wpIn_mono (AWP.from he hr (round i hoki)) fun e a' w' ⟨G', st', he', hr', hq⟩ => ?_
      cases e with
      | normal =>
        obtain ⟨j, hokj, hj, hle⟩ := hq
        obtain ⟨G'', e'', r''⟩ := hle G' w' a' hr'
        exact ih j hokj (by omega) st0 G0 w0 G'' w' a' (he'.trans e'') r''
      | exit id => exact ⟨G', st', he', hr', hq⟩
      | goto l => exact ⟨G', st', he', hr', hq⟩
      | ret => exact ⟨G', st', he', hr', hq⟩
      | panic ch => exact ⟨G', st', he', hr', hq⟩
      | outgrown => exact ⟨G', st', he', hr', hq⟩
  refine AWP.le h0 fun G w a hr => wpIn_loop_rounds (μ i₀ + 1) (key _ i₀ hok (by omega) (inv i₀) G w G w a (.refl _ _ _) hr)

/-! ### Slots -/

theorem get_cons (k : Nat) (v : V) (e : List (Nat × V)) (i : Nat) : get ((k, v) :: e) i = if k = i then v else get e i := rfl
theorem get_nil (i : Nat) : get [] i = .any := rfl

def St.get (st : St) (i : Nat) : V := AW.get st.env i

def St.opnd (st : St) : Operand → V
  | .tmp t => AW.get st.env t
  | .const v => V.of v
  | .global g => .lit (.pointer (some ⟨g, 0, none⟩))
  | .func f => .lit (.func (.func f) #[] #[])

theorem Rel.opnd {G : Im} {w : World} {a : Act} (hr : Rel G w a st) (x : Operand) : VRel G (st.opnd x) (a.eval x) := by
  cases x with
  | tmp t => exact hr.env.2 t
  | const v => exact .of G v
  | global g => exact .lit _
  | func f => exact .lit _

def St.put (st : St) (dst : Option Nat) (v : V) : St :=
  match dst with
  | some d => { st with env := (d, v) :: st.env }
  | none => st

theorem EnvRel.put {G : Im} {n : Nat} {env : List (Nat × V)} {tmps : Array Value} (h : EnvRel G n env tmps) {d : Nat} (hd : d < n) {v : V} {x : Value} (hv : VRel G v x) :
    EnvRel G n ((d, v) :: env) (tmps.setIfInBounds d x) := by
  refine ⟨by simp [h.1], fun i => ?_⟩
  rw [get_cons]
  split
  · rename_i e; subst e
    have : d < tmps.size := by rw [h.1]; exact hd
    simpa [Array.getD, this] using hv
  · rename_i hne
    have := h.2 i
    simpa [Array.getElem?_setIfInBounds_ne hne] using this
theorem EnvRel.mono {G G' : Im} (hle : Im.le G G') {n : Nat} {env : List (Nat × V)} {tmps : Array Value} (h : EnvRel G n env tmps) : EnvRel G' n env tmps :=
  ⟨h.1, fun i => (h.2 i).mono hle⟩

def dstOk (n : Nat) : Option Nat → Prop
  | some d => d < n
  | none => True

/-- Behind an operation that leaves x in its slot. -/
theorem Rel.put {G G' : Im} {w w' : World} {a : Act} (hr : Rel G w a st) {S' : List Res} (he : Evol st.S G w S' G' w') (hi : Inv G' w' S') {dst : Option Nat} (hd : dstOk st.n dst) {v : V} {x : Value} (hv : VRel G' v x) :
    Rel G' w' (a.put dst x) (St.put { st with S := S' } dst v) := by
  cases dst with
  | none => exact ⟨hr.env.mono he.im, hr.ds, hi⟩
  | some d => exact ⟨(hr.env.mono he.im).put hd hv, hr.ds, hi⟩
end

/-! ### Calls -/

inductive Out where
  | ret (v : V)
  | panic (v : Value)

inductive ERel (G : Im) : Out → Ending → Prop
  | ret {v : V} {x : Value} (h : VRel G v x) : ERel G (.ret v) (.returned x)
  | panic (v : Value) : ERel G (.panic v) (.panicked [{ v, recovered := false }])

def CPost (S : List Res) (G : Im) (w : World) (Q : Out → List Res → Prop) (e : Ending) (w' : World) : Prop :=
  ∃ G' S' o, Evol S G w S' G' w' ∧ Inv G' w' S' ∧ ERel G' o e ∧ Q o S'

def ACall (P : Program) (f : FuncId) (args : List V) (S : List Res) (Q : Out → List Res → Prop) : Prop :=
  ∀ G w xs, VRels G args xs → Inv G w S → Calls P f xs.toArray w (CPost S G w Q)

theorem ACall.mono {P : Program} {f : FuncId} {args : List V} {S : List Res} {Q Q' : Out → List Res → Prop} (h : ACall P f args S Q) (hq : ∀ o S', Q o S' → Q' o S') : ACall P f args S Q' :=
  fun G w xs ha hi => (h G w xs ha hi).mono fun e w' ⟨G', S', o, he, hi', her, hq'⟩ => ⟨G', S', o, he, hi', her, hq _ _ hq'⟩

end Go.AW
