/- The engine AW, part 13: code; regions that draw their order. -/
import Derived.Test.YtmlcfgojoglelaaAwSound
import Derived.OrdersIn
set_option linter.unusedVariables false
set_option linter.unusedSimpArgs false
namespace Go.AW

/-! ### Code -/

def aGuard (v : V) (want : Bool) (a b : Prop) : Prop :=
  match v with
  | .lit (.bool c) => if c = want then a else b
  | .lit (.tuple _) => b
  | _ => False

def aops (ro : Option Nat) (P : Program) (ops : Array Oper) (Q : Exit → St → Prop) : List Oper → St → Prop
  | [], st => Q .normal st
  | o :: rest, st =>
    match o.guard with
    | none => aop ro P o (aops ro P ops Q rest) Q st
    | some (j, want) => aOpt ((ops[j]?).bind (·.dst)) fun d =>
        aGuard (AW.get st.env d) want (aop ro P o (aops ro P ops Q rest) Q st) (dstOk st.n o.dst ∧ aops ro P ops Q rest (st.put o.dst (.lit undef)))

theorem aops_sound {ro : Option Nat} {P : Program} {ops : Array Oper} {Q : Exit → St → Prop} : ∀ (l : List Oper) (st : St), aops ro P ops Q l st → AOps ro P ops Q l st := by
  intro l
  induction l with
  | nil => intro st h; exact h
  | cons o rest ih =>
    intro st h
    have lift : ∀ st, AOp ro P o (aops ro P ops Q rest) Q st → AOp ro P o (AOps ro P ops Q rest) Q st := fun st h G w a hr => by
      have h1 := h G w a hr
      refine ⟨h1.1, ?_⟩
      have h2 := h1.2
      generalize (o.semAt (WF ro).round a.eval).run P w = r at h2 ⊢
      cases r with
      | ok nx w' =>
        cases nx with
        | value v => obtain ⟨G', st', he, hr', hk⟩ := h2; exact ⟨G', st', he, hr', ih st' hk⟩
        | skip => obtain ⟨G', st', he, hr', hk⟩ := h2; exact ⟨G', st', he, hr', ih st' hk⟩
        | defer d => obtain ⟨G', st', he, hr', hk⟩ := h2; exact ⟨G', st', he, hr', ih st' hk⟩
        | enter f args =>
          refine ⟨h2.1, ⟨h2.2.1, fun cs hroom => ?_⟩⟩
          obtain ⟨e, w'', fr, hR, rest'⟩ := h2.2.2 cs hroom
          refine ⟨e, w'', fr, ?_, rest'⟩
          cases e with
          | returned v => obtain ⟨G', st', he, hr', hk⟩ := hR; exact ⟨G', st', he, hr', ih st' hk⟩
          | panicked chain => exact hR
          | outgrown => exact hR
        | row row args =>
          refine ⟨h2.1, fun c cs hroom => ?_⟩
          obtain ⟨v, w'', hR, rest'⟩ := h2.2 c cs hroom
          obtain ⟨G', st', he, hr', hk⟩ := hR
          exact ⟨v, w'', ⟨G', st', he, hr', ih st' hk⟩, rest'⟩
        | round l f tmps assign body =>
          refine ⟨h2.1, ⟨h2.2.1, fun c cs hroom => ?_⟩⟩
          obtain ⟨e, w'', hR, rest'⟩ := h2.2.2 c cs hroom
          refine ⟨e, w'', ?_, rest'⟩
          cases e with
          | returned v => obtain ⟨G', st', he, hr', hk⟩ := hR; exact ⟨G', st', he, hr', ih st' hk⟩
          | panicked chain => exact hR
          | outgrown => exact hR
        | _ => exact h2.elim
      | halt x w' =>
        cases x with
        | panic v => exact h2
        | _ => exact h2.elim
    unfold aops at h
    unfold AOps
    split at h
    · rename_i hg; rw [hg]; exact lift st (aop_sound h)
    · rename_i j want hg
      rw [hg]
      obtain ⟨d, hd, h⟩ := aOpt_some h
      simp only [hd]
      unfold aGuard at h
      split at h
      · rename_i b hb
        simp only [hb]
        split at h
        · rename_i e; rw [if_pos e]; exact lift st (aop_sound h)
        · rename_i e; rw [if_neg e]; exact ⟨h.1, ih _ h.2⟩
      · rename_i t hb
        simp only [hb]; exact ⟨h.1, ih _ h.2⟩
      · exact h.elim


/-! ### Regions that draw their order: at the program's own level -/

section
variable {ro : Option Nat} {P : Program} {ops : Array Oper} {Q : Exit → Act → World → Prop} {C : World → Prop}

def YieldsC (P : Program) (ops : Array Oper) (C : World → Prop) (o : Oper) (v : Value) (a : Act) : Prop :=
  (Region.wanted o (yielded ops a.tmps) = true ∧ ∀ w, C w → (execOp a.eval o).run P w = .ok (.value v) w) ∨
  (Region.wanted o (yielded ops a.tmps) = false ∧ v = undef)

theorem semAt_nd (o : Oper) (h : Op.isDefer o.op = false) (ro : Option Nat) (ρ : Operand → Value) : o.semAt ro ρ = execOp ρ o :=
  Oper.semAt_eq _ _ _ (fun c hc => by rw [hc] at h; cases h)

theorem YieldsC.wpOpIn {i : Nat} {o : Oper} {v : Value} {a : Act} (hi : ops[i]? = some o) (hdf : Op.isDefer o.op = false) (hy : YieldsC P ops C o v a)
    {K : Act → World → Prop} {w : World} (hw : C w) (h : K (a.put o.dst v) w) : wpOpIn (WF ro) 0 P ops Q i K a w := by
  unfold Go.wpOpIn
  simp only [hi]
  rcases hy with ⟨hg, hv⟩ | ⟨hg, rfl⟩
  · simp only [hg, if_true, Oper.wpIn, semAt_nd o hdf, hv w hw, Oper.uponIn]; exact ⟨fun _ _ => trivial, h⟩
  · simp only [hg, Bool.false_eq_true, if_false]; exact ⟨fun _ _ => trivial, h⟩

theorem YieldsC.of_same {o : Oper} {v : Value} {a a' : Act} (hy : YieldsC P ops C o v a) (he : execOp a'.eval o = execOp a.eval o)
    (hw : Region.wanted o (yielded ops a'.tmps) = Region.wanted o (yielded ops a.tmps)) : YieldsC P ops C o v a' := by
  unfold YieldsC at *
  rw [he, hw]
  exact hy

theorem wpOpIn_putC {j : Nat} {oi oj : Oper} {v : Value} (hj : ops[j]? = some oj) (hap : oi.apart ops oj = true)
    (hsi : ∀ cs b, oi.op ≠ .select cs b) (hsj : ∀ cs b, oj.op ≠ .select cs b) (hdj : Op.isDefer oj.op = false)
    (hQ : ∀ c a w, Q (.panic c) (a.put oi.dst v) w → Q (.panic c) a w) {K : Act → World → Prop} {a : Act} {w : World}
    (hy : YieldsC P ops C oi v a) (h : wpOpIn (WF ro) 0 P ops Q j K (a.put oi.dst v) w) :
    wpOpIn (WF ro) 0 P ops Q j (fun a' w' => YieldsC P ops C oi v a' ∧ K (a'.put oi.dst v) w') a w := by
  obtain ⟨h1, h2, h3⟩ := Oper.apart_spec hap
  have keep : ∀ (a : Act), YieldsC P ops C oi v a → ∀ u, YieldsC P ops C oi v (a.put oj.dst u) := fun a hy u =>
    hy.of_same (execOp_put oi hsi a oj.dst u h3) (wanted_put oi a oj.dst u h3)
  have keepD : ∀ d, YieldsC P ops C oi v { a with defers := d :: a.defers } := fun d => hy.of_same rfl rfl
  unfold wpOpIn at *
  simp only [hj] at *
  rw [wanted_put oj a oi.dst v h1] at h
  split
  · rename_i hw
    simp only [hw, if_true] at h
    unfold Oper.wpIn at *
    refine ⟨fun _ _ => trivial, ?_⟩
    have h := h.2
    rw [semAt_nd oj hdj, execOp_put oj hsj a oi.dst v h1] at h
    rw [semAt_nd oj hdj]
    generalize (execOp a.eval oj).run P w = r at *
    cases r with
    | ok x w' =>
      cases x <;> simp only [Oper.uponIn] at h ⊢
      case value u => exact ⟨keep a hy u, by rw [← Act.put_comm a v u h2]; exact h⟩
      case skip => exact ⟨keep a hy _, by rw [← Act.put_comm a v undef h2]; exact h⟩
      case defer d =>
        refine ⟨keep _ (keepD d) _, ?_⟩
        rw [← Act.put_comm _ v undef h2, ← Act.put_defers]
        exact h
      case enter f args =>
        refine ⟨h.1, CallsIn.mono h.2 fun e w'' he => ?_⟩
        cases e with
        | returned u => exact ⟨keep a hy u, by rw [← Act.put_comm a v u h2]; exact he⟩
        | panicked c => exact hQ _ _ _ he
        | outgrown => exact he
      case row row args => exact ⟨h.1, RowsIn.mono h.2 fun u w'' he => ⟨keep a hy u, by rw [← Act.put_comm a v u h2]; exact he⟩⟩
      case round l f tmps assign body =>
        refine ⟨h.1, RoundIn.mono h.2 fun e w'' he => ?_⟩
        cases e with
        | returned u => exact ⟨keep a hy u, by rw [← Act.put_comm a v u h2]; exact he⟩
        | panicked c => exact hQ _ _ _ he
        | outgrown => exact he
    | halt x w' =>
      cases x <;> simp only [Oper.uponIn] at h ⊢
      case panic u => exact hQ _ _ _ h
  · rename_i hw
    simp only [hw] at h
    exact ⟨fun _ _ => trivial, keep a hy _, by rw [← Act.put_comm a v undef h2]; exact h.2⟩

/-- Whatever order is picked from here on, and C behind every operation. -/
def wpAnyC (ro : Option Nat) (P : Program) (ops : Array Oper) (Q : Exit → Act → World → Prop) (C : World → Prop) : Nat → Array Bool → Act → World → Prop
  | 0, listed, a, w => Region.ready .any ops listed = [] ∧ Q .normal a w
  | fuel + 1, listed, a, w =>
    (Region.ready .any ops listed = [] → Q .normal a w) ∧
    ∀ i ∈ Region.ready .any ops listed, wpOpIn (WF ro) 0 P ops Q i (fun a' w' => C w' ∧ wpAnyC ro P ops Q C fuel (listed.setIfInBounds i true) a' w') a w

theorem wpAnyIn_of_C : ∀ (fuel : Nat) (listed : Array Bool) (a : Act) (w : World), wpAnyC ro P ops Q C fuel listed a w → wpAnyIn (WF ro) 0 P .any ops Q fuel listed a w
  | 0, _, _, _, h => h
  | fuel + 1, _, _, _, h => ⟨h.1, fun i hi => wpOpIn_mono (fun a' w' h' => wpAnyIn_of_C fuel _ a' w' h'.2) (h.2 i hi)⟩

theorem wpAnyC_first {i : Nat} {oi : Oper} {v : Value} (hi : ops[i]? = some oi) (hsel : ∀ (j : Nat) (o : Oper) cs b, ops[j]? = some o → o.op ≠ .select cs b)
    (hdf : ∀ (j : Nat) (o : Oper), ops[j]? = some o → Op.isDefer o.op = false)
    (hQ : ∀ c a w, Q (.panic c) (a.put oi.dst v) w → Q (.panic c) a w) :
    ∀ (fuel : Nat) (listed : Array Bool) (a : Act) (w : World),
      (∀ j oj, ops[j]? = some oj → j ≠ i → listed.getD j true = false → (∀ e ∈ oj.after, Region.binds .any e = true → e.on ≠ i) → oi.apart ops oj = true) →
      i ∈ Region.ready .any ops listed → YieldsC P ops C oi v a → C w →
      wpAnyC ro P ops Q C fuel (listed.setIfInBounds i true) (a.put oi.dst v) w → wpAnyC ro P ops Q C (fuel + 1) listed a w := by
  intro fuel
  induction fuel with
  | zero =>
    intro listed a w _ hr hy hS H
    refine ⟨fun h => (by rw [h] at hr; cases hr), fun j hj => ?_⟩
    by_cases hji : j = i
    · subst hji; exact hy.wpOpIn hi (hdf _ _ hi) hS ⟨hS, H⟩
    · have := ready_mono hj hji
      rw [H.1] at this
      cases this
  | succ fuel ih =>
    intro listed a w hfree hr hy hS H
    refine ⟨fun h => (by rw [h] at hr; cases hr), fun j hj => ?_⟩
    by_cases hji : j = i
    · subst hji; exact hy.wpOpIn hi (hdf _ _ hi) hS ⟨hS, H⟩
    · have h1 := H.2 j (ready_mono hj hji)
      obtain ⟨hjun, oj, hoj, hall⟩ := mem_ready.1 hj
      have hnot : ∀ e ∈ oj.after, Region.binds .any e = true → e.on ≠ i := fun e he hb heq => by
        have h1 := hall e he hb
        have h0 := (mem_ready.1 hr).1
        rw [heq] at h1
        rcases Nat.lt_or_ge i listed.size with h' | h'
        · simp [h'] at h0 h1; rw [h0] at h1; cases h1
        · simp [Array.getElem?_eq_none h'] at h1
      have h2 := wpOpIn_putC hoj (hfree j oj hoj hji hjun hnot) (fun cs b => hsel i oi cs b hi) (fun cs b => hsel j oj cs b hoj) (hdf _ _ hoj) hQ hy h1
      have hfree' : ∀ k ok, ops[k]? = some ok → k ≠ i → (listed.setIfInBounds j true).getD k true = false →
          (∀ e ∈ ok.after, Region.binds .any e = true → e.on ≠ i) → oi.apart ops ok = true := fun k ok hk hki hun hno => by
        refine hfree k ok hk hki ?_ hno
        by_cases hjk : j = k
        · subst hjk; exact hjun
        · rw [getD_set_ne true hjk] at hun; exact hun
      refine wpOpIn_mono (fun a' w' h3 => ⟨h3.2.1, ih (listed.setIfInBounds j true) a' w' hfree' (ready_mono hr (Ne.symm hji)) h3.1 h3.2.1 ?_⟩) h2
      rw [Array.setIfInBounds_comm _ _ hji]
      exact h3.2.2
end

theorem wpAnyC_weak {ro : Option Nat} {P : Program} {ops : Array Oper} {Q : Exit → Act → World → Prop} {C C' : World → Prop} (hc : ∀ w, C w → C' w) : ∀ (fuel : Nat) (listed : Array Bool) (a : Act) (w : World), wpAnyC ro P ops Q C fuel listed a w → wpAnyC ro P ops Q C' fuel listed a w
  | 0, _, _, _, h => h
  | fuel + 1, _, _, _, h => ⟨h.1, fun i hi => wpOpIn_mono (fun a' w' h' => ⟨hc _ h'.1, wpAnyC_weak hc fuel _ a' w' h'.2⟩) (h.2 i hi)⟩

/-! ### The same, by content -/

def hasDst : List Oper → Nat → Bool
  | [], _ => false
  | o :: l, k => (match o.dst with | some d => d == k | none => false) || hasDst l k
def dropE (ops : List Oper) : List (Nat × V) → List (Nat × V)
  | [] => []
  | p :: env => if hasDst ops p.1 = true then dropE ops env else p :: dropE ops env

theorem get_dropE (ops : List Oper) : ∀ (env : List (Nat × V)) (i : Nat), get (dropE ops env) i = if hasDst ops i = true then .any else get env i
  | [], i => by simp [dropE, get]
  | (k, v) :: env, i => by
    simp only [dropE]
    by_cases hk : hasDst ops k = true
    · rw [if_pos hk, get_dropE ops env i]
      by_cases hi : hasDst ops i = true
      · rw [if_pos hi, if_pos hi]
      · rw [if_neg hi, if_neg hi, get_cons, if_neg (fun e : k = i => hi (e ▸ hk))]
    · rw [if_neg hk, get_cons, get_cons, get_dropE ops env i]
      by_cases hki : k = i
      · subst hki; rw [if_pos rfl, if_pos rfl, if_neg hk]
      · rw [if_neg hki, if_neg hki]

theorem hasDst_mem {ops : List Oper} {o : Oper} {d : Nat} (h : o ∈ ops) (hd : o.dst = some d) : hasDst ops d = true := by
  induction ops with
  | nil => cases h
  | cons x l ih =>
    simp only [hasDst]
    rcases List.mem_cons.1 h with rfl | h
    · simp [hd]
    · rw [ih h]; simp

/-- Behind a panic the region's own slots are not spoken of. -/
def dropP (ops : Array Oper) : Exit → St → St
  | .panic _, st => { st with env := dropE ops.toList st.env }
  | _, st => st

def PostD (ops : Array Oper) (st0 : St) (Gs : Im) (ws : World) (Q : Exit → St → Prop) (e : Exit) (a' : Act) (w' : World) : Prop :=
  ∃ G' st', Evol st0.S Gs ws st'.S G' w' ∧ Rel G' w' a' (dropP ops e st') ∧ Q e (dropP ops e st')

theorem PostD.post {ops : Array Oper} {st0 : St} {Gs : Im} {ws : World} {Q : Exit → St → Prop} {e : Exit} {a' : Act} {w' : World} (h : PostD ops st0 Gs ws Q e a' w') : Post st0 Gs ws Q e a' w' :=
  let ⟨G', st', h1, h2, h3⟩ := h
  ⟨G', dropP ops e st', by cases e <;> exact h1, h2, h3⟩

theorem EnvRel.drop_of {G : Im} {n : Nat} {env : List (Nat × V)} {tmps : Array Value} (ops : List Oper) (h : EnvRel G n env tmps) : EnvRel G n (dropE ops env) tmps := ⟨h.1, fun i => by
  rw [get_dropE]; split; exact .any _; exact h.2 i⟩

theorem EnvRel.drop_put {G : Im} {n : Nat} {env : List (Nat × V)} {a : Act} {ops : List Oper} {o : Oper} {v : Value} (ho : o ∈ ops) (h : EnvRel G n (dropE ops env) (a.put o.dst v).tmps) : EnvRel G n (dropE ops env) a.tmps := by
  cases hd : o.dst with
  | none => rw [hd] at h; exact h
  | some d =>
    rw [hd] at h
    refine ⟨by have := h.1; simpa [Act.put] using this, fun i => ?_⟩
    have := h.2 i
    rw [get_dropE] at this ⊢
    split
    · exact .any _
    · rename_i hi
      rw [if_neg hi] at this
      have hne : d ≠ i := fun e => hi (e ▸ hasDst_mem ho hd)
      simpa [Act.put, Array.getElem?_setIfInBounds_ne hne] using this

theorem Act.put_ds (a : Act) (d : Option Tmp) (v : Value) : (a.put d v).defers = a.defers := by cases d <;> rfl

theorem PostD.hQ {ops : Array Oper} {st0 : St} {Gs : Im} {ws : World} {Q : Exit → St → Prop} {i : Nat} {o : Oper} (ho : ops[i]? = some o) {v : Value} (c : List PanicEntry) (a : Act) (w : World) (h : PostD ops st0 Gs ws Q (.panic c) (a.put o.dst v) w) : PostD ops st0 Gs ws Q (.panic c) a w := by
  obtain ⟨G', st', h1, h2, h3⟩ := h
  exact ⟨G', st', h1, ⟨h2.env.drop_put (by have := Array.mem_of_getElem? ho; simpa using this), by rw [← h2.ds, Act.put_ds], h2.inv⟩, h3⟩

def ADr (ro : Option Nat) (P : Program) (ops : Array Oper) (Q : Exit → St → Prop) (fuel : Nat) (listed : Array Bool) (st : St) : Prop :=
  ∀ st0 Gs ws G0 G w a, Im.le G0 G → Evol st0.S Gs ws st.S G w → Rel G w a st → wpAnyC ro P ops (PostD ops st0 Gs ws Q) (ImHold G0) fuel listed a w

def dropQ (ops : Array Oper) (Q : Exit → St → Prop) (e : Exit) (st : St) : Prop := Q e (dropP ops e st)

section
variable {ro : Option Nat} {P : Program} {ops : Array Oper} {Q : Exit → St → Prop} {st : St} {fuel : Nat} {listed : Array Bool}

theorem ADr.done (hr : Region.ready .any ops listed = []) (h : Q .normal st) : ADr ro P ops Q fuel listed st := by
  intro st0 Gs ws G0 G w a hle he hrel
  have : PostD ops st0 Gs ws Q .normal a w := ⟨G, st, he, hrel, h⟩
  cases fuel with
  | zero => exact ⟨hr, this⟩
  | succ f => exact ⟨fun _ => this, by rw [hr]; simp⟩

theorem im_hold {G G' : Im} {w : World} {S : List Res} (hi : Inv G w S) (hle : Im.le G' G) : ImHold G' w := fun b o u h => hi.im b o u (hle b o u h)

theorem ADr.take {i : Nat} {o : Oper} (hi : ops[i]? = some o) (hsel : ∀ (j : Nat) (o : Oper) cs b, ops[j]? = some o → o.op ≠ .select cs b)
    (hdf : ∀ (j : Nat) (o : Oper), ops[j]? = some o → Op.isDefer o.op = false)
    (hfree : ∀ j oj, ops[j]? = some oj → j ≠ i → listed.getD j true = false → (∀ e ∈ oj.after, Region.binds .any e = true → e.on ≠ i) → o.apart ops oj = true)
    (hr : i ∈ Region.ready .any ops listed)
    (hg : ∀ G w a, Rel G w a st → Region.wanted o (yielded ops a.tmps) = true) (h : ATake P o (ADr ro P ops Q fuel (listed.setIfInBounds i true)) st) : ADr ro P ops Q (fuel + 1) listed st := by
  intro st0 Gs ws G0 G w a hle he hrel
  obtain ⟨hd, hdo, v, hy, hk⟩ := h
  obtain ⟨x, hx, hv⟩ := hy G w a hrel
  -- what never changes may be more than G0; the class is taken at G
  have hfirst : wpAnyC ro P ops (PostD ops st0 Gs ws Q) (ImHold G) (fuel + 1) listed a w := by
    refine wpAnyC_first (v := x) hi hsel hdf (fun c a w h => PostD.hQ hi c a w h) fuel listed a w hfree hr (.inl ⟨hg G w a hrel, fun w' hw' => hx w' hw'⟩) (im_hold hrel.inv (fun _ _ _ h => h)) ?_
    exact hk st0 Gs ws G G w _ (fun _ _ _ h => h) (by rw [St.put_S]; exact he) (by have := hrel.put (.refl _ _ _) hrel.inv hd hv; exact this)
  exact wpAnyC_weak (fun w' hw' b o u h => hw' b o u (hle b o u h)) _ _ _ _ hfirst

theorem ADr.pass {i : Nat} {o : Oper} (hi : ops[i]? = some o) (hsel : ∀ (j : Nat) (o : Oper) cs b, ops[j]? = some o → o.op ≠ .select cs b)
    (hdf : ∀ (j : Nat) (o : Oper), ops[j]? = some o → Op.isDefer o.op = false)
    (hfree : ∀ j oj, ops[j]? = some oj → j ≠ i → listed.getD j true = false → (∀ e ∈ oj.after, Region.binds .any e = true → e.on ≠ i) → o.apart ops oj = true)
    (hr : i ∈ Region.ready .any ops listed)
    (hg : ∀ G w a, Rel G w a st → Region.wanted o (yielded ops a.tmps) = false) (hd : dstOk st.n o.dst) (h : ADr ro P ops Q fuel (listed.setIfInBounds i true) (st.put o.dst (.lit undef))) : ADr ro P ops Q (fuel + 1) listed st := by
  intro st0 Gs ws G0 G w a hle he hrel
  refine wpAnyC_first (v := undef) hi hsel hdf (fun c a w h => PostD.hQ hi c a w h) fuel listed a w hfree hr (.inr ⟨hg G w a hrel, rfl⟩) (im_hold hrel.inv hle) ?_
  exact h st0 Gs ws G0 G w _ hle (by rw [St.put_S]; exact he) (by have := hrel.put (.refl _ _ _) hrel.inv hd (.lit undef); exact this)

theorem wpIn_mono2 {F : Fence} {n : Nat} {P : Program} {o : Oper} {a : Act} {w : World} {K K' : Act → World → Prop} {Q Q' : Exit → Act → World → Prop} (hk : ∀ a w, K a w → K' a w) (hq : ∀ e a w, Q e a w → Q' e a w)
    (h : o.wpIn F n P a w K Q) : o.wpIn F n P a w K' Q' := by
  refine ⟨h.1, ?_⟩
  have h := h.2
  generalize (o.semAt F.round a.eval).run P w = r at h ⊢
  cases r with
  | ok x w' =>
    cases x <;> simp only [Oper.uponIn] at h ⊢ <;>
      first
        | exact hk _ _ h
        | exact ⟨h.1, CallsIn.mono h.2 (fun e w'' he => by
            cases e with
            | returned v => exact hk _ _ he
            | panicked c => exact hq _ _ _ he
            | outgrown => obtain ⟨a₀, w₀, h0⟩ := he; exact ⟨a₀, w₀, hq _ _ _ h0⟩)⟩
        | exact ⟨h.1, RowsIn.mono h.2 (fun _ _ he => hk _ _ he)⟩
        | exact ⟨h.1, RoundIn.mono h.2 (fun e w'' he => by
            cases e with
            | returned v => exact hk _ _ he
            | panicked c => exact hq _ _ _ he
            | outgrown => obtain ⟨a₀, w₀, h0⟩ := he; exact ⟨a₀, w₀, hq _ _ _ h0⟩)⟩
  | halt x w' => cases x <;> simp only [Oper.uponIn] at h ⊢ <;> exact hq _ _ _ h

theorem PostD.of {st0 st : St} {Gs G : Im} {ws w : World} (he : Evol st0.S Gs ws st.S G w) {e : Exit} {a' : Act} {w' : World} (h : Post st G w (dropQ ops Q) e a' w') : PostD ops st0 Gs ws Q e a' w' := by
  obtain ⟨G', st', h1, h2, h3⟩ := h
  refine ⟨G', st', he.trans h1, ?_, h3⟩
  cases e with
  | panic c => exact ⟨h2.env.drop_of ops.toList, h2.ds, h2.inv⟩
  | _ => exact h2

theorem ADr.all (h : ∀ i ∈ Region.ready .any ops listed, ∃ o, ops[i]? = some o ∧
      (((∀ G w a, Rel G w a st → Region.wanted o (yielded ops a.tmps) = true) ∧ AOp ro P o (ADr ro P ops Q fuel (listed.setIfInBounds i true)) (dropQ ops Q) st) ∨
       ((∀ G w a, Rel G w a st → Region.wanted o (yielded ops a.tmps) = false) ∧ dstOk st.n o.dst ∧ ADr ro P ops Q fuel (listed.setIfInBounds i true) (st.put o.dst (.lit undef)))))
    (hne : Region.ready .any ops listed ≠ []) : ADr ro P ops Q (fuel + 1) listed st := by
  intro st0 Gs ws G0 G w a hle he hrel
  refine ⟨fun h0 => absurd h0 hne, fun i hi => ?_⟩
  obtain ⟨o, ho, hc⟩ := h i hi
  unfold wpOpIn
  simp only [ho]
  rcases hc with ⟨hg, hop⟩ | ⟨hg, hd, hk⟩
  · rw [if_pos (hg G w a hrel)]
    refine wpIn_mono2 (fun a' w' ⟨G', st', h1, h2, h3⟩ => ?_) (fun e a' w' h => PostD.of he h) (hop G w a hrel)
    exact ⟨im_hold h2.inv (fun b o u h => h1.im b o u (hle b o u h)), h3 st0 Gs ws G0 G' w' a' (fun b o u h => h1.im b o u (hle b o u h)) (he.trans h1) h2⟩
  · rw [if_neg (by rw [hg G w a hrel]; exact Bool.false_ne_true)]
    exact ⟨fun _ _ => trivial, im_hold hrel.inv hle, hk st0 Gs ws G0 G w _ hle (by rw [St.put_S]; exact he) (by have := hrel.put (.refl _ _ _) hrel.inv hd (.lit undef); exact this)⟩
end

theorem Inv.drew {G : Im} {w : World} {S : List Res} (h : Inv G w S) (n : Nat) : Inv G { w with drawn := n } S := by
  refine ⟨fun b o u hu => h.im b o u hu, fun r hr => ?_, h.nd⟩
  have := h.res r hr
  cases r <;> exact this

theorem wpAnyC_post {ro : Option Nat} {P : Program} {ops : Array Oper} {C : World → Prop} {Q Q' : Exit → Act → World → Prop} (hq : ∀ e a w, Q e a w → Q' e a w) : ∀ (fuel : Nat) (listed : Array Bool) (a : Act) (w : World), wpAnyC ro P ops Q C fuel listed a w → wpAnyC ro P ops Q' C fuel listed a w
  | 0, _, _, _, h => ⟨h.1, hq _ _ _ h.2⟩
  | fuel + 1, _, _, _, h => ⟨fun h0 => hq _ _ _ (h.1 h0), fun i hi => by
      have := h.2 i hi
      unfold wpOpIn at this ⊢
      split
      · rename_i ho; simp only [ho] at this; exact ⟨this.1, wpAnyC_post hq fuel _ _ _ this.2⟩
      · rename_i o ho
        simp only [ho] at this
        split
        · rename_i hw; simp only [hw, if_true] at this; exact wpIn_mono2 (fun a' w' h' => ⟨h'.1, wpAnyC_post hq fuel _ a' w' h'.2⟩) hq this
        · rename_i hw; simp only [hw] at this; exact ⟨this.1, this.2.1, wpAnyC_post hq fuel _ _ _ this.2.2⟩⟩

/-! ### Plans: which operation is taken first, and where all that may come up are walked -/

inductive DPlan where
  | done
  | take (i : Nat) (p : DPlan)
  | alt (i : Nat) (p rest : DPlan)
  | stop

def okPlan (ops : Array Oper) : DPlan → Nat → Array Bool → Option (List Nat) → Bool
  | .done, _, listed, none => (Region.ready .any ops listed).isEmpty
  | .take i p, f + 1, listed, none => (Region.ready .any ops listed).contains i && Region.free .any ops listed i && okPlan ops p f (listed.setIfInBounds i true) none
  | .alt i p rest, f + 1, listed, none =>
    match Region.ready .any ops listed with
    | r :: rs => r == i && okPlan ops p f (listed.setIfInBounds i true) none && okPlan ops rest (f + 1) listed (some rs)
    | [] => false
  | .alt i p rest, f + 1, listed, some rs =>
    match rs with
    | r :: rs => r == i && okPlan ops p f (listed.setIfInBounds i true) none && okPlan ops rest (f + 1) listed (some rs)
    | [] => false
  | .stop, _, _, some [] => true
  | _, _, _, _ => false

def noDefer (ops : Array Oper) : Bool := ops.all fun o => !Op.isDefer o.op

def dGuard (ops : Array Oper) (st : St) (dst : Option Tmp) (K : St → Prop) (a : Prop) : Option (Nat × Bool) → Prop
  | none => a
  | some (j, want) => aOpt ((ops[j]?).bind (·.dst)) fun d => aGuard (AW.get st.env d) want a (dstOk st.n dst ∧ K (st.put dst (.lit undef)))

def adr (ro : Option Nat) (P : Program) (ops : Array Oper) (Q : Exit → St → Prop) : DPlan → St → Prop
  | .done, st => Q .normal st
  | .take i p, st => aOpt ops[i]? fun o => dGuard ops st o.dst (adr ro P ops Q p) (dstOk st.n o.dst ∧ aopT P o (adr ro P ops Q p) st o.op) o.guard
  | .alt i p rest, st => (aOpt ops[i]? fun o => dGuard ops st o.dst (adr ro P ops Q p) (aop ro P o (adr ro P ops Q p) (dropQ ops Q) st) o.guard) ∧ adr ro P ops Q rest st
  | .stop, _ => True

theorem dGuard_sound {ops : Array Oper} {st : St} {o : Oper} {K : St → Prop} {a : Prop} (h : dGuard ops st o.dst K a o.guard) :
    ((∀ G w x, Rel G w x st → Region.wanted o (yielded ops x.tmps) = true) ∧ a) ∨ ((∀ G w x, Rel G w x st → Region.wanted o (yielded ops x.tmps) = false) ∧ dstOk st.n o.dst ∧ K (st.put o.dst (.lit undef))) := by
  unfold dGuard at h
  split at h
  · rename_i hg; exact .inl ⟨fun _ _ _ _ => by simp [Region.wanted, hg], h⟩
  · rename_i j want hg
    obtain ⟨d, hd, h⟩ := aOpt_some h
    have hy : ∀ G w (x : Act), Rel G w x st → yielded ops x.tmps j = match x.tmps[d]? with | some (.bool b) => some b | _ => none := fun G w x hr => by simp [yielded, hd]; rfl
    unfold aGuard at h
    split at h
    · rename_i b hb
      have hy' : ∀ G w (x : Act), Rel G w x st → yielded ops x.tmps j = some b := fun G w x hr => by
        rw [hy G w x hr]
        have hrel := hr.env.2 d
        rw [hb] at hrel
        have hx := hrel.lit_inv
        cases hdt : x.tmps[d]? with
        | none => simp [hdt, undef] at hx
        | some u => simp [hdt] at hx; subst hx; rfl
      split at h
      · rename_i e; exact .inl ⟨fun G w x hr => by simp [Region.wanted, hg, hy' G w x hr, e], h⟩
      · rename_i e; exact .inr ⟨fun G w x hr => by simp [Region.wanted, hg, hy' G w x hr, e], h⟩
    · rename_i t hb
      refine .inr ⟨fun G w x hr => ?_, h⟩
      have hy' : yielded ops x.tmps j = none := by
        rw [hy G w x hr]
        have hrel := hr.env.2 d
        rw [hb] at hrel
        have hx := hrel.lit_inv
        cases hdt : x.tmps[d]? with
        | none => rfl
        | some u => simp [hdt] at hx; subst hx; rfl
      simp [Region.wanted, hg, hy']
    · exact h.elim

theorem adr_sound {ro : Option Nat} {P : Program} {ops : Array Oper} {Q : Exit → St → Prop} (hs : Region.noSelect ops = true) (hn : noDefer ops = true) : ∀ (p : DPlan) (fuel : Nat) (listed : Array Bool) (st : St),
    (okPlan ops p fuel listed none = true → adr ro P ops Q p st → ADr ro P ops Q fuel listed st) ∧
    (∀ rs f, fuel = f + 1 → okPlan ops p fuel listed (some rs) = true → adr ro P ops Q p st → ∀ i ∈ rs, ∃ o, ops[i]? = some o ∧
      (((∀ G w a, Rel G w a st → Region.wanted o (yielded ops a.tmps) = true) ∧ AOp ro P o (ADr ro P ops Q f (listed.setIfInBounds i true)) (dropQ ops Q) st) ∨
       ((∀ G w a, Rel G w a st → Region.wanted o (yielded ops a.tmps) = false) ∧ dstOk st.n o.dst ∧ ADr ro P ops Q f (listed.setIfInBounds i true) (st.put o.dst (.lit undef))))) := by
  have hsel := Region.noSelect_spec hs
  have hdf : ∀ (j : Nat) (o : Oper), ops[j]? = some o → Op.isDefer o.op = false := fun j o ho => by
    have := Array.all_eq_true_iff_forall_mem.1 hn o (Array.mem_of_getElem? ho)
    simpa using this
  have liftA : ∀ {o : Oper} {K K' : St → Prop} {st : St}, (∀ st, K st → K' st) → AOp ro P o K (dropQ ops Q) st → AOp ro P o K' (dropQ ops Q) st := fun hk h G w a hr =>
    wpIn_mono2 (fun a' w' ⟨G', st', h1, h2, h3⟩ => ⟨G', st', h1, h2, hk _ h3⟩) (fun _ _ _ h => h) (h G w a hr)
  intro p
  induction p with
  | done =>
    intro fuel listed st
    refine ⟨fun hok h => ADr.done (by simpa [okPlan] using hok) h, fun rs f hf hok => ?_⟩
    cases fuel <;> simp [okPlan] at hok
  | stop =>
    intro fuel listed st
    refine ⟨fun hok h => ?_, fun rs f hf hok h i hi => ?_⟩
    · cases fuel <;> simp [okPlan] at hok
    · cases rs with
      | nil => cases hi
      | cons r rs => cases fuel <;> simp [okPlan] at hok
  | take i p ih =>
    intro fuel listed st
    refine ⟨fun hok h => ?_, fun rs f hf hok h => ?_⟩
    · cases fuel with
      | zero => simp [okPlan] at hok
      | succ f =>
        simp only [okPlan, Bool.and_eq_true] at hok
        obtain ⟨⟨hr, hf⟩, hp⟩ := hok
        obtain ⟨o, ho, h⟩ := aOpt_some h
        rcases dGuard_sound h with ⟨hg, hd, hk⟩ | ⟨hg, hd, hk⟩
        · refine ADr.take ho hsel hdf (Region.free_spec ho hf) (by simpa using hr) hg ?_
          obtain ⟨h1, h2, v, h3, h4⟩ := aopT_sound hd hk
          exact ⟨h1, h2, v, h3, (ih f _ _).1 hp h4⟩
        · exact ADr.pass ho hsel hdf (Region.free_spec ho hf) (by simpa using hr) hg hd ((ih f _ _).1 hp hk)
    · cases fuel <;> simp [okPlan] at hok
  | alt i p rest ihp ihr =>
    intro fuel listed st
    have step : ∀ f rs, fuel = f + 1 → (match rs with | r :: rs => r == i && okPlan ops p f (listed.setIfInBounds i true) none && okPlan ops rest (f + 1) listed (some rs) | [] => false) = true →
        adr ro P ops Q (.alt i p rest) st → ∀ i ∈ rs, ∃ o, ops[i]? = some o ∧
      (((∀ G w a, Rel G w a st → Region.wanted o (yielded ops a.tmps) = true) ∧ AOp ro P o (ADr ro P ops Q f (listed.setIfInBounds i true)) (dropQ ops Q) st) ∨
       ((∀ G w a, Rel G w a st → Region.wanted o (yielded ops a.tmps) = false) ∧ dstOk st.n o.dst ∧ ADr ro P ops Q f (listed.setIfInBounds i true) (st.put o.dst (.lit undef)))) := by
      intro f rs hf hok h
      cases rs with
      | nil => cases hok
      | cons r rs =>
        simp only [Bool.and_eq_true, beq_iff_eq] at hok
        obtain ⟨⟨rfl, hp⟩, hrest⟩ := hok
        intro j hj
        rcases List.mem_cons.1 hj with rfl | hj
        · obtain ⟨o, ho, h1⟩ := aOpt_some h.1
          refine ⟨o, ho, ?_⟩
          rcases dGuard_sound h1 with ⟨hg, hk⟩ | ⟨hg, hd, hk⟩
          · exact .inl ⟨hg, liftA (fun st h => (ihp f _ st).1 hp h) (aop_sound hk)⟩
          · exact .inr ⟨hg, hd, (ihp f _ _).1 hp hk⟩
        · subst hf
          exact (ihr (f + 1) listed st).2 rs f rfl hrest h.2 j hj
    refine ⟨fun hok h => ?_, fun rs f hf hok h => ?_⟩
    · cases fuel with
      | zero => simp [okPlan] at hok
      | succ f =>
        simp only [okPlan] at hok
        refine ADr.all (step f _ rfl hok h) (fun e => ?_)
        rw [e] at hok; cases hok
    · subst hf
      simp only [okPlan] at hok
      exact step f rs rfl hok h

theorem AWP.draw {ro : Option Nat} {P : Program} {id : Nat} {ops : Array Oper} {Q : Exit → St → Prop} {st : St} (p : DPlan) (hm : P.follows .mixedOrders = true)
    (hok : (Region.noSelect ops && noDefer ops && okPlan ops p ops.size (Array.replicate ops.size false) none) = true) (h : adr ro P ops Q p st) : AWP ro P (.region id ops true) Q st := by
  intro G w a hr
  simp only [Bool.and_eq_true] at hok
  have h1 := (adr_sound (ro := ro) (P := P) (Q := Q) hok.1.1 hok.1.2 p ops.size (Array.replicate ops.size false) st).1 hok.2 h
  refine wpIn_region_any hm (wpAnyIn_of_C (C := ImHold G) _ _ _ _ ?_)
  have hi : Inv G { w with drawn := w.drawn + 1 } st.S := hr.inv.drew _
  have he : Evol st.S G w st.S G { w with drawn := w.drawn + 1 } := ⟨Nat.le_refl _, rfl, rfl, rfl, fun _ _ _ h => h, fun _ _ _ => rfl, fun _ _ _ _ => rfl, fun _ h => .inl h⟩
  have := h1 st G w G G { w with drawn := w.drawn + 1 } a (fun _ _ _ h => h) he ⟨hr.env, hr.ds, hi⟩
  exact wpAnyC_post (fun e a' w' h => h.post) _ _ _ _ this

def aCond (v : V) (a b : Prop) : Prop :=
  match v with
  | .lit (.bool c) => if c = true then a else b
  | _ => False

def awp (pl : Nat → DPlan) (ro : Option Nat) (P : Program) : Code → (Exit → St → Prop) → St → Prop
  | .skip, Q, st => Q .normal st
  | .label _, Q, st => Q .normal st
  | .exit id, Q, st => Q (.exit id) st
  | .goto l, Q, st => Q (.goto l) st
  | .ret, Q, st => Q .ret st
  | .seq x y, Q, st => awp pl ro P x (thenQ (awp pl ro P y Q) Q) st
  | .cond c x y, Q, st => aCond (st.opnd c) (awp pl ro P x Q st) (awp pl ro P y Q st)
  | .block id c, Q, st => awp pl ro P c (blockQ id Q) st
  | .region _ ops false, Q, st => aops ro P ops Q ops.toList st
  | .region id ops true, Q, st => adr ro P ops Q (pl id) st
  | c, Q, st => AWP ro P c Q st

theorem wpIn_condV {ro : Option Nat} {P : Program} {c : Operand} {x y : Code} {Q : Exit → St → Prop} {st : St} {b : Bool} (hc : st.opnd c = .lit (.bool b)) (h : if b = true then AWP ro P x Q st else AWP ro P y Q st) : AWP ro P (.cond c x y) Q st := fun G w a hr => by
  refine wpIn_cond (hr.lit hc) ?_
  cases b with
  | true => exact (if_pos rfl ▸ h) G w a hr
  | false => exact h G w a hr

def okPlans (P : Program) (pl : Nat → DPlan) : Code → Bool
  | .seq x y => okPlans P pl x && okPlans P pl y
  | .cond _ x y => okPlans P pl x && okPlans P pl y
  | .block _ c => okPlans P pl c
  | .region id ops true => P.follows .mixedOrders && (Region.noSelect ops && noDefer ops && okPlan ops (pl id) ops.size (Array.replicate ops.size false) none)
  | _ => true

def pl0 : Nat → DPlan := fun _ => .done

theorem awp_sound (pl : Nat → DPlan) {ro : Option Nat} {P : Program} : ∀ (c : Code) (hok : okPlans P pl c = true) (Q : Exit → St → Prop) (st : St), awp pl ro P c Q st → AWP ro P c Q st
  | .skip, hok, Q, st, h => AWP.skip h
  | .label _, hok, Q, st, h => AWP.label h
  | .exit _, hok, Q, st, h => AWP.exit h
  | .goto _, hok, Q, st, h => AWP.goto h
  | .ret, hok, Q, st, h => AWP.ret h
  | .seq x y, hok, Q, st, h => AWP.seq ((awp_sound pl x (by simp only [okPlans, Bool.and_eq_true] at hok; exact hok.1) _ st h).mono fun e st' hq => by
      cases e with
      | normal => exact awp_sound pl y (by simp only [okPlans, Bool.and_eq_true] at hok; exact hok.2) Q st' hq
      | _ => exact hq)
  | .cond c x y, hok, Q, st, h => by
      unfold awp aCond at h
      split at h
      · rename_i b hc
        refine wpIn_condV hc ?_
        split at h
        · rename_i e; rw [if_pos e]; exact awp_sound pl x (by simp only [okPlans, Bool.and_eq_true] at hok; exact hok.1) Q st h
        · rename_i e; rw [if_neg e]; exact awp_sound pl y (by simp only [okPlans, Bool.and_eq_true] at hok; exact hok.2) Q st h
      · exact h.elim
  | .block id c, hok, Q, st, h => AWP.block (awp_sound pl c hok _ st h)
  | .region id ops false, hok, Q, st, h => by
      have h1 : AOps ro P ops Q ops.toList st := aops_sound ops.toList st h
      have := AWP.region (ro := ro) (P := P) (id := id) (l := ops.toList) (Q := Q) (st := st) (by simpa using h1)
      simpa using this
  | .region id ops true, hok, Q, st, h => by
      simp only [okPlans, Bool.and_eq_true] at hok
      exact AWP.draw (pl id) hok.1 (by simp only [Bool.and_eq_true]; exact hok.2) h
  | .loop c, hok, Q, st, h => h
  | .rangeFunc f ps a b, hok, Q, st, h => h
  | .scope c, hok, Q, st, h => h
  | .refuse s, hok, Q, st, h => h


end Go.AW
