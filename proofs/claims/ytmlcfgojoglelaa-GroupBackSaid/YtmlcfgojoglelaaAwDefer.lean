/- The engine AW, part 15: deferred calls that recover. -/
import Derived.Test.YtmlcfgojoglelaaAwDraw
import Derived.RecoverIn
set_option linter.unusedVariables false
set_option linter.unusedSimpArgs false
namespace Go.AW

/-- The deferred call of g, of what it captured, in this mode of the frame below: it returns. -/
def AClose (P : Program) (g : FuncId) (cap : List Value) (u : FrameMode) (S : List Res) (K : FrameMode → List Res → Prop) : Prop :=
  ∀ G w, Inv G w S → CallsDIn Fence.wide 0 P g cap.toArray u w (fun e u' w' => ∃ v G' S', e = .returned v ∧ Evol S G w S' G' w' ∧ Inv G' w' S' ∧ K u' S')

def retDefer (P : Program) (fn : Func) (Q : Out → List Res → Prop) (st : St) (u : FrameMode) : List Deferred → Prop
  | [⟨.fn (.func g) cap, args⟩] => args = #[] ∧ goesB P g = true ∧ AClose P g cap.toList u st.S fun u' S' =>
      settle u' = .returning ∧ optDone P fn { st with S := S', ds := [] } Q (resOf P fn { st with S := S', ds := [] })
  | _ => False

/-- What the body of a function has to come to, that has one deferred call, which recovers. -/
def retD (P : Program) (fn : Func) (Q : Out → List Res → Prop) : Exit → St → Prop
  | .normal, st => retDefer P fn Q st .returning st.ds
  | .ret, st => retDefer P fn Q st .returning st.ds
  | .panic [x], st => x.recovered = false ∧ x.goexit = false ∧ retDefer P fn Q st (.panicking [⟨x.v, false, false⟩]) st.ds
  | _, _ => False

theorem run_invoke {P : Program} {g : FuncId} (hg : goesB P g = true) (cap : Array Value) {w : World} : (invoke (.fn (.func g) cap) #[]).run P w = .ok (.enter g cap) w := by
  show (callFunc g (#[] ++ cap)).run P w = _
  rw [run_goes hg]; simp

theorem acall_of_awpD {P : Program} {f : FuncId} {fn : Func} {c : Code} {args : List V} {S : List Res} {Q : Out → List Res → Prop} (hf : P.funcs[f]? = some fn) (hb : fn.body = some c)
    (hn : args.length ≤ fn.ntmps) (h : AWP none P c (retD P fn Q) ⟨fn.ntmps, params 0 args, S, []⟩) : ACall P f args S Q := by
  intro G w xs hv hi
  refine callsIn_wide.1 (callsIn_of_wp_defers (F := Fence.wide) (n := 0) hf hb trivial ?_)
  refine wpIn_mono (h G w _ (enter_rel hv hi hn)) fun e a' w' ⟨G', st', he, hr', hq⟩ => ?_
  have fin : ∀ u, u ≠ .run → retDefer P fn Q st' u st'.ds → LeavesIn Fence.wide 0 P fn a'.tmps (CPost S G w Q) a'.defers u w' := by
    intro u hu hd
    rw [hr'.ds]
    cases hds : st'.ds with
    | nil => rw [hds] at hd; exact hd.elim
    | cons d0 dr =>
    rw [hds] at hd
    unfold retDefer at hd
    split at hd
    · rename_i g cap dargs heq
      obtain ⟨rfl, hg, hc⟩ := hd
      rw [heq]
      have hc' := hc G' w' hr'.inv
      rw [Array.toArray_toList] at hc'
      refine leavesIn_cons (F := Fence.wide) (n := 0) (f := g) (args := cap) hu (fun h => absurd h (by decide)) (run_invoke hg cap) (fun _ _ => trivial) ?_
      refine hc'.mono ?_
      rintro e u' w'' ⟨v, G'', S', rfl, he', hi', hset, hdone⟩
      show LeavesIn Fence.wide 0 P fn a'.tmps (CPost S G w Q) [] (settle u') w''
      rw [hset]
      cases hres : resOf P fn { st' with S := S', ds := [] } with
      | none => rw [hres] at hdone; exact hdone.elim
      | some rv =>
        rw [hres] at hdone
        obtain ⟨v', S'', hvl, hle, hQ⟩ := hdone
        have hr'' : Rel G'' w'' { a' with defers := [] } { st' with S := S', ds := [] } := ⟨hr'.env.mono he'.im, rfl, hi'⟩
        obtain ⟨y, hy, hrel⟩ := resOf_run hr'' hres
        obtain ⟨G3, he3, hi3⟩ := hle G'' w'' hi'
        exact ⟨y, hy, G3, S'', .ret v', (he.trans he').trans he3, hi3, .ret ((hvl G'' w'' y hi' (VLe.fz _ _ G'' w'' y hi' hrel)).mono he3.im), hQ⟩
    · exact hd.elim
  cases e with
  | normal => exact fin _ (by simp) hq
  | ret => exact fin _ (by simp) hq
  | panic ch =>
    match ch, hq with
    | [x], hq =>
      obtain ⟨h1, h2, hd⟩ := hq
      have : x = ⟨x.v, false, false⟩ := by cases x; simp_all
      rw [this]
      exact fin _ (by simp) hd
  | exit id => exact hq.elim
  | goto l => exact hq.elim
  | outgrown => exact hq.elim

/-! ### The closure that recovers -/

def closeQ (P : Program) (fn : Func) (K : List Res → Prop) : Exit → St → Prop
  | .normal, st => st.ds = [] ∧ (resOf P fn st).isSome = true ∧ K st.S
  | .ret, st => st.ds = [] ∧ (resOf P fn st).isSome = true ∧ K st.S
  | _, _ => False

/-- What recover tells, and the mode that it leaves. -/
inductive Recs : FrameMode → Value → FrameMode → Prop
  | none : Recs .returning .nilIface .returning
  | some (v : Value) : Recs (.panicking [⟨v, false, false⟩]) v (.panicking [⟨v, true, false⟩])

theorem Recs.settle {u u' : FrameMode} {r : Value} (h : Recs u r u') : settle u' = .returning := by
  cases h <;> rfl

theorem aclose_of {P : Program} {g : FuncId} {fn : Func} {rest : Code} {id t t' : Nat} {ty1 ty2 : TypeId} {p1 p2 : String} {af1 af2 : Array Edge} {cap : List Value} {u u' : FrameMode} {r : Value} {S : List Res} {K : FrameMode → List Res → Prop}
    (hf : P.funcs[g]? = some fn)
    (hb : fn.body = some (.seq (.region id #[⟨some t, .call ⟨.builtin .recover, #[], #[]⟩, ty1, p1, af1, none⟩, ⟨some t', .assign (.tmp t), ty2, p2, af2, none⟩] false) rest))
    (hn : cap.length ≤ fn.ntmps) (ht : t < fn.ntmps) (ht' : t' < fn.ntmps) (hu : Recs u r u')
    (h : AWP none P rest (closeQ P fn (K u')) ⟨fn.ntmps, (t', .lit r) :: (t, .lit r) :: params 0 (cap.map .lit), S, []⟩) : AClose P g cap u S K := by
  intro G w hi
  refine callsDIn_of_wpSIn hf hb trivial fun c₀ cs hmode => ?_
  refine wpSIn_seq (wpSIn_region ?_)
  have hr0 := enter_rel (G := G) (w := w) (S := S) (args := cap.map .lit) (xs := cap) (VRels.lits G cap) hi (n := fn.ntmps) (by simpa using hn)
  have hr2 := (hr0.put (dst := some t) (.refl _ _ _) hr0.inv ht (VRel.lit r)).put (dst := some t') (.refl _ _ _) hr0.inv ht' (VRel.lit r)
  have last : (Exit.thenS (rest.wpSIn Fence.wide 0 P (bodyPostS P fn c₀ cs fun e u' w' => ∃ v G' S', e = .returned v ∧ Evol S G w S' G' w' ∧ Inv G' w' S' ∧ K u' S')) (bodyPostS P fn c₀ cs fun e u' w' => ∃ v G' S', e = .returned v ∧ Evol S G w S' G' w' ∧ Inv G' w' S' ∧ K u' S')) .normal
      ((({ tmps := cap.toArray ++ Array.replicate (fn.ntmps - cap.toArray.size) undef, defers := [] } : Act).put (some t) r).put (some t') r) ({ c₀ with mode := u' } :: cs) w := by
    refine wpSIn_of_wpIn (F := Fence.wide) rfl (wpIn_mono (h G w _ hr2) fun e a' w' ⟨G', st', he, hr', hq⟩ => ?_)
    have fin : (st'.ds = [] ∧ (resOf P fn st').isSome = true ∧ K u' st'.S) → a'.defers = [] ∧ ∃ u'', ({ c₀ with mode := u' } :: cs : List Frame) = { c₀ with mode := u'' } :: cs ∧ ∃ v, (results fn a'.tmps).run P w' = .ok v w' ∧
        (∃ v' G' S', Ending.returned v = .returned v' ∧ Evol S G w S' G' w' ∧ Inv G' w' S' ∧ K u'' S') := by
      rintro ⟨h1, h2, h3⟩
      obtain ⟨rv, hrv⟩ := Option.isSome_iff_exists.1 h2
      obtain ⟨y, hy, hrel⟩ := resOf_run hr' hrv
      exact ⟨hr'.ds.trans h1, u', rfl, y, hy, y, G', st'.S, rfl, he, hr'.inv, h3⟩
    cases e with
    | normal => exact fin hq
    | ret => exact fin hq
    | _ => exact hq.elim
  have hput : ∀ (a : Act) (v : Value), t < a.tmps.size → (a.put (some t) v).eval (.tmp t) = v := fun a v h => by simp [Act.put, Act.eval, h]
  have hsz : t < ({ tmps := cap.toArray ++ Array.replicate (fn.ntmps - cap.toArray.size) undef, defers := [] } : Act).tmps.size := by simp; omega
  have hrec : ∀ (a : Act), (execOp a.eval ⟨some t, .call ⟨.builtin .recover, #[], #[]⟩, ty1, p1, af1, none⟩).run P w = .ok .recover w := fun a => by
    simp [execOp, resolve, invoke, builtin]
  have hasg : ∀ (a : Act), (execOp a.eval ⟨some t', .assign (.tmp t), ty2, p2, af2, none⟩).run P w = .ok (.value (a.eval (.tmp t))) w := fun a => by
    simp [execOp]
  show wpOpsSIn _ _ _ _ _ [0, 1] _ _ _
  cases hu with
  | none =>
    have hc : ({ c₀ with mode := .returning } : Frame) = c₀ := by cases c₀; simp at hmode; subst hmode; rfl
    rw [hc] at last
    simp only [wpOpsSIn, List.getElem?_toArray, List.getElem?_cons_zero, List.getElem?_cons_succ, Region.wanted, if_true, hrec, hasg, recoverD, hmode]
    rw [hput _ _ hsz]
    exact ⟨fun _ _ => trivial, fun _ _ => trivial, last⟩
  | some v =>
    simp only [wpOpsSIn, List.getElem?_toArray, List.getElem?_cons_zero, List.getElem?_cons_succ, Region.wanted, if_true, hrec, hasg, recoverD, hmode]
    rw [hput _ _ hsz]
    exact ⟨fun _ _ => trivial, fun _ _ => trivial, last⟩

end Go.AW
