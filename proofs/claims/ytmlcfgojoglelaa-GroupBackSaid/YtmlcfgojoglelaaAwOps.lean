/- The engine AW, part 3: operations. -/
import Derived.Test.YtmlcfgojoglelaaAwCode
import Derived.Tactics
import Derived.WalkKit
set_option linter.unusedVariables false
set_option linter.unusedSimpArgs false
namespace Go.AW

def AOp (ro : Option Nat) (P : Program) (o : Oper) (K : St → Prop) (Q : Exit → St → Prop) (st : St) : Prop :=
  ∀ G w a, Rel G w a st → o.wpIn (WF ro) 0 P a w (fun a' w' => ∃ G' st', Evol st.S G w st'.S G' w' ∧ Rel G' w' a' st' ∧ K st') (Post st G w Q)

section
variable {ro : Option Nat} {P : Program} {o : Oper} {K : St → Prop} {Q : Exit → St → Prop} {st : St}

def Op.isDefer : Op → Bool
  | .defer _ => true
  | _ => false

theorem AOp.value (hd : dstOk st.n o.dst) (hdf : Op.isDefer o.op = false)
    (h : ∀ G w a, Rel G w a st → ∃ x w' G' v S', (execOp a.eval o).run P w = .ok (.value x) w' ∧ Evol st.S G w S' G' w' ∧ Inv G' w' S' ∧ VRel G' v x ∧ K (St.put { st with S := S' } o.dst v)) : AOp ro P o K Q st := by
  intro G w a hr
  obtain ⟨x, w', G', v, S', hrun, he, hi, hv, hk⟩ := h G w a hr
  refine ⟨fun _ _ => trivial, ?_⟩
  rw [Oper.semAt_eq _ _ _ (fun c hc => by simp [Op.isDefer, hc] at hdf), hrun]
  exact ⟨G', _, by cases o.dst <;> exact he, hr.put he hi hd hv, hk⟩

theorem AOp.skip (hd : dstOk st.n o.dst) (hdf : Op.isDefer o.op = false)
    (h : ∀ G w a, Rel G w a st → ∃ w' G' S', (execOp a.eval o).run P w = .ok .skip w' ∧ Evol st.S G w S' G' w' ∧ Inv G' w' S' ∧ K (St.put { st with S := S' } o.dst (.lit undef))) : AOp ro P o K Q st := by
  intro G w a hr
  obtain ⟨w', G', S', hrun, he, hi, hk⟩ := h G w a hr
  refine ⟨fun _ _ => trivial, ?_⟩
  rw [Oper.semAt_eq _ _ _ (fun c hc => by simp [Op.isDefer, hc] at hdf), hrun]
  exact ⟨G', _, by cases o.dst <;> exact he, hr.put he hi hd (.lit _), hk⟩

/-- An operation that looks at its operands alone and leaves the world as it is. -/
theorem AOp.pure {v : V} (hd : dstOk st.n o.dst) (hdf : Op.isDefer o.op = false)
    (h : ∀ G w a, Rel G w a st → ∃ x, (execOp a.eval o).run P w = .ok (.value x) w ∧ VRel G v x) (hk : K (st.put o.dst v)) : AOp ro P o K Q st :=
  AOp.value hd hdf fun G w a hr =>
    let ⟨x, hx, hv⟩ := h G w a hr
    ⟨x, w, G, v, st.S, hx, .refl _ _ _, hr.inv, hv, hk⟩

def ImHold (G : Im) (w : World) : Prop := ∀ b o u, G b o = some u → w.cell? ⟨b, o, none⟩ = some u

/-- One value, whatever the world, as long as what never changes stands. -/
def AYield (P : Program) (o : Oper) (st : St) (v : V) : Prop :=
  ∀ G w a, Rel G w a st → ∃ x, (∀ w', ImHold G w' → (execOp a.eval o).run P w' = .ok (.value x) w') ∧ VRel G v x

def ATake (P : Program) (o : Oper) (K : St → Prop) (st : St) : Prop := dstOk st.n o.dst ∧ Op.isDefer o.op = false ∧ ∃ v, AYield P o st v ∧ K (st.put o.dst v)

theorem AT.pure {v : V} (hd : dstOk st.n o.dst) (hdf : Op.isDefer o.op = false)
    (h : ∀ G w a, Rel G w a st → ∃ x, (∀ w', ImHold G w' → (execOp a.eval o).run P w' = .ok (.value x) w') ∧ VRel G v x) (hk : K (st.put o.dst v)) : ATake P o K st := ⟨hd, hdf, v, h, hk⟩
theorem ATake.aop (h : ATake P o K st) : AOp ro P o K Q st :=
  let ⟨hd, hdf, v, h1, hk⟩ := h
  AOp.pure hd hdf (fun G w a hr => let ⟨x, hx, hv⟩ := h1 G w a hr; ⟨x, hx w hr.inv.im, hv⟩) hk
end

theorem St.put_S (st : St) (d : Option Nat) (v : V) : (st.put d v).S = st.S := by cases d <;> rfl
theorem St.put_n (st : St) (d : Option Nat) (v : V) : (st.put d v).n = st.n := by cases d <;> rfl

/-! ### Regions in their written order -/

def AOps (ro : Option Nat) (P : Program) (ops : Array Oper) (Q : Exit → St → Prop) : List Oper → St → Prop
  | [], st => Q .normal st
  | o :: rest, st =>
    match o.guard with
    | none => AOp ro P o (AOps ro P ops Q rest) Q st
    | some (j, want) =>
      match ((ops[j]?).bind (·.dst)) with
      | none => False
      | some d =>
        match AW.get st.env d with
        | .lit (.bool b) => if b = want then AOp ro P o (AOps ro P ops Q rest) Q st else dstOk st.n o.dst ∧ AOps ro P ops Q rest (st.put o.dst (.lit undef))
        | .lit (.tuple _) => dstOk st.n o.dst ∧ AOps ro P ops Q rest (st.put o.dst (.lit undef))
        | _ => False

theorem wpListIn_of {ro : Option Nat} {P : Program} {ops : Array Oper} {Q : Exit → St → Prop} : ∀ (l : List Oper) (st : St), AOps ro P ops Q l st →
    ∀ st0 G0 w0 G w a, Evol st0.S G0 w0 st.S G w → Rel G w a st → wpListIn (WF ro) 0 P ops (Post st0 G0 w0 Q) l a w := by
  intro l
  induction l with
  | nil => intro st h st0 G0 w0 G w a he hr; exact ⟨G, st, he, hr, h⟩
  | cons o rest ih =>
    intro st h st0 G0 w0 G w a he hr
    have run : ∀ (h : AOp ro P o (AOps ro P ops Q rest) Q st) , o.wpIn (WF ro) 0 P a w (wpListIn (WF ro) 0 P ops (Post st0 G0 w0 Q) rest) (Post st0 G0 w0 Q) := by
      intro h
      have h1 := h G w a hr
      refine ⟨h1.1, ?_⟩
      have h2 := h1.2
      generalize (o.semAt (WF ro).round a.eval).run P w = r at h2
      cases r with
      | ok nx w' =>
        cases nx with
        | value v => obtain ⟨G', st', he', hr', hk⟩ := h2; exact ih st' hk st0 G0 w0 G' w' _ (he.trans he') hr'
        | skip => obtain ⟨G', st', he', hr', hk⟩ := h2; exact ih st' hk st0 G0 w0 G' w' _ (he.trans he') hr'
        | defer d => obtain ⟨G', st', he', hr', hk⟩ := h2; exact ih st' hk st0 G0 w0 G' w' _ (he.trans he') hr'
        | enter f args =>
          refine ⟨h2.1, ⟨h2.2.1, fun cs hroom => ?_⟩⟩
          obtain ⟨e, w'', fr, hR, rest'⟩ := h2.2.2 cs hroom
          refine ⟨e, w'', fr, ?_, rest'⟩
          cases e with
          | returned v => obtain ⟨G', st', he', hr', hk⟩ := hR; exact ih st' hk st0 G0 w0 G' w'' _ (he.trans he') hr'
          | panicked chain => obtain ⟨G', st', he', hr', hk⟩ := hR; exact ⟨G', st', he.trans he', hr', hk⟩
          | outgrown => obtain ⟨a₀, w₀, G', st', he', hr', hk⟩ := hR; exact ⟨a₀, w₀, G', st', he.trans he', hr', hk⟩
        | row row args =>
          refine ⟨h2.1, fun c cs hroom => ?_⟩
          obtain ⟨v, w'', hR, rest'⟩ := h2.2 c cs hroom
          obtain ⟨G', st', he', hr', hk⟩ := hR
          exact ⟨v, w'', ih st' hk st0 G0 w0 G' w'' _ (he.trans he') hr', rest'⟩
        | round l f tmps assign body =>
          refine ⟨h2.1, ⟨h2.2.1, fun c cs hroom => ?_⟩⟩
          obtain ⟨e, w'', hR, rest'⟩ := h2.2.2 c cs hroom
          refine ⟨e, w'', ?_, rest'⟩
          cases e with
          | returned v => obtain ⟨G', st', he', hr', hk⟩ := hR; exact ih st' hk st0 G0 w0 G' w'' _ (he.trans he') hr'
          | panicked chain => obtain ⟨G', st', he', hr', hk⟩ := hR; exact ⟨G', st', he.trans he', hr', hk⟩
          | outgrown => obtain ⟨a₀, w₀, G', st', he', hr', hk⟩ := hR; exact ⟨a₀, w₀, G', st', he.trans he', hr', hk⟩
        | _ => exact h2.elim
      | halt x w' =>
        cases x with
        | panic v => obtain ⟨G', st', he', hr', hk⟩ := h2; exact ⟨G', st', he.trans he', hr', hk⟩
        | _ => exact h2.elim
    have pass : ∀ (h : dstOk st.n o.dst ∧ AOps ro P ops Q rest (st.put o.dst (.lit undef))), wpListIn (WF ro) 0 P ops (Post st0 G0 w0 Q) rest (a.put o.dst undef) w := by
      intro h
      refine ih _ h.2 st0 G0 w0 G w _ (by rw [St.put_S]; exact he) ?_
      have := hr.put (.refl _ _ _) hr.inv h.1 (.lit undef)
      exact this
    simp only [wpListIn]
    unfold AOps at h
    split at h
    · rename_i hg
      have hw : Region.wanted o (yielded ops a.tmps) = true := by simp [Region.wanted, hg]
      rw [if_pos hw]; exact run h
    · rename_i j want hg
      split at h
      · exact h.elim
      · rename_i d hd
        have hy : yielded ops a.tmps j = match a.tmps[d]? with | some (.bool b) => some b | _ => none := by simp [yielded, hd]; rfl
        have hrel := hr.env.2 d
        split at h
        · rename_i b hb
          rw [hb] at hrel
          have hx := hrel.lit_inv
          have hy' : yielded ops a.tmps j = some b := by
            rw [hy]
            cases hdt : a.tmps[d]? with
            | none => simp [hdt, undef] at hx
            | some u => simp [hdt] at hx; subst hx; rfl
          split at h
          · rename_i hbw
            have hw : Region.wanted o (yielded ops a.tmps) = true := by simp [Region.wanted, hg, hy', hbw]
            rw [if_pos hw]; exact run h
          · rename_i hbw
            have hw : ¬ Region.wanted o (yielded ops a.tmps) = true := by simp [Region.wanted, hg, hy', hbw]
            rw [if_neg hw]; exact ⟨fun _ _ => trivial, pass h⟩
        · rename_i t hb
          rw [hb] at hrel
          have hx := hrel.lit_inv
          have hy' : yielded ops a.tmps j = none := by
            rw [hy]
            cases hdt : a.tmps[d]? with
            | none => rfl
            | some u => simp [hdt] at hx; subst hx; rfl
          have hw : ¬ Region.wanted o (yielded ops a.tmps) = true := by simp [Region.wanted, hg, hy']
          rw [if_neg hw]; exact ⟨fun _ _ => trivial, pass h⟩
        · exact h.elim

theorem AWP.region {ro : Option Nat} {P : Program} {id : Nat} {l : List Oper} {Q : Exit → St → Prop} {st : St} (h : AOps ro P l.toArray Q l st) : AWP ro P (.region id l.toArray false) Q st :=
  fun G w a hr => wpIn_region_lit (wpListIn_of l st h st G w G w a (.refl _ _ _) hr)

end Go.AW
