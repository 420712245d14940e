/- The engine AW, part 16: ranges over functions. -/
import Derived.Test.YtmlcfgojoglelaaAwDefer
import Derived.RangeFuncRecord
import Derived.RangeFuncLeaves
set_option linter.unusedVariables false
set_option linter.unusedSimpArgs false
namespace Go.AW

/-! ### The loop's record among the resources -/

structure Lp where
  n : Nat
  env : List (Nat × V)
  st : LoopState
  pend : Option Code
  ps : Array Tmp
  assign : Code
  body : Code
  db : Nat

def Lp.res (l : Nat) (L : Lp) : Res := .lp l L.n L.env L.st L.pend L.ps L.assign L.body L.db

def findLp (l : Nat) : List Res → Option Lp
  | [] => none
  | .lp b n env st pend ps assign body db :: S => if b = l then some ⟨n, env, st, pend, ps, assign, body, db⟩ else findLp l S
  | _ :: S => findLp l S
def setLp (l : Nat) (st : LoopState) (pend : Option Code) : List Res → List Res
  | [] => []
  | .lp b n env st0 pend0 ps assign body db :: S => if b = l then .lp b n env st pend ps assign body db :: S else .lp b n env st0 pend0 ps assign body db :: setLp l st pend S
  | r :: S => r :: setLp l st pend S
def dropLp (l : Nat) : List Res → List Res
  | [] => []
  | .lp b n env st0 pend0 ps assign body db :: S => if b = l then S else .lp b n env st0 pend0 ps assign body db :: dropLp l S
  | r :: S => r :: dropLp l S

theorem findLp_split {l : Nat} {L : Lp} : ∀ {S : List Res}, findLp l S = some L → ∃ A B, S = A ++ L.res l :: B ∧ (∀ st p, setLp l st p S = A ++ ({ L with st := st, pend := p } : Lp).res l :: B) ∧ dropLp l S = A ++ B
  | [], h => by simp [findLp] at h
  | r :: S, h => by
    have tail : (∀ b n env st pend ps assign body db, r = .lp b n env st pend ps assign body db → b ≠ l) → findLp l S = some L →
        ∃ A B, r :: S = A ++ L.res l :: B ∧ (∀ st p, setLp l st p (r :: S) = A ++ ({ L with st := st, pend := p } : Lp).res l :: B) ∧ dropLp l (r :: S) = A ++ B := fun hr hf => by
      obtain ⟨A, B, h1, h2, h3⟩ := findLp_split hf
      refine ⟨r :: A, B, by rw [h1]; rfl, fun st p => ?_, ?_⟩
      · cases r with
        | lp b n env st0 pend ps assign body db => simp only [setLp]; rw [if_neg (hr _ _ _ _ _ _ _ _ _ rfl), h2]; rfl
        | _ => simp only [setLp]; rw [h2]; rfl
      · cases r with
        | lp b n env st0 pend ps assign body db => simp only [dropLp]; rw [if_neg (hr _ _ _ _ _ _ _ _ _ rfl), h3]; rfl
        | _ => simp only [dropLp]; rw [h3]; rfl
    cases r with
    | lp b n env st pend ps assign body db =>
      simp only [findLp] at h
      split at h
      · rename_i e
        cases h
        subst e
        exact ⟨[], S, rfl, fun st p => by simp [setLp, Lp.res], by simp [dropLp]⟩
      · rename_i e; exact tail (fun _ _ _ _ _ _ _ _ _ e' => by cases e'; exact e) h
    | objT => exact tail (fun _ _ _ _ _ _ _ _ _ e => by cases e) (by simpa [findLp] using h)
    | vec => exact tail (fun _ _ _ _ _ _ _ _ _ e => by cases e) (by simpa [findLp] using h)
    | raw => exact tail (fun _ _ _ _ _ _ _ _ _ e => by cases e) (by simpa [findLp] using h)

theorem blks_mid (A B : List Res) (r : Res) : blks (A ++ r :: B) = blks A ++ (r.blk.toList ++ blks B) := by
  simp only [blks, List.filterMap_append, List.filterMap_cons]
  cases r.blk <;> simp

/-- One block of one's own is turned, of which none of the cells that never change is one. -/
theorem Inv.put {G : Im} {w : World} {A B : List Res} {r r' : Res} {l : Nat} {o : Obj} (h : Inv G w (A ++ r :: B)) (hb : r.blk = some l) (hb' : r'.blk = some l) (hG : ∀ i, G l i = none) (hh : r'.holds G (w.putObj l o)) :
    Evol (A ++ r :: B) G w (A ++ r' :: B) G (w.putObj l o) ∧ Inv G (w.putObj l o) (A ++ r' :: B) := by
  have hbl : blks (A ++ r' :: B) = blks (A ++ r :: B) := by rw [blks_mid, blks_mid, hb, hb']
  have hl : l ∈ blks (A ++ r :: B) := mem_blks.2 ⟨r, by simp, hb⟩
  refine ⟨⟨by simp, rfl, rfl, rfl, Im.le_refl _, fun b _ hn => World.putObj_heap_other (fun e => hn (e ▸ hl)), fun _ _ _ _ => rfl, fun b hb => .inl (hbl ▸ hb)⟩, ?_, ?_, hbl ▸ h.nd⟩
  · intro b o' u hu
    have := h.im b o' u hu
    have hne : b ≠ l := fun e => by subst e; rw [hG] at hu; cases hu
    simp only [World.cell?] at this ⊢
    rw [World.putObj_heap_other hne]; exact this
  · intro x hx
    have hnd := h.nd
    rw [blks_mid, hb] at hnd
    have hx' : x = r' ∨ (x ∈ A ++ r :: B ∧ x.blk ≠ some l) := by
      rcases List.mem_append.1 hx with hx | hx
      · refine .inr ⟨by simp [hx], fun e => ?_⟩
        have h1 : l ∈ blks A := mem_blks.2 ⟨x, hx, e⟩
        exact (List.nodup_append.1 hnd).2.2 l h1 l (by simp) rfl
      · rcases List.mem_cons.1 hx with rfl | hx
        · exact .inl rfl
        · refine .inr ⟨by simp [hx], fun e => ?_⟩
          have h1 : l ∈ blks B := mem_blks.2 ⟨x, hx, e⟩
          have h2 := (List.nodup_append.1 hnd).2.1
          simp at h2
          exact h2.1 h1
    rcases hx' with rfl | ⟨hx', hne⟩
    · exact hh
    · exact Res.holds_of (h.res x hx') (Im.le_refl _) fun b hb => ⟨World.putObj_heap_other (fun e => hne (e ▸ hb)), fun _ => rfl⟩

theorem Inv.lp {G : Im} {w : World} {S : List Res} {l : Nat} {L : Lp} (h : Inv G w S) (hf : findLp l S = some L) :
    ∃ fn tmps, w.heap[l]? = some (.loop { state := L.st, pending := L.pend, fn, tmps, params := L.ps, assign := L.assign, body := L.body, defers := L.db }) ∧ EnvRel G L.n L.env tmps ∧ ∀ i, G l i = none := by
  obtain ⟨A, B, hs, _⟩ := findLp_split hf
  exact h.res (L.res l) (by rw [hs]; simp)

theorem Inv.setLp {G : Im} {w : World} {S : List Res} {l : Nat} {L : Lp} (h : Inv G w S) (hf : findLp l S = some L) (st : LoopState) (p : Option Code) {fn : FuncId} {tmps : Array Value}
    (hh : w.heap[l]? = some (.loop { state := L.st, pending := L.pend, fn, tmps, params := L.ps, assign := L.assign, body := L.body, defers := L.db })) (he : EnvRel G L.n L.env tmps) (hG : ∀ i, G l i = none) :
    let w' := w.putObj l (.loop { state := st, pending := p, fn, tmps, params := L.ps, assign := L.assign, body := L.body, defers := L.db })
    Evol S G w (setLp l st p S) G w' ∧ Inv G w' (setLp l st p S) := by
  obtain ⟨A, B, hs, hset, _⟩ := findLp_split hf
  rw [hset]
  subst hs
  exact h.put rfl rfl hG ⟨fn, tmps, World.putObj_heap_same (Array.getElem?_eq_some_iff.1 hh).1, he, hG⟩

/-! ### yield -/

/-- A round of the loop l, of these arguments: it hands back a Bool. -/
def ARound (P : Program) (l : Nat) (args : List V) (S : List Res) (R : Bool → List Res → Prop) : Prop :=
  ∀ (ro : Option Nat) G w xs, VRels G args xs → Inv G w S → ∃ r : Loop, w.heap[l]? = some (.loop r) ∧ xs.toArray.size = r.params.size ∧
    RoundIn (WF ro) 0 P l r.fn ((r.params.zip xs.toArray).foldl (fun t (p, v) => t.setIfInBounds p v) r.tmps) r.assign r.body w
      (fun e w' => ∃ b G' S', e = .returned (.bool b) ∧ Evol S G w S' G' w' ∧ Inv G' w' S' ∧ R b S')

theorem ARound.mono {P : Program} {l : Nat} {args : List V} {S : List Res} {R R' : Bool → List Res → Prop} (h : ARound P l args S R) (hr : ∀ b S', R b S' → R' b S') : ARound P l args S R' := fun ro G w xs hv hi => by
  obtain ⟨r, h1, h2, h3⟩ := h ro G w xs hv hi
  exact ⟨r, h1, h2, h3.mono fun e w' ⟨b, G', S', h4, h5, h6, h7⟩ => ⟨b, G', S', h4, h5, h6, hr _ _ h7⟩⟩

section
variable {ro : Option Nat} {P : Program} {o : Oper} {K : St → Prop} {Q : Exit → St → Prop} {st : St}

theorem AOp.yield {f : Operand} {args : Array Operand} {tys : Array TypeId} {l : Nat} (hop : o.op = .call ⟨.value f, args, tys⟩) (hd : dstOk st.n o.dst) (hf : st.opnd f = .lit (.func (.yield l) #[] #[]))
    (hk : ARound P l (args.toList.map fun x => fz st.S (st.opnd x)) st.S fun b S' => K (St.put { st with S := S' } o.dst (.lit (.bool b)))) : AOp ro P o K Q st := by
  intro G w a hr
  refine ⟨fun _ _ => trivial, ?_⟩
  rw [Oper.semAt_eq _ _ _ (fun c hc => by rw [hop] at hc; cases hc)]
  have hv := hr.opnd f
  rw [hf] at hv
  have hv := hv.lit_inv
  have hargs : VRels G (args.toList.map fun x => fz st.S (st.opnd x)) (args.toList.map a.eval) := by
    have h1 := hr.opnds args.toList
    have h2 := (VsLe.map (VLe.fz st.S) (args.toList.map st.opnd)) G w _ hr.inv h1
    rw [List.map_map] at h2; exact h2
  obtain ⟨r, h1, h2, h3⟩ := hk ro G w _ hargs hr.inv
  have e : (args.map a.eval) = (args.toList.map a.eval).toArray := by apply Array.ext'; simp
  have hrun : (execOp a.eval o).run P w = .ok (.round l r.fn ((r.params.zip (args.toList.map a.eval).toArray).foldl (fun t (p, v) => t.setIfInBounds p v) r.tmps) r.assign r.body) w := by
    simp only [execOp, hop, resolve, hv, Deferred.ofValue, Sem.run_bind, Sem.run_pure, Result.andThen_ok, invoke]
    rw [e]
    have := run_yield (P := P) (w := w) (args := #[] ++ (args.toList.map a.eval).toArray) h1 (by simpa using h2)
    rw [this]; simp
  rw [hrun, Oper.uponIn_round]
  refine ⟨(fun h => by cases h), h3.mono ?_⟩
  rintro e w' ⟨b, G', S', rfl, he, hi, hk⟩
  exact ⟨G', _, by rw [St.put_S]; exact he, hr.put he hi hd (.lit _), hk⟩
end

/-- What a round's body has to come to. -/
def roundA (l : Nat) (R : Bool → List Res → Prop) : Exit → St → Prop
  | .normal, st => ∃ L, findLp l st.S = some L ∧ R true (setLp l .ready none st.S)
  | .ret, st => ∃ L, findLp l st.S = some L ∧ R false (setLp l .done (some .ret) st.S)
  | .exit id, st => ∃ L, findLp l st.S = some L ∧ R false (setLp l .done (some (.exit id)) st.S)
  | .goto t, st => ∃ L, findLp l st.S = some L ∧ R false (setLp l .done (some (.goto t)) st.S)
  | _, _ => False

def assignEnv : List (Nat × V) → List Nat → List V → List (Nat × V)
  | env, p :: ps, v :: vs => assignEnv ((p, v) :: env) ps vs
  | env, _, _ => env

theorem assignEnv_rel {G : Im} {n : Nat} : ∀ (ps : List Nat) (vs : List V) (xs : List Value) (env : List (Nat × V)) (tmps : Array Value), ps.all (· < n) = true → VRels G vs xs → EnvRel G n env tmps →
    EnvRel G n (assignEnv env ps vs) ((ps.zip xs).foldl (fun t (p, v) => t.setIfInBounds p v) tmps)
  | [], vs, xs, env, tmps, _, _, h => by simpa [assignEnv] using h
  | p :: ps, [], xs, env, tmps, _, hv, h => by rw [hv.nil_inv]; simpa [assignEnv] using h
  | p :: ps, v :: vs, xs, env, tmps, hp, hv, h => by
    obtain ⟨x, xs', rfl, h1, h2⟩ := hv.cons_inv
    simp only [List.all_cons, Bool.and_eq_true, decide_eq_true_eq] at hp
    simp only [assignEnv, List.zip_cons_cons, List.foldl_cons]
    exact assignEnv_rel ps vs xs' _ _ hp.2 h2 (h.put hp.1 h1)

/-- The round from the walk of the loop's body. -/
theorem ARound.of_body {P : Program} {l : Nat} {args : List V} {S : List Res} {R : Bool → List Res → Prop} {L : Lp} (hf : findLp l S = some L) (hn : args.length = L.ps.size) (hp : L.ps.toList.all (· < L.n) = true)
    (h : AWP (some l) P L.assign (fun e st1 => e = .normal ∧ ∃ L1, findLp l st1.S = some L1 ∧ L1.st = .ready ∧ AWP (some l) P L.body (roundA l R) { st1 with S := setLp l .busy L1.pend st1.S }) ⟨L.n, assignEnv L.env L.ps.toList args, S, []⟩) :
    ARound P l args S R := by
  intro ro G w xs hv hi
  obtain ⟨fn, tmps, hheap, henv, hG⟩ := hi.lp hf
  refine ⟨_, hheap, by simpa [hv.1] using hn, ?_⟩
  refine roundIn_of_wpIn (F := WF ro) trivial ?_
  show L.assign.wpIn (WF (some l)) 0 P _ _ w
  have hr : Rel G w { tmps := (L.ps.zip xs.toArray).foldl (fun t (p, v) => t.setIfInBounds p v) tmps, defers := [] } ⟨L.n, assignEnv L.env L.ps.toList args, S, []⟩ := by
    refine ⟨?_, rfl, hi⟩
    have := assignEnv_rel L.ps.toList args xs L.env tmps hp hv henv
    have e : (L.ps.zip xs.toArray).foldl (fun t (p, v) => t.setIfInBounds p v) tmps = (L.ps.toList.zip xs).foldl (fun t (p, v) => t.setIfInBounds p v) tmps := by
      rw [← Array.foldl_toList]; simp
    rw [e]; exact this
  refine wpIn_mono (h G w _ hr) ?_
  rintro e a1 w1 ⟨G1, st1, he1, hr1, rfl, L1, hf1, hst1, hb⟩
  obtain ⟨fn1, tmps1, hheap1, henv1, hG1⟩ := hr1.inv.lp hf1
  obtain ⟨he2, hi2⟩ := hr1.inv.setLp hf1 .busy L1.pend hheap1 henv1 hG1
  refine ⟨_, run_beginRound hheap1 hst1, ?_⟩
  refine wpIn_mono (hb G1 _ a1 ⟨hr1.env, hr1.ds, hi2⟩) ?_
  rintro e a2 w2 ⟨G2, st2, he3, hr2, hq⟩
  have fin : ∀ (j : Option Code) (s : LoopState), s = (if j.isNone then .ready else .done) → (∃ L, findLp l st2.S = some L ∧ R j.isNone (setLp l s j st2.S)) →
      ∃ v w', (Instr.endRound l j).run P w2 = .ok v w' ∧ ∃ b G' S', Ending.returned v = .returned (.bool b) ∧ Evol S G w S' G' w' ∧ Inv G' w' S' ∧ R b S' := by
    rintro j s rfl ⟨L2, hf2, hR⟩
    obtain ⟨fn2, tmps2, hheap2, henv2, hG2⟩ := hr2.inv.lp hf2
    obtain ⟨he4, hi4⟩ := hr2.inv.setLp hf2 (if j.isNone then .ready else .done) j hheap2 henv2 hG2
    exact ⟨_, _, run_endRound j hheap2, j.isNone, G2, _, rfl, ((he1.trans he2).trans he3).trans he4, hi4, hR⟩
  cases e with
  | normal => exact fin none _ rfl hq
  | ret => exact fin (some .ret) _ rfl hq
  | exit id => exact fin (some (.exit id)) _ rfl hq
  | goto t => exact fin (some (.goto t)) _ rfl hq
  | panic c => exact hq.elim
  | outgrown => exact hq.elim

/-! ### The statement -/

/-- Behind the function that was ranged over. -/
def rangeQ (ro : Option Nat) (P : Program) (l : Nat) (st : St) (Q : Exit → St → Prop) : Out → List Res → Prop
  | .ret _, S2 => ∃ L, findLp l S2 = some L ∧ L.st ≠ .busy ∧
      (match L.pend with
       | none => Q .normal { st with S := dropLp l S2 }
       | some c => AWP ro P c Q { st with S := dropLp l S2 })
  | .panic x, S2 => Q (.panic [⟨x, false, false⟩]) { st with S := S2 }

theorem Inv.alloc_lp {G : Im} {w : World} {S : List Res} (h : Inv G w S) {fn : FuncId} {tmps : Array Value} {L : Lp} (he : EnvRel G L.n L.env tmps) :
    let w' := w.alloc (.loop { state := L.st, pending := L.pend, fn, tmps, params := L.ps, assign := L.assign, body := L.body, defers := L.db })
    Evol S G w (L.res w.heap.size :: S) G w' ∧ Inv G w' (L.res w.heap.size :: S) := by
  obtain ⟨he', hi⟩ := h.alloc0 (.loop { state := L.st, pending := L.pend, fn, tmps, params := L.ps, assign := L.assign, body := L.body, defers := L.db })
  refine ⟨he'.cons fun b hb => ?_, hi.cons ⟨fn, tmps, World.heap_alloc_eq, he, fun i => h.G_new (Nat.le_refl _) i⟩ fun b hb hb' => ?_⟩
  · simp [Lp.res, Res.blk] at hb; exact .inr (by omega)
  · simp [Lp.res, Res.blk] at hb; have := h.lt hb'; omega

theorem AWP.rangeFunc {P : Program} {Q : Exit → St → Prop} {st : St} {g : Operand} {ps : Array Tmp} {assign body : Code} {f : FuncId} {first captured : List V}
    (hf : calleeOf (st.opnd g) = some (f, first, captured)) (hg : goesB P f = true)
    (h : ∀ db l, Fresh db st.S → Fresh l st.S → db ≠ l → ACall P f (first ++ [.lit (.func (.yield l) #[] #[])] ++ captured) (.lp l st.n st.env .ready none ps assign body db :: .raw db (.deferred (some [])) :: st.S)
      (rangeQ none P l ⟨st.n, st.env, [], ⟨.collected db, #[]⟩ :: st.ds⟩ Q)) : AWP none P (.rangeFunc g ps assign body) Q st := by
  intro G w a hr
  refine wpIn_rangeFunc fun fn _ => ?_
  obtain ⟨f', c', hfx, hf1, hc1⟩ := calleeOf_rel (hr.opnd g) hf
  obtain ⟨he1, hi1⟩ := hr.inv.alloc_raw (o := .deferred (some [])) rfl
  obtain ⟨he2, hi2⟩ := hi1.alloc_lp (fn := fn) (L := ⟨st.n, st.env, .ready, none, ps, assign, body, w.heap.size⟩) hr.env
  have hs : (w.alloc (.deferred (some []))).heap.size = w.heap.size + 1 := by simp
  rw [hs] at he2 hi2
  have hcall := h w.heap.size (w.heap.size + 1) (fun hb => by have := hr.inv.lt hb; omega) (fun hb => by have := hr.inv.lt hb; omega) (by omega) G _ (f' ++ [Value.func (.yield (w.heap.size + 1)) #[] #[]] ++ c')
    ((hf1.append (.cons (.lit _) .nil)).append hc1) hi2
  have hres : ∀ w2, (resolve a.eval (rangeCall g (w.heap.size + 1)) 0).run P w2 = .ok ⟨.fn (.func f) c'.toArray, f'.toArray ++ #[Value.func (.yield (w.heap.size + 1)) #[] #[]]⟩ w2 := fun w2 => by
    simp only [rangeCall, resolve, hfx, Deferred.ofValue, Sem.run_pure]
    simp [Act.eval]
  have hinv : ∀ w2, (invoke (.fn (.func f) c'.toArray) (f'.toArray ++ #[Value.func (.yield (w.heap.size + 1)) #[] #[]])).run P w2 = .ok (.enter f (f' ++ [Value.func (.yield (w.heap.size + 1)) #[] #[]] ++ c').toArray) w2 := fun w2 => by
    simp only [invoke, run_goes hg]
    congr 2
    apply Array.ext'; simp
  refine ⟨w.heap.size + 1, [⟨.collected w.heap.size, #[]⟩], _, _, _, f, _, _, run_enterLoop_outer fn a.tmps ps assign body, hres _, fun _ _ => trivial, hinv _, (fun h => by cases h), ?_⟩
  · refine callsIn_wide.2 (hcall.mono ?_)
    rintro e w' ⟨G', S', out, he, hi, her, hq⟩
    have he3 := (he1.trans he2).trans he
    cases her with
    | ret hv =>
      obtain ⟨L, hf, hb, hq⟩ := hq
      obtain ⟨fn1, tmps1, hheap1, henv1, hG1⟩ := hi.lp hf
      obtain ⟨he4, hi4⟩ := hi.setLp hf .exhausted L.pend hheap1 henv1 hG1
      obtain ⟨A, B, hS, hset, hdrop⟩ := findLp_split hf
      rw [hset] at he4 hi4
      obtain ⟨hi5, he5⟩ := hi4.sub (S' := dropLp (w.heap.size + 1) S') (by rw [hdrop]; exact List.Sublist.append (List.Sublist.refl A) (List.sublist_cons_self _ _))
      have he6 := (he3.trans he4).trans he5
      refine ⟨L.pend, _, run_endLoop hheap1 hb, ?_⟩
      have hr' : Rel G' (w'.putObj (w.heap.size + 1) (.loop { state := .exhausted, pending := L.pend, fn := fn1, tmps := tmps1, params := L.ps, assign := L.assign, body := L.body, defers := L.db })) { a with defers := [⟨.collected w.heap.size, #[]⟩] ++ a.defers } ⟨st.n, st.env, dropLp (w.heap.size + 1) S', ⟨.collected w.heap.size, #[]⟩ :: st.ds⟩ :=
        ⟨hr.env.mono he3.im, by simp [hr.ds], hi5⟩
      cases hp : L.pend with
      | none => rw [hp] at hq hr' he6; exact ⟨G', _, he6, hr', hq⟩
      | some c =>
        rw [hp] at hq hr' he6
        exact wpIn_mono (hq G' _ _ hr') fun e2 a2 w2 ⟨G2, st2, h1, h2, h3⟩ => ⟨G2, st2, he6.trans h1, h2, h3⟩
    | panic v =>
      exact ⟨G', ⟨st.n, st.env, S', ⟨.collected w.heap.size, #[]⟩ :: st.ds⟩, he3, ⟨hr.env.mono he3.im, by simp [hr.ds], hi⟩, hq⟩

/-! ### Leaving a function, marks and deferred closures and all -/

def takeDef (db : Nat) : List Res → Option (List Res)
  | [] => none
  | .raw b o :: S => if b = db then (match o with | .deferred (some []) => some S | _ => none) else (takeDef db S).map (.raw b o :: ·)
  | r :: S => (takeDef db S).map (r :: ·)

theorem takeDef_split {db : Nat} : ∀ {S S' : List Res}, takeDef db S = some S' → ∃ A B, S = A ++ .raw db (.deferred (some [])) :: B ∧ S' = A ++ B
  | [], S', h => by simp [takeDef] at h
  | r :: S, S', h => by
    have tail : (takeDef db S).map (r :: ·) = some S' → ∃ A B, r :: S = A ++ .raw db (.deferred (some [])) :: B ∧ S' = A ++ B := fun h => by
      obtain ⟨T, hT, rfl⟩ := Option.map_eq_some_iff.1 h
      obtain ⟨A, B, rfl, rfl⟩ := takeDef_split hT
      exact ⟨r :: A, B, rfl, rfl⟩
    cases r with
    | raw b o =>
      simp only [takeDef] at h
      split at h
      · rename_i e; subst e
        split at h
        · cases h; exact ⟨[], S, rfl, rfl⟩
        · cases h
      · exact tail h
    | objT => exact tail h
    | vec => exact tail h
    | lp => exact tail h

def ALeave (P : Program) (fn : Func) (Q : Out → List Res → Prop) : List Deferred → FrameMode → St → Prop
  | [], .returning, st => optDone P fn { st with ds := [] } Q (resOf P fn { st with ds := [] })
  | [], .panicking [x], st => x.recovered = false ∧ x.goexit = false ∧ DoneP st.S x.v Q
  | ⟨.collected db, _⟩ :: ds, u, st => u ≠ .run ∧ ∃ S', takeDef db st.S = some S' ∧ ALeave P fn Q ds u { st with S := S' }
  | ⟨.fn (.func g) cap, args⟩ :: ds, u, st => u ≠ .run ∧ args = #[] ∧ goesB P g = true ∧ AClose P g cap.toList u st.S fun u' S' => ALeave P fn Q ds (settle u') { st with S := S' }
  | _, _, _ => False

theorem leaves_of {P : Program} {fn : Func} {Q : Out → List Res → Prop} {S0 : List Res} {G0 : Im} {w0 : World} : ∀ (ds : List Deferred) (u : FrameMode) (st : St) (G : Im) (w : World) (a : Act), ALeave P fn Q ds u st → Evol S0 G0 w0 st.S G w → EnvRel G st.n st.env a.tmps → Inv G w st.S →
    LeavesInM Fence.wide 0 P fn a.tmps (CPost S0 G0 w0 Q) ds u w := by
  intro ds
  induction ds with
  | nil =>
    intro u st G w a h he henv hi
    cases u with
    | run => exact h.elim
    | returning =>
      change optDone P fn { st with ds := [] } Q (resOf P fn { st with ds := [] }) at h
      cases hres : resOf P fn { st with ds := [] } with
      | none => rw [hres] at h; exact h.elim
      | some rv =>
        rw [hres] at h
        obtain ⟨v', S'', hvl, hle, hQ⟩ := h
        have hr' : Rel G w { a with defers := [] } { st with ds := [] } := ⟨henv, rfl, hi⟩
        obtain ⟨y, hy, hrel⟩ := resOf_run hr' hres
        obtain ⟨G3, he3, hi3⟩ := hle G w hi
        exact ⟨y, hy, G3, S'', .ret v', he.trans he3, hi3, .ret ((hvl G w y hi (VLe.fz _ _ G w y hi hrel)).mono he3.im), hQ⟩
    | panicking chain =>
      match chain, h with
      | [x], h =>
        obtain ⟨h1, h2, S'', hle, hQ⟩ := h
        obtain ⟨G3, he3, hi3⟩ := hle G w hi
        refine ⟨G3, S'', .panic x.v, he.trans he3, hi3, ?_, hQ⟩
        have : x = { v := x.v, recovered := false } := by cases x; simp_all
        rw [this]; exact .panic _
  | cons d ds ih =>
    intro u st G w a h he henv hi
    obtain ⟨t, dargs⟩ := d
    match t, h with
    | .collected db, h =>
      obtain ⟨hu, S', htk, hrest⟩ : u ≠ .run ∧ ∃ S', takeDef db st.S = some S' ∧ ALeave P fn Q ds u { st with S := S' } := by cases u <;> exact h
      obtain ⟨A, B, hS, hS'⟩ := takeDef_split htk
      have hraw := hi.res (.raw db (.deferred (some []))) (by rw [hS]; simp)
      rw [hS] at hi he
      obtain ⟨he1, hi1⟩ := hi.put (r' := .raw db (.deferred none)) (o := .deferred none) rfl rfl hraw.2.2 ⟨World.putObj_heap_same (Array.getElem?_eq_some_iff.1 hraw.1).1, rfl, hraw.2.2⟩
      obtain ⟨hi2, he2⟩ := hi1.sub (S' := S') (by rw [hS']; exact List.Sublist.append (List.Sublist.refl A) (List.sublist_cons_self _ _))
      exact ⟨hu, .inl ⟨db, _, rfl, run_takeDeferred hraw.1, ih _ _ _ _ a hrest ((he.trans he1).trans he2) henv hi2⟩⟩
    | .fn (.func g) cap, h =>
      obtain ⟨hu, rfl, hg, hc⟩ : u ≠ .run ∧ dargs = #[] ∧ goesB P g = true ∧ AClose P g cap.toList u st.S fun u' S' => ALeave P fn Q ds (settle u') { st with S := S' } := by cases u <;> exact h
      have hc' := hc G w hi
      rw [Array.toArray_toList] at hc'
      refine ⟨hu, .inr ⟨(fun h => absurd h (by decide)), .func g, cap, g, cap, rfl, run_invoke hg cap, fun _ _ => trivial, hc'.mono ?_⟩⟩
      rintro e u'' w'' ⟨v, G'', S', rfl, he', hi', hrest⟩
      exact ih _ _ _ _ a hrest (he.trans he') (henv.mono he'.im) hi'
    | .fn (.method _) _, h => cases u <;> exact h.elim
    | .fn (.methodOf _ _) _, h => cases u <;> exact h.elim
    | .fn (.via _ _ _ _) _, h => cases u <;> exact h.elim
    | .fn (.yield _) _, h => cases u <;> exact h.elim
    | .nil, h => cases u <;> exact h.elim
    | .builtin _ _ _ _, h => cases u <;> exact h.elim
    | .coroexit _, h => cases u <;> exact h.elim

/-- What the body of a function has to come to, deferred calls, marks and all. -/
def retM (P : Program) (fn : Func) (Q : Out → List Res → Prop) : Exit → St → Prop
  | .normal, st => ALeave P fn Q st.ds .returning st
  | .ret, st => ALeave P fn Q st.ds .returning st
  | .panic [x], st => x.recovered = false ∧ x.goexit = false ∧ ALeave P fn Q st.ds (.panicking [⟨x.v, false, false⟩]) st
  | _, _ => False

theorem acall_of_awpM {P : Program} {f : FuncId} {fn : Func} {c : Code} {args : List V} {S : List Res} {Q : Out → List Res → Prop} (hf : P.funcs[f]? = some fn) (hb : fn.body = some c)
    (hn : args.length ≤ fn.ntmps) (h : AWP none P c (retM P fn Q) ⟨fn.ntmps, params 0 args, S, []⟩) : ACall P f args S Q := by
  intro G w xs hv hi
  refine callsIn_wide.1 (callsIn_of_wp_marks (F := Fence.wide) (n := 0) hf hb trivial ?_)
  refine wpIn_mono (h G w _ (enter_rel hv hi hn)) fun e a' w' ⟨G', st', he, hr', hq⟩ => ?_
  have fin : ∀ u, ALeave P fn Q st'.ds u st' → LeavesInM Fence.wide 0 P fn a'.tmps (CPost S G w Q) a'.defers u w' := fun u h => by
    rw [hr'.ds]; exact leaves_of _ u st' G' w' a' h he hr'.env hr'.inv
  cases e with
  | normal => exact fin _ hq
  | ret => exact fin _ hq
  | panic ch =>
    match ch, hq with
    | [x], hq =>
      obtain ⟨h1, h2, hd⟩ := hq
      have : x = ⟨x.v, false, false⟩ := by cases x; simp_all
      rw [this]
      exact fin _ hd
  | exit id => exact hq.elim
  | goto l => exact hq.elim
  | outgrown => exact hq.elim

end Go.AW
