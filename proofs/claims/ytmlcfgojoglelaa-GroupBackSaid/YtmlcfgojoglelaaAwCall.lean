/- The engine AW, part 9: calls, panics, functions from their bodies. -/
import Derived.Test.YtmlcfgojoglelaaAwOpD
set_option linter.unusedVariables false
set_option linter.unusedSimpArgs false
namespace Go.AW

/-! ### One value said otherwise -/

def VsLe (S : List Res) (vs vs' : List V) : Prop := ∀ G w xs, Inv G w S → VRels G vs xs → VRels G vs' xs

theorem VLe.any (S : List Res) (v : V) : VLe S v .any := fun _ _ x _ _ => .any x
theorem VLe.trans {S : List Res} {a b c : V} (h : VLe S a b) (h' : VLe S b c) : VLe S a c := fun G w x hi hv => h' G w x hi (h G w x hi hv)
theorem VsLe.refl (S : List Res) (vs : List V) : VsLe S vs vs := fun _ _ _ _ h => h
theorem VsLe.nil (S : List Res) : VsLe S [] [] := .refl S []
theorem VsLe.cons {S : List Res} {v v' : V} {vs vs' : List V} (h : VLe S v v') (h' : VsLe S vs vs') : VsLe S (v :: vs) (v' :: vs') := fun G w xs hi hv => by
  obtain ⟨x, xs', rfl, h1, h2⟩ := hv.cons_inv
  exact .cons (h G w x hi h1) (h' G w xs' hi h2)
theorem VLe.agg {S : List Res} {cs cs' : List V} (h : VsLe S cs cs') : VLe S (.agg cs) (.agg cs') := fun G w x hi hv => by
  obtain ⟨xs, rfl, hx⟩ := hv.agg_inv
  exact .agg' (h G w xs hi hx)
theorem VLe.tuple {S : List Res} {cs cs' : List V} (h : VsLe S cs cs') : VLe S (.tuple cs) (.tuple cs') := fun G w x hi hv => by
  obtain ⟨xs, rfl, hx⟩ := hv.tuple_inv
  exact .tuple' (h G w xs hi hx)
theorem VLe.nilSl (S : List Res) (full : Bool) (sz : Nat) : VLe S (.lit (.slice none 0 0)) (.sl full sz []) := fun G w x hi hv => by
  have hx := hv.lit_inv
  subst hx
  exact .sl 0 0 (fun _ => undef) (fun h => absurd rfl h) (by simp) (by simp) (by simp) (by simp) (by simp) (by simp)
theorem VLe.full (S : List Res) (sz : Nat) (xs : List V) : VLe S (.sl true sz xs) (.sl false sz xs) := fun G w x hi hv => by
  cases hv with
  | sl b o us ha hsz hok hcap hfull hG hh => exact .sl b o us ha hsz hok hcap (by simp) hG hh
theorem VLe.vs {S : List Res} {k : Nat} {a : Option Addr} {n cap sz : Nat} {xs : List V} (hf : findVec S k = some (a, cap, sz, xs)) (hn : n = xs.length) : VLe S (.vs k a n cap) (.sl false sz xs) := fun G w x hi hv => by
  obtain ⟨S1, S2, rfl, _⟩ := findVec_split hf
  subst hn
  cases hv
  exact (hi.res (.vec k a cap sz xs) (by simp)).1

/-- A slice that was appended to, by its content. -/
def fz1 (S : List Res) : V → V
  | .vs k a n cap =>
    match findVec S k with
    | some (a', cap', sz, xs) => if a' = a ∧ cap' = cap ∧ xs.length = n then .sl false sz xs else .vs k a n cap
    | none => .vs k a n cap
  | v => v
def fz (S : List Res) : V → V
  | .agg cs => .agg (cs.map (fz1 S))
  | .tuple cs => .tuple (cs.map (fz1 S))
  | v => fz1 S v

theorem VLe.fz1 (S : List Res) (v : V) : VLe S v (fz1 S v) := by
  cases v <;> try exact .refl S _
  rename_i k a n cap
  simp only [AW.fz1]
  split
  · rename_i a' cap' sz xs hf
    split
    · rename_i e; obtain ⟨rfl, rfl, e⟩ := e; exact .vs hf e.symm
    · exact .refl S _
  · exact .refl S _
theorem VsLe.map {S : List Res} {f : V → V} (h : ∀ v, VLe S v (f v)) : ∀ vs, VsLe S vs (vs.map f)
  | [] => .nil S
  | v :: vs => .cons (h v) (VsLe.map h vs)
theorem VLe.fz (S : List Res) (v : V) : VLe S v (fz S v) := by
  cases v with
  | agg cs => exact .agg (VsLe.map (VLe.fz1 S) cs)
  | tuple cs => exact .tuple (VsLe.map (VLe.fz1 S) cs)
  | _ => exact VLe.fz1 S _

/-! ### Calls -/

def goesB (P : Program) (f : FuncId) : Bool :=
  match P.funcs[f]? with
  | some fn => fn.name != "runtime.NumGoroutine" && fn.body.isSome
  | none => false

theorem run_goes {P : Program} {f : FuncId} (h : goesB P f = true) (args : Array Value) (w : World) : (callFunc f args).run P w = .ok (.enter f args) w := by
  unfold goesB at h
  split at h
  · rename_i fn hf
    simp at h
    obtain ⟨h1, h2⟩ := h
    have h3 : fn.body.isNone = false := by cases hb : fn.body <;> simp_all
    simp only [callFunc, Sem.run_bind, run_program, Result.andThen_ok, hf]
    simp [h1, h3]
  · cases h

def calleeOf : V → Option (FuncId × List V × List V)
  | .lit (.func (.func f) first captured) => some (f, first.toList.map .lit, captured.toList.map .lit)
  | .func (.func f) first captured => some (f, first, captured)
  | _ => none

theorem calleeOf_rel {G : Im} {v : V} {x : Value} (hv : VRel G v x) {f : FuncId} {first captured : List V} (h : calleeOf v = some (f, first, captured)) :
    ∃ f' c' : List Value, x = .func (.func f) f'.toArray c'.toArray ∧ VRels G first f' ∧ VRels G captured c' := by
  cases v with
  | lit u =>
    have hx := hv.lit_inv; subst hx
    simp only [calleeOf] at h
    split at h
    · rename_i f1 a1 c1 e; cases e; simp at h; obtain ⟨rfl, rfl, rfl⟩ := h
      exact ⟨a1.toList, c1.toList, by simp, .lits G _, .lits G _⟩
    · rename_i e; cases e
    · cases h
  | func fn a b =>
    simp only [calleeOf] at h
    split at h
    · rename_i e; cases e
    · rename_i e; cases e; simp at h; obtain ⟨rfl, rfl, rfl⟩ := h
      exact hv.func_inv
    · cases h
  | _ => simp [calleeOf] at h

/-- A call with what is said of the arguments turned. -/
def ACallLe (P : Program) (f : FuncId) (args : List V) (S : List Res) (Q : Out → List Res → Prop) : Prop := ∃ args', VsLe S args args' ∧ ACall P f args' S Q

theorem ACallLe.refl {P : Program} {f : FuncId} {args : List V} {S : List Res} {Q : Out → List Res → Prop} (h : ACall P f args S Q) : ACallLe P f args S Q := ⟨args, .refl S args, h⟩
theorem ACallLe.call {P : Program} {f : FuncId} {args : List V} {S : List Res} {Q : Out → List Res → Prop} (h : ACallLe P f args S Q) : ACall P f args S Q := fun G w xs hv hi => by
  obtain ⟨args', hle, h⟩ := h
  exact h G w xs (hle G w xs hi hv) hi

/-- What follows a call. -/
def callQ (K : St → Prop) (Q : Exit → St → Prop) (st : St) (dst : Option Tmp) : Out → List Res → Prop
  | .ret v, S' => K (St.put { st with S := S' } dst v)
  | .panic x, S' => Q (.panic [{ v := x, recovered := false }]) { st with S := S' }

section
variable {ro : Option Nat} {P : Program} {o : Oper} {K : St → Prop} {Q : Exit → St → Prop} {st : St}

theorem AOp.call {f : Operand} {args : Array Operand} {tys : Array TypeId} {g : FuncId} {first captured : List V} (hop : o.op = .call ⟨.value f, args, tys⟩) (hd : dstOk st.n o.dst)
    (hf : calleeOf (st.opnd f) = some (g, first, captured)) (hg : goesB P g = true)
    (hk : ACallLe P g (first ++ args.toList.map (fun x => fz st.S (st.opnd x)) ++ captured) st.S (callQ K Q st o.dst)) : AOp ro P o K Q st := by
  intro G w a hr
  refine ⟨fun _ _ => trivial, ?_⟩
  rw [Oper.semAt_eq _ _ _ (fun c hc => by rw [hop] at hc; cases hc)]
  obtain ⟨f', c', hfx, hf1, hc1⟩ := calleeOf_rel (hr.opnd f) hf
  have hargs : VRels G (args.toList.map (fun x => fz st.S (st.opnd x))) (args.toList.map a.eval) := by
    have h1 := hr.opnds args.toList
    have h2 := (VsLe.map (VLe.fz st.S) (args.toList.map st.opnd)) G w _ hr.inv h1
    rw [List.map_map] at h2; exact h2
  have hall : VRels G (first ++ args.toList.map (fun x => fz st.S (st.opnd x)) ++ captured) (f' ++ args.toList.map a.eval ++ c') := (hf1.append hargs).append hc1
  have hrun : (execOp a.eval o).run P w = .ok (.enter g (f' ++ args.toList.map a.eval ++ c').toArray) w := by
    simp only [execOp, hop, resolve, hfx, Deferred.ofValue, Sem.run_bind, Sem.run_pure, Result.andThen_ok, invoke, run_goes hg]
    congr 2
    apply Array.ext'
    simp
  rw [hrun, Oper.uponIn_enter]
  refine ⟨(fun h => by cases h), ?_⟩
  have hc := hk.call G w _ hall hr.inv
  refine callsIn_wide.2 (hc.mono fun e w' ⟨G', S', out, he, hi, her, hq⟩ => ?_)
  cases her with
  | ret hv =>
    refine ⟨G', _, ?_, hr.put he hi hd hv, hq⟩
    rw [St.put_S]; exact he
  | panic v => exact ⟨G', { st with S := S' }, he, ⟨hr.env.mono he.im, hr.ds, hi⟩, hq⟩

theorem AOp.defer {f : Operand} {tys : Array TypeId} {fn : Fn} {first captured : Array Value} (hro : ro = none) (hop : o.op = .defer ⟨.value f, #[], tys⟩) (hd : dstOk st.n o.dst)
    (hf : st.opnd f = .lit (.func fn first captured)) (hk : K (St.put { st with ds := ⟨.fn fn captured, first⟩ :: st.ds } o.dst (.lit undef))) : AOp ro P o K Q st := by
  subst hro
  intro G w a hr
  refine ⟨fun _ _ => trivial, ?_⟩
  have hv := hr.opnd f
  rw [hf] at hv
  have hv := hv.lit_inv
  have hrun : (o.semAt (WF none).round a.eval).run P w = .ok (.defer ⟨.fn fn captured, first⟩) w := by
    show (o.semAt none a.eval).run P w = _
    rw [Oper.semAt_none]
    simp only [execOp, hop, resolve, hv, Deferred.ofValue, Sem.run_bind, Sem.run_pure, Result.andThen_ok]
    simp
  rw [hrun]
  refine ⟨G, _, ?_, ?_, hk⟩
  · rw [St.put_S]; exact .refl _ _ _
  · have h1 : Rel G w { a with defers := ⟨.fn fn captured, first⟩ :: a.defers } { st with ds := ⟨.fn fn captured, first⟩ :: st.ds } := ⟨hr.env, by rw [← hr.ds], hr.inv⟩
    exact h1.put (.refl _ _ _) h1.inv hd (.lit undef)

theorem AOp.panic {x : Operand} {v : Value} {T : TypeId} (hop : o.op = .panic x) (hx : st.opnd x = .lit (.iface T v))
    (hk : Q (.panic [{ v := .iface T v, recovered := false }]) st) : AOp ro P o K Q st := by
  intro G w a hr
  refine ⟨fun _ _ => trivial, ?_⟩
  rw [Oper.semAt_eq _ _ _ (fun c hc => by rw [hop] at hc; cases hc)]
  have hrun : (execOp a.eval o).run P w = .halt (.panic (.iface T v)) w := by
    simp only [execOp, hop, hr.lit hx]
    simp [Instr.panic]
  rw [hrun]
  exact ⟨G, st, .refl _ _ _, hr, hk⟩

end

/-! ### Functions from their bodies -/

def resV (P : Program) (st : St) : ResultVar → Option V
  | .tmp t => some (AW.get st.env t)
  | .cell a t => (cellsAt st.S (AW.get st.env a)).bind (readAs P t)

def resVs (P : Program) (st : St) : List ResultVar → Option (List V)
  | [] => some []
  | r :: rs =>
    match resV P st r, resVs P st rs with
    | some v, some vs => some (v :: vs)
    | _, _ => none

def resOf (P : Program) (fn : Func) (st : St) : Option V :=
  match resVs P st fn.results.toList with
  | some [v] => some v
  | some vs => some (.tuple vs)
  | none => none

theorem load_run {P : Program} {G : Im} {w : World} {S : List Res} (hi : Inv G w S) {T : TypeId} {p v : V} {x : Value} {cs : List V} (hp : VRel G p x) (hc : cellsAt S p = some cs) (hv : readAs P T cs = some v) :
    ∃ ad y, x = .pointer (some ad) ∧ (loadVar T ad).run P w = .ok y w ∧ VRel G v y := by
  obtain ⟨b, o', us, hx, hus, hcell⟩ := cellsAt_run hi hp hc
  unfold readAs at hv
  split at hv
  · rename_i n ha hs
    split at hv
    · rename_i hn
      simp at hv; subst hv
      have hrun := run_loadCells_list (P := P) (w := w) ⟨b, o', none⟩ (us.take n) (fun j u hu => by
        have hj : us[j]? = some u := by rw [List.getElem?_take] at hu; split at hu; exact hu; cases hu
        have := hcell j u hj
        rw [Addr.add_eq]
        exact this)
      have hl : (us.take n).length = n := by have := hus.1; simp; omega
      rw [hl] at hrun
      refine ⟨_, .agg (us.take n).toArray, hx, ?_, VRel.agg' ⟨by simp [hus.1], fun i v y hv' hy => ?_⟩⟩
      · simp only [loadVar, Sem.run_bind, Sem.run_pure, Result.andThen_ok, run_agg ha, if_true, run_size hs, hrun]
      · rw [List.getElem?_take] at hv' hy
        split at hv'
        · rename_i hlt; rw [if_pos hlt] at hy; exact hus.2 i v y hv' hy
        · cases hv'
    · cases hv
  · rename_i ha
    cases cs with
    | nil => simp at hv
    | cons c cs =>
      simp at hv; subst hv
      obtain ⟨u, us', rfl, hu, _⟩ := hus.cons_inv
      have := hcell 0 u (by simp)
      refine ⟨_, u, hx, ?_, hu⟩
      simp only [loadVar, Sem.run_bind, Sem.run_pure, Result.andThen_ok, run_agg ha, Bool.false_eq_true, if_false, run_load]
      simp only [Nat.add_zero] at this
      simp [this]
  · cases hv

def resSem (a : Act) : ResultVar → Sem Value
  | .tmp t => Pure.pure (a.tmps.getD t undef)
  | .cell b t => do loadVar t (← asAddr (a.tmps.getD b undef))

theorem resVs_run {P : Program} {G : Im} {w : World} {a : Act} {st : St} (hr : Rel G w a st) : ∀ (rs : List ResultVar) (vs : List V), resVs P st rs = some vs →
    ∃ ys, (rs.mapM (resSem a)).run P w = .ok ys w ∧ VRels G vs ys
  | [], vs, h => by simp [resVs] at h; subst h; exact ⟨[], rfl, .nil⟩
  | r :: rs, vs, h => by
    simp only [resVs] at h
    split at h
    · rename_i v vs' hv hvs
      simp at h; subst h
      obtain ⟨ys, h1, h2⟩ := resVs_run hr rs vs' hvs
      cases r with
      | tmp t =>
        simp [resV] at hv; subst hv
        refine ⟨a.tmps.getD t undef :: ys, ?_, .cons (hr.env.2 t) h2⟩
        simp only [List.mapM_cons, resSem, Sem.run_bind, Sem.run_pure, Result.andThen_ok, h1]
      | cell b t =>
        simp only [resV, Option.bind_eq_some_iff] at hv
        obtain ⟨cs, hc, hv⟩ := hv
        obtain ⟨ad, y, hx, hrun, hrel⟩ := load_run hr.inv (hr.env.2 b) hc hv
        refine ⟨y :: ys, ?_, .cons hrel h2⟩
        simp only [List.mapM_cons, resSem, Sem.run_bind, Sem.run_pure, Result.andThen_ok, hx, asAddr, hrun, h1]
    · cases h

theorem resOf_run {P : Program} {fn : Func} {G : Im} {w : World} {a : Act} {st : St} (hr : Rel G w a st) {v : V} (h : resOf P fn st = some v) : ∃ y, (results fn a.tmps).run P w = .ok y w ∧ VRel G v y := by
  unfold resOf at h
  have key : ∀ vs, resVs P st fn.results.toList = some vs → ∃ ys, (results fn a.tmps).run P w = .ok (if h : ys.toArray.size = 1 then ys.toArray[0] else .tuple ys.toArray) w ∧ VRels G vs ys := fun vs hvs => by
    obtain ⟨ys, h1, h2⟩ := resVs_run hr _ vs hvs
    refine ⟨ys, ?_, h2⟩
    have e : results fn a.tmps = (do let vs ← fn.results.mapM (resSem a); Pure.pure (if h : vs.size = 1 then vs[0] else .tuple vs)) := rfl
    rw [e, Array.mapM_eq_mapM_toList]
    simp only [Sem.run_bind, Sem.run_map, h1, Result.andThen_ok, Sem.run_pure]
  split at h
  · rename_i v' hvs
    simp at h; subst h
    obtain ⟨ys, h1, h2⟩ := key _ hvs
    obtain ⟨y, ys', rfl, hy, h3⟩ := h2.cons_inv
    obtain rfl := h3.nil_inv
    exact ⟨y, by simpa using h1, hy⟩
  · rename_i vs hvs hne
    simp at h; subst h
    obtain ⟨ys, h1, h2⟩ := key _ hne
    have hl : ys.length ≠ 1 := by
      intro e
      rw [← h2.1] at e
      match vs, e with
      | [v], _ => exact hvs v rfl
    refine ⟨.tuple ys.toArray, ?_, VRel.tuple' h2⟩
    rw [h1]; simp [hl]
  · cases h

/-- Resources said otherwise. -/
def SLe (S S' : List Res) : Prop := ∀ G w, Inv G w S → ∃ G', Evol S G w S' G' w ∧ Inv G' w S'

/-- What a function hands back, with what is said of it turned. -/
def Done (S : List Res) (v : V) (Q : Out → List Res → Prop) : Prop := ∃ v' S', VLe S v v' ∧ SLe S S' ∧ Q (.ret v') S'
def DoneP (S : List Res) (x : Value) (Q : Out → List Res → Prop) : Prop := ∃ S', SLe S S' ∧ Q (.panic x) S'

def optDone (P : Program) (fn : Func) (st : St) (Q : Out → List Res → Prop) : Option V → Prop
  | some v => Done st.S (fz st.S v) Q
  | none => False

/-- What a body has to come to, where no call was deferred. -/
def retQ (P : Program) (fn : Func) (Q : Out → List Res → Prop) : Exit → St → Prop
  | .normal, st => st.ds = [] ∧ optDone P fn st Q (resOf P fn st)
  | .ret, st => st.ds = [] ∧ optDone P fn st Q (resOf P fn st)
  | .panic ch, st => st.ds = [] ∧ match ch with
    | [x] => x.recovered = false ∧ x.goexit = false ∧ DoneP st.S x.v Q
    | _ => False
  | _, _ => False

def params : Nat → List V → List (Nat × V)
  | _, [] => []
  | k, v :: vs => (k, v) :: params (k + 1) vs

theorem get_params : ∀ (vs : List V) (k i : Nat), get (params k vs) i = if k ≤ i then (vs[i - k]?).getD .any else .any
  | [], k, i => by simp [params, get]
  | v :: vs, k, i => by
    simp only [params, get]
    split
    · rename_i e; subst e; simp
    · rename_i e
      rw [get_params vs (k + 1) i]
      by_cases h : k ≤ i
      · rw [if_pos (by omega), if_pos h]
        have : i - k = (i - (k + 1)) + 1 := by omega
        rw [this, List.getElem?_cons_succ]
      · rw [if_neg (by omega), if_neg h]

theorem enter_rel {G : Im} {w : World} {S : List Res} {args : List V} {xs : List Value} (hv : VRels G args xs) (hi : Inv G w S) {n : Nat} (hn : args.length ≤ n) :
    Rel G w { tmps := xs.toArray ++ Array.replicate (n - xs.toArray.size) undef, defers := [] } ⟨n, params 0 args, S, []⟩ := by
  have hl := hv.1
  refine ⟨⟨by simp; omega, fun i => ?_⟩, rfl, hi⟩
  simp only [get_params, Nat.zero_le, if_true, Nat.sub_zero]
  by_cases h : i < args.length
  · rw [List.getElem?_eq_getElem h]
    have h' : i < xs.length := by omega
    have := hv.2 i args[i] xs[i] (by simp [h]) (by simp [h'])
    simpa [Array.getD, Array.getElem_append, h', show i < xs.length + (n - xs.length) by omega] using this
  · rw [List.getElem?_eq_none (by omega)]
    exact .any _

theorem acall_of_awp {P : Program} {f : FuncId} {fn : Func} {c : Code} {args : List V} {S : List Res} {Q : Out → List Res → Prop} (hf : P.funcs[f]? = some fn) (hb : fn.body = some c)
    (hn : args.length ≤ fn.ntmps) (h : AWP none P c (retQ P fn Q) ⟨fn.ntmps, params 0 args, S, []⟩) : ACall P f args S Q := by
  intro G w xs hv hi
  refine callsIn_wide.1 (callsIn_of_wp (F := Fence.wide) (n := 0) hf hb trivial ?_)
  refine wpIn_mono (h G w _ (enter_rel hv hi hn)) fun e a' w' ⟨G', st', he, hr', hq⟩ => ?_
  have fin : (st'.ds = [] ∧ optDone P fn st' Q (resOf P fn st')) → a'.defers = [] ∧ ∃ v, (results fn a'.tmps).run P w' = .ok v w' ∧ CPost S G w Q (.returned v) w' := by
    rintro ⟨hds, hd⟩
    cases hres : resOf P fn st' with
    | none => rw [hres] at hd; exact hd.elim
    | some v =>
      rw [hres] at hd
      obtain ⟨v', S'', hvl, hle, hQ⟩ := hd
      obtain ⟨y, hy, hrel⟩ := resOf_run hr' hres
      obtain ⟨G'', he', hi''⟩ := hle G' w' hr'.inv
      exact ⟨hr'.ds.trans hds, y, hy, G'', S'', .ret v', he.trans he', hi'', .ret ((hvl G' w' y hr'.inv (VLe.fz _ _ G' w' y hr'.inv hrel)).mono he'.im), hQ⟩
  cases e with
  | normal => exact fin hq
  | ret => exact fin hq
  | panic ch =>
    match ch, hq with
    | [x], hq =>
      obtain ⟨hds, h1, h2, S'', hle, hQ⟩ := hq
      obtain ⟨G'', he', hi''⟩ := hle G' w' hr'.inv
      refine ⟨hr'.ds.trans hds, G'', S'', .panic x.v, he.trans he', hi'', ?_, hQ⟩
      have : x = { v := x.v, recovered := false } := by cases x; simp_all
      rw [this]; exact .panic _
  | exit id => exact hq.elim
  | goto l => exact hq.elim
  | outgrown => exact hq.elim

/-! ### Steps of the prover's alone -/

theorem StLe.S {n : Nat} {env : List (Nat × V)} {ds : List Deferred} {S S' : List Res} (h : ∀ G w, Inv G w S → ∃ G', Evol S G w S' G' w ∧ Inv G' w S') : StLe ⟨n, env, S, ds⟩ ⟨n, env, S', ds⟩ := fun G w a hr =>
  let ⟨G', e, i⟩ := h G w hr.inv
  ⟨G', e, ⟨hr.env.mono e.im, hr.ds, i⟩⟩

/-- Resources that are not needed any more. -/
theorem Inv.sub {G : Im} {w : World} {S S' : List Res} (h : Inv G w S) (hs : S'.Sublist S) : Inv G w S' ∧ Evol S G w S' G w := by
  have hb : (blks S').Sublist (blks S) := hs.filterMap _
  exact ⟨⟨h.im, fun r hr => h.res r (hs.subset hr), h.nd.sublist hb⟩, ⟨Nat.le_refl _, rfl, rfl, rfl, Im.le_refl _, fun _ _ _ => rfl, fun _ _ _ _ => rfl, fun b hb' => .inl (hb.subset hb')⟩⟩

theorem SLe.refl (S : List Res) : SLe S S := fun G w h => ⟨G, .refl _ _ _, h⟩
theorem SLe.trans {S S' S'' : List Res} (h : SLe S S') (h' : SLe S' S'') : SLe S S'' := fun G w hi =>
  let ⟨G', e, i⟩ := h G w hi
  let ⟨G'', e', i'⟩ := h' G' w i
  ⟨G'', e.trans e', i'⟩
theorem SLe.drop {S S' : List Res} (hs : S'.Sublist S) : SLe S S' := fun G w h =>
  let ⟨i, e⟩ := h.sub hs
  ⟨G, e, i⟩
theorem done_drop {S S' : List Res} {v v' : V} {Q : Out → List Res → Prop} (hs : S'.Sublist S) (hv : VLe S v v') (h : Q (.ret v') S') : Done S v Q := ⟨v', S', hv, .drop hs, h⟩
theorem done {S S' : List Res} {v : V} {Q : Out → List Res → Prop} (hs : S'.Sublist S) (h : Q (.ret v) S') : Done S v Q := ⟨v, S', .refl _ _, .drop hs, h⟩
theorem doneP {S S' : List Res} {x : Value} {Q : Out → List Res → Prop} (hs : S'.Sublist S) (h : Q (.panic x) S') : DoneP S x Q := ⟨S', .drop hs, h⟩

theorem StLe.drop {st : St} {S' : List Res} (hs : S'.Sublist st.S) : StLe st { st with S := S' } := fun G w a hr =>
  let ⟨i, e⟩ := hr.inv.sub hs
  ⟨G, e, ⟨hr.env, hr.ds, i⟩⟩

/-- Slots said otherwise: each one of those that are named, all others unknown. -/
theorem StLe.env {n : Nat} {env env' : List (Nat × V)} {S : List Res} {ds : List Deferred} (h : ∀ p ∈ env', VLe S (get env p.1) p.2) : StLe ⟨n, env, S, ds⟩ ⟨n, env', S, ds⟩ := fun G w a hr => by
  refine ⟨G, .refl _ _ _, ⟨⟨hr.env.1, fun i => ?_⟩, hr.ds, hr.inv⟩⟩
  have key : ∀ (l : List (Nat × V)), (∀ p ∈ l, VLe S (get env p.1) p.2) → VRel G (get l i) (a.tmps.getD i undef) := by
    intro l
    induction l with
    | nil => intro _; exact .any _
    | cons p l ih =>
      intro hl
      obtain ⟨k, v⟩ := p
      simp only [get]
      split
      · rename_i e; subst e
        exact hl (k, v) List.mem_cons_self G w _ hr.inv (hr.env.2 k)
      · exact ih fun p hp => hl p (List.mem_cons_of_mem _ hp)
  exact key env' h

end Go.AW
