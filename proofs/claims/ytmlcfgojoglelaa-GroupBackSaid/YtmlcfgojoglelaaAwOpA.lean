/- The engine AW, part 5: the rules of single operations. -/
import Derived.Test.YtmlcfgojoglelaaAwMem
set_option linter.unusedVariables false
set_option linter.unusedSimpArgs false
namespace Go.AW

/-! ### What the program's tables tell -/

def szA (P : Program) (t : TypeId) : Option Nat := (P.info? t).map (·.size)
def zeroA (P : Program) (t : TypeId) : Option Value := (P.info? t).bind (·.zero)
def bytesA (P : Program) (t : TypeId) : Option Nat := (P.info? t).map (·.bytes)
def aggA (P : Program) (t : TypeId) : Option Bool := (P.underlying t).map fun d => match d with | .struct _ | .array _ _ => true | _ => false

section
variable {P : Program} {w : World} {t : TypeId}
theorem run_size {n : Nat} (h : szA P t = some n) : (sizeOf t).run P w = .ok n w := by
  simp only [szA, Option.map_eq_some_iff] at h
  obtain ⟨i, hi, rfl⟩ := h
  simp [sizeOf, typeInfo, hi]
theorem run_zero {z : Value} (h : zeroA P t = some z) : (zeroValue t).run P w = .ok z w := by
  simp only [zeroA, Option.bind_eq_some_iff] at h
  obtain ⟨i, hi, hz⟩ := h
  simp [zeroValue, typeInfo, hi, hz]
theorem run_bytes {n : Nat} (h : bytesA P t = some n) : ∃ i, P.info? t = some i ∧ i.bytes = n := by
  simpa only [bytesA, Option.map_eq_some_iff] using h
theorem run_und {d : TypeDesc} (h : P.underlying t = some d) : (underlying t).run P w = .ok d w := by
  simp [underlying, h]
theorem run_agg {b : Bool} (h : aggA P t = some b) : (isAgg t).run P w = .ok b w := by
  simp only [aggA, Option.map_eq_some_iff] at h
  obtain ⟨d, hd, rfl⟩ := h
  simp only [isAgg, Sem.run_bind, run_und hd, Result.andThen_ok]
  cases d <;> rfl
end

theorem VRel.one {G : Im} {v : V} {x : Value} (h : VRel G v x) (hv : v.one = true) : x.oneCell' = true := by
  cases h <;> simp_all [V.one, Value.oneCell']

theorem VRel.okv {G : Im} {v : V} {x : Value} (h : VRel G v x) (hv : v.okv = true) : VRels G v.cells x.cells.toList ∧ ∀ y ∈ x.cells.toList, y.oneCell' = true := by
  cases hc : v with
  | agg cs =>
    subst hc
    obtain ⟨xs, rfl, hx⟩ := h.agg_inv
    refine ⟨by simpa [V.cells, Value.cells] using hx, fun y hy => ?_⟩
    have hy' : y ∈ xs := by simpa [Value.cells] using hy
    obtain ⟨i, hi⟩ := List.mem_iff_getElem?.1 hy'
    have hi' : i < cs.length := by rw [hx.1]; exact (List.getElem?_eq_some_iff.1 hi).1
    have := hx.2 i cs[i] y (by simp [hi']) hi
    simp [V.okv] at hv
    exact this.one (hv _ (List.getElem_mem hi'))
  | any => subst hc; simp [V.okv, V.one] at hv
  | tuple cs => subst hc; simp [V.okv, V.one] at hv
  | lit u =>
    subst hc
    have := h.lit_inv; subst this
    have h1 : x.oneCell' = true := by simpa [V.okv, V.one] using hv
    have hc : x.cells = #[x] := by cases x <;> simp_all [Value.cells, Value.oneCell']
    rw [hc]; simp [V.cells]; exact ⟨.cons (.lit _) .nil, h1⟩
  | sl full sz xs => subst hc; have h1 := h.one rfl; have hc : x.cells = #[x] := by cases x <;> simp_all [Value.cells, Value.oneCell']
                     rw [hc]; simp [V.cells]; exact ⟨.cons h .nil, h1⟩
  | vs k a n cap => subst hc; have h1 := h.one rfl; have hc : x.cells = #[x] := by cases x <;> simp_all [Value.cells, Value.oneCell']
                    rw [hc]; simp [V.cells]; exact ⟨.cons h .nil, h1⟩
  | pe cs => subst hc; have h1 := h.one rfl; have hc : x.cells = #[x] := by cases x <;> simp_all [Value.cells, Value.oneCell']
             rw [hc]; simp [V.cells]; exact ⟨.cons h .nil, h1⟩
  | func fn f c => subst hc; have h1 := h.one rfl; have hc : x.cells = #[x] := by cases x <;> simp_all [Value.cells, Value.oneCell']
                   rw [hc]; simp [V.cells]; exact ⟨.cons h .nil, h1⟩
  | iface t u => subst hc; have h1 := h.one rfl; have hc : x.cells = #[x] := by cases x <;> simp_all [Value.cells, Value.oneCell']
                 rw [hc]; simp [V.cells]; exact ⟨.cons h .nil, h1⟩

/-- 'b' is the number of a block that none of the resources holds. -/
def Fresh (b : Nat) (S : List Res) : Prop := b ∉ blks S

section
variable {ro : Option Nat} {P : Program} {o : Oper} {K : St → Prop} {Q : Exit → St → Prop} {st : St}

theorem AT.move {x : Operand} (hop : o.op = .move x) (hd : dstOk st.n o.dst) (hk : K (st.put o.dst (st.opnd x))) : ATake P o K st :=
  AT.pure hd (by rw [hop]; rfl) (fun G w a hr => ⟨a.eval x, fun w _ => by simp only [execOp, hop]; rfl, hr.opnd x⟩) hk
theorem AT.assign {x : Operand} (hop : o.op = .assign x) (hd : dstOk st.n o.dst) (hk : K (st.put o.dst (st.opnd x))) : ATake P o K st :=
  AT.pure hd (by rw [hop]; rfl) (fun G w a hr => ⟨a.eval x, fun w _ => by simp only [execOp, hop]; rfl, hr.opnd x⟩) hk
theorem AT.pick {c x y : Operand} {b : Bool} (hop : o.op = .pick c x y) (hd : dstOk st.n o.dst) (hc : st.opnd c = .lit (.bool b))
    (hk : if b then K (st.put o.dst (st.opnd x)) else K (st.put o.dst (st.opnd y))) : ATake P o K st := by
  have hrun : ∀ G w a, Rel G w a st → ∀ w', (execOp a.eval o).run P w' = .ok (.value (if b then a.eval x else a.eval y)) w' := fun G w a hr w' => by
    have h1 := hr.opnd c
    rw [hc] at h1
    have h2 := h1.lit_inv
    simp only [execOp, hop, h2, asBool]
    simp
  cases b with
  | true => exact AT.pure hd (by rw [hop]; rfl) (fun G w a hr => ⟨a.eval x, fun w' _ => hrun G w a hr w', hr.opnd x⟩) hk
  | false => exact AT.pure hd (by rw [hop]; rfl) (fun G w a hr => ⟨a.eval y, fun w' _ => hrun G w a hr w', hr.opnd y⟩) hk

/-- Blocks whose type is kept in mind: those that a strings.Builder begins. -/
def keepT (P : Program) (T : TypeId) : Bool :=
  match P.underlying T with
  | some (.struct fs) => (match fs[0]? with | some f => f.name == "addr" || f.name == "Builder" | none => false)
  | _ => false
def keepO (P : Program) (T : TypeId) : Option TypeId := if keepT P T = true then some T else none
theorem keepO_eq {P : Program} {T : TypeId} : ∀ t, keepO P T = some t → T = t := fun t h => by unfold keepO at h; split at h <;> simp_all

theorem AOp.alloc {T : TypeId} {z : Value} (hop : o.op = .alloc T) (hd : dstOk st.n o.dst) (hz : zeroA P T = some z)
    (hk : ∀ b, Fresh b st.S → K (St.put { st with S := .objT b (z.cells.toList.map .lit) (keepO P T) :: st.S } o.dst (.lit (.pointer (some ⟨b, 0, none⟩))))) : AOp ro P o K Q st := by
  refine AOp.value hd (by rw [hop]; rfl) fun G w a hr => ?_
  obtain ⟨he, hi⟩ := hr.inv.alloc_objT (us := z.cells) T (keepO P T) keepO_eq (VRels.lits G _)
  refine ⟨.pointer (some ⟨w.heap.size, 0, none⟩), w.alloc (.cells z.cells T), G, _, _, ?_, he, hi, .lit _, hk _ (fun hb => by have := hr.inv.lt hb; omega)⟩
  simp only [execOp, hop, Instr.alloc, Sem.run_bind, run_zero hz, Result.andThen_ok]
  rfl

theorem AOp.box {T : TypeId} {x : Operand} (hop : o.op = .box T x) (hd : dstOk st.n o.dst) (hv : (st.opnd x).okv = true)
    (hk : ∀ b, Fresh b st.S → K (St.put { st with S := .obj b (st.opnd x).cells :: st.S } o.dst (.lit (.pointer (some ⟨b, 0, none⟩))))) : AOp ro P o K Q st := by
  refine AOp.value hd (by rw [hop]; rfl) fun G w a hr => ?_
  obtain ⟨he, hi⟩ := hr.inv.alloc_obj (us := (a.eval x).cells) T ((hr.opnd x).okv hv).1
  refine ⟨.pointer (some ⟨w.heap.size, 0, none⟩), w.alloc (.cells (a.eval x).cells T), G, _, _, ?_, he, hi, .lit _, hk _ (fun hb => by have := hr.inv.lt hb; omega)⟩
  simp only [execOp, hop, Instr.box]
  rfl

/-! #### Loads -/

/-- What stands at a pointer: its cells, from there on. -/
def cellsAt (S : List Res) : V → Option (List V)
  | .lit (.pointer (some ⟨b, o, none⟩)) => (findObj S b).map (·.drop o)
  | .pe cs => some cs
  | _ => none

/-- The first of these cells as a value of a type. -/
def readAs (P : Program) (t : TypeId) (cs : List V) : Option V :=
  match aggA P t, szA P t with
  | some true, some n => if n ≤ cs.length then some (.agg (cs.take n)) else none
  | some false, _ => cs.head?
  | _, _ => none

theorem cellsAt_run {G : Im} {w : World} {S : List Res} (hi : Inv G w S) {p : V} {x : Value} (hp : VRel G p x) {cs : List V} (h : cellsAt S p = some cs) :
    ∃ b o us, x = .pointer (some ⟨b, o, none⟩) ∧ VRels G cs us ∧ ∀ (i : Nat) u, us[i]? = some u → w.cell? ⟨b, o + i, none⟩ = some u := by
  cases p with
  | lit v =>
    have hx := hp.lit_inv
    subst hx
    simp only [cellsAt] at h
    split at h
    · rename_i b o heq
      simp only [Option.map_eq_some_iff] at h
      obtain ⟨cs0, h0, rfl⟩ := h
      obtain ⟨us, T, h1, h2, h3⟩ := hi.obj h0
      cases heq
      refine ⟨b, o, us.toList.drop o, rfl, ⟨by simp [h2.1], fun i v y hv hy => h2.2 (o + i) v y (by simpa using hv) (by simpa using hy)⟩, fun i u hu => ?_⟩
      simp only [World.cell?, h1]
      simpa using hu
    · rename_i heq; cases heq
    · cases h
  | pe cs' =>
    simp only [cellsAt, Option.some.injEq] at h; subst h
    cases hp with
    | pe b o us hG hr =>
      refine ⟨b, o, (List.range cs'.length).map us, rfl, ⟨by simp, fun i v y hv hy => ?_⟩, fun i u hu => ?_⟩
      · simp at hy
        obtain ⟨j, hj, rfl⟩ := hy
        have := (List.getElem?_eq_some_iff.1 hj)
        simp at this; obtain ⟨_, rfl⟩ := this
        exact hr _ _ hv
      · simp at hu
        obtain ⟨j, hj, rfl⟩ := hu
        have := (List.getElem?_eq_some_iff.1 hj)
        simp at this; obtain ⟨hl, rfl⟩ := this
        exact hi.im _ _ _ (hG _ hl)
  | _ => simp [cellsAt] at h

theorem AOp.load {T : TypeId} {x : Operand} {cs : List V} {v : V} (hop : o.op = .load T x) (hd : dstOk st.n o.dst) (hc : cellsAt st.S (st.opnd x) = some cs) (hv : readAs P T cs = some v)
    (hk : K (st.put o.dst v)) : AOp ro P o K Q st := by
  refine AOp.pure (v := v) hd (by rw [hop]; rfl) (fun G w a hr => ?_) hk
  obtain ⟨b, o', us, hx, hus, hcell⟩ := cellsAt_run hr.inv (hr.opnd x) hc
  unfold readAs at hv
  split at hv
  · rename_i n ha hs
    split at hv
    · rename_i hn
      simp at hv; subst hv
      have hrun := run_loadCells_list (P := P) (w := w) ⟨b, o', none⟩ (us.take n) (fun j u hu => by
        have hj : us[j]? = some u := by rw [List.getElem?_take] at hu; split at hu; exact hu; cases hu
        have := hcell j u hj
        rw [show (⟨b, o', none⟩ : Addr).add j = ⟨b, o' + j, none⟩ by unfold Addr.add; split <;> simp_all]
        exact this)
      have hl : (us.take n).length = n := by have := hus.1; simp; omega
      rw [hl] at hrun
      refine ⟨.agg (us.take n).toArray, ?_, VRel.agg' ⟨by simp [hus.1], fun i v y hv' hy => ?_⟩⟩
      · simp only [execOp, hop, Instr.loadAt, hx, Instr.sureAddr, loadVar, Sem.run_bind, Sem.run_pure, Result.andThen_ok, run_agg ha, if_true, run_size hs, hrun]
      · rw [List.getElem?_take] at hv' hy
        split at hv'
        · rename_i hlt; rw [if_pos hlt] at hy; exact hus.2 i v y hv' hy
        · cases hv'
    · cases hv
  · rename_i ha
    cases cs with
    | nil => simp at hv
    | cons c cs =>
      simp at hv; subst hv
      obtain ⟨u, us', rfl, hu, _⟩ := hus.cons_inv
      have := hcell 0 u (by simp)
      refine ⟨u, ?_, hu⟩
      simp only [execOp, hop, Instr.loadAt, hx, Instr.sureAddr, loadVar, Sem.run_bind, Sem.run_pure, Result.andThen_ok, run_agg ha, Bool.false_eq_true, if_false, run_load]
      simp only [Nat.add_zero] at this
      simp [this]
  · cases hv

theorem loadVar_run {G : Im} {T : TypeId} {cs : List V} {us : List Value} {v : V} (b o' : Nat) (hus : VRels G cs us) (hv : readAs P T cs = some v) :
    ∃ y, VRel G v y ∧ ∀ w : World, (∀ (i : Nat) u, us[i]? = some u → w.cell? ⟨b, o' + i, none⟩ = some u) → (loadVar T ⟨b, o', none⟩).run P w = .ok y w := by
  unfold readAs at hv
  split at hv
  · rename_i n ha hs
    split at hv
    · rename_i hn
      simp at hv; subst hv
      have hl : (us.take n).length = n := by have := hus.1; simp; omega
      refine ⟨.agg (us.take n).toArray, VRel.agg' ⟨by simp [hus.1], fun i v y hv' hy => ?_⟩, fun w hcell => ?_⟩
      · rw [List.getElem?_take] at hv' hy
        split at hv'
        · rename_i hlt; rw [if_pos hlt] at hy; exact hus.2 i v y hv' hy
        · cases hv'
      · have hrun := run_loadCells_list (P := P) (w := w) ⟨b, o', none⟩ (us.take n) (fun j u hu => by
          have hj : us[j]? = some u := by rw [List.getElem?_take] at hu; split at hu; exact hu; cases hu
          have := hcell j u hj
          rw [show (⟨b, o', none⟩ : Addr).add j = ⟨b, o' + j, none⟩ by unfold Addr.add; split <;> simp_all]
          exact this)
        rw [hl] at hrun
        simp only [loadVar, Sem.run_bind, Sem.run_pure, Result.andThen_ok, run_agg ha, if_true, run_size hs, hrun]
    · cases hv
  · rename_i ha
    cases cs with
    | nil => simp at hv
    | cons c cs =>
      simp at hv; subst hv
      obtain ⟨u, us', rfl, hu, _⟩ := hus.cons_inv
      refine ⟨u, hu, fun w hcell => ?_⟩
      have := hcell 0 u (by simp)
      simp only [loadVar, Sem.run_bind, Sem.run_pure, Result.andThen_ok, run_agg ha, Bool.false_eq_true, if_false, run_load]
      simp only [Nat.add_zero] at this
      simp [this]
  · cases hv

/-- A load from what never changes. -/
theorem AT.loadPe {T : TypeId} {x : Operand} {cs : List V} {v : V} (hop : o.op = .load T x) (hd : dstOk st.n o.dst) (hc : st.opnd x = .pe cs) (hv : readAs P T cs = some v)
    (hk : K (st.put o.dst v)) : ATake P o K st := by
  refine AT.pure (v := v) hd (by rw [hop]; rfl) (fun G w a hr => ?_) hk
  have hp := hr.opnd x
  rw [hc] at hp
  cases hx : a.eval x <;> rw [hx] at hp <;> cases hp
  rename_i b o' us hG hh
  obtain ⟨y, hy, hrun⟩ := loadVar_run (P := P) (G := G) (us := (List.range cs.length).map us) b o' ⟨by simp, fun i v y hv hy => by
    simp at hy
    obtain ⟨j, hj, rfl⟩ := hy
    have := (List.getElem?_eq_some_iff.1 hj)
    simp at this; obtain ⟨_, rfl⟩ := this
    exact hh _ _ hv⟩ hv
  refine ⟨y, fun w' hw' => ?_, hy⟩
  have := hrun w' (fun i u hu => by
    simp at hu
    obtain ⟨j, hj, rfl⟩ := hu
    have := (List.getElem?_eq_some_iff.1 hj)
    simp at this; obtain ⟨hl, rfl⟩ := this
    exact hw' _ _ _ (hG _ hl))
  simp only [execOp, hop, Instr.loadAt, hx, Instr.sureAddr, Sem.run_bind, Sem.run_pure, Result.andThen_ok, this]

/-! #### Stores -/

def splice (cs : List V) (o : Nat) (vs : List V) : List V := cs.take o ++ vs ++ cs.drop (o + vs.length)

theorem AOp.store {T : TypeId} {p x : Operand} {b o' : Nat} {cs : List V} (hop : o.op = .store T p x) (hd : dstOk st.n o.dst) (hp : st.opnd p = .lit (.pointer (some ⟨b, o', none⟩)))
    (hf : findObj st.S b = some cs) (hv : (st.opnd x).okv = true) (hs : szA P T = some (st.opnd x).cells.length) (hl : o' + (st.opnd x).cells.length ≤ cs.length)
    (hk : K (St.put { st with S := setObj st.S b (splice cs o' (st.opnd x).cells) } o.dst (.lit undef))) : AOp ro P o K Q st := by
  refine AOp.skip hd (by rw [hop]; rfl) fun G w a hr => ?_
  obtain ⟨us, T0, h1, h2, h3⟩ := hr.inv.obj hf
  obtain ⟨hx, hone⟩ := (hr.opnd x).okv hv
  have hpx := hr.opnd p
  rw [hp] at hpx
  have hpx := hpx.lit_inv
  have hlen : (a.eval x).cells.size = (st.opnd x).cells.length := by rw [hx.1]; simp
  have hsz : us.size = cs.length := by rw [h2.1]; simp
  have hrun := run_storeCells_at (P := P) b o' T0 (a.eval x).cells.toList 0 us w h1 (by simp [hlen, hsz]; omega) hone
  simp only [Nat.add_zero] at hrun
  obtain ⟨us', hus'⟩ : ∃ us', us' = (us.toList.take o' ++ (a.eval x).cells.toList ++ us.toList.drop (o' + (a.eval x).cells.toList.length)).toArray := ⟨_, rfl⟩
  rw [← hus'] at hrun
  have hb := (Array.getElem?_eq_some_iff.1 h1).1
  obtain ⟨he, hi⟩ := hr.inv.write (w' := w.setRow b us') hf (us' := us') (T := T0) (cs' := splice cs o' (st.opnd x).cells) h1 (setRow_heap w b us us' T0 (0, 0) h1) (by
      subst hus'
      simp only [splice]
      refine VRels.append (VRels.append ⟨by simp [h2.1], fun i v y hv hy => ?_⟩ hx) ⟨by simp [h2.1, hlen], fun i v y hv hy => ?_⟩
      · rw [List.getElem?_take] at hv hy
        split at hv
        · rename_i hlt; rw [if_pos hlt] at hy; exact h2.2 i v y hv hy
        · cases hv
      · rw [List.getElem?_drop] at hv hy
        simp only [Array.length_toList, hlen] at hy
        exact h2.2 _ v y hv hy)
    (by simp [World.setRow]) (fun b' hb' => by simp [World.setRow, Array.getElem?_modify, Ne.symm hb']) rfl rfl rfl
  refine ⟨w.setRow b us', G, _, ?_, he, hi, hk⟩
  simp only [execOp, hop, Instr.storeAt, hpx, Instr.sureAddr, storeVar, Sem.run_bind, Sem.run_pure, Result.andThen_ok, run_size hs, hlen]
  simp only [ne_eq, not_true_eq_false, if_false]
  simp [hrun]

end
end Go.AW
