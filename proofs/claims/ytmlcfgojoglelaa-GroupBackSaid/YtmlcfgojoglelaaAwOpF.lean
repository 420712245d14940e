/- The engine AW, part 11: max, min, structs compared, interfaces compared with nil. -/
import Derived.Test.YtmlcfgojoglelaaAwOpE
import Derived.Laws.StructEq
import Derived.Laws.BytesString
set_option linter.unusedVariables false
set_option linter.unusedSimpArgs false
namespace Go.AW

section
variable {ro : Option Nat} {P : Program} {o : Oper} {K : St → Prop} {Q : Exit → St → Prop} {st : St}

theorem AT.max {x y : Operand} {ts : Array TypeId} {k k' : IntKind} {a b : Int} (hop : o.op = .call ⟨.builtin .max, #[x, y], ts⟩) (hd : dstOk st.n o.dst)
    (hx : st.opnd x = .lit (.int k a)) (hy : st.opnd y = .lit (.int k' b)) (hk : K (st.put o.dst (.lit (.int k (if b > a then b else a))))) : ATake P o K st :=
  AT.pure hd (by rw [hop]; rfl) (fun G w a' hr => ⟨_, fun w _ => by
    simp only [execOp, hop, resolve, invoke, builtin, Sem.run_bind, Sem.run_pure, Result.andThen_ok]
    simp [Builtin.max_, Builtin.max2, hr.lit hx, hr.lit hy], .lit _⟩) hk
theorem AT.min {x y : Operand} {ts : Array TypeId} {k k' : IntKind} {a b : Int} (hop : o.op = .call ⟨.builtin .min, #[x, y], ts⟩) (hd : dstOk st.n o.dst)
    (hx : st.opnd x = .lit (.int k a)) (hy : st.opnd y = .lit (.int k' b)) (hk : K (st.put o.dst (.lit (.int k (if b < a then b else a))))) : ATake P o K st :=
  AT.pure hd (by rw [hop]; rfl) (fun G w a' hr => ⟨_, fun w _ => by
    simp only [execOp, hop, resolve, invoke, builtin, Sem.run_bind, Sem.run_pure, Result.andThen_ok]
    simp [Builtin.min_, Builtin.min2, hr.lit hx, hr.lit hy], .lit _⟩) hk

/-! #### Structs of numbers, Bools and strings, compared -/

def eqLit (P : Program) (t : TypeId) : Value → Value → Option Bool
  | .int k a, .int k' b => match P.underlying t with | some (.int _) => if k = k' then some (a == b) else none | _ => none
  | .bool a, .bool b => match P.underlying t with | some .bool => some (a == b) | _ => none
  | .string a, .string b => match P.underlying t with | some .string => some (a.toList == b.toList) | _ => none
  | _, _ => none

theorem eqLit_run {t : TypeId} {a b : Value} {r : Bool} (h : eqLit P t a b = some r) (d : Nat) (w : World) : (Op.equalIn (d + 1) t a b).run P w = .ok r w := by
  unfold eqLit at h
  split at h
  · split at h
    · rename_i hu
      split at h
      · rename_i e; subst e; cases h; exact run_equalIn_int w d t _ _ _ _ hu
      · cases h
    · cases h
  · split at h
    · rename_i hu; cases h; exact run_equalIn_bool' w d t _ _ hu
    · cases h
  · split at h
    · rename_i hu; cases h; exact run_equalIn_string w d t _ _ hu
    · cases h
  · cases h

def litOf : Option V → Option Value
  | some (.lit v) => some v
  | _ => none
def eqFieldsV (P : Program) : List Field → List V → List V → Option Bool
  | [], _, _ => some true
  | f :: fs, xs, ys =>
    if (f.name == "_") = true then none else
    if aggA P f.type = some false then
      (litOf xs[f.offset]?).bind fun a => (litOf ys[f.offset]?).bind fun b => (eqLit P f.type a b).bind fun r => (eqFieldsV P fs xs ys).map fun s => r && s
    else none

theorem litOf_some {v : Option V} {a : Value} (h : litOf v = some a) : v = some (.lit a) := by
  unfold litOf at h
  split at h
  · cases h; rfl
  · cases h

theorem eqFieldsV_run {G : Im} {xs ys : List V} {us vs : List Value} (hx : VRels G xs us) (hy : VRels G ys vs) (d : Nat) (w : World) : ∀ (fs : List Field) (r : Bool), eqFieldsV P fs xs ys = some r →
    (Op.eqFields (d + 1) us.toArray vs.toArray fs).run P w = .ok r w
  | [], r, h => by simp [eqFieldsV] at h; subst h; simp [Op.eqFields]
  | f :: fs, r, h => by
    simp only [eqFieldsV] at h
    split at h
    · cases h
    · rename_i hn
      split at h
      · rename_i ha
        obtain ⟨a, h1, h⟩ := Option.bind_eq_some_iff.1 h
        obtain ⟨b, h2, h⟩ := Option.bind_eq_some_iff.1 h
        obtain ⟨q, h3, h⟩ := Option.bind_eq_some_iff.1 h
        obtain ⟨s, h4, rfl⟩ := Option.map_eq_some_iff.1 h
        obtain ⟨a', ha', hra⟩ := hx.get (litOf_some h1)
        obtain ⟨b', hb', hrb⟩ := hy.get (litOf_some h2)
        have := hra.lit_inv; subst this
        have := hrb.lit_inv; subst this
        have hpa : (part f.type us.toArray f.offset).run P w = .ok a' w := by
          simp only [part, Sem.run_bind, run_agg ha, Result.andThen_ok, Bool.false_eq_true, if_false]; simp [ha']
        have hpb : (part f.type vs.toArray f.offset).run P w = .ok b' w := by
          simp only [part, Sem.run_bind, run_agg ha, Result.andThen_ok, Bool.false_eq_true, if_false]; simp [hb']
        have hn' : f.name ≠ "_" := by simpa using hn
        rw [Op.eqFields]
        simp only [if_pos hn', Sem.run_bind, hpa, hpb, eqLit_run h3, Result.andThen_ok]
        cases q
        · simp
        · simpa using eqFieldsV_run hx hy d w fs s h4
      · cases h

theorem AT.eqlA {op : BinOp} {t t' : TypeId} {x y : Operand} {fs : Array Field} {xs ys : List V} {r : Bool} (hop : o.op = .binOp op t x y t') (hd : dstOk st.n o.dst) (hu : P.underlying t = some (.struct fs)) (hp : P.stoodInHeld t = false) (hg : P.eqGuardType P.depth t = false)
    (hx : st.opnd x = .agg xs) (hy : st.opnd y = .agg ys) (hr : eqFieldsV P fs.toList xs ys = some r) (hk : (op = .eql ∧ K (st.put o.dst (.lit (.bool r)))) ∨ (op = .neq ∧ K (st.put o.dst (.lit (.bool !r))))) : ATake P o K st := by
  have key : ∀ G w a, Rel G w a st → ∀ w', (∃ us vs, a.eval x = .agg us ∧ a.eval y = .agg vs ∧ (Op.equalIn 10000 t (.agg us) (.agg vs)).run P w' = .ok r w') := fun G w a hrel w' => by
    have h1 := hrel.opnd x
    have h2 := hrel.opnd y
    rw [hx] at h1; rw [hy] at h2
    obtain ⟨us, e1, r1⟩ := h1.agg_inv
    obtain ⟨vs, e2, r2⟩ := h2.agg_inv
    refine ⟨_, _, e1, e2, ?_⟩
    have hf : P.fieldsOf t = fs := by simp [Program.fieldsOf, hu]
    rw [run_equalIn_struct (P := P) w' 9999 t _ _ (by rw [hf]; exact hu) hp, hf]
    exact eqFieldsV_run r1 r2 9998 w' _ _ hr
  rcases hk with ⟨rfl, hk⟩ | ⟨rfl, hk⟩
  · refine AT.pure hd (by rw [hop]; rfl) (fun G w a hrel => ⟨_, fun w' _ => ?_, .lit _⟩) hk
    obtain ⟨us, vs, e1, e2, h⟩ := key G w a hrel w'
    simp only [execOp, hop, e1, e2, Sem.run_bind, run_eqGuard_agg (P := P) w' _ t x y _ _ hg, Result.andThen_ok, run_eql_struct, h, Sem.run_pure]
  · refine AT.pure hd (by rw [hop]; rfl) (fun G w a hrel => ⟨_, fun w' _ => ?_, .lit _⟩) hk
    obtain ⟨us, vs, e1, e2, h⟩ := key G w a hrel w'
    simp only [execOp, hop, e1, e2, Sem.run_bind, run_eqGuard_agg (P := P) w' _ t x y _ _ hg, Result.andThen_ok, run_neq_struct, h, Sem.run_pure]

/-! #### An interface compared with nil -/

def nilB : V → Option Bool
  | .lit .nilIface => some true
  | .lit (.iface _ _) => some false
  | .iface _ _ => some false
  | _ => none

theorem nilB_run {t : TypeId} (hu0 : ∃ ms, P.underlying t = some (.interface ms)) {G : Im} {v : V} {x : Value} {b : Bool} (h : nilB v = some b) (hv : VRel G v x) (w : World) :
    (Op.equal t x .nilIface).run P w = .ok b w := by
  obtain ⟨ms, hu⟩ := hu0
  unfold nilB at h
  show (Op.equalIn (9999 + 1) t _ _).run P w = _
  split at h
  · cases h; have := hv.lit_inv; subst this; rw [Op.equalIn, Sem.run_bind, run_und hu]; rfl
  · cases h; have := hv.lit_inv; subst this; rw [Op.equalIn, Sem.run_bind, run_und hu]; rfl
  · cases h; cases hv; rw [Op.equalIn, Sem.run_bind, run_und hu]; rfl
  · cases h

theorem AT.eqlNil {op : BinOp} {t t' : TypeId} {x : Operand} {b : Bool} (hop : o.op = .binOp op t x (.const .nilIface) t') (hd : dstOk st.n o.dst) (hu : ∃ ms, P.underlying t = some (.interface ms))
    (hx : nilB (st.opnd x) = some b) (hk : (op = .eql ∧ K (st.put o.dst (.lit (.bool b)))) ∨ (op = .neq ∧ K (st.put o.dst (.lit (.bool !b))))) : ATake P o K st := by
  have hg : ∀ (op : BinOp) (v : Value), (∃ w, nilB (st.opnd x) = some b ∧ w = v) → ∀ w, (eqGuard op t x (.const .nilIface) v .nilIface).run P w = .ok () w := fun op v _ w => by
    cases op <;> cases v <;> simp [eqGuard]
  have hb : ∀ (v : Value) w, (∃ G, VRel G (st.opnd x) v) → (binOp .eql t v .nilIface).run P w = .ok (.bool b) w ∧ (binOp .neq t v .nilIface).run P w = .ok (.bool !b) w := fun v w ⟨G, hv⟩ => by
    have h := nilB_run (P := P) hu hx hv w
    have hc : v = .nilIface ∨ ∃ T u, v = .iface T u := by
      unfold nilB at hx
      split at hx
      · rename_i e; rw [e] at hv; exact .inl hv.lit_inv
      · rename_i e; rw [e] at hv; exact .inr ⟨_, _, hv.lit_inv⟩
      · rename_i e; rw [e] at hv; cases hv; exact .inr ⟨_, _, rfl⟩
      · cases hx
    rcases hc with rfl | ⟨T, u, rfl⟩
    · simp only [binOp]; simp [h]
    · simp only [binOp]; simp [h]
  rcases hk with ⟨rfl, hk⟩ | ⟨rfl, hk⟩
  · refine AT.pure hd (by rw [hop]; rfl) (fun G w a hrel => ⟨_, fun w' _ => ?_, .lit _⟩) hk
    have e : a.eval (.const .nilIface) = .nilIface := rfl
    simp only [execOp, hop, e, Sem.run_bind, hg .eql (a.eval x) ⟨_, hx, rfl⟩ w', (hb _ w' ⟨G, hrel.opnd x⟩).1, Result.andThen_ok, Sem.run_pure]
  · refine AT.pure hd (by rw [hop]; rfl) (fun G w a hrel => ⟨_, fun w' _ => ?_, .lit _⟩) hk
    have e : a.eval (.const .nilIface) = .nilIface := rfl
    simp only [execOp, hop, e, Sem.run_bind, hg .neq (a.eval x) ⟨_, hx, rfl⟩ w', (hb _ w' ⟨G, hrel.opnd x⟩).2, Result.andThen_ok, Sem.run_pure]

/-! #### Bytes of a string -/

theorem Inv.new_im {G : Im} {w w' : World} {S : List Res} (h : Inv G w S) (us : Array Value) (T : TypeId) (fr : Nat × Nat) (hsz : w'.heap.size = w.heap.size + 1) (hold : ∀ b, b < w.heap.size → w'.heap[b]? = w.heap[b]?)
    (hnew : w'.heap[w.heap.size]? = some (.cells us T fr)) (ht : w'.tape = w.tape) (ho : w'.os = w.os) (hout : w'.output = w.output) :
    Evol S G w S (G.add w.heap.size us) w' ∧ Inv (G.add w.heap.size us) w' S := by
  have hle : Im.le G (G.add w.heap.size us) := fun b o u hg => by
    have := h.G_lt hg
    simp [Im.add, show b ≠ w.heap.size by omega, hg]
  have hsame : ∀ b, b < w.heap.size → ∀ o, G.add w.heap.size us b o = G b o := fun b hb o => by simp [Im.add, show b ≠ w.heap.size by omega]
  refine ⟨⟨by omega, ht, ho, hout, hle, fun b hb _ => hold b hb, fun b hb _ o => hsame b hb o, fun b hb => .inl hb⟩, ?_, ?_, h.nd⟩
  · intro b o u hg
    simp only [Im.add] at hg
    split at hg
    · rename_i e; subst e
      simp only [World.cell?, hnew]; exact hg
    · have := h.im b o u hg
      have hlt := World.cell?_lt this
      simp only [World.cell?] at this ⊢
      rw [hold b hlt]; exact this
  · intro r hr
    exact Res.holds_of (h.res r hr) hle fun b hb => ⟨hold b (Res.blk_lt (h.res r hr) hb), hsame b (Res.blk_lt (h.res r hr) hb)⟩

def u8V (b : UInt8) : V := .lit (.int .u8 b.toNat)
def bytesV (s : ByteArray) : List V := s.data.toList.map u8V

theorem AOp.toBytes {s t e : TypeId} {x : Operand} {v : ByteArray} {ds : TypeDesc} (hop : o.op = .convert s t x) (hd : dstOk st.n o.dst) (hs : P.underlying s = some ds) (ht : P.underlying t = some (.slice e)) (he : P.underlying e = some (.int .u8))
    (hx : st.opnd x = .lit (.string v)) (hv : v.size ≤ 4294967296) (hk : K (st.put o.dst (.sl false 1 (bytesV v)))) : AOp ro P o K Q st := by
  refine AOp.value hd (by rw [hop]; rfl) fun G w a hr => ?_
  have hax := hr.lit hx
  obtain ⟨cap, hcap⟩ : ∃ cap, cap = (Question.appendCap v.size 0 e).cut (w.tape w.drawn (.appendCap v.size 0 e)) := ⟨_, rfl⟩
  have hle : v.size ≤ cap := by rw [hcap]; simp [Question.cut]
  obtain ⟨us, hus⟩ : ∃ us : Array Value, us = v.data.map (fun b => .int .u8 b.toNat) ++ Array.replicate (cap - v.size) (.int .u8 0) := ⟨_, rfl⟩
  obtain ⟨w3, hw3⟩ : ∃ w3, w3 = ((w.drew.alloc (.cells us e)).freeze ⟨w.heap.size, us.size, none⟩ 1) := ⟨_, rfl⟩
  have hold : ∀ b, b < w.heap.size → w3.heap[b]? = w.heap[b]? := fun b hb => by
    rw [hw3]
    simp only [World.freeze, Nat.one_ne_zero, if_false]
    rw [Array.getElem?_modify, if_neg (by omega)]
    exact World.heap_alloc_ne (w := w.drew) (by show b ≠ w.heap.size; omega)
  have hsz : w3.heap.size = w.heap.size + 1 := by
    rw [hw3]
    simp only [World.freeze, Nat.one_ne_zero, if_false, Array.size_modify]
    exact World.size_alloc _ _
  obtain ⟨fr, hnew⟩ : ∃ fr, w3.heap[w.heap.size]? = some (.cells us e fr) := by
    rw [hw3]
    simp only [World.freeze, Nat.one_ne_zero, if_false]
    have : (w.drew.alloc (.cells us e)).heap[w.heap.size]? = some (.cells us e) := World.heap_alloc_eq (w := w.drew)
    rw [Array.getElem?_modify, if_pos rfl, this]
    exact ⟨_, rfl⟩
  obtain ⟨hev, hinv⟩ := hr.inv.new_im us e fr hsz hold hnew (by rw [hw3]; rfl) (by rw [hw3]; rfl) (by rw [hw3]; rfl)
  have hlen : (bytesV v).length = v.size := by simp [bytesV]
  refine ⟨.slice (some ⟨w.heap.size, 0, none⟩) v.size cap, w3, _, _, st.S, ?_, hev, hinv, ?_, hk⟩
  · have hshape : (w.drew.alloc (.cells us e)).shape? w.heap.size = some (e, us.size) := by
      have : (w.drew.alloc (.cells us e)).heap[w.heap.size]? = some (.cells us e) := World.heap_alloc_eq (w := w.drew)
      unfold World.shape?; rw [this]
    simp only [execOp, hop, hax, convert, Sem.run_bind, run_und hs, run_und ht, run_und he, Result.andThen_ok]
    have hd1 : v.data.map (fun b => Value.int .u8 b.toNat) ++ Array.replicate (cap - v.size) (.int .u8 0) = us := hus.symm
    have hrun : (Conv.stringToBytes e v).run P w = .ok (.slice (some ⟨w.heap.size, 0, none⟩) v.size cap) w3 := by
      unfold Conv.stringToBytes
      simp only [Sem.run_bind, run_choose_drew, Question.forced, Bool.false_eq_true, if_false, Result.andThen_ok, ← hcap, hd1]
      rw [hw3]
      have h1 : (newRow e us).run P w.drew = .ok ⟨w.heap.size, 0, none⟩ (w.drew.alloc (.cells us e)) := by
        simp only [newRow, Sem.run_bind, run_newObj_alloc, Result.andThen_ok, Sem.run_pure]; rfl
      rw [h1]
      simp only [Result.andThen_ok]
      have h2 : (markStringish ⟨w.heap.size, 0, none⟩).run P (w.drew.alloc (.cells us e)) = .ok () ((w.drew.alloc (.cells us e)).freeze ⟨w.heap.size, us.size, none⟩ 1) := by
        simp only [markStringish, shape, freeze, Sem.run_bind, Sem.run, hshape]
        rfl
      rw [h2]
      simp only [Result.andThen_ok, Sem.run_pure]
    rw [hrun]
    rfl
  · rw [← hlen]
    refine VRel.sl_mk (us := v.data.toList.map fun b => .int .u8 b.toNat) (by omega) (by simp) (fun x hx => ?_) ?_ fun i u hu => ?_
    · simp only [bytesV, List.mem_map] at hx
      obtain ⟨b, _, rfl⟩ := hx
      simp [u8V, V.cells, V.okv, V.one, Value.oneCell']
    · have : (bytesV v).flatMap V.cells = (v.data.toList.map fun b => Value.int .u8 b.toNat).map .lit := by
        simp only [bytesV, List.flatMap_map, u8V, V.cells, List.map_map]
        induction v.data.toList with
        | nil => rfl
        | cons b l ih => simp only [List.flatMap_cons, List.map_cons, ih]; rfl
      rw [this]; exact VRels.lits _ _
    · simp only [Im.add, if_true, Nat.zero_add]
      rw [hus]
      have hi := (List.getElem?_eq_some_iff.1 hu).1
      simp at hi
      rw [Array.getElem?_append_left (by simpa using hi)]
      simpa using hu

theorem foldl_push (l : List UInt8) (acc : ByteArray) : (l.map fun b => (b.toNat : Int)).foldl (fun r n => r.push (UInt8.ofNat n.toNat)) acc = ⟨acc.data ++ l.toArray⟩ := by
  induction l generalizing acc with
  | nil => simp
  | cons b l ih =>
    simp only [List.map_cons, List.foldl_cons]
    rw [ih]
    have : UInt8.ofNat ((b.toNat : Int).toNat) = b := by simp
    rw [this]
    simp [ByteArray.push]

theorem AT.ofBytes {s t e : TypeId} {x : Operand} {v : ByteArray} {full : Bool} (hop : o.op = .convert s t x) (hd : dstOk st.n o.dst) (hs : P.underlying s = some (.slice e)) (he : P.underlying e = some (.int .u8)) (ht : P.underlying t = some .string)
    (hx : VLe st.S (st.opnd x) (.sl full 1 (bytesV v))) (hk : K (st.put o.dst (.lit (.string v)))) : ATake P o K st := by
  refine AT.pure (v := .lit (.string v)) hd (by rw [hop]; rfl) (fun G w a hr => ?_) hk
  have hv := hx G w _ hr.inv (hr.opnd x)
  obtain ⟨ad, cap, us, hax, hcap, hfull, hok, hrel, hlen, hne⟩ := hv.sl_cells
  refine ⟨.string v, fun w' hw' => ?_, .lit _⟩
  have hbl : (bytesV v).length = v.size := by simp [bytesV]
  have hus : us = (v.data.toList.map fun b => (b.toNat : Int)).map (Value.int .u8) := by
    have h1 : (bytesV v).flatMap V.cells = ((v.data.toList.map fun b => (b.toNat : Int)).map (Value.int .u8)).map .lit := by
      simp only [bytesV, List.flatMap_map, u8V, V.cells, List.map_map]
      induction v.data.toList with
      | nil => rfl
      | cons b l ih => simp only [List.flatMap_cons, List.map_cons, ih]; rfl
    rw [h1] at hrel
    refine List.ext_getElem? fun i => ?_
    cases hi : us[i]? with
    | none =>
      have h2 := List.getElem?_eq_none_iff.1 hi
      have h3 := hrel.1
      rw [List.length_map] at h3
      rw [List.getElem?_eq_none (by omega)]
    | some u =>
      have h2 := (List.getElem?_eq_some_iff.1 hi).1
      have h3 := hrel.1
      rw [List.length_map] at h3
      have h4 := hrel.2 i _ u (by rw [List.getElem?_map, List.getElem?_eq_getElem (by omega)]; rfl) hi
      have h5 := h4.lit_inv
      rw [List.getElem?_eq_getElem (by omega), h5]
  have hrun : (convert s t (a.eval x)).run P w' = .ok (.string v) w' := by
    rw [hax]
    rw [run_convert_bytes_string w' s t e _ _ _ hs he ht]
    by_cases hz : v.size = 0
    · have hv0 : v = ByteArray.empty := by
        cases v with | mk d => have : d = #[] := Array.eq_empty_of_size_eq_zero hz; subst this; rfl
      cases ad with
      | none => subst hv0; simp [Conv.bytesToString]
      | some ad =>
        have := run_bytesToString (P := P) w' ad (bytesV v).length cap [] (by rw [hbl, hz]; rfl)
        rw [this]; subst hv0; rfl
    · have hne' : bytesV v ≠ [] := fun e => by rw [e] at hbl; simp at hbl; omega
      obtain ⟨b, o', rfl, hG⟩ := hne hne'
      have hl := run_loadCells_list (P := P) (w := w') ⟨b, o', none⟩ us (fun j u hu => by rw [Addr.add_eq]; exact hw' _ _ _ (hG j u hu))
      rw [hlen, Nat.mul_one, hus] at hl
      rw [run_bytesToString (P := P) w' ⟨b, o', none⟩ (bytesV v).length cap _ hl, foldl_push]
      simp
  simp only [execOp, hop, Sem.run_bind, hrun, Result.andThen_ok, Sem.run_pure]

end
end Go.AW
