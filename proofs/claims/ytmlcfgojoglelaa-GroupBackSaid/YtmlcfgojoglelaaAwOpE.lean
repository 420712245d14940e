/- The engine AW, part 10: structs, interfaces, function values, slicing, conversions. -/
import Derived.Test.YtmlcfgojoglelaaAwCall
set_option linter.unusedVariables false
set_option linter.unusedSimpArgs false
namespace Go.AW
open Go.Great

theorem splice_get (cs : List V) (o : Nat) (vs : List V) (h : o + vs.length ≤ cs.length) (k : Nat) :
    (splice cs o vs)[k]? = if o ≤ k ∧ k < o + vs.length then vs[k - o]? else cs[k]? := by
  unfold splice
  have hl : (cs.take o).length = o := by simp; omega
  rw [List.append_assoc]
  by_cases h1 : k < o
  · rw [List.getElem?_append_left (by omega), List.getElem?_take, if_pos h1, if_neg (by omega)]
  · rw [List.getElem?_append_right (by omega), hl]
    by_cases h2 : k < o + vs.length
    · rw [List.getElem?_append_left (by omega), if_pos ⟨by omega, h2⟩]
    · rw [List.getElem?_append_right (by omega), List.getElem?_drop, if_neg (by omega)]
      congr 1; omega
theorem splice_length (cs : List V) (o : Nat) (vs : List V) (h : o + vs.length ≤ cs.length) : (splice cs o vs).length = cs.length := by
  unfold splice; simp; omega

def fillV (place : Nat → Option (Nat × Nat)) (cells : List V) : List (Nat × V) → Option (List V)
  | [] => some cells
  | (i, v) :: rest =>
    match place i with
    | none => none
    | some (off, size) => if v.cells.length = size ∧ off + v.cells.length ≤ cells.length ∧ v.okv = true then fillV place (splice cells off v.cells) rest else none

theorem fillV_run {G : Im} (place : Nat → Option (Nat × Nat)) : ∀ (parts : List (Nat × V)) (parts' : List (Nat × Value)) (cells : List V) (us : Array Value) (cs : List V),
    VRels G cells us.toList → parts.map (·.1) = parts'.map (·.1) → VRels G (parts.map (·.2)) (parts'.map (·.2)) → fillV place cells parts = some cs → ∃ r, Instr.fill place us parts' = some r ∧ VRels G cs r.toList
  | [], parts', cells, us, cs, hc, hi, hv, h => by
    cases parts' with
    | nil => simp [fillV] at h; subst h; exact ⟨us, rfl, hc⟩
    | cons p ps => simp at hi
  | (i, v) :: rest, parts', cells, us, cs, hc, hi, hv, h => by
    cases parts' with
    | nil => simp at hi
    | cons p ps =>
      obtain ⟨i', x⟩ := p
      simp at hi
      obtain ⟨rfl, hi⟩ := hi
      simp only [List.map_cons] at hv
      obtain ⟨x', xs', hx, hvx, hrest⟩ := hv.cons_inv
      simp at hx
      obtain ⟨rfl, rfl⟩ := hx
      simp only [fillV] at h
      split at h
      · cases h
      · rename_i off size hp
        split at h
        · rename_i hcond
          obtain ⟨h1, h2, h3⟩ := hcond
          have hcl := (hvx.okv h3).1
          have hsz : x.cells.size = v.cells.length := by rw [hcl.1]; simp
          have hcs := hc.1
          simp only [Instr.fill, hp, hsz, h1]
          rw [if_neg (by simp; rw [← h1]; simp at hcs; omega)]
          obtain ⟨hs, hk⟩ := foldl_set off x.cells.toList 0 us
          refine fillV_run place rest ps (splice cells off v.cells) _ cs ?_ hi hrest h
          have e : (Array.foldl (fun cs (x : Value × Nat) => cs.setIfInBounds (off + x.2) x.1) us x.cells.zipIdx) = (x.cells.toList.zipIdx 0).foldl (fun cs (x : Value × Nat) => cs.setIfInBounds (off + x.2) x.1) us := by
            rw [← Array.foldl_toList]; simp
          show VRels G _ (Array.foldl (fun cs (x : Value × Nat) => cs.setIfInBounds (off + x.2) x.1) us x.cells.zipIdx).toList
          rw [e]
          refine ⟨by rw [splice_length _ _ _ h2, hcs]; simpa using hs.symm, fun k c y hkc hky => ?_⟩
          rw [splice_get _ _ _ h2] at hkc
          rw [Array.getElem?_toList, hk k] at hky
          simp only [Nat.add_zero, Array.length_toList, hsz] at hky
          have hlt : k < us.size ∨ ¬ k < us.size := Nat.lt_or_ge _ _ |>.imp id (by omega)
          by_cases hin : off ≤ k ∧ k < off + v.cells.length
          · rw [if_pos hin] at hkc
            rw [if_pos ⟨hin.1, hin.2, by simp at hcs; omega⟩] at hky
            exact hcl.2 _ c y hkc hky
          · rw [if_neg hin] at hkc
            rw [if_neg (fun h => hin ⟨h.1, h.2.1⟩)] at hky
            exact hc.2 k c y hkc (by simpa using hky)
        · cases h

def placesOf (P : Program) : List Field → Option (List (Nat × Nat))
  | [] => some []
  | f :: fs =>
    match szA P f.type, placesOf P fs with
    | some n, some ps => some ((f.offset, n) :: ps)
    | _, _ => none

theorem placesOf_run {P : Program} {w : World} : ∀ (fs : List Field) (ps : List (Nat × Nat)), placesOf P fs = some ps → (fs.mapM fun (f : Field) => (do pure (f.offset, ← sizeOf f.type) : Sem (Nat × Nat))).run P w = .ok ps w
  | [], ps, h => by simp [placesOf] at h; subst h; rfl
  | f :: fs, ps, h => by
    simp only [placesOf] at h
    split at h
    · rename_i n ps' hn hps
      simp at h; subst h
      simp only [List.mapM_cons, Sem.run_bind, run_size hn, Result.andThen_ok, Sem.run_pure, placesOf_run fs ps' hps]
    · cases h

section
variable {ro : Option Nat} {P : Program} {o : Oper} {K : St → Prop} {Q : Exit → St → Prop} {st : St}

theorem AT.build {t : TypeId} {parts : Array (Nat × Operand)} {fs : Array Field} {ps : List (Nat × Nat)} {z : Value} {cs : List V} (hop : o.op = .build t parts) (hd : dstOk st.n o.dst)
    (hz : zeroA P t = some z) (hu : P.underlying t = some (.struct fs)) (hps : placesOf P fs.toList = some ps)
    (hf : fillV (ps[·]?) (z.cells.toList.map .lit) (parts.toList.map fun p => (p.1, fz st.S (st.opnd p.2))) = some cs) (hk : K (st.put o.dst (.agg cs))) : ATake P o K st :=
  AT.pure hd (by rw [hop]; rfl) (fun G w a hr => by
    have hrel : VRels G ((parts.toList.map fun p => (p.1, fz st.S (st.opnd p.2))).map (·.2)) ((parts.toList.map fun p => (p.1, a.eval p.2)).map (·.2)) := by
      rw [List.map_map, List.map_map]
      have h1 := (VsLe.map (VLe.fz st.S) ((parts.toList.map (·.2)).map st.opnd)) G w _ hr.inv (hr.opnds (parts.toList.map (·.2)))
      rw [List.map_map, List.map_map] at h1
      rw [List.map_map] at h1
      exact h1
    obtain ⟨r, hr1, hr2⟩ := fillV_run (G := G) (ps[·]?) _ (parts.toList.map fun p => (p.1, a.eval p.2)) _ z.cells cs (VRels.lits G _) (by simp) hrel hf
    refine ⟨.agg r, fun w _ => ?_, by have := VRel.agg' hr2; simpa using this⟩
    have hparts : (parts.map fun (i, x) => (i, a.eval x)).toList = parts.toList.map fun p => (p.1, a.eval p.2) := by simp
    simp only [execOp, hop, Instr.build, Sem.run_bind, run_zero hz, Result.andThen_ok, run_und hu, Array.mapM_eq_mapM_toList, Sem.run_map, placesOf_run _ _ hps]
    have e : (fun (x : Nat) => (ps.toArray[x]? : Option (Nat × Nat))) = fun (x : Nat) => ps[x]? := by funext x; simp
    simp only [hparts, e, hr1, Sem.run_pure, Result.andThen_ok]) hk

theorem AOp.buildSlice {t e : TypeId} {len : Nat} {parts : Array (Nat × Operand)} {xs : List Operand} {sz : Nat} {z : Value} (hop : o.op = .buildSlice t len parts) (hd : dstOk st.n o.dst)
    (hu : P.underlying t = some (.slice e)) (hs : szA P e = some sz) (hz : zeroA P e = some z) (hsz : 0 < sz) (hparts : parts.toList = (xs.zipIdx 0).map fun x => (x.2, x.1)) (hlen : len = xs.length) (hbig : len * sz ≤ 16777216)
    (hv : ∀ v ∈ xs.map (fun x => fz st.S (st.opnd x)), v.cells.length = sz ∧ v.okv = true) (hk : K (st.put o.dst (.sl true sz (xs.map fun x => fz st.S (st.opnd x))))) : AOp ro P o K Q st := by
  subst hlen
  refine AOp.value hd (by rw [hop]; rfl) fun G w a hr => ?_
  have hrel : VRels G (xs.map fun x => fz st.S (st.opnd x)) (xs.map a.eval) := by
    have h2 := (VsLe.map (VLe.fz st.S) (xs.map st.opnd)) G w _ hr.inv (hr.opnds xs)
    rw [List.map_map] at h2; exact h2
  have hflat := hrel.flat fun v hv' => (hv v hv').2
  obtain ⟨cells, hcells⟩ : ∃ cells, cells = ((xs.map a.eval).flatMap fun x => x.cells.toList).toArray := ⟨_, rfl⟩
  obtain ⟨he, hi⟩ := hr.inv.alloc_im cells e
  have hsizes : ∀ x ∈ xs.map a.eval, x.cells.size = sz := by
    intro x hx
    obtain ⟨i, hi⟩ := List.mem_iff_getElem?.1 hx
    have hl : i < (xs.map fun x => fz st.S (st.opnd x)).length := by have := (List.getElem?_eq_some_iff.1 hi).1; simpa using this
    have h1 := hrel.2 i _ x (List.getElem?_eq_getElem hl) hi
    have h2 := hv _ (List.getElem_mem hl)
    have h3 := (h1.okv h2.2).1.1
    rw [h2.1] at h3; simpa using h3.symm
  refine ⟨.slice (some ⟨w.heap.size, 0, none⟩) xs.length xs.length, w.alloc (.cells cells e), G.add w.heap.size cells, .sl true sz (xs.map fun x => fz st.S (st.opnd x)), st.S, ?_, he, hi, ?_, hk⟩
  · simp only [szA, zeroA, Option.map_eq_some_iff, Option.bind_eq_some_iff] at hs hz
    obtain ⟨i, hti, rfl⟩ := hs
    obtain ⟨i', hti', hz⟩ := hz
    obtain rfl : i = i' := by rw [hti] at hti'; exact Option.some.inj hti'
    have hpl : (parts.map fun (i, x) => (i, a.eval x)).toList = ((xs.map a.eval).zipIdx 0).map fun x => (x.2, x.1) := by
      rw [Array.toList_map, hparts, List.zipIdx_map, List.map_map, List.map_map]
      rfl
    by_cases h0 : xs.length * i.size = 0
    · have hx : xs = [] := by
        rcases Nat.mul_eq_zero.1 h0 with h | h
        · exact List.eq_nil_of_length_eq_zero h
        · omega
      subst hx
      simp only [execOp, hop]
      simp at hpl
      simp [Instr.buildSlice, run_und hu, sizeOf, typeInfo, hti, hpl, Instr.fill, newRow, hcells]
      rw [Go.Array.range_zero', Array.map_empty]
    · have hf := fill_whole (s := i.size) hsz (xs.map a.eval) ((Array.range (xs.length * i.size)).map (z.cells[· % z.cells.size]!)) hsizes (by simp)
      rw [← hpl, ← hcells] at hf
      have hb := run_buildSlice (P := P) w t e xs.length _ cells i z hu hti hz (by simp; omega) h0 hf
      simp only [execOp, hop, Sem.run_bind, hb, Result.andThen_ok]
      rfl
  · have hlen' : (xs.map fun x => fz st.S (st.opnd x)).length = xs.length := by simp
    have := VRel.sl_mk (G := G.add w.heap.size cells) (full := true) (sz := sz) (b := w.heap.size) (xs := xs.map fun x => fz st.S (st.opnd x)) (us := cells.toList) (cap := xs.length) (by simp) (by simp) hv
      (by have h := hflat.mono he.im; have e : cells.toList = (xs.map a.eval).flatMap fun x => x.cells.toList := by rw [hcells]
          rw [e]; exact h) (o := 0) (fun i u hu => by simp only [Im.add, Nat.zero_add, if_true]; simpa using hu)
    rw [hlen'] at this
    exact this


/-- A value known whole. -/
def exact1 : V → Option Value
  | .lit v => some v
  | _ => none
def exacts : List V → Option (List Value)
  | [] => some []
  | v :: vs =>
    match exact1 v, exacts vs with
    | some x, some xs => some (x :: xs)
    | _, _ => none
def exact : V → Option Value
  | .lit v => some v
  | .agg cs => (exacts cs).map fun xs => .agg xs.toArray
  | _ => none
theorem exacts_rel {G : Im} : ∀ {vs : List V} {xs ys : List Value}, exacts vs = some xs → VRels G vs ys → ys = xs
  | [], xs, ys, h, hv => by simp [exacts] at h; subst h; exact hv.nil_inv
  | v :: vs, xs, ys, h, hv => by
    simp only [exacts] at h
    split at h
    · rename_i x xs' hx hxs
      simp at h; subst h
      obtain ⟨y, ys', rfl, h1, h2⟩ := hv.cons_inv
      rw [exacts_rel hxs h2]
      cases v <;> simp [exact1] at hx
      subst hx
      rw [h1.lit_inv]
    · cases h
theorem exact_rel {G : Im} {v : V} {x y : Value} (h : exact v = some x) (hv : VRel G v y) : y = x := by
  cases v <;> simp [exact] at h
  · subst h; exact hv.lit_inv
  · obtain ⟨xs, h1, rfl⟩ := h
    obtain ⟨ys, rfl, h2⟩ := hv.agg_inv
    rw [exacts_rel h1 h2]

/-- A value wrapped with its type. -/
def ifaceOf (t : TypeId) (v : V) : V :=
  match exact v with
  | some x => .lit (.iface t x)
  | none => .iface t v
theorem ifaceOf_rel {G : Im} {t : TypeId} {v : V} {x : Value} (hv : VRel G v x) : VRel G (ifaceOf t v) (.iface t x) := by
  unfold ifaceOf
  split
  · rename_i y hy
    rw [exact_rel hy hv]; exact .lit _
  · exact .iface hv

def isIfaceD : TypeDesc → Bool
  | .interface _ => true
  | _ => false

theorem AT.makeInterface {t : TypeId} {x : Operand} {d : TypeDesc} (hop : o.op = .makeInterface t x) (hd : dstOk st.n o.dst) (hu : P.underlying t = some d) (hi : isIfaceD d = false)
    (hk : K (st.put o.dst (ifaceOf t (fz st.S (st.opnd x))))) : ATake P o K st :=
  AT.pure hd (by rw [hop]; rfl) (fun G w a hr => ⟨.iface t (a.eval x), fun w _ => by
    simp only [execOp, hop, Instr.makeInterface, Sem.run_bind, run_und hu, Result.andThen_ok]
    cases d <;> simp [isIfaceD] at hi <;> rfl, ifaceOf_rel (VLe.fz st.S _ G w _ hr.inv (hr.opnd x))⟩) hk

def funcOf (fn : Fn) (f c : List V) : V :=
  match exacts f, exacts c with
  | some f', some c' => .lit (.func fn f'.toArray c'.toArray)
  | _, _ => .func fn f c
theorem funcOf_rel {G : Im} {fn : Fn} {f c : List V} {f' c' : List Value} (hf : VRels G f f') (hc : VRels G c c') : VRel G (funcOf fn f c) (.func fn f'.toArray c'.toArray) := by
  unfold funcOf
  split
  · rename_i a b ha hb
    rw [exacts_rel ha hf, exacts_rel hb hc]; exact .lit _
  · exact .func' hf hc

theorem AT.makeFunc {fn : Fn} {f c : Array Operand} (hop : o.op = .makeFunc fn f c) (hd : dstOk st.n o.dst)
    (hk : K (st.put o.dst (funcOf fn (f.toList.map fun x => fz st.S (st.opnd x)) (c.toList.map st.opnd)))) : ATake P o K st :=
  AT.pure hd (by rw [hop]; rfl) (fun G w a hr => ⟨.func fn (f.toList.map a.eval).toArray (c.toList.map a.eval).toArray, fun w _ => by
    simp only [execOp, hop, Instr.makeFunc]
    simp
    exact ⟨Array.ext' (by simp), Array.ext' (by simp)⟩, funcOf_rel (by
      have h2 := (VsLe.map (VLe.fz st.S) (f.toList.map st.opnd)) G w _ hr.inv (hr.opnds f.toList)
      rw [List.map_map] at h2; exact h2) (hr.opnds c.toList)⟩) hk

/-- What an interface value holds, of a type. -/
def unwrap (t : TypeId) : V → Option V
  | .lit (.iface t' x) => if t' = t then some (V.of x) else none
  | .iface t' v => if t' = t then some v else none
  | _ => none
theorem unwrap_rel {G : Im} {t : TypeId} {v u : V} {x : Value} (h : unwrap t v = some u) (hv : VRel G v x) : ∃ y, x = .iface t y ∧ VRel G u y := by
  cases v with
  | lit l =>
    have hx := hv.lit_inv; subst hx
    simp only [unwrap] at h
    split at h
    · rename_i t' y e; cases e
      split at h
      · rename_i e; subst e; simp at h; subst h; exact ⟨y, rfl, .of G y⟩
      · cases h
    · rename_i e; cases e
    · cases h
  | iface t' v =>
    simp only [unwrap] at h
    split at h
    · rename_i e; subst e; simp at h; subst h
      cases hv with
      | iface h => exact ⟨_, rfl, h⟩
    · cases h
  | _ => simp [unwrap] at h

theorem AT.typeAssert {x : Operand} {xT t : TypeId} {d : TypeDesc} {u : V} (hop : o.op = .typeAssert x xT t false) (hd : dstOk st.n o.dst) (hu : P.underlying t = some d) (hi : isIfaceD d = false)
    (hx : unwrap t (st.opnd x) = some u) (hk : K (st.put o.dst u)) : ATake P o K st :=
  AT.pure hd (by rw [hop]; rfl) (fun G w a hr => by
    obtain ⟨y, hy, hrel⟩ := unwrap_rel hx (hr.opnd x)
    refine ⟨y, fun w _ => ?_, hrel⟩
    simp only [execOp, hop, hy, Instr.typeAssert, Sem.run_bind, run_und hu, Result.andThen_ok]
    cases d <;> simp [isIfaceD] at hi <;> simp) hk

/-! #### Slicing -/

def boundOf (st : St) (dflt : Nat) : Option Operand → Option Int
  | none => some dflt
  | some x =>
    match st.opnd x with
    | .lit (.int _ i) => some i
    | _ => none

theorem boundOf_val {G : Im} {w : World} {a : Act} (hr : Rel G w a st) {d : Nat} {x : Option Operand} {i : Int} (h : boundOf st d x = some i) :
    (x = none ∧ i = d) ∨ ∃ k, x.map a.eval = some (.int k i) := by
  cases x with
  | none => simp [boundOf] at h; exact .inl ⟨rfl, h.symm⟩
  | some y =>
    simp only [boundOf] at h
    split at h
    · rename_i k i' hy
      simp at h; subst h
      exact .inr ⟨k, by simp [hr.lit hy]⟩
    · cases h

theorem run_sliceBounds {w : World} (isS : Bool) (len cap : Nat) {lo hi : Option Value} {l h : Int} (hl : (lo = none ∧ l = 0) ∨ ∃ k, lo = some (.int k l)) (hh : (hi = none ∧ h = len) ∨ ∃ k, hi = some (.int k h))
    (h0 : 0 ≤ l) (h1 : l ≤ h) (h2 : h ≤ cap) : (Instr.sliceBounds isS len cap lo hi none).run P w = .ok (l.toNat, h.toNat, cap) w := by
  have h3 : l ≤ (h.toNat : Int) := by omega
  have h4 : 0 ≤ h := by omega
  rcases hl with ⟨rfl, rfl⟩ | ⟨k, rfl⟩ <;> rcases hh with ⟨rfl, rfl⟩ | ⟨k', rfl⟩ <;>
    simp only [Instr.sliceBounds, Instr.sliceBound, asIntOf, Sem.run_bind, Sem.run_pure, Result.andThen_ok, Option.isSome_none]
  · simp
  · simp [h4, h2]
  · rw [Int.toNat_natCast] at h3
    simp [h0, h3]
  · simp only [if_pos (And.intro h4 h2), Sem.run_pure, Result.andThen_ok, if_pos (And.intro h0 h3)]

theorem AT.sliceStr {t : TypeId} {x : Operand} {lo hi : Option Operand} {s : ByteArray} {l h : Int} (hop : o.op = .slice t x lo hi none) (hd : dstOk st.n o.dst)
    (hu : P.underlying t = some .string) (hx : VLe st.S (st.opnd x) (.lit (.string s))) (hl : boundOf st 0 lo = some l) (hh : boundOf st s.size hi = some h) (h0 : 0 ≤ l) (h1 : l ≤ h) (h2 : h ≤ s.size)
    (hk : K (st.put o.dst (.lit (.string (s.extract l.toNat h.toNat))))) : ATake P o K st :=
  AT.pure hd (by rw [hop]; rfl) (fun G w a hr => by
    have hax := (hx G w _ hr.inv (hr.opnd x)).lit_inv
    refine ⟨_, fun w _ => ?_, .lit _⟩
    have hb := run_sliceBounds (P := P) (w := w) false s.size s.size (lo := lo.map a.eval) (hi := hi.map a.eval) (l := l) (h := h)
      ((boundOf_val hr hl).imp (fun ⟨e, e'⟩ => ⟨by rw [e]; rfl, e'⟩) id) ((boundOf_val hr hh).imp (fun ⟨e, e'⟩ => ⟨by rw [e]; rfl, e'⟩) id) h0 h1 h2
    simp only [execOp, hop, hax, Instr.sliceAt, Sem.run_bind, run_und hu, Result.andThen_ok, Instr.slice]
    simp [hb]) hk

/-- A part of a slice, by content. -/
theorem AT.sliceSl {t e : TypeId} {x : Operand} {lo hi : Option Operand} {full : Bool} {sz : Nat} {xs : List V} {l h : Int} (hop : o.op = .slice t x lo hi none) (hd : dstOk st.n o.dst)
    (hu : P.underlying t = some (.slice e)) (hs : szA P e = some sz) (hx : VLe st.S (st.opnd x) (.sl full sz xs)) (hl : boundOf st 0 lo = some l) (hh : boundOf st xs.length hi = some h) (h0 : 0 ≤ l) (h1 : l ≤ h) (h2 : h ≤ xs.length)
    (hk : K (st.put o.dst (.sl (full && decide (h = xs.length)) sz ((xs.take h.toNat).drop l.toNat)))) : ATake P o K st :=
  AT.pure hd (by rw [hop]; rfl) (fun G w a hr => by
    have hv := hx G w _ hr.inv (hr.opnd x)
    obtain ⟨ad, cap, us, hax, hcap, hfull, hok, hrel, hlen, hne⟩ := hv.sl_cells
    have hb := fun w => run_sliceBounds (P := P) (w := w) true xs.length cap (lo := lo.map a.eval) (hi := hi.map a.eval) (l := l) (h := h)
      ((boundOf_val hr hl).imp (fun ⟨e, e'⟩ => ⟨by rw [e]; rfl, e'⟩) id) ((boundOf_val hr hh).imp (fun ⟨e, e'⟩ => ⟨by rw [e]; rfl, e'⟩) id) h0 h1 (by omega)
    refine ⟨.slice (if cap = l.toNat then ad else ad.map (·.add (l.toNat * sz))) (h.toNat - l.toNat) (cap - l.toNat), fun w _ => ?_, ?_⟩
    · simp only [execOp, hop, hax, Instr.sliceAt, Sem.run_bind, run_und hu, Result.andThen_ok, Instr.slice]
      simp [hb, run_size hs]
    · have hlen' : ((xs.take h.toNat).drop l.toNat).length = h.toNat - l.toNat := by simp; omega
      rw [← hlen']
      have hsub : ∀ x ∈ (xs.take h.toNat).drop l.toNat, x ∈ xs := fun x hx => List.mem_of_mem_take (List.mem_of_mem_drop hx)
      by_cases he : (xs.take h.toNat).drop l.toNat = []
      · rw [he]
        refine .sl 0 0 (fun _ => undef) (fun e => absurd rfl e) (by simp) (by simp) (by simp) (fun hf => ?_) (by simp) (by simp)
        simp only [Bool.and_eq_true, decide_eq_true_eq] at hf
        have := hfull hf.1
        have h5 : (xs.take h.toNat).drop l.toNat = [] := he
        have : ((xs.take h.toNat).drop l.toNat).length = 0 := by rw [he]; rfl
        simp; omega
      · have hxs : xs ≠ [] := fun e => he (by rw [e]; simp)
        obtain ⟨b, o', rfl, hG⟩ := hne hxs
        have hlt : l.toNat < h.toNat := by
          rcases Nat.lt_or_ge l.toNat h.toNat with h | h
          · exact h
          · exact absurd (List.eq_nil_of_length_eq_zero (by rw [hlen']; omega)) he
        have had : (if cap = l.toNat then (some ⟨b, o', none⟩ : Option Addr) else (some ⟨b, o', none⟩ : Option Addr).map (·.add (l.toNat * sz))) = some ⟨b, o' + l.toNat * sz, none⟩ := by
          rw [if_neg (by omega)]; simp [Addr.add_eq]
        rw [had]
        have hflat : ∀ (l : List V) (n : Nat), (∀ x ∈ l, x.cells.length = sz) → (l.drop n).flatMap V.cells = (l.flatMap V.cells).drop (n * sz) := by
          intro l
          induction l with
          | nil => intro n _; simp
          | cons y l ih =>
            intro n hy
            cases n with
            | zero => simp
            | succ n =>
              rw [List.drop_succ_cons, ih n fun z hz => hy z (List.mem_cons_of_mem _ hz), List.flatMap_cons, List.drop_append]
              have h1 := hy y List.mem_cons_self
              rw [h1, Nat.succ_mul]
              have : List.drop (n * sz + sz) y.cells = [] := List.drop_eq_nil_of_le (by omega)
              rw [this]; simp
        have hflatT : ∀ (l : List V) (n : Nat), (∀ x ∈ l, x.cells.length = sz) → (l.take n).flatMap V.cells = (l.flatMap V.cells).take (n * sz) := by
          intro l
          induction l with
          | nil => intro n _; simp
          | cons y l ih =>
            intro n hy
            cases n with
            | zero => simp
            | succ n =>
              rw [List.take_succ_cons, List.flatMap_cons, ih n fun z hz => hy z (List.mem_cons_of_mem _ hz), List.flatMap_cons, List.take_append]
              have h1 := hy y List.mem_cons_self
              rw [h1, Nat.succ_mul]
              have : List.take (n * sz + sz) y.cells = y.cells := List.take_of_length_le (by omega)
              rw [this]; simp
        refine VRel.sl_mk (us := (us.take (h.toNat * sz)).drop (l.toNat * sz)) (by rw [hlen']; omega) (fun hf => ?_) (fun x hx => hok x (hsub x hx)) ?_ (fun i u hu => ?_)
        · simp only [Bool.and_eq_true, decide_eq_true_eq] at hf
          have := hfull hf.1
          rw [hlen']; omega
        · rw [hflat _ _ fun x hx => (hok x (List.mem_of_mem_take hx)).1, hflatT _ _ fun x hx => (hok x hx).1]
          refine VRels.drop ⟨by simp [hrel.1], fun i v y hv hy => ?_⟩ _
          rw [List.getElem?_take] at hv hy
          split at hv
          · rename_i hlt; rw [if_pos hlt] at hy; exact hrel.2 i v y hv hy
          · cases hv
        · rw [List.getElem?_drop, List.getElem?_take] at hu
          split at hu
          · rw [Nat.add_assoc]; exact hG _ _ hu
          · cases hu) hk

theorem run_sliceBounds3 (isS : Bool) (len cap : Nat) {lo hi mx : Option Value} {l h m : Int} (hl : (lo = none ∧ l = 0) ∨ ∃ k, lo = some (.int k l)) (hh : ∃ k, hi = some (.int k h)) (hm : ∃ k, mx = some (.int k m))
    (h0 : 0 ≤ l) (h1 : l ≤ h) (h2 : h ≤ m) (h3 : m ≤ cap) (w : World) : (Instr.sliceBounds isS len cap lo hi mx).run P w = .ok (l.toNat, h.toNat, m.toNat) w := by
  obtain ⟨k', rfl⟩ := hh
  obtain ⟨k'', rfl⟩ := hm
  have e1 : 0 ≤ m ∧ m ≤ (cap : Int) := ⟨by omega, h3⟩
  have e2 : 0 ≤ h ∧ h ≤ (m.toNat : Int) := ⟨by omega, by omega⟩
  have e3 : 0 ≤ l ∧ l ≤ (h.toNat : Int) := ⟨h0, by omega⟩
  rcases hl with ⟨rfl, rfl⟩ | ⟨k, rfl⟩ <;>
    simp only [Instr.sliceBounds, Instr.sliceBound, asIntOf, Sem.run_bind, Sem.run_pure, Result.andThen_ok, Option.isSome_some, if_pos e1, if_pos e2, if_pos e3]
  simp

/-- A part of a slice, by content, its capacity told. -/
theorem AT.sliceSl3 {t e : TypeId} {x : Operand} {lo : Option Operand} {hi mx : Operand} {full : Bool} {sz : Nat} {xs : List V} {l h m : Int} (hop : o.op = .slice t x lo (some hi) (some mx)) (hd : dstOk st.n o.dst)
    (hu : P.underlying t = some (.slice e)) (hs : szA P e = some sz) (hx : VLe st.S (st.opnd x) (.sl full sz xs)) (hl : boundOf st 0 lo = some l) (hh : boundOf st 0 (some hi) = some h) (hm : boundOf st 0 (some mx) = some m) (h0 : 0 ≤ l) (h1 : l ≤ h) (h2 : h ≤ m) (h3 : m ≤ xs.length)
    (hk : K (st.put o.dst (.sl (decide (h = m)) sz ((xs.take h.toNat).drop l.toNat)))) : ATake P o K st :=
  AT.pure hd (by rw [hop]; rfl) (fun G w a hr => by
    have hv := hx G w _ hr.inv (hr.opnd x)
    obtain ⟨ad, cap, us, hax, hcap, hfull, hok, hrel, hlen, hne⟩ := hv.sl_cells
    have hb := run_sliceBounds3 (P := P) true xs.length cap (lo := lo.map a.eval) (hi := (some hi).map a.eval) (mx := (some mx).map a.eval) (l := l) (h := h) (m := m)
      ((boundOf_val hr hl).imp (fun ⟨e, e'⟩ => ⟨by rw [e]; rfl, e'⟩) id) ((boundOf_val hr hh).resolve_left (fun e => by cases e.1)) ((boundOf_val hr hm).resolve_left (fun e => by cases e.1)) h0 h1 h2 (by omega)
    simp only [Option.map_some] at hb
    refine ⟨.slice (if m.toNat = l.toNat then ad else ad.map (·.add (l.toNat * sz))) (h.toNat - l.toNat) (m.toNat - l.toNat), fun w _ => ?_, ?_⟩
    · simp only [execOp, hop, hax, Instr.sliceAt, Sem.run_bind, run_und hu, Result.andThen_ok, Instr.slice]
      simp [hb, run_size hs]
    · have hlen' : ((xs.take h.toNat).drop l.toNat).length = h.toNat - l.toNat := by simp; omega
      rw [← hlen']
      have hsub : ∀ x ∈ (xs.take h.toNat).drop l.toNat, x ∈ xs := fun x hx => List.mem_of_mem_take (List.mem_of_mem_drop hx)
      by_cases he : (xs.take h.toNat).drop l.toNat = []
      · rw [he]
        refine .sl 0 0 (fun _ => undef) (fun e => absurd rfl e) (by simp) (by simp) (by simp) (fun hf => ?_) (by simp) (by simp)
        simp only [decide_eq_true_eq] at hf
        have h5 : (xs.take h.toNat).drop l.toNat = [] := he
        have : ((xs.take h.toNat).drop l.toNat).length = 0 := by rw [he]; rfl
        simp; omega
      · have hxs : xs ≠ [] := fun e => he (by rw [e]; simp)
        obtain ⟨b, o', rfl, hG⟩ := hne hxs
        have hlt : l.toNat < h.toNat := by
          rcases Nat.lt_or_ge l.toNat h.toNat with h | h
          · exact h
          · exact absurd (List.eq_nil_of_length_eq_zero (by rw [hlen']; omega)) he
        have had : (if m.toNat = l.toNat then (some ⟨b, o', none⟩ : Option Addr) else (some ⟨b, o', none⟩ : Option Addr).map (·.add (l.toNat * sz))) = some ⟨b, o' + l.toNat * sz, none⟩ := by
          rw [if_neg (by omega)]; simp [Addr.add_eq]
        rw [had]
        have hflat : ∀ (l : List V) (n : Nat), (∀ x ∈ l, x.cells.length = sz) → (l.drop n).flatMap V.cells = (l.flatMap V.cells).drop (n * sz) := by
          intro l
          induction l with
          | nil => intro n _; simp
          | cons y l ih =>
            intro n hy
            cases n with
            | zero => simp
            | succ n =>
              rw [List.drop_succ_cons, ih n fun z hz => hy z (List.mem_cons_of_mem _ hz), List.flatMap_cons, List.drop_append]
              have h1 := hy y List.mem_cons_self
              rw [h1, Nat.succ_mul]
              have : List.drop (n * sz + sz) y.cells = [] := List.drop_eq_nil_of_le (by omega)
              rw [this]; simp
        have hflatT : ∀ (l : List V) (n : Nat), (∀ x ∈ l, x.cells.length = sz) → (l.take n).flatMap V.cells = (l.flatMap V.cells).take (n * sz) := by
          intro l
          induction l with
          | nil => intro n _; simp
          | cons y l ih =>
            intro n hy
            cases n with
            | zero => simp
            | succ n =>
              rw [List.take_succ_cons, List.flatMap_cons, ih n fun z hz => hy z (List.mem_cons_of_mem _ hz), List.flatMap_cons, List.take_append]
              have h1 := hy y List.mem_cons_self
              rw [h1, Nat.succ_mul]
              have : List.take (n * sz + sz) y.cells = y.cells := List.take_of_length_le (by omega)
              rw [this]; simp
        refine VRel.sl_mk (us := (us.take (h.toNat * sz)).drop (l.toNat * sz)) (by rw [hlen']; omega) (fun hf => ?_) (fun x hx => hok x (hsub x hx)) ?_ (fun i u hu => ?_)
        · simp only [decide_eq_true_eq] at hf
          rw [hlen']; omega
        · rw [hflat _ _ fun x hx => (hok x (List.mem_of_mem_take hx)).1, hflatT _ _ fun x hx => (hok x hx).1]
          refine VRels.drop ⟨by simp [hrel.1], fun i v y hv hy => ?_⟩ _
          rw [List.getElem?_take] at hv hy
          split at hv
          · rename_i hlt; rw [if_pos hlt] at hy; exact hrel.2 i v y hv hy
          · cases hv
        · rw [List.getElem?_drop, List.getElem?_take] at hu
          split at hu
          · rw [Nat.add_assoc]; exact hG _ _ hu
          · cases hu) hk

end
end Go.AW
