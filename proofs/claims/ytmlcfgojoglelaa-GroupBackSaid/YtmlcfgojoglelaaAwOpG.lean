/- The engine AW, part 11b: slices of one's own that are written: make, parts, copy. -/
import Derived.Test.YtmlcfgojoglelaaAwOpF
import Derived.Laws.MakeOwn
import Derived.Laws.CopyRow
import Derived.Lib.UnsafeStr
set_option linter.unusedVariables false
set_option linter.unusedSimpArgs false
namespace Go.AW

section
variable {ro : Option Nat} {P : Program} {o : Oper} {K : St → Prop} {Q : Exit → St → Prop} {st : St}

theorem madeCells_one (z : Value) (n : Nat) : (madeCells #[z] n).toList = List.replicate n z := by
  refine List.ext_getElem? fun i => ?_
  by_cases h : i < n
  · simp [madeCells, h, Nat.mod_one]
  · simp [madeCells, h]

/-- A new slice of values of one cell each. -/
theorem AOp.makeSlice1 {t e : TypeId} {x y : Operand} {k k' : IntKind} {n : Int} {z : Value} {bytes : Nat} (hop : o.op = .makeSlice t x y) (hd : dstOk st.n o.dst) (ht : P.underlying t = some (.slice e)) (hs : szA P e = some 1) (hz : zeroA P e = some z) (hzc : z.cells = #[z])
    (hb : bytesA P e = some bytes) (hx : st.opnd x = .lit (.int k n)) (hy : st.opnd y = .lit (.int k' n)) (h0 : 0 ≤ n) (hn : (bytes : Int) * n ≤ 281474976710656) (hn2 : n ≤ 9223372036854775807)
    (hk : ∀ b, Fresh b st.S → K (St.put { st with S := .obj b (List.replicate n.toNat (.lit z)) :: st.S } o.dst (.lit (.slice (some ⟨b, 0, none⟩) n.toNat n.toNat)))) : AOp ro P o K Q st := by
  refine AOp.value hd (by rw [hop]; rfl) fun G w a hr => ?_
  obtain ⟨i, hi, hib⟩ := run_bytes hb
  have hz' : i.zero = some z := by simpa [zeroA, hi] using hz
  have hs' : i.size = 1 := by simpa [szA, hi] using hs
  obtain ⟨he, hinv⟩ := hr.inv.alloc_obj (us := madeCells #[z] n.toNat) (cs := List.replicate n.toNat (.lit z)) e (by
    rw [madeCells_one]
    have := VRels.lits G (List.replicate n.toNat z)
    simpa using this)
  refine ⟨.slice (some ⟨w.heap.size, 0, none⟩) n.toNat n.toNat, w.alloc (.cells (madeCells #[z] n.toNat) e), G, _, _, ?_, he, hinv, .lit _, hk _ (fun hb => by have := hr.inv.lt hb; omega)⟩
  have hrun := run_make (P := P) w t e i z ht hi hz' k k' n n h0 (Int.le_refl _) (by rw [hib]; exact hn) hn2
  rw [hs', Nat.mul_one, hzc] at hrun
  simp only [execOp, hop, hr.lit hx, hr.lit hy, hrun, Sem.run_bind, Result.andThen_ok, Sem.run_pure]

/-- A part of a slice of one's own. -/
theorem AT.sliceLit {t e : TypeId} {x : Operand} {lo hi : Option Operand} {b o' len cap sz : Nat} {l h : Int} (hop : o.op = .slice t x lo hi none) (hd : dstOk st.n o.dst)
    (hu : P.underlying t = some (.slice e)) (hs : szA P e = some sz) (hx : st.opnd x = .lit (.slice (some ⟨b, o', none⟩) len cap)) (hl : boundOf st 0 lo = some l) (hh : boundOf st len hi = some h) (h0 : 0 ≤ l) (h1 : l ≤ h) (h2 : h ≤ cap)
    (hk : K (st.put o.dst (.lit (.slice (some ⟨b, if cap = l.toNat then o' else o' + l.toNat * sz, none⟩) (h.toNat - l.toNat) (cap - l.toNat))))) : ATake P o K st :=
  AT.pure hd (by rw [hop]; rfl) (fun G w a hr => ⟨_, fun w _ => by
    have hb := run_sliceBounds (P := P) (w := w) true len cap (lo := lo.map a.eval) (hi := hi.map a.eval) (l := l) (h := h)
      ((boundOf_val hr hl).imp (fun ⟨e, e'⟩ => ⟨by rw [e]; rfl, e'⟩) id) ((boundOf_val hr hh).imp (fun ⟨e, e'⟩ => ⟨by rw [e]; rfl, e'⟩) id) h0 h1 h2
    simp only [execOp, hop, hr.lit hx, Instr.sliceAt, Sem.run_bind, run_und hu, Result.andThen_ok, Instr.slice]
    simp only [Option.map_none, hb, Sem.run_bind, Result.andThen_ok, run_size hs, Sem.run_pure]
    split
    · rfl
    · simp [Addr.add_eq], .lit _⟩) hk

/-- Copied into a slice of one's own, of values of one cell each, from a slice of one's own or one that never changes. -/
theorem AOp.copy1 {x y : Operand} {t t2 e : TypeId} {ts : Array TypeId} {b o' len cap : Nat} {cs : List V} {src : List V} (hop : o.op = .call ⟨.builtin .copy, #[x, y], #[t, t2]⟩) (hd : dstOk st.n o.dst) (hu : P.underlying t = some (.slice e)) (hs : szA P e = some 1)
    (hx : st.opnd x = .lit (.slice (some ⟨b, o', none⟩) len cap)) (hf : findObj st.S b = some cs)
    (hsrc : ∀ G w v, Inv G w st.S → VRel G (st.opnd y) v → ∃ a slen scap, v = .slice (some a) slen scap ∧ src.length = Nat.min slen len ∧ ∃ us : List Value, VRels G src us ∧ (∀ j u, us[j]? = some u → w.cell? (a.add j) = some u) ∧ ∀ u ∈ us, u.oneCell' = true)
    (hl : o' + src.length ≤ cs.length)
    (hk : K (St.put { st with S := AW.setObj st.S b (splice cs o' src) } o.dst (.lit (.int .i64 src.length)))) : AOp ro P o K Q st := by
  refine AOp.value hd (by rw [hop]; rfl) fun G w a hr => ?_
  obtain ⟨us, T0, h1, h2, h3⟩ := hr.inv.obj hf
  obtain ⟨ad, slen, scap, hy, hlen, vs, hvs, hcell, hone⟩ := hsrc G w _ hr.inv (hr.opnd y)
  have hsz : us.size = cs.length := by rw [h2.1]; simp
  have hvl : vs.length = src.length := hvs.1.symm
  have hs' : (P.info? e).map (·.size) = some 1 := hs
  have hrun := run_copy_row (P := P) w t t2 o.type e b o' len cap ad slen scap us T0 vs hu hs' h1 (by rw [hvl, hlen]) hcell (by omega) hone
  obtain ⟨us', hus'⟩ : ∃ us', us' = (us.toList.take o' ++ vs ++ us.toList.drop (o' + vs.length)).toArray := ⟨_, rfl⟩
  rw [← hus'] at hrun
  obtain ⟨he, hi⟩ := hr.inv.write (w' := w.setRow b us') hf (us' := us') (T := T0) (cs' := splice cs o' src) h1 (setRow_heap w b us us' T0 (0, 0) h1) (by
      subst hus'
      simp only [splice]
      refine VRels.append (VRels.append ⟨by simp [h2.1], fun i v y hv hy => ?_⟩ hvs) ⟨by simp [h2.1, hvl], fun i v y hv hy => ?_⟩
      · rw [List.getElem?_take] at hv hy
        split at hv
        · rename_i hlt; rw [if_pos hlt] at hy; exact h2.2 i v y hv hy
        · cases hv
      · rw [List.getElem?_drop] at hv hy
        rw [hvl] at hy
        exact h2.2 _ v y hv hy)
    (by simp [World.setRow]) (fun b' hb' => by simp [World.setRow, Array.getElem?_modify, Ne.symm hb']) rfl rfl rfl
  refine ⟨goInt vs.length, w.setRow b us', G, .lit (.int .i64 src.length), _, ?_, he, hi, by rw [hvl]; exact .lit _, hk⟩
  simp only [execOp, hop, resolve, invoke, builtin, Sem.run_bind, Sem.run_pure, Result.andThen_ok]
  simp only [List.map_toArray, List.map_cons, List.map_nil, hr.lit hx, hy, hrun, Result.andThen_ok]

/-- unsafe.SliceData of a slice with room, or of nil. -/
theorem AT.sliceData {x : Operand} {tys : Array TypeId} {k : Nat} {a : Option Addr} {n cap : Nat} (hop : o.op = .call ⟨.builtin .unsafeSliceData, #[x], tys⟩) (hd : dstOk st.n o.dst)
    (hx : st.opnd x = .vs k a n cap) (hc : a ≠ none → cap ≠ 0) (hk : K (st.put o.dst (.lit (.pointer a)))) : ATake P o K st :=
  AT.pure hd (by rw [hop]; rfl) (fun G w a' hr => by
    have h := hr.opnd x
    rw [hx] at h
    have hv : a'.eval x = .slice a n cap := by cases hv : a'.eval x <;> rw [hv] at h <;> cases h; rfl
    refine ⟨_, fun w _ => ?_, .lit _⟩
    simp only [execOp, hop]
    cases a with
    | none => simp [resolve, invoke, builtin, hv, Lib.run_unsafeSliceData_nil]
    | some a => simp [resolve, invoke, builtin, hv, Lib.run_unsafeSliceData_row _ _ _ _ _ _ (hc (by simp))]) hk
theorem AT.sliceDataLit {x : Operand} {tys : Array TypeId} {n cap : Nat} (hop : o.op = .call ⟨.builtin .unsafeSliceData, #[x], tys⟩) (hd : dstOk st.n o.dst)
    (hx : st.opnd x = .lit (.slice none n cap)) (hk : K (st.put o.dst (.lit (.pointer none)))) : ATake P o K st :=
  AT.pure hd (by rw [hop]; rfl) (fun G w a' hr => by
    refine ⟨_, fun w _ => ?_, .lit _⟩
    simp only [execOp, hop]
    simp [resolve, invoke, builtin, hr.lit hx, Lib.run_unsafeSliceData_nil]) hk

end
end Go.AW
