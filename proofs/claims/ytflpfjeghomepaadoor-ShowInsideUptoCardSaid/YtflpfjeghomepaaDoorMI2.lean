/- The engine AW, part 12: what simp reckons is the wp. -/
import Derived.Test.YtflpfjeghomepaaDoorMI1
import Derived.Test.YtflpfjeghomepaaDoorProg
import Derived.KernelRfl
import Derived.OrdersIn
import Derived.RecoverIn
import Derived.RangeFuncRecord
import Derived.RangeFuncLeaves
import Derived.Laws.BitsLemmas
set_option linter.unusedVariables false
set_option linter.unusedSimpArgs false
namespace Go.AW

theorem aOpt_some {α : Type} {x : Option α} {c : α → Prop} (h : aOpt x c) : ∃ a, x = some a ∧ c a := by
  unfold aOpt at h; split at h
  · exact ⟨_, rfl, h⟩
  · exact h.elim

section
variable {ro : Option Nat} {P : Program} {o : Oper} {K : St → Prop} {Q : Exit → St → Prop} {st : St}

theorem aBin_sound {D : Prop} {op : BinOp} {t t' : TypeId} {x y : Operand} (hop : o.op = .binOp op t x y t') (hd : dstOk st.n o.dst) (h : aBin P t op D (st.opnd x) (st.opnd y) fun v => K (st.put o.dst (.lit v))) : D ∨ ATake P o K st := by
  unfold aBin at h
  split at h
  · rename_i k a k' b hx hy
    unfold aBinI at h
    split at h
    all_goals first
      | exact h.elim
      | (obtain ⟨rfl, h⟩ := h; exact .inr (AT.binI hop hd hx hy rfl h))
      | (obtain ⟨rfl, hb, h⟩ := h; first | exact .inr (AT.quo hop hd hx hy hb h) | exact .inr (AT.rem hop hd hx hy hb h))
      | (obtain ⟨hb, h⟩ := h; first | exact .inr (AT.shl hop hd hx hy hb h) | exact .inr (AT.shr hop hd hx hy hb h))
  · rename_i a b hx hy
    unfold aBinS at h
    split at h
    all_goals first
      | exact h.elim
      | exact .inr (AT.cat hop hd hx hy h.1 h.2)
      | exact .inr (AT.binS hop hd hx hy rfl h)
  · rename_i a b hx hy
    unfold aBinB at h
    split at h
    · exact .inr (AT.eqlB hop hd h.1 hx hy h.2)
    · exact .inr (AT.neqB hop hd h.1 hx hy h.2)
    · exact h.elim
  · exact .inl h

theorem aBinA_sound {op : BinOp} {t t' : TypeId} {x y : Operand} {xs ys : List V} (hop : o.op = .binOp op t x y t') (hd : dstOk st.n o.dst) (hx : st.opnd x = .agg xs) (hy : st.opnd y = .agg ys)
    (h : aBinA P t op xs ys (P.underlying t) fun v => K (st.put o.dst (.lit v))) : ATake P o K st := by
  unfold aBinA at h
  split at h
  · rename_i fs hu
    obtain ⟨h1, h2, h⟩ := h
    obtain ⟨r, hr, h⟩ := aOpt_some h
    exact AT.eqlA hop hd hu h1 h2 hx hy hr (.inl ⟨rfl, h⟩)
  · rename_i fs hu
    obtain ⟨h1, h2, h⟩ := h
    obtain ⟨r, hr, h⟩ := aOpt_some h
    exact AT.eqlA hop hd hu h1 h2 hx hy hr (.inr ⟨rfl, h⟩)
  · exact h.elim

theorem aBinN_sound {D : Prop} {op : BinOp} {t t' : TypeId} {x y : Operand} (hop : o.op = .binOp op t x y t') (hd : dstOk st.n o.dst) (h : aBinN P t op D y (P.underlying t) (st.opnd x) (st.opnd y) fun v => K (st.put o.dst (.lit v))) : D ∨ ATake P o K st := by
  unfold aBinN at h
  split at h
  · rename_i ms hu
    obtain ⟨b, hb, h⟩ := aOpt_some h
    exact .inr (AT.eqlNil hop hd ⟨_, hu⟩ hb (.inl ⟨rfl, h⟩))
  · rename_i ms hu
    obtain ⟨b, hb, h⟩ := aOpt_some h
    exact .inr (AT.eqlNil hop hd ⟨_, hu⟩ hb (.inr ⟨rfl, h⟩))
  · unfold aBinG at h
    split at h
    · rename_i xs ys hx hy; exact .inr (aBinA_sound hop hd hx hy h)
    · exact aBin_sound hop hd h

theorem fz_lit {S : List Res} {v : V} {u : Value} (h : fz S v = .lit u) : v = .lit u := by
  cases v with
  | lit w => exact h
  | vs k a n cap =>
    simp only [fz, fz1] at h
    split at h
    · split at h <;> cases h
    · cases h
  | _ => simp [fz, fz1] at h

theorem aConv_sound {D : Prop} {s t : TypeId} {x : Operand} {v : V} (hop : o.op = .convert s t x) (hd : dstOk st.n o.dst) (hx : ∀ u, v = .lit u → st.opnd x = .lit u) (h : aConv (P.underlying s) (P.underlying t) D v fun v => K (st.put o.dst v)) : D ∨ ATake P o K st := by
  unfold aConv at h
  split at h
  · rename_i k' n
    split at h
    · rename_i ds k hs hdd; exact .inr (AT.convI hop hd hs hdd (hx _ rfl) h)
    · exact .inl h
  · rename_i s
    split at h
    · rename_i ds hs hdd; exact .inr (AT.convS hop hd hs hdd (hx _ rfl) h)
    · exact .inl h
  · exact .inl h

theorem aConvX_sound {D : Prop} {mk : Bool} {s t : TypeId} {x : Operand} (hop : o.op = .convert s t x) (hd : dstOk st.n o.dst) (h : aConvX P (P.underlying s) (P.underlying t) D mk (fz st.S (st.opnd x)) fun v => K (st.put o.dst v)) : (D ∨ ATake P o K st) ∨ (mk = true ∧ AOp ro P o K Q st) := by
  have hl : ∀ u, fz st.S (st.opnd x) = .lit u → st.opnd x = .lit u := fun u hu => fz_lit hu
  unfold aConvX at h
  split at h
  · rename_i v hv
    split at h
    · rename_i ds e hs ht
      obtain ⟨h1, h2, h3, h4⟩ := h
      exact .inr ⟨h1, AOp.toBytes hop hd hs ht h2 (hl _ hv) h3 h4⟩
    · rw [← hv] at h; exact .inl (aConv_sound hop hd hl h)
  · rename_i full z xs hv
    split at h
    · rename_i e hs ht
      obtain ⟨rfl, h2, v, rfl, h4⟩ := h
      exact .inl (.inr (AT.ofBytes hop hd hs h2 ht (hv ▸ VLe.fz st.S (st.opnd x)) h4))
    · exact .inl (.inl h)
  · exact .inl (aConv_sound hop hd hl h)

theorem aUn_sound {D : Prop} {op : UnOp} {t : TypeId} {x : Operand} (hop : o.op = .unOp op t x) (hd : dstOk st.n o.dst) (h : aUn op D (st.opnd x) fun v => K (st.put o.dst (.lit v))) : D ∨ ATake P o K st := by
  unfold aUn at h
  split at h
  · rename_i b hx
    split at h
    · exact .inr (AT.unNot hop hd hx h)
    · exact .inl h
  · rename_i k n hx
    split at h
    · exact .inr (AT.unNeg hop hd hx h)
    · exact .inl h
  · exact .inl h

theorem aStore_sound {T : TypeId} {p x : Operand} (hop : o.op = .store T p x) (hd : dstOk st.n o.dst) (h : aStore st.S (AOp ro P o K Q st) (st.opnd p) (st.opnd x) (szA P T) fun S' => K (St.put { st with S := S' } o.dst (.lit undef))) : AOp ro P o K Q st := by
  unfold aStore at h
  split at h
  · rename_i b o' hp
    obtain ⟨cs, hf, h1, h2, h3, h4⟩ := aOpt_some h
    exact AOp.store hop hd hp hf h1 h2 h3 h4
  · exact h

theorem aIndexAddr_sound {D : Prop} {t : TypeId} {x ix : Operand} (hop : o.op = .indexAddr t x ix) (hd : dstOk st.n o.dst) (h : aIndexAddr st.S (P.underlying t) (szA P) D (st.opnd x) (st.opnd ix) fun v => K (st.put o.dst v)) : D ∨ ATake P o K st := by
  unfold aIndexAddr at h
  split at h
  · rename_i full sz xs k i hx hi
    split at h
    · rename_i e hu
      obtain ⟨h1, h2, h3, h4⟩ := h
      exact .inr (AT.indexSl hop hd hu (by rw [hx]; exact .refl _ _) hi h1 h2 h3 h4)
    · exact .inl h
  · rename_i k a n cap k' i hx hi
    split at h
    · rename_i e a' cap' sz xs hu hf
      obtain ⟨rfl, rfl, h1, h2, h3, h4, h5⟩ := h
      exact .inr (AT.indexSl hop hd hu (by rw [hx]; exact .vs hf h1) hi h2 h3 h4 h5)
    · exact .inl h
  · rename_i cs k i hx hi
    split at h
    · rename_i n e hu
      obtain ⟨sz, hs, h0, h1, h2⟩ := aOpt_some h
      exact .inr (AT.indexPtr hop hd hu hs hi h0 h1 (by rw [hx]; rfl) h2)
    · exact .inl h
  · rename_i b o' len cap k i hx hi
    split at h
    · rename_i e hu
      obtain ⟨sz, hs, h0, h1, h2⟩ := aOpt_some h
      exact .inr (AT.indexLit hop hd hu hs hx hi h0 h1 h2)
    · exact .inl h
  · exact .inl h

theorem aLen_sound {D : Prop} {x : Operand} {t : TypeId} (hop : o.op = .call ⟨.builtin .len, #[x], #[t]⟩) (hd : dstOk st.n o.dst) (h : aLen (P.underlying t) D (st.opnd x) fun v => K (st.put o.dst v)) : D ∨ ATake P o K st := by
  unfold aLen at h
  split at h
  · rename_i hx; split at h
    · rename_i hu; exact .inr (AT.lenSl hop rfl hd hu hx h)
    · exact .inl h
  · rename_i hx; split at h
    · rename_i hu; exact .inr (AT.lenVs hop hd hu hx h)
    · exact .inl h
  · rename_i hx; split at h
    · rename_i hu; exact .inr (AT.lenLit hop rfl hd hu hx h)
    · exact .inl h
  · rename_i hx; split at h
    · rename_i hu; exact .inr (AT.lenStr hop rfl hd hu hx h)
    · exact .inl h
  · exact .inl h

theorem AppOk.d2 {t t2 e : TypeId} {sz : Nat} (h : AppOk P t t2 e sz) : ∃ d2, P.underlying t2 = some d2 ∧ (d2 = .slice e ∨ d2 = .string) := by
  have h2 := h.ht2
  unfold isSlStr at h2
  split at h2
  · rename_i hu; subst h2; exact ⟨_, hu, .inl rfl⟩
  · rename_i hu; exact ⟨_, hu, .inr rfl⟩
  · exact h2.elim

theorem aAppend_sound {x y : Operand} {t t2 e : TypeId} {sz key : Nat} (hop : o.op = .call ⟨.builtin .append, #[x, y], #[t, t2]⟩) (hd : dstOk st.n o.dst)
    (h : aAppend P st.S key t t2 e sz (AOp ro P o K Q st) (st.opnd x) (st.opnd y) fun v S' => K (St.put { st with S := S' } o.dst v)) : AOp ro P o K Q st := by
  unfold aAppend at h
  split at h
  · rename_i k a n cap hx
    split at h
    · rename_i a' cap' sz' xs hf
      obtain ⟨rfl, rfl, rfl, hn, hok, hke, h⟩ := h
      obtain ⟨ys, hy, hb, hk⟩ := aOpt_some h
      obtain ⟨d2, hu2, hd2⟩ := hok.d2
      obtain ⟨z, hz, hzs⟩ := hok.hz
      obtain ⟨m, hm, hmb⟩ := hok.hb
      obtain ⟨S1, S2, happ, hset⟩ := AppTo.vs hf hn
      refine AOp.append hop hd hok.ht hu2 hd2 hok.hs hz hzs hm hmb (by rw [hx]; exact happ) hy hb hke fun a'' cap'' => ?_
      rw [← hset]; exact hk a'' cap''
    · exact h
  · rename_i hx
    obtain ⟨hok, hkk, h⟩ := h
    obtain ⟨ys, hy, hb, hk⟩ := aOpt_some h
    obtain ⟨d2, hu2, hd2⟩ := hok.d2
    obtain ⟨z, hz, hzs⟩ := hok.hz
    obtain ⟨m, hm, hmb⟩ := hok.hb
    refine AOp.append hop hd hok.ht hu2 hd2 hok.hs hz hzs hm hmb (by rw [hx]; exact AppTo.nil st.S key sz) hy (by simpa using hb) (.inl hkk) fun a'' cap'' => ?_
    simpa using hk a'' cap''
  · rename_i sz' xs hx
    obtain ⟨rfl, hok, hkk, h⟩ := h
    obtain ⟨ys, hy, hb, hk⟩ := aOpt_some h
    obtain ⟨d2, hu2, hd2⟩ := hok.d2
    obtain ⟨z, hz, hzs⟩ := hok.hz
    obtain ⟨m, hm, hmb⟩ := hok.hb
    exact AOp.append hop hd hok.ht hu2 hd2 hok.hs hz hzs hm hmb (by rw [hx]; exact AppTo.full st.S hkk _ xs) hy hb (.inl hkk) fun a'' cap'' => hk a'' cap''
  · exact h

theorem aSlice_sound {D : Prop} {t : TypeId} {x : Operand} {lo hi : Option Operand} (hop : o.op = .slice t x lo hi none) (hd : dstOk st.n o.dst)
    (h : aSlice st (P.underlying t) (szA P) lo hi D (fz st.S (st.opnd x)) fun v => K (st.put o.dst v)) : D ∨ ATake P o K st := by
  unfold aSlice at h
  have hle := VLe.fz st.S (st.opnd x)
  split at h
  · rename_i s hx
    obtain ⟨hu, h⟩ := h
    obtain ⟨l, hl, h⟩ := aOpt_some h
    obtain ⟨u, hh, h1, h2, h3, h4⟩ := aOpt_some h
    exact .inr (AT.sliceStr hop hd hu (by rw [← hx]; exact hle) hl hh h1 h2 h3 h4)
  · rename_i full sz xs hx
    split at h
    · rename_i e hu
      obtain ⟨hs, h⟩ := h
      obtain ⟨l, hl, h⟩ := aOpt_some h
      obtain ⟨u, hh, h1, h2, h3, h4⟩ := aOpt_some h
      exact .inr (AT.sliceSl hop hd hu hs (by rw [← hx]; exact hle) hl hh h1 h2 h3 h4)
    · exact .inl h
  · exact .inl h

theorem aSliceL_sound {D : Prop} {t : TypeId} {x : Operand} {lo hi : Option Operand} (hop : o.op = .slice t x lo hi none) (hd : dstOk st.n o.dst)
    (h : aSliceL st (P.underlying t) (szA P) lo hi D (fz st.S (st.opnd x)) fun v => K (st.put o.dst v)) : D ∨ ATake P o K st := by
  unfold aSliceL at h
  split at h
  · rename_i b o' len cap hx
    split at h
    · rename_i e hu
      obtain ⟨sz, hs, h⟩ := aOpt_some h
      obtain ⟨l, hl, h⟩ := aOpt_some h
      obtain ⟨u, hh, h1, h2, h3, h4⟩ := aOpt_some h
      exact .inr (AT.sliceLit hop hd hu hs (fz_lit hx) hl hh h1 h2 h3 h4)
    · exact .inl h
  · exact aSlice_sound hop hd h

theorem aMake_sound {t : TypeId} {x y : Operand} (hop : o.op = .makeSlice t x y) (hd : dstOk st.n o.dst) (h : aMake P st (AOp ro P o K Q st) (P.underlying t) (st.opnd x) (st.opnd y) fun v S' => K (St.put { st with S := S' } o.dst v)) : AOp ro P o K Q st := by
  unfold aMake at h
  split at h
  · rename_i k n k' n' hx hy
    split at h
    · rename_i e hu
      obtain ⟨rfl, hs, h⟩ := h
      obtain ⟨z, hz, hzc, h⟩ := aOpt_some h
      obtain ⟨m, hm, h0, h1, h2, h3⟩ := aOpt_some h
      exact AOp.makeSlice1 hop hd hu hs hz hzc hm hx hy h0 h1 h2 h3
    · exact h
  · exact h

theorem aSlice3_sound {D : Prop} {t : TypeId} {x : Operand} {lo : Option Operand} {hi mx : Operand} (hop : o.op = .slice t x lo (some hi) (some mx)) (hd : dstOk st.n o.dst)
    (h : aSlice3 st (P.underlying t) (szA P) lo hi mx D (fz st.S (st.opnd x)) fun v => K (st.put o.dst v)) : D ∨ ATake P o K st := by
  unfold aSlice3 at h
  have hle := VLe.fz st.S (st.opnd x)
  split at h
  · rename_i full sz xs hx
    split at h
    · rename_i e hu
      obtain ⟨hs, h⟩ := h
      obtain ⟨l, hl, h⟩ := aOpt_some h
      obtain ⟨u, hh, h⟩ := aOpt_some h
      obtain ⟨m, hm, h1, h2, h3, h4, h5⟩ := aOpt_some h
      exact .inr (AT.sliceSl3 hop hd hu hs (by rw [← hx]; exact hle) hl hh hm h1 h2 h3 h4 h5)
    · exact .inl h
  · exact .inl h

theorem partsOk_eq {len : Nat} {parts : List (Nat × Operand)} (h : partsOk len parts = true) : parts = ((parts.map (·.2)).zipIdx 0).map (fun x => (x.2, x.1)) ∧ len = (parts.map (·.2)).length := by
  have h := eq_of_beq h
  have hl : parts.length = len := by have := congrArg List.length h; simpa using this
  refine ⟨List.ext_getElem? fun i => ?_, by simpa using hl.symm⟩
  have hi := congrArg (·[i]?) h
  simp only [List.getElem?_map] at hi ⊢
  cases hp : parts[i]? with
  | none => simp [hp]
  | some p =>
    have hlt : i < len := by rw [← hl]; exact (List.getElem?_eq_some_iff.1 hp).1
    simp [hp, hlt] at hi
    simp [hp]
    obtain ⟨a, b⟩ := p
    simp at hi; subst hi; rfl

theorem aop_sound (h : aop ro P o K Q st) : AOp ro P o K Q st := by
  obtain ⟨hd, h⟩ := h
  unfold aopB at h
  split at h
  · rename_i x hop; exact ATake.aop (AT.move hop hd h)
  · rename_i x hop; exact ATake.aop (AT.assign hop hd h)
  · rename_i c x y hop
    unfold aPick at h
    split at h
    · rename_i b hc; exact ATake.aop (AT.pick hop hd hc h)
    · exact h.elim
  · rename_i T hop
    obtain ⟨z, hz, h⟩ := aOpt_some h
    exact AOp.alloc hop hd hz h
  · rename_i T x hop; exact AOp.box hop hd h.1 h.2
  · rename_i T x hop
    obtain ⟨v, hv, h⟩ := aOpt_some h
    obtain ⟨cs, hc, hr⟩ := Option.bind_eq_some_iff.1 hv
    exact AOp.load hop hd hc hr h
  · rename_i T p x hop; exact aStore_sound hop hd h
  · rename_i x hop
    unfold aNil at h
    split at h
    · rename_i ad hx; exact ATake.aop (AT.nilCheck hop hd hx h)
    · rename_i cs hx; exact ATake.aop (AT.nilCheck_pe hop hd hx h)
    · exact h
  · rename_i op t x hop; exact (aUn_sound hop hd h).elim id ATake.aop
  · rename_i op t x y t' hop; exact (aBinN_sound hop hd h).elim id ATake.aop
  · rename_i s d x hop
    rcases aConvX_sound (ro := ro) (Q := Q) hop hd h with (h | h) | h
    · exact h
    · exact ATake.aop h
    · exact h.2
  · rename_i x ix hop
    unfold aExtract at h
    split at h
    · rename_i vs hx
      obtain ⟨v, hv, h⟩ := aOpt_some h
      exact ATake.aop (AT.extract hop hd hx hv h)
    · exact h
  · rename_i xT x f hop
    unfold aField at h
    split at h
    · rename_i fs cs hu hx
      obtain ⟨fl, hf, h⟩ := aOpt_some h
      obtain ⟨v, hv, h⟩ := aOpt_some h
      exact ATake.aop (AT.field hop hd hu hf hx hv h)
    · exact h
  · rename_i s x f hop
    unfold aFieldAddr at h
    split at h
    · rename_i fs hu
      obtain ⟨fl, hf, h0, h⟩ := aOpt_some h
      obtain ⟨n, hn, hn0⟩ := aOpt_some h0
      obtain ⟨q, hq, h⟩ := aOpt_some h
      exact ATake.aop (AT.fieldAddr hop hd hu hf hn hn0 hq h)
    · exact h
  · rename_i t x ix hop; exact (aIndexAddr_sound hop hd h).elim id ATake.aop
  · rename_i t x ix hop
    unfold aIndex at h
    split at h
    · rename_i cs k i hx hi
      split at h
      · rename_i n e hu
        obtain ⟨sz, hs, h0, h1, h⟩ := aOpt_some h
        obtain ⟨v, hv, h⟩ := aOpt_some h
        exact ATake.aop (AT.indexAgg hop hd hu hs hx hi h0 h1 hv h)
      · exact h
    · rename_i s k i hx hi
      obtain ⟨hu, h0, h1, h⟩ := h
      exact ATake.aop (AT.indexStr hop hd hu hx hi h0 h1 h)
    · exact h
  · rename_i t parts hop
    unfold aBuild at h
    split at h
    · rename_i fs hu
      obtain ⟨z, hz, h⟩ := aOpt_some h
      obtain ⟨ps, hps, h⟩ := aOpt_some h
      obtain ⟨cs, hcs, h⟩ := aOpt_some h
      exact ATake.aop (AT.build hop hd hz hu hps hcs h)
    · rename_i n e hu
      obtain ⟨z, hz, h⟩ := aOpt_some h
      obtain ⟨sz, hs, h⟩ := aOpt_some h
      obtain ⟨cs, hcs, h⟩ := aOpt_some h
      exact ATake.aop (AT.buildArr hop hd hz hu hs hcs h)
    · exact h
  · rename_i t len parts hop
    unfold aBuildSlice at h
    split at h
    · rename_i e hu
      obtain ⟨hp, hz, h⟩ := h
      obtain ⟨sz, hs, h0, hb, hv, h⟩ := aOpt_some h
      obtain ⟨z, hz⟩ := Option.isSome_iff_exists.1 hz
      obtain ⟨hp1, hp2⟩ := partsOk_eq hp
      have e1 : (parts.toList.map (·.2)).map (fun x => fz st.S (st.opnd x)) = parts.toList.map fun p => fz st.S (st.opnd p.2) := by rw [List.map_map]; rfl
      exact AOp.buildSlice hop hd hu hs hz h0 hp1 hp2 hb (by rw [e1]; exact hv) (by rw [e1]; exact h)
    · exact h
  · rename_i t x hop
    obtain ⟨d, hu, hi, h⟩ := aOpt_some h
    exact ATake.aop (AT.makeInterface hop hd hu hi h)
  · rename_i fn f c hop; exact ATake.aop (AT.makeFunc hop hd h)
  · rename_i x xT t hop
    obtain ⟨d, hu, hi, h⟩ := aOpt_some h
    obtain ⟨u, hx, h⟩ := aOpt_some h
    exact ATake.aop (AT.typeAssert hop hd hu hi hx h)
  · rename_i t x lo hi hop; exact (aSliceL_sound hop hd h).elim id ATake.aop
  · rename_i t x lo hi mx hop; exact (aSlice3_sound hop hd h).elim id ATake.aop
  · rename_i t x y hop; exact aMake_sound hop hd h
  · rename_i x hop
    unfold aPanic at h
    split at h
    · rename_i t v hx; exact AOp.panic hop hx h
    · exact h
  · rename_i c hop
    obtain ⟨callee, args, tys⟩ := c
    cases callee with
    | value f =>
      simp only at h
      unfold aDefer at h
      split at h
      · rename_i fn first captured hf
        obtain ⟨h1, h2, h3⟩ := h
        subst h2
        exact AOp.defer h1 hop hd hf h3
      · exact h
    | builtin b => exact h
    | invoke r m => exact h
  · rename_i c hop
    obtain ⟨callee, args, tys⟩ := c
    cases callee with
    | value f =>
      simp only at h
      unfold aCall at h
      split at h
      · rename_i g first captured hf
        unfold aGo at h
        split at h
        · rename_i hg; exact AOp.call hop hd hf hg h
        · exact h
      · exact h
    | builtin b =>
      simp only at h
      unfold aBuiltin at h
      split at h
      · rename_i x t hargs htys
        obtain rfl : args = #[x] := Array.ext' (by simpa using hargs)
        obtain rfl : tys = #[t] := Array.ext' (by simpa using htys)
        exact (aLen_sound hop hd h).elim id ATake.aop
      · rename_i x y hargs
        obtain rfl : args = #[x, y] := Array.ext' (by simpa using hargs)
        unfold aMax at h
        split at h
        · rename_i k a k' b hx hy; exact ATake.aop (AT.max hop hd hx hy h)
        · exact h
      · rename_i x y hargs
        obtain rfl : args = #[x, y] := Array.ext' (by simpa using hargs)
        unfold aMin at h
        split at h
        · rename_i k a k' b hx hy; exact ATake.aop (AT.min hop hd hx hy h)
        · exact h
      · rename_i x hargs
        obtain rfl : args = #[x] := Array.ext' (by simpa using hargs)
        unfold aSData at h
        split at h
        · rename_i hx; exact ATake.aop (AT.sliceData hop hd hx h.1 h.2)
        · rename_i hx; exact ATake.aop (AT.sliceDataLit hop hd hx h)
        · exact h
      · rename_i x y t t2 hargs htys
        obtain rfl : args = #[x, y] := Array.ext' (by simpa using hargs)
        obtain rfl : tys = #[t, t2] := Array.ext' (by simpa using htys)
        unfold aAppendT at h
        split at h
        · rename_i e hu
          obtain ⟨sz, hs, h⟩ := aOpt_some h
          exact aAppend_sound hop hd h
        · exact h
      · exact h
    | invoke r m => exact h
  · exact h

theorem aopT_sound (hd : dstOk st.n o.dst) (h : aopT P o K st o.op) : ATake P o K st := by
  unfold aopT at h
  split at h
  · rename_i x hop; exact AT.move hop hd h
  · rename_i x hop; exact AT.assign hop hd h
  · rename_i c x y hop
    unfold aPick at h
    split at h
    · rename_i b hc; exact AT.pick hop hd hc h
    · exact h.elim
  · rename_i T x hop
    unfold aLoadPe at h
    split at h
    · rename_i cs hx
      obtain ⟨v, hv, h⟩ := aOpt_some h
      exact AT.loadPe hop hd hx hv h
    · exact h.elim
  · rename_i x hop
    unfold aNil at h
    split at h
    · rename_i ad hx; exact AT.nilCheck hop hd hx h
    · rename_i cs hx; exact AT.nilCheck_pe hop hd hx h
    · exact h.elim
  · rename_i op t x hop; exact (aUn_sound hop hd h).elim False.elim id
  · rename_i op t x y t' hop; exact (aBinN_sound hop hd h).elim False.elim id
  · rename_i s d x hop
    rcases aConvX_sound (ro := none) (Q := fun _ _ => False) hop hd h with (h | h) | h
    · exact h.elim
    · exact h
    · cases h.1
  · rename_i x ix hop
    unfold aExtract at h
    split at h
    · rename_i vs hx
      obtain ⟨v, hv, h⟩ := aOpt_some h
      exact AT.extract hop hd hx hv h
    · exact h.elim
  · rename_i xT x f hop
    unfold aField at h
    split at h
    · rename_i fs cs hu hx
      obtain ⟨fl, hf, h⟩ := aOpt_some h
      obtain ⟨v, hv, h⟩ := aOpt_some h
      exact AT.field hop hd hu hf hx hv h
    · exact h.elim
  · rename_i s x f hop
    unfold aFieldAddr at h
    split at h
    · rename_i fs hu
      obtain ⟨fl, hf, h0, h⟩ := aOpt_some h
      obtain ⟨n, hn, hn0⟩ := aOpt_some h0
      obtain ⟨q, hq, h⟩ := aOpt_some h
      exact AT.fieldAddr hop hd hu hf hn hn0 hq h
    · exact h.elim
  · rename_i t x ix hop; exact (aIndexAddr_sound hop hd h).elim False.elim id
  · rename_i t x ix hop
    unfold aIndex at h
    split at h
    · rename_i cs k i hx hi
      split at h
      · rename_i n e hu
        obtain ⟨sz, hs, h0, h1, h⟩ := aOpt_some h
        obtain ⟨v, hv, h⟩ := aOpt_some h
        exact AT.indexAgg hop hd hu hs hx hi h0 h1 hv h
      · exact h.elim
    · rename_i s k i hx hi
      obtain ⟨hu, h0, h1, h⟩ := h
      exact AT.indexStr hop hd hu hx hi h0 h1 h
    · exact h.elim
  · rename_i t parts hop
    unfold aBuild at h
    split at h
    · rename_i fs hu
      obtain ⟨z, hz, h⟩ := aOpt_some h
      obtain ⟨ps, hps, h⟩ := aOpt_some h
      obtain ⟨cs, hcs, h⟩ := aOpt_some h
      exact AT.build hop hd hz hu hps hcs h
    · rename_i n e hu
      obtain ⟨z, hz, h⟩ := aOpt_some h
      obtain ⟨sz, hs, h⟩ := aOpt_some h
      obtain ⟨cs, hcs, h⟩ := aOpt_some h
      exact AT.buildArr hop hd hz hu hs hcs h
    · exact h.elim
  · rename_i t x hop
    obtain ⟨d, hu, hi, h⟩ := aOpt_some h
    exact AT.makeInterface hop hd hu hi h
  · rename_i fn f c hop; exact AT.makeFunc hop hd h
  · rename_i x xT t hop
    obtain ⟨d, hu, hi, h⟩ := aOpt_some h
    obtain ⟨u, hx, h⟩ := aOpt_some h
    exact AT.typeAssert hop hd hu hi hx h
  · rename_i t x lo hi hop; exact (aSliceL_sound hop hd h).elim False.elim id
  · rename_i t x lo hi mx hop; exact (aSlice3_sound hop hd h).elim False.elim id
  · rename_i c hop
    obtain ⟨callee, args, tys⟩ := c
    cases callee with
    | builtin b =>
      simp only at h
      unfold aBuiltinT at h
      split at h
      · rename_i x t hargs htys
        obtain rfl : args = #[x] := Array.ext' (by simpa using hargs)
        obtain rfl : tys = #[t] := Array.ext' (by simpa using htys)
        exact (aLen_sound hop hd h).elim False.elim id
      · rename_i x y hargs
        obtain rfl : args = #[x, y] := Array.ext' (by simpa using hargs)
        unfold aMax at h
        split at h
        · rename_i k a k' b hx hy; exact (AT.max hop hd hx hy h)
        · exact h.elim
      · rename_i x y hargs
        obtain rfl : args = #[x, y] := Array.ext' (by simpa using hargs)
        unfold aMin at h
        split at h
        · rename_i k a k' b hx hy; exact (AT.min hop hd hx hy h)
        · exact h.elim
      · rename_i x hargs
        obtain rfl : args = #[x] := Array.ext' (by simpa using hargs)
        unfold aSData at h
        split at h
        · rename_i hx; exact (AT.sliceData hop hd hx h.1 h.2)
        · rename_i hx; exact (AT.sliceDataLit hop hd hx h)
        · exact h.elim
      · exact h.elim
    | _ => exact h.elim
  · exact h.elim

end

end Go.AW
/- Tables of the program: sizes, zeros, bytes of its types. Printed by a small program of this session. -/
set_option maxRecDepth 100000
namespace Go.Proofs.YtflpfjeghomepaaDoor
open Go Go.AW Go.Proofs
@[go_sem] theorem sz1 : szA Tryd.prog 1 = some 1 := by kernel_rfl
@[go_sem] theorem zr1 : zeroA Tryd.prog 1 = some (.nilFunc) := by kernel_rfl
@[go_sem] theorem by1 : bytesA Tryd.prog 1 = some 8 := by kernel_rfl
@[go_sem] theorem ag1 : aggA Tryd.prog 1 = some false := by kernel_rfl
@[go_sem] theorem sz2 : szA Tryd.prog 2 = some 1 := by kernel_rfl
@[go_sem] theorem zr2 : zeroA Tryd.prog 2 = some (.int .i64 0) := by kernel_rfl
@[go_sem] theorem by2 : bytesA Tryd.prog 2 = some 8 := by kernel_rfl
@[go_sem] theorem ag2 : aggA Tryd.prog 2 = some false := by kernel_rfl
@[go_sem] theorem sz3 : szA Tryd.prog 3 = some 1 := by kernel_rfl
@[go_sem] theorem zr3 : zeroA Tryd.prog 3 = some (.int .i64 0) := by kernel_rfl
@[go_sem] theorem by3 : bytesA Tryd.prog 3 = some 8 := by kernel_rfl
@[go_sem] theorem ag3 : aggA Tryd.prog 3 = some false := by kernel_rfl
@[go_sem] theorem sz4 : szA Tryd.prog 4 = some 1 := by kernel_rfl
@[go_sem] theorem zr4 : zeroA Tryd.prog 4 = some (.bool false) := by kernel_rfl
@[go_sem] theorem by4 : bytesA Tryd.prog 4 = some 1 := by kernel_rfl
@[go_sem] theorem ag4 : aggA Tryd.prog 4 = some false := by kernel_rfl
@[go_sem] theorem sz5 : szA Tryd.prog 5 = some 1 := by kernel_rfl
@[go_sem] theorem zr5 : zeroA Tryd.prog 5 = some (.int .u8 0) := by kernel_rfl
@[go_sem] theorem by5 : bytesA Tryd.prog 5 = some 1 := by kernel_rfl
@[go_sem] theorem ag5 : aggA Tryd.prog 5 = some false := by kernel_rfl
@[go_sem] theorem sz6 : szA Tryd.prog 6 = some 1 := by kernel_rfl
@[go_sem] theorem zr6 : zeroA Tryd.prog 6 = some (.int .u8 0) := by kernel_rfl
@[go_sem] theorem by6 : bytesA Tryd.prog 6 = some 1 := by kernel_rfl
@[go_sem] theorem ag6 : aggA Tryd.prog 6 = some false := by kernel_rfl
@[go_sem] theorem sz7 : szA Tryd.prog 7 = some 4 := by kernel_rfl
@[go_sem] theorem zr7 : zeroA Tryd.prog 7 = some (.agg #[.int .i64 0, .int .i64 0, .bool false, .int .u8 0]) := by kernel_rfl
@[go_sem] theorem by7 : bytesA Tryd.prog 7 = some 24 := by kernel_rfl
@[go_sem] theorem ag7 : aggA Tryd.prog 7 = some true := by kernel_rfl
@[go_sem] theorem sz8 : szA Tryd.prog 8 = some 4 := by kernel_rfl
@[go_sem] theorem zr8 : zeroA Tryd.prog 8 = some (.agg #[.int .i64 0, .int .i64 0, .bool false, .int .u8 0]) := by kernel_rfl
@[go_sem] theorem by8 : bytesA Tryd.prog 8 = some 24 := by kernel_rfl
@[go_sem] theorem ag8 : aggA Tryd.prog 8 = some true := by kernel_rfl
@[go_sem] theorem sz9 : szA Tryd.prog 9 = some 1 := by kernel_rfl
@[go_sem] theorem zr9 : zeroA Tryd.prog 9 = some (.string ⟨#[]⟩) := by kernel_rfl
@[go_sem] theorem by9 : bytesA Tryd.prog 9 = some 16 := by kernel_rfl
@[go_sem] theorem ag9 : aggA Tryd.prog 9 = some false := by kernel_rfl
@[go_sem] theorem sz10 : szA Tryd.prog 10 = some 1 := by kernel_rfl
@[go_sem] theorem zr10 : zeroA Tryd.prog 10 = some (.string ⟨#[]⟩) := by kernel_rfl
@[go_sem] theorem by10 : bytesA Tryd.prog 10 = some 16 := by kernel_rfl
@[go_sem] theorem ag10 : aggA Tryd.prog 10 = some false := by kernel_rfl
@[go_sem] theorem sz11 : szA Tryd.prog 11 = some 1 := by kernel_rfl
@[go_sem] theorem zr11 : zeroA Tryd.prog 11 = some (.string ⟨#[]⟩) := by kernel_rfl
@[go_sem] theorem by11 : bytesA Tryd.prog 11 = some 16 := by kernel_rfl
@[go_sem] theorem ag11 : aggA Tryd.prog 11 = some false := by kernel_rfl
@[go_sem] theorem sz12 : szA Tryd.prog 12 = some 1 := by kernel_rfl
@[go_sem] theorem zr12 : zeroA Tryd.prog 12 = some (.int .u64 0) := by kernel_rfl
@[go_sem] theorem by12 : bytesA Tryd.prog 12 = some 8 := by kernel_rfl
@[go_sem] theorem ag12 : aggA Tryd.prog 12 = some false := by kernel_rfl
@[go_sem] theorem sz13 : szA Tryd.prog 13 = some 2 := by kernel_rfl
@[go_sem] theorem zr13 : zeroA Tryd.prog 13 = some (.agg #[.string ⟨#[]⟩, .int .u64 0]) := by kernel_rfl
@[go_sem] theorem by13 : bytesA Tryd.prog 13 = some 24 := by kernel_rfl
@[go_sem] theorem ag13 : aggA Tryd.prog 13 = some true := by kernel_rfl
@[go_sem] theorem sz14 : szA Tryd.prog 14 = some 2 := by kernel_rfl
@[go_sem] theorem zr14 : zeroA Tryd.prog 14 = some (.agg #[.string ⟨#[]⟩, .int .u64 0]) := by kernel_rfl
@[go_sem] theorem by14 : bytesA Tryd.prog 14 = some 24 := by kernel_rfl
@[go_sem] theorem ag14 : aggA Tryd.prog 14 = some true := by kernel_rfl
@[go_sem] theorem sz15 : szA Tryd.prog 15 = some 1 := by kernel_rfl
@[go_sem] theorem zr15 : zeroA Tryd.prog 15 = some (.pointer none) := by kernel_rfl
@[go_sem] theorem by15 : bytesA Tryd.prog 15 = some 8 := by kernel_rfl
@[go_sem] theorem ag15 : aggA Tryd.prog 15 = some false := by kernel_rfl
@[go_sem] theorem sz16 : szA Tryd.prog 16 = some 1 := by kernel_rfl
@[go_sem] theorem zr16 : zeroA Tryd.prog 16 = some (.pointer none) := by kernel_rfl
@[go_sem] theorem by16 : bytesA Tryd.prog 16 = some 8 := by kernel_rfl
@[go_sem] theorem ag16 : aggA Tryd.prog 16 = some false := by kernel_rfl
@[go_sem] theorem sz17 : szA Tryd.prog 17 = some 1 := by kernel_rfl
@[go_sem] theorem zr17 : zeroA Tryd.prog 17 = some (.pointer none) := by kernel_rfl
@[go_sem] theorem by17 : bytesA Tryd.prog 17 = some 8 := by kernel_rfl
@[go_sem] theorem ag17 : aggA Tryd.prog 17 = some false := by kernel_rfl
@[go_sem] theorem sz18 : szA Tryd.prog 18 = some 1 := by kernel_rfl
@[go_sem] theorem zr18 : zeroA Tryd.prog 18 = some (.agg #[.pointer none]) := by kernel_rfl
@[go_sem] theorem by18 : bytesA Tryd.prog 18 = some 8 := by kernel_rfl
@[go_sem] theorem ag18 : aggA Tryd.prog 18 = some true := by kernel_rfl
@[go_sem] theorem sz19 : szA Tryd.prog 19 = some 1 := by kernel_rfl
@[go_sem] theorem zr19 : zeroA Tryd.prog 19 = some (.agg #[.pointer none]) := by kernel_rfl
@[go_sem] theorem by19 : bytesA Tryd.prog 19 = some 8 := by kernel_rfl
@[go_sem] theorem ag19 : aggA Tryd.prog 19 = some true := by kernel_rfl
@[go_sem] theorem sz20 : szA Tryd.prog 20 = some 1 := by kernel_rfl
@[go_sem] theorem zr20 : zeroA Tryd.prog 20 = some (.nilIface) := by kernel_rfl
@[go_sem] theorem by20 : bytesA Tryd.prog 20 = some 16 := by kernel_rfl
@[go_sem] theorem ag20 : aggA Tryd.prog 20 = some false := by kernel_rfl
@[go_sem] theorem sz21 : szA Tryd.prog 21 = some 1 := by kernel_rfl
@[go_sem] theorem zr21 : zeroA Tryd.prog 21 = some (.int .i32 0) := by kernel_rfl
@[go_sem] theorem by21 : bytesA Tryd.prog 21 = some 4 := by kernel_rfl
@[go_sem] theorem ag21 : aggA Tryd.prog 21 = some false := by kernel_rfl
@[go_sem] theorem sz22 : szA Tryd.prog 22 = some 1 := by kernel_rfl
@[go_sem] theorem zr22 : zeroA Tryd.prog 22 = some (.slice none 0 0) := by kernel_rfl
@[go_sem] theorem by22 : bytesA Tryd.prog 22 = some 24 := by kernel_rfl
@[go_sem] theorem ag22 : aggA Tryd.prog 22 = some false := by kernel_rfl
@[go_sem] theorem sz23 : szA Tryd.prog 23 = some 1 := by kernel_rfl
@[go_sem] theorem zr23 : zeroA Tryd.prog 23 = some (.nilFunc) := by kernel_rfl
@[go_sem] theorem by23 : bytesA Tryd.prog 23 = some 8 := by kernel_rfl
@[go_sem] theorem ag23 : aggA Tryd.prog 23 = some false := by kernel_rfl
@[go_sem] theorem sz24 : szA Tryd.prog 24 = some 1 := by kernel_rfl
@[go_sem] theorem zr24 : zeroA Tryd.prog 24 = some (.int .i64 0) := by kernel_rfl
@[go_sem] theorem by24 : bytesA Tryd.prog 24 = some 8 := by kernel_rfl
@[go_sem] theorem ag24 : aggA Tryd.prog 24 = some false := by kernel_rfl
@[go_sem] theorem sz26 : szA Tryd.prog 26 = some 1 := by kernel_rfl
@[go_sem] theorem zr26 : zeroA Tryd.prog 26 = some (.nilFunc) := by kernel_rfl
@[go_sem] theorem by26 : bytesA Tryd.prog 26 = some 8 := by kernel_rfl
@[go_sem] theorem ag26 : aggA Tryd.prog 26 = some false := by kernel_rfl
@[go_sem] theorem sz27 : szA Tryd.prog 27 = some 1 := by kernel_rfl
@[go_sem] theorem zr27 : zeroA Tryd.prog 27 = some (.nilFunc) := by kernel_rfl
@[go_sem] theorem by27 : bytesA Tryd.prog 27 = some 8 := by kernel_rfl
@[go_sem] theorem ag27 : aggA Tryd.prog 27 = some false := by kernel_rfl
@[go_sem] theorem sz28 : szA Tryd.prog 28 = some 1 := by kernel_rfl
@[go_sem] theorem zr28 : zeroA Tryd.prog 28 = some (.nilFunc) := by kernel_rfl
@[go_sem] theorem by28 : bytesA Tryd.prog 28 = some 8 := by kernel_rfl
@[go_sem] theorem ag28 : aggA Tryd.prog 28 = some false := by kernel_rfl
@[go_sem] theorem sz29 : szA Tryd.prog 29 = some 1 := by kernel_rfl
@[go_sem] theorem zr29 : zeroA Tryd.prog 29 = some (.nilFunc) := by kernel_rfl
@[go_sem] theorem by29 : bytesA Tryd.prog 29 = some 8 := by kernel_rfl
@[go_sem] theorem ag29 : aggA Tryd.prog 29 = some false := by kernel_rfl
@[go_sem] theorem sz30 : szA Tryd.prog 30 = some 1 := by kernel_rfl
@[go_sem] theorem zr30 : zeroA Tryd.prog 30 = some (.slice none 0 0) := by kernel_rfl
@[go_sem] theorem by30 : bytesA Tryd.prog 30 = some 24 := by kernel_rfl
@[go_sem] theorem ag30 : aggA Tryd.prog 30 = some false := by kernel_rfl
@[go_sem] theorem sz31 : szA Tryd.prog 31 = some 1 := by kernel_rfl
@[go_sem] theorem zr31 : zeroA Tryd.prog 31 = some (.slice none 0 0) := by kernel_rfl
@[go_sem] theorem by31 : bytesA Tryd.prog 31 = some 24 := by kernel_rfl
@[go_sem] theorem ag31 : aggA Tryd.prog 31 = some false := by kernel_rfl
@[go_sem] theorem sz32 : szA Tryd.prog 32 = some 11 := by kernel_rfl
@[go_sem] theorem zr32 : zeroA Tryd.prog 32 = some (.agg #[.int .i64 0, .int .i64 0, .int .i64 0, .int .i64 0, .int .i64 0, .slice none 0 0, .slice none 0 0, .bool false, .bool false, .slice none 0 0, .slice none 0 0]) := by kernel_rfl
@[go_sem] theorem by32 : bytesA Tryd.prog 32 = some 144 := by kernel_rfl
@[go_sem] theorem ag32 : aggA Tryd.prog 32 = some true := by kernel_rfl
@[go_sem] theorem sz33 : szA Tryd.prog 33 = some 11 := by kernel_rfl
@[go_sem] theorem zr33 : zeroA Tryd.prog 33 = some (.agg #[.int .i64 0, .int .i64 0, .int .i64 0, .int .i64 0, .int .i64 0, .slice none 0 0, .slice none 0 0, .bool false, .bool false, .slice none 0 0, .slice none 0 0]) := by kernel_rfl
@[go_sem] theorem by33 : bytesA Tryd.prog 33 = some 144 := by kernel_rfl
@[go_sem] theorem ag33 : aggA Tryd.prog 33 = some true := by kernel_rfl
@[go_sem] theorem sz34 : szA Tryd.prog 34 = some 1 := by kernel_rfl
@[go_sem] theorem zr34 : zeroA Tryd.prog 34 = some (.nilFunc) := by kernel_rfl
@[go_sem] theorem by34 : bytesA Tryd.prog 34 = some 8 := by kernel_rfl
@[go_sem] theorem ag34 : aggA Tryd.prog 34 = some false := by kernel_rfl
@[go_sem] theorem sz35 : szA Tryd.prog 35 = some 1 := by kernel_rfl
@[go_sem] theorem zr35 : zeroA Tryd.prog 35 = some (.nilFunc) := by kernel_rfl
@[go_sem] theorem by35 : bytesA Tryd.prog 35 = some 8 := by kernel_rfl
@[go_sem] theorem ag35 : aggA Tryd.prog 35 = some false := by kernel_rfl
@[go_sem] theorem sz36 : szA Tryd.prog 36 = some 1 := by kernel_rfl
@[go_sem] theorem zr36 : zeroA Tryd.prog 36 = some (.pointer none) := by kernel_rfl
@[go_sem] theorem by36 : bytesA Tryd.prog 36 = some 8 := by kernel_rfl
@[go_sem] theorem ag36 : aggA Tryd.prog 36 = some false := by kernel_rfl
@[go_sem] theorem sz37 : szA Tryd.prog 37 = some 1 := by kernel_rfl
@[go_sem] theorem zr37 : zeroA Tryd.prog 37 = some (.slice none 0 0) := by kernel_rfl
@[go_sem] theorem by37 : bytesA Tryd.prog 37 = some 24 := by kernel_rfl
@[go_sem] theorem ag37 : aggA Tryd.prog 37 = some false := by kernel_rfl
@[go_sem] theorem sz38 : szA Tryd.prog 38 = some 2 := by kernel_rfl
@[go_sem] theorem zr38 : zeroA Tryd.prog 38 = some (.agg #[.pointer none, .slice none 0 0]) := by kernel_rfl
@[go_sem] theorem by38 : bytesA Tryd.prog 38 = some 32 := by kernel_rfl
@[go_sem] theorem ag38 : aggA Tryd.prog 38 = some true := by kernel_rfl
@[go_sem] theorem sz39 : szA Tryd.prog 39 = some 2 := by kernel_rfl
@[go_sem] theorem zr39 : zeroA Tryd.prog 39 = some (.agg #[.pointer none, .slice none 0 0]) := by kernel_rfl
@[go_sem] theorem by39 : bytesA Tryd.prog 39 = some 32 := by kernel_rfl
@[go_sem] theorem ag39 : aggA Tryd.prog 39 = some true := by kernel_rfl
@[go_sem] theorem sz40 : szA Tryd.prog 40 = some 2 := by kernel_rfl
@[go_sem] theorem zr40 : zeroA Tryd.prog 40 = some (.agg #[.pointer none, .slice none 0 0]) := by kernel_rfl
@[go_sem] theorem by40 : bytesA Tryd.prog 40 = some 32 := by kernel_rfl
@[go_sem] theorem ag40 : aggA Tryd.prog 40 = some true := by kernel_rfl
@[go_sem] theorem sz41 : szA Tryd.prog 41 = some 2 := by kernel_rfl
@[go_sem] theorem zr41 : zeroA Tryd.prog 41 = some (.agg #[.pointer none, .slice none 0 0]) := by kernel_rfl
@[go_sem] theorem by41 : bytesA Tryd.prog 41 = some 32 := by kernel_rfl
@[go_sem] theorem ag41 : aggA Tryd.prog 41 = some true := by kernel_rfl
@[go_sem] theorem sz42 : szA Tryd.prog 42 = some 1 := by kernel_rfl
@[go_sem] theorem zr42 : zeroA Tryd.prog 42 = some (.nilFunc) := by kernel_rfl
@[go_sem] theorem by42 : bytesA Tryd.prog 42 = some 8 := by kernel_rfl
@[go_sem] theorem ag42 : aggA Tryd.prog 42 = some false := by kernel_rfl
@[go_sem] theorem sz43 : szA Tryd.prog 43 = some 1 := by kernel_rfl
@[go_sem] theorem zr43 : zeroA Tryd.prog 43 = some (.nilFunc) := by kernel_rfl
@[go_sem] theorem by43 : bytesA Tryd.prog 43 = some 8 := by kernel_rfl
@[go_sem] theorem ag43 : aggA Tryd.prog 43 = some false := by kernel_rfl
@[go_sem] theorem sz44 : szA Tryd.prog 44 = some 1 := by kernel_rfl
@[go_sem] theorem zr44 : zeroA Tryd.prog 44 = some (.nilFunc) := by kernel_rfl
@[go_sem] theorem by44 : bytesA Tryd.prog 44 = some 8 := by kernel_rfl
@[go_sem] theorem ag44 : aggA Tryd.prog 44 = some false := by kernel_rfl
@[go_sem] theorem sz45 : szA Tryd.prog 45 = some 1 := by kernel_rfl
@[go_sem] theorem zr45 : zeroA Tryd.prog 45 = some (.nilFunc) := by kernel_rfl
@[go_sem] theorem by45 : bytesA Tryd.prog 45 = some 8 := by kernel_rfl
@[go_sem] theorem ag45 : aggA Tryd.prog 45 = some false := by kernel_rfl
@[go_sem] theorem sz46 : szA Tryd.prog 46 = some 1 := by kernel_rfl
@[go_sem] theorem zr46 : zeroA Tryd.prog 46 = some (.nilFunc) := by kernel_rfl
@[go_sem] theorem by46 : bytesA Tryd.prog 46 = some 8 := by kernel_rfl
@[go_sem] theorem ag46 : aggA Tryd.prog 46 = some false := by kernel_rfl
@[go_sem] theorem sz47 : szA Tryd.prog 47 = some 1 := by kernel_rfl
@[go_sem] theorem zr47 : zeroA Tryd.prog 47 = some (.nilFunc) := by kernel_rfl
@[go_sem] theorem by47 : bytesA Tryd.prog 47 = some 8 := by kernel_rfl
@[go_sem] theorem ag47 : aggA Tryd.prog 47 = some false := by kernel_rfl
@[go_sem] theorem sz48 : szA Tryd.prog 48 = some 1 := by kernel_rfl
@[go_sem] theorem zr48 : zeroA Tryd.prog 48 = some (.pointer none) := by kernel_rfl
@[go_sem] theorem by48 : bytesA Tryd.prog 48 = some 8 := by kernel_rfl
@[go_sem] theorem ag48 : aggA Tryd.prog 48 = some false := by kernel_rfl
@[go_sem] theorem sz49 : szA Tryd.prog 49 = some 1 := by kernel_rfl
@[go_sem] theorem zr49 : zeroA Tryd.prog 49 = some (.nilFunc) := by kernel_rfl
@[go_sem] theorem by49 : bytesA Tryd.prog 49 = some 8 := by kernel_rfl
@[go_sem] theorem ag49 : aggA Tryd.prog 49 = some false := by kernel_rfl
@[go_sem] theorem sz50 : szA Tryd.prog 50 = some 1 := by kernel_rfl
@[go_sem] theorem zr50 : zeroA Tryd.prog 50 = some (.nilFunc) := by kernel_rfl
@[go_sem] theorem by50 : bytesA Tryd.prog 50 = some 8 := by kernel_rfl
@[go_sem] theorem ag50 : aggA Tryd.prog 50 = some false := by kernel_rfl
@[go_sem] theorem sz51 : szA Tryd.prog 51 = some 1 := by kernel_rfl
@[go_sem] theorem zr51 : zeroA Tryd.prog 51 = some (.nilIface) := by kernel_rfl
@[go_sem] theorem by51 : bytesA Tryd.prog 51 = some 16 := by kernel_rfl
@[go_sem] theorem ag51 : aggA Tryd.prog 51 = some false := by kernel_rfl
@[go_sem] theorem sz52 : szA Tryd.prog 52 = some 1 := by kernel_rfl
@[go_sem] theorem zr52 : zeroA Tryd.prog 52 = some (.nilIface) := by kernel_rfl
@[go_sem] theorem by52 : bytesA Tryd.prog 52 = some 16 := by kernel_rfl
@[go_sem] theorem ag52 : aggA Tryd.prog 52 = some false := by kernel_rfl
@[go_sem] theorem sz53 : szA Tryd.prog 53 = some 1 := by kernel_rfl
@[go_sem] theorem zr53 : zeroA Tryd.prog 53 = some (.nilFunc) := by kernel_rfl
@[go_sem] theorem by53 : bytesA Tryd.prog 53 = some 8 := by kernel_rfl
@[go_sem] theorem ag53 : aggA Tryd.prog 53 = some false := by kernel_rfl
@[go_sem] theorem sz54 : szA Tryd.prog 54 = some 1 := by kernel_rfl
@[go_sem] theorem zr54 : zeroA Tryd.prog 54 = some (.nilFunc) := by kernel_rfl
@[go_sem] theorem by54 : bytesA Tryd.prog 54 = some 8 := by kernel_rfl
@[go_sem] theorem ag54 : aggA Tryd.prog 54 = some false := by kernel_rfl
@[go_sem] theorem sz55 : szA Tryd.prog 55 = some 1 := by kernel_rfl
@[go_sem] theorem zr55 : zeroA Tryd.prog 55 = some (.pointer none) := by kernel_rfl
@[go_sem] theorem by55 : bytesA Tryd.prog 55 = some 8 := by kernel_rfl
@[go_sem] theorem ag55 : aggA Tryd.prog 55 = some false := by kernel_rfl
@[go_sem] theorem sz56 : szA Tryd.prog 56 = some 1 := by kernel_rfl
@[go_sem] theorem zr56 : zeroA Tryd.prog 56 = some (.nilFunc) := by kernel_rfl
@[go_sem] theorem by56 : bytesA Tryd.prog 56 = some 8 := by kernel_rfl
@[go_sem] theorem ag56 : aggA Tryd.prog 56 = some false := by kernel_rfl
@[go_sem] theorem sz58 : szA Tryd.prog 58 = some 1 := by kernel_rfl
@[go_sem] theorem zr58 : zeroA Tryd.prog 58 = some (.nilFunc) := by kernel_rfl
@[go_sem] theorem by58 : bytesA Tryd.prog 58 = some 8 := by kernel_rfl
@[go_sem] theorem ag58 : aggA Tryd.prog 58 = some false := by kernel_rfl
@[go_sem] theorem sz59 : szA Tryd.prog 59 = some 1 := by kernel_rfl
@[go_sem] theorem zr59 : zeroA Tryd.prog 59 = some (.nilFunc) := by kernel_rfl
@[go_sem] theorem by59 : bytesA Tryd.prog 59 = some 8 := by kernel_rfl
@[go_sem] theorem ag59 : aggA Tryd.prog 59 = some false := by kernel_rfl
@[go_sem] theorem sz61 : szA Tryd.prog 61 = some 1 := by kernel_rfl
@[go_sem] theorem zr61 : zeroA Tryd.prog 61 = some (.nilFunc) := by kernel_rfl
@[go_sem] theorem by61 : bytesA Tryd.prog 61 = some 8 := by kernel_rfl
@[go_sem] theorem ag61 : aggA Tryd.prog 61 = some false := by kernel_rfl
@[go_sem] theorem sz62 : szA Tryd.prog 62 = some 12 := by kernel_rfl
@[go_sem] theorem zr62 : zeroA Tryd.prog 62 = some (.agg #[.string ⟨#[]⟩, .string ⟨#[]⟩, .string ⟨#[]⟩, .string ⟨#[]⟩, .string ⟨#[]⟩, .string ⟨#[]⟩, .string ⟨#[]⟩, .string ⟨#[]⟩, .string ⟨#[]⟩, .string ⟨#[]⟩, .string ⟨#[]⟩, .string ⟨#[]⟩]) := by kernel_rfl
@[go_sem] theorem by62 : bytesA Tryd.prog 62 = some 192 := by kernel_rfl
@[go_sem] theorem ag62 : aggA Tryd.prog 62 = some true := by kernel_rfl
@[go_sem] theorem sz63 : szA Tryd.prog 63 = some 1 := by kernel_rfl
@[go_sem] theorem zr63 : zeroA Tryd.prog 63 = some (.nilFunc) := by kernel_rfl
@[go_sem] theorem by63 : bytesA Tryd.prog 63 = some 8 := by kernel_rfl
@[go_sem] theorem ag63 : aggA Tryd.prog 63 = some false := by kernel_rfl
@[go_sem] theorem sz64 : szA Tryd.prog 64 = some 8 := by kernel_rfl
@[go_sem] theorem zr64 : zeroA Tryd.prog 64 = some (.agg #[.string ⟨#[]⟩, .string ⟨#[]⟩, .string ⟨#[]⟩, .string ⟨#[]⟩, .string ⟨#[]⟩, .string ⟨#[]⟩, .string ⟨#[]⟩, .string ⟨#[]⟩]) := by kernel_rfl
@[go_sem] theorem by64 : bytesA Tryd.prog 64 = some 128 := by kernel_rfl
@[go_sem] theorem ag64 : aggA Tryd.prog 64 = some true := by kernel_rfl
@[go_sem] theorem sz65 : szA Tryd.prog 65 = some 2 := by kernel_rfl
@[go_sem] theorem zr65 : zeroA Tryd.prog 65 = some (.agg #[.string ⟨#[]⟩, .string ⟨#[]⟩]) := by kernel_rfl
@[go_sem] theorem by65 : bytesA Tryd.prog 65 = some 32 := by kernel_rfl
@[go_sem] theorem ag65 : aggA Tryd.prog 65 = some true := by kernel_rfl
@[go_sem] theorem sz66 : szA Tryd.prog 66 = some 4 := by kernel_rfl
@[go_sem] theorem zr66 : zeroA Tryd.prog 66 = some (.agg #[.string ⟨#[]⟩, .string ⟨#[]⟩, .string ⟨#[]⟩, .string ⟨#[]⟩]) := by kernel_rfl
@[go_sem] theorem by66 : bytesA Tryd.prog 66 = some 64 := by kernel_rfl
@[go_sem] theorem ag66 : aggA Tryd.prog 66 = some true := by kernel_rfl
@[go_sem] theorem sz67 : szA Tryd.prog 67 = some 1 := by kernel_rfl
@[go_sem] theorem zr67 : zeroA Tryd.prog 67 = some (.nilFunc) := by kernel_rfl
@[go_sem] theorem by67 : bytesA Tryd.prog 67 = some 8 := by kernel_rfl
@[go_sem] theorem ag67 : aggA Tryd.prog 67 = some false := by kernel_rfl
@[go_sem] theorem sz68 : szA Tryd.prog 68 = some 1 := by kernel_rfl
@[go_sem] theorem zr68 : zeroA Tryd.prog 68 = some (.nilFunc) := by kernel_rfl
@[go_sem] theorem by68 : bytesA Tryd.prog 68 = some 8 := by kernel_rfl
@[go_sem] theorem ag68 : aggA Tryd.prog 68 = some false := by kernel_rfl
@[go_sem] theorem sz69 : szA Tryd.prog 69 = some 1 := by kernel_rfl
@[go_sem] theorem zr69 : zeroA Tryd.prog 69 = some (.nilFunc) := by kernel_rfl
@[go_sem] theorem by69 : bytesA Tryd.prog 69 = some 8 := by kernel_rfl
@[go_sem] theorem ag69 : aggA Tryd.prog 69 = some false := by kernel_rfl
@[go_sem] theorem sz70 : szA Tryd.prog 70 = some 1 := by kernel_rfl
@[go_sem] theorem zr70 : zeroA Tryd.prog 70 = some (.nilFunc) := by kernel_rfl
@[go_sem] theorem by70 : bytesA Tryd.prog 70 = some 8 := by kernel_rfl
@[go_sem] theorem ag70 : aggA Tryd.prog 70 = some false := by kernel_rfl
@[go_sem] theorem sz71 : szA Tryd.prog 71 = some 1 := by kernel_rfl
@[go_sem] theorem zr71 : zeroA Tryd.prog 71 = some (.pointer none) := by kernel_rfl
@[go_sem] theorem by71 : bytesA Tryd.prog 71 = some 8 := by kernel_rfl
@[go_sem] theorem ag71 : aggA Tryd.prog 71 = some false := by kernel_rfl
@[go_sem] theorem sz72 : szA Tryd.prog 72 = some 1 := by kernel_rfl
@[go_sem] theorem zr72 : zeroA Tryd.prog 72 = some (.nilFunc) := by kernel_rfl
@[go_sem] theorem by72 : bytesA Tryd.prog 72 = some 8 := by kernel_rfl
@[go_sem] theorem ag72 : aggA Tryd.prog 72 = some false := by kernel_rfl
@[go_sem] theorem sz73 : szA Tryd.prog 73 = some 2 := by kernel_rfl
@[go_sem] theorem zr73 : zeroA Tryd.prog 73 = some (.agg #[.int .i64 0, .slice none 0 0]) := by kernel_rfl
@[go_sem] theorem by73 : bytesA Tryd.prog 73 = some 32 := by kernel_rfl
@[go_sem] theorem ag73 : aggA Tryd.prog 73 = some true := by kernel_rfl
@[go_sem] theorem sz74 : szA Tryd.prog 74 = some 2 := by kernel_rfl
@[go_sem] theorem zr74 : zeroA Tryd.prog 74 = some (.agg #[.int .i64 0, .slice none 0 0]) := by kernel_rfl
@[go_sem] theorem by74 : bytesA Tryd.prog 74 = some 32 := by kernel_rfl
@[go_sem] theorem ag74 : aggA Tryd.prog 74 = some true := by kernel_rfl
@[go_sem] theorem sz75 : szA Tryd.prog 75 = some 1 := by kernel_rfl
@[go_sem] theorem zr75 : zeroA Tryd.prog 75 = some (.slice none 0 0) := by kernel_rfl
@[go_sem] theorem by75 : bytesA Tryd.prog 75 = some 24 := by kernel_rfl
@[go_sem] theorem ag75 : aggA Tryd.prog 75 = some false := by kernel_rfl
@[go_sem] theorem sz76 : szA Tryd.prog 76 = some 1 := by kernel_rfl
@[go_sem] theorem zr76 : zeroA Tryd.prog 76 = some (.nilFunc) := by kernel_rfl
@[go_sem] theorem by76 : bytesA Tryd.prog 76 = some 8 := by kernel_rfl
@[go_sem] theorem ag76 : aggA Tryd.prog 76 = some false := by kernel_rfl
@[go_sem] theorem sz77 : szA Tryd.prog 77 = some 1 := by kernel_rfl
@[go_sem] theorem zr77 : zeroA Tryd.prog 77 = some (.nilFunc) := by kernel_rfl
@[go_sem] theorem by77 : bytesA Tryd.prog 77 = some 8 := by kernel_rfl
@[go_sem] theorem ag77 : aggA Tryd.prog 77 = some false := by kernel_rfl
@[go_sem] theorem sz78 : szA Tryd.prog 78 = some 1 := by kernel_rfl
@[go_sem] theorem zr78 : zeroA Tryd.prog 78 = some (.nilFunc) := by kernel_rfl
@[go_sem] theorem by78 : bytesA Tryd.prog 78 = some 8 := by kernel_rfl
@[go_sem] theorem ag78 : aggA Tryd.prog 78 = some false := by kernel_rfl
@[go_sem] theorem sz79 : szA Tryd.prog 79 = some 1 := by kernel_rfl
@[go_sem] theorem zr79 : zeroA Tryd.prog 79 = some (.nilFunc) := by kernel_rfl
@[go_sem] theorem by79 : bytesA Tryd.prog 79 = some 8 := by kernel_rfl
@[go_sem] theorem ag79 : aggA Tryd.prog 79 = some false := by kernel_rfl
@[go_sem] theorem sz80 : szA Tryd.prog 80 = some 1 := by kernel_rfl
@[go_sem] theorem zr80 : zeroA Tryd.prog 80 = some (.nilFunc) := by kernel_rfl
@[go_sem] theorem by80 : bytesA Tryd.prog 80 = some 8 := by kernel_rfl
@[go_sem] theorem ag80 : aggA Tryd.prog 80 = some false := by kernel_rfl
@[go_sem] theorem sz81 : szA Tryd.prog 81 = some 1 := by kernel_rfl
@[go_sem] theorem zr81 : zeroA Tryd.prog 81 = some (.nilFunc) := by kernel_rfl
@[go_sem] theorem by81 : bytesA Tryd.prog 81 = some 8 := by kernel_rfl
@[go_sem] theorem ag81 : aggA Tryd.prog 81 = some false := by kernel_rfl
@[go_sem] theorem sz82 : szA Tryd.prog 82 = some 1 := by kernel_rfl
@[go_sem] theorem zr82 : zeroA Tryd.prog 82 = some (.nilFunc) := by kernel_rfl
@[go_sem] theorem by82 : bytesA Tryd.prog 82 = some 8 := by kernel_rfl
@[go_sem] theorem ag82 : aggA Tryd.prog 82 = some false := by kernel_rfl
@[go_sem] theorem sz83 : szA Tryd.prog 83 = some 1 := by kernel_rfl
@[go_sem] theorem zr83 : zeroA Tryd.prog 83 = some (.nilFunc) := by kernel_rfl
@[go_sem] theorem by83 : bytesA Tryd.prog 83 = some 8 := by kernel_rfl
@[go_sem] theorem ag83 : aggA Tryd.prog 83 = some false := by kernel_rfl
@[go_sem] theorem sz84 : szA Tryd.prog 84 = some 1 := by kernel_rfl
@[go_sem] theorem zr84 : zeroA Tryd.prog 84 = some (.nilFunc) := by kernel_rfl
@[go_sem] theorem by84 : bytesA Tryd.prog 84 = some 8 := by kernel_rfl
@[go_sem] theorem ag84 : aggA Tryd.prog 84 = some false := by kernel_rfl
@[go_sem] theorem sz85 : szA Tryd.prog 85 = some 1 := by kernel_rfl
@[go_sem] theorem zr85 : zeroA Tryd.prog 85 = some (.nilFunc) := by kernel_rfl
@[go_sem] theorem by85 : bytesA Tryd.prog 85 = some 8 := by kernel_rfl
@[go_sem] theorem ag85 : aggA Tryd.prog 85 = some false := by kernel_rfl
@[go_sem] theorem sz86 : szA Tryd.prog 86 = some 24 := by kernel_rfl
@[go_sem] theorem zr86 : zeroA Tryd.prog 86 = some (.agg #[.int .u8 0, .int .u8 0, .int .u8 0, .int .u8 0, .int .u8 0, .int .u8 0, .int .u8 0, .int .u8 0, .int .u8 0, .int .u8 0, .int .u8 0, .int .u8 0, .int .u8 0, .int .u8 0, .int .u8 0, .int .u8 0, .int .u8 0, .int .u8 0, .int .u8 0, .int .u8 0, .int .u8 0, .int .u8 0, .int .u8 0, .int .u8 0]) := by kernel_rfl
@[go_sem] theorem by86 : bytesA Tryd.prog 86 = some 24 := by kernel_rfl
@[go_sem] theorem ag86 : aggA Tryd.prog 86 = some true := by kernel_rfl
@[go_sem] theorem sz87 : szA Tryd.prog 87 = some 1 := by kernel_rfl
@[go_sem] theorem zr87 : zeroA Tryd.prog 87 = some (.int .u64 0) := by kernel_rfl
@[go_sem] theorem by87 : bytesA Tryd.prog 87 = some 8 := by kernel_rfl
@[go_sem] theorem ag87 : aggA Tryd.prog 87 = some false := by kernel_rfl
@[go_sem] theorem sz88 : szA Tryd.prog 88 = some 1 := by kernel_rfl
@[go_sem] theorem zr88 : zeroA Tryd.prog 88 = some (.nilFunc) := by kernel_rfl
@[go_sem] theorem by88 : bytesA Tryd.prog 88 = some 8 := by kernel_rfl
@[go_sem] theorem ag88 : aggA Tryd.prog 88 = some false := by kernel_rfl
@[go_sem] theorem sz89 : szA Tryd.prog 89 = some 1 := by kernel_rfl
@[go_sem] theorem zr89 : zeroA Tryd.prog 89 = some (.nilFunc) := by kernel_rfl
@[go_sem] theorem by89 : bytesA Tryd.prog 89 = some 8 := by kernel_rfl
@[go_sem] theorem ag89 : aggA Tryd.prog 89 = some false := by kernel_rfl
@[go_sem] theorem sz91 : szA Tryd.prog 91 = some 1 := by kernel_rfl
@[go_sem] theorem zr91 : zeroA Tryd.prog 91 = some (.nilFunc) := by kernel_rfl
@[go_sem] theorem by91 : bytesA Tryd.prog 91 = some 8 := by kernel_rfl
@[go_sem] theorem ag91 : aggA Tryd.prog 91 = some false := by kernel_rfl
@[go_sem] theorem sz92 : szA Tryd.prog 92 = some 1 := by kernel_rfl
@[go_sem] theorem zr92 : zeroA Tryd.prog 92 = some (.nilFunc) := by kernel_rfl
@[go_sem] theorem by92 : bytesA Tryd.prog 92 = some 8 := by kernel_rfl
@[go_sem] theorem ag92 : aggA Tryd.prog 92 = some false := by kernel_rfl
@[go_sem] theorem sz93 : szA Tryd.prog 93 = some 1 := by kernel_rfl
@[go_sem] theorem zr93 : zeroA Tryd.prog 93 = some (.int .u64 0) := by kernel_rfl
@[go_sem] theorem by93 : bytesA Tryd.prog 93 = some 8 := by kernel_rfl
@[go_sem] theorem ag93 : aggA Tryd.prog 93 = some false := by kernel_rfl
@[go_sem] theorem sz94 : szA Tryd.prog 94 = some 1 := by kernel_rfl
@[go_sem] theorem zr94 : zeroA Tryd.prog 94 = some (.nilFunc) := by kernel_rfl
@[go_sem] theorem by94 : bytesA Tryd.prog 94 = some 8 := by kernel_rfl
@[go_sem] theorem ag94 : aggA Tryd.prog 94 = some false := by kernel_rfl
@[go_sem] theorem sz95 : szA Tryd.prog 95 = some 1 := by kernel_rfl
@[go_sem] theorem zr95 : zeroA Tryd.prog 95 = some (.nilFunc) := by kernel_rfl
@[go_sem] theorem by95 : bytesA Tryd.prog 95 = some 8 := by kernel_rfl
@[go_sem] theorem ag95 : aggA Tryd.prog 95 = some false := by kernel_rfl
@[go_sem] theorem sz96 : szA Tryd.prog 96 = some 20 := by kernel_rfl
@[go_sem] theorem zr96 : zeroA Tryd.prog 96 = some (.agg #[.int .u64 0, .int .u64 0, .int .u64 0, .int .u64 0, .int .u64 0, .int .u64 0, .int .u64 0, .int .u64 0, .int .u64 0, .int .u64 0, .int .u64 0, .int .u64 0, .int .u64 0, .int .u64 0, .int .u64 0, .int .u64 0, .int .u64 0, .int .u64 0, .int .u64 0, .int .u64 0]) := by kernel_rfl
@[go_sem] theorem by96 : bytesA Tryd.prog 96 = some 160 := by kernel_rfl
@[go_sem] theorem ag96 : aggA Tryd.prog 96 = some true := by kernel_rfl
@[go_sem] theorem sz97 : szA Tryd.prog 97 = some 1 := by kernel_rfl
@[go_sem] theorem zr97 : zeroA Tryd.prog 97 = some (.int .u32 0) := by kernel_rfl
@[go_sem] theorem by97 : bytesA Tryd.prog 97 = some 4 := by kernel_rfl
@[go_sem] theorem ag97 : aggA Tryd.prog 97 = some false := by kernel_rfl
@[go_sem] theorem sz98 : szA Tryd.prog 98 = some 65 := by kernel_rfl
@[go_sem] theorem zr98 : zeroA Tryd.prog 98 = some (.agg #[.int .u8 0, .int .u8 0, .int .u8 0, .int .u8 0, .int .u8 0, .int .u8 0, .int .u8 0, .int .u8 0, .int .u8 0, .int .u8 0, .int .u8 0, .int .u8 0, .int .u8 0, .int .u8 0, .int .u8 0, .int .u8 0, .int .u8 0, .int .u8 0, .int .u8 0, .int .u8 0, .int .u8 0, .int .u8 0, .int .u8 0, .int .u8 0, .int .u8 0, .int .u8 0, .int .u8 0, .int .u8 0, .int .u8 0, .int .u8 0, .int .u8 0, .int .u8 0, .int .u8 0, .int .u8 0, .int .u8 0, .int .u8 0, .int .u8 0, .int .u8 0, .int .u8 0, .int .u8 0, .int .u8 0, .int .u8 0, .int .u8 0, .int .u8 0, .int .u8 0, .int .u8 0, .int .u8 0, .int .u8 0, .int .u8 0, .int .u8 0, .int .u8 0, .int .u8 0, .int .u8 0, .int .u8 0, .int .u8 0, .int .u8 0, .int .u8 0, .int .u8 0, .int .u8 0, .int .u8 0, .int .u8 0, .int .u8 0, .int .u8 0, .int .u8 0, .int .u8 0]) := by kernel_rfl
@[go_sem] theorem by98 : bytesA Tryd.prog 98 = some 65 := by kernel_rfl
@[go_sem] theorem ag98 : aggA Tryd.prog 98 = some true := by kernel_rfl
@[go_sem] theorem sz99 : szA Tryd.prog 99 = some 1 := by kernel_rfl
@[go_sem] theorem zr99 : zeroA Tryd.prog 99 = some (.nilFunc) := by kernel_rfl
@[go_sem] theorem by99 : bytesA Tryd.prog 99 = some 8 := by kernel_rfl
@[go_sem] theorem ag99 : aggA Tryd.prog 99 = some false := by kernel_rfl
@[go_sem] theorem sz100 : szA Tryd.prog 100 = some 1 := by kernel_rfl
@[go_sem] theorem zr100 : zeroA Tryd.prog 100 = some (.nilFunc) := by kernel_rfl
@[go_sem] theorem by100 : bytesA Tryd.prog 100 = some 8 := by kernel_rfl
@[go_sem] theorem ag100 : aggA Tryd.prog 100 = some false := by kernel_rfl
@[go_sem] theorem sz101 : szA Tryd.prog 101 = some 32 := by kernel_rfl
@[go_sem] theorem zr101 : zeroA Tryd.prog 101 = some (.agg #[.int .u8 0, .int .u8 0, .int .u8 0, .int .u8 0, .int .u8 0, .int .u8 0, .int .u8 0, .int .u8 0, .int .u8 0, .int .u8 0, .int .u8 0, .int .u8 0, .int .u8 0, .int .u8 0, .int .u8 0, .int .u8 0, .int .u8 0, .int .u8 0, .int .u8 0, .int .u8 0, .int .u8 0, .int .u8 0, .int .u8 0, .int .u8 0, .int .u8 0, .int .u8 0, .int .u8 0, .int .u8 0, .int .u8 0, .int .u8 0, .int .u8 0, .int .u8 0]) := by kernel_rfl
@[go_sem] theorem by101 : bytesA Tryd.prog 101 = some 32 := by kernel_rfl
@[go_sem] theorem ag101 : aggA Tryd.prog 101 = some true := by kernel_rfl
@[go_sem] theorem sz102 : szA Tryd.prog 102 = some 64 := by kernel_rfl
@[go_sem] theorem zr102 : zeroA Tryd.prog 102 = some (.agg #[.int .u8 0, .int .u8 0, .int .u8 0, .int .u8 0, .int .u8 0, .int .u8 0, .int .u8 0, .int .u8 0, .int .u8 0, .int .u8 0, .int .u8 0, .int .u8 0, .int .u8 0, .int .u8 0, .int .u8 0, .int .u8 0, .int .u8 0, .int .u8 0, .int .u8 0, .int .u8 0, .int .u8 0, .int .u8 0, .int .u8 0, .int .u8 0, .int .u8 0, .int .u8 0, .int .u8 0, .int .u8 0, .int .u8 0, .int .u8 0, .int .u8 0, .int .u8 0, .int .u8 0, .int .u8 0, .int .u8 0, .int .u8 0, .int .u8 0, .int .u8 0, .int .u8 0, .int .u8 0, .int .u8 0, .int .u8 0, .int .u8 0, .int .u8 0, .int .u8 0, .int .u8 0, .int .u8 0, .int .u8 0, .int .u8 0, .int .u8 0, .int .u8 0, .int .u8 0, .int .u8 0, .int .u8 0, .int .u8 0, .int .u8 0, .int .u8 0, .int .u8 0, .int .u8 0, .int .u8 0, .int .u8 0, .int .u8 0, .int .u8 0, .int .u8 0]) := by kernel_rfl
@[go_sem] theorem by102 : bytesA Tryd.prog 102 = some 64 := by kernel_rfl
@[go_sem] theorem ag102 : aggA Tryd.prog 102 = some true := by kernel_rfl
@[go_sem] theorem sz103 : szA Tryd.prog 103 = some 4 := by kernel_rfl
@[go_sem] theorem zr103 : zeroA Tryd.prog 103 = some (.agg #[.pointer none, .pointer none, .pointer none, .string ⟨#[]⟩]) := by kernel_rfl
@[go_sem] theorem by103 : bytesA Tryd.prog 103 = some 40 := by kernel_rfl
@[go_sem] theorem ag103 : aggA Tryd.prog 103 = some true := by kernel_rfl
@[go_sem] theorem sz104 : szA Tryd.prog 104 = some 4 := by kernel_rfl
@[go_sem] theorem zr104 : zeroA Tryd.prog 104 = some (.agg #[.pointer none, .pointer none, .pointer none, .string ⟨#[]⟩]) := by kernel_rfl
@[go_sem] theorem by104 : bytesA Tryd.prog 104 = some 40 := by kernel_rfl
@[go_sem] theorem ag104 : aggA Tryd.prog 104 = some true := by kernel_rfl
@[go_sem] theorem sz105 : szA Tryd.prog 105 = some 0 := by kernel_rfl
@[go_sem] theorem zr105 : zeroA Tryd.prog 105 = some (.agg #[]) := by kernel_rfl
@[go_sem] theorem by105 : bytesA Tryd.prog 105 = some 0 := by kernel_rfl
@[go_sem] theorem ag105 : aggA Tryd.prog 105 = some true := by kernel_rfl
@[go_sem] theorem sz106 : szA Tryd.prog 106 = some 0 := by kernel_rfl
@[go_sem] theorem zr106 : zeroA Tryd.prog 106 = some (.agg #[]) := by kernel_rfl
@[go_sem] theorem by106 : bytesA Tryd.prog 106 = some 0 := by kernel_rfl
@[go_sem] theorem ag106 : aggA Tryd.prog 106 = some true := by kernel_rfl
@[go_sem] theorem sz107 : szA Tryd.prog 107 = some 0 := by kernel_rfl
@[go_sem] theorem zr107 : zeroA Tryd.prog 107 = some (.agg #[]) := by kernel_rfl
@[go_sem] theorem by107 : bytesA Tryd.prog 107 = some 0 := by kernel_rfl
@[go_sem] theorem ag107 : aggA Tryd.prog 107 = some true := by kernel_rfl
@[go_sem] theorem sz108 : szA Tryd.prog 108 = some 1 := by kernel_rfl
@[go_sem] theorem zr108 : zeroA Tryd.prog 108 = some (.int .u8 0) := by kernel_rfl
@[go_sem] theorem by108 : bytesA Tryd.prog 108 = some 1 := by kernel_rfl
@[go_sem] theorem ag108 : aggA Tryd.prog 108 = some false := by kernel_rfl
@[go_sem] theorem sz109 : szA Tryd.prog 109 = some 1 := by kernel_rfl
@[go_sem] theorem zr109 : zeroA Tryd.prog 109 = some (.int .u8 0) := by kernel_rfl
@[go_sem] theorem by109 : bytesA Tryd.prog 109 = some 1 := by kernel_rfl
@[go_sem] theorem ag109 : aggA Tryd.prog 109 = some false := by kernel_rfl
@[go_sem] theorem sz110 : szA Tryd.prog 110 = some 1 := by kernel_rfl
@[go_sem] theorem zr110 : zeroA Tryd.prog 110 = some (.nilFunc) := by kernel_rfl
@[go_sem] theorem by110 : bytesA Tryd.prog 110 = some 8 := by kernel_rfl
@[go_sem] theorem ag110 : aggA Tryd.prog 110 = some false := by kernel_rfl
@[go_sem] theorem sz111 : szA Tryd.prog 111 = some 1 := by kernel_rfl
@[go_sem] theorem zr111 : zeroA Tryd.prog 111 = some (.int .i32 0) := by kernel_rfl
@[go_sem] theorem by111 : bytesA Tryd.prog 111 = some 4 := by kernel_rfl
@[go_sem] theorem ag111 : aggA Tryd.prog 111 = some false := by kernel_rfl
@[go_sem] theorem sz112 : szA Tryd.prog 112 = some 1 := by kernel_rfl
@[go_sem] theorem zr112 : zeroA Tryd.prog 112 = some (.int .i32 0) := by kernel_rfl
@[go_sem] theorem by112 : bytesA Tryd.prog 112 = some 4 := by kernel_rfl
@[go_sem] theorem ag112 : aggA Tryd.prog 112 = some false := by kernel_rfl
@[go_sem] theorem sz113 : szA Tryd.prog 113 = some 11 := by kernel_rfl
@[go_sem] theorem zr113 : zeroA Tryd.prog 113 = some (.agg #[.int .u64 0, .int .u64 0, .int .u32 0, .int .u8 0, .int .u8 0, .int .u8 0, .int .u8 0, .nilFunc, .pointer none, .int .i32 0, .int .i32 0]) := by kernel_rfl
@[go_sem] theorem by113 : bytesA Tryd.prog 113 = some 48 := by kernel_rfl
@[go_sem] theorem ag113 : aggA Tryd.prog 113 = some true := by kernel_rfl
@[go_sem] theorem sz114 : szA Tryd.prog 114 = some 11 := by kernel_rfl
@[go_sem] theorem zr114 : zeroA Tryd.prog 114 = some (.agg #[.int .u64 0, .int .u64 0, .int .u32 0, .int .u8 0, .int .u8 0, .int .u8 0, .int .u8 0, .nilFunc, .pointer none, .int .i32 0, .int .i32 0]) := by kernel_rfl
@[go_sem] theorem by114 : bytesA Tryd.prog 114 = some 48 := by kernel_rfl
@[go_sem] theorem ag114 : aggA Tryd.prog 114 = some true := by kernel_rfl
@[go_sem] theorem kp1 : keepO Tryd.prog 1 = none := by kernel_rfl
@[go_sem] theorem kp2 : keepO Tryd.prog 2 = none := by kernel_rfl
@[go_sem] theorem kp3 : keepO Tryd.prog 3 = none := by kernel_rfl
@[go_sem] theorem kp4 : keepO Tryd.prog 4 = none := by kernel_rfl
@[go_sem] theorem kp5 : keepO Tryd.prog 5 = none := by kernel_rfl
@[go_sem] theorem kp6 : keepO Tryd.prog 6 = none := by kernel_rfl
@[go_sem] theorem kp7 : keepO Tryd.prog 7 = none := by kernel_rfl
@[go_sem] theorem kp8 : keepO Tryd.prog 8 = none := by kernel_rfl
@[go_sem] theorem kp9 : keepO Tryd.prog 9 = none := by kernel_rfl
@[go_sem] theorem kp10 : keepO Tryd.prog 10 = none := by kernel_rfl
@[go_sem] theorem kp11 : keepO Tryd.prog 11 = none := by kernel_rfl
@[go_sem] theorem kp12 : keepO Tryd.prog 12 = none := by kernel_rfl
@[go_sem] theorem kp13 : keepO Tryd.prog 13 = none := by kernel_rfl
@[go_sem] theorem kp14 : keepO Tryd.prog 14 = none := by kernel_rfl
@[go_sem] theorem kp15 : keepO Tryd.prog 15 = none := by kernel_rfl
@[go_sem] theorem kp16 : keepO Tryd.prog 16 = none := by kernel_rfl
@[go_sem] theorem kp17 : keepO Tryd.prog 17 = none := by kernel_rfl
@[go_sem] theorem kp18 : keepO Tryd.prog 18 = none := by kernel_rfl
@[go_sem] theorem kp19 : keepO Tryd.prog 19 = none := by kernel_rfl
@[go_sem] theorem kp20 : keepO Tryd.prog 20 = none := by kernel_rfl
@[go_sem] theorem kp21 : keepO Tryd.prog 21 = none := by kernel_rfl
@[go_sem] theorem kp22 : keepO Tryd.prog 22 = none := by kernel_rfl
@[go_sem] theorem kp23 : keepO Tryd.prog 23 = none := by kernel_rfl
@[go_sem] theorem kp24 : keepO Tryd.prog 24 = none := by kernel_rfl
@[go_sem] theorem kp26 : keepO Tryd.prog 26 = none := by kernel_rfl
@[go_sem] theorem kp27 : keepO Tryd.prog 27 = none := by kernel_rfl
@[go_sem] theorem kp28 : keepO Tryd.prog 28 = none := by kernel_rfl
@[go_sem] theorem kp29 : keepO Tryd.prog 29 = none := by kernel_rfl
@[go_sem] theorem kp30 : keepO Tryd.prog 30 = none := by kernel_rfl
@[go_sem] theorem kp31 : keepO Tryd.prog 31 = none := by kernel_rfl
@[go_sem] theorem kp32 : keepO Tryd.prog 32 = none := by kernel_rfl
@[go_sem] theorem kp33 : keepO Tryd.prog 33 = none := by kernel_rfl
@[go_sem] theorem kp34 : keepO Tryd.prog 34 = none := by kernel_rfl
@[go_sem] theorem kp35 : keepO Tryd.prog 35 = none := by kernel_rfl
@[go_sem] theorem kp36 : keepO Tryd.prog 36 = none := by kernel_rfl
@[go_sem] theorem kp37 : keepO Tryd.prog 37 = none := by kernel_rfl
@[go_sem] theorem kp38 : keepO Tryd.prog 38 = some 38 := by kernel_rfl
@[go_sem] theorem kp39 : keepO Tryd.prog 39 = some 39 := by kernel_rfl
@[go_sem] theorem kp40 : keepO Tryd.prog 40 = some 40 := by kernel_rfl
@[go_sem] theorem kp41 : keepO Tryd.prog 41 = some 41 := by kernel_rfl
@[go_sem] theorem kp42 : keepO Tryd.prog 42 = none := by kernel_rfl
@[go_sem] theorem kp43 : keepO Tryd.prog 43 = none := by kernel_rfl
@[go_sem] theorem kp44 : keepO Tryd.prog 44 = none := by kernel_rfl
@[go_sem] theorem kp45 : keepO Tryd.prog 45 = none := by kernel_rfl
@[go_sem] theorem kp46 : keepO Tryd.prog 46 = none := by kernel_rfl
@[go_sem] theorem kp47 : keepO Tryd.prog 47 = none := by kernel_rfl
@[go_sem] theorem kp48 : keepO Tryd.prog 48 = none := by kernel_rfl
@[go_sem] theorem kp49 : keepO Tryd.prog 49 = none := by kernel_rfl
@[go_sem] theorem kp50 : keepO Tryd.prog 50 = none := by kernel_rfl
@[go_sem] theorem kp51 : keepO Tryd.prog 51 = none := by kernel_rfl
@[go_sem] theorem kp52 : keepO Tryd.prog 52 = none := by kernel_rfl
@[go_sem] theorem kp53 : keepO Tryd.prog 53 = none := by kernel_rfl
@[go_sem] theorem kp54 : keepO Tryd.prog 54 = none := by kernel_rfl
@[go_sem] theorem kp55 : keepO Tryd.prog 55 = none := by kernel_rfl
@[go_sem] theorem kp56 : keepO Tryd.prog 56 = none := by kernel_rfl
@[go_sem] theorem kp58 : keepO Tryd.prog 58 = none := by kernel_rfl
@[go_sem] theorem kp59 : keepO Tryd.prog 59 = none := by kernel_rfl
@[go_sem] theorem kp61 : keepO Tryd.prog 61 = none := by kernel_rfl
@[go_sem] theorem kp62 : keepO Tryd.prog 62 = none := by kernel_rfl
@[go_sem] theorem kp63 : keepO Tryd.prog 63 = none := by kernel_rfl
@[go_sem] theorem kp64 : keepO Tryd.prog 64 = none := by kernel_rfl
@[go_sem] theorem kp65 : keepO Tryd.prog 65 = none := by kernel_rfl
@[go_sem] theorem kp66 : keepO Tryd.prog 66 = none := by kernel_rfl
@[go_sem] theorem kp67 : keepO Tryd.prog 67 = none := by kernel_rfl
@[go_sem] theorem kp68 : keepO Tryd.prog 68 = none := by kernel_rfl
@[go_sem] theorem kp69 : keepO Tryd.prog 69 = none := by kernel_rfl
@[go_sem] theorem kp70 : keepO Tryd.prog 70 = none := by kernel_rfl
@[go_sem] theorem kp71 : keepO Tryd.prog 71 = none := by kernel_rfl
@[go_sem] theorem kp72 : keepO Tryd.prog 72 = none := by kernel_rfl
@[go_sem] theorem kp73 : keepO Tryd.prog 73 = none := by kernel_rfl
@[go_sem] theorem kp74 : keepO Tryd.prog 74 = none := by kernel_rfl
@[go_sem] theorem kp75 : keepO Tryd.prog 75 = none := by kernel_rfl
@[go_sem] theorem kp76 : keepO Tryd.prog 76 = none := by kernel_rfl
@[go_sem] theorem kp77 : keepO Tryd.prog 77 = none := by kernel_rfl
@[go_sem] theorem kp78 : keepO Tryd.prog 78 = none := by kernel_rfl
@[go_sem] theorem kp79 : keepO Tryd.prog 79 = none := by kernel_rfl
@[go_sem] theorem kp80 : keepO Tryd.prog 80 = none := by kernel_rfl
@[go_sem] theorem kp81 : keepO Tryd.prog 81 = none := by kernel_rfl
@[go_sem] theorem kp82 : keepO Tryd.prog 82 = none := by kernel_rfl
@[go_sem] theorem kp83 : keepO Tryd.prog 83 = none := by kernel_rfl
@[go_sem] theorem kp84 : keepO Tryd.prog 84 = none := by kernel_rfl
@[go_sem] theorem kp85 : keepO Tryd.prog 85 = none := by kernel_rfl
@[go_sem] theorem kp86 : keepO Tryd.prog 86 = none := by kernel_rfl
@[go_sem] theorem kp87 : keepO Tryd.prog 87 = none := by kernel_rfl
@[go_sem] theorem kp88 : keepO Tryd.prog 88 = none := by kernel_rfl
@[go_sem] theorem kp89 : keepO Tryd.prog 89 = none := by kernel_rfl
@[go_sem] theorem kp91 : keepO Tryd.prog 91 = none := by kernel_rfl
@[go_sem] theorem kp92 : keepO Tryd.prog 92 = none := by kernel_rfl
@[go_sem] theorem kp93 : keepO Tryd.prog 93 = none := by kernel_rfl
@[go_sem] theorem kp94 : keepO Tryd.prog 94 = none := by kernel_rfl
@[go_sem] theorem kp95 : keepO Tryd.prog 95 = none := by kernel_rfl
@[go_sem] theorem kp96 : keepO Tryd.prog 96 = none := by kernel_rfl
@[go_sem] theorem kp97 : keepO Tryd.prog 97 = none := by kernel_rfl
@[go_sem] theorem kp98 : keepO Tryd.prog 98 = none := by kernel_rfl
@[go_sem] theorem kp99 : keepO Tryd.prog 99 = none := by kernel_rfl
@[go_sem] theorem kp100 : keepO Tryd.prog 100 = none := by kernel_rfl
@[go_sem] theorem kp101 : keepO Tryd.prog 101 = none := by kernel_rfl
@[go_sem] theorem kp102 : keepO Tryd.prog 102 = none := by kernel_rfl
@[go_sem] theorem kp103 : keepO Tryd.prog 103 = none := by kernel_rfl
@[go_sem] theorem kp104 : keepO Tryd.prog 104 = none := by kernel_rfl
@[go_sem] theorem kp105 : keepO Tryd.prog 105 = none := by kernel_rfl
@[go_sem] theorem kp106 : keepO Tryd.prog 106 = none := by kernel_rfl
@[go_sem] theorem kp107 : keepO Tryd.prog 107 = none := by kernel_rfl
@[go_sem] theorem kp108 : keepO Tryd.prog 108 = none := by kernel_rfl
@[go_sem] theorem kp109 : keepO Tryd.prog 109 = none := by kernel_rfl
@[go_sem] theorem kp110 : keepO Tryd.prog 110 = none := by kernel_rfl
@[go_sem] theorem kp111 : keepO Tryd.prog 111 = none := by kernel_rfl
@[go_sem] theorem kp112 : keepO Tryd.prog 112 = none := by kernel_rfl
@[go_sem] theorem kp113 : keepO Tryd.prog 113 = none := by kernel_rfl
@[go_sem] theorem kp114 : keepO Tryd.prog 114 = none := by kernel_rfl
attribute [go_sem] Tryd.underlying0 Tryd.underlying1 Tryd.underlying2 Tryd.underlying3 Tryd.underlying4 Tryd.underlying5 Tryd.underlying6 Tryd.underlying7 Tryd.underlying8 Tryd.underlying9 Tryd.underlying10 Tryd.underlying11 Tryd.underlying12 Tryd.underlying13 Tryd.underlying14 Tryd.underlying15 Tryd.underlying16 Tryd.underlying17 Tryd.underlying18 Tryd.underlying19 Tryd.underlying20 Tryd.underlying21 Tryd.underlying22 Tryd.underlying23 Tryd.underlying24 Tryd.underlying25 Tryd.underlying26 Tryd.underlying27 Tryd.underlying28 Tryd.underlying29 Tryd.underlying30 Tryd.underlying31 Tryd.underlying32 Tryd.underlying33 Tryd.underlying34 Tryd.underlying35 Tryd.underlying36 Tryd.underlying37 Tryd.underlying38 Tryd.underlying39 Tryd.underlying40 Tryd.underlying41 Tryd.underlying42 Tryd.underlying43 Tryd.underlying44 Tryd.underlying45 Tryd.underlying46 Tryd.underlying47 Tryd.underlying48 Tryd.underlying49 Tryd.underlying50 Tryd.underlying51 Tryd.underlying52 Tryd.underlying53 Tryd.underlying54 Tryd.underlying55 Tryd.underlying56 Tryd.underlying57 Tryd.underlying58 Tryd.underlying59 Tryd.underlying60 Tryd.underlying61 Tryd.underlying62 Tryd.underlying63 Tryd.underlying64 Tryd.underlying65 Tryd.underlying66 Tryd.underlying67 Tryd.underlying68 Tryd.underlying69 Tryd.underlying70 Tryd.underlying71 Tryd.underlying72 Tryd.underlying73 Tryd.underlying74 Tryd.underlying75 Tryd.underlying76 Tryd.underlying77 Tryd.underlying78 Tryd.underlying79 Tryd.underlying80 Tryd.underlying81 Tryd.underlying82 Tryd.underlying83 Tryd.underlying84 Tryd.underlying85 Tryd.underlying86 Tryd.underlying87 Tryd.underlying88 Tryd.underlying89 Tryd.underlying90 Tryd.underlying91 Tryd.underlying92 Tryd.underlying93 Tryd.underlying94 Tryd.underlying95 Tryd.underlying96 Tryd.underlying97 Tryd.underlying98 Tryd.underlying99 Tryd.underlying100 Tryd.underlying101 Tryd.underlying102 Tryd.underlying103 Tryd.underlying104 Tryd.underlying105 Tryd.underlying106 Tryd.underlying107 Tryd.underlying108 Tryd.underlying109 Tryd.underlying110 Tryd.underlying111 Tryd.underlying112 Tryd.underlying113 Tryd.underlying114
attribute [go_sem] Tryd.ntmps2 Tryd.ntmps3 Tryd.ntmps4 Tryd.ntmps5 Tryd.ntmps6 Tryd.ntmps7 Tryd.ntmps8 Tryd.ntmps9 Tryd.ntmps10 Tryd.ntmps11 Tryd.ntmps12 Tryd.ntmps13 Tryd.ntmps14 Tryd.ntmps15 Tryd.ntmps16 Tryd.ntmps17 Tryd.ntmps18 Tryd.ntmps19 Tryd.ntmps20 Tryd.ntmps21 Tryd.ntmps22 Tryd.ntmps23 Tryd.ntmps24 Tryd.ntmps25 Tryd.ntmps26 Tryd.ntmps27 Tryd.ntmps28 Tryd.ntmps29 Tryd.ntmps30 Tryd.ntmps31 Tryd.ntmps32 Tryd.ntmps33 Tryd.ntmps34 Tryd.ntmps35 Tryd.ntmps36 Tryd.ntmps37 Tryd.ntmps38 Tryd.ntmps39 Tryd.ntmps40 Tryd.ntmps42 Tryd.ntmps43 Tryd.ntmps44 Tryd.ntmps45 Tryd.ntmps46 Tryd.ntmps47 Tryd.ntmps48 Tryd.ntmps49 Tryd.ntmps50 Tryd.ntmps51 Tryd.ntmps52 Tryd.ntmps53 Tryd.ntmps54 Tryd.ntmps55 Tryd.ntmps56 Tryd.ntmps57 Tryd.ntmps58 Tryd.ntmps60 Tryd.ntmps61 Tryd.ntmps62 Tryd.ntmps63 Tryd.ntmps64 Tryd.ntmps65 Tryd.ntmps66 Tryd.ntmps67 Tryd.ntmps91
@[go_sem] theorem go0 : goesB Tryd.prog 0 = false := by kernel_rfl
@[go_sem] theorem go1 : goesB Tryd.prog 1 = false := by kernel_rfl
@[go_sem] theorem go2 : goesB Tryd.prog 2 = true := by kernel_rfl
@[go_sem] theorem go3 : goesB Tryd.prog 3 = true := by kernel_rfl
@[go_sem] theorem go4 : goesB Tryd.prog 4 = true := by kernel_rfl
@[go_sem] theorem go5 : goesB Tryd.prog 5 = true := by kernel_rfl
@[go_sem] theorem go6 : goesB Tryd.prog 6 = true := by kernel_rfl
@[go_sem] theorem go7 : goesB Tryd.prog 7 = true := by kernel_rfl
@[go_sem] theorem go8 : goesB Tryd.prog 8 = true := by kernel_rfl
@[go_sem] theorem go9 : goesB Tryd.prog 9 = true := by kernel_rfl
@[go_sem] theorem go10 : goesB Tryd.prog 10 = true := by kernel_rfl
@[go_sem] theorem go11 : goesB Tryd.prog 11 = true := by kernel_rfl
@[go_sem] theorem go12 : goesB Tryd.prog 12 = true := by kernel_rfl
@[go_sem] theorem go13 : goesB Tryd.prog 13 = true := by kernel_rfl
@[go_sem] theorem go14 : goesB Tryd.prog 14 = true := by kernel_rfl
@[go_sem] theorem go15 : goesB Tryd.prog 15 = true := by kernel_rfl
@[go_sem] theorem go16 : goesB Tryd.prog 16 = true := by kernel_rfl
@[go_sem] theorem go17 : goesB Tryd.prog 17 = true := by kernel_rfl
@[go_sem] theorem go18 : goesB Tryd.prog 18 = true := by kernel_rfl
@[go_sem] theorem go19 : goesB Tryd.prog 19 = true := by kernel_rfl
@[go_sem] theorem go20 : goesB Tryd.prog 20 = true := by kernel_rfl
@[go_sem] theorem go21 : goesB Tryd.prog 21 = true := by kernel_rfl
@[go_sem] theorem go22 : goesB Tryd.prog 22 = true := by kernel_rfl
@[go_sem] theorem go23 : goesB Tryd.prog 23 = true := by kernel_rfl
@[go_sem] theorem go24 : goesB Tryd.prog 24 = true := by kernel_rfl
@[go_sem] theorem go25 : goesB Tryd.prog 25 = true := by kernel_rfl
@[go_sem] theorem go26 : goesB Tryd.prog 26 = true := by kernel_rfl
@[go_sem] theorem go27 : goesB Tryd.prog 27 = true := by kernel_rfl
@[go_sem] theorem go28 : goesB Tryd.prog 28 = true := by kernel_rfl
@[go_sem] theorem go29 : goesB Tryd.prog 29 = true := by kernel_rfl
@[go_sem] theorem go30 : goesB Tryd.prog 30 = true := by kernel_rfl
@[go_sem] theorem go31 : goesB Tryd.prog 31 = true := by kernel_rfl
@[go_sem] theorem go32 : goesB Tryd.prog 32 = true := by kernel_rfl
@[go_sem] theorem go33 : goesB Tryd.prog 33 = true := by kernel_rfl
@[go_sem] theorem go34 : goesB Tryd.prog 34 = true := by kernel_rfl
@[go_sem] theorem go35 : goesB Tryd.prog 35 = true := by kernel_rfl
@[go_sem] theorem go36 : goesB Tryd.prog 36 = true := by kernel_rfl
@[go_sem] theorem go37 : goesB Tryd.prog 37 = true := by kernel_rfl
@[go_sem] theorem go38 : goesB Tryd.prog 38 = true := by kernel_rfl
@[go_sem] theorem go39 : goesB Tryd.prog 39 = true := by kernel_rfl
@[go_sem] theorem go40 : goesB Tryd.prog 40 = true := by kernel_rfl
@[go_sem] theorem go41 : goesB Tryd.prog 41 = false := by kernel_rfl
@[go_sem] theorem go42 : goesB Tryd.prog 42 = true := by kernel_rfl
@[go_sem] theorem go43 : goesB Tryd.prog 43 = true := by kernel_rfl
@[go_sem] theorem go44 : goesB Tryd.prog 44 = true := by kernel_rfl
@[go_sem] theorem go45 : goesB Tryd.prog 45 = true := by kernel_rfl
@[go_sem] theorem go46 : goesB Tryd.prog 46 = true := by kernel_rfl
@[go_sem] theorem go47 : goesB Tryd.prog 47 = true := by kernel_rfl
@[go_sem] theorem go48 : goesB Tryd.prog 48 = true := by kernel_rfl
@[go_sem] theorem go49 : goesB Tryd.prog 49 = true := by kernel_rfl
@[go_sem] theorem go50 : goesB Tryd.prog 50 = true := by kernel_rfl
@[go_sem] theorem go51 : goesB Tryd.prog 51 = true := by kernel_rfl
@[go_sem] theorem go52 : goesB Tryd.prog 52 = true := by kernel_rfl
@[go_sem] theorem go53 : goesB Tryd.prog 53 = true := by kernel_rfl
@[go_sem] theorem go54 : goesB Tryd.prog 54 = true := by kernel_rfl
@[go_sem] theorem go55 : goesB Tryd.prog 55 = true := by kernel_rfl
@[go_sem] theorem go56 : goesB Tryd.prog 56 = true := by kernel_rfl
@[go_sem] theorem go57 : goesB Tryd.prog 57 = true := by kernel_rfl
@[go_sem] theorem go58 : goesB Tryd.prog 58 = true := by kernel_rfl
@[go_sem] theorem go59 : goesB Tryd.prog 59 = false := by kernel_rfl
@[go_sem] theorem go60 : goesB Tryd.prog 60 = true := by kernel_rfl
@[go_sem] theorem go61 : goesB Tryd.prog 61 = true := by kernel_rfl
@[go_sem] theorem go62 : goesB Tryd.prog 62 = true := by kernel_rfl
@[go_sem] theorem go63 : goesB Tryd.prog 63 = true := by kernel_rfl
@[go_sem] theorem go64 : goesB Tryd.prog 64 = true := by kernel_rfl
@[go_sem] theorem go65 : goesB Tryd.prog 65 = true := by kernel_rfl
@[go_sem] theorem go66 : goesB Tryd.prog 66 = true := by kernel_rfl
@[go_sem] theorem go67 : goesB Tryd.prog 67 = true := by kernel_rfl
@[go_sem] theorem go68 : goesB Tryd.prog 68 = false := by kernel_rfl
@[go_sem] theorem go69 : goesB Tryd.prog 69 = false := by kernel_rfl
@[go_sem] theorem go70 : goesB Tryd.prog 70 = false := by kernel_rfl
@[go_sem] theorem go71 : goesB Tryd.prog 71 = false := by kernel_rfl
@[go_sem] theorem go72 : goesB Tryd.prog 72 = false := by kernel_rfl
@[go_sem] theorem go73 : goesB Tryd.prog 73 = false := by kernel_rfl
@[go_sem] theorem go74 : goesB Tryd.prog 74 = false := by kernel_rfl
@[go_sem] theorem go75 : goesB Tryd.prog 75 = false := by kernel_rfl
@[go_sem] theorem go76 : goesB Tryd.prog 76 = false := by kernel_rfl
@[go_sem] theorem go77 : goesB Tryd.prog 77 = false := by kernel_rfl
@[go_sem] theorem go78 : goesB Tryd.prog 78 = false := by kernel_rfl
@[go_sem] theorem go79 : goesB Tryd.prog 79 = false := by kernel_rfl
@[go_sem] theorem go80 : goesB Tryd.prog 80 = false := by kernel_rfl
@[go_sem] theorem go81 : goesB Tryd.prog 81 = false := by kernel_rfl
@[go_sem] theorem go82 : goesB Tryd.prog 82 = false := by kernel_rfl
@[go_sem] theorem go83 : goesB Tryd.prog 83 = false := by kernel_rfl
@[go_sem] theorem go84 : goesB Tryd.prog 84 = false := by kernel_rfl
@[go_sem] theorem go85 : goesB Tryd.prog 85 = false := by kernel_rfl
@[go_sem] theorem go86 : goesB Tryd.prog 86 = false := by kernel_rfl
@[go_sem] theorem go87 : goesB Tryd.prog 87 = false := by kernel_rfl
@[go_sem] theorem go88 : goesB Tryd.prog 88 = false := by kernel_rfl
@[go_sem] theorem go89 : goesB Tryd.prog 89 = false := by kernel_rfl
@[go_sem] theorem go90 : goesB Tryd.prog 90 = false := by kernel_rfl
@[go_sem] theorem go91 : goesB Tryd.prog 91 = true := by kernel_rfl
end Go.Proofs.YtflpfjeghomepaaDoor
/- The engine AW, part 13: code; regions that draw their order. -/
set_option linter.unusedVariables false
set_option linter.unusedSimpArgs false
namespace Go.AW

/-! ### Code -/

def aGuard (v : V) (want : Bool) (a b : Prop) : Prop :=
  match v with
  | .lit (.bool c) => if c = want then a else b
  | .lit (.tuple _) => b
  | _ => False

def aops (ro : Option Nat) (P : Program) (ops : Array Oper) (Q : Exit → St → Prop) : List Oper → St → Prop
  | [], st => Q .normal st
  | o :: rest, st =>
    match o.guard with
    | none => aop ro P o (aops ro P ops Q rest) Q st
    | some (j, want) => aOpt ((ops[j]?).bind (·.dst)) fun d =>
        aGuard (AW.get st.env d) want (aop ro P o (aops ro P ops Q rest) Q st) (dstOk st.n o.dst ∧ aops ro P ops Q rest (st.put o.dst (.lit undef)))

theorem aops_sound {ro : Option Nat} {P : Program} {ops : Array Oper} {Q : Exit → St → Prop} : ∀ (l : List Oper) (st : St), aops ro P ops Q l st → AOps ro P ops Q l st := by
  intro l
  induction l with
  | nil => intro st h; exact h
  | cons o rest ih =>
    intro st h
    have lift : ∀ st, AOp ro P o (aops ro P ops Q rest) Q st → AOp ro P o (AOps ro P ops Q rest) Q st := fun st h G w a hr => by
      have h1 := h G w a hr
      refine ⟨h1.1, ?_⟩
      have h2 := h1.2
      generalize (o.semAt (WF ro).round a.eval).run P w = r at h2 ⊢
      cases r with
      | ok nx w' =>
        cases nx with
        | value v => obtain ⟨G', st', he, hr', hk⟩ := h2; exact ⟨G', st', he, hr', ih st' hk⟩
        | skip => obtain ⟨G', st', he, hr', hk⟩ := h2; exact ⟨G', st', he, hr', ih st' hk⟩
        | defer d => obtain ⟨G', st', he, hr', hk⟩ := h2; exact ⟨G', st', he, hr', ih st' hk⟩
        | enter f args =>
          refine ⟨h2.1, ⟨h2.2.1, fun cs hroom => ?_⟩⟩
          obtain ⟨e, w'', fr, hR, rest'⟩ := h2.2.2 cs hroom
          refine ⟨e, w'', fr, ?_, rest'⟩
          cases e with
          | returned v => obtain ⟨G', st', he, hr', hk⟩ := hR; exact ⟨G', st', he, hr', ih st' hk⟩
          | panicked chain => exact hR
          | outgrown => exact hR
        | row row args =>
          refine ⟨h2.1, fun c cs hroom => ?_⟩
          obtain ⟨v, w'', hR, rest'⟩ := h2.2 c cs hroom
          obtain ⟨G', st', he, hr', hk⟩ := hR
          exact ⟨v, w'', ⟨G', st', he, hr', ih st' hk⟩, rest'⟩
        | round l f tmps assign body =>
          refine ⟨h2.1, ⟨h2.2.1, fun c cs hroom => ?_⟩⟩
          obtain ⟨e, w'', hR, rest'⟩ := h2.2.2 c cs hroom
          refine ⟨e, w'', ?_, rest'⟩
          cases e with
          | returned v => obtain ⟨G', st', he, hr', hk⟩ := hR; exact ⟨G', st', he, hr', ih st' hk⟩
          | panicked chain => exact hR
          | outgrown => exact hR
        | _ => exact h2.elim
      | halt x w' =>
        cases x with
        | panic v => exact h2
        | _ => exact h2.elim
    unfold aops at h
    unfold AOps
    split at h
    · rename_i hg; rw [hg]; exact lift st (aop_sound h)
    · rename_i j want hg
      rw [hg]
      obtain ⟨d, hd, h⟩ := aOpt_some h
      simp only [hd]
      unfold aGuard at h
      split at h
      · rename_i b hb
        simp only [hb]
        split at h
        · rename_i e; rw [if_pos e]; exact lift st (aop_sound h)
        · rename_i e; rw [if_neg e]; exact ⟨h.1, ih _ h.2⟩
      · rename_i t hb
        simp only [hb]; exact ⟨h.1, ih _ h.2⟩
      · exact h.elim


/-! ### Regions that draw their order: at the program's own level -/

section
variable {ro : Option Nat} {P : Program} {ops : Array Oper} {Q : Exit → Act → World → Prop} {C : World → Prop}

def YieldsC (P : Program) (ops : Array Oper) (C : World → Prop) (o : Oper) (v : Value) (a : Act) : Prop :=
  (Region.wanted o (yielded ops a.tmps) = true ∧ ∀ w, C w → (execOp a.eval o).run P w = .ok (.value v) w) ∨
  (Region.wanted o (yielded ops a.tmps) = false ∧ v = undef)

theorem semAt_nd (o : Oper) (h : Op.isDefer o.op = false) (ro : Option Nat) (ρ : Operand → Value) : o.semAt ro ρ = execOp ρ o :=
  Oper.semAt_eq _ _ _ (fun c hc => by rw [hc] at h; cases h)

theorem YieldsC.wpOpIn {i : Nat} {o : Oper} {v : Value} {a : Act} (hi : ops[i]? = some o) (hdf : Op.isDefer o.op = false) (hy : YieldsC P ops C o v a)
    {K : Act → World → Prop} {w : World} (hw : C w) (h : K (a.put o.dst v) w) : wpOpIn (WF ro) 0 P ops Q i K a w := by
  unfold Go.wpOpIn
  simp only [hi]
  rcases hy with ⟨hg, hv⟩ | ⟨hg, rfl⟩
  · simp only [hg, if_true, Oper.wpIn, semAt_nd o hdf, hv w hw, Oper.uponIn]; exact ⟨fun _ _ => trivial, h⟩
  · simp only [hg, Bool.false_eq_true, if_false]; exact ⟨fun _ _ => trivial, h⟩

theorem YieldsC.of_same {o : Oper} {v : Value} {a a' : Act} (hy : YieldsC P ops C o v a) (he : execOp a'.eval o = execOp a.eval o)
    (hw : Region.wanted o (yielded ops a'.tmps) = Region.wanted o (yielded ops a.tmps)) : YieldsC P ops C o v a' := by
  unfold YieldsC at *
  rw [he, hw]
  exact hy

theorem wpOpIn_putC {j : Nat} {oi oj : Oper} {v : Value} (hj : ops[j]? = some oj) (hap : oi.apart ops oj = true)
    (hsi : ∀ cs b, oi.op ≠ .select cs b) (hsj : ∀ cs b, oj.op ≠ .select cs b) (hdj : Op.isDefer oj.op = false)
    (hQ : ∀ c a w, Q (.panic c) (a.put oi.dst v) w → Q (.panic c) a w) {K : Act → World → Prop} {a : Act} {w : World}
    (hy : YieldsC P ops C oi v a) (h : wpOpIn (WF ro) 0 P ops Q j K (a.put oi.dst v) w) :
    wpOpIn (WF ro) 0 P ops Q j (fun a' w' => YieldsC P ops C oi v a' ∧ K (a'.put oi.dst v) w') a w := by
  obtain ⟨h1, h2, h3⟩ := Oper.apart_spec hap
  have keep : ∀ (a : Act), YieldsC P ops C oi v a → ∀ u, YieldsC P ops C oi v (a.put oj.dst u) := fun a hy u =>
    hy.of_same (execOp_put oi hsi a oj.dst u h3) (wanted_put oi a oj.dst u h3)
  have keepD : ∀ d, YieldsC P ops C oi v { a with defers := d :: a.defers } := fun d => hy.of_same rfl rfl
  unfold wpOpIn at *
  simp only [hj] at *
  rw [wanted_put oj a oi.dst v h1] at h
  split
  · rename_i hw
    simp only [hw, if_true] at h
    unfold Oper.wpIn at *
    refine ⟨fun _ _ => trivial, ?_⟩
    have h := h.2
    rw [semAt_nd oj hdj, execOp_put oj hsj a oi.dst v h1] at h
    rw [semAt_nd oj hdj]
    generalize (execOp a.eval oj).run P w = r at *
    cases r with
    | ok x w' =>
      cases x <;> simp only [Oper.uponIn] at h ⊢
      case value u => exact ⟨keep a hy u, by rw [← Act.put_comm a v u h2]; exact h⟩
      case skip => exact ⟨keep a hy _, by rw [← Act.put_comm a v undef h2]; exact h⟩
      case defer d =>
        refine ⟨keep _ (keepD d) _, ?_⟩
        rw [← Act.put_comm _ v undef h2, ← Act.put_defers]
        exact h
      case enter f args =>
        refine ⟨h.1, CallsIn.mono h.2 fun e w'' he => ?_⟩
        cases e with
        | returned u => exact ⟨keep a hy u, by rw [← Act.put_comm a v u h2]; exact he⟩
        | panicked c => exact hQ _ _ _ he
        | outgrown => exact he
      case row row args => exact ⟨h.1, RowsIn.mono h.2 fun u w'' he => ⟨keep a hy u, by rw [← Act.put_comm a v u h2]; exact he⟩⟩
      case round l f tmps assign body =>
        refine ⟨h.1, RoundIn.mono h.2 fun e w'' he => ?_⟩
        cases e with
        | returned u => exact ⟨keep a hy u, by rw [← Act.put_comm a v u h2]; exact he⟩
        | panicked c => exact hQ _ _ _ he
        | outgrown => exact he
    | halt x w' =>
      cases x <;> simp only [Oper.uponIn] at h ⊢
      case panic u => exact hQ _ _ _ h
  · rename_i hw
    simp only [hw] at h
    exact ⟨fun _ _ => trivial, keep a hy _, by rw [← Act.put_comm a v undef h2]; exact h.2⟩

/-- Whatever order is picked from here on, and C behind every operation. -/
def wpAnyC (ro : Option Nat) (P : Program) (ops : Array Oper) (Q : Exit → Act → World → Prop) (C : World → Prop) : Nat → Array Bool → Act → World → Prop
  | 0, listed, a, w => Region.ready .any ops listed = [] ∧ Q .normal a w
  | fuel + 1, listed, a, w =>
    (Region.ready .any ops listed = [] → Q .normal a w) ∧
    ∀ i ∈ Region.ready .any ops listed, wpOpIn (WF ro) 0 P ops Q i (fun a' w' => C w' ∧ wpAnyC ro P ops Q C fuel (listed.setIfInBounds i true) a' w') a w

theorem wpAnyIn_of_C : ∀ (fuel : Nat) (listed : Array Bool) (a : Act) (w : World), wpAnyC ro P ops Q C fuel listed a w → wpAnyIn (WF ro) 0 P .any ops Q fuel listed a w
  | 0, _, _, _, h => h
  | fuel + 1, _, _, _, h => ⟨h.1, fun i hi => wpOpIn_mono (fun a' w' h' => wpAnyIn_of_C fuel _ a' w' h'.2) (h.2 i hi)⟩

theorem wpAnyC_first {i : Nat} {oi : Oper} {v : Value} (hi : ops[i]? = some oi) (hsel : ∀ (j : Nat) (o : Oper) cs b, ops[j]? = some o → o.op ≠ .select cs b)
    (hdf : ∀ (j : Nat) (o : Oper), ops[j]? = some o → Op.isDefer o.op = false)
    (hQ : ∀ c a w, Q (.panic c) (a.put oi.dst v) w → Q (.panic c) a w) :
    ∀ (fuel : Nat) (listed : Array Bool) (a : Act) (w : World),
      (∀ j oj, ops[j]? = some oj → j ≠ i → listed.getD j true = false → (∀ e ∈ oj.after, Region.binds .any e = true → e.on ≠ i) → oi.apart ops oj = true) →
      i ∈ Region.ready .any ops listed → YieldsC P ops C oi v a → C w →
      wpAnyC ro P ops Q C fuel (listed.setIfInBounds i true) (a.put oi.dst v) w → wpAnyC ro P ops Q C (fuel + 1) listed a w := by
  intro fuel
  induction fuel with
  | zero =>
    intro listed a w _ hr hy hS H
    refine ⟨fun h => (by rw [h] at hr; cases hr), fun j hj => ?_⟩
    by_cases hji : j = i
    · subst hji; exact hy.wpOpIn hi (hdf _ _ hi) hS ⟨hS, H⟩
    · have := ready_mono hj hji
      rw [H.1] at this
      cases this
  | succ fuel ih =>
    intro listed a w hfree hr hy hS H
    refine ⟨fun h => (by rw [h] at hr; cases hr), fun j hj => ?_⟩
    by_cases hji : j = i
    · subst hji; exact hy.wpOpIn hi (hdf _ _ hi) hS ⟨hS, H⟩
    · have h1 := H.2 j (ready_mono hj hji)
      obtain ⟨hjun, oj, hoj, hall⟩ := mem_ready.1 hj
      have hnot : ∀ e ∈ oj.after, Region.binds .any e = true → e.on ≠ i := fun e he hb heq => by
        have h1 := hall e he hb
        have h0 := (mem_ready.1 hr).1
        rw [heq] at h1
        rcases Nat.lt_or_ge i listed.size with h' | h'
        · simp [h'] at h0 h1; rw [h0] at h1; cases h1
        · simp [Array.getElem?_eq_none h'] at h1
      have h2 := wpOpIn_putC hoj (hfree j oj hoj hji hjun hnot) (fun cs b => hsel i oi cs b hi) (fun cs b => hsel j oj cs b hoj) (hdf _ _ hoj) hQ hy h1
      have hfree' : ∀ k ok, ops[k]? = some ok → k ≠ i → (listed.setIfInBounds j true).getD k true = false →
          (∀ e ∈ ok.after, Region.binds .any e = true → e.on ≠ i) → oi.apart ops ok = true := fun k ok hk hki hun hno => by
        refine hfree k ok hk hki ?_ hno
        by_cases hjk : j = k
        · subst hjk; exact hjun
        · rw [getD_set_ne true hjk] at hun; exact hun
      refine wpOpIn_mono (fun a' w' h3 => ⟨h3.2.1, ih (listed.setIfInBounds j true) a' w' hfree' (ready_mono hr (Ne.symm hji)) h3.1 h3.2.1 ?_⟩) h2
      rw [Array.setIfInBounds_comm _ _ hji]
      exact h3.2.2
end

theorem wpAnyC_weak {ro : Option Nat} {P : Program} {ops : Array Oper} {Q : Exit → Act → World → Prop} {C C' : World → Prop} (hc : ∀ w, C w → C' w) : ∀ (fuel : Nat) (listed : Array Bool) (a : Act) (w : World), wpAnyC ro P ops Q C fuel listed a w → wpAnyC ro P ops Q C' fuel listed a w
  | 0, _, _, _, h => h
  | fuel + 1, _, _, _, h => ⟨h.1, fun i hi => wpOpIn_mono (fun a' w' h' => ⟨hc _ h'.1, wpAnyC_weak hc fuel _ a' w' h'.2⟩) (h.2 i hi)⟩

/-! ### The same, by content -/

def hasDst : List Oper → Nat → Bool
  | [], _ => false
  | o :: l, k => (match o.dst with | some d => d == k | none => false) || hasDst l k
def dropE (ops : List Oper) : List (Nat × V) → List (Nat × V)
  | [] => []
  | p :: env => if hasDst ops p.1 = true then dropE ops env else p :: dropE ops env

theorem get_dropE (ops : List Oper) : ∀ (env : List (Nat × V)) (i : Nat), get (dropE ops env) i = if hasDst ops i = true then .any else get env i
  | [], i => by simp [dropE, get]
  | (k, v) :: env, i => by
    simp only [dropE]
    by_cases hk : hasDst ops k = true
    · rw [if_pos hk, get_dropE ops env i]
      by_cases hi : hasDst ops i = true
      · rw [if_pos hi, if_pos hi]
      · rw [if_neg hi, if_neg hi, get_cons, if_neg (fun e : k = i => hi (e ▸ hk))]
    · rw [if_neg hk, get_cons, get_cons, get_dropE ops env i]
      by_cases hki : k = i
      · subst hki; rw [if_pos rfl, if_pos rfl, if_neg hk]
      · rw [if_neg hki, if_neg hki]

theorem hasDst_mem {ops : List Oper} {o : Oper} {d : Nat} (h : o ∈ ops) (hd : o.dst = some d) : hasDst ops d = true := by
  induction ops with
  | nil => cases h
  | cons x l ih =>
    simp only [hasDst]
    rcases List.mem_cons.1 h with rfl | h
    · simp [hd]
    · rw [ih h]; simp

/-- Behind a panic the region's own slots are not spoken of. -/
def dropP (ops : Array Oper) : Exit → St → St
  | .panic _, st => { st with env := dropE ops.toList st.env }
  | _, st => st

def PostD (ops : Array Oper) (st0 : St) (Gs : Im) (ws : World) (Q : Exit → St → Prop) (e : Exit) (a' : Act) (w' : World) : Prop :=
  ∃ G' st', Evol st0.S Gs ws st'.S G' w' ∧ Rel G' w' a' (dropP ops e st') ∧ Q e (dropP ops e st')

theorem PostD.post {ops : Array Oper} {st0 : St} {Gs : Im} {ws : World} {Q : Exit → St → Prop} {e : Exit} {a' : Act} {w' : World} (h : PostD ops st0 Gs ws Q e a' w') : Post st0 Gs ws Q e a' w' :=
  let ⟨G', st', h1, h2, h3⟩ := h
  ⟨G', dropP ops e st', by cases e <;> exact h1, h2, h3⟩

theorem EnvRel.drop_of {G : Im} {n : Nat} {env : List (Nat × V)} {tmps : Array Value} (ops : List Oper) (h : EnvRel G n env tmps) : EnvRel G n (dropE ops env) tmps := ⟨h.1, fun i => by
  rw [get_dropE]; split; exact .any _; exact h.2 i⟩

theorem EnvRel.drop_put {G : Im} {n : Nat} {env : List (Nat × V)} {a : Act} {ops : List Oper} {o : Oper} {v : Value} (ho : o ∈ ops) (h : EnvRel G n (dropE ops env) (a.put o.dst v).tmps) : EnvRel G n (dropE ops env) a.tmps := by
  cases hd : o.dst with
  | none => rw [hd] at h; exact h
  | some d =>
    rw [hd] at h
    refine ⟨by have := h.1; simpa [Act.put] using this, fun i => ?_⟩
    have := h.2 i
    rw [get_dropE] at this ⊢
    split
    · exact .any _
    · rename_i hi
      rw [if_neg hi] at this
      have hne : d ≠ i := fun e => hi (e ▸ hasDst_mem ho hd)
      simpa [Act.put, Array.getElem?_setIfInBounds_ne hne] using this

theorem Act.put_ds (a : Act) (d : Option Tmp) (v : Value) : (a.put d v).defers = a.defers := by cases d <;> rfl

theorem PostD.hQ {ops : Array Oper} {st0 : St} {Gs : Im} {ws : World} {Q : Exit → St → Prop} {i : Nat} {o : Oper} (ho : ops[i]? = some o) {v : Value} (c : List PanicEntry) (a : Act) (w : World) (h : PostD ops st0 Gs ws Q (.panic c) (a.put o.dst v) w) : PostD ops st0 Gs ws Q (.panic c) a w := by
  obtain ⟨G', st', h1, h2, h3⟩ := h
  exact ⟨G', st', h1, ⟨h2.env.drop_put (by have := Array.mem_of_getElem? ho; simpa using this), by rw [← h2.ds, Act.put_ds], h2.inv⟩, h3⟩

def ADr (ro : Option Nat) (P : Program) (ops : Array Oper) (Q : Exit → St → Prop) (fuel : Nat) (listed : Array Bool) (st : St) : Prop :=
  ∀ st0 Gs ws G0 G w a, Im.le G0 G → Evol st0.S Gs ws st.S G w → Rel G w a st → wpAnyC ro P ops (PostD ops st0 Gs ws Q) (ImHold G0) fuel listed a w

def dropQ (ops : Array Oper) (Q : Exit → St → Prop) (e : Exit) (st : St) : Prop := Q e (dropP ops e st)

section
variable {ro : Option Nat} {P : Program} {ops : Array Oper} {Q : Exit → St → Prop} {st : St} {fuel : Nat} {listed : Array Bool}

theorem ADr.done (hr : Region.ready .any ops listed = []) (h : Q .normal st) : ADr ro P ops Q fuel listed st := by
  intro st0 Gs ws G0 G w a hle he hrel
  have : PostD ops st0 Gs ws Q .normal a w := ⟨G, st, he, hrel, h⟩
  cases fuel with
  | zero => exact ⟨hr, this⟩
  | succ f => exact ⟨fun _ => this, by rw [hr]; simp⟩

theorem im_hold {G G' : Im} {w : World} {S : List Res} (hi : Inv G w S) (hle : Im.le G' G) : ImHold G' w := fun b o u h => hi.im b o u (hle b o u h)

theorem ADr.take {i : Nat} {o : Oper} (hi : ops[i]? = some o) (hsel : ∀ (j : Nat) (o : Oper) cs b, ops[j]? = some o → o.op ≠ .select cs b)
    (hdf : ∀ (j : Nat) (o : Oper), ops[j]? = some o → Op.isDefer o.op = false)
    (hfree : ∀ j oj, ops[j]? = some oj → j ≠ i → listed.getD j true = false → (∀ e ∈ oj.after, Region.binds .any e = true → e.on ≠ i) → o.apart ops oj = true)
    (hr : i ∈ Region.ready .any ops listed)
    (hg : ∀ G w a, Rel G w a st → Region.wanted o (yielded ops a.tmps) = true) (h : ATake P o (ADr ro P ops Q fuel (listed.setIfInBounds i true)) st) : ADr ro P ops Q (fuel + 1) listed st := by
  intro st0 Gs ws G0 G w a hle he hrel
  obtain ⟨hd, hdo, v, hy, hk⟩ := h
  obtain ⟨x, hx, hv⟩ := hy G w a hrel
  -- what never changes may be more than G0; the class is taken at G
  have hfirst : wpAnyC ro P ops (PostD ops st0 Gs ws Q) (ImHold G) (fuel + 1) listed a w := by
    refine wpAnyC_first (v := x) hi hsel hdf (fun c a w h => PostD.hQ hi c a w h) fuel listed a w hfree hr (.inl ⟨hg G w a hrel, fun w' hw' => hx w' hw'⟩) (im_hold hrel.inv (fun _ _ _ h => h)) ?_
    exact hk st0 Gs ws G G w _ (fun _ _ _ h => h) (by rw [St.put_S]; exact he) (by have := hrel.put (.refl _ _ _) hrel.inv hd hv; exact this)
  exact wpAnyC_weak (fun w' hw' b o u h => hw' b o u (hle b o u h)) _ _ _ _ hfirst

theorem ADr.pass {i : Nat} {o : Oper} (hi : ops[i]? = some o) (hsel : ∀ (j : Nat) (o : Oper) cs b, ops[j]? = some o → o.op ≠ .select cs b)
    (hdf : ∀ (j : Nat) (o : Oper), ops[j]? = some o → Op.isDefer o.op = false)
    (hfree : ∀ j oj, ops[j]? = some oj → j ≠ i → listed.getD j true = false → (∀ e ∈ oj.after, Region.binds .any e = true → e.on ≠ i) → o.apart ops oj = true)
    (hr : i ∈ Region.ready .any ops listed)
    (hg : ∀ G w a, Rel G w a st → Region.wanted o (yielded ops a.tmps) = false) (hd : dstOk st.n o.dst) (h : ADr ro P ops Q fuel (listed.setIfInBounds i true) (st.put o.dst (.lit undef))) : ADr ro P ops Q (fuel + 1) listed st := by
  intro st0 Gs ws G0 G w a hle he hrel
  refine wpAnyC_first (v := undef) hi hsel hdf (fun c a w h => PostD.hQ hi c a w h) fuel listed a w hfree hr (.inr ⟨hg G w a hrel, rfl⟩) (im_hold hrel.inv hle) ?_
  exact h st0 Gs ws G0 G w _ hle (by rw [St.put_S]; exact he) (by have := hrel.put (.refl _ _ _) hrel.inv hd (.lit undef); exact this)

theorem wpIn_mono2 {F : Fence} {n : Nat} {P : Program} {o : Oper} {a : Act} {w : World} {K K' : Act → World → Prop} {Q Q' : Exit → Act → World → Prop} (hk : ∀ a w, K a w → K' a w) (hq : ∀ e a w, Q e a w → Q' e a w)
    (h : o.wpIn F n P a w K Q) : o.wpIn F n P a w K' Q' := by
  refine ⟨h.1, ?_⟩
  have h := h.2
  generalize (o.semAt F.round a.eval).run P w = r at h ⊢
  cases r with
  | ok x w' =>
    cases x <;> simp only [Oper.uponIn] at h ⊢ <;>
      first
        | exact hk _ _ h
        | exact ⟨h.1, CallsIn.mono h.2 (fun e w'' he => by
            cases e with
            | returned v => exact hk _ _ he
            | panicked c => exact hq _ _ _ he
            | outgrown => obtain ⟨a₀, w₀, h0⟩ := he; exact ⟨a₀, w₀, hq _ _ _ h0⟩)⟩
        | exact ⟨h.1, RowsIn.mono h.2 (fun _ _ he => hk _ _ he)⟩
        | exact ⟨h.1, RoundIn.mono h.2 (fun e w'' he => by
            cases e with
            | returned v => exact hk _ _ he
            | panicked c => exact hq _ _ _ he
            | outgrown => obtain ⟨a₀, w₀, h0⟩ := he; exact ⟨a₀, w₀, hq _ _ _ h0⟩)⟩
  | halt x w' => cases x <;> simp only [Oper.uponIn] at h ⊢ <;> exact hq _ _ _ h

theorem PostD.of {st0 st : St} {Gs G : Im} {ws w : World} (he : Evol st0.S Gs ws st.S G w) {e : Exit} {a' : Act} {w' : World} (h : Post st G w (dropQ ops Q) e a' w') : PostD ops st0 Gs ws Q e a' w' := by
  obtain ⟨G', st', h1, h2, h3⟩ := h
  refine ⟨G', st', he.trans h1, ?_, h3⟩
  cases e with
  | panic c => exact ⟨h2.env.drop_of ops.toList, h2.ds, h2.inv⟩
  | _ => exact h2

theorem ADr.all (h : ∀ i ∈ Region.ready .any ops listed, ∃ o, ops[i]? = some o ∧
      (((∀ G w a, Rel G w a st → Region.wanted o (yielded ops a.tmps) = true) ∧ AOp ro P o (ADr ro P ops Q fuel (listed.setIfInBounds i true)) (dropQ ops Q) st) ∨
       ((∀ G w a, Rel G w a st → Region.wanted o (yielded ops a.tmps) = false) ∧ dstOk st.n o.dst ∧ ADr ro P ops Q fuel (listed.setIfInBounds i true) (st.put o.dst (.lit undef)))))
    (hne : Region.ready .any ops listed ≠ []) : ADr ro P ops Q (fuel + 1) listed st := by
  intro st0 Gs ws G0 G w a hle he hrel
  refine ⟨fun h0 => absurd h0 hne, fun i hi => ?_⟩
  obtain ⟨o, ho, hc⟩ := h i hi
  unfold wpOpIn
  simp only [ho]
  rcases hc with ⟨hg, hop⟩ | ⟨hg, hd, hk⟩
  · rw [if_pos (hg G w a hrel)]
    refine wpIn_mono2 (fun a' w' ⟨G', st', h1, h2, h3⟩ => ?_) (fun e a' w' h => PostD.of he h) (hop G w a hrel)
    exact ⟨im_hold h2.inv (fun b o u h => h1.im b o u (hle b o u h)), h3 st0 Gs ws G0 G' w' a' (fun b o u h => h1.im b o u (hle b o u h)) (he.trans h1) h2⟩
  · rw [if_neg (by rw [hg G w a hrel]; exact Bool.false_ne_true)]
    exact ⟨fun _ _ => trivial, im_hold hrel.inv hle, hk st0 Gs ws G0 G w _ hle (by rw [St.put_S]; exact he) (by have := hrel.put (.refl _ _ _) hrel.inv hd (.lit undef); exact this)⟩
end

theorem Inv.drew {G : Im} {w : World} {S : List Res} (h : Inv G w S) (n : Nat) : Inv G { w with drawn := n } S := by
  refine ⟨fun b o u hu => h.im b o u hu, fun r hr => ?_, h.nd⟩
  have := h.res r hr
  cases r <;> exact this

theorem wpAnyC_post {ro : Option Nat} {P : Program} {ops : Array Oper} {C : World → Prop} {Q Q' : Exit → Act → World → Prop} (hq : ∀ e a w, Q e a w → Q' e a w) : ∀ (fuel : Nat) (listed : Array Bool) (a : Act) (w : World), wpAnyC ro P ops Q C fuel listed a w → wpAnyC ro P ops Q' C fuel listed a w
  | 0, _, _, _, h => ⟨h.1, hq _ _ _ h.2⟩
  | fuel + 1, _, _, _, h => ⟨fun h0 => hq _ _ _ (h.1 h0), fun i hi => by
      have := h.2 i hi
      unfold wpOpIn at this ⊢
      split
      · rename_i ho; simp only [ho] at this; exact ⟨this.1, wpAnyC_post hq fuel _ _ _ this.2⟩
      · rename_i o ho
        simp only [ho] at this
        split
        · rename_i hw; simp only [hw, if_true] at this; exact wpIn_mono2 (fun a' w' h' => ⟨h'.1, wpAnyC_post hq fuel _ a' w' h'.2⟩) hq this
        · rename_i hw; simp only [hw] at this; exact ⟨this.1, this.2.1, wpAnyC_post hq fuel _ _ _ this.2.2⟩⟩

/-! ### Plans: which operation is taken first, and where all that may come up are walked -/

inductive DPlan where
  | done
  | take (i : Nat) (p : DPlan)
  | alt (i : Nat) (p rest : DPlan)
  | stop

def okPlan (ops : Array Oper) : DPlan → Nat → Array Bool → Option (List Nat) → Bool
  | .done, _, listed, none => (Region.ready .any ops listed).isEmpty
  | .take i p, f + 1, listed, none => (Region.ready .any ops listed).contains i && Region.free .any ops listed i && okPlan ops p f (listed.setIfInBounds i true) none
  | .alt i p rest, f + 1, listed, none =>
    match Region.ready .any ops listed with
    | r :: rs => r == i && okPlan ops p f (listed.setIfInBounds i true) none && okPlan ops rest (f + 1) listed (some rs)
    | [] => false
  | .alt i p rest, f + 1, listed, some rs =>
    match rs with
    | r :: rs => r == i && okPlan ops p f (listed.setIfInBounds i true) none && okPlan ops rest (f + 1) listed (some rs)
    | [] => false
  | .stop, _, _, some [] => true
  | _, _, _, _ => false

def noDefer (ops : Array Oper) : Bool := ops.all fun o => !Op.isDefer o.op

def dGuard (ops : Array Oper) (st : St) (dst : Option Tmp) (K : St → Prop) (a : Prop) : Option (Nat × Bool) → Prop
  | none => a
  | some (j, want) => aOpt ((ops[j]?).bind (·.dst)) fun d => aGuard (AW.get st.env d) want a (dstOk st.n dst ∧ K (st.put dst (.lit undef)))

def adr (ro : Option Nat) (P : Program) (ops : Array Oper) (Q : Exit → St → Prop) : DPlan → St → Prop
  | .done, st => Q .normal st
  | .take i p, st => aOpt ops[i]? fun o => dGuard ops st o.dst (adr ro P ops Q p) (dstOk st.n o.dst ∧ aopT P o (adr ro P ops Q p) st o.op) o.guard
  | .alt i p rest, st => (aOpt ops[i]? fun o => dGuard ops st o.dst (adr ro P ops Q p) (aop ro P o (adr ro P ops Q p) (dropQ ops Q) st) o.guard) ∧ adr ro P ops Q rest st
  | .stop, _ => True

theorem dGuard_sound {ops : Array Oper} {st : St} {o : Oper} {K : St → Prop} {a : Prop} (h : dGuard ops st o.dst K a o.guard) :
    ((∀ G w x, Rel G w x st → Region.wanted o (yielded ops x.tmps) = true) ∧ a) ∨ ((∀ G w x, Rel G w x st → Region.wanted o (yielded ops x.tmps) = false) ∧ dstOk st.n o.dst ∧ K (st.put o.dst (.lit undef))) := by
  unfold dGuard at h
  split at h
  · rename_i hg; exact .inl ⟨fun _ _ _ _ => by simp [Region.wanted, hg], h⟩
  · rename_i j want hg
    obtain ⟨d, hd, h⟩ := aOpt_some h
    have hy : ∀ G w (x : Act), Rel G w x st → yielded ops x.tmps j = match x.tmps[d]? with | some (.bool b) => some b | _ => none := fun G w x hr => by simp [yielded, hd]; rfl
    unfold aGuard at h
    split at h
    · rename_i b hb
      have hy' : ∀ G w (x : Act), Rel G w x st → yielded ops x.tmps j = some b := fun G w x hr => by
        rw [hy G w x hr]
        have hrel := hr.env.2 d
        rw [hb] at hrel
        have hx := hrel.lit_inv
        cases hdt : x.tmps[d]? with
        | none => simp [hdt, undef] at hx
        | some u => simp [hdt] at hx; subst hx; rfl
      split at h
      · rename_i e; exact .inl ⟨fun G w x hr => by simp [Region.wanted, hg, hy' G w x hr, e], h⟩
      · rename_i e; exact .inr ⟨fun G w x hr => by simp [Region.wanted, hg, hy' G w x hr, e], h⟩
    · rename_i t hb
      refine .inr ⟨fun G w x hr => ?_, h⟩
      have hy' : yielded ops x.tmps j = none := by
        rw [hy G w x hr]
        have hrel := hr.env.2 d
        rw [hb] at hrel
        have hx := hrel.lit_inv
        cases hdt : x.tmps[d]? with
        | none => rfl
        | some u => simp [hdt] at hx; subst hx; rfl
      simp [Region.wanted, hg, hy']
    · exact h.elim

theorem adr_sound {ro : Option Nat} {P : Program} {ops : Array Oper} {Q : Exit → St → Prop} (hs : Region.noSelect ops = true) (hn : noDefer ops = true) : ∀ (p : DPlan) (fuel : Nat) (listed : Array Bool) (st : St),
    (okPlan ops p fuel listed none = true → adr ro P ops Q p st → ADr ro P ops Q fuel listed st) ∧
    (∀ rs f, fuel = f + 1 → okPlan ops p fuel listed (some rs) = true → adr ro P ops Q p st → ∀ i ∈ rs, ∃ o, ops[i]? = some o ∧
      (((∀ G w a, Rel G w a st → Region.wanted o (yielded ops a.tmps) = true) ∧ AOp ro P o (ADr ro P ops Q f (listed.setIfInBounds i true)) (dropQ ops Q) st) ∨
       ((∀ G w a, Rel G w a st → Region.wanted o (yielded ops a.tmps) = false) ∧ dstOk st.n o.dst ∧ ADr ro P ops Q f (listed.setIfInBounds i true) (st.put o.dst (.lit undef))))) := by
  have hsel := Region.noSelect_spec hs
  have hdf : ∀ (j : Nat) (o : Oper), ops[j]? = some o → Op.isDefer o.op = false := fun j o ho => by
    have := Array.all_eq_true_iff_forall_mem.1 hn o (Array.mem_of_getElem? ho)
    simpa using this
  have liftA : ∀ {o : Oper} {K K' : St → Prop} {st : St}, (∀ st, K st → K' st) → AOp ro P o K (dropQ ops Q) st → AOp ro P o K' (dropQ ops Q) st := fun hk h G w a hr =>
    wpIn_mono2 (fun a' w' ⟨G', st', h1, h2, h3⟩ => ⟨G', st', h1, h2, hk _ h3⟩) (fun _ _ _ h => h) (h G w a hr)
  intro p
  induction p with
  | done =>
    intro fuel listed st
    refine ⟨fun hok h => ADr.done (by simpa [okPlan] using hok) h, fun rs f hf hok => ?_⟩
    cases fuel <;> simp [okPlan] at hok
  | stop =>
    intro fuel listed st
    refine ⟨fun hok h => ?_, fun rs f hf hok h i hi => ?_⟩
    · cases fuel <;> simp [okPlan] at hok
    · cases rs with
      | nil => cases hi
      | cons r rs => cases fuel <;> simp [okPlan] at hok
  | take i p ih =>
    intro fuel listed st
    refine ⟨fun hok h => ?_, fun rs f hf hok h => ?_⟩
    · cases fuel with
      | zero => simp [okPlan] at hok
      | succ f =>
        simp only [okPlan, Bool.and_eq_true] at hok
        obtain ⟨⟨hr, hf⟩, hp⟩ := hok
        obtain ⟨o, ho, h⟩ := aOpt_some h
        rcases dGuard_sound h with ⟨hg, hd, hk⟩ | ⟨hg, hd, hk⟩
        · refine ADr.take ho hsel hdf (Region.free_spec ho hf) (by simpa using hr) hg ?_
          obtain ⟨h1, h2, v, h3, h4⟩ := aopT_sound hd hk
          exact ⟨h1, h2, v, h3, (ih f _ _).1 hp h4⟩
        · exact ADr.pass ho hsel hdf (Region.free_spec ho hf) (by simpa using hr) hg hd ((ih f _ _).1 hp hk)
    · cases fuel <;> simp [okPlan] at hok
  | alt i p rest ihp ihr =>
    intro fuel listed st
    have step : ∀ f rs, fuel = f + 1 → (match rs with | r :: rs => r == i && okPlan ops p f (listed.setIfInBounds i true) none && okPlan ops rest (f + 1) listed (some rs) | [] => false) = true →
        adr ro P ops Q (.alt i p rest) st → ∀ i ∈ rs, ∃ o, ops[i]? = some o ∧
      (((∀ G w a, Rel G w a st → Region.wanted o (yielded ops a.tmps) = true) ∧ AOp ro P o (ADr ro P ops Q f (listed.setIfInBounds i true)) (dropQ ops Q) st) ∨
       ((∀ G w a, Rel G w a st → Region.wanted o (yielded ops a.tmps) = false) ∧ dstOk st.n o.dst ∧ ADr ro P ops Q f (listed.setIfInBounds i true) (st.put o.dst (.lit undef)))) := by
      intro f rs hf hok h
      cases rs with
      | nil => cases hok
      | cons r rs =>
        simp only [Bool.and_eq_true, beq_iff_eq] at hok
        obtain ⟨⟨rfl, hp⟩, hrest⟩ := hok
        intro j hj
        rcases List.mem_cons.1 hj with rfl | hj
        · obtain ⟨o, ho, h1⟩ := aOpt_some h.1
          refine ⟨o, ho, ?_⟩
          rcases dGuard_sound h1 with ⟨hg, hk⟩ | ⟨hg, hd, hk⟩
          · exact .inl ⟨hg, liftA (fun st h => (ihp f _ st).1 hp h) (aop_sound hk)⟩
          · exact .inr ⟨hg, hd, (ihp f _ _).1 hp hk⟩
        · subst hf
          exact (ihr (f + 1) listed st).2 rs f rfl hrest h.2 j hj
    refine ⟨fun hok h => ?_, fun rs f hf hok h => ?_⟩
    · cases fuel with
      | zero => simp [okPlan] at hok
      | succ f =>
        simp only [okPlan] at hok
        refine ADr.all (step f _ rfl hok h) (fun e => ?_)
        rw [e] at hok; cases hok
    · subst hf
      simp only [okPlan] at hok
      exact step f rs rfl hok h

theorem AWP.draw {ro : Option Nat} {P : Program} {id : Nat} {ops : Array Oper} {Q : Exit → St → Prop} {st : St} (p : DPlan) (hm : P.follows .mixedOrders = true)
    (hok : (Region.noSelect ops && noDefer ops && okPlan ops p ops.size (Array.replicate ops.size false) none) = true) (h : adr ro P ops Q p st) : AWP ro P (.region id ops true) Q st := by
  intro G w a hr
  simp only [Bool.and_eq_true] at hok
  have h1 := (adr_sound (ro := ro) (P := P) (Q := Q) hok.1.1 hok.1.2 p ops.size (Array.replicate ops.size false) st).1 hok.2 h
  refine wpIn_region_any hm (wpAnyIn_of_C (C := ImHold G) _ _ _ _ ?_)
  have hi : Inv G { w with drawn := w.drawn + 1 } st.S := hr.inv.drew _
  have he : Evol st.S G w st.S G { w with drawn := w.drawn + 1 } := ⟨Nat.le_refl _, rfl, rfl, rfl, fun _ _ _ h => h, fun _ _ _ => rfl, fun _ _ _ _ => rfl, fun _ h => .inl h⟩
  have := h1 st G w G G { w with drawn := w.drawn + 1 } a (fun _ _ _ h => h) he ⟨hr.env, hr.ds, hi⟩
  exact wpAnyC_post (fun e a' w' h => h.post) _ _ _ _ this

def aCond (v : V) (a b : Prop) : Prop :=
  match v with
  | .lit (.bool c) => if c = true then a else b
  | _ => False

def awp (pl : Nat → DPlan) (ro : Option Nat) (P : Program) : Code → (Exit → St → Prop) → St → Prop
  | .skip, Q, st => Q .normal st
  | .label _, Q, st => Q .normal st
  | .exit id, Q, st => Q (.exit id) st
  | .goto l, Q, st => Q (.goto l) st
  | .ret, Q, st => Q .ret st
  | .seq x y, Q, st => awp pl ro P x (thenQ (awp pl ro P y Q) Q) st
  | .cond c x y, Q, st => aCond (st.opnd c) (awp pl ro P x Q st) (awp pl ro P y Q st)
  | .block id c, Q, st => awp pl ro P c (blockQ id Q) st
  | .region _ ops false, Q, st => aops ro P ops Q ops.toList st
  | .region id ops true, Q, st => adr ro P ops Q (pl id) st
  | c, Q, st => AWP ro P c Q st

theorem wpIn_condV {ro : Option Nat} {P : Program} {c : Operand} {x y : Code} {Q : Exit → St → Prop} {st : St} {b : Bool} (hc : st.opnd c = .lit (.bool b)) (h : if b = true then AWP ro P x Q st else AWP ro P y Q st) : AWP ro P (.cond c x y) Q st := fun G w a hr => by
  refine wpIn_cond (hr.lit hc) ?_
  cases b with
  | true => exact (if_pos rfl ▸ h) G w a hr
  | false => exact h G w a hr

def okPlans (P : Program) (pl : Nat → DPlan) : Code → Bool
  | .seq x y => okPlans P pl x && okPlans P pl y
  | .cond _ x y => okPlans P pl x && okPlans P pl y
  | .block _ c => okPlans P pl c
  | .region id ops true => P.follows .mixedOrders && (Region.noSelect ops && noDefer ops && okPlan ops (pl id) ops.size (Array.replicate ops.size false) none)
  | _ => true

def pl0 : Nat → DPlan := fun _ => .done

theorem awp_sound (pl : Nat → DPlan) {ro : Option Nat} {P : Program} : ∀ (c : Code) (hok : okPlans P pl c = true) (Q : Exit → St → Prop) (st : St), awp pl ro P c Q st → AWP ro P c Q st
  | .skip, hok, Q, st, h => AWP.skip h
  | .label _, hok, Q, st, h => AWP.label h
  | .exit _, hok, Q, st, h => AWP.exit h
  | .goto _, hok, Q, st, h => AWP.goto h
  | .ret, hok, Q, st, h => AWP.ret h
  | .seq x y, hok, Q, st, h => AWP.seq ((awp_sound pl x (by simp only [okPlans, Bool.and_eq_true] at hok; exact hok.1) _ st h).mono fun e st' hq => by
      cases e with
      | normal => exact awp_sound pl y (by simp only [okPlans, Bool.and_eq_true] at hok; exact hok.2) Q st' hq
      | _ => exact hq)
  | .cond c x y, hok, Q, st, h => by
      unfold awp aCond at h
      split at h
      · rename_i b hc
        refine wpIn_condV hc ?_
        split at h
        · rename_i e; rw [if_pos e]; exact awp_sound pl x (by simp only [okPlans, Bool.and_eq_true] at hok; exact hok.1) Q st h
        · rename_i e; rw [if_neg e]; exact awp_sound pl y (by simp only [okPlans, Bool.and_eq_true] at hok; exact hok.2) Q st h
      · exact h.elim
  | .block id c, hok, Q, st, h => AWP.block (awp_sound pl c hok _ st h)
  | .region id ops false, hok, Q, st, h => by
      have h1 : AOps ro P ops Q ops.toList st := aops_sound ops.toList st h
      have := AWP.region (ro := ro) (P := P) (id := id) (l := ops.toList) (Q := Q) (st := st) (by simpa using h1)
      simpa using this
  | .region id ops true, hok, Q, st, h => by
      simp only [okPlans, Bool.and_eq_true] at hok
      exact AWP.draw (pl id) hok.1 (by simp only [Bool.and_eq_true]; exact hok.2) h
  | .loop c, hok, Q, st, h => h
  | .rangeFunc f ps a b, hok, Q, st, h => h
  | .scope c, hok, Q, st, h => h
  | .refuse s, hok, Q, st, h => h


end Go.AW
/- The engine AW, part 15: deferred calls that recover. -/
set_option linter.unusedVariables false
set_option linter.unusedSimpArgs false
namespace Go.AW

/-- The deferred call of g, of what it captured, in this mode of the frame below: it returns. -/
def AClose (P : Program) (g : FuncId) (cap : List Value) (u : FrameMode) (S : List Res) (K : FrameMode → List Res → Prop) : Prop :=
  ∀ G w, Inv G w S → CallsDIn Fence.wide 0 P g cap.toArray u w (fun e u' w' => ∃ v G' S', e = .returned v ∧ Evol S G w S' G' w' ∧ Inv G' w' S' ∧ K u' S')

def retDefer (P : Program) (fn : Func) (Q : Out → List Res → Prop) (st : St) (u : FrameMode) : List Deferred → Prop
  | [⟨.fn (.func g) cap, args⟩] => args = #[] ∧ goesB P g = true ∧ AClose P g cap.toList u st.S fun u' S' =>
      settle u' = .returning ∧ optDone P fn { st with S := S', ds := [] } Q (resOf P fn { st with S := S', ds := [] })
  | _ => False

/-- What the body of a function has to come to, that has one deferred call, which recovers. -/
def retD (P : Program) (fn : Func) (Q : Out → List Res → Prop) : Exit → St → Prop
  | .normal, st => retDefer P fn Q st .returning st.ds
  | .ret, st => retDefer P fn Q st .returning st.ds
  | .panic [x], st => x.recovered = false ∧ x.goexit = false ∧ retDefer P fn Q st (.panicking [⟨x.v, false, false⟩]) st.ds
  | _, _ => False

theorem run_invoke {P : Program} {g : FuncId} (hg : goesB P g = true) (cap : Array Value) {w : World} : (invoke (.fn (.func g) cap) #[]).run P w = .ok (.enter g cap) w := by
  show (callFunc g (#[] ++ cap)).run P w = _
  rw [run_goes hg]; simp

theorem acall_of_awpD {P : Program} {f : FuncId} {fn : Func} {c : Code} {args : List V} {S : List Res} {Q : Out → List Res → Prop} (hf : P.funcs[f]? = some fn) (hb : fn.body = some c)
    (hn : args.length ≤ fn.ntmps) (h : AWP none P c (retD P fn Q) ⟨fn.ntmps, params 0 args, S, []⟩) : ACall P f args S Q := by
  intro G w xs hv hi
  refine callsIn_wide.1 (callsIn_of_wp_defers (F := Fence.wide) (n := 0) hf hb trivial ?_)
  refine wpIn_mono (h G w _ (enter_rel hv hi hn)) fun e a' w' ⟨G', st', he, hr', hq⟩ => ?_
  have fin : ∀ u, u ≠ .run → retDefer P fn Q st' u st'.ds → LeavesIn Fence.wide 0 P fn a'.tmps (CPost S G w Q) a'.defers u w' := by
    intro u hu hd
    rw [hr'.ds]
    cases hds : st'.ds with
    | nil => rw [hds] at hd; exact hd.elim
    | cons d0 dr =>
    rw [hds] at hd
    unfold retDefer at hd
    split at hd
    · rename_i g cap dargs heq
      obtain ⟨rfl, hg, hc⟩ := hd
      rw [heq]
      have hc' := hc G' w' hr'.inv
      rw [Array.toArray_toList] at hc'
      refine leavesIn_cons (F := Fence.wide) (n := 0) (f := g) (args := cap) hu (fun h => absurd h (by decide)) (run_invoke hg cap) (fun _ _ => trivial) ?_
      refine hc'.mono ?_
      rintro e u' w'' ⟨v, G'', S', rfl, he', hi', hset, hdone⟩
      show LeavesIn Fence.wide 0 P fn a'.tmps (CPost S G w Q) [] (settle u') w''
      rw [hset]
      cases hres : resOf P fn { st' with S := S', ds := [] } with
      | none => rw [hres] at hdone; exact hdone.elim
      | some rv =>
        rw [hres] at hdone
        obtain ⟨v', S'', hvl, hle, hQ⟩ := hdone
        have hr'' : Rel G'' w'' { a' with defers := [] } { st' with S := S', ds := [] } := ⟨hr'.env.mono he'.im, rfl, hi'⟩
        obtain ⟨y, hy, hrel⟩ := resOf_run hr'' hres
        obtain ⟨G3, he3, hi3⟩ := hle G'' w'' hi'
        exact ⟨y, hy, G3, S'', .ret v', (he.trans he').trans he3, hi3, .ret ((hvl G'' w'' y hi' (VLe.fz _ _ G'' w'' y hi' hrel)).mono he3.im), hQ⟩
    · exact hd.elim
  cases e with
  | normal => exact fin _ (by simp) hq
  | ret => exact fin _ (by simp) hq
  | panic ch =>
    match ch, hq with
    | [x], hq =>
      obtain ⟨h1, h2, hd⟩ := hq
      have : x = ⟨x.v, false, false⟩ := by cases x; simp_all
      rw [this]
      exact fin _ (by simp) hd
  | exit id => exact hq.elim
  | goto l => exact hq.elim
  | outgrown => exact hq.elim

/-! ### The closure that recovers -/

def closeQ (P : Program) (fn : Func) (K : List Res → Prop) : Exit → St → Prop
  | .normal, st => st.ds = [] ∧ (resOf P fn st).isSome = true ∧ K st.S
  | .ret, st => st.ds = [] ∧ (resOf P fn st).isSome = true ∧ K st.S
  | _, _ => False

/-- What recover tells, and the mode that it leaves. -/
inductive Recs : FrameMode → Value → FrameMode → Prop
  | none : Recs .returning .nilIface .returning
  | some (v : Value) : Recs (.panicking [⟨v, false, false⟩]) v (.panicking [⟨v, true, false⟩])

theorem Recs.settle {u u' : FrameMode} {r : Value} (h : Recs u r u') : settle u' = .returning := by
  cases h <;> rfl

theorem aclose_of {P : Program} {g : FuncId} {fn : Func} {rest : Code} {id t t' : Nat} {ty1 ty2 : TypeId} {p1 p2 : String} {af1 af2 : Array Edge} {cap : List Value} {u u' : FrameMode} {r : Value} {S : List Res} {K : FrameMode → List Res → Prop}
    (hf : P.funcs[g]? = some fn)
    (hb : fn.body = some (.seq (.region id #[⟨some t, .call ⟨.builtin .recover, #[], #[]⟩, ty1, p1, af1, none⟩, ⟨some t', .assign (.tmp t), ty2, p2, af2, none⟩] false) rest))
    (hn : cap.length ≤ fn.ntmps) (ht : t < fn.ntmps) (ht' : t' < fn.ntmps) (hu : Recs u r u')
    (h : AWP none P rest (closeQ P fn (K u')) ⟨fn.ntmps, (t', .lit r) :: (t, .lit r) :: params 0 (cap.map .lit), S, []⟩) : AClose P g cap u S K := by
  intro G w hi
  refine callsDIn_of_wpSIn hf hb trivial fun c₀ cs hmode => ?_
  refine wpSIn_seq (wpSIn_region ?_)
  have hr0 := enter_rel (G := G) (w := w) (S := S) (args := cap.map .lit) (xs := cap) (VRels.lits G cap) hi (n := fn.ntmps) (by simpa using hn)
  have hr2 := (hr0.put (dst := some t) (.refl _ _ _) hr0.inv ht (VRel.lit r)).put (dst := some t') (.refl _ _ _) hr0.inv ht' (VRel.lit r)
  have last : (Exit.thenS (rest.wpSIn Fence.wide 0 P (bodyPostS P fn c₀ cs fun e u' w' => ∃ v G' S', e = .returned v ∧ Evol S G w S' G' w' ∧ Inv G' w' S' ∧ K u' S')) (bodyPostS P fn c₀ cs fun e u' w' => ∃ v G' S', e = .returned v ∧ Evol S G w S' G' w' ∧ Inv G' w' S' ∧ K u' S')) .normal
      ((({ tmps := cap.toArray ++ Array.replicate (fn.ntmps - cap.toArray.size) undef, defers := [] } : Act).put (some t) r).put (some t') r) ({ c₀ with mode := u' } :: cs) w := by
    refine wpSIn_of_wpIn (F := Fence.wide) rfl (wpIn_mono (h G w _ hr2) fun e a' w' ⟨G', st', he, hr', hq⟩ => ?_)
    have fin : (st'.ds = [] ∧ (resOf P fn st').isSome = true ∧ K u' st'.S) → a'.defers = [] ∧ ∃ u'', ({ c₀ with mode := u' } :: cs : List Frame) = { c₀ with mode := u'' } :: cs ∧ ∃ v, (results fn a'.tmps).run P w' = .ok v w' ∧
        (∃ v' G' S', Ending.returned v = .returned v' ∧ Evol S G w S' G' w' ∧ Inv G' w' S' ∧ K u'' S') := by
      rintro ⟨h1, h2, h3⟩
      obtain ⟨rv, hrv⟩ := Option.isSome_iff_exists.1 h2
      obtain ⟨y, hy, hrel⟩ := resOf_run hr' hrv
      exact ⟨hr'.ds.trans h1, u', rfl, y, hy, y, G', st'.S, rfl, he, hr'.inv, h3⟩
    cases e with
    | normal => exact fin hq
    | ret => exact fin hq
    | _ => exact hq.elim
  have hput : ∀ (a : Act) (v : Value), t < a.tmps.size → (a.put (some t) v).eval (.tmp t) = v := fun a v h => by simp [Act.put, Act.eval, h]
  have hsz : t < ({ tmps := cap.toArray ++ Array.replicate (fn.ntmps - cap.toArray.size) undef, defers := [] } : Act).tmps.size := by simp; omega
  have hrec : ∀ (a : Act), (execOp a.eval ⟨some t, .call ⟨.builtin .recover, #[], #[]⟩, ty1, p1, af1, none⟩).run P w = .ok .recover w := fun a => by
    simp [execOp, resolve, invoke, builtin]
  have hasg : ∀ (a : Act), (execOp a.eval ⟨some t', .assign (.tmp t), ty2, p2, af2, none⟩).run P w = .ok (.value (a.eval (.tmp t))) w := fun a => by
    simp [execOp]
  show wpOpsSIn _ _ _ _ _ [0, 1] _ _ _
  cases hu with
  | none =>
    have hc : ({ c₀ with mode := .returning } : Frame) = c₀ := by cases c₀; simp at hmode; subst hmode; rfl
    rw [hc] at last
    simp only [wpOpsSIn, List.getElem?_toArray, List.getElem?_cons_zero, List.getElem?_cons_succ, Region.wanted, if_true, hrec, hasg, recoverD, hmode]
    rw [hput _ _ hsz]
    exact ⟨fun _ _ => trivial, fun _ _ => trivial, last⟩
  | some v =>
    simp only [wpOpsSIn, List.getElem?_toArray, List.getElem?_cons_zero, List.getElem?_cons_succ, Region.wanted, if_true, hrec, hasg, recoverD, hmode]
    rw [hput _ _ hsz]
    exact ⟨fun _ _ => trivial, fun _ _ => trivial, last⟩

end Go.AW
/- The engine AW, part 16: ranges over functions. -/
set_option linter.unusedVariables false
set_option linter.unusedSimpArgs false
namespace Go.AW

/-! ### The loop's record among the resources -/

structure Lp where
  n : Nat
  env : List (Nat × V)
  st : LoopState
  pend : Option Code
  ps : Array Tmp
  assign : Code
  body : Code
  db : Nat

def Lp.res (l : Nat) (L : Lp) : Res := .lp l L.n L.env L.st L.pend L.ps L.assign L.body L.db

def findLp (l : Nat) : List Res → Option Lp
  | [] => none
  | .lp b n env st pend ps assign body db :: S => if b = l then some ⟨n, env, st, pend, ps, assign, body, db⟩ else findLp l S
  | _ :: S => findLp l S
def setLp (l : Nat) (st : LoopState) (pend : Option Code) : List Res → List Res
  | [] => []
  | .lp b n env st0 pend0 ps assign body db :: S => if b = l then .lp b n env st pend ps assign body db :: S else .lp b n env st0 pend0 ps assign body db :: setLp l st pend S
  | r :: S => r :: setLp l st pend S
def dropLp (l : Nat) : List Res → List Res
  | [] => []
  | .lp b n env st0 pend0 ps assign body db :: S => if b = l then S else .lp b n env st0 pend0 ps assign body db :: dropLp l S
  | r :: S => r :: dropLp l S

theorem findLp_split {l : Nat} {L : Lp} : ∀ {S : List Res}, findLp l S = some L → ∃ A B, S = A ++ L.res l :: B ∧ (∀ st p, setLp l st p S = A ++ ({ L with st := st, pend := p } : Lp).res l :: B) ∧ dropLp l S = A ++ B
  | [], h => by simp [findLp] at h
  | r :: S, h => by
    have tail : (∀ b n env st pend ps assign body db, r = .lp b n env st pend ps assign body db → b ≠ l) → findLp l S = some L →
        ∃ A B, r :: S = A ++ L.res l :: B ∧ (∀ st p, setLp l st p (r :: S) = A ++ ({ L with st := st, pend := p } : Lp).res l :: B) ∧ dropLp l (r :: S) = A ++ B := fun hr hf => by
      obtain ⟨A, B, h1, h2, h3⟩ := findLp_split hf
      refine ⟨r :: A, B, by rw [h1]; rfl, fun st p => ?_, ?_⟩
      · cases r with
        | lp b n env st0 pend ps assign body db => simp only [setLp]; rw [if_neg (hr _ _ _ _ _ _ _ _ _ rfl), h2]; rfl
        | _ => simp only [setLp]; rw [h2]; rfl
      · cases r with
        | lp b n env st0 pend ps assign body db => simp only [dropLp]; rw [if_neg (hr _ _ _ _ _ _ _ _ _ rfl), h3]; rfl
        | _ => simp only [dropLp]; rw [h3]; rfl
    cases r with
    | lp b n env st pend ps assign body db =>
      simp only [findLp] at h
      split at h
      · rename_i e
        cases h
        subst e
        exact ⟨[], S, rfl, fun st p => by simp [setLp, Lp.res], by simp [dropLp]⟩
      · rename_i e; exact tail (fun _ _ _ _ _ _ _ _ _ e' => by cases e'; exact e) h
    | objT => exact tail (fun _ _ _ _ _ _ _ _ _ e => by cases e) (by simpa [findLp] using h)
    | vec => exact tail (fun _ _ _ _ _ _ _ _ _ e => by cases e) (by simpa [findLp] using h)
    | raw => exact tail (fun _ _ _ _ _ _ _ _ _ e => by cases e) (by simpa [findLp] using h)

theorem blks_mid (A B : List Res) (r : Res) : blks (A ++ r :: B) = blks A ++ (r.blk.toList ++ blks B) := by
  simp only [blks, List.filterMap_append, List.filterMap_cons]
  cases r.blk <;> simp

/-- One block of one's own is turned, of which none of the cells that never change is one. -/
theorem Inv.put {G : Im} {w : World} {A B : List Res} {r r' : Res} {l : Nat} {o : Obj} (h : Inv G w (A ++ r :: B)) (hb : r.blk = some l) (hb' : r'.blk = some l) (hG : ∀ i, G l i = none) (hh : r'.holds G (w.putObj l o)) :
    Evol (A ++ r :: B) G w (A ++ r' :: B) G (w.putObj l o) ∧ Inv G (w.putObj l o) (A ++ r' :: B) := by
  have hbl : blks (A ++ r' :: B) = blks (A ++ r :: B) := by rw [blks_mid, blks_mid, hb, hb']
  have hl : l ∈ blks (A ++ r :: B) := mem_blks.2 ⟨r, by simp, hb⟩
  refine ⟨⟨by simp, rfl, rfl, rfl, Im.le_refl _, fun b _ hn => World.putObj_heap_other (fun e => hn (e ▸ hl)), fun _ _ _ _ => rfl, fun b hb => .inl (hbl ▸ hb)⟩, ?_, ?_, hbl ▸ h.nd⟩
  · intro b o' u hu
    have := h.im b o' u hu
    have hne : b ≠ l := fun e => by subst e; rw [hG] at hu; cases hu
    simp only [World.cell?] at this ⊢
    rw [World.putObj_heap_other hne]; exact this
  · intro x hx
    have hnd := h.nd
    rw [blks_mid, hb] at hnd
    have hx' : x = r' ∨ (x ∈ A ++ r :: B ∧ x.blk ≠ some l) := by
      rcases List.mem_append.1 hx with hx | hx
      · refine .inr ⟨by simp [hx], fun e => ?_⟩
        have h1 : l ∈ blks A := mem_blks.2 ⟨x, hx, e⟩
        exact (List.nodup_append.1 hnd).2.2 l h1 l (by simp) rfl
      · rcases List.mem_cons.1 hx with rfl | hx
        · exact .inl rfl
        · refine .inr ⟨by simp [hx], fun e => ?_⟩
          have h1 : l ∈ blks B := mem_blks.2 ⟨x, hx, e⟩
          have h2 := (List.nodup_append.1 hnd).2.1
          simp at h2
          exact h2.1 h1
    rcases hx' with rfl | ⟨hx', hne⟩
    · exact hh
    · exact Res.holds_of (h.res x hx') (Im.le_refl _) fun b hb => ⟨World.putObj_heap_other (fun e => hne (e ▸ hb)), fun _ => rfl⟩

theorem Inv.lp {G : Im} {w : World} {S : List Res} {l : Nat} {L : Lp} (h : Inv G w S) (hf : findLp l S = some L) :
    ∃ fn tmps, w.heap[l]? = some (.loop { state := L.st, pending := L.pend, fn, tmps, params := L.ps, assign := L.assign, body := L.body, defers := L.db }) ∧ EnvRel G L.n L.env tmps ∧ ∀ i, G l i = none := by
  obtain ⟨A, B, hs, _⟩ := findLp_split hf
  exact h.res (L.res l) (by rw [hs]; simp)

theorem Inv.setLp {G : Im} {w : World} {S : List Res} {l : Nat} {L : Lp} (h : Inv G w S) (hf : findLp l S = some L) (st : LoopState) (p : Option Code) {fn : FuncId} {tmps : Array Value}
    (hh : w.heap[l]? = some (.loop { state := L.st, pending := L.pend, fn, tmps, params := L.ps, assign := L.assign, body := L.body, defers := L.db })) (he : EnvRel G L.n L.env tmps) (hG : ∀ i, G l i = none) :
    let w' := w.putObj l (.loop { state := st, pending := p, fn, tmps, params := L.ps, assign := L.assign, body := L.body, defers := L.db })
    Evol S G w (setLp l st p S) G w' ∧ Inv G w' (setLp l st p S) := by
  obtain ⟨A, B, hs, hset, _⟩ := findLp_split hf
  rw [hset]
  subst hs
  exact h.put rfl rfl hG ⟨fn, tmps, World.putObj_heap_same (Array.getElem?_eq_some_iff.1 hh).1, he, hG⟩

/-! ### yield -/

/-- A round of the loop l, of these arguments: it hands back a Bool. -/
def ARound (P : Program) (l : Nat) (args : List V) (S : List Res) (R : Bool → List Res → Prop) : Prop :=
  ∀ (ro : Option Nat) G w xs, VRels G args xs → Inv G w S → ∃ r : Loop, w.heap[l]? = some (.loop r) ∧ xs.toArray.size = r.params.size ∧
    RoundIn (WF ro) 0 P l r.fn ((r.params.zip xs.toArray).foldl (fun t (p, v) => t.setIfInBounds p v) r.tmps) r.assign r.body w
      (fun e w' => ∃ b G' S', e = .returned (.bool b) ∧ Evol S G w S' G' w' ∧ Inv G' w' S' ∧ R b S')

theorem ARound.mono {P : Program} {l : Nat} {args : List V} {S : List Res} {R R' : Bool → List Res → Prop} (h : ARound P l args S R) (hr : ∀ b S', R b S' → R' b S') : ARound P l args S R' := fun ro G w xs hv hi => by
  obtain ⟨r, h1, h2, h3⟩ := h ro G w xs hv hi
  exact ⟨r, h1, h2, h3.mono fun e w' ⟨b, G', S', h4, h5, h6, h7⟩ => ⟨b, G', S', h4, h5, h6, hr _ _ h7⟩⟩

section
variable {ro : Option Nat} {P : Program} {o : Oper} {K : St → Prop} {Q : Exit → St → Prop} {st : St}

theorem AOp.yield {f : Operand} {args : Array Operand} {tys : Array TypeId} {l : Nat} (hop : o.op = .call ⟨.value f, args, tys⟩) (hd : dstOk st.n o.dst) (hf : st.opnd f = .lit (.func (.yield l) #[] #[]))
    (hk : ARound P l (args.toList.map fun x => fz st.S (st.opnd x)) st.S fun b S' => K (St.put { st with S := S' } o.dst (.lit (.bool b)))) : AOp ro P o K Q st := by
  intro G w a hr
  refine ⟨fun _ _ => trivial, ?_⟩
  rw [Oper.semAt_eq _ _ _ (fun c hc => by rw [hop] at hc; cases hc)]
  have hv := hr.opnd f
  rw [hf] at hv
  have hv := hv.lit_inv
  have hargs : VRels G (args.toList.map fun x => fz st.S (st.opnd x)) (args.toList.map a.eval) := by
    have h1 := hr.opnds args.toList
    have h2 := (VsLe.map (VLe.fz st.S) (args.toList.map st.opnd)) G w _ hr.inv h1
    rw [List.map_map] at h2; exact h2
  obtain ⟨r, h1, h2, h3⟩ := hk ro G w _ hargs hr.inv
  have e : (args.map a.eval) = (args.toList.map a.eval).toArray := by apply Array.ext'; simp
  have hrun : (execOp a.eval o).run P w = .ok (.round l r.fn ((r.params.zip (args.toList.map a.eval).toArray).foldl (fun t (p, v) => t.setIfInBounds p v) r.tmps) r.assign r.body) w := by
    simp only [execOp, hop, resolve, hv, Deferred.ofValue, Sem.run_bind, Sem.run_pure, Result.andThen_ok, invoke]
    rw [e]
    have := run_yield (P := P) (w := w) (args := #[] ++ (args.toList.map a.eval).toArray) h1 (by simpa using h2)
    rw [this]; simp
  rw [hrun, Oper.uponIn_round]
  refine ⟨(fun h => by cases h), h3.mono ?_⟩
  rintro e w' ⟨b, G', S', rfl, he, hi, hk⟩
  exact ⟨G', _, by rw [St.put_S]; exact he, hr.put he hi hd (.lit _), hk⟩
end

/-- What a round's body has to come to. -/
def roundA (l : Nat) (R : Bool → List Res → Prop) : Exit → St → Prop
  | .normal, st => ∃ L, findLp l st.S = some L ∧ R true (setLp l .ready none st.S)
  | .ret, st => ∃ L, findLp l st.S = some L ∧ R false (setLp l .done (some .ret) st.S)
  | .exit id, st => ∃ L, findLp l st.S = some L ∧ R false (setLp l .done (some (.exit id)) st.S)
  | .goto t, st => ∃ L, findLp l st.S = some L ∧ R false (setLp l .done (some (.goto t)) st.S)
  | _, _ => False

def assignEnv : List (Nat × V) → List Nat → List V → List (Nat × V)
  | env, p :: ps, v :: vs => assignEnv ((p, v) :: env) ps vs
  | env, _, _ => env

theorem assignEnv_rel {G : Im} {n : Nat} : ∀ (ps : List Nat) (vs : List V) (xs : List Value) (env : List (Nat × V)) (tmps : Array Value), ps.all (· < n) = true → VRels G vs xs → EnvRel G n env tmps →
    EnvRel G n (assignEnv env ps vs) ((ps.zip xs).foldl (fun t (p, v) => t.setIfInBounds p v) tmps)
  | [], vs, xs, env, tmps, _, _, h => by simpa [assignEnv] using h
  | p :: ps, [], xs, env, tmps, _, hv, h => by rw [hv.nil_inv]; simpa [assignEnv] using h
  | p :: ps, v :: vs, xs, env, tmps, hp, hv, h => by
    obtain ⟨x, xs', rfl, h1, h2⟩ := hv.cons_inv
    simp only [List.all_cons, Bool.and_eq_true, decide_eq_true_eq] at hp
    simp only [assignEnv, List.zip_cons_cons, List.foldl_cons]
    exact assignEnv_rel ps vs xs' _ _ hp.2 h2 (h.put hp.1 h1)

/-- The round from the walk of the loop's body. -/
theorem ARound.of_body {P : Program} {l : Nat} {args : List V} {S : List Res} {R : Bool → List Res → Prop} {L : Lp} (hf : findLp l S = some L) (hn : args.length = L.ps.size) (hp : L.ps.toList.all (· < L.n) = true)
    (h : AWP (some l) P L.assign (fun e st1 => e = .normal ∧ ∃ L1, findLp l st1.S = some L1 ∧ L1.st = .ready ∧ AWP (some l) P L.body (roundA l R) { st1 with S := setLp l .busy L1.pend st1.S }) ⟨L.n, assignEnv L.env L.ps.toList args, S, []⟩) :
    ARound P l args S R := by
  intro ro G w xs hv hi
  obtain ⟨fn, tmps, hheap, henv, hG⟩ := hi.lp hf
  refine ⟨_, hheap, by simpa [hv.1] using hn, ?_⟩
  refine roundIn_of_wpIn (F := WF ro) trivial ?_
  show L.assign.wpIn (WF (some l)) 0 P _ _ w
  have hr : Rel G w { tmps := (L.ps.zip xs.toArray).foldl (fun t (p, v) => t.setIfInBounds p v) tmps, defers := [] } ⟨L.n, assignEnv L.env L.ps.toList args, S, []⟩ := by
    refine ⟨?_, rfl, hi⟩
    have := assignEnv_rel L.ps.toList args xs L.env tmps hp hv henv
    have e : (L.ps.zip xs.toArray).foldl (fun t (p, v) => t.setIfInBounds p v) tmps = (L.ps.toList.zip xs).foldl (fun t (p, v) => t.setIfInBounds p v) tmps := by
      rw [← Array.foldl_toList]; simp
    rw [e]; exact this
  refine wpIn_mono (h G w _ hr) ?_
  rintro e a1 w1 ⟨G1, st1, he1, hr1, rfl, L1, hf1, hst1, hb⟩
  obtain ⟨fn1, tmps1, hheap1, henv1, hG1⟩ := hr1.inv.lp hf1
  obtain ⟨he2, hi2⟩ := hr1.inv.setLp hf1 .busy L1.pend hheap1 henv1 hG1
  refine ⟨_, run_beginRound hheap1 hst1, ?_⟩
  refine wpIn_mono (hb G1 _ a1 ⟨hr1.env, hr1.ds, hi2⟩) ?_
  rintro e a2 w2 ⟨G2, st2, he3, hr2, hq⟩
  have fin : ∀ (j : Option Code) (s : LoopState), s = (if j.isNone then .ready else .done) → (∃ L, findLp l st2.S = some L ∧ R j.isNone (setLp l s j st2.S)) →
      ∃ v w', (Instr.endRound l j).run P w2 = .ok v w' ∧ ∃ b G' S', Ending.returned v = .returned (.bool b) ∧ Evol S G w S' G' w' ∧ Inv G' w' S' ∧ R b S' := by
    rintro j s rfl ⟨L2, hf2, hR⟩
    obtain ⟨fn2, tmps2, hheap2, henv2, hG2⟩ := hr2.inv.lp hf2
    obtain ⟨he4, hi4⟩ := hr2.inv.setLp hf2 (if j.isNone then .ready else .done) j hheap2 henv2 hG2
    exact ⟨_, _, run_endRound j hheap2, j.isNone, G2, _, rfl, ((he1.trans he2).trans he3).trans he4, hi4, hR⟩
  cases e with
  | normal => exact fin none _ rfl hq
  | ret => exact fin (some .ret) _ rfl hq
  | exit id => exact fin (some (.exit id)) _ rfl hq
  | goto t => exact fin (some (.goto t)) _ rfl hq
  | panic c => exact hq.elim
  | outgrown => exact hq.elim

/-! ### The statement -/

/-- Behind the function that was ranged over. -/
def rangeQ (ro : Option Nat) (P : Program) (l : Nat) (st : St) (Q : Exit → St → Prop) : Out → List Res → Prop
  | .ret _, S2 => ∃ L, findLp l S2 = some L ∧ L.st ≠ .busy ∧
      (match L.pend with
       | none => Q .normal { st with S := dropLp l S2 }
       | some c => AWP ro P c Q { st with S := dropLp l S2 })
  | .panic x, S2 => Q (.panic [⟨x, false, false⟩]) { st with S := S2 }

theorem Inv.alloc_lp {G : Im} {w : World} {S : List Res} (h : Inv G w S) {fn : FuncId} {tmps : Array Value} {L : Lp} (he : EnvRel G L.n L.env tmps) :
    let w' := w.alloc (.loop { state := L.st, pending := L.pend, fn, tmps, params := L.ps, assign := L.assign, body := L.body, defers := L.db })
    Evol S G w (L.res w.heap.size :: S) G w' ∧ Inv G w' (L.res w.heap.size :: S) := by
  obtain ⟨he', hi⟩ := h.alloc0 (.loop { state := L.st, pending := L.pend, fn, tmps, params := L.ps, assign := L.assign, body := L.body, defers := L.db })
  refine ⟨he'.cons fun b hb => ?_, hi.cons ⟨fn, tmps, World.heap_alloc_eq, he, fun i => h.G_new (Nat.le_refl _) i⟩ fun b hb hb' => ?_⟩
  · simp [Lp.res, Res.blk] at hb; exact .inr (by omega)
  · simp [Lp.res, Res.blk] at hb; have := h.lt hb'; omega

theorem AWP.rangeFunc {P : Program} {Q : Exit → St → Prop} {st : St} {g : Operand} {ps : Array Tmp} {assign body : Code} {f : FuncId} {first captured : List V}
    (hf : calleeOf (st.opnd g) = some (f, first, captured)) (hg : goesB P f = true)
    (h : ∀ db l, Fresh db st.S → Fresh l st.S → db ≠ l → ACall P f (first ++ [.lit (.func (.yield l) #[] #[])] ++ captured) (.lp l st.n st.env .ready none ps assign body db :: .raw db (.deferred (some [])) :: st.S)
      (rangeQ none P l ⟨st.n, st.env, [], ⟨.collected db, #[]⟩ :: st.ds⟩ Q)) : AWP none P (.rangeFunc g ps assign body) Q st := by
  intro G w a hr
  refine wpIn_rangeFunc fun fn _ => ?_
  obtain ⟨f', c', hfx, hf1, hc1⟩ := calleeOf_rel (hr.opnd g) hf
  obtain ⟨he1, hi1⟩ := hr.inv.alloc_raw (o := .deferred (some [])) rfl
  obtain ⟨he2, hi2⟩ := hi1.alloc_lp (fn := fn) (L := ⟨st.n, st.env, .ready, none, ps, assign, body, w.heap.size⟩) hr.env
  have hs : (w.alloc (.deferred (some []))).heap.size = w.heap.size + 1 := by simp
  rw [hs] at he2 hi2
  have hcall := h w.heap.size (w.heap.size + 1) (fun hb => by have := hr.inv.lt hb; omega) (fun hb => by have := hr.inv.lt hb; omega) (by omega) G _ (f' ++ [Value.func (.yield (w.heap.size + 1)) #[] #[]] ++ c')
    ((hf1.append (.cons (.lit _) .nil)).append hc1) hi2
  have hres : ∀ w2, (resolve a.eval (rangeCall g (w.heap.size + 1)) 0).run P w2 = .ok ⟨.fn (.func f) c'.toArray, f'.toArray ++ #[Value.func (.yield (w.heap.size + 1)) #[] #[]]⟩ w2 := fun w2 => by
    simp only [rangeCall, resolve, hfx, Deferred.ofValue, Sem.run_pure]
    simp [Act.eval]
  have hinv : ∀ w2, (invoke (.fn (.func f) c'.toArray) (f'.toArray ++ #[Value.func (.yield (w.heap.size + 1)) #[] #[]])).run P w2 = .ok (.enter f (f' ++ [Value.func (.yield (w.heap.size + 1)) #[] #[]] ++ c').toArray) w2 := fun w2 => by
    simp only [invoke, run_goes hg]
    congr 2
    apply Array.ext'; simp
  refine ⟨w.heap.size + 1, [⟨.collected w.heap.size, #[]⟩], _, _, _, f, _, _, run_enterLoop_outer fn a.tmps ps assign body, hres _, fun _ _ => trivial, hinv _, (fun h => by cases h), ?_⟩
  · refine callsIn_wide.2 (hcall.mono ?_)
    rintro e w' ⟨G', S', out, he, hi, her, hq⟩
    have he3 := (he1.trans he2).trans he
    cases her with
    | ret hv =>
      obtain ⟨L, hf, hb, hq⟩ := hq
      obtain ⟨fn1, tmps1, hheap1, henv1, hG1⟩ := hi.lp hf
      obtain ⟨he4, hi4⟩ := hi.setLp hf .exhausted L.pend hheap1 henv1 hG1
      obtain ⟨A, B, hS, hset, hdrop⟩ := findLp_split hf
      rw [hset] at he4 hi4
      obtain ⟨hi5, he5⟩ := hi4.sub (S' := dropLp (w.heap.size + 1) S') (by rw [hdrop]; exact List.Sublist.append (List.Sublist.refl A) (List.sublist_cons_self _ _))
      have he6 := (he3.trans he4).trans he5
      refine ⟨L.pend, _, run_endLoop hheap1 hb, ?_⟩
      have hr' : Rel G' (w'.putObj (w.heap.size + 1) (.loop { state := .exhausted, pending := L.pend, fn := fn1, tmps := tmps1, params := L.ps, assign := L.assign, body := L.body, defers := L.db })) { a with defers := [⟨.collected w.heap.size, #[]⟩] ++ a.defers } ⟨st.n, st.env, dropLp (w.heap.size + 1) S', ⟨.collected w.heap.size, #[]⟩ :: st.ds⟩ :=
        ⟨hr.env.mono he3.im, by simp [hr.ds], hi5⟩
      cases hp : L.pend with
      | none => rw [hp] at hq hr' he6; exact ⟨G', _, he6, hr', hq⟩
      | some c =>
        rw [hp] at hq hr' he6
        exact wpIn_mono (hq G' _ _ hr') fun e2 a2 w2 ⟨G2, st2, h1, h2, h3⟩ => ⟨G2, st2, he6.trans h1, h2, h3⟩
    | panic v =>
      exact ⟨G', ⟨st.n, st.env, S', ⟨.collected w.heap.size, #[]⟩ :: st.ds⟩, he3, ⟨hr.env.mono he3.im, by simp [hr.ds], hi⟩, hq⟩

/-! ### Leaving a function, marks and deferred closures and all -/

def takeDef (db : Nat) : List Res → Option (List Res)
  | [] => none
  | .raw b o :: S => if b = db then (match o with | .deferred (some []) => some S | _ => none) else (takeDef db S).map (.raw b o :: ·)
  | r :: S => (takeDef db S).map (r :: ·)

theorem takeDef_split {db : Nat} : ∀ {S S' : List Res}, takeDef db S = some S' → ∃ A B, S = A ++ .raw db (.deferred (some [])) :: B ∧ S' = A ++ B
  | [], S', h => by simp [takeDef] at h
  | r :: S, S', h => by
    have tail : (takeDef db S).map (r :: ·) = some S' → ∃ A B, r :: S = A ++ .raw db (.deferred (some [])) :: B ∧ S' = A ++ B := fun h => by
      obtain ⟨T, hT, rfl⟩ := Option.map_eq_some_iff.1 h
      obtain ⟨A, B, rfl, rfl⟩ := takeDef_split hT
      exact ⟨r :: A, B, rfl, rfl⟩
    cases r with
    | raw b o =>
      simp only [takeDef] at h
      split at h
      · rename_i e; subst e
        split at h
        · cases h; exact ⟨[], S, rfl, rfl⟩
        · cases h
      · exact tail h
    | objT => exact tail h
    | vec => exact tail h
    | lp => exact tail h

def ALeave (P : Program) (fn : Func) (Q : Out → List Res → Prop) : List Deferred → FrameMode → St → Prop
  | [], .returning, st => optDone P fn { st with ds := [] } Q (resOf P fn { st with ds := [] })
  | [], .panicking [x], st => x.recovered = false ∧ x.goexit = false ∧ DoneP st.S x.v Q
  | ⟨.collected db, _⟩ :: ds, u, st => u ≠ .run ∧ ∃ S', takeDef db st.S = some S' ∧ ALeave P fn Q ds u { st with S := S' }
  | ⟨.fn (.func g) cap, args⟩ :: ds, u, st => u ≠ .run ∧ args = #[] ∧ goesB P g = true ∧ AClose P g cap.toList u st.S fun u' S' => ALeave P fn Q ds (settle u') { st with S := S' }
  | _, _, _ => False

theorem leaves_of {P : Program} {fn : Func} {Q : Out → List Res → Prop} {S0 : List Res} {G0 : Im} {w0 : World} : ∀ (ds : List Deferred) (u : FrameMode) (st : St) (G : Im) (w : World) (a : Act), ALeave P fn Q ds u st → Evol S0 G0 w0 st.S G w → EnvRel G st.n st.env a.tmps → Inv G w st.S →
    LeavesInM Fence.wide 0 P fn a.tmps (CPost S0 G0 w0 Q) ds u w := by
  intro ds
  induction ds with
  | nil =>
    intro u st G w a h he henv hi
    cases u with
    | run => exact h.elim
    | returning =>
      change optDone P fn { st with ds := [] } Q (resOf P fn { st with ds := [] }) at h
      cases hres : resOf P fn { st with ds := [] } with
      | none => rw [hres] at h; exact h.elim
      | some rv =>
        rw [hres] at h
        obtain ⟨v', S'', hvl, hle, hQ⟩ := h
        have hr' : Rel G w { a with defers := [] } { st with ds := [] } := ⟨henv, rfl, hi⟩
        obtain ⟨y, hy, hrel⟩ := resOf_run hr' hres
        obtain ⟨G3, he3, hi3⟩ := hle G w hi
        exact ⟨y, hy, G3, S'', .ret v', he.trans he3, hi3, .ret ((hvl G w y hi (VLe.fz _ _ G w y hi hrel)).mono he3.im), hQ⟩
    | panicking chain =>
      match chain, h with
      | [x], h =>
        obtain ⟨h1, h2, S'', hle, hQ⟩ := h
        obtain ⟨G3, he3, hi3⟩ := hle G w hi
        refine ⟨G3, S'', .panic x.v, he.trans he3, hi3, ?_, hQ⟩
        have : x = { v := x.v, recovered := false } := by cases x; simp_all
        rw [this]; exact .panic _
  | cons d ds ih =>
    intro u st G w a h he henv hi
    obtain ⟨t, dargs⟩ := d
    match t, h with
    | .collected db, h =>
      obtain ⟨hu, S', htk, hrest⟩ : u ≠ .run ∧ ∃ S', takeDef db st.S = some S' ∧ ALeave P fn Q ds u { st with S := S' } := by cases u <;> exact h
      obtain ⟨A, B, hS, hS'⟩ := takeDef_split htk
      have hraw := hi.res (.raw db (.deferred (some []))) (by rw [hS]; simp)
      rw [hS] at hi he
      obtain ⟨he1, hi1⟩ := hi.put (r' := .raw db (.deferred none)) (o := .deferred none) rfl rfl hraw.2.2 ⟨World.putObj_heap_same (Array.getElem?_eq_some_iff.1 hraw.1).1, rfl, hraw.2.2⟩
      obtain ⟨hi2, he2⟩ := hi1.sub (S' := S') (by rw [hS']; exact List.Sublist.append (List.Sublist.refl A) (List.sublist_cons_self _ _))
      exact ⟨hu, .inl ⟨db, _, rfl, run_takeDeferred hraw.1, ih _ _ _ _ a hrest ((he.trans he1).trans he2) henv hi2⟩⟩
    | .fn (.func g) cap, h =>
      obtain ⟨hu, rfl, hg, hc⟩ : u ≠ .run ∧ dargs = #[] ∧ goesB P g = true ∧ AClose P g cap.toList u st.S fun u' S' => ALeave P fn Q ds (settle u') { st with S := S' } := by cases u <;> exact h
      have hc' := hc G w hi
      rw [Array.toArray_toList] at hc'
      refine ⟨hu, .inr ⟨(fun h => absurd h (by decide)), .func g, cap, g, cap, rfl, run_invoke hg cap, fun _ _ => trivial, hc'.mono ?_⟩⟩
      rintro e u'' w'' ⟨v, G'', S', rfl, he', hi', hrest⟩
      exact ih _ _ _ _ a hrest (he.trans he') (henv.mono he'.im) hi'
    | .fn (.method _) _, h => cases u <;> exact h.elim
    | .fn (.methodOf _ _) _, h => cases u <;> exact h.elim
    | .fn (.via _ _ _ _) _, h => cases u <;> exact h.elim
    | .fn (.yield _) _, h => cases u <;> exact h.elim
    | .nil, h => cases u <;> exact h.elim
    | .builtin _ _ _ _, h => cases u <;> exact h.elim
    | .coroexit _, h => cases u <;> exact h.elim

/-- What the body of a function has to come to, deferred calls, marks and all. -/
def retM (P : Program) (fn : Func) (Q : Out → List Res → Prop) : Exit → St → Prop
  | .normal, st => ALeave P fn Q st.ds .returning st
  | .ret, st => ALeave P fn Q st.ds .returning st
  | .panic [x], st => x.recovered = false ∧ x.goexit = false ∧ ALeave P fn Q st.ds (.panicking [⟨x.v, false, false⟩]) st
  | _, _ => False

theorem acall_of_awpM {P : Program} {f : FuncId} {fn : Func} {c : Code} {args : List V} {S : List Res} {Q : Out → List Res → Prop} (hf : P.funcs[f]? = some fn) (hb : fn.body = some c)
    (hn : args.length ≤ fn.ntmps) (h : AWP none P c (retM P fn Q) ⟨fn.ntmps, params 0 args, S, []⟩) : ACall P f args S Q := by
  intro G w xs hv hi
  refine callsIn_wide.1 (callsIn_of_wp_marks (F := Fence.wide) (n := 0) hf hb trivial ?_)
  refine wpIn_mono (h G w _ (enter_rel hv hi hn)) fun e a' w' ⟨G', st', he, hr', hq⟩ => ?_
  have fin : ∀ u, ALeave P fn Q st'.ds u st' → LeavesInM Fence.wide 0 P fn a'.tmps (CPost S G w Q) a'.defers u w' := fun u h => by
    rw [hr'.ds]; exact leaves_of _ u st' G' w' a' h he hr'.env hr'.inv
  cases e with
  | normal => exact fin _ hq
  | ret => exact fin _ hq
  | panic ch =>
    match ch, hq with
    | [x], hq =>
      obtain ⟨h1, h2, hd⟩ := hq
      have : x = ⟨x.v, false, false⟩ := by cases x; simp_all
      rw [this]
      exact fin _ hd
  | exit id => exact hq.elim
  | goto l => exact hq.elim
  | outgrown => exact hq.elim

end Go.AW
/- The engine AW, part 14: what simp is told. -/
set_option linter.unusedVariables false
set_option linter.unusedSimpArgs false
namespace Go.AW

section
variable {pl : Nat → DPlan} {ro : Option Nat} {P : Program} {K : St → Prop} {Q : Exit → St → Prop} {ops : Array Oper} {rest : List Oper} {n : Nat} {env : List (Nat × V)} {S : List Res} {ds : List Deferred}
  {d : Nat} {op : Op} {ty : TypeId} {pos : String} {after : Array Edge} {g : Option (Nat × Bool)}

@[go_sem] theorem awp_skip : awp pl ro P .skip Q ⟨n, env, S, ds⟩ = Q .normal ⟨n, env, S, ds⟩ := rfl
@[go_sem] theorem awp_label {l : Nat} : awp pl ro P (.label l) Q ⟨n, env, S, ds⟩ = Q .normal ⟨n, env, S, ds⟩ := rfl
@[go_sem] theorem awp_exit {id : Nat} : awp pl ro P (.exit id) Q ⟨n, env, S, ds⟩ = Q (.exit id) ⟨n, env, S, ds⟩ := rfl
@[go_sem] theorem awp_goto {l : Nat} : awp pl ro P (.goto l) Q ⟨n, env, S, ds⟩ = Q (.goto l) ⟨n, env, S, ds⟩ := rfl
@[go_sem] theorem awp_ret : awp pl ro P .ret Q ⟨n, env, S, ds⟩ = Q .ret ⟨n, env, S, ds⟩ := rfl
@[go_sem] theorem awp_seq {x y : Code} : awp pl ro P (.seq x y) Q ⟨n, env, S, ds⟩ = awp pl ro P x (thenQ (awp pl ro P y Q) Q) ⟨n, env, S, ds⟩ := rfl
def cCond (pl : Nat → DPlan) (ro : Option Nat) (P : Program) (Q : Exit → St → Prop) (x y : Code) (st : St) (v : V) : Prop := aCond v (awp pl ro P x Q st) (awp pl ro P y Q st)
@[go_sem] theorem awp_cond {c : Operand} {x y : Code} : awp pl ro P (.cond c x y) Q ⟨n, env, S, ds⟩ = cCond pl ro P Q x y ⟨n, env, S, ds⟩ (St.opnd ⟨n, env, S, ds⟩ c) := rfl
@[go_sem] theorem cCond_t {x y : Code} {st : St} : cCond pl ro P Q x y st (.lit (.bool true)) = awp pl ro P x Q st := rfl
@[go_sem] theorem cCond_f {x y : Code} {st : St} : cCond pl ro P Q x y st (.lit (.bool false)) = awp pl ro P y Q st := rfl
theorem cCond_i {x y : Code} {st : St} {b : Bool} (h1 : b = true → awp pl ro P x Q st) (h2 : b = false → awp pl ro P y Q st) : cCond pl ro P Q x y st (.lit (.bool b)) := by cases b; exact h2 rfl; exact h1 rfl
@[go_sem] theorem awp_block {id : Nat} {c : Code} : awp pl ro P (.block id c) Q ⟨n, env, S, ds⟩ = awp pl ro P c (blockQ id Q) ⟨n, env, S, ds⟩ := rfl
@[go_sem] theorem awp_region {id : Nat} {l : List Oper} : awp pl ro P (.region id l.toArray false) Q ⟨n, env, S, ds⟩ = aops ro P l.toArray Q l ⟨n, env, S, ds⟩ := rfl
@[go_sem] theorem awp_loop {c : Code} : awp pl ro P (.loop c) Q ⟨n, env, S, ds⟩ = AWP ro P (.loop c) Q ⟨n, env, S, ds⟩ := rfl
@[go_sem] theorem awp_rangeFunc {f : Operand} {ps : Array Tmp} {x y : Code} : awp pl ro P (.rangeFunc f ps x y) Q ⟨n, env, S, ds⟩ = AWP ro P (.rangeFunc f ps x y) Q ⟨n, env, S, ds⟩ := rfl
@[go_sem] theorem awp_draw {id : Nat} {l : Array Oper} : awp pl ro P (.region id l true) Q ⟨n, env, S, ds⟩ = adr ro P l Q (pl id) ⟨n, env, S, ds⟩ := rfl
@[go_sem] theorem thenQ_normal {st : St} : thenQ K Q .normal st = K st := rfl
@[go_sem] theorem thenQ_exit {id : Nat} {st : St} : thenQ K Q (.exit id) st = Q (.exit id) st := rfl
@[go_sem] theorem thenQ_goto {l : Nat} {st : St} : thenQ K Q (.goto l) st = Q (.goto l) st := rfl
@[go_sem] theorem thenQ_ret {st : St} : thenQ K Q .ret st = Q .ret st := rfl
@[go_sem] theorem thenQ_panic {c : List PanicEntry} {st : St} : thenQ K Q (.panic c) st = Q (.panic c) st := rfl
@[go_sem] theorem blockQ_normal {id : Nat} {st : St} : blockQ id Q .normal st = Q .normal st := rfl
@[go_sem] theorem blockQ_exit {id id' : Nat} {st : St} : blockQ id Q (.exit id') st = if id' = id then Q .normal st else Q (.exit id') st := rfl
@[go_sem] theorem blockQ_goto {id l : Nat} {st : St} : blockQ id Q (.goto l) st = Q (.goto l) st := rfl
@[go_sem] theorem blockQ_ret {id : Nat} {st : St} : blockQ id Q .ret st = Q .ret st := rfl
@[go_sem] theorem blockQ_panic {id : Nat} {c : List PanicEntry} {st : St} : blockQ id Q (.panic c) st = Q (.panic c) st := rfl
section
variable {ι : Type} {ok : ι → Prop} {μ : ι → Nat} {inv : ι → St} {m : Nat} {st : St}
@[go_sem] theorem roundQ_exit {id : Nat} : roundQ ok μ inv m Q (.exit id) st = Q (.exit id) st := rfl
@[go_sem] theorem roundQ_goto {l : Nat} : roundQ ok μ inv m Q (.goto l) st = Q (.goto l) st := rfl
@[go_sem] theorem roundQ_ret : roundQ ok μ inv m Q .ret st = Q .ret st := rfl
@[go_sem] theorem roundQ_panic {c : List PanicEntry} : roundQ ok μ inv m Q (.panic c) st = Q (.panic c) st := rfl
theorem round {st : St} (j : ι) (hok : ok j) (hm : μ j < m) (h : StLe st (inv j)) : roundQ ok μ inv m Q .normal st := ⟨j, hok, hm, h⟩
end
section
variable {fn : Func} {R : Out → List Res → Prop} {st : St} {v : V} {x : Value}
@[go_sem] theorem retQ_normal : retQ P fn R .normal ⟨n, env, S, ds⟩ = (ds = [] ∧ optDone P fn ⟨n, env, S, ds⟩ R (resOf P fn ⟨n, env, S, ds⟩)) := rfl
@[go_sem] theorem retQ_ret : retQ P fn R .ret ⟨n, env, S, ds⟩ = (ds = [] ∧ optDone P fn ⟨n, env, S, ds⟩ R (resOf P fn ⟨n, env, S, ds⟩)) := rfl
@[go_sem] theorem retQ_panic : retQ P fn R (.panic [⟨x, false, false⟩]) ⟨n, env, S, ds⟩ = (ds = [] ∧ DoneP S x R) := by simp [retQ]
@[go_sem] theorem optDone_some : optDone P fn ⟨n, env, S, ds⟩ R (some v) = Done S (fz S v) R := rfl
@[go_sem] theorem callQ_ret {dst : Option Tmp} {S' : List Res} : callQ K Q ⟨n, env, S, ds⟩ dst (.ret v) S' = K (St.put ⟨n, env, S', ds⟩ dst v) := rfl
@[go_sem] theorem callQ_panic {dst : Option Tmp} {S' : List Res} : callQ K Q ⟨n, env, S, ds⟩ dst (.panic x) S' = Q (.panic [⟨x, false, false⟩]) ⟨n, env, S', ds⟩ := rfl
end

@[go_sem] theorem aops_nil : aops ro P ops Q [] ⟨n, env, S, ds⟩ = Q .normal ⟨n, env, S, ds⟩ := rfl
@[go_sem] theorem aops_cons {dst : Option Tmp} : aops ro P ops Q (⟨dst, op, ty, pos, after, none⟩ :: rest) ⟨n, env, S, ds⟩ = aop ro P ⟨dst, op, ty, pos, after, none⟩ (aops ro P ops Q rest) Q ⟨n, env, S, ds⟩ := rfl
def cGuard (ro : Option Nat) (P : Program) (ops : Array Oper) (Q : Exit → St → Prop) (o : Oper) (rest : List Oper) (want : Bool) (st : St) (v : V) : Prop :=
  aGuard v want (aop ro P o (aops ro P ops Q rest) Q st) (dstOk st.n o.dst ∧ aops ro P ops Q rest (st.put o.dst (.lit undef)))
@[go_sem] theorem aops_guard {dst : Option Tmp} {j : Nat} {want : Bool} : aops ro P ops Q (⟨dst, op, ty, pos, after, some (j, want)⟩ :: rest) ⟨n, env, S, ds⟩ =
    aOpt ((ops[j]?).bind (·.dst)) fun d => cGuard ro P ops Q ⟨dst, op, ty, pos, after, some (j, want)⟩ rest want ⟨n, env, S, ds⟩ (AW.get env d) := rfl
section
variable {o : Oper} {want : Bool}
@[go_sem] theorem cGuard_tt : cGuard ro P ops Q o rest true ⟨n, env, S, ds⟩ (.lit (.bool true)) = aop ro P o (aops ro P ops Q rest) Q ⟨n, env, S, ds⟩ := rfl
@[go_sem] theorem cGuard_ff : cGuard ro P ops Q o rest false ⟨n, env, S, ds⟩ (.lit (.bool false)) = aop ro P o (aops ro P ops Q rest) Q ⟨n, env, S, ds⟩ := rfl
@[go_sem] theorem cGuard_tf : cGuard ro P ops Q o rest false ⟨n, env, S, ds⟩ (.lit (.bool true)) = (dstOk n o.dst ∧ aops ro P ops Q rest (St.put ⟨n, env, S, ds⟩ o.dst (.lit undef))) := rfl
@[go_sem] theorem cGuard_ft : cGuard ro P ops Q o rest true ⟨n, env, S, ds⟩ (.lit (.bool false)) = (dstOk n o.dst ∧ aops ro P ops Q rest (St.put ⟨n, env, S, ds⟩ o.dst (.lit undef))) := rfl
@[go_sem] theorem cGuard_undef : cGuard ro P ops Q o rest want ⟨n, env, S, ds⟩ (.lit undef) = (dstOk n o.dst ∧ aops ro P ops Q rest (St.put ⟨n, env, S, ds⟩ o.dst (.lit undef))) := rfl
theorem cGuard_i {b : Bool} (h1 : b = true → cGuard ro P ops Q o rest want ⟨n, env, S, ds⟩ (.lit (.bool true))) (h2 : b = false → cGuard ro P ops Q o rest want ⟨n, env, S, ds⟩ (.lit (.bool false))) : cGuard ro P ops Q o rest want ⟨n, env, S, ds⟩ (.lit (.bool b)) := by cases b; exact h2 rfl; exact h1 rfl
end
@[go_sem] theorem aop_eq {dst : Option Tmp} : aop ro P ⟨dst, op, ty, pos, after, g⟩ K Q ⟨n, env, S, ds⟩ = (dstOk n dst ∧ aopB ro P ⟨dst, op, ty, pos, after, g⟩ K Q ⟨n, env, S, ds⟩ op) := rfl
@[go_sem] theorem dstOk_some : dstOk n (some d) = (d < n) := rfl
@[go_sem] theorem dstOk_none : dstOk n none = True := rfl

variable {dst : Option Tmp} {o : Oper} {st : St}
def cPick (K : St → Prop) (dst : Option Tmp) (x y : Operand) (st : St) (v : V) : Prop := aPick v (K (st.put dst (st.opnd x))) (K (st.put dst (st.opnd y)))
@[go_sem] theorem cPick_t {x y : Operand} : cPick K dst x y st (.lit (.bool true)) = K (st.put dst (st.opnd x)) := rfl
@[go_sem] theorem cPick_f {x y : Operand} : cPick K dst x y st (.lit (.bool false)) = K (st.put dst (st.opnd y)) := rfl
theorem cPick_i {x y : Operand} {b : Bool} (h1 : b = true → K (st.put dst (st.opnd x))) (h2 : b = false → K (st.put dst (st.opnd y))) : cPick K dst x y st (.lit (.bool b)) := by cases b; exact h2 rfl; exact h1 rfl
@[go_sem] theorem aopB_move {x : Operand} : aopB ro P o K Q ⟨n, env, S, ds⟩ (.move x) = K (St.put ⟨n, env, S, ds⟩ o.dst (St.opnd ⟨n, env, S, ds⟩ x)) := rfl
@[go_sem] theorem aopB_assign {x : Operand} : aopB ro P o K Q ⟨n, env, S, ds⟩ (.assign x) = K (St.put ⟨n, env, S, ds⟩ o.dst (St.opnd ⟨n, env, S, ds⟩ x)) := rfl
@[go_sem] theorem aopB_pick {c x y : Operand} : aopB ro P o K Q ⟨n, env, S, ds⟩ (.pick c x y) = cPick K o.dst x y ⟨n, env, S, ds⟩ (St.opnd ⟨n, env, S, ds⟩ c) := rfl
@[go_sem] theorem aopB_alloc {T : TypeId} : aopB ro P o K Q ⟨n, env, S, ds⟩ (.alloc T) = aOpt (zeroA P T) fun z => ∀ b, Fresh b S → K (St.put ⟨n, env, .objT b (z.cells.toList.map .lit) (keepO P T) :: S, ds⟩ o.dst (.lit (.pointer (some ⟨b, 0, none⟩)))) := rfl
@[go_sem] theorem aopB_box {T : TypeId} {x : Operand} : aopB ro P o K Q ⟨n, env, S, ds⟩ (.box T x) = aBox (St.opnd ⟨n, env, S, ds⟩ x) fun v => ∀ b, Fresh b S → K (St.put ⟨n, env, .obj b v.cells :: S, ds⟩ o.dst (.lit (.pointer (some ⟨b, 0, none⟩)))) := rfl
@[go_sem] theorem aopB_load {T : TypeId} {x : Operand} : aopB ro P o K Q ⟨n, env, S, ds⟩ (.load T x) = aOpt ((cellsAt S (St.opnd ⟨n, env, S, ds⟩ x)).bind (readAs P T)) fun v => K (St.put ⟨n, env, S, ds⟩ o.dst v) := rfl
@[go_sem] theorem aopB_store {T : TypeId} {p x : Operand} : aopB ro P o K Q ⟨n, env, S, ds⟩ (.store T p x) = aStore S (AOp ro P o K Q ⟨n, env, S, ds⟩) (St.opnd ⟨n, env, S, ds⟩ p) (St.opnd ⟨n, env, S, ds⟩ x) (szA P T) fun S' => K (St.put ⟨n, env, S', ds⟩ o.dst (.lit undef)) := rfl
@[go_sem] theorem aopB_nilCheck {x : Operand} : aopB ro P o K Q ⟨n, env, S, ds⟩ (.nilCheck x) = aNil (AOp ro P o K Q ⟨n, env, S, ds⟩) (St.opnd ⟨n, env, S, ds⟩ x) fun v => K (St.put ⟨n, env, S, ds⟩ o.dst v) := rfl
@[go_sem] theorem aopB_unOp {u : UnOp} {t : TypeId} {x : Operand} : aopB ro P o K Q ⟨n, env, S, ds⟩ (.unOp u t x) = aUn u (AOp ro P o K Q ⟨n, env, S, ds⟩) (St.opnd ⟨n, env, S, ds⟩ x) fun v => K (St.put ⟨n, env, S, ds⟩ o.dst (.lit v)) := rfl
@[go_sem] theorem aopB_binOp {u : BinOp} {t t' : TypeId} {x y : Operand} : aopB ro P o K Q ⟨n, env, S, ds⟩ (.binOp u t x y t') = aBinN P t u (AOp ro P o K Q ⟨n, env, S, ds⟩) y (P.underlying t) (St.opnd ⟨n, env, S, ds⟩ x) (St.opnd ⟨n, env, S, ds⟩ y) fun v => K (St.put ⟨n, env, S, ds⟩ o.dst (.lit v)) := rfl
@[go_sem] theorem aopB_convert {s t : TypeId} {x : Operand} : aopB ro P o K Q ⟨n, env, S, ds⟩ (.convert s t x) = aConvX P (P.underlying s) (P.underlying t) (AOp ro P o K Q ⟨n, env, S, ds⟩) true (fz S (St.opnd ⟨n, env, S, ds⟩ x)) fun v => K (St.put ⟨n, env, S, ds⟩ o.dst v) := rfl
@[go_sem] theorem aopB_extract {x : Operand} {ix : Nat} : aopB ro P o K Q ⟨n, env, S, ds⟩ (.extract x ix) = aExtract (AOp ro P o K Q ⟨n, env, S, ds⟩) ix (St.opnd ⟨n, env, S, ds⟩ x) fun v => K (St.put ⟨n, env, S, ds⟩ o.dst v) := rfl
@[go_sem] theorem aopB_field {t : TypeId} {x : Operand} {f : Nat} : aopB ro P o K Q ⟨n, env, S, ds⟩ (.field t x f) = aField P f (AOp ro P o K Q ⟨n, env, S, ds⟩) (P.underlying t) (St.opnd ⟨n, env, S, ds⟩ x) fun v => K (St.put ⟨n, env, S, ds⟩ o.dst v) := rfl
@[go_sem] theorem aopB_fieldAddr {t : TypeId} {x : Operand} {f : Nat} : aopB ro P o K Q ⟨n, env, S, ds⟩ (.fieldAddr t x f) = aFieldAddr P f (AOp ro P o K Q ⟨n, env, S, ds⟩) (P.underlying t) (St.opnd ⟨n, env, S, ds⟩ x) fun v => K (St.put ⟨n, env, S, ds⟩ o.dst v) := rfl
@[go_sem] theorem aopB_indexAddr {t : TypeId} {x ix : Operand} : aopB ro P o K Q ⟨n, env, S, ds⟩ (.indexAddr t x ix) = aIndexAddr S (P.underlying t) (szA P) (AOp ro P o K Q ⟨n, env, S, ds⟩) (St.opnd ⟨n, env, S, ds⟩ x) (St.opnd ⟨n, env, S, ds⟩ ix) fun v => K (St.put ⟨n, env, S, ds⟩ o.dst v) := rfl
@[go_sem] theorem aopB_index {t : TypeId} {x ix : Operand} : aopB ro P o K Q ⟨n, env, S, ds⟩ (.index t x ix) = aIndex P (P.underlying t) (AOp ro P o K Q ⟨n, env, S, ds⟩) (St.opnd ⟨n, env, S, ds⟩ x) (St.opnd ⟨n, env, S, ds⟩ ix) fun v => K (St.put ⟨n, env, S, ds⟩ o.dst v) := rfl
@[go_sem] theorem aopB_build {t : TypeId} {parts : Array (Nat × Operand)} : aopB ro P o K Q ⟨n, env, S, ds⟩ (.build t parts) = aBuild P t (AOp ro P o K Q ⟨n, env, S, ds⟩) (P.underlying t) (parts.toList.map fun p => (p.1, fz S (St.opnd ⟨n, env, S, ds⟩ p.2))) fun v => K (St.put ⟨n, env, S, ds⟩ o.dst v) := rfl
@[go_sem] theorem aopB_buildSlice {t : TypeId} {len : Nat} {parts : Array (Nat × Operand)} : aopB ro P o K Q ⟨n, env, S, ds⟩ (.buildSlice t len parts) = aBuildSlice P len (partsOk len parts.toList) (AOp ro P o K Q ⟨n, env, S, ds⟩) (P.underlying t) (parts.toList.map fun p => fz S (St.opnd ⟨n, env, S, ds⟩ p.2)) fun v => K (St.put ⟨n, env, S, ds⟩ o.dst v) := rfl
@[go_sem] theorem aopB_makeInterface {t : TypeId} {x : Operand} : aopB ro P o K Q ⟨n, env, S, ds⟩ (.makeInterface t x) = aOpt (P.underlying t) fun u => isIfaceD u = false ∧ K (St.put ⟨n, env, S, ds⟩ o.dst (ifaceOf t (fz S (St.opnd ⟨n, env, S, ds⟩ x)))) := rfl
@[go_sem] theorem aopB_makeFunc {fn : Fn} {f c : Array Operand} : aopB ro P o K Q ⟨n, env, S, ds⟩ (.makeFunc fn f c) = K (St.put ⟨n, env, S, ds⟩ o.dst (funcOf fn (f.toList.map fun x => fz S (St.opnd ⟨n, env, S, ds⟩ x)) (c.toList.map fun x => St.opnd ⟨n, env, S, ds⟩ x))) := rfl
@[go_sem] theorem aopB_typeAssert {x : Operand} {xT t : TypeId} : aopB ro P o K Q ⟨n, env, S, ds⟩ (.typeAssert x xT t false) = aOpt (P.underlying t) fun u => isIfaceD u = false ∧ aOpt (unwrap t (St.opnd ⟨n, env, S, ds⟩ x)) fun v => K (St.put ⟨n, env, S, ds⟩ o.dst v) := rfl
@[go_sem] theorem aopB_slice {t : TypeId} {x : Operand} {lo hi : Option Operand} : aopB ro P o K Q ⟨n, env, S, ds⟩ (.slice t x lo hi none) = aSliceL ⟨n, env, S, ds⟩ (P.underlying t) (szA P) lo hi (AOp ro P o K Q ⟨n, env, S, ds⟩) (fz S (St.opnd ⟨n, env, S, ds⟩ x)) fun v => K (St.put ⟨n, env, S, ds⟩ o.dst v) := rfl
@[go_sem] theorem aopB_slice3 {t : TypeId} {x : Operand} {lo : Option Operand} {hi mx : Operand} : aopB ro P o K Q ⟨n, env, S, ds⟩ (.slice t x lo (some hi) (some mx)) = aSlice3 ⟨n, env, S, ds⟩ (P.underlying t) (szA P) lo hi mx (AOp ro P o K Q ⟨n, env, S, ds⟩) (fz S (St.opnd ⟨n, env, S, ds⟩ x)) fun v => K (St.put ⟨n, env, S, ds⟩ o.dst v) := rfl
@[go_sem] theorem aopB_panic {x : Operand} : aopB ro P o K Q ⟨n, env, S, ds⟩ (.panic x) = aPanic (AOp ro P o K Q ⟨n, env, S, ds⟩) (St.opnd ⟨n, env, S, ds⟩ x) fun v => Q (.panic [⟨v, false, false⟩]) ⟨n, env, S, ds⟩ := rfl
@[go_sem] theorem aopB_defer {f : Operand} {args : Array Operand} {tys : Array TypeId} : aopB ro P o K Q ⟨n, env, S, ds⟩ (.defer ⟨.value f, args, tys⟩) = aDefer ro o K ⟨n, env, S, ds⟩ args (AOp ro P o K Q ⟨n, env, S, ds⟩) (St.opnd ⟨n, env, S, ds⟩ f) := rfl
@[go_sem] theorem aDefer_lit {args : Array Operand} {d : Prop} {fn : Fn} {x y : Array Value} : aDefer ro o K ⟨n, env, S, ds⟩ args d (.lit (.func fn x y)) = (ro = none ∧ args = #[] ∧ K (St.put ⟨n, env, S, ⟨.fn fn y, x⟩ :: ds⟩ o.dst (.lit undef))) := rfl
@[go_sem] theorem aopB_max {x y : Operand} {ts : Array TypeId} : aopB ro P o K Q ⟨n, env, S, ds⟩ (.call ⟨.builtin .max, #[x, y], ts⟩) = aMax (AOp ro P o K Q ⟨n, env, S, ds⟩) (St.opnd ⟨n, env, S, ds⟩ x) (St.opnd ⟨n, env, S, ds⟩ y) fun v => K (St.put ⟨n, env, S, ds⟩ o.dst v) := rfl
@[go_sem] theorem aopB_min {x y : Operand} {ts : Array TypeId} : aopB ro P o K Q ⟨n, env, S, ds⟩ (.call ⟨.builtin .min, #[x, y], ts⟩) = aMin (AOp ro P o K Q ⟨n, env, S, ds⟩) (St.opnd ⟨n, env, S, ds⟩ x) (St.opnd ⟨n, env, S, ds⟩ y) fun v => K (St.put ⟨n, env, S, ds⟩ o.dst v) := rfl
@[go_sem] theorem aopT_max {x y : Operand} {ts : Array TypeId} : aopT P o K ⟨n, env, S, ds⟩ (.call ⟨.builtin .max, #[x, y], ts⟩) = aMax False (St.opnd ⟨n, env, S, ds⟩ x) (St.opnd ⟨n, env, S, ds⟩ y) fun v => K (St.put ⟨n, env, S, ds⟩ o.dst v) := rfl
@[go_sem] theorem aopT_min {x y : Operand} {ts : Array TypeId} : aopT P o K ⟨n, env, S, ds⟩ (.call ⟨.builtin .min, #[x, y], ts⟩) = aMin False (St.opnd ⟨n, env, S, ds⟩ x) (St.opnd ⟨n, env, S, ds⟩ y) fun v => K (St.put ⟨n, env, S, ds⟩ o.dst v) := rfl
@[go_sem] theorem aopB_makeSlice {t : TypeId} {x y : Operand} : aopB ro P o K Q ⟨n, env, S, ds⟩ (.makeSlice t x y) = aMake P ⟨n, env, S, ds⟩ (AOp ro P o K Q ⟨n, env, S, ds⟩) (P.underlying t) (St.opnd ⟨n, env, S, ds⟩ x) (St.opnd ⟨n, env, S, ds⟩ y) fun v S' => K (St.put ⟨n, env, S', ds⟩ o.dst v) := rfl
@[go_sem] theorem aopB_callV {f : Operand} {args : Array Operand} {tys : Array TypeId} : aopB ro P o K Q ⟨n, env, S, ds⟩ (.call ⟨.value f, args, tys⟩) = aCall ro P o K Q ⟨n, env, S, ds⟩ args (AOp ro P o K Q ⟨n, env, S, ds⟩) (calleeOf (St.opnd ⟨n, env, S, ds⟩ f)) := rfl
@[go_sem] theorem aopB_sdata {x : Operand} {ts : Array TypeId} : aopB ro P o K Q ⟨n, env, S, ds⟩ (.call ⟨.builtin .unsafeSliceData, #[x], ts⟩) = aSData (AOp ro P o K Q ⟨n, env, S, ds⟩) (St.opnd ⟨n, env, S, ds⟩ x) fun v => K (St.put ⟨n, env, S, ds⟩ o.dst v) := rfl
@[go_sem] theorem aopT_sdata {x : Operand} {ts : Array TypeId} : aopT P o K ⟨n, env, S, ds⟩ (.call ⟨.builtin .unsafeSliceData, #[x], ts⟩) = aSData False (St.opnd ⟨n, env, S, ds⟩ x) fun v => K (St.put ⟨n, env, S, ds⟩ o.dst v) := rfl
@[go_sem] theorem aSData_vs {d : Prop} {c : V → Prop} {k m m' : Nat} {a : Option Addr} : aSData d (.vs k a m m') c = ((a ≠ none → m' ≠ 0) ∧ c (.lit (.pointer a))) := rfl
@[go_sem] theorem aSData_nil {d : Prop} {c : V → Prop} {m m' : Nat} : aSData d (.lit (.slice none m m')) c = c (.lit (.pointer none)) := rfl
@[congr] theorem aSData_congr {d : Prop} {c : V → Prop} {v v' : V} (h : v = v') : aSData d v c = aSData d v' c := by rw [h]
@[go_sem] theorem aopB_len {x : Operand} {t : TypeId} : aopB ro P o K Q ⟨n, env, S, ds⟩ (.call ⟨.builtin .len, #[x], #[t]⟩) = aLen (P.underlying t) (AOp ro P o K Q ⟨n, env, S, ds⟩) (St.opnd ⟨n, env, S, ds⟩ x) fun v => K (St.put ⟨n, env, S, ds⟩ o.dst v) := rfl
@[go_sem] theorem aopB_append {x y : Operand} {t t2 : TypeId} : aopB ro P o K Q ⟨n, env, S, ds⟩ (.call ⟨.builtin .append, #[x, y], #[t, t2]⟩) = aAppendT P S (o.dst.getD 0) t t2 (AOp ro P o K Q ⟨n, env, S, ds⟩) (P.underlying t) (St.opnd ⟨n, env, S, ds⟩ x) (St.opnd ⟨n, env, S, ds⟩ y) fun v S' => K (St.put ⟨n, env, S', ds⟩ o.dst v) := rfl

@[go_sem] theorem aopT_move {x : Operand} : aopT P o K ⟨n, env, S, ds⟩ (.move x) = K (St.put ⟨n, env, S, ds⟩ o.dst (St.opnd ⟨n, env, S, ds⟩ x)) := rfl
@[go_sem] theorem aopT_assign {x : Operand} : aopT P o K ⟨n, env, S, ds⟩ (.assign x) = K (St.put ⟨n, env, S, ds⟩ o.dst (St.opnd ⟨n, env, S, ds⟩ x)) := rfl
@[go_sem] theorem aopT_pick {c x y : Operand} : aopT P o K ⟨n, env, S, ds⟩ (.pick c x y) = cPick K o.dst x y ⟨n, env, S, ds⟩ (St.opnd ⟨n, env, S, ds⟩ c) := rfl
@[go_sem] theorem aopT_nilCheck {x : Operand} : aopT P o K ⟨n, env, S, ds⟩ (.nilCheck x) = aNil False (St.opnd ⟨n, env, S, ds⟩ x) fun v => K (St.put ⟨n, env, S, ds⟩ o.dst v) := rfl
@[go_sem] theorem aopT_unOp {u : UnOp} {t : TypeId} {x : Operand} : aopT P o K ⟨n, env, S, ds⟩ (.unOp u t x) = aUn u False (St.opnd ⟨n, env, S, ds⟩ x) fun v => K (St.put ⟨n, env, S, ds⟩ o.dst (.lit v)) := rfl
@[go_sem] theorem aopT_binOp {u : BinOp} {t t' : TypeId} {x y : Operand} : aopT P o K ⟨n, env, S, ds⟩ (.binOp u t x y t') = aBinN P t u False y (P.underlying t) (St.opnd ⟨n, env, S, ds⟩ x) (St.opnd ⟨n, env, S, ds⟩ y) fun v => K (St.put ⟨n, env, S, ds⟩ o.dst (.lit v)) := rfl
@[go_sem] theorem aopT_convert {s t : TypeId} {x : Operand} : aopT P o K ⟨n, env, S, ds⟩ (.convert s t x) = aConvX P (P.underlying s) (P.underlying t) False false (fz S (St.opnd ⟨n, env, S, ds⟩ x)) fun v => K (St.put ⟨n, env, S, ds⟩ o.dst v) := rfl
@[go_sem] theorem aopT_extract {x : Operand} {ix : Nat} : aopT P o K ⟨n, env, S, ds⟩ (.extract x ix) = aExtract False ix (St.opnd ⟨n, env, S, ds⟩ x) fun v => K (St.put ⟨n, env, S, ds⟩ o.dst v) := rfl
@[go_sem] theorem aopT_field {t : TypeId} {x : Operand} {f : Nat} : aopT P o K ⟨n, env, S, ds⟩ (.field t x f) = aField P f False (P.underlying t) (St.opnd ⟨n, env, S, ds⟩ x) fun v => K (St.put ⟨n, env, S, ds⟩ o.dst v) := rfl
@[go_sem] theorem aopT_fieldAddr {t : TypeId} {x : Operand} {f : Nat} : aopT P o K ⟨n, env, S, ds⟩ (.fieldAddr t x f) = aFieldAddr P f False (P.underlying t) (St.opnd ⟨n, env, S, ds⟩ x) fun v => K (St.put ⟨n, env, S, ds⟩ o.dst v) := rfl
@[go_sem] theorem aopT_indexAddr {t : TypeId} {x ix : Operand} : aopT P o K ⟨n, env, S, ds⟩ (.indexAddr t x ix) = aIndexAddr S (P.underlying t) (szA P) False (St.opnd ⟨n, env, S, ds⟩ x) (St.opnd ⟨n, env, S, ds⟩ ix) fun v => K (St.put ⟨n, env, S, ds⟩ o.dst v) := rfl
@[go_sem] theorem aopT_index {t : TypeId} {x ix : Operand} : aopT P o K ⟨n, env, S, ds⟩ (.index t x ix) = aIndex P (P.underlying t) False (St.opnd ⟨n, env, S, ds⟩ x) (St.opnd ⟨n, env, S, ds⟩ ix) fun v => K (St.put ⟨n, env, S, ds⟩ o.dst v) := rfl
@[go_sem] theorem aopT_build {t : TypeId} {parts : Array (Nat × Operand)} : aopT P o K ⟨n, env, S, ds⟩ (.build t parts) = aBuild P t False (P.underlying t) (parts.toList.map fun p => (p.1, fz S (St.opnd ⟨n, env, S, ds⟩ p.2))) fun v => K (St.put ⟨n, env, S, ds⟩ o.dst v) := rfl
@[go_sem] theorem aopT_makeInterface {t : TypeId} {x : Operand} : aopT P o K ⟨n, env, S, ds⟩ (.makeInterface t x) = aOpt (P.underlying t) fun u => isIfaceD u = false ∧ K (St.put ⟨n, env, S, ds⟩ o.dst (ifaceOf t (fz S (St.opnd ⟨n, env, S, ds⟩ x)))) := rfl
@[go_sem] theorem aopT_makeFunc {fn : Fn} {f c : Array Operand} : aopT P o K ⟨n, env, S, ds⟩ (.makeFunc fn f c) = K (St.put ⟨n, env, S, ds⟩ o.dst (funcOf fn (f.toList.map fun x => fz S (St.opnd ⟨n, env, S, ds⟩ x)) (c.toList.map fun x => St.opnd ⟨n, env, S, ds⟩ x))) := rfl
@[go_sem] theorem aopT_typeAssert {x : Operand} {xT t : TypeId} : aopT P o K ⟨n, env, S, ds⟩ (.typeAssert x xT t false) = aOpt (P.underlying t) fun u => isIfaceD u = false ∧ aOpt (unwrap t (St.opnd ⟨n, env, S, ds⟩ x)) fun v => K (St.put ⟨n, env, S, ds⟩ o.dst v) := rfl
@[go_sem] theorem aopT_slice {t : TypeId} {x : Operand} {lo hi : Option Operand} : aopT P o K ⟨n, env, S, ds⟩ (.slice t x lo hi none) = aSliceL ⟨n, env, S, ds⟩ (P.underlying t) (szA P) lo hi False (fz S (St.opnd ⟨n, env, S, ds⟩ x)) fun v => K (St.put ⟨n, env, S, ds⟩ o.dst v) := rfl
@[go_sem] theorem aopT_slice3 {t : TypeId} {x : Operand} {lo : Option Operand} {hi mx : Operand} : aopT P o K ⟨n, env, S, ds⟩ (.slice t x lo (some hi) (some mx)) = aSlice3 ⟨n, env, S, ds⟩ (P.underlying t) (szA P) lo hi mx False (fz S (St.opnd ⟨n, env, S, ds⟩ x)) fun v => K (St.put ⟨n, env, S, ds⟩ o.dst v) := rfl
@[go_sem] theorem aopT_len {x : Operand} {t : TypeId} : aopT P o K ⟨n, env, S, ds⟩ (.call ⟨.builtin .len, #[x], #[t]⟩) = aLen (P.underlying t) False (St.opnd ⟨n, env, S, ds⟩ x) fun v => K (St.put ⟨n, env, S, ds⟩ o.dst v) := rfl
@[go_sem] theorem aopT_load {T : TypeId} {x : Operand} : aopT P o K ⟨n, env, S, ds⟩ (.load T x) = aLoadPe P T (St.opnd ⟨n, env, S, ds⟩ x) fun v => K (St.put ⟨n, env, S, ds⟩ o.dst v) := rfl
@[go_sem] theorem adr_done {l : Array Oper} : adr ro P l Q .done ⟨n, env, S, ds⟩ = Q .normal ⟨n, env, S, ds⟩ := rfl
@[go_sem] theorem adr_stop {l : Array Oper} : adr ro P l Q .stop ⟨n, env, S, ds⟩ = True := rfl
def tGuard (ro : Option Nat) (P : Program) (l : Array Oper) (Q : Exit → St → Prop) (p : DPlan) (o : Oper) (st : St) : Option (Nat × Bool) → Prop := dGuard l st o.dst (adr ro P l Q p) (dstOk st.n o.dst ∧ aopT P o (adr ro P l Q p) st o.op)
def tG (ro : Option Nat) (P : Program) (l : Array Oper) (Q : Exit → St → Prop) (p : DPlan) (o : Oper) (want : Bool) (st : St) (v : V) : Prop := aGuard v want (dstOk st.n o.dst ∧ aopT P o (adr ro P l Q p) st o.op) (dstOk st.n o.dst ∧ adr ro P l Q p (st.put o.dst (.lit undef)))
def sGuard (ro : Option Nat) (P : Program) (l : Array Oper) (Q : Exit → St → Prop) (p : DPlan) (o : Oper) (st : St) : Option (Nat × Bool) → Prop := dGuard l st o.dst (adr ro P l Q p) (aop ro P o (adr ro P l Q p) (dropQ l Q) st)
def sG (ro : Option Nat) (P : Program) (l : Array Oper) (Q : Exit → St → Prop) (p : DPlan) (o : Oper) (want : Bool) (st : St) (v : V) : Prop := aGuard v want (aop ro P o (adr ro P l Q p) (dropQ l Q) st) (dstOk st.n o.dst ∧ adr ro P l Q p (st.put o.dst (.lit undef)))
section
variable {l : Array Oper} {i j : Nat} {p p' : DPlan} {want : Bool}
@[go_sem] theorem adr_take : adr ro P l Q (.take i p) ⟨n, env, S, ds⟩ = aOpt l[i]? fun o => tGuard ro P l Q p o ⟨n, env, S, ds⟩ o.guard := rfl
@[go_sem] theorem adr_alt : adr ro P l Q (.alt i p p') ⟨n, env, S, ds⟩ = ((aOpt l[i]? fun o => sGuard ro P l Q p o ⟨n, env, S, ds⟩ o.guard) ∧ adr ro P l Q p' ⟨n, env, S, ds⟩) := rfl
@[go_sem] theorem tGuard_none : tGuard ro P l Q p o ⟨n, env, S, ds⟩ none = (dstOk n o.dst ∧ aopT P o (adr ro P l Q p) ⟨n, env, S, ds⟩ o.op) := rfl
@[go_sem] theorem tGuard_some : tGuard ro P l Q p o ⟨n, env, S, ds⟩ (some (j, want)) = aOpt ((l[j]?).bind (·.dst)) fun d => tG ro P l Q p o want ⟨n, env, S, ds⟩ (AW.get env d) := rfl
@[go_sem] theorem sGuard_none : sGuard ro P l Q p o ⟨n, env, S, ds⟩ none = aop ro P o (adr ro P l Q p) (dropQ l Q) ⟨n, env, S, ds⟩ := rfl
@[go_sem] theorem sGuard_some : sGuard ro P l Q p o ⟨n, env, S, ds⟩ (some (j, want)) = aOpt ((l[j]?).bind (·.dst)) fun d => sG ro P l Q p o want ⟨n, env, S, ds⟩ (AW.get env d) := rfl
@[go_sem] theorem tG_tt : tG ro P l Q p o true ⟨n, env, S, ds⟩ (.lit (.bool true)) = (dstOk n o.dst ∧ aopT P o (adr ro P l Q p) ⟨n, env, S, ds⟩ o.op) := rfl
@[go_sem] theorem tG_ff : tG ro P l Q p o false ⟨n, env, S, ds⟩ (.lit (.bool false)) = (dstOk n o.dst ∧ aopT P o (adr ro P l Q p) ⟨n, env, S, ds⟩ o.op) := rfl
@[go_sem] theorem tG_tf : tG ro P l Q p o false ⟨n, env, S, ds⟩ (.lit (.bool true)) = (dstOk n o.dst ∧ adr ro P l Q p (St.put ⟨n, env, S, ds⟩ o.dst (.lit undef))) := rfl
@[go_sem] theorem tG_ft : tG ro P l Q p o true ⟨n, env, S, ds⟩ (.lit (.bool false)) = (dstOk n o.dst ∧ adr ro P l Q p (St.put ⟨n, env, S, ds⟩ o.dst (.lit undef))) := rfl
@[go_sem] theorem tG_undef : tG ro P l Q p o want ⟨n, env, S, ds⟩ (.lit undef) = (dstOk n o.dst ∧ adr ro P l Q p (St.put ⟨n, env, S, ds⟩ o.dst (.lit undef))) := rfl
theorem tG_i {b : Bool} (h1 : b = true → tG ro P l Q p o want ⟨n, env, S, ds⟩ (.lit (.bool true))) (h2 : b = false → tG ro P l Q p o want ⟨n, env, S, ds⟩ (.lit (.bool false))) : tG ro P l Q p o want ⟨n, env, S, ds⟩ (.lit (.bool b)) := by cases b; exact h2 rfl; exact h1 rfl
@[go_sem] theorem sG_tt : sG ro P l Q p o true ⟨n, env, S, ds⟩ (.lit (.bool true)) = aop ro P o (adr ro P l Q p) (dropQ l Q) ⟨n, env, S, ds⟩ := rfl
@[go_sem] theorem sG_ff : sG ro P l Q p o false ⟨n, env, S, ds⟩ (.lit (.bool false)) = aop ro P o (adr ro P l Q p) (dropQ l Q) ⟨n, env, S, ds⟩ := rfl
@[go_sem] theorem sG_tf : sG ro P l Q p o false ⟨n, env, S, ds⟩ (.lit (.bool true)) = (dstOk n o.dst ∧ adr ro P l Q p (St.put ⟨n, env, S, ds⟩ o.dst (.lit undef))) := rfl
@[go_sem] theorem sG_ft : sG ro P l Q p o true ⟨n, env, S, ds⟩ (.lit (.bool false)) = (dstOk n o.dst ∧ adr ro P l Q p (St.put ⟨n, env, S, ds⟩ o.dst (.lit undef))) := rfl
@[go_sem] theorem sG_undef : sG ro P l Q p o want ⟨n, env, S, ds⟩ (.lit undef) = (dstOk n o.dst ∧ adr ro P l Q p (St.put ⟨n, env, S, ds⟩ o.dst (.lit undef))) := rfl
theorem sG_i {b : Bool} (h1 : b = true → sG ro P l Q p o want ⟨n, env, S, ds⟩ (.lit (.bool true))) (h2 : b = false → sG ro P l Q p o want ⟨n, env, S, ds⟩ (.lit (.bool false))) : sG ro P l Q p o want ⟨n, env, S, ds⟩ (.lit (.bool b)) := by cases b; exact h2 rfl; exact h1 rfl
end
@[go_sem] theorem dropQ_panic {l : Array Oper} {c : List PanicEntry} : dropQ l Q (.panic c) ⟨n, env, S, ds⟩ = Q (.panic c) ⟨n, dropE l.toList env, S, ds⟩ := rfl
@[go_sem] theorem dropE_nil {l : List Oper} : dropE l [] = [] := rfl
@[go_sem] theorem dropE_cons {l : List Oper} {k : Nat} {v : V} : dropE l ((k, v) :: env) = if hasDst l k = true then dropE l env else (k, v) :: dropE l env := rfl
@[go_sem] theorem hasDst_nil {k : Nat} : hasDst [] k = false := rfl
@[go_sem] theorem hasDst_some {l : List Oper} {k d : Nat} : hasDst (⟨some d, op, ty, pos, after, g⟩ :: l) k = (d == k || hasDst l k) := rfl
@[go_sem] theorem hasDst_none {l : List Oper} {k : Nat} : hasDst (⟨none, op, ty, pos, after, g⟩ :: l) k = hasDst l k := by simp [hasDst]
@[go_sem] theorem aLoadPe_pe {T : TypeId} {cs : List V} {c : V → Prop} : aLoadPe P T (.pe cs) c = aOpt (readAs P T cs) c := rfl

@[go_sem] theorem opnd_tmp {t : Nat} : St.opnd ⟨n, env, S, ds⟩ (.tmp t) = AW.get env t := rfl
@[go_sem] theorem opnd_const {v : Value} : St.opnd ⟨n, env, S, ds⟩ (.const v) = V.of v := rfl
@[go_sem] theorem opnd_func {f : Nat} : St.opnd ⟨n, env, S, ds⟩ (.func f) = .lit (.func (.func f) #[] #[]) := rfl
@[go_sem] theorem opnd_global {f : Nat} : St.opnd ⟨n, env, S, ds⟩ (.global f) = .lit (.pointer (some ⟨f, 0, none⟩)) := rfl
end

section
variable {a b d : Prop} {c : V → Prop} {cv : Value → Prop} {P : Program} {S : List Res}
@[go_sem] theorem of_int {k : IntKind} {i : Int} : V.of (.int k i) = .lit (.int k i) := rfl
@[go_sem] theorem of_bool {x : Bool} : V.of (.bool x) = .lit (.bool x) := rfl
@[go_sem] theorem of_string {x : ByteArray} : V.of (.string x) = .lit (.string x) := rfl
@[go_sem] theorem of_float {k : FloatKind} {x : Nat} : V.of (.float k x) = .lit (.float k x) := rfl
@[go_sem] theorem of_slice {x : Option Addr} {m n : Nat} : V.of (.slice x m n) = .lit (.slice x m n) := rfl
@[go_sem] theorem of_pointer {x : Option Addr} : V.of (.pointer x) = .lit (.pointer x) := rfl
@[go_sem] theorem of_map {x : Option Nat} : V.of (.map x) = .lit (.map x) := rfl
@[go_sem] theorem of_nilIface : V.of .nilIface = .lit .nilIface := rfl
@[go_sem] theorem of_nilFunc : V.of .nilFunc = .lit .nilFunc := rfl
@[go_sem] theorem of_func {f : Fn} {x y : Array Value} : V.of (.func f x y) = .lit (.func f x y) := rfl
@[go_sem] theorem of_iface {t : TypeId} {x : Value} : V.of (.iface t x) = .lit (.iface t x) := rfl
@[go_sem] theorem of_agg {xs : List Value} : V.of (.agg xs.toArray) = .agg (xs.map .lit) := by simp [V.of]
@[go_sem] theorem of_tuple {xs : List Value} : V.of (.tuple xs.toArray) = .tuple (xs.map .lit) := by simp [V.of]
@[go_sem] theorem cells_agg' {xs : List Value} : (Value.agg xs.toArray).cells.toList = xs := rfl
@[go_sem] theorem cells_int' {k : IntKind} {i : Int} : (Value.int k i).cells.toList = [.int k i] := rfl
@[go_sem] theorem cells_bool' {x : Bool} : (Value.bool x).cells.toList = [.bool x] := rfl
@[go_sem] theorem cells_string' {x : ByteArray} : (Value.string x).cells.toList = [.string x] := rfl
@[go_sem] theorem cells_slice' {x : Option Addr} {m n : Nat} : (Value.slice x m n).cells.toList = [.slice x m n] := rfl
@[go_sem] theorem cells_pointer' {x : Option Addr} : (Value.pointer x).cells.toList = [.pointer x] := rfl
@[go_sem] theorem cells_map' {x : Option Nat} : (Value.map x).cells.toList = [.map x] := rfl
@[go_sem] theorem cells_nilIface' : Value.nilIface.cells.toList = [.nilIface] := rfl
@[go_sem] theorem cells_nilFunc' : Value.nilFunc.cells.toList = [.nilFunc] := rfl
@[go_sem] theorem cells_float' {k : FloatKind} {x : Nat} : (Value.float k x).cells.toList = [.float k x] := rfl
@[go_sem] theorem vcells_agg {cs : List V} : V.cells (.agg cs) = cs := rfl
@[go_sem] theorem vcells_lit {x : Value} : V.cells (.lit x) = [.lit x] := rfl
@[go_sem] theorem vcells_sl {f : Bool} {n : Nat} {xs : List V} : V.cells (.sl f n xs) = [.sl f n xs] := rfl
@[go_sem] theorem vcells_vs {k n m : Nat} {x : Option Addr} : V.cells (.vs k x n m) = [.vs k x n m] := rfl
@[go_sem] theorem vcells_pe {cs : List V} : V.cells (.pe cs) = [.pe cs] := rfl
@[go_sem] theorem vcells_func {f : Fn} {x y : List V} : V.cells (.func f x y) = [.func f x y] := rfl
@[go_sem] theorem vcells_iface {t : TypeId} {x : V} : V.cells (.iface t x) = [.iface t x] := rfl
@[go_sem] theorem okv_agg {cs : List V} : V.okv (.agg cs) = cs.all V.one := rfl
@[go_sem] theorem okv_sl {f : Bool} {n : Nat} {xs : List V} : V.okv (.sl f n xs) = true := rfl
@[go_sem] theorem okv_vs {k n m : Nat} {x : Option Addr} : V.okv (.vs k x n m) = true := rfl
@[go_sem] theorem okv_pe {cs : List V} : V.okv (.pe cs) = true := rfl
@[go_sem] theorem okv_func {f : Fn} {x y : List V} : V.okv (.func f x y) = true := rfl
@[go_sem] theorem okv_iface {t : TypeId} {x : V} : V.okv (.iface t x) = true := rfl
@[go_sem] theorem okv_lit {x : Value} : V.okv (.lit x) = x.oneCell' := rfl
@[go_sem] theorem one_sl {f : Bool} {n : Nat} {xs : List V} : V.one (.sl f n xs) = true := rfl
@[go_sem] theorem one_vs {k n m : Nat} {x : Option Addr} : V.one (.vs k x n m) = true := rfl
@[go_sem] theorem one_pe {cs : List V} : V.one (.pe cs) = true := rfl
@[go_sem] theorem one_func {f : Fn} {x y : List V} : V.one (.func f x y) = true := rfl
@[go_sem] theorem one_iface {t : TypeId} {x : V} : V.one (.iface t x) = true := rfl
@[go_sem] theorem one_lit {x : Value} : V.one (.lit x) = x.oneCell' := rfl
attribute [go_sem] Value.oneCell'.eq_def
@[go_sem] theorem get_nil' {i : Nat} : AW.get [] i = .any := rfl
@[go_sem] theorem get_cons' {k i : Nat} {v : V} {e : List (Nat × V)} : AW.get ((k, v) :: e) i = if k = i then v else AW.get e i := rfl
@[go_sem] theorem params_nil {k : Nat} : params k [] = [] := rfl
@[go_sem] theorem params_cons {k : Nat} {v : V} {vs : List V} : params k (v :: vs) = (k, v) :: params (k + 1) vs := rfl
@[go_sem] theorem cellsAt_ptr {x o : Nat} : cellsAt S (.lit (.pointer (some ⟨x, o, none⟩))) = (findObj S x).map fun l => l.drop o := rfl
@[go_sem] theorem cellsAt_pe {cs : List V} : cellsAt S (.pe cs) = some cs := rfl
def readAs' : Option Bool → Option Nat → List V → Option V
  | some true, some n, cs => if n ≤ cs.length then some (.agg (cs.take n)) else none
  | some false, _, cs => cs.head?
  | _, _, _ => none
@[go_sem] theorem readAs_eq {t : TypeId} {cs : List V} : readAs P t cs = readAs' (aggA P t) (szA P t) cs := by unfold readAs readAs'; split <;> simp_all
@[go_sem] theorem readAs'_true {n : Nat} {cs : List V} : readAs' (some true) (some n) cs = if n ≤ cs.length then some (.agg (cs.take n)) else none := rfl
@[go_sem] theorem readAs'_false {n : Option Nat} {cs : List V} : readAs' (some false) n cs = cs.head? := rfl
@[go_sem] theorem findObj_obj {x y : Nat} {cs : List V} {tt : Option TypeId} : findObj (.objT x cs tt :: S) y = if x = y then some cs else findObj S y := rfl
@[go_sem] theorem findObj_vec {k y c z : Nat} {x : Option Addr} {xs : List V} : findObj (.vec k x c z xs :: S) y = findObj S y := rfl
@[go_sem] theorem findObj_raw {x y : Nat} {o : Obj} : findObj (.raw x o :: S) y = findObj S y := rfl
@[go_sem] theorem setObj_obj {x y : Nat} {cs cs' : List V} {tt : Option TypeId} : setObj (.objT x cs tt :: S) y cs' = if x = y then .objT x cs' tt :: S else .objT x cs tt :: setObj S y cs' := rfl
@[go_sem] theorem setObj_vec {k y c z : Nat} {x : Option Addr} {xs cs' : List V} : setObj (.vec k x c z xs :: S) y cs' = .vec k x c z xs :: setObj S y cs' := rfl
@[go_sem] theorem setObj_raw {x y : Nat} {o : Obj} {cs' : List V} : setObj (.raw x o :: S) y cs' = .raw x o :: setObj S y cs' := rfl
@[go_sem] theorem findVec_obj {x y : Nat} {cs : List V} {tt : Option TypeId} : findVec (.objT x cs tt :: S) y = findVec S y := rfl
@[go_sem] theorem findVec_vec {k y c z : Nat} {x : Option Addr} {xs : List V} : findVec (.vec k x c z xs :: S) y = if k = y then some (x, c, z, xs) else findVec S y := rfl
@[go_sem] theorem findVec_raw {x y : Nat} {o : Obj} : findVec (.raw x o :: S) y = findVec S y := rfl
@[go_sem] theorem setVec_obj {x y : Nat} {cs : List V} {r : Res} {tt : Option TypeId} : setVec (.objT x cs tt :: S) y r = .objT x cs tt :: setVec S y r := rfl
@[go_sem] theorem setVec_vec {k y c z : Nat} {x : Option Addr} {xs : List V} {r : Res} : setVec (.vec k x c z xs :: S) y r = if k = y then r :: S else .vec k x c z xs :: setVec S y r := rfl
@[go_sem] theorem setVec_raw {x y : Nat} {o : Obj} {r : Res} : setVec (.raw x o :: S) y r = .raw x o :: setVec S y r := rfl
@[go_sem] theorem splice_eq {cs vs : List V} {o : Nat} : splice cs o vs = cs.take o ++ vs ++ cs.drop (o + vs.length) := rfl
@[go_sem] theorem ptrAdd_ptr {x o n : Nat} : ptrAdd (.lit (.pointer (some ⟨x, o, none⟩))) n = some (.lit (.pointer (some ⟨x, o + n, none⟩))) := rfl
@[go_sem] theorem ptrAdd_pe {cs : List V} {n : Nat} : ptrAdd (.pe cs) n = some (.pe (cs.drop n)) := rfl
@[go_sem] theorem calleeOf_lit {f : Nat} {x y : List Value} : calleeOf (.lit (.func (.func f) x.toArray y.toArray)) = some (f, x.map .lit, y.map .lit) := rfl
@[go_sem] theorem calleeOf_yield {l : Nat} {x y : Array Value} : calleeOf (.lit (.func (.yield l) x y)) = none := rfl
@[go_sem] theorem calleeOf_func {f : Nat} {x y : List V} : calleeOf (.func (.func f) x y) = some (f, x, y) := rfl
@[go_sem] theorem fz_litv {x : Value} : fz S (.lit x) = .lit x := rfl
@[go_sem] theorem fz_sl {f : Bool} {n : Nat} {xs : List V} : fz S (.sl f n xs) = .sl f n xs := rfl
@[go_sem] theorem fz_pe {cs : List V} : fz S (.pe cs) = .pe cs := rfl
@[go_sem] theorem fz_func {f : Fn} {x y : List V} : fz S (.func f x y) = .func f x y := rfl
@[go_sem] theorem fz_iface {t : TypeId} {x : V} : fz S (.iface t x) = .iface t x := rfl
@[go_sem] theorem fz_agg {cs : List V} : fz S (.agg cs) = .agg (cs.map (fz1 S)) := rfl
@[go_sem] theorem fz_tuple {cs : List V} : fz S (.tuple cs) = .tuple (cs.map (fz1 S)) := rfl
@[go_sem] theorem fz1_lit {x : Value} : fz1 S (.lit x) = .lit x := rfl
@[go_sem] theorem fz1_sl {f : Bool} {n : Nat} {xs : List V} : fz1 S (.sl f n xs) = .sl f n xs := rfl
@[go_sem] theorem fz1_pe {cs : List V} : fz1 S (.pe cs) = .pe cs := rfl
@[go_sem] theorem fz1_func {f : Fn} {x y : List V} : fz1 S (.func f x y) = .func f x y := rfl
@[go_sem] theorem fz1_iface {t : TypeId} {x : V} : fz1 S (.iface t x) = .iface t x := rfl
@[go_sem] theorem fz1_agg {cs : List V} : fz1 S (.agg cs) = .agg cs := rfl
def fzV (k : Nat) (a : Option Addr) (n cap : Nat) : Option (Option Addr × Nat × Nat × List V) → V
  | some (a', cap', sz, xs) => if a' = a ∧ cap' = cap ∧ xs.length = n then .sl false sz xs else .vs k a n cap
  | none => .vs k a n cap
@[go_sem] theorem fz_vs {k n m : Nat} {x : Option Addr} : fz S (.vs k x n m) = fzV k x n m (findVec S k) := rfl
@[go_sem] theorem fz1_vs {k n m : Nat} {x : Option Addr} : fz1 S (.vs k x n m) = fzV k x n m (findVec S k) := rfl
@[go_sem] theorem fzV_some {k n m m' z : Nat} {x x' : Option Addr} {xs : List V} : fzV k x n m (some (x', m', z, xs)) = if x' = x ∧ m' = m ∧ xs.length = n then .sl false z xs else .vs k x n m := rfl
@[go_sem] theorem srcOf_sl {z z' : Nat} {f : Bool} {xs : List V} : srcOf S z (.sl f z' xs) = if z' = z then some xs else none := rfl
@[go_sem] theorem srcOf_nil {z : Nat} : srcOf S z (.lit (.slice none 0 0)) = some [] := rfl
@[go_sem] theorem srcOf_str {z : Nat} {s : ByteArray} : srcOf S z (.lit (.string s)) = if z = 1 then some (s.data.toList.map fun c => .lit (.int .u8 c.toNat)) else none := rfl
def srcV (z : Nat) (a : Option Addr) (n cap : Nat) : Option (Option Addr × Nat × Nat × List V) → Option (List V)
  | some (a', cap', sz', xs) => if a' = a ∧ cap' = cap ∧ xs.length = n ∧ sz' = z then some xs else none
  | none => none
@[go_sem] theorem srcOf_vs {z k n m : Nat} {x : Option Addr} : srcOf S z (.vs k x n m) = srcV z x n m (findVec S k) := rfl
@[go_sem] theorem srcV_some {k n m m' z z' : Nat} {x x' : Option Addr} {xs : List V} : srcV z x n m (some (x', m', z', xs)) = if x' = x ∧ m' = m ∧ xs.length = n ∧ z' = z then some xs else none := rfl
@[go_sem] theorem exacts_nil : exacts [] = some [] := rfl
def consO : Option Value → Option (List Value) → Option (List Value)
  | some x, some xs => some (x :: xs)
  | _, _ => none
@[go_sem] theorem exacts_cons {v : V} {vs : List V} : exacts (v :: vs) = consO (exact1 v) (exacts vs) := by
  simp only [exacts, consO]; split <;> simp_all
@[go_sem] theorem consO_some {x : Value} {xs : List Value} : consO (some x) (some xs) = some (x :: xs) := rfl
@[go_sem] theorem consO_none {xs : Option (List Value)} : consO none xs = none := rfl
@[go_sem] theorem consO_none' {x : Option Value} : consO x none = none := by cases x <;> rfl
@[go_sem] theorem exact1_lit {x : Value} : exact1 (.lit x) = some x := rfl
@[go_sem] theorem exact1_sl {f : Bool} {n : Nat} {xs : List V} : exact1 (.sl f n xs) = none := rfl
@[go_sem] theorem exact1_vs {k n m : Nat} {x : Option Addr} : exact1 (.vs k x n m) = none := rfl
@[go_sem] theorem exact1_pe {cs : List V} : exact1 (.pe cs) = none := rfl
@[go_sem] theorem exact1_func {f : Fn} {x y : List V} : exact1 (.func f x y) = none := rfl
@[go_sem] theorem exact1_iface {t : TypeId} {x : V} : exact1 (.iface t x) = none := rfl
@[go_sem] theorem exact1_agg {cs : List V} : exact1 (.agg cs) = none := rfl
@[go_sem] theorem exact_lit {x : Value} : exact (.lit x) = some x := rfl
@[go_sem] theorem exact_agg {cs : List V} : exact (.agg cs) = (exacts cs).map fun xs => .agg xs.toArray := rfl
@[go_sem] theorem exact_sl {f : Bool} {n : Nat} {xs : List V} : exact (.sl f n xs) = none := rfl
@[go_sem] theorem exact_func {f : Fn} {x y : List V} : exact (.func f x y) = none := rfl
def ifV (t : TypeId) (v : V) : Option Value → V
  | some x => .lit (.iface t x)
  | none => .iface t v
@[go_sem] theorem ifaceOf_eq {t : TypeId} {v : V} : ifaceOf t v = ifV t v (exact v) := by unfold ifaceOf ifV; split <;> simp_all
@[go_sem] theorem ifV_some {t : TypeId} {v : V} {x : Value} : ifV t v (some x) = .lit (.iface t x) := rfl
@[go_sem] theorem ifV_none {t : TypeId} {v : V} : ifV t v none = .iface t v := rfl
def fnV (fn : Fn) (f c : List V) : Option (List Value) → Option (List Value) → V
  | some f', some c' => .lit (.func fn f'.toArray c'.toArray)
  | _, _ => .func fn f c
@[go_sem] theorem funcOf_eq {fn : Fn} {f c : List V} : funcOf fn f c = fnV fn f c (exacts f) (exacts c) := by unfold funcOf fnV; split <;> simp_all
@[go_sem] theorem fnV_some {fn : Fn} {f c : List V} {x y : List Value} : fnV fn f c (some x) (some y) = .lit (.func fn x.toArray y.toArray) := rfl
@[go_sem] theorem fnV_none {fn : Fn} {f c : List V} {y : Option (List Value)} : fnV fn f c none y = .func fn f c := rfl
@[go_sem] theorem fnV_none' {fn : Fn} {f c : List V} {y : Option (List Value)} : fnV fn f c y none = .func fn f c := by cases y <;> rfl
@[go_sem] theorem unwrap_lit {t t' : TypeId} {x : Value} : unwrap t (.lit (.iface t' x)) = if t' = t then some (V.of x) else none := rfl
@[go_sem] theorem unwrap_iface {t t' : TypeId} {x : V} : unwrap t (.iface t' x) = if t' = t then some x else none := rfl
attribute [go_sem] isIfaceD
@[go_sem] theorem partsOk_eq' {len : Nat} {parts : List (Nat × Operand)} : partsOk len parts = (parts.map (·.1) == List.range len) := rfl
@[go_sem] theorem fillV_nil {pl : Nat → Option (Nat × Nat)} {cs : List V} : fillV pl cs [] = some cs := rfl
def fillAt (pl : Nat → Option (Nat × Nat)) (cells : List V) (v : V) (rest : List (Nat × V)) : Option (Nat × Nat) → Option (List V)
  | none => none
  | some (off, size) => if v.cells.length = size ∧ off + v.cells.length ≤ cells.length ∧ v.okv = true then fillV pl (splice cells off v.cells) rest else none
@[go_sem] theorem fillV_cons {pl : Nat → Option (Nat × Nat)} {cs : List V} {i : Nat} {v : V} {rest : List (Nat × V)} : fillV pl cs ((i, v) :: rest) = fillAt pl cs v rest (pl i) := by
  simp only [fillV, fillAt]; split <;> simp_all
@[go_sem] theorem fillAt_some {pl : Nat → Option (Nat × Nat)} {cs : List V} {v : V} {rest : List (Nat × V)} {off size : Nat} : fillAt pl cs v rest (some (off, size)) = if v.cells.length = size ∧ off + v.cells.length ≤ cs.length ∧ v.okv = true then fillV pl (splice cs off v.cells) rest else none := rfl
@[go_sem] theorem placesOf_nil : placesOf P [] = some [] := rfl
def consP (o : Nat) : Option Nat → Option (List (Nat × Nat)) → Option (List (Nat × Nat))
  | some n, some ps => some ((o, n) :: ps)
  | _, _ => none
@[go_sem] theorem placesOf_cons {f : Field} {fs : List Field} : placesOf P (f :: fs) = consP f.offset (szA P f.type) (placesOf P fs) := by simp only [placesOf, consP]; split <;> simp_all
@[go_sem] theorem consP_some {o n : Nat} {ps : List (Nat × Nat)} : consP o (some n) (some ps) = some ((o, n) :: ps) := rfl
def resOf' : Option (List V) → Option V
  | some [v] => some v
  | some vs => some (.tuple vs)
  | none => none
@[go_sem] theorem resOf_eq {fn : Func} {st : St} : resOf P fn st = resOf' (resVs P st fn.results.toList) := by unfold resOf resOf'; split <;> simp_all
@[go_sem] theorem resOf'_one {v : V} : resOf' (some [v]) = some v := rfl
@[go_sem] theorem resOf'_nil : resOf' (some []) = some (.tuple []) := rfl
@[go_sem] theorem resOf'_two {v w : V} {r : List V} : resOf' (some (v :: w :: r)) = some (.tuple (v :: w :: r)) := rfl
@[go_sem] theorem resVs_nil {st : St} : resVs P st [] = some [] := rfl
def consR : Option V → Option (List V) → Option (List V)
  | some v, some vs => some (v :: vs)
  | _, _ => none
@[go_sem] theorem resVs_cons {st : St} {r : ResultVar} {rs : List ResultVar} : resVs P st (r :: rs) = consR (resV P st r) (resVs P st rs) := by simp only [resVs, consR]; split <;> simp_all
@[go_sem] theorem consR_some {v : V} {vs : List V} : consR (some v) (some vs) = some (v :: vs) := rfl
@[go_sem] theorem resV_tmp {n t : Nat} {env : List (Nat × V)} {ds : List Deferred} : resV P ⟨n, env, S, ds⟩ (.tmp t) = some (AW.get env t) := rfl
@[go_sem] theorem resV_cell {n t x : Nat} {env : List (Nat × V)} {ds : List Deferred} : resV P ⟨n, env, S, ds⟩ (.cell x t) = (cellsAt S (AW.get env x)).bind (readAs P t) := rfl
@[go_sem] theorem boundOf_none {st : St} {n : Nat} : boundOf st n none = some (n : Int) := rfl
def litI : V → Option Int
  | .lit (.int _ i) => some i
  | _ => none
@[go_sem] theorem boundOf_some {st : St} {n : Nat} {x : Operand} : boundOf st n (some x) = litI (st.opnd x) := by simp only [boundOf, litI]; split <;> simp_all
@[go_sem] theorem litI_int {k : IntKind} {i : Int} : litI (.lit (.int k i)) = some i := rfl

@[go_sem] theorem aCond_t : aCond (.lit (.bool true)) a b = a := rfl
@[go_sem] theorem aCond_f : aCond (.lit (.bool false)) a b = b := rfl
theorem aCond_i {x : Bool} (h1 : x = true → a) (h2 : x = false → b) : aCond (.lit (.bool x)) a b := by cases x; exact h2 rfl; exact h1 rfl
@[go_sem] theorem aGuard_tt : aGuard (.lit (.bool true)) true a b = a := rfl
@[go_sem] theorem aGuard_tf : aGuard (.lit (.bool true)) false a b = b := rfl
@[go_sem] theorem aGuard_ft : aGuard (.lit (.bool false)) true a b = b := rfl
@[go_sem] theorem aGuard_ff : aGuard (.lit (.bool false)) false a b = a := rfl
theorem aGuard_it {x : Bool} (h1 : x = true → a) (h2 : x = false → b) : aGuard (.lit (.bool x)) true a b := by cases x; exact h2 rfl; exact h1 rfl
theorem aGuard_if {x : Bool} (h1 : x = true → b) (h2 : x = false → a) : aGuard (.lit (.bool x)) false a b := by cases x; exact h2 rfl; exact h1 rfl
@[go_sem] theorem aGuard_tuple {xs : Array Value} {w : Bool} : aGuard (.lit (.tuple xs)) w a b = b := rfl
@[go_sem] theorem aGuard_undef {w : Bool} : aGuard (.lit undef) w a b = b := rfl
@[go_sem] theorem aPick_t : aPick (.lit (.bool true)) a b = a := rfl
@[go_sem] theorem aPick_f : aPick (.lit (.bool false)) a b = b := rfl
theorem aPick_i {x : Bool} (h1 : x = true → a) (h2 : x = false → b) : aPick (.lit (.bool x)) a b := by cases x; exact h2 rfl; exact h1 rfl
@[go_sem] theorem aOpt_some' {α : Type} {x : α} {f : α → Prop} : aOpt (some x) f = f x := rfl
@[go_sem] theorem aOpt_none' {α : Type} {f : α → Prop} : aOpt none f = False := rfl
@[go_sem] theorem aNil_ptr {x : Addr} : aNil d (.lit (.pointer (some x))) c = c (.lit (.pointer (some x))) := rfl
@[go_sem] theorem aNil_pe {cs : List V} : aNil d (.pe cs) c = c (.pe cs) := rfl
@[go_sem] theorem aUn_not {x : Bool} : aUn .not d (.lit (.bool x)) cv = cv (.bool !x) := rfl
@[go_sem] theorem aUn_neg {k : IntKind} {i : Int} : aUn .neg d (.lit (.int k i)) cv = cv (.int k (k.wrap (0 - i))) := rfl
section
variable {t : TypeId} {k k' : IntKind} {x y : Int}
section
variable {t : TypeId} {op : BinOp} {u : Option TypeDesc} {vx vy : V} {k : Nat}
@[go_sem] theorem aBinN_tmp : aBinN P t op d (.tmp k) u vx vy cv = aBinG P t op d u vx vy cv := rfl
@[go_sem] theorem aBinN_int {i : IntKind} {n : Int} : aBinN P t op d (.const (.int i n)) u vx vy cv = aBinG P t op d u vx vy cv := rfl
@[go_sem] theorem aBinN_bool {x : Bool} : aBinN P t op d (.const (.bool x)) u vx vy cv = aBinG P t op d u vx vy cv := rfl
@[go_sem] theorem aBinN_string {x : ByteArray} : aBinN P t op d (.const (.string x)) u vx vy cv = aBinG P t op d u vx vy cv := rfl
@[go_sem] theorem aBinN_slice {x : Option Addr} {m n : Nat} : aBinN P t op d (.const (.slice x m n)) u vx vy cv = aBinG P t op d u vx vy cv := rfl
@[go_sem] theorem aBinN_pointer {x : Option Addr} : aBinN P t op d (.const (.pointer x)) u vx vy cv = aBinG P t op d u vx vy cv := rfl
@[go_sem] theorem aBinN_nilE {ms : _} : aBinN P t .eql d (.const .nilIface) (some (.interface ms)) vx vy cv = aOpt (nilB vx) fun b => cv (.bool b) := rfl
@[go_sem] theorem aBinN_nilN {ms : _} : aBinN P t .neq d (.const .nilIface) (some (.interface ms)) vx vy cv = aOpt (nilB vx) fun b => cv (.bool !b) := rfl
@[go_sem] theorem aBinG_lit {x : Value} : aBinG P t op d u (.lit x) vy cv = aBin P t op d (.lit x) vy cv := by cases vy <;> rfl
@[go_sem] theorem aBinG_agg {xs ys : List V} : aBinG P t op d u (.agg xs) (.agg ys) cv = aBinA P t op xs ys u cv := rfl
@[go_sem] theorem aBinA_eql {xs ys : List V} {fs : Array Field} : aBinA P t .eql xs ys (some (.struct fs)) cv = (P.stoodInHeld t = false ∧ P.eqGuardType P.depth t = false ∧ aOpt (eqFieldsV P fs.toList xs ys) fun r => cv (.bool r)) := rfl
@[go_sem] theorem aBinA_neq {xs ys : List V} {fs : Array Field} : aBinA P t .neq xs ys (some (.struct fs)) cv = (P.stoodInHeld t = false ∧ P.eqGuardType P.depth t = false ∧ aOpt (eqFieldsV P fs.toList xs ys) fun r => cv (.bool !r)) := rfl
@[go_sem] theorem nilB_nil : nilB (.lit .nilIface) = some true := rfl
@[go_sem] theorem nilB_lit {T : TypeId} {x : Value} : nilB (.lit (.iface T x)) = some false := rfl
@[go_sem] theorem nilB_iface {T : TypeId} {x : V} : nilB (.iface T x) = some false := rfl
attribute [go_sem] eqFieldsV eqLit litOf
@[go_sem] theorem aConvX_int {a : TypeDesc} {mk : Bool} {k' k : IntKind} {x : Int} : aConvX P (some a) (some (.int k)) d mk (.lit (.int k' x)) c = c (.lit (.int k (k.wrap x))) := rfl
@[go_sem] theorem aConvX_strS {a : TypeDesc} {mk : Bool} {s : ByteArray} : aConvX P (some a) (some .string) d mk (.lit (.string s)) c = c (.lit (.string s)) := rfl
@[go_sem] theorem aConvX_strB {a : TypeDesc} {mk : Bool} {s : ByteArray} {e : TypeId} : aConvX P (some a) (some (.slice e)) d mk (.lit (.string s)) c = (mk = true ∧ P.underlying e = some (.int .u8) ∧ s.size ≤ 4294967296 ∧ c (.sl false 1 (bytesV s))) := rfl
@[go_sem] theorem aConvX_sl {e : TypeId} {mk full : Bool} {z : Nat} {xs : List V} : aConvX P (some (.slice e)) (some .string) d mk (.sl full z xs) c = (z = 1 ∧ P.underlying e = some (.int .u8) ∧ ∃ s, xs = bytesV s ∧ c (.lit (.string s))) := rfl
@[go_sem] theorem aMax_int {i j : IntKind} {x y : Int} : aMax d (.lit (.int i x)) (.lit (.int j y)) c = c (.lit (.int i (if y > x then y else x))) := rfl
@[go_sem] theorem aMin_int {i j : IntKind} {x y : Int} : aMin d (.lit (.int i x)) (.lit (.int j y)) c = c (.lit (.int i (if y < x then y else x))) := rfl
end
@[go_sem] theorem aBin_add : aBin P t .add d (.lit (.int k x)) (.lit (.int k y)) cv = cv (.int k (k.wrap (x + y))) := by simp [aBin, aBinI]
@[go_sem] theorem aBin_sub : aBin P t .sub d (.lit (.int k x)) (.lit (.int k y)) cv = cv (.int k (k.wrap (x - y))) := by simp [aBin, aBinI]
@[go_sem] theorem aBin_mul : aBin P t .mul d (.lit (.int k x)) (.lit (.int k y)) cv = cv (.int k (k.wrap (x * y))) := by simp [aBin, aBinI]
@[go_sem] theorem aBin_quo : aBin P t .quo d (.lit (.int k x)) (.lit (.int k y)) cv = (y ≠ 0 ∧ cv (.int k (k.wrap (x.tdiv y)))) := by simp [aBin, aBinI]
@[go_sem] theorem aBin_rem : aBin P t .rem d (.lit (.int k x)) (.lit (.int k y)) cv = (y ≠ 0 ∧ cv (.int k (x.tmod y))) := by simp [aBin, aBinI]
@[go_sem] theorem aBin_and : aBin P t .and d (.lit (.int k x)) (.lit (.int k y)) cv = cv (.int k (bits .and k x y)) := by simp [aBin, aBinI, bits]
@[go_sem] theorem aBin_or : aBin P t .or d (.lit (.int k x)) (.lit (.int k y)) cv = cv (.int k (bits .or k x y)) := by simp [aBin, aBinI, bits]
@[go_sem] theorem aBin_xor : aBin P t .xor d (.lit (.int k x)) (.lit (.int k y)) cv = cv (.int k (bits .xor k x y)) := by simp [aBin, aBinI, bits]
@[go_sem] theorem aBin_shl : aBin P t .shl d (.lit (.int k x)) (.lit (.int k' y)) cv = (0 ≤ y ∧ cv (.int k (k.wrap (x * 2 ^ min y.toNat k.bits)))) := rfl
@[go_sem] theorem aBin_shr : aBin P t .shr d (.lit (.int k x)) (.lit (.int k' y)) cv = (0 ≤ y ∧ cv (.int k (x.fdiv (2 ^ min y.toNat k.bits)))) := rfl
@[go_sem] theorem aBin_eql : aBin P t .eql d (.lit (.int k x)) (.lit (.int k y)) cv = cv (.bool (x == y)) := by simp [aBin, aBinI]
@[go_sem] theorem aBin_neq : aBin P t .neq d (.lit (.int k x)) (.lit (.int k y)) cv = cv (.bool (x != y)) := by simp [aBin, aBinI]
@[go_sem] theorem aBin_lss : aBin P t .lss d (.lit (.int k x)) (.lit (.int k y)) cv = cv (.bool (decide (x < y))) := by simp [aBin, aBinI]
@[go_sem] theorem aBin_leq : aBin P t .leq d (.lit (.int k x)) (.lit (.int k y)) cv = cv (.bool (decide (x ≤ y))) := by simp [aBin, aBinI]
@[go_sem] theorem aBin_gtr : aBin P t .gtr d (.lit (.int k x)) (.lit (.int k y)) cv = cv (.bool (decide (y < x))) := by simp [aBin, aBinI]
@[go_sem] theorem aBin_geq : aBin P t .geq d (.lit (.int k x)) (.lit (.int k y)) cv = cv (.bool (decide (y ≤ x))) := by simp [aBin, aBinI]
@[go_sem] theorem aBin_str {op : BinOp} {x y : ByteArray} : aBin P t op d (.lit (.string x)) (.lit (.string y)) cv = aBinS op x y cv := rfl
@[go_sem] theorem aBin_bool {op : BinOp} {x y : Bool} : aBin P t op d (.lit (.bool x)) (.lit (.bool y)) cv = aBinB P t op x y cv := rfl
attribute [go_sem] aBinS aBinB
end
@[go_sem] theorem aBox_eq {v : V} : aBox v c = (v.okv = true ∧ c v) := rfl
@[go_sem] theorem aStore_ptr {x o : Nat} {v : V} {z : Option Nat} {f : List Res → Prop} : aStore S d (.lit (.pointer (some ⟨x, o, none⟩))) v z f = aOpt (findObj S x) fun cs => v.okv = true ∧ z = some v.cells.length ∧ o + v.cells.length ≤ cs.length ∧ f (setObj S x (splice cs o v.cells)) := rfl
@[go_sem] theorem aConv_int {u : TypeDesc} {k k' : IntKind} {i : Int} : aConv (some u) (some (.int k)) d (.lit (.int k' i)) c = c (.lit (.int k (k.wrap i))) := rfl
@[go_sem] theorem aConv_str {u : TypeDesc} {s : ByteArray} : aConv (some u) (some .string) d (.lit (.string s)) c = c (.lit (.string s)) := rfl
@[go_sem] theorem aExtract_tuple {ix : Nat} {vs : List V} : aExtract d ix (.tuple vs) c = aOpt vs[ix]? c := rfl
@[go_sem] theorem aField_agg {f : Nat} {fs : Array Field} {cs : List V} : aField P f d (some (.struct fs)) (.agg cs) c = aOpt fs[f]? fun fl => aOpt (readAs P fl.type (cs.drop fl.offset)) c := rfl
@[go_sem] theorem aFieldAddr_eq {f : Nat} {fs : Array Field} {v : V} : aFieldAddr P f d (some (.struct fs)) v c = aOpt fs[f]? fun fl => (aOpt (szA P fl.type) fun n => n ≠ 0) ∧ aOpt (ptrAdd v fl.offset) c := rfl
@[go_sem] theorem aIndexAddr_sl {e : TypeId} {f : TypeId → Option Nat} {full : Bool} {z : Nat} {xs : List V} {k : IntKind} {i : Int} : aIndexAddr S (some (.slice e)) f d (.sl full z xs) (.lit (.int k i)) c =
    (f e = some z ∧ 0 ≤ i ∧ i < xs.length ∧ ∀ v, xs[i.toNat]? = some v → c (.pe v.cells)) := rfl
def ixV (n : Nat) (a : Option Addr) (cap : Nat) (z : Option Nat) (i : Int) (c : V → Prop) : Option (Option Addr × Nat × Nat × List V) → Prop
  | some (a', cap', sz, xs) => a' = a ∧ cap' = cap ∧ n = xs.length ∧ z = some sz ∧ 0 ≤ i ∧ i < xs.length ∧ ∀ v, xs[i.toNat]? = some v → c (.pe v.cells)
  | none => False
theorem aIndexAddr_vs' {e : TypeId} {f : TypeId → Option Nat} {k n m z : Nat} {x x' : Option Addr} {m' : Nat} {xs : List V} {k' : IntKind} {i : Int} (h : findVec S k = some (x', m', z, xs)) : aIndexAddr S (some (.slice e)) f d (.vs k x n m) (.lit (.int k' i)) c =
    (x' = x ∧ m' = m ∧ n = xs.length ∧ f e = some z ∧ 0 ≤ i ∧ i < xs.length ∧ ∀ v, xs[i.toNat]? = some v → c (.pe v.cells)) := by simp [aIndexAddr, h]
@[go_sem] theorem aIndex_str {s : ByteArray} {k : IntKind} {i : Int} {u : Option TypeDesc} : aIndex P u d (.lit (.string s)) (.lit (.int k i)) c = (u = some .string ∧ 0 ≤ i ∧ i < s.size ∧ ∀ x : UInt8, s[i.toNat]? = some x → c (.lit (.int .u8 x.toNat))) := rfl
@[go_sem] theorem aIndex_agg {n : Nat} {e : TypeId} {cs : List V} {k : IntKind} {i : Int} : aIndex P (some (.array n e)) d (.agg cs) (.lit (.int k i)) c = aOpt (szA P e) fun sz => 0 ≤ i ∧ i < n ∧ aOpt (readAs P e (cs.drop (i.toNat * sz))) c := rfl
@[go_sem] theorem aIndexAddr_pe {n : Nat} {e : TypeId} {f : TypeId → Option Nat} {cs : List V} {k : IntKind} {i : Int} : aIndexAddr S (some (.array n e)) f d (.pe cs) (.lit (.int k i)) c = aOpt (f e) fun sz => 0 ≤ i ∧ i < n ∧ c (.pe (cs.drop (i.toNat * sz))) := rfl
@[go_sem] theorem aIndexAddr_lit {x o len cap : Nat} {e : TypeId} {f : TypeId → Option Nat} {k : IntKind} {i : Int} : aIndexAddr S (some (.slice e)) f d (.lit (.slice (some ⟨x, o, none⟩) len cap)) (.lit (.int k i)) c = aOpt (f e) fun sz => 0 ≤ i ∧ i < len ∧ c (.lit (.pointer (some ⟨x, o + i.toNat * sz, none⟩))) := rfl
@[go_sem] theorem aBuild_arr {t e : TypeId} {n : Nat} {ps : List (Nat × V)} : aBuild P t d (some (.array n e)) ps c = aOpt (zeroA P t) fun z => aOpt (szA P e) fun sz => aOpt (fillV (fun i => some (i * sz, sz)) (z.cells.toList.map .lit) ps) fun cs => c (.agg cs) := rfl
@[go_sem] theorem aLen_sl {e : TypeId} {f : Bool} {z : Nat} {xs : List V} : aLen (some (.slice e)) d (.sl f z xs) c = c (.lit (.int .i64 xs.length)) := rfl
@[go_sem] theorem aLen_vs {e : TypeId} {k n m : Nat} {x : Option Addr} : aLen (some (.slice e)) d (.vs k x n m) c = c (.lit (.int .i64 n)) := rfl
@[go_sem] theorem aLen_slice {e : TypeId} {n m : Nat} {x : Option Addr} : aLen (some (.slice e)) d (.lit (.slice x n m)) c = c (.lit (.int .i64 n)) := rfl
@[go_sem] theorem aLen_str {s : ByteArray} : aLen (some .string) d (.lit (.string s)) c = c (.lit (.int .i64 s.size)) := rfl
section
variable {key : Nat} {t t2 e : TypeId} {z : Nat} {f : V → List Res → Prop} {y : V}
@[go_sem] theorem aAppendT_eq {x : V} : aAppendT P S key t t2 d (some (.slice e)) x y f = aOpt (szA P e) fun z => aAppend P S key t t2 e z d x y f := rfl
@[go_sem] theorem aAppend_nil : aAppend P S key t t2 e z d (.lit (.slice none 0 0)) y f = (AppOk P t t2 e z ∧ key < 100000 ∧ aOpt (srcOf S z y) fun ys => ys.length ≤ 4294967296 ∧ ∀ a'' cap'', f (.vs key a'' ys.length cap'') (.vec key a'' cap'' z ys :: S)) := rfl
@[go_sem] theorem aAppend_full {xs : List V} {z' : Nat} : aAppend P S key t t2 e z d (.sl true z' xs) y f = (z' = z ∧ AppOk P t t2 e z ∧ key < 100000 ∧ aOpt (srcOf S z y) fun ys => xs.length + ys.length ≤ 4294967296 ∧ ∀ a'' cap'', f (.vs key a'' (xs.length + ys.length) cap'') (.vec key a'' cap'' z (xs ++ ys) :: S)) := rfl
def appV (P : Program) (S : List Res) (t t2 e : TypeId) (sz k : Nat) (a : Option Addr) (n cap : Nat) (dflt : Prop) (y : V) (c : V → List Res → Prop) : Option (Option Addr × Nat × Nat × List V) → Prop
  | some (a', cap', sz', xs) => a' = a ∧ cap' = cap ∧ sz' = sz ∧ xs.length = n ∧ AppOk P t t2 e sz ∧ (k < 100000 ∨ e = k % 100000) ∧ aOpt (srcOf S sz y) fun ys => xs.length + ys.length ≤ 4294967296 ∧
        ∀ a'' cap'', c (.vs k a'' (xs.length + ys.length) cap'') (setVec S k (.vec k a'' cap'' sz (xs ++ ys)))
  | none => dflt
@[go_sem] theorem aAppend_vs {k n m : Nat} {x : Option Addr} : aAppend P S key t t2 e z d (.vs k x n m) y f = appV P S t t2 e z k x n m d y f (findVec S k) := by
  simp only [aAppend, appV]; split <;> simp_all
@[congr] theorem appV_congr {k n m : Nat} {x : Option Addr} {o o' : Option (Option Addr × Nat × Nat × List V)} (h : o = o') : appV P S t t2 e z k x n m d y f o = appV P S t t2 e z k x n m d y f o' := by rw [h]
@[go_sem] theorem appV_some {k n m m' z' : Nat} {x x' : Option Addr} {xs : List V} : appV P S t t2 e z k x n m d y f (some (x', m', z', xs)) =
    (x' = x ∧ m' = m ∧ z' = z ∧ xs.length = n ∧ AppOk P t t2 e z ∧ (k < 100000 ∨ e = k % 100000) ∧ aOpt (srcOf S z y) fun ys => xs.length + ys.length ≤ 4294967296 ∧ ∀ a'' cap'', f (.vs k a'' (xs.length + ys.length) cap'') (setVec S k (.vec k a'' cap'' z (xs ++ ys)))) := rfl
@[go_sem] theorem AppOk_eq : AppOk P t t2 e z = (P.underlying t = some (.slice e) ∧ isSlStr e (P.underlying t2) ∧ szA P e = some z ∧ (aOpt (zeroA P e) fun v => v.cells.size = z) ∧ aOpt (bytesA P e) fun n => n ≤ 16384) := by
  apply propext
  constructor
  · rintro ⟨h1, h2, h3, ⟨v, hv, hv'⟩, ⟨n, hn, hn'⟩⟩
    exact ⟨h1, h2, h3, by rw [hv]; exact hv', by rw [hn]; exact hn'⟩
  · rintro ⟨h1, h2, h3, h4, h5⟩
    exact ⟨h1, h2, h3, aOpt_some h4, aOpt_some h5⟩
@[go_sem] theorem isSlStr_sl {e' : TypeId} : isSlStr e (some (.slice e')) = (e' = e) := rfl
@[go_sem] theorem isSlStr_str : isSlStr e (some .string) = True := rfl
end
@[go_sem] theorem aBuild_eq {t : TypeId} {fs : Array Field} {ps : List (Nat × V)} : aBuild P t d (some (.struct fs)) ps c = aOpt (zeroA P t) fun z => aOpt (placesOf P fs.toList) fun pl => aOpt (fillV (fun i => pl[i]?) (z.cells.toList.map .lit) ps) fun cs => c (.agg cs) := rfl
@[go_sem] theorem aBuildSlice_eq {len : Nat} {ok : Bool} {e : TypeId} {xs : List V} : aBuildSlice P len ok d (some (.slice e)) xs c = (ok = true ∧ (zeroA P e).isSome = true ∧ aOpt (szA P e) fun sz => 0 < sz ∧ len * sz ≤ 16777216 ∧ (∀ v ∈ xs, v.cells.length = sz ∧ v.okv = true) ∧ c (.sl true sz xs)) := rfl
@[go_sem] theorem aSlice_str {st : St} {u : Option TypeDesc} {f : TypeId → Option Nat} {lo hi : Option Operand} {s : ByteArray} : aSlice st u f lo hi d (.lit (.string s)) c =
    (u = some .string ∧ aOpt (boundOf st 0 lo) fun l => aOpt (boundOf st s.size hi) fun h => 0 ≤ l ∧ l ≤ h ∧ h ≤ s.size ∧ c (.lit (.string (s.extract l.toNat h.toNat)))) := rfl
@[go_sem] theorem aSlice_sl {st : St} {e : TypeId} {f : TypeId → Option Nat} {lo hi : Option Operand} {full : Bool} {z : Nat} {xs : List V} : aSlice st (some (.slice e)) f lo hi d (.sl full z xs) c =
    (f e = some z ∧ aOpt (boundOf st 0 lo) fun l => aOpt (boundOf st xs.length hi) fun h => 0 ≤ l ∧ l ≤ h ∧ h ≤ xs.length ∧ c (.sl (full && decide (h = xs.length)) z ((xs.take h.toNat).drop l.toNat))) := rfl
@[go_sem] theorem aSlice3_sl {st : St} {e : TypeId} {f : TypeId → Option Nat} {lo : Option Operand} {hi mx : Operand} {full : Bool} {z : Nat} {xs : List V} : aSlice3 st (some (.slice e)) f lo hi mx d (.sl full z xs) c =
    (f e = some z ∧ aOpt (boundOf st 0 lo) fun l => aOpt (boundOf st 0 (some hi)) fun h => aOpt (boundOf st 0 (some mx)) fun m => 0 ≤ l ∧ l ≤ h ∧ h ≤ m ∧ m ≤ xs.length ∧ c (.sl (decide (h = m)) z ((xs.take h.toNat).drop l.toNat))) := rfl
@[go_sem] theorem aSliceL_str {st : St} {u : Option TypeDesc} {f : TypeId → Option Nat} {lo hi : Option Operand} {s : ByteArray} : aSliceL st u f lo hi d (.lit (.string s)) c = aSlice st u f lo hi d (.lit (.string s)) c := rfl
@[go_sem] theorem aSliceL_sl {st : St} {u : Option TypeDesc} {f : TypeId → Option Nat} {lo hi : Option Operand} {full : Bool} {z : Nat} {xs : List V} : aSliceL st u f lo hi d (.sl full z xs) c = aSlice st u f lo hi d (.sl full z xs) c := rfl
@[go_sem] theorem aSliceL_lit {st : St} {e : TypeId} {f : TypeId → Option Nat} {lo hi : Option Operand} {x y len cap : Nat} : aSliceL st (some (.slice e)) f lo hi d (.lit (.slice (some ⟨x, y, none⟩) len cap)) c =
    aOpt (f e) fun sz => aOpt (boundOf st 0 lo) fun l => aOpt (boundOf st len hi) fun h => 0 ≤ l ∧ l ≤ h ∧ h ≤ cap ∧ c (.lit (.slice (some ⟨x, if cap = l.toNat then y else y + l.toNat * sz, none⟩) (h.toNat - l.toNat) (cap - l.toNat))) := rfl
@[go_sem] theorem aMake_int {st : St} {e : TypeId} {k k' : IntKind} {x x' : Int} {f : V → List Res → Prop} : aMake P st d (some (.slice e)) (.lit (.int k x)) (.lit (.int k' x')) f =
    (x' = x ∧ szA P e = some 1 ∧ aOpt (zeroA P e) fun z => z.cells = #[z] ∧ aOpt (bytesA P e) fun by' => 0 ≤ x ∧ (by' : Int) * x ≤ 281474976710656 ∧ x ≤ 9223372036854775807 ∧
        ∀ b, Fresh b st.S → f (.lit (.slice (some ⟨b, 0, none⟩) x.toNat x.toNat)) (.obj b (List.replicate x.toNat (.lit z)) :: st.S)) := rfl
@[go_sem] theorem aPanic_iface {t : TypeId} {x : Value} : aPanic d (.lit (.iface t x)) cv = cv (.iface t x) := rfl
@[go_sem] theorem aCall_none {ro : Option Nat} {o : Oper} {K : St → Prop} {Q : Exit → St → Prop} {st : St} {args : Array Operand} : aCall ro P o K Q st args d none = d := rfl
@[go_sem] theorem aCall_some {ro : Option Nat} {o : Oper} {K : St → Prop} {Q : Exit → St → Prop} {st : St} {args : Array Operand} {f : Nat} {x y : List V} : aCall ro P o K Q st args d (some (f, x, y)) =
    aGo (goesB P f) (ACallLe P f (x ++ args.toList.map (fun z => fz st.S (st.opnd z)) ++ y) st.S (callQ K Q st o.dst)) d := rfl
@[go_sem] theorem aGo_t {a b : Prop} : aGo true a b = a := rfl
@[go_sem] theorem aGo_f {a b : Prop} : aGo false a b = b := rfl
@[congr] theorem aGo_congr {x y : Bool} {a b : Prop} (h : x = y) : aGo x a b = aGo y a b := by rw [h]
end

attribute [go_sem] List.map_cons List.map_nil List.cons_append List.nil_append List.append_nil List.getElem?_cons_zero List.getElem?_cons_succ List.getElem?_nil Option.bind_some Option.map_some Option.bind_none Option.map_none
  List.drop_zero List.drop_succ_cons List.take_zero List.take_succ_cons List.drop_nil List.take_nil List.length_cons List.length_nil List.head?_cons List.head?_nil List.all_cons List.all_nil
  Option.getD_some Option.getD_none Nat.zero_add Nat.add_zero if_true if_false ite_true ite_false

section
variable {pl : Nat → DPlan} {ro : Option Nat} {P : Program} {o : Oper} {K : St → Prop} {Q : Exit → St → Prop} {st st' : St}
@[congr] theorem awp_congr {c : Code} (h : st = st') : awp pl ro P c Q st = awp pl ro P c Q st' := by rw [h]
@[congr] theorem AWP_congr {c : Code} (h : st = st') : AWP ro P c Q st = AWP ro P c Q st' := by rw [h]
@[congr] theorem aops_congr {ops : Array Oper} {l : List Oper} (h : st = st') : aops ro P ops Q l st = aops ro P ops Q l st' := by rw [h]
@[congr] theorem aop_congr (h : st = st') : aop ro P o K Q st = aop ro P o K Q st' := by rw [h]
@[congr] theorem AOp_congr (h : st = st') : AOp ro P o K Q st = AOp ro P o K Q st' := by rw [h]
@[congr] theorem aopB_congr {op : Op} (h : st = st') : aopB ro P o K Q st op = aopB ro P o K Q st' op := by rw [h]
@[congr] theorem aopT_congr {op : Op} (h : st = st') : aopT P o K st op = aopT P o K st' op := by rw [h]
@[congr] theorem aDefer_congr {args : Array Operand} {d : Prop} {v v' : V} (h : st = st') (hv : v = v') : aDefer ro o K st args d v = aDefer ro o K st' args d v' := by rw [h, hv]
@[congr] theorem adr_congr {l : Array Oper} {p : DPlan} (h : st = st') : adr ro P l Q p st = adr ro P l Q p st' := by rw [h]
@[congr] theorem cCond_congr {x y : Code} {v v' : V} (h : st = st') (hv : v = v') : cCond pl ro P Q x y st v = cCond pl ro P Q x y st' v' := by rw [h, hv]
@[congr] theorem cGuard_congr {l : Array Oper} {rest : List Oper} {want : Bool} {v v' : V} (h : st = st') (hv : v = v') : cGuard ro P l Q o rest want st v = cGuard ro P l Q o rest want st' v' := by rw [h, hv]
@[congr] theorem cPick_congr {dst : Option Tmp} {x y : Operand} {v v' : V} (h : st = st') (hv : v = v') : cPick K dst x y st v = cPick K dst x y st' v' := by rw [h, hv]
@[congr] theorem tG_congr {l : Array Oper} {p : DPlan} {want : Bool} {v v' : V} (h : st = st') (hv : v = v') : tG ro P l Q p o want st v = tG ro P l Q p o want st' v' := by rw [h, hv]
@[congr] theorem sG_congr {l : Array Oper} {p : DPlan} {want : Bool} {v v' : V} (h : st = st') (hv : v = v') : sG ro P l Q p o want st v = sG ro P l Q p o want st' v' := by rw [h, hv]
@[congr] theorem dropQ_congr {l : Array Oper} {e e' : Exit} (he : e = e') (h : st = st') : dropQ l Q e st = dropQ l Q e' st' := by rw [he, h]
@[congr] theorem aLoadPe_congr {T : TypeId} {v v' : V} {c : V → Prop} (h : v = v') : aLoadPe P T v c = aLoadPe P T v' c := by rw [h]
@[congr] theorem thenQ_congr {e e' : Exit} (he : e = e') (h : st = st') : thenQ K Q e st = thenQ K Q e' st' := by rw [he, h]
@[congr] theorem blockQ_congr {id : Nat} {e e' : Exit} (he : e = e') (h : st = st') : blockQ id Q e st = blockQ id Q e' st' := by rw [he, h]
@[congr] theorem retQ_congr {fn : Func} {R : Out → List Res → Prop} {e e' : Exit} (he : e = e') (h : st = st') : retQ P fn R e st = retQ P fn R e' st' := by rw [he, h]
@[congr] theorem roundQ_congr {ι : Type} {ok : ι → Prop} {μ : ι → Nat} {inv : ι → St} {m : Nat} {e e' : Exit} (he : e = e') (h : st = st') : roundQ ok μ inv m Q e st = roundQ ok μ inv m Q e' st' := by rw [he, h]
@[congr] theorem callQ_congr {d : Option Tmp} {x x' : Out} {S S' : List Res} (hx : x = x') (h : S = S') : callQ K Q st d x S = callQ K Q st d x' S' := by rw [hx, h]
@[congr] theorem ACallLe_congr {f : FuncId} {R : Out → List Res → Prop} {args args' : List V} {S S' : List Res} (ha : args = args') (h : S = S') : ACallLe P f args S R = ACallLe P f args' S' R := by rw [ha, h]
@[congr] theorem ACall_congr {f : FuncId} {R : Out → List Res → Prop} {args args' : List V} {S S' : List Res} (ha : args = args') (h : S = S') : ACall P f args S R = ACall P f args' S' R := by rw [ha, h]
@[congr] theorem Done_congr {R : Out → List Res → Prop} {v v' : V} {S S' : List Res} (ha : v = v') (h : S = S') : Done S v R = Done S' v' R := by rw [ha, h]
@[congr] theorem optDone_congr {fn : Func} {R : Out → List Res → Prop} {v v' : Option V} (ha : v = v') (h : st = st') : optDone P fn st R v = optDone P fn st' R v' := by rw [ha, h]
variable {u v u' v' : V} {a b d : Prop} {c : V → Prop} {cv : Value → Prop}
@[congr] theorem aOpt_congr {α : Type} {x x' : Option α} {f : α → Prop} (h : x = x') : aOpt x f = aOpt x' f := by rw [h]
@[congr] theorem aNil_congr (h : v = v') : aNil d v c = aNil d v' c := by rw [h]
@[congr] theorem aUn_congr {op : UnOp} (h : v = v') : aUn op d v cv = aUn op d v' cv := by rw [h]
@[congr] theorem aBinN_congr {t : TypeId} {op : BinOp} {y : Operand} {x x' : Option TypeDesc} (hx : x = x') (h : u = u') (h' : v = v') : aBinN P t op d y x u v cv = aBinN P t op d y x' u' v' cv := by rw [hx, h, h']
@[congr] theorem aBinG_congr {t : TypeId} {op : BinOp} {x x' : Option TypeDesc} (hx : x = x') (h : u = u') (h' : v = v') : aBinG P t op d x u v cv = aBinG P t op d x' u' v' cv := by rw [hx, h, h']
@[congr] theorem aConvX_congr {mk : Bool} {x y x' y' : Option TypeDesc} (hx : x = x') (hy : y = y') (h : v = v') : aConvX P x y d mk v c = aConvX P x' y' d mk v' c := by rw [hx, hy, h]
@[congr] theorem aMax_congr (h : u = u') (h' : v = v') : aMax d u v c = aMax d u' v' c := by rw [h, h']
@[congr] theorem aMin_congr (h : u = u') (h' : v = v') : aMin d u v c = aMin d u' v' c := by rw [h, h']
@[congr] theorem aBin_congr {t : TypeId} {op : BinOp} (h : u = u') (h' : v = v') : aBin P t op d u v cv = aBin P t op d u' v' cv := by rw [h, h']
@[congr] theorem aBinI_congr {op : BinOp} {k k' : IntKind} {x y x' y' : Int} (h : x = x') (h' : y = y') : aBinI op k k' x y cv = aBinI op k k' x' y' cv := by rw [h, h']
@[congr] theorem aBinS_congr {op : BinOp} {x y x' y' : ByteArray} (h : x = x') (h' : y = y') : aBinS op x y cv = aBinS op x' y' cv := by rw [h, h']
@[congr] theorem aBinB_congr {t : TypeId} {op : BinOp} {x y x' y' : Bool} (h : x = x') (h' : y = y') : aBinB P t op x y cv = aBinB P t op x' y' cv := by rw [h, h']
@[congr] theorem aStore_congr {S S' : List Res} {n n' : Option Nat} {f : List Res → Prop} (hS : S = S') (h : u = u') (h' : v = v') (hn : n = n') : aStore S d u v n f = aStore S' d u' v' n' f := by rw [hS, h, h', hn]
@[congr] theorem aConv_congr {x y x' y' : Option TypeDesc} (hx : x = x') (hy : y = y') (h : v = v') : aConv x y d v c = aConv x' y' d v' c := by rw [hx, hy, h]
@[congr] theorem aIndexAddr_congr {S S' : List Res} {x x' : Option TypeDesc} {f : TypeId → Option Nat} (hS : S = S') (hx : x = x') (h : u = u') (h' : v = v') : aIndexAddr S x f d u v c = aIndexAddr S' x' f d u' v' c := by rw [hS, hx, h, h']
@[congr] theorem aIndex_congr {x x' : Option TypeDesc} (hx : x = x') (h : u = u') (h' : v = v') : aIndex P x d u v c = aIndex P x' d u' v' c := by rw [hx, h, h']
@[congr] theorem aLen_congr {x x' : Option TypeDesc} (hx : x = x') (h : v = v') : aLen x d v c = aLen x' d v' c := by rw [hx, h]
@[congr] theorem aAppend_congr {S S' : List Res} {k sz : Nat} {t t2 e : TypeId} {f : V → List Res → Prop} (hS : S = S') (h : u = u') (h' : v = v') : aAppend P S k t t2 e sz d u v f = aAppend P S' k t t2 e sz d u' v' f := by rw [hS, h, h']
@[congr] theorem aBox_congr (h : v = v') : aBox v c = aBox v' c := by rw [h]
@[congr] theorem aExtract_congr {ix : Nat} (h : v = v') : aExtract d ix v c = aExtract d ix v' c := by rw [h]
@[congr] theorem aField_congr {f : Nat} {x x' : Option TypeDesc} (hx : x = x') (h : v = v') : aField P f d x v c = aField P f d x' v' c := by rw [hx, h]
@[congr] theorem aFieldAddr_congr {f : Nat} {x x' : Option TypeDesc} (hx : x = x') (h : v = v') : aFieldAddr P f d x v c = aFieldAddr P f d x' v' c := by rw [hx, h]
@[congr] theorem aBuild_congr {t : TypeId} {x x' : Option TypeDesc} {ps ps' : List (Nat × V)} (hx : x = x') (h : ps = ps') : aBuild P t d x ps c = aBuild P t d x' ps' c := by rw [hx, h]
@[congr] theorem aBuildSlice_congr {n : Nat} {k k' : Bool} {x x' : Option TypeDesc} {ps ps' : List V} (hk : k = k') (hx : x = x') (h : ps = ps') : aBuildSlice P n k d x ps c = aBuildSlice P n k' d x' ps' c := by rw [hk, hx, h]
@[congr] theorem aAppendT_congr {S S' : List Res} {k : Nat} {t t2 : TypeId} {x x' : Option TypeDesc} {f : V → List Res → Prop} (hS : S = S') (hx : x = x') (h : u = u') (h' : v = v') : aAppendT P S k t t2 d x u v f = aAppendT P S' k t t2 d x' u' v' f := by rw [hS, hx, h, h']
@[congr] theorem aSlice_congr {x x' : Option TypeDesc} {f : TypeId → Option Nat} {lo hi : Option Operand} (hst : st = st') (hx : x = x') (h : v = v') : aSlice st x f lo hi d v c = aSlice st' x' f lo hi d v' c := by rw [hst, hx, h]
@[congr] theorem aSlice3_congr {x x' : Option TypeDesc} {f : TypeId → Option Nat} {lo : Option Operand} {hi mx : Operand} (hst : st = st') (hx : x = x') (h : v = v') : aSlice3 st x f lo hi mx d v c = aSlice3 st' x' f lo hi mx d v' c := by rw [hst, hx, h]
@[congr] theorem aSliceL_congr {x x' : Option TypeDesc} {f : TypeId → Option Nat} {lo hi : Option Operand} (hst : st = st') (hx : x = x') (h : v = v') : aSliceL st x f lo hi d v c = aSliceL st' x' f lo hi d v' c := by rw [hst, hx, h]
@[congr] theorem aMake_congr {x x' : Option TypeDesc} {f : V → List Res → Prop} (hst : st = st') (hx : x = x') (h : u = u') (h' : v = v') : aMake P st d x u v f = aMake P st' d x' u' v' f := by rw [hst, hx, h, h']
@[congr] theorem aPanic_congr (h : v = v') : aPanic d v cv = aPanic d v' cv := by rw [h]
@[congr] theorem aCall_congr {args : Array Operand} {x x' : Option (FuncId × List V × List V)} (hst : st = st') (hx : x = x') : aCall ro P o K Q st args d x = aCall ro P o K Q st' args d x' := by rw [hst, hx]
@[congr] theorem aBuiltin_congr {bi : Builtin} {xs xs' : List Operand} {ts ts' : List TypeId} (hst : st = st') (hx : xs = xs') (ht : ts = ts') : aBuiltin ro P o K Q st bi xs ts = aBuiltin ro P o K Q st' bi xs' ts' := by rw [hst, hx, ht]
end

@[go_sem] theorem put_some (n : Nat) (env : List (Nat × V)) (S : List Res) (ds : List Deferred) (d : Nat) (v : V) : St.put ⟨n, env, S, ds⟩ (some d) v = ⟨n, (d, v) :: env, S, ds⟩ := rfl
@[go_sem] theorem put_none (n : Nat) (env : List (Nat × V)) (S : List Res) (ds : List Deferred) (v : V) : St.put ⟨n, env, S, ds⟩ none v = ⟨n, env, S, ds⟩ := rfl

attribute [go_sem] List.map_cons List.map_nil List.cons_append List.nil_append List.append_nil List.getElem?_cons_zero List.getElem?_cons_succ List.getElem?_nil Option.bind_some Option.map_some Option.bind_none Option.map_none
  List.drop_zero List.drop_succ_cons List.take_zero List.take_succ_cons List.drop_nil List.take_nil List.length_cons List.length_nil List.head?_cons List.head?_nil List.all_cons List.all_nil
  Option.getD_some Option.getD_none Nat.zero_add Nat.add_zero if_true if_false ite_true ite_false

@[go_sem] theorem VLe_self (S : List Res) (v : V) : VLe S v v = True := eq_true (.refl S v)
@[go_sem] theorem VLe_any (S : List Res) (v : V) : VLe S v .any = True := eq_true (.any S v)


theorem w64 {x : Int} (h1 : -9223372036854775808 ≤ x) (h2 : x ≤ 9223372036854775807) : IntKind.i64.wrap x = x := by
  rw [IntKind.wrap_i64]; omega

/-! ### Resources said otherwise -/

theorem StLe.ofS {n : Nat} {env : List (Nat × V)} {S S' : List Res} {ds : List Deferred} (h : SLe S S') : StLe ⟨n, env, S, ds⟩ ⟨n, env, S', ds⟩ := StLe.S h
theorem SLe.vecNil (S : List Res) (k sz : Nat) : SLe S (.vec k none 0 sz [] :: S) := fun G w h =>
  ⟨G, (Evol.refl S G w).cons (by simp [Res.blk, ownB_nil]), h.vec_nil k sz⟩
theorem SLe.obj {A B : List Res} {b : Nat} {cs cs' : List V} {tt : Option TypeId} (h : ∀ G us, VRels G cs us → VRels G cs' us) : SLe (A ++ .objT b cs tt :: B) (A ++ .objT b cs' tt :: B) := fun G w hi => by
  have hb : blks (A ++ .objT b cs' tt :: B) = blks (A ++ .objT b cs tt :: B) := by rw [blks_mid, blks_mid]; rfl
  refine ⟨G, ⟨Nat.le_refl _, rfl, rfl, rfl, Im.le_refl _, fun _ _ _ => rfl, fun _ _ _ _ => rfl, fun x hx => .inl (hb ▸ hx)⟩, hi.im, fun r hr => ?_, hb ▸ hi.nd⟩
  rcases List.mem_append.1 hr with hr | hr
  · exact hi.res r (by simp [hr])
  · rcases List.mem_cons.1 hr with rfl | hr
    · obtain ⟨us, T, h1, h2, h3⟩ := hi.res (.objT b cs tt) (by simp)
      exact ⟨us, T, h1, h _ _ h2, h3⟩
    · exact hi.res r (by simp [hr])
theorem VRels.nil_vs {G : Im} {us : List Value} (k : Nat) (h : VRels G [.lit (.slice none 0 0)] us) : VRels G [.vs k none 0 0] us := by
  obtain ⟨x, xs, rfl, h1, h2⟩ := h.cons_inv
  have := h1.lit_inv; subst this
  exact .cons (.vs _ _ _ _) h2

/-! ### More of what simp is told -/

theorem findObj_setObj_ne {b b' : Nat} {cs : List V} (h : b ≠ b') : ∀ S : List Res, findObj (AW.setObj S b cs) b' = findObj S b'
  | [] => rfl
  | .objT x ys tt :: S => by
    simp only [AW.setObj]
    split
    · rename_i e; subst e; simp only [findObj, if_neg h]
    · simp only [findObj, findObj_setObj_ne h S]
  | .vec .. :: S => by simp only [AW.setObj, findObj, findObj_setObj_ne h S]
  | .raw .. :: S => by simp only [AW.setObj, findObj, findObj_setObj_ne h S]
  | .lp .. :: S => by simp only [AW.setObj, findObj, findObj_setObj_ne h S]
theorem findObj_setObj_eq {b : Nat} {cs cs' : List V} : ∀ S : List Res, findObj S b = some cs' → findObj (AW.setObj S b cs) b = some cs
  | [], h => by simp [findObj] at h
  | .objT x ys tt :: S, h => by
    simp only [AW.setObj]
    split
    · rename_i e; subst e; simp [findObj]
    · rename_i e; simp only [findObj, if_neg e] at h ⊢; exact findObj_setObj_eq S h
  | .vec .. :: S, h => by simp only [AW.setObj, findObj] at h ⊢; exact findObj_setObj_eq S h
  | .raw .. :: S, h => by simp only [AW.setObj, findObj] at h ⊢; exact findObj_setObj_eq S h
  | .lp .. :: S, h => by simp only [AW.setObj, findObj] at h ⊢; exact findObj_setObj_eq S h

section
variable {P : Program} {fn : Func} {K : List Res → Prop} {R : Out → List Res → Prop} {n : Nat} {env : List (Nat × V)} {S : List Res} {ds : List Deferred} {x : Value} {cap : Array Value} {g : Nat} {u : FrameMode}
@[go_sem] theorem closeQ_normal : closeQ P fn K .normal ⟨n, env, S, ds⟩ = (ds = [] ∧ (resOf P fn ⟨n, env, S, ds⟩).isSome = true ∧ K S) := rfl
@[go_sem] theorem closeQ_ret : closeQ P fn K .ret ⟨n, env, S, ds⟩ = (ds = [] ∧ (resOf P fn ⟨n, env, S, ds⟩).isSome = true ∧ K S) := rfl
@[go_sem] theorem retM_normal : retM P fn R .normal ⟨n, env, S, ds⟩ = ALeave P fn R ds .returning ⟨n, env, S, ds⟩ := rfl
@[go_sem] theorem retM_ret : retM P fn R .ret ⟨n, env, S, ds⟩ = ALeave P fn R ds .returning ⟨n, env, S, ds⟩ := rfl
@[go_sem] theorem retM_panic : retM P fn R (.panic [⟨x, false, false⟩]) ⟨n, env, S, ds⟩ = ALeave P fn R ds (.panicking [⟨x, false, false⟩]) ⟨n, env, S, ds⟩ := by simp [retM]
@[go_sem] theorem ALeave_nil {ds' : List Deferred} : ALeave P fn R [] .returning ⟨n, env, S, ds'⟩ = optDone P fn ⟨n, env, S, []⟩ R (resOf P fn ⟨n, env, S, []⟩) := rfl
@[go_sem] theorem ALeave_nilP {ds' : List Deferred} : ALeave P fn R [] (.panicking [⟨x, false, false⟩]) ⟨n, env, S, ds'⟩ = DoneP S x R := by simp [ALeave]
@[go_sem] theorem ALeave_fn {ds' : List Deferred} : ALeave P fn R (⟨.fn (.func g) cap, #[]⟩ :: ds) u ⟨n, env, S, ds'⟩ = (u ≠ .run ∧ goesB P g = true ∧ AClose P g cap.toList u S fun u' S' => ALeave P fn R ds (settle u') ⟨n, env, S', ds'⟩) := by
  cases u <;> simp [ALeave]
@[go_sem] theorem ALeave_mark {ds' : List Deferred} {db : Nat} {a : Array Value} : ALeave P fn R (⟨.collected db, a⟩ :: ds) u ⟨n, env, S, ds'⟩ = (u ≠ .run ∧ aOpt (takeDef db S) fun S' => ALeave P fn R ds u ⟨n, env, S', ds'⟩) := by
  have : ∀ (o : Option (List Res)) (f : List Res → Prop), (∃ S', o = some S' ∧ f S') = aOpt o f := fun o f => by cases o <;> simp [aOpt]
  cases u <;> simp only [ALeave, this]
end
@[go_sem] theorem settle_ret : settle .returning = .returning := rfl
@[go_sem] theorem settle_rec {v : Value} : settle (.panicking [⟨v, true, false⟩]) = .returning := rfl

end Go.AW
set_option maxRecDepth 100000
set_option linter.unusedSimpArgs false
set_option linter.unusedVariables false
namespace Go.Proofs.YtflpfjeghomepaaDoor
open Go Go.AW Go.Proofs

def iV (n : Int) : V := .lit (.int .i64 n)
def sV (s : ByteArray) : V := .lit (.string s)
theorem take_snoc {α : Type} {l : List α} {k : Nat} {a : α} (h : l[k]? = some a) : l.take (k + 1) = l.take k ++ [a] := by
  rw [List.take_add_one, h]; rfl
def okSize (n : Int) : Bool := !(n == 0 || decide (n < -4) || decide (4 < n))
def rightB (l : List Int) : Bool := l.all okSize
theorem rightB_false {l : List Int} {a : Int} {k : Nat} (h : l[k]? = some a) (ha : okSize a = false) : rightB l = false := by
  have hm : a ∈ l := List.mem_iff_getElem?.2 ⟨k, h⟩
  cases hr : rightB l with
  | false => rfl
  | true => exact absurd (List.all_eq_true.1 hr a hm) (by simp [ha])
def numB (l : List UInt8) : Int := l.foldl (fun v c => v * 256 + c.toNat) 0
theorem numB_snoc (l : List UInt8) (c : UInt8) : numB (l ++ [c]) = numB l * 256 + c.toNat := by simp [numB]
theorem numB_bound (l : List UInt8) : 0 ≤ numB l ∧ numB l < 256 ^ l.length := by
  suffices h : ∀ (l : List UInt8) (v : Int) (m : Nat), 0 ≤ v → v < 256 ^ m → 0 ≤ l.foldl (fun v c => v * 256 + (c.toNat : Int)) v ∧ l.foldl (fun v c => v * 256 + (c.toNat : Int)) v < 256 ^ (m + l.length) by
    have := h l 0 0 (by decide) (by decide); simpa [numB] using this
  intro l
  induction l with
  | nil => intro v m h1 h2; exact ⟨h1, h2⟩
  | cons c l ih =>
    intro v m h1 h2
    have hc : (c.toNat : Int) < 256 := by have := c.toNat_lt; omega
    have := ih (v * 256 + c.toNat) (m + 1) (by omega) (by rw [Int.pow_succ]; omega)
    simpa [Nat.add_assoc, Nat.add_comm 1] using this

def takeV (s : ByteArray) (n : Int) : Int :=
  let v := numB (s.data.toList.take n.natAbs)
  if n < 0 ∧ 2 ^ (8 * n.natAbs - 1) ≤ v then v - 2 * 2 ^ (8 * n.natAbs - 1) else v

theorem half_eq {m : Nat} (h0 : m ≠ 0) (h4 : m ≤ 4) : 0 ≤ IntKind.i64.wrap (IntKind.i64.wrap (8 * (m : Int)) - 1) ∧ IntKind.i64.wrap (2 ^ min (IntKind.i64.wrap (IntKind.i64.wrap (8 * (m : Int)) - 1)).toNat 64) = 2 ^ (8 * m - 1) := by
  have : m = 1 ∨ m = 2 ∨ m = 3 ∨ m = 4 := by omega
  rcases this with rfl | rfl | rfl | rfl <;> decide
theorem join_eq {v : Int} {c : UInt8} (h0 : 0 ≤ v) (h1 : v < 2 ^ 40) : bits .or .i64 (IntKind.i64.wrap (v * 256)) (IntKind.i64.wrap c.toNat) = v * 256 + c.toNat := by
  have hc : (c.toNat : Int) < 256 := by have := c.toNat_lt; omega
  rw [w64 (x := v * 256) (by omega) (by omega), w64 (x := (c.toNat : Int)) (by omega) (by omega)]
  exact bits_join .i64 62 (by decide) (fun n h h' => w64 (by omega) (by omega)) 8 (v * 256) c.toNat (by omega) (by omega) (by omega) (by omega) (by omega) (by omega)

end Go.Proofs.YtflpfjeghomepaaDoor
set_option maxRecDepth 100000
set_option linter.unusedSimpArgs false
set_option linter.unusedVariables false
namespace Go.Proofs.YtflpfjeghomepaaDoor
open Go Go.AW Go.Proofs


def one (i : Nat) (p : DPlan) : DPlan := .alt i p .stop
end Go.Proofs.YtflpfjeghomepaaDoor
/- The engine AW, part 17: own blocks that are laid among those that never change; iterators. -/
set_option linter.unusedVariables false
set_option linter.unusedSimpArgs false
namespace Go.AW

/-- What a function ends with, said otherwise. -/
def OLe (o : Out) (S : List Res) (Q : Out → List Res → Prop) : Prop :=
  ∀ G w e, Inv G w S → ERel G o e → ∃ G' S' o', Evol S G w S' G' w ∧ Inv G' w S' ∧ ERel G' o' e ∧ Q o' S'

theorem OLe.refl {o : Out} {S : List Res} {Q : Out → List Res → Prop} (h : Q o S) : OLe o S Q := fun G w e hi he => ⟨G, S, o, .refl _ _ _, hi, he, h⟩

theorem ACall.post {P : Program} {f : FuncId} {args : List V} {S : List Res} {Q : Out → List Res → Prop} (h : ACall P f args S (fun o S' => OLe o S' Q)) : ACall P f args S Q := fun G w xs hv hi =>
  (h G w xs hv hi).mono fun e w' ⟨G', S', o, he, hi', her, hq⟩ =>
    let ⟨G'', S'', o', he', hi'', her', hq'⟩ := hq G' w' e hi' her
    ⟨G'', S'', o', he.trans he', hi'', her', hq'⟩

theorem freeze1 {G : Im} {w : World} {A B : List Res} {b : Nat} {cs : List V} {tt : Option TypeId} (h : Inv G w (A ++ .objT b cs tt :: B)) :
    ∃ G', Evol (A ++ .objT b cs tt :: B) G w (A ++ B) G' w ∧ Inv G' w (A ++ B) ∧ VRel G' (.pe cs) (.pointer (some ⟨b, 0, none⟩)) := by
  obtain ⟨us, T, h1, h2, h3, _⟩ := h.res (.objT b cs tt) (by simp)
  have hle : Im.le G (G.add b us) := fun x o u hg => by
    have : x ≠ b := fun e => by subst e; rw [h3] at hg; cases hg
    simp [Im.add, this, hg]
  have hbl : b ∈ blks (A ++ .objT b cs tt :: B) := mem_blks.2 ⟨.objT b cs tt, by simp, rfl⟩
  have hsub : (A ++ B).Sublist (A ++ .objT b cs tt :: B) := List.Sublist.append (List.Sublist.refl A) (List.sublist_cons_self _ _)
  have hnb : b ∉ blks (A ++ B) := by
    have hnd := h.nd
    rw [blks_mid] at hnd
    simp only [Res.blk, Option.toList_some] at hnd
    intro hm
    have : blks (A ++ B) = blks A ++ blks B := by simp [blks]
    rw [this] at hm
    rcases List.mem_append.1 hm with hm | hm
    · exact (List.nodup_append.1 hnd).2.2 b hm b (by simp) rfl
    · have := (List.nodup_append.1 hnd).2.1; simp at this; exact this.1 hm
  refine ⟨G.add b us, ⟨Nat.le_refl _, rfl, rfl, rfl, hle, fun _ _ _ => rfl, fun x _ hx o => ?_, fun x hx => .inl ((hsub.filterMap _).subset hx)⟩, ⟨fun x o u hg => ?_, fun r hr => ?_, h.nd.sublist (hsub.filterMap _)⟩, ?_⟩
  · have : x ≠ b := fun e => hx (e ▸ hbl)
    simp [Im.add, this]
  · simp only [Im.add] at hg
    split at hg
    · rename_i e; subst e; simp only [World.cell?, h1]; exact hg
    · exact h.im x o u hg
  · refine Res.holds_of (h.res r (hsub.subset hr)) hle fun x hx => ⟨rfl, fun o => ?_⟩
    have : x ≠ b := fun e => hnb (e ▸ mem_blks.2 ⟨r, hr, hx⟩)
    simp [Im.add, this]
  · refine .pe b 0 (fun i => us.toList.getD i undef) (fun i hi => ?_) (fun i c hc => ?_)
    · have hi' : i < us.toList.length := by rw [← h2.1]; exact hi
      simp only [Im.add, if_true, Nat.zero_add]
      rw [List.getD_eq_getElem?_getD, List.getElem?_eq_getElem hi']
      simp at hi' ⊢
    · have hi' : i < us.toList.length := by rw [← h2.1]; exact (List.getElem?_eq_some_iff.1 hc).1
      rw [List.getD_eq_getElem?_getD, List.getElem?_eq_getElem hi']
      exact (h2.2 i c _ hc (List.getElem?_eq_getElem hi')).mono hle

/-- A closure of two own variables, that nobody writes any more. -/
theorem OLe.close2 {fn : Fn} {b1 b2 : Nat} {c1 c2 : List V} {t1 t2 : Option TypeId} {S : List Res} {Q : Out → List Res → Prop} (h : Q (.ret (.func fn [] [.pe c1, .pe c2])) S) :
    OLe (.ret (.lit (.func fn #[] #[.pointer (some ⟨b1, 0, none⟩), .pointer (some ⟨b2, 0, none⟩)]))) (.objT b2 c2 t2 :: .objT b1 c1 t1 :: S) Q := fun G w e hi he => by
  obtain ⟨G1, he1, hi1, hv2⟩ := freeze1 (A := []) hi
  obtain ⟨G2, he2, hi2, hv1⟩ := freeze1 (A := []) hi1
  cases he with
  | ret hv =>
    have := hv.lit_inv; subst this
    refine ⟨G2, S, _, he1.trans he2, hi2, .ret ?_, h⟩
    exact .func' (f' := []) (c' := [_, _]) .nil (.cons hv1 (.cons (hv2.mono he2.im) .nil))
theorem OLe.close1 {fn : Fn} {b1 : Nat} {c1 : List V} {t1 : Option TypeId} {S : List Res} {Q : Out → List Res → Prop} (h : Q (.ret (.func fn [] [.pe c1])) S) :
    OLe (.ret (.lit (.func fn #[] #[.pointer (some ⟨b1, 0, none⟩)]))) (.objT b1 c1 t1 :: S) Q := fun G w e hi he => by
  obtain ⟨G1, he1, hi1, hv1⟩ := freeze1 (A := []) hi
  cases he with
  | ret hv =>
    have := hv.lit_inv; subst this
    exact ⟨G1, S, _, he1, hi1, .ret (.func' (f' := []) (c' := [_]) .nil (.cons hv1 .nil)), h⟩

/-- An iterator's rounds, one behind the other, until one hands back false. -/
def AIter (P : Program) (l : Nat) : List (List V) → List Res → (List Res → Prop) → Prop
  | [], S, Q => Q S
  | x :: xs, S, Q => ARound P l x S fun b S' => if b = true then AIter P l xs S' Q else Q S'

end Go.AW
