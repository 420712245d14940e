/- The engine AW, part 12: what simp reckons is the wp. -/
import Derived.Test.YtmlcfgojoglelaaAwEval
set_option linter.unusedVariables false
set_option linter.unusedSimpArgs false
namespace Go.AW

theorem aOpt_some {α : Type} {x : Option α} {c : α → Prop} (h : aOpt x c) : ∃ a, x = some a ∧ c a := by
  unfold aOpt at h; split at h
  · exact ⟨_, rfl, h⟩
  · exact h.elim

section
variable {ro : Option Nat} {P : Program} {o : Oper} {K : St → Prop} {Q : Exit → St → Prop} {st : St}

theorem aBin_sound {D : Prop} {op : BinOp} {t t' : TypeId} {x y : Operand} (hop : o.op = .binOp op t x y t') (hd : dstOk st.n o.dst) (h : aBin P t op D (st.opnd x) (st.opnd y) fun v => K (st.put o.dst (.lit v))) : D ∨ ATake P o K st := by
  unfold aBin at h
  split at h
  · rename_i k a k' b hx hy
    unfold aBinI at h
    split at h
    all_goals first
      | exact h.elim
      | (obtain ⟨rfl, h⟩ := h; exact .inr (AT.binI hop hd hx hy rfl h))
      | (obtain ⟨rfl, hb, h⟩ := h; first | exact .inr (AT.quo hop hd hx hy hb h) | exact .inr (AT.rem hop hd hx hy hb h))
      | (obtain ⟨hb, h⟩ := h; first | exact .inr (AT.shl hop hd hx hy hb h) | exact .inr (AT.shr hop hd hx hy hb h))
  · rename_i a b hx hy
    unfold aBinS at h
    split at h
    all_goals first
      | exact h.elim
      | exact .inr (AT.cat hop hd hx hy h.1 h.2)
      | exact .inr (AT.binS hop hd hx hy rfl h)
  · rename_i a b hx hy
    unfold aBinB at h
    split at h
    · exact .inr (AT.eqlB hop hd h.1 hx hy h.2)
    · exact .inr (AT.neqB hop hd h.1 hx hy h.2)
    · exact h.elim
  · exact .inl h

theorem aBinA_sound {op : BinOp} {t t' : TypeId} {x y : Operand} {xs ys : List V} (hop : o.op = .binOp op t x y t') (hd : dstOk st.n o.dst) (hx : st.opnd x = .agg xs) (hy : st.opnd y = .agg ys)
    (h : aBinA P t op xs ys (P.underlying t) fun v => K (st.put o.dst (.lit v))) : ATake P o K st := by
  unfold aBinA at h
  split at h
  · rename_i fs hu
    obtain ⟨h1, h2, h⟩ := h
    obtain ⟨r, hr, h⟩ := aOpt_some h
    exact AT.eqlA hop hd hu h1 h2 hx hy hr (.inl ⟨rfl, h⟩)
  · rename_i fs hu
    obtain ⟨h1, h2, h⟩ := h
    obtain ⟨r, hr, h⟩ := aOpt_some h
    exact AT.eqlA hop hd hu h1 h2 hx hy hr (.inr ⟨rfl, h⟩)
  · exact h.elim

theorem aBinN_sound {D : Prop} {op : BinOp} {t t' : TypeId} {x y : Operand} (hop : o.op = .binOp op t x y t') (hd : dstOk st.n o.dst) (h : aBinN P t op D y (P.underlying t) (st.opnd x) (st.opnd y) fun v => K (st.put o.dst (.lit v))) : D ∨ ATake P o K st := by
  unfold aBinN at h
  split at h
  · rename_i ms hu
    obtain ⟨b, hb, h⟩ := aOpt_some h
    exact .inr (AT.eqlNil hop hd ⟨_, hu⟩ hb (.inl ⟨rfl, h⟩))
  · rename_i ms hu
    obtain ⟨b, hb, h⟩ := aOpt_some h
    exact .inr (AT.eqlNil hop hd ⟨_, hu⟩ hb (.inr ⟨rfl, h⟩))
  · unfold aBinG at h
    split at h
    · rename_i xs ys hx hy; exact .inr (aBinA_sound hop hd hx hy h)
    · exact aBin_sound hop hd h

theorem fz_lit {S : List Res} {v : V} {u : Value} (h : fz S v = .lit u) : v = .lit u := by
  cases v with
  | lit w => exact h
  | vs k a n cap =>
    simp only [fz, fz1] at h
    split at h
    · split at h <;> cases h
    · cases h
  | _ => simp [fz, fz1] at h

theorem aConv_sound {D : Prop} {s t : TypeId} {x : Operand} {v : V} (hop : o.op = .convert s t x) (hd : dstOk st.n o.dst) (hx : ∀ u, v = .lit u → st.opnd x = .lit u) (h : aConv (P.underlying s) (P.underlying t) D v fun v => K (st.put o.dst v)) : D ∨ ATake P o K st := by
  unfold aConv at h
  split at h
  · rename_i k' n
    split at h
    · rename_i ds k hs hdd; exact .inr (AT.convI hop hd hs hdd (hx _ rfl) h)
    · exact .inl h
  · rename_i s
    split at h
    · rename_i ds hs hdd; exact .inr (AT.convS hop hd hs hdd (hx _ rfl) h)
    · exact .inl h
  · exact .inl h

theorem aConvX_sound {D : Prop} {mk : Bool} {s t : TypeId} {x : Operand} (hop : o.op = .convert s t x) (hd : dstOk st.n o.dst) (h : aConvX P (P.underlying s) (P.underlying t) D mk (fz st.S (st.opnd x)) fun v => K (st.put o.dst v)) : (D ∨ ATake P o K st) ∨ (mk = true ∧ AOp ro P o K Q st) := by
  have hl : ∀ u, fz st.S (st.opnd x) = .lit u → st.opnd x = .lit u := fun u hu => fz_lit hu
  unfold aConvX at h
  split at h
  · rename_i v hv
    split at h
    · rename_i ds e hs ht
      obtain ⟨h1, h2, h3, h4⟩ := h
      exact .inr ⟨h1, AOp.toBytes hop hd hs ht h2 (hl _ hv) h3 h4⟩
    · rw [← hv] at h; exact .inl (aConv_sound hop hd hl h)
  · rename_i full z xs hv
    split at h
    · rename_i e hs ht
      obtain ⟨rfl, h2, v, rfl, h4⟩ := h
      exact .inl (.inr (AT.ofBytes hop hd hs h2 ht (hv ▸ VLe.fz st.S (st.opnd x)) h4))
    · exact .inl (.inl h)
  · exact .inl (aConv_sound hop hd hl h)

theorem aUn_sound {D : Prop} {op : UnOp} {t : TypeId} {x : Operand} (hop : o.op = .unOp op t x) (hd : dstOk st.n o.dst) (h : aUn op D (st.opnd x) fun v => K (st.put o.dst (.lit v))) : D ∨ ATake P o K st := by
  unfold aUn at h
  split at h
  · rename_i b hx
    split at h
    · exact .inr (AT.unNot hop hd hx h)
    · exact .inl h
  · rename_i k n hx
    split at h
    · exact .inr (AT.unNeg hop hd hx h)
    · exact .inl h
  · exact .inl h

theorem aStore_sound {T : TypeId} {p x : Operand} (hop : o.op = .store T p x) (hd : dstOk st.n o.dst) (h : aStore st.S (AOp ro P o K Q st) (st.opnd p) (st.opnd x) (szA P T) fun S' => K (St.put { st with S := S' } o.dst (.lit undef))) : AOp ro P o K Q st := by
  unfold aStore at h
  split at h
  · rename_i b o' hp
    obtain ⟨cs, hf, h1, h2, h3, h4⟩ := aOpt_some h
    exact AOp.store hop hd hp hf h1 h2 h3 h4
  · exact h

theorem aIndexAddr_sound {D : Prop} {t : TypeId} {x ix : Operand} (hop : o.op = .indexAddr t x ix) (hd : dstOk st.n o.dst) (h : aIndexAddr st.S (P.underlying t) (szA P) D (st.opnd x) (st.opnd ix) fun v => K (st.put o.dst v)) : D ∨ ATake P o K st := by
  unfold aIndexAddr at h
  split at h
  · rename_i full sz xs k i hx hi
    split at h
    · rename_i e hu
      obtain ⟨h1, h2, h3, h4⟩ := h
      exact .inr (AT.indexSl hop hd hu (by rw [hx]; exact .refl _ _) hi h1 h2 h3 h4)
    · exact .inl h
  · rename_i k a n cap k' i hx hi
    split at h
    · rename_i e a' cap' sz xs hu hf
      obtain ⟨rfl, rfl, h1, h2, h3, h4, h5⟩ := h
      exact .inr (AT.indexSl hop hd hu (by rw [hx]; exact .vs hf h1) hi h2 h3 h4 h5)
    · exact .inl h
  · exact .inl h

theorem aLen_sound {D : Prop} {x : Operand} {t : TypeId} (hop : o.op = .call ⟨.builtin .len, #[x], #[t]⟩) (hd : dstOk st.n o.dst) (h : aLen (P.underlying t) D (st.opnd x) fun v => K (st.put o.dst v)) : D ∨ ATake P o K st := by
  unfold aLen at h
  split at h
  · rename_i hx; split at h
    · rename_i hu; exact .inr (AT.lenSl hop rfl hd hu hx h)
    · exact .inl h
  · rename_i hx; split at h
    · rename_i hu; exact .inr (AT.lenVs hop hd hu hx h)
    · exact .inl h
  · rename_i hx; split at h
    · rename_i hu; exact .inr (AT.lenLit hop rfl hd hu hx h)
    · exact .inl h
  · rename_i hx; split at h
    · rename_i hu; exact .inr (AT.lenStr hop rfl hd hu hx h)
    · exact .inl h
  · exact .inl h

theorem AppOk.d2 {t t2 e : TypeId} {sz : Nat} (h : AppOk P t t2 e sz) : ∃ d2, P.underlying t2 = some d2 ∧ (d2 = .slice e ∨ d2 = .string) := by
  have h2 := h.ht2
  unfold isSlStr at h2
  split at h2
  · rename_i hu; subst h2; exact ⟨_, hu, .inl rfl⟩
  · rename_i hu; exact ⟨_, hu, .inr rfl⟩
  · exact h2.elim

theorem aAppend_sound {x y : Operand} {t t2 e : TypeId} {sz key : Nat} (hop : o.op = .call ⟨.builtin .append, #[x, y], #[t, t2]⟩) (hd : dstOk st.n o.dst)
    (h : aAppend P st.S key t t2 e sz (AOp ro P o K Q st) (st.opnd x) (st.opnd y) fun v S' => K (St.put { st with S := S' } o.dst v)) : AOp ro P o K Q st := by
  unfold aAppend at h
  split at h
  · rename_i k a n cap hx
    split at h
    · rename_i a' cap' sz' xs hf
      obtain ⟨rfl, rfl, rfl, hn, hok, hke, h⟩ := h
      obtain ⟨ys, hy, hb, hk⟩ := aOpt_some h
      obtain ⟨d2, hu2, hd2⟩ := hok.d2
      obtain ⟨z, hz, hzs⟩ := hok.hz
      obtain ⟨m, hm, hmb⟩ := hok.hb
      obtain ⟨S1, S2, happ, hset⟩ := AppTo.vs hf hn
      refine AOp.append hop hd hok.ht hu2 hd2 hok.hs hz hzs hm hmb (by rw [hx]; exact happ) hy hb hke fun a'' cap'' => ?_
      rw [← hset]; exact hk a'' cap''
    · exact h
  · rename_i hx
    obtain ⟨hok, hkk, h⟩ := h
    obtain ⟨ys, hy, hb, hk⟩ := aOpt_some h
    obtain ⟨d2, hu2, hd2⟩ := hok.d2
    obtain ⟨z, hz, hzs⟩ := hok.hz
    obtain ⟨m, hm, hmb⟩ := hok.hb
    refine AOp.append hop hd hok.ht hu2 hd2 hok.hs hz hzs hm hmb (by rw [hx]; exact AppTo.nil st.S key sz) hy (by simpa using hb) (.inl hkk) fun a'' cap'' => ?_
    simpa using hk a'' cap''
  · rename_i sz' xs hx
    obtain ⟨rfl, hok, hkk, h⟩ := h
    obtain ⟨ys, hy, hb, hk⟩ := aOpt_some h
    obtain ⟨d2, hu2, hd2⟩ := hok.d2
    obtain ⟨z, hz, hzs⟩ := hok.hz
    obtain ⟨m, hm, hmb⟩ := hok.hb
    exact AOp.append hop hd hok.ht hu2 hd2 hok.hs hz hzs hm hmb (by rw [hx]; exact AppTo.full st.S hkk _ xs) hy hb (.inl hkk) fun a'' cap'' => hk a'' cap''
  · exact h

theorem aSlice_sound {D : Prop} {t : TypeId} {x : Operand} {lo hi : Option Operand} (hop : o.op = .slice t x lo hi none) (hd : dstOk st.n o.dst)
    (h : aSlice st (P.underlying t) (szA P) lo hi D (fz st.S (st.opnd x)) fun v => K (st.put o.dst v)) : D ∨ ATake P o K st := by
  unfold aSlice at h
  have hle := VLe.fz st.S (st.opnd x)
  split at h
  · rename_i s hx
    obtain ⟨hu, h⟩ := h
    obtain ⟨l, hl, h⟩ := aOpt_some h
    obtain ⟨u, hh, h1, h2, h3, h4⟩ := aOpt_some h
    exact .inr (AT.sliceStr hop hd hu (by rw [← hx]; exact hle) hl hh h1 h2 h3 h4)
  · rename_i full sz xs hx
    split at h
    · rename_i e hu
      obtain ⟨hs, h⟩ := h
      obtain ⟨l, hl, h⟩ := aOpt_some h
      obtain ⟨u, hh, h1, h2, h3, h4⟩ := aOpt_some h
      exact .inr (AT.sliceSl hop hd hu hs (by rw [← hx]; exact hle) hl hh h1 h2 h3 h4)
    · exact .inl h
  · exact .inl h

theorem aSliceL_sound {D : Prop} {t : TypeId} {x : Operand} {lo hi : Option Operand} (hop : o.op = .slice t x lo hi none) (hd : dstOk st.n o.dst)
    (h : aSliceL st (P.underlying t) (szA P) lo hi D (fz st.S (st.opnd x)) fun v => K (st.put o.dst v)) : D ∨ ATake P o K st := by
  unfold aSliceL at h
  split at h
  · rename_i b o' len cap hx
    split at h
    · rename_i e hu
      obtain ⟨sz, hs, h⟩ := aOpt_some h
      obtain ⟨l, hl, h⟩ := aOpt_some h
      obtain ⟨u, hh, h1, h2, h3, h4⟩ := aOpt_some h
      exact .inr (AT.sliceLit hop hd hu hs (fz_lit hx) hl hh h1 h2 h3 h4)
    · exact .inl h
  · exact aSlice_sound hop hd h

theorem aMake_sound {t : TypeId} {x y : Operand} (hop : o.op = .makeSlice t x y) (hd : dstOk st.n o.dst) (h : aMake P st (AOp ro P o K Q st) (P.underlying t) (st.opnd x) (st.opnd y) fun v S' => K (St.put { st with S := S' } o.dst v)) : AOp ro P o K Q st := by
  unfold aMake at h
  split at h
  · rename_i k n k' n' hx hy
    split at h
    · rename_i e hu
      obtain ⟨rfl, hs, h⟩ := h
      obtain ⟨z, hz, hzc, h⟩ := aOpt_some h
      obtain ⟨m, hm, h0, h1, h2, h3⟩ := aOpt_some h
      exact AOp.makeSlice1 hop hd hu hs hz hzc hm hx hy h0 h1 h2 h3
    · exact h
  · exact h

theorem aSlice3_sound {D : Prop} {t : TypeId} {x : Operand} {lo : Option Operand} {hi mx : Operand} (hop : o.op = .slice t x lo (some hi) (some mx)) (hd : dstOk st.n o.dst)
    (h : aSlice3 st (P.underlying t) (szA P) lo hi mx D (fz st.S (st.opnd x)) fun v => K (st.put o.dst v)) : D ∨ ATake P o K st := by
  unfold aSlice3 at h
  have hle := VLe.fz st.S (st.opnd x)
  split at h
  · rename_i full sz xs hx
    split at h
    · rename_i e hu
      obtain ⟨hs, h⟩ := h
      obtain ⟨l, hl, h⟩ := aOpt_some h
      obtain ⟨u, hh, h⟩ := aOpt_some h
      obtain ⟨m, hm, h1, h2, h3, h4, h5⟩ := aOpt_some h
      exact .inr (AT.sliceSl3 hop hd hu hs (by rw [← hx]; exact hle) hl hh hm h1 h2 h3 h4 h5)
    · exact .inl h
  · exact .inl h

theorem partsOk_eq {len : Nat} {parts : List (Nat × Operand)} (h : partsOk len parts = true) : parts = ((parts.map (·.2)).zipIdx 0).map (fun x => (x.2, x.1)) ∧ len = (parts.map (·.2)).length := by
  have h := eq_of_beq h
  have hl : parts.length = len := by have := congrArg List.length h; simpa using this
  refine ⟨List.ext_getElem? fun i => ?_, by simpa using hl.symm⟩
  have hi := congrArg (·[i]?) h
  simp only [List.getElem?_map] at hi ⊢
  cases hp : parts[i]? with
  | none => simp [hp]
  | some p =>
    have hlt : i < len := by rw [← hl]; exact (List.getElem?_eq_some_iff.1 hp).1
    simp [hp, hlt] at hi
    simp [hp]
    obtain ⟨a, b⟩ := p
    simp at hi; subst hi; rfl

theorem aop_sound (h : aop ro P o K Q st) : AOp ro P o K Q st := by
  obtain ⟨hd, h⟩ := h
  unfold aopB at h
  split at h
  · rename_i x hop; exact ATake.aop (AT.move hop hd h)
  · rename_i x hop; exact ATake.aop (AT.assign hop hd h)
  · rename_i c x y hop
    unfold aPick at h
    split at h
    · rename_i b hc; exact ATake.aop (AT.pick hop hd hc h)
    · exact h.elim
  · rename_i T hop
    obtain ⟨z, hz, h⟩ := aOpt_some h
    exact AOp.alloc hop hd hz h
  · rename_i T x hop; exact AOp.box hop hd h.1 h.2
  · rename_i T x hop
    obtain ⟨v, hv, h⟩ := aOpt_some h
    obtain ⟨cs, hc, hr⟩ := Option.bind_eq_some_iff.1 hv
    exact AOp.load hop hd hc hr h
  · rename_i T p x hop; exact aStore_sound hop hd h
  · rename_i x hop
    unfold aNil at h
    split at h
    · rename_i ad hx; exact ATake.aop (AT.nilCheck hop hd hx h)
    · rename_i cs hx; exact ATake.aop (AT.nilCheck_pe hop hd hx h)
    · exact h
  · rename_i op t x hop; exact (aUn_sound hop hd h).elim id ATake.aop
  · rename_i op t x y t' hop; exact (aBinN_sound hop hd h).elim id ATake.aop
  · rename_i s d x hop
    rcases aConvX_sound (ro := ro) (Q := Q) hop hd h with (h | h) | h
    · exact h
    · exact ATake.aop h
    · exact h.2
  · rename_i x ix hop
    unfold aExtract at h
    split at h
    · rename_i vs hx
      obtain ⟨v, hv, h⟩ := aOpt_some h
      exact ATake.aop (AT.extract hop hd hx hv h)
    · exact h
  · rename_i xT x f hop
    unfold aField at h
    split at h
    · rename_i fs cs hu hx
      obtain ⟨fl, hf, h⟩ := aOpt_some h
      obtain ⟨v, hv, h⟩ := aOpt_some h
      exact ATake.aop (AT.field hop hd hu hf hx hv h)
    · exact h
  · rename_i s x f hop
    unfold aFieldAddr at h
    split at h
    · rename_i fs hu
      obtain ⟨fl, hf, h0, h⟩ := aOpt_some h
      obtain ⟨n, hn, hn0⟩ := aOpt_some h0
      obtain ⟨q, hq, h⟩ := aOpt_some h
      exact ATake.aop (AT.fieldAddr hop hd hu hf hn hn0 hq h)
    · exact h
  · rename_i t x ix hop; exact (aIndexAddr_sound hop hd h).elim id ATake.aop
  · rename_i t x ix hop
    unfold aIndex at h
    split at h
    · rename_i s k i hx hi
      obtain ⟨hu, h0, h1, h⟩ := h
      exact ATake.aop (AT.indexStr hop hd hu hx hi h0 h1 h)
    · exact h
  · rename_i t parts hop
    unfold aBuild at h
    split at h
    · rename_i fs hu
      obtain ⟨z, hz, h⟩ := aOpt_some h
      obtain ⟨ps, hps, h⟩ := aOpt_some h
      obtain ⟨cs, hcs, h⟩ := aOpt_some h
      exact ATake.aop (AT.build hop hd hz hu hps hcs h)
    · exact h
  · rename_i t len parts hop
    unfold aBuildSlice at h
    split at h
    · rename_i e hu
      obtain ⟨hp, hz, h⟩ := h
      obtain ⟨sz, hs, h0, hb, hv, h⟩ := aOpt_some h
      obtain ⟨z, hz⟩ := Option.isSome_iff_exists.1 hz
      obtain ⟨hp1, hp2⟩ := partsOk_eq hp
      have e1 : (parts.toList.map (·.2)).map (fun x => fz st.S (st.opnd x)) = parts.toList.map fun p => fz st.S (st.opnd p.2) := by rw [List.map_map]; rfl
      exact AOp.buildSlice hop hd hu hs hz h0 hp1 hp2 hb (by rw [e1]; exact hv) (by rw [e1]; exact h)
    · exact h
  · rename_i t x hop
    obtain ⟨d, hu, hi, h⟩ := aOpt_some h
    exact ATake.aop (AT.makeInterface hop hd hu hi h)
  · rename_i fn f c hop; exact ATake.aop (AT.makeFunc hop hd h)
  · rename_i x xT t hop
    obtain ⟨d, hu, hi, h⟩ := aOpt_some h
    obtain ⟨u, hx, h⟩ := aOpt_some h
    exact ATake.aop (AT.typeAssert hop hd hu hi hx h)
  · rename_i t x lo hi hop; exact (aSliceL_sound hop hd h).elim id ATake.aop
  · rename_i t x lo hi mx hop; exact (aSlice3_sound hop hd h).elim id ATake.aop
  · rename_i t x y hop; exact aMake_sound hop hd h
  · rename_i x hop
    unfold aPanic at h
    split at h
    · rename_i t v hx; exact AOp.panic hop hx h
    · exact h
  · rename_i c hop
    obtain ⟨callee, args, tys⟩ := c
    cases callee with
    | value f =>
      simp only at h
      unfold aDefer at h
      split at h
      · rename_i fn first captured hf
        obtain ⟨h1, h2, h3⟩ := h
        subst h2
        exact AOp.defer h1 hop hd hf h3
      · exact h
    | builtin b => exact h
    | invoke r m => exact h
  · rename_i c hop
    obtain ⟨callee, args, tys⟩ := c
    cases callee with
    | value f =>
      simp only at h
      unfold aCall at h
      split at h
      · rename_i g first captured hf
        unfold aGo at h
        split at h
        · rename_i hg; exact AOp.call hop hd hf hg h
        · exact h
      · exact h
    | builtin b =>
      simp only at h
      unfold aBuiltin at h
      split at h
      · rename_i x t hargs htys
        obtain rfl : args = #[x] := Array.ext' (by simpa using hargs)
        obtain rfl : tys = #[t] := Array.ext' (by simpa using htys)
        exact (aLen_sound hop hd h).elim id ATake.aop
      · rename_i x y hargs
        obtain rfl : args = #[x, y] := Array.ext' (by simpa using hargs)
        unfold aMax at h
        split at h
        · rename_i k a k' b hx hy; exact ATake.aop (AT.max hop hd hx hy h)
        · exact h
      · rename_i x y hargs
        obtain rfl : args = #[x, y] := Array.ext' (by simpa using hargs)
        unfold aMin at h
        split at h
        · rename_i k a k' b hx hy; exact ATake.aop (AT.min hop hd hx hy h)
        · exact h
      · rename_i x hargs
        obtain rfl : args = #[x] := Array.ext' (by simpa using hargs)
        unfold aSData at h
        split at h
        · rename_i hx; exact ATake.aop (AT.sliceData hop hd hx h.1 h.2)
        · rename_i hx; exact ATake.aop (AT.sliceDataLit hop hd hx h)
        · exact h
      · rename_i x y t t2 hargs htys
        obtain rfl : args = #[x, y] := Array.ext' (by simpa using hargs)
        obtain rfl : tys = #[t, t2] := Array.ext' (by simpa using htys)
        unfold aAppendT at h
        split at h
        · rename_i e hu
          obtain ⟨sz, hs, h⟩ := aOpt_some h
          exact aAppend_sound hop hd h
        · exact h
      · exact h
    | invoke r m => exact h
  · exact h

theorem aopT_sound (hd : dstOk st.n o.dst) (h : aopT P o K st o.op) : ATake P o K st := by
  unfold aopT at h
  split at h
  · rename_i x hop; exact AT.move hop hd h
  · rename_i x hop; exact AT.assign hop hd h
  · rename_i c x y hop
    unfold aPick at h
    split at h
    · rename_i b hc; exact AT.pick hop hd hc h
    · exact h.elim
  · rename_i T x hop
    unfold aLoadPe at h
    split at h
    · rename_i cs hx
      obtain ⟨v, hv, h⟩ := aOpt_some h
      exact AT.loadPe hop hd hx hv h
    · exact h.elim
  · rename_i x hop
    unfold aNil at h
    split at h
    · rename_i ad hx; exact AT.nilCheck hop hd hx h
    · rename_i cs hx; exact AT.nilCheck_pe hop hd hx h
    · exact h.elim
  · rename_i op t x hop; exact (aUn_sound hop hd h).elim False.elim id
  · rename_i op t x y t' hop; exact (aBinN_sound hop hd h).elim False.elim id
  · rename_i s d x hop
    rcases aConvX_sound (ro := none) (Q := fun _ _ => False) hop hd h with (h | h) | h
    · exact h.elim
    · exact h
    · cases h.1
  · rename_i x ix hop
    unfold aExtract at h
    split at h
    · rename_i vs hx
      obtain ⟨v, hv, h⟩ := aOpt_some h
      exact AT.extract hop hd hx hv h
    · exact h.elim
  · rename_i xT x f hop
    unfold aField at h
    split at h
    · rename_i fs cs hu hx
      obtain ⟨fl, hf, h⟩ := aOpt_some h
      obtain ⟨v, hv, h⟩ := aOpt_some h
      exact AT.field hop hd hu hf hx hv h
    · exact h.elim
  · rename_i s x f hop
    unfold aFieldAddr at h
    split at h
    · rename_i fs hu
      obtain ⟨fl, hf, h0, h⟩ := aOpt_some h
      obtain ⟨n, hn, hn0⟩ := aOpt_some h0
      obtain ⟨q, hq, h⟩ := aOpt_some h
      exact AT.fieldAddr hop hd hu hf hn hn0 hq h
    · exact h.elim
  · rename_i t x ix hop; exact (aIndexAddr_sound hop hd h).elim False.elim id
  · rename_i t x ix hop
    unfold aIndex at h
    split at h
    · rename_i s k i hx hi
      obtain ⟨hu, h0, h1, h⟩ := h
      exact AT.indexStr hop hd hu hx hi h0 h1 h
    · exact h.elim
  · rename_i t parts hop
    unfold aBuild at h
    split at h
    · rename_i fs hu
      obtain ⟨z, hz, h⟩ := aOpt_some h
      obtain ⟨ps, hps, h⟩ := aOpt_some h
      obtain ⟨cs, hcs, h⟩ := aOpt_some h
      exact AT.build hop hd hz hu hps hcs h
    · exact h.elim
  · rename_i t x hop
    obtain ⟨d, hu, hi, h⟩ := aOpt_some h
    exact AT.makeInterface hop hd hu hi h
  · rename_i fn f c hop; exact AT.makeFunc hop hd h
  · rename_i x xT t hop
    obtain ⟨d, hu, hi, h⟩ := aOpt_some h
    obtain ⟨u, hx, h⟩ := aOpt_some h
    exact AT.typeAssert hop hd hu hi hx h
  · rename_i t x lo hi hop; exact (aSliceL_sound hop hd h).elim False.elim id
  · rename_i t x lo hi mx hop; exact (aSlice3_sound hop hd h).elim False.elim id
  · rename_i c hop
    obtain ⟨callee, args, tys⟩ := c
    cases callee with
    | builtin b =>
      simp only at h
      unfold aBuiltinT at h
      split at h
      · rename_i x t hargs htys
        obtain rfl : args = #[x] := Array.ext' (by simpa using hargs)
        obtain rfl : tys = #[t] := Array.ext' (by simpa using htys)
        exact (aLen_sound hop hd h).elim False.elim id
      · rename_i x y hargs
        obtain rfl : args = #[x, y] := Array.ext' (by simpa using hargs)
        unfold aMax at h
        split at h
        · rename_i k a k' b hx hy; exact (AT.max hop hd hx hy h)
        · exact h.elim
      · rename_i x y hargs
        obtain rfl : args = #[x, y] := Array.ext' (by simpa using hargs)
        unfold aMin at h
        split at h
        · rename_i k a k' b hx hy; exact (AT.min hop hd hx hy h)
        · exact h.elim
      · rename_i x hargs
        obtain rfl : args = #[x] := Array.ext' (by simpa using hargs)
        unfold aSData at h
        split at h
        · rename_i hx; exact (AT.sliceData hop hd hx h.1 h.2)
        · rename_i hx; exact (AT.sliceDataLit hop hd hx h)
        · exact h.elim
      · exact h.elim
    | _ => exact h.elim
  · exact h.elim

end

end Go.AW
