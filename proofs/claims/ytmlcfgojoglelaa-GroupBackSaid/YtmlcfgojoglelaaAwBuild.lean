/- The engine AW, part 18: what strings.Builder does with pointers; slices of one's own that are handed back. -/
import Derived.Test.YtmlcfgojoglelaaAwFreeze
import Derived.Lib.UnsafeStr
import Derived.Lib.Builder
import Derived.Laws.Externs
import Derived.LaidEqlPtr
set_option linter.unusedVariables false
set_option linter.unusedSimpArgs false
namespace Go.AW

def findTy : List Res → Nat → Option TypeId
  | [], _ => none
  | .objT b _ T :: S, x => if b = x then T else findTy S x
  | _ :: S, x => findTy S x
@[go_sem] theorem findTy_obj {S : List Res} {x y : Nat} {cs : List V} {tt : Option TypeId} : findTy (.objT x cs tt :: S) y = if x = y then tt else findTy S y := rfl
@[go_sem] theorem findTy_vec {S : List Res} {y k c z : Nat} {a : Option Addr} {xs : List V} : findTy (.vec k a c z xs :: S) y = findTy S y := rfl
@[go_sem] theorem findTy_raw {S : List Res} {y x : Nat} {o : Obj} : findTy (.raw x o :: S) y = findTy S y := rfl

theorem Inv.objTy {G : Im} {w : World} {S : List Res} (h : Inv G w S) {b : Nat} {cs : List V} {T : TypeId} (hf : findObj S b = some cs) (ht : findTy S b = some T) :
    ∃ us, w.heap[b]? = some (.cells us T (0, 0)) ∧ us.size = cs.length := by
  have key : ∀ S : List Res, findObj S b = some cs → findTy S b = some T → Res.objT b cs (some T) ∈ S := by
    intro S
    induction S with
    | nil => intro h; simp [findObj] at h
    | cons r S ih =>
      intro h1 h2
      cases r with
      | objT x ys tt =>
        simp only [findObj, findTy] at h1 h2
        split at h1
        · rename_i e; subst e; simp at h1 h2; subst h1 h2; exact List.mem_cons_self
        · rename_i e; rw [if_neg e] at h2; exact List.mem_cons_of_mem _ (ih h1 h2)
      | vec => exact List.mem_cons_of_mem _ (ih (by simpa [findObj] using h1) (by simpa [findTy] using h2))
      | raw => exact List.mem_cons_of_mem _ (ih (by simpa [findObj] using h1) (by simpa [findTy] using h2))
      | lp => exact List.mem_cons_of_mem _ (ih (by simpa [findObj] using h1) (by simpa [findTy] using h2))
  obtain ⟨us, T', h1, h2, _, h4⟩ := h.res _ (key S hf ht)
  obtain rfl := h4 T rfl
  exact ⟨us, h1, by rw [h2.1]; simp⟩

section
variable {ro : Option Nat} {P : Program} {o : Oper} {K : St → Prop} {Q : Exit → St → Prop} {st : St}

theorem AOp.toUnsafe {s d t T : TypeId} {x : Operand} {b : Nat} {cs : List V} {j : TypeInfo} (hop : o.op = .convert s d x) (hd : dstOk st.n o.dst) (hx : st.opnd x = .lit (.pointer (some ⟨b, 0, none⟩))) (hf : findObj st.S b = some cs) (ht : findTy st.S b = some T)
    (hs : P.underlying s = some (.pointer t)) (hdd : P.underlying d = some .unsafePointer) (hj : P.info? t = some j) (hjs : j.size ≠ 0) (hc : 0 < cs.length) (hk : K (st.put o.dst (.lit (.pointer (some ⟨b, 0, none⟩))))) : AOp ro P o K Q st :=
  AOp.pure hd (by rw [hop]; rfl) (fun G w a hr => by
    obtain ⟨us, h1, h2⟩ := hr.inv.objTy hf ht
    refine ⟨_, ?_, .lit _⟩
    have hsh : w.shape? b = some (T, us.size) := by simp [World.shape?, h1]
    have := Lib.run_to_unsafe (P := P) w ⟨b, 0, none⟩ hs hdd hj hjs hsh (by rw [h2]; exact hc)
    simp only [execOp, hop, hr.lit hx, this, Sem.run_bind, Result.andThen_ok, Sem.run_pure]) hk

theorem AOp.fromUnsafe {s d u T : TypeId} {x : Operand} {b : Nat} {cs : List V} {j : TypeInfo} (hop : o.op = .convert s d x) (hd : dstOk st.n o.dst) (hx : st.opnd x = .lit (.pointer (some ⟨b, 0, none⟩))) (hf : findObj st.S b = some cs) (ht : findTy st.S b = some T)
    (hs : P.underlying s = some .unsafePointer) (hdd : P.underlying d = some (.pointer u)) (hj : P.info? u = some j) (hl : liesAt P P.depth T (cs.length / P.cellsOf T) 0 u 1 = true) (hk : K (st.put o.dst (.lit (.pointer (some ⟨b, 0, none⟩))))) : AOp ro P o K Q st :=
  AOp.pure hd (by rw [hop]; rfl) (fun G w a hr => by
    obtain ⟨us, h1, h2⟩ := hr.inv.objTy hf ht
    refine ⟨_, ?_, .lit _⟩
    have hsh : w.shape? b = some (T, us.size) := by simp [World.shape?, h1]
    have := Lib.run_from_unsafe (P := P) w ⟨b, 0, none⟩ hs hdd hj hsh (by rw [h2]; exact hl)
    simp only [execOp, hop, hr.lit hx, this, Sem.run_bind, Result.andThen_ok, Sem.run_pure]) hk

/-- A call of a function without a body, that hands its argument back. -/
theorem AOp.same {f : FuncId} {x : Operand} {tys : Array TypeId} {v : Value} (hop : o.op = .call ⟨.value (.func f), #[x], tys⟩) (hd : dstOk st.n o.dst) (hx : st.opnd x = .lit v)
    (hg : ∀ v w, (callFunc f #[v]).run P w = .ok (.value v) w) (hk : K (st.put o.dst (.lit v))) : AOp ro P o K Q st :=
  AOp.pure hd (by rw [hop]; rfl) (fun G w a hr => by
    refine ⟨_, ?_, .lit _⟩
    have h0 : a.eval (.func f) = .func (.func f) #[] #[] := rfl
    simp only [execOp, hop, resolve, h0, Deferred.ofValue, Sem.run_bind, Sem.run_pure, Result.andThen_ok, invoke]
    simpa [hr.lit hx] using hg v w) hk

theorem run_eqGuard_ptr (op : BinOp) (t : TypeId) (x y : Operand) (a b : Option Addr) (w : World) : (eqGuard op t x y (.pointer a) (.pointer b)).run P w = .ok () w := by cases op <;> rfl

theorem AT.ptrNil {op : BinOp} {t t' e : TypeId} {x y : Operand} {a : Option Addr} (hop : o.op = .binOp op t x y t') (hd : dstOk st.n o.dst) (ht : P.underlying t = some (.pointer e)) (hx : st.opnd x = .lit (.pointer a)) (hy : st.opnd y = .lit (.pointer none))
    (hk : (op = .eql ∧ K (st.put o.dst (.lit (.bool a.isNone)))) ∨ (op = .neq ∧ K (st.put o.dst (.lit (.bool a.isSome))))) : ATake P o K st := by
  have h : ∀ (d : Nat) w, (Op.equalIn (d + 1) t (.pointer a) (.pointer none)).run P w = .ok a.isNone w := fun d w => by
    cases a <;> simp [Op.equalIn, run_underlying ht]
  rcases hk with ⟨rfl, hk⟩ | ⟨rfl, hk⟩
  · refine AT.pure hd (by rw [hop]; rfl) (fun G w a' hr => ⟨_, fun w _ => ?_, .lit _⟩) hk
    simp only [execOp, hop, hr.lit hx, hr.lit hy, Sem.run_bind, Result.andThen_ok, Sem.run_pure, run_eqGuard_ptr, binOp]
    simp [Op.equal, Op.maxDepth, h 9999]
  · refine AT.pure hd (by rw [hop]; rfl) (fun G w a' hr => ⟨_, fun w _ => ?_, .lit _⟩) hk
    simp only [execOp, hop, hr.lit hx, hr.lit hy, Sem.run_bind, Result.andThen_ok, Sem.run_pure, run_eqGuard_ptr, binOp]
    cases a <;> simp [Op.equal, Op.maxDepth, h 9999]

theorem AT.ptrSame {t t' e : TypeId} {x y : Operand} {a : Addr} {j : TypeInfo} (hop : o.op = .binOp .neq t x y t') (hd : dstOk st.n o.dst) (ht : P.underlying t = some (.pointer e)) (hj : P.info? e = some j) (hx : st.opnd x = .lit (.pointer (some a))) (hy : st.opnd y = .lit (.pointer (some a)))
    (hk : K (st.put o.dst (.lit (.bool false)))) : ATake P o K st :=
  AT.pure hd (by rw [hop]; rfl) (fun G w a' hr => ⟨_, fun w _ => by
    simp only [execOp, hop, hr.lit hx, hr.lit hy, run_eqGuard_ptr, Lib.run_neq_ptr_same (P := P) w a ht hj, Sem.run_bind, Result.andThen_ok, Sem.run_pure], .lit _⟩) hk

/-- unsafe.String of no byte. -/
theorem AT.uString0 {x y : Operand} {t t2 : TypeId} {a : Option Addr} (hop : o.op = .call ⟨.builtin .unsafeString, #[x, y], #[t, t2]⟩) (hd : dstOk st.n o.dst)
    (hx : st.opnd x = .lit (.pointer a)) (hy : st.opnd y = .lit (.int .i64 0)) (hk : K (st.put o.dst (.lit (.string .empty)))) : ATake P o K st :=
  AT.pure hd (by rw [hop]; rfl) (fun G w a' hr => by
    refine ⟨_, fun w _ => ?_, .lit _⟩
    simp only [execOp, hop]
    simp [resolve, invoke, builtin, hr.lit hx, hr.lit hy, Lib.run_unsafeString_none]) hk

theorem flat_u8 : ∀ bs : List UInt8, ((bs.map fun c => (V.lit (.int .u8 c.toNat))).flatMap V.cells) = bs.map fun c => V.lit (.int .u8 c.toNat)
  | [] => rfl
  | c :: bs => by rw [List.map_cons, List.flatMap_cons, flat_u8 bs]; rfl
theorem findObj_del : ∀ (S1 S2 : List Res) (k : Nat) (a : Option Addr) (cap sz : Nat) (xs : List V) (b : Nat), findObj (S1 ++ S2) b = findObj (S1 ++ .vec k a cap sz xs :: S2) b
  | [], S2, k, a, cap, sz, xs, b => rfl
  | r :: S1, S2, k, a, cap, sz, xs, b => by
    have ih := findObj_del S1 S2 k a cap sz xs b
    cases r <;> simp only [List.cons_append, findObj] <;> first | exact ih | (split <;> first | rfl | exact ih)

def delVec : List Res → Nat → List Res
  | [], _ => []
  | .vec k a c z xs :: S, x => if k = x then S else .vec k a c z xs :: delVec S x
  | .objT b cs T :: S, x => .objT b cs T :: delVec S x
  | .raw b o :: S, x => .raw b o :: delVec S x
  | .lp b n env st p ps as bd db :: S, x => .lp b n env st p ps as bd db :: delVec S x
@[go_sem] theorem delVec_vec {k x c z : Nat} {a : Option Addr} {xs : List V} {S : List Res} : delVec (.vec k a c z xs :: S) x = if k = x then S else .vec k a c z xs :: delVec S x := rfl
@[go_sem] theorem delVec_obj {x b : Nat} {cs : List V} {T : Option TypeId} {S : List Res} : delVec (.objT b cs T :: S) x = .objT b cs T :: delVec S x := rfl
@[go_sem] theorem delVec_raw {x b : Nat} {o : Obj} {S : List Res} : delVec (.raw b o :: S) x = .raw b o :: delVec S x := rfl
@[go_sem] theorem delVec_lp {x b n db : Nat} {env : List (Nat × V)} {st : LoopState} {p : Option Code} {ps : Array Tmp} {as bd : Code} {S : List Res} : delVec (.lp b n env st p ps as bd db :: S) x = .lp b n env st p ps as bd db :: delVec S x := rfl
theorem delVec_split {S : List Res} {k : Nat} {a : Option Addr} {cap sz : Nat} {xs : List V} (h : findVec S k = some (a, cap, sz, xs)) :
    ∃ S1 S2, S = S1 ++ .vec k a cap sz xs :: S2 ∧ delVec S k = S1 ++ S2 := by
  induction S with
  | nil => simp [findVec] at h
  | cons r S ih =>
    cases r with
    | vec k' a' cap' sz' xs' =>
      simp only [findVec] at h
      split at h
      · rename_i e; subst e
        simp at h; obtain ⟨rfl, rfl, rfl, rfl⟩ := h
        exact ⟨[], S, rfl, by simp [delVec]⟩
      · rename_i e
        obtain ⟨S1, S2, h1, h2⟩ := ih h
        exact ⟨_ :: S1, S2, by rw [h1]; rfl, by simp [delVec, e, h2]⟩
    | objT b cs => obtain ⟨S1, S2, h1, h2⟩ := ih h; exact ⟨_ :: S1, S2, by rw [h1]; rfl, by simp [delVec, h2]⟩
    | raw b o => obtain ⟨S1, S2, h1, h2⟩ := ih h; exact ⟨_ :: S1, S2, by rw [h1]; rfl, by simp [delVec, h2]⟩
    | lp => obtain ⟨S1, S2, h1, h2⟩ := ih h; exact ⟨_ :: S1, S2, by rw [h1]; rfl, by simp [delVec, h2]⟩
theorem delVec_sub (k : Nat) : ∀ S : List Res, (delVec S k).Sublist S
  | [] => List.Sublist.refl _
  | r :: S => by
    have ih := delVec_sub k S
    cases r <;> simp only [delVec] <;> first | exact ih.cons_cons _ | (split <;> first | exact List.sublist_cons_self _ _ | exact ih.cons_cons _)

/-- unsafe.String of what was written: the row is frozen, and nobody's any more. -/
theorem AOp.uString {x y : Operand} {t t2 e : TypeId} {b0 : Nat} {a : Option Addr} {cap : Nat} {bs : List UInt8} (hop : o.op = .call ⟨.builtin .unsafeString, #[x, y], #[t, t2]⟩) (hd : dstOk st.n o.dst)
    (he : e < 100000) (hp : P.underlying t = some (.pointer e)) (hc : P.cellsOf e = 1) (hf : findVec st.S (bk b0 e) = some (a, cap, 1, bs.map fun c => .lit (.int .u8 c.toNat))) (ha : a ≠ none)
    (hx : st.opnd x = .lit (.pointer a)) (hy : st.opnd y = .lit (.int .i64 bs.length)) (hn : bs.length ≤ 4294967296) (h0 : bs ≠ []) (hk : K (St.put { st with S := delVec st.S (bk b0 e) } o.dst (.lit (.string ⟨bs.toArray⟩)))) : AOp ro P o K Q st := by
  refine AOp.value hd (by rw [hop]; rfl) fun G w a' hr => ?_
  obtain ⟨S1, S2, hS, hdel⟩ := delVec_split hf
  rw [hdel] at hk
  have hi := hr.inv
  rw [hS] at hi
  obtain ⟨hrel, hown⟩ := hi.res (.vec (bk b0 e) a cap 1 (bs.map fun c => .lit (.int .u8 c.toNat))) (by simp)
  have hbig := bk_ge b0 e
  obtain ⟨g, us, T, rfl, hb, hfit, hT, hfree⟩ := hown (by cases a <;> simp [ownB, hbig] at ha ⊢)
  obtain ⟨hcap, rfl⟩ := hT hbig
  rw [bk_mod he] at hb
  obtain ⟨a0, cap0, vs, heq, hle0, _, _, hvs, hvl, hne⟩ := hrel.sl_cells
  simp at heq; obtain ⟨rfl, rfl⟩ := heq
  obtain ⟨b', o', hab, hG⟩ := hne (by simpa using h0)
  simp at hab; obtain ⟨rfl, rfl⟩ := hab
  have hflat : ((bs.map fun c => (V.lit (.int .u8 c.toNat))).flatMap V.cells) = bs.map fun c => V.lit (.int .u8 c.toNat) := by
    exact flat_u8 bs
  rw [hflat] at hvs
  have hcell : ∀ j x, bs[j]? = some x → w.cell? ((⟨g, 0, none⟩ : Addr).add j) = some (.int .u8 x.toNat) := fun j x hj => by
    have h1 : (bs.map fun c => V.lit (.int .u8 c.toNat))[j]? = some (V.lit (.int .u8 x.toNat)) := by simp [hj]
    obtain ⟨u, hu, hr1⟩ := hvs.get h1
    have := hr1.lit_inv; subst this
    rw [Addr.add_eq]
    exact hi.im _ _ _ (hG j _ hu)
  have hsh : w.shape? g = some (e, us.size) := by simp [World.shape?, hb]
  have hlen : bs.length ≤ us.size := by simp at hle0 hfit; omega
  have hrun := Lib.run_unsafeString_row (P := P) w t t2 o.type e hp hc g us.size hsh bs h0 hlen (by omega) hcell
  obtain ⟨S', hS'⟩ : ∃ S', S' = S1 ++ S2 := ⟨_, rfl⟩
  have hsub : S'.Sublist st.S := by rw [hS', hS]; exact List.Sublist.append (List.Sublist.refl _) (List.sublist_cons_self _ _)
  obtain ⟨hi', he'⟩ := hr.inv.sub hsub
  have hgb : g ∈ blks st.S := by
    rw [hS]; exact mem_blks.2 ⟨_, List.mem_append_right _ List.mem_cons_self, by simp [Res.blk, ownB, hbig]⟩
  have hgn : g ∉ blks S' := by
    have hnd := hi.nd
    rw [blks_append, blks_cons] at hnd
    rw [hS', blks_append]
    have hbl : (Res.vec (bk b0 e) (some ⟨g, 0, none⟩) cap 1 (bs.map fun c => V.lit (.int .u8 c.toNat))).blk = some g := by simp [Res.blk, ownB, hbig]
    rw [hbl] at hnd
    intro hm
    rcases List.mem_append.1 hm with h1 | h1
    · exact (List.nodup_append.1 hnd).2.2 g h1 g (by simp) rfl
    · have := (List.nodup_append.1 hnd).2.1
      simp at this; exact this.1 h1
  have hother : ∀ b, b ≠ g → (w.freeze ⟨g, 0, none⟩ bs.length).heap[b]? = w.heap[b]? := fun b hb' => by
    unfold World.freeze; split
    · rfl
    · simp only [Array.getElem?_modify]; rw [if_neg (Ne.symm hb')]
  have hcells : ∀ b o, (w.freeze ⟨g, 0, none⟩ bs.length).cell? ⟨b, o, none⟩ = w.cell? ⟨b, o, none⟩ := fun b o => by
    by_cases hbg : b = g
    · subst hbg
      unfold World.freeze; split
      · rfl
      · simp [World.cell?, Array.getElem?_modify, hb]
    · simp only [World.cell?, hother b hbg]
  have hsize : (w.freeze ⟨g, 0, none⟩ bs.length).heap.size = w.heap.size := by unfold World.freeze; split <;> simp
  have hfin : Evol st.S G w S' G (w.freeze ⟨g, 0, none⟩ bs.length) ∧ Inv G (w.freeze ⟨g, 0, none⟩ bs.length) S' := by
    refine ⟨⟨by omega, by unfold World.freeze; split <;> rfl, by unfold World.freeze; split <;> rfl, by unfold World.freeze; split <;> rfl, Im.le_refl _, fun b _ hb' => hother b (fun e => hb' (e ▸ hgb)), fun _ _ _ _ => rfl, he'.own⟩, ⟨fun b o u hg => by rw [hcells]; exact hi'.im b o u hg, fun r hr => ?_, hi'.nd⟩⟩
    exact Res.holds_of (hi'.res r hr) (Im.le_refl _) fun b hb' => ⟨hother b (fun e => hgn (e ▸ mem_blks.2 ⟨r, hr, hb'⟩)), fun _ => rfl⟩
  refine ⟨.string ⟨bs.toArray⟩, w.freeze ⟨g, 0, none⟩ bs.length, G,   .lit _, S', ?_, hfin.1, hfin.2, .lit _, by rw [hS']; exact hk⟩
  · simp only [execOp, hop, resolve, invoke, builtin, Sem.run_bind, Sem.run_pure, Result.andThen_ok]
    simp only [List.map_toArray, List.map_cons, List.map_nil, hr.lit hx, hr.lit hy, hrun, Result.andThen_ok]

end

theorem ACall.inv {P : Program} {f : FuncId} {args : List V} {S : List Res} {Q : Out → List Res → Prop} {φ : Prop} (h : ∀ G w, Inv G w S → φ) (hk : φ → ACall P f args S Q) : ACall P f args S Q := fun G w xs hv hi => hk (h G w hi) G w xs hv hi
theorem Inv.own_cap {G : Im} {w : World} {S : List Res} (h : Inv G w S) {k : Nat} {a : Option Addr} {cap sz : Nat} {xs : List V} (hf : findVec S k = some (a, cap, sz, xs)) (hk : 100000 ≤ k) (ha : a ≠ none) : cap ≠ 0 := by
  obtain ⟨S1, S2, hS, _⟩ := findVec_split hf
  obtain ⟨_, hown⟩ := h.res (.vec k a cap sz xs) (by rw [hS]; simp)
  obtain ⟨b, us, T, rfl, _, _, hT, _⟩ := hown (by cases a <;> simp [ownB, hk] at ha ⊢)
  have := (hT hk).1; omega
theorem Inv.own_some {G : Im} {w : World} {S : List Res} (h : Inv G w S) {k : Nat} {a : Option Addr} {cap sz : Nat} {xs : List V} (hf : findVec S k = some (a, cap, sz, xs)) (hx : xs ≠ []) : a ≠ none := by
  obtain ⟨S1, S2, hS, _⟩ := findVec_split hf
  obtain ⟨hrel, _⟩ := h.res (.vec k a cap sz xs) (by rw [hS]; simp)
  obtain ⟨a0, cap0, us, he, _, _, _, _, _, hne⟩ := hrel.sl_cells
  obtain ⟨b, o, h1, _⟩ := hne hx
  simp at he; rw [he.1, h1]; simp

/-! ### Sources of copies -/

def CopySrc (S : List Res) (y : V) (len : Nat) (src : List V) : Prop :=
  ∀ G w v, Inv G w S → VRel G y v → ∃ a slen scap, v = .slice (some a) slen scap ∧ src.length = Nat.min slen len ∧ ∃ us : List Value, VRels G src us ∧ (∀ j u, us[j]? = some u → w.cell? (a.add j) = some u) ∧ ∀ u ∈ us, u.oneCell' = true

theorem VRels.take {G : Im} {vs : List V} {xs : List Value} (h : VRels G vs xs) (n : Nat) : VRels G (vs.take n) (xs.take n) :=
  ⟨by simp [h.1], fun i v x hv hx => by
    rw [List.getElem?_take] at hv hx
    split at hv
    · rename_i hlt; rw [if_pos hlt] at hx; exact h.2 i v x hv hx
    · cases hv⟩
theorem one_of {c : V} (h1 : c.okv = true) (h2 : c.cells = [c]) : c.one = true := by
  cases c with
  | agg cs =>
    simp only [V.cells] at h2
    have := congrArg (fun l : List V => SizeOf.sizeOf l) h2
    simp at this
    omega
  | _ => exact h1
theorem okv_of {c : V} (h : c.one = true) : c.okv = true := by
  cases c <;> first | exact h | cases h
theorem flat_ones : ∀ {xs : List V}, (∀ x ∈ xs, x.cells = [x]) → xs.flatMap V.cells = xs
  | [], _ => rfl
  | x :: xs, h => by rw [List.flatMap_cons, h x List.mem_cons_self, flat_ones fun y hy => h y (List.mem_cons_of_mem _ hy)]; rfl

theorem CopySrc.sl {S : List Res} {full : Bool} {xs : List V} (hx : xs ≠ []) (hone : ∀ x ∈ xs, x.cells = [x]) (len : Nat) : CopySrc S (.sl full 1 xs) len (xs.take (Nat.min xs.length len)) := fun G w v hi hv => by
  obtain ⟨a, cap, us, rfl, hcap, _, hok, hus, hul, hne⟩ := hv.sl_cells
  obtain ⟨b, o, rfl, hG⟩ := hne hx
  have hfl : xs.flatMap V.cells = xs := flat_ones hone
  rw [hfl] at hus
  refine ⟨_, xs.length, cap, rfl, by rw [List.length_take]; show min (min _ _) _ = min _ _; omega, us.take (Nat.min xs.length len), hus.take _, fun j u hu => ?_, fun u hu => ?_⟩
  · rw [Addr.add_eq]
    rw [List.getElem?_take] at hu
    split at hu
    · exact hi.im _ _ _ (hG j u hu)
    · cases hu
  · refine VRel.one_cells hus (fun c hc => ?_) u (List.mem_of_mem_take hu)
    exact one_of (hok c hc).2 (hone c hc)

theorem CopySrc.own {S : List Res} {b o slen scap : Nat} {cs : List V} (hf : findObj S b = some cs) (hone : ∀ c ∈ cs, V.one c = true) (len : Nat) (hl : o + slen ≤ cs.length) :
    CopySrc S (.lit (.slice (some ⟨b, o, none⟩) slen scap)) len ((cs.drop o).take (Nat.min slen len)) := fun G w v hi hv => by
  have := hv.lit_inv; subst this
  obtain ⟨us, T, h1, h2, h3⟩ := hi.obj hf
  have hul : us.size = cs.length := by rw [h2.1]; simp
  refine ⟨_, slen, scap, rfl, by rw [List.length_take, List.length_drop]; show min (min _ _) _ = min _ _; omega, (us.toList.drop o).take (Nat.min slen len), (h2.drop o).take _, fun j u hu => ?_, fun u hu => ?_⟩
  · rw [Addr.add_eq]
    rw [List.getElem?_take] at hu
    split at hu
    · rw [List.getElem?_drop] at hu
      simp only [World.cell?, h1]
      simpa using hu
    · cases hu
  · exact VRel.one_cells h2 hone u (List.mem_of_mem_drop (List.mem_of_mem_take hu))

/-- A whole own slice, handed back and laid among what never changes. -/
theorem OLe.freezeSl {b n : Nat} {cs : List V} {tt : Option TypeId} {A B : List Res} {Q : Out → List Res → Prop} (hn : cs.length = n) (hone : ∀ c ∈ cs, c.cells = [c] ∧ V.one c = true) (h : Q (.ret (.sl true 1 cs)) (A ++ B)) :
    OLe (.ret (.lit (.slice (some ⟨b, 0, none⟩) n n))) (A ++ .objT b cs tt :: B) Q := fun G w e hi he => by
  obtain ⟨G1, he1, hi1, hv1⟩ := freeze1 (A := A) hi
  cases he with
  | ret hv =>
    have := hv.lit_inv; subst this
    refine ⟨G1, A ++ B, _, he1, hi1, .ret ?_, h⟩
    subst hn
    have hfl : cs.flatMap V.cells = cs := flat_ones fun x hx => (hone x hx).1
    generalize hp : (Value.pointer (some ⟨b, 0, none⟩)) = p at hv1
    cases hv1 with
    | pe b' o' us hG hh =>
      simp at hp; obtain ⟨rfl, rfl⟩ := hp
      refine .sl _ _ us (fun _ => rfl) (fun x hx => by rw [(hone x hx).1]; rfl) (fun x hx => ?_) (Nat.le_refl _) (fun _ => rfl) (by rw [hfl]; exact hG) (by rw [hfl]; exact hh)
      exact okv_of (hone x hx).2
end Go.AW
