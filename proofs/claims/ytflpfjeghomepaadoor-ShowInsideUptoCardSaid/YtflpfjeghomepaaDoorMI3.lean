/- A part of the proof: texts of one's own, merged. -/
import Derived.Test.YtflpfjeghomepaaDoorMI2
import Derived.Lib.UnsafeStr
import Derived.Lib.Builder
import Derived.Laws.Externs
import Derived.LaidEqlPtr
import Derived.Scope
import Derived.Lib.Bytealg
import Derived.Laws.BytesString
import Derived.Below
import Derived.Deep.Draws
import Derived.Sort.Grow
import Derived.Lib.LaidTab
set_option maxRecDepth 100000
set_option linter.unusedSimpArgs false
set_option linter.unusedVariables false
namespace Go.Proofs.YtflpfjeghomepaaDoor
open Go Go.AW Go.Proofs

def chunksI (n : Nat) (l : List Int) : List (List Int) := if h : l = [] ∨ n = 0 then [] else l.take n :: chunksI n (l.drop n)
termination_by l.length
decreasing_by
  have : l ≠ [] ∧ n ≠ 0 := not_or.1 h
  have : 0 < l.length := List.length_pos_iff.2 this.1
  simp; omega

def pl33 : Nat → DPlan
  | 3 => .take 0 (.take 1 (.take 2 (.take 3 (.take 4 (.take 5 (.take 6 .done))))))
  | _ => .done

theorem chunk_spec (full : Bool) (l : List Int) (n : Int) (hn : 1 ≤ n) (hl : l.length ≤ 4294967296) (S : List Res) (Q : Out → List Res → Prop)
    (h : Q (.ret (.func (.func 50) [] [.pe [.sl full 1 (l.map iV)], .pe [iV n]])) S) :
    ACall Tryd.prog 42 [.sl full 1 (l.map iV), iV n] S Q := by
  refine ACall.post ?_
  refine acall_of_awp Tryd.func42 rfl (by simp [go_sem]) (awp_sound pl0 _ (by kernel_rfl) _ _ ?_)
  simp [go_sem, iV]
  intro b hb b' hb'
  have hne : b' ≠ b := by simp [Fresh, blks, Res.blk] at hb'; exact hb'.1
  rw [show decide (n < 1) = false by simp; omega]
  simp [go_sem, iV, hne]
  exact done (List.Sublist.refl _) (.close2 h)

theorem chunk1_spec (y : Nat) (full : Bool) (l : List Int) (n : Nat) (hn : 1 ≤ n) (hn2 : n ≤ 4294967296) (hl : l.length ≤ 4294967296) (S : List Res) (Q : Out → List Res → Prop)
    (h : AIter Tryd.prog y ((chunksI n l).map fun c => [.sl true 1 (c.map iV)]) S fun S' => Q (.ret (.tuple [])) S') :
    ACall Tryd.prog 50 [.lit (.func (.yield y) #[] #[]), .pe [.sl full 1 (l.map iV)], .pe [iV n]] S Q := by
  refine acall_of_awp Tryd.func50 rfl (by simp [go_sem]) (awp_sound pl33 _ (by kernel_rfl) _ _ ?_)
  simp [go_sem, iV]
  refine AWP.loop (ι := Nat × List Res) (fun i => i.1 ≤ l.length + n ∧ AIter Tryd.prog y ((chunksI n (l.drop i.1)).map fun c => [.sl true 1 (c.map iV)]) i.2 fun S' => Q (.ret (.tuple [])) S') (fun i => l.length + n - i.1)
    (fun i => ⟨31, [(0, .lit (.func (.yield y) #[] #[])), (1, .pe [.sl full 1 (l.map iV)]), (2, .pe [iV n]), (4, iV i.1)], i.2, []⟩) (0, S) ⟨by omega, by simpa using h⟩ (StLe.env (by simp [go_sem, iV])) ?_
  rintro ⟨k, T⟩ ⟨hk, hit⟩
  simp only at hk hit
  refine awp_sound pl33 _ (by kernel_rfl) _ _ ?_
  simp [go_sem, iV]
  refine cCond_i (fun c1 => ?_) (fun c1 => ?_)
  · simp at c1
    have hm : IntKind.i64.wrap ((k : Int) + if l.length - k < n then ((l.length - k : Nat) : Int) else (n : Int)) = ((k + min n (l.length - k) : Nat) : Int) := by
      rw [w64 (by split <;> omega) (by split <;> omega)]; split <;> omega
    simp [go_sem, iV, pl33, one]
    rw [hm]
    refine ⟨by omega, by omega, by omega, ?_⟩
    refine AOp.yield rfl (by simp [go_sem]) rfl ?_
    simp [go_sem]
    have hne : l.drop k ≠ [] := by simp; omega
    rw [chunksI, dif_neg (by simp; omega)] at hit
    simp only [List.map_cons, AIter] at hit
    have hcs : List.drop k (List.take ((k : Int) + ((min n (l.length - k) : Nat) : Int)).toNat (List.map iV l)) = ((l.drop k).take n).map iV := by
      have e : ((k : Int) + ((min n (l.length - k) : Nat) : Int)).toNat = k + min n (l.length - k) := by omega
      rw [e, List.map_take, List.map_drop, List.drop_take]
      simp only [Nat.add_sub_cancel_left]
      rw [List.take_eq_take_iff]
      simp
    rw [hcs]
    refine hit.mono fun b S' hb => cCond_i (fun c2 => ?_) (fun c2 => ?_)
    · simp at c2
      subst c2
      simp [go_sem]
      exact done (List.Sublist.refl _) (by simpa using hb)
    · simp at c2
      subst c2
      simp [go_sem, iV]
      rw [if_pos rfl, List.drop_drop] at hb
      refine round (k + n, S') ⟨by omega, hb⟩ (by simp only; omega) (StLe.env ?_)
      rw [w64 (by omega) (by omega)]
      simp [go_sem, iV]
  · simp at c1
    simp [go_sem, iV]
    rw [List.drop_eq_nil_of_le c1, chunksI] at hit
    simp [AIter] at hit
    exact done (List.Sublist.refl _) hit
end Go.Proofs.YtflpfjeghomepaaDoor
set_option maxRecDepth 100000
set_option linter.unusedSimpArgs false
set_option linter.unusedVariables false
namespace Go.Proofs.YtflpfjeghomepaaDoor
open Go Go.AW Go.Proofs
end Go.Proofs.YtflpfjeghomepaaDoor
set_option maxRecDepth 100000
set_option linter.unusedSimpArgs false
set_option linter.unusedVariables false
namespace Go.Proofs.YtflpfjeghomepaaDoor
open Go Go.AW Go.Proofs

end Go.Proofs.YtflpfjeghomepaaDoor
set_option maxRecDepth 100000
set_option linter.unusedSimpArgs false
set_option linter.unusedVariables false
namespace Go.Proofs.YtflpfjeghomepaaDoor
open Go Go.AW Go.Proofs

end Go.Proofs.YtflpfjeghomepaaDoor
/- The engine AW, part 18: what strings.Builder does with pointers; slices of one's own that are handed back. -/
set_option linter.unusedVariables false
set_option linter.unusedSimpArgs false
namespace Go.AW

def findTy : List Res → Nat → Option TypeId
  | [], _ => none
  | .objT b _ T :: S, x => if b = x then T else findTy S x
  | _ :: S, x => findTy S x
@[go_sem] theorem findTy_obj {S : List Res} {x y : Nat} {cs : List V} {tt : Option TypeId} : findTy (.objT x cs tt :: S) y = if x = y then tt else findTy S y := rfl
@[go_sem] theorem findTy_vec {S : List Res} {y k c z : Nat} {a : Option Addr} {xs : List V} : findTy (.vec k a c z xs :: S) y = findTy S y := rfl
@[go_sem] theorem findTy_raw {S : List Res} {y x : Nat} {o : Obj} : findTy (.raw x o :: S) y = findTy S y := rfl

theorem Inv.objTy {G : Im} {w : World} {S : List Res} (h : Inv G w S) {b : Nat} {cs : List V} {T : TypeId} (hf : findObj S b = some cs) (ht : findTy S b = some T) :
    ∃ us, w.heap[b]? = some (.cells us T (0, 0)) ∧ us.size = cs.length := by
  have key : ∀ S : List Res, findObj S b = some cs → findTy S b = some T → Res.objT b cs (some T) ∈ S := by
    intro S
    induction S with
    | nil => intro h; simp [findObj] at h
    | cons r S ih =>
      intro h1 h2
      cases r with
      | objT x ys tt =>
        simp only [findObj, findTy] at h1 h2
        split at h1
        · rename_i e; subst e; simp at h1 h2; subst h1 h2; exact List.mem_cons_self
        · rename_i e; rw [if_neg e] at h2; exact List.mem_cons_of_mem _ (ih h1 h2)
      | vec => exact List.mem_cons_of_mem _ (ih (by simpa [findObj] using h1) (by simpa [findTy] using h2))
      | raw => exact List.mem_cons_of_mem _ (ih (by simpa [findObj] using h1) (by simpa [findTy] using h2))
      | lp => exact List.mem_cons_of_mem _ (ih (by simpa [findObj] using h1) (by simpa [findTy] using h2))
  obtain ⟨us, T', h1, h2, _, h4⟩ := h.res _ (key S hf ht)
  obtain rfl := h4 T rfl
  exact ⟨us, h1, by rw [h2.1]; simp⟩

section
variable {ro : Option Nat} {P : Program} {o : Oper} {K : St → Prop} {Q : Exit → St → Prop} {st : St}

theorem AOp.toUnsafe {s d t T : TypeId} {x : Operand} {b : Nat} {cs : List V} {j : TypeInfo} (hop : o.op = .convert s d x) (hd : dstOk st.n o.dst) (hx : st.opnd x = .lit (.pointer (some ⟨b, 0, none⟩))) (hf : findObj st.S b = some cs) (ht : findTy st.S b = some T)
    (hs : P.underlying s = some (.pointer t)) (hdd : P.underlying d = some .unsafePointer) (hj : P.info? t = some j) (hjs : j.size ≠ 0) (hc : 0 < cs.length) (hk : K (st.put o.dst (.lit (.pointer (some ⟨b, 0, none⟩))))) : AOp ro P o K Q st :=
  AOp.pure hd (by rw [hop]; rfl) (fun G w a hr => by
    obtain ⟨us, h1, h2⟩ := hr.inv.objTy hf ht
    refine ⟨_, ?_, .lit _⟩
    have hsh : w.shape? b = some (T, us.size) := by simp [World.shape?, h1]
    have := Lib.run_to_unsafe (P := P) w ⟨b, 0, none⟩ hs hdd hj hjs hsh (by rw [h2]; exact hc)
    simp only [execOp, hop, hr.lit hx, this, Sem.run_bind, Result.andThen_ok, Sem.run_pure]) hk

theorem AOp.fromUnsafe {s d u T : TypeId} {x : Operand} {b : Nat} {cs : List V} {j : TypeInfo} (hop : o.op = .convert s d x) (hd : dstOk st.n o.dst) (hx : st.opnd x = .lit (.pointer (some ⟨b, 0, none⟩))) (hf : findObj st.S b = some cs) (ht : findTy st.S b = some T)
    (hs : P.underlying s = some .unsafePointer) (hdd : P.underlying d = some (.pointer u)) (hj : P.info? u = some j) (hl : liesAt P P.depth T (cs.length / P.cellsOf T) 0 u 1 = true) (hk : K (st.put o.dst (.lit (.pointer (some ⟨b, 0, none⟩))))) : AOp ro P o K Q st :=
  AOp.pure hd (by rw [hop]; rfl) (fun G w a hr => by
    obtain ⟨us, h1, h2⟩ := hr.inv.objTy hf ht
    refine ⟨_, ?_, .lit _⟩
    have hsh : w.shape? b = some (T, us.size) := by simp [World.shape?, h1]
    have := Lib.run_from_unsafe (P := P) w ⟨b, 0, none⟩ hs hdd hj hsh (by rw [h2]; exact hl)
    simp only [execOp, hop, hr.lit hx, this, Sem.run_bind, Result.andThen_ok, Sem.run_pure]) hk

/-- A call of a function without a body, that hands its argument back. -/
theorem AOp.same {f : FuncId} {x : Operand} {tys : Array TypeId} {v : Value} (hop : o.op = .call ⟨.value (.func f), #[x], tys⟩) (hd : dstOk st.n o.dst) (hx : st.opnd x = .lit v)
    (hg : ∀ v w, (callFunc f #[v]).run P w = .ok (.value v) w) (hk : K (st.put o.dst (.lit v))) : AOp ro P o K Q st :=
  AOp.pure hd (by rw [hop]; rfl) (fun G w a hr => by
    refine ⟨_, ?_, .lit _⟩
    have h0 : a.eval (.func f) = .func (.func f) #[] #[] := rfl
    simp only [execOp, hop, resolve, h0, Deferred.ofValue, Sem.run_bind, Sem.run_pure, Result.andThen_ok, invoke]
    simpa [hr.lit hx] using hg v w) hk

theorem run_eqGuard_ptr (op : BinOp) (t : TypeId) (x y : Operand) (a b : Option Addr) (w : World) : (eqGuard op t x y (.pointer a) (.pointer b)).run P w = .ok () w := by cases op <;> rfl

theorem AT.ptrNil {op : BinOp} {t t' e : TypeId} {x y : Operand} {a : Option Addr} (hop : o.op = .binOp op t x y t') (hd : dstOk st.n o.dst) (ht : P.underlying t = some (.pointer e)) (hx : st.opnd x = .lit (.pointer a)) (hy : st.opnd y = .lit (.pointer none))
    (hk : (op = .eql ∧ K (st.put o.dst (.lit (.bool a.isNone)))) ∨ (op = .neq ∧ K (st.put o.dst (.lit (.bool a.isSome))))) : ATake P o K st := by
  have h : ∀ (d : Nat) w, (Op.equalIn (d + 1) t (.pointer a) (.pointer none)).run P w = .ok a.isNone w := fun d w => by
    cases a <;> simp [Op.equalIn, run_underlying ht]
  rcases hk with ⟨rfl, hk⟩ | ⟨rfl, hk⟩
  · refine AT.pure hd (by rw [hop]; rfl) (fun G w a' hr => ⟨_, fun w _ => ?_, .lit _⟩) hk
    simp only [execOp, hop, hr.lit hx, hr.lit hy, Sem.run_bind, Result.andThen_ok, Sem.run_pure, run_eqGuard_ptr, binOp]
    simp [Op.equal, Op.maxDepth, h 9999]
  · refine AT.pure hd (by rw [hop]; rfl) (fun G w a' hr => ⟨_, fun w _ => ?_, .lit _⟩) hk
    simp only [execOp, hop, hr.lit hx, hr.lit hy, Sem.run_bind, Result.andThen_ok, Sem.run_pure, run_eqGuard_ptr, binOp]
    cases a <;> simp [Op.equal, Op.maxDepth, h 9999]

theorem AT.ptrSame {t t' e : TypeId} {x y : Operand} {a : Addr} {j : TypeInfo} (hop : o.op = .binOp .neq t x y t') (hd : dstOk st.n o.dst) (ht : P.underlying t = some (.pointer e)) (hj : P.info? e = some j) (hx : st.opnd x = .lit (.pointer (some a))) (hy : st.opnd y = .lit (.pointer (some a)))
    (hk : K (st.put o.dst (.lit (.bool false)))) : ATake P o K st :=
  AT.pure hd (by rw [hop]; rfl) (fun G w a' hr => ⟨_, fun w _ => by
    simp only [execOp, hop, hr.lit hx, hr.lit hy, run_eqGuard_ptr, Lib.run_neq_ptr_same (P := P) w a ht hj, Sem.run_bind, Result.andThen_ok, Sem.run_pure], .lit _⟩) hk

/-- unsafe.String of no byte. -/
theorem AT.uString0 {x y : Operand} {t t2 : TypeId} {a : Option Addr} (hop : o.op = .call ⟨.builtin .unsafeString, #[x, y], #[t, t2]⟩) (hd : dstOk st.n o.dst)
    (hx : st.opnd x = .lit (.pointer a)) (hy : st.opnd y = .lit (.int .i64 0)) (hk : K (st.put o.dst (.lit (.string .empty)))) : ATake P o K st :=
  AT.pure hd (by rw [hop]; rfl) (fun G w a' hr => by
    refine ⟨_, fun w _ => ?_, .lit _⟩
    simp only [execOp, hop]
    simp [resolve, invoke, builtin, hr.lit hx, hr.lit hy, Lib.run_unsafeString_none]) hk

theorem flat_u8 : ∀ bs : List UInt8, ((bs.map fun c => (V.lit (.int .u8 c.toNat))).flatMap V.cells) = bs.map fun c => V.lit (.int .u8 c.toNat)
  | [] => rfl
  | c :: bs => by rw [List.map_cons, List.flatMap_cons, flat_u8 bs]; rfl
theorem findObj_del : ∀ (S1 S2 : List Res) (k : Nat) (a : Option Addr) (cap sz : Nat) (xs : List V) (b : Nat), findObj (S1 ++ S2) b = findObj (S1 ++ .vec k a cap sz xs :: S2) b
  | [], S2, k, a, cap, sz, xs, b => rfl
  | r :: S1, S2, k, a, cap, sz, xs, b => by
    have ih := findObj_del S1 S2 k a cap sz xs b
    cases r <;> simp only [List.cons_append, findObj] <;> first | exact ih | (split <;> first | rfl | exact ih)

def delVec : List Res → Nat → List Res
  | [], _ => []
  | .vec k a c z xs :: S, x => if k = x then S else .vec k a c z xs :: delVec S x
  | .objT b cs T :: S, x => .objT b cs T :: delVec S x
  | .raw b o :: S, x => .raw b o :: delVec S x
  | .lp b n env st p ps asg bd db :: S, x => .lp b n env st p ps asg bd db :: delVec S x
@[go_sem] theorem delVec_vec {k x c z : Nat} {a : Option Addr} {xs : List V} {S : List Res} : delVec (.vec k a c z xs :: S) x = if k = x then S else .vec k a c z xs :: delVec S x := rfl
@[go_sem] theorem delVec_obj {x b : Nat} {cs : List V} {T : Option TypeId} {S : List Res} : delVec (.objT b cs T :: S) x = .objT b cs T :: delVec S x := rfl
@[go_sem] theorem delVec_raw {x b : Nat} {o : Obj} {S : List Res} : delVec (.raw b o :: S) x = .raw b o :: delVec S x := rfl
@[go_sem] theorem delVec_lp {x b n db : Nat} {env : List (Nat × V)} {st : LoopState} {p : Option Code} {ps : Array Tmp} {asg bd : Code} {S : List Res} : delVec (.lp b n env st p ps asg bd db :: S) x = .lp b n env st p ps asg bd db :: delVec S x := rfl
theorem delVec_split {S : List Res} {k : Nat} {a : Option Addr} {cap sz : Nat} {xs : List V} (h : findVec S k = some (a, cap, sz, xs)) :
    ∃ S1 S2, S = S1 ++ .vec k a cap sz xs :: S2 ∧ delVec S k = S1 ++ S2 := by
  induction S with
  | nil => simp [findVec] at h
  | cons r S ih =>
    cases r with
    | vec k' a' cap' sz' xs' =>
      simp only [findVec] at h
      split at h
      · rename_i e; subst e
        simp at h; obtain ⟨rfl, rfl, rfl, rfl⟩ := h
        exact ⟨[], S, rfl, by simp [delVec]⟩
      · rename_i e
        obtain ⟨S1, S2, h1, h2⟩ := ih h
        exact ⟨_ :: S1, S2, by rw [h1]; rfl, by simp [delVec, e, h2]⟩
    | objT b cs => obtain ⟨S1, S2, h1, h2⟩ := ih h; exact ⟨_ :: S1, S2, by rw [h1]; rfl, by simp [delVec, h2]⟩
    | raw b o => obtain ⟨S1, S2, h1, h2⟩ := ih h; exact ⟨_ :: S1, S2, by rw [h1]; rfl, by simp [delVec, h2]⟩
    | lp => obtain ⟨S1, S2, h1, h2⟩ := ih h; exact ⟨_ :: S1, S2, by rw [h1]; rfl, by simp [delVec, h2]⟩
theorem delVec_sub (k : Nat) : ∀ S : List Res, (delVec S k).Sublist S
  | [] => List.Sublist.refl _
  | r :: S => by
    have ih := delVec_sub k S
    cases r <;> simp only [delVec] <;> first | exact ih.cons_cons _ | (split <;> first | exact List.sublist_cons_self _ _ | exact ih.cons_cons _)

/-- unsafe.String of what was written: the row is frozen, and nobody's any more. -/
theorem AOp.uString {x y : Operand} {t t2 e : TypeId} {b0 : Nat} {a : Option Addr} {cap : Nat} {bs : List UInt8} (hop : o.op = .call ⟨.builtin .unsafeString, #[x, y], #[t, t2]⟩) (hd : dstOk st.n o.dst)
    (he : e < 100000) (hp : P.underlying t = some (.pointer e)) (hc : P.cellsOf e = 1) (hf : findVec st.S (bk b0 e) = some (a, cap, 1, bs.map fun c => .lit (.int .u8 c.toNat))) (ha : a ≠ none)
    (hx : st.opnd x = .lit (.pointer a)) (hy : st.opnd y = .lit (.int .i64 bs.length)) (hn : bs.length ≤ 4294967296) (h0 : bs ≠ []) (hk : K (St.put { st with S := delVec st.S (bk b0 e) } o.dst (.lit (.string ⟨bs.toArray⟩)))) : AOp ro P o K Q st := by
  refine AOp.value hd (by rw [hop]; rfl) fun G w a' hr => ?_
  obtain ⟨S1, S2, hS, hdel⟩ := delVec_split hf
  rw [hdel] at hk
  have hi := hr.inv
  rw [hS] at hi
  obtain ⟨hrel, hown⟩ := hi.res (.vec (bk b0 e) a cap 1 (bs.map fun c => .lit (.int .u8 c.toNat))) (by simp)
  have hbig := bk_ge b0 e
  obtain ⟨g, us, T, rfl, hb, hfit, hT, hfree⟩ := hown (by cases a <;> simp [ownB, hbig] at ha ⊢)
  obtain ⟨hcap, rfl⟩ := hT hbig
  rw [bk_mod he] at hb
  obtain ⟨a0, cap0, vs, heq, hle0, _, _, hvs, hvl, hne⟩ := hrel.sl_cells
  simp at heq; obtain ⟨rfl, rfl⟩ := heq
  obtain ⟨b', o', hab, hG⟩ := hne (by simpa using h0)
  simp at hab; obtain ⟨rfl, rfl⟩ := hab
  have hflat : ((bs.map fun c => (V.lit (.int .u8 c.toNat))).flatMap V.cells) = bs.map fun c => V.lit (.int .u8 c.toNat) := by
    exact flat_u8 bs
  rw [hflat] at hvs
  have hcell : ∀ j x, bs[j]? = some x → w.cell? ((⟨g, 0, none⟩ : Addr).add j) = some (.int .u8 x.toNat) := fun j x hj => by
    have h1 : (bs.map fun c => V.lit (.int .u8 c.toNat))[j]? = some (V.lit (.int .u8 x.toNat)) := by simp [hj]
    obtain ⟨u, hu, hr1⟩ := hvs.get h1
    have := hr1.lit_inv; subst this
    rw [Addr.add_eq]
    exact hi.im _ _ _ (hG j _ hu)
  have hsh : w.shape? g = some (e, us.size) := by simp [World.shape?, hb]
  have hlen : bs.length ≤ us.size := by simp at hle0 hfit; omega
  have hrun := Lib.run_unsafeString_row (P := P) w t t2 o.type e hp hc g us.size hsh bs h0 hlen (by omega) hcell
  obtain ⟨S', hS'⟩ : ∃ S', S' = S1 ++ S2 := ⟨_, rfl⟩
  have hsub : S'.Sublist st.S := by rw [hS', hS]; exact List.Sublist.append (List.Sublist.refl _) (List.sublist_cons_self _ _)
  obtain ⟨hi', he'⟩ := hr.inv.sub hsub
  have hgb : g ∈ blks st.S := by
    rw [hS]; exact mem_blks.2 ⟨_, List.mem_append_right _ List.mem_cons_self, by simp [Res.blk, ownB, hbig]⟩
  have hgn : g ∉ blks S' := by
    have hnd := hi.nd
    rw [blks_append, blks_cons] at hnd
    rw [hS', blks_append]
    have hbl : (Res.vec (bk b0 e) (some ⟨g, 0, none⟩) cap 1 (bs.map fun c => V.lit (.int .u8 c.toNat))).blk = some g := by simp [Res.blk, ownB, hbig]
    rw [hbl] at hnd
    intro hm
    rcases List.mem_append.1 hm with h1 | h1
    · exact (List.nodup_append.1 hnd).2.2 g h1 g (by simp) rfl
    · have := (List.nodup_append.1 hnd).2.1
      simp at this; exact this.1 h1
  have hother : ∀ b, b ≠ g → (w.freeze ⟨g, 0, none⟩ bs.length).heap[b]? = w.heap[b]? := fun b hb' => by
    unfold World.freeze; split
    · rfl
    · simp only [Array.getElem?_modify]; rw [if_neg (Ne.symm hb')]
  have hcells : ∀ b o, (w.freeze ⟨g, 0, none⟩ bs.length).cell? ⟨b, o, none⟩ = w.cell? ⟨b, o, none⟩ := fun b o => by
    by_cases hbg : b = g
    · subst hbg
      unfold World.freeze; split
      · rfl
      · simp [World.cell?, Array.getElem?_modify, hb]
    · simp only [World.cell?, hother b hbg]
  have hsize : (w.freeze ⟨g, 0, none⟩ bs.length).heap.size = w.heap.size := by unfold World.freeze; split <;> simp
  have hfin : Evol st.S G w S' G (w.freeze ⟨g, 0, none⟩ bs.length) ∧ Inv G (w.freeze ⟨g, 0, none⟩ bs.length) S' := by
    refine ⟨⟨by omega, by unfold World.freeze; split <;> rfl, by unfold World.freeze; split <;> rfl, by unfold World.freeze; split <;> rfl, Im.le_refl _, fun b _ hb' => hother b (fun e => hb' (e ▸ hgb)), fun _ _ _ _ => rfl, he'.own⟩, ⟨fun b o u hg => by rw [hcells]; exact hi'.im b o u hg, fun r hr => ?_, hi'.nd⟩⟩
    exact Res.holds_of (hi'.res r hr) (Im.le_refl _) fun b hb' => ⟨hother b (fun e => hgn (e ▸ mem_blks.2 ⟨r, hr, hb'⟩)), fun _ => rfl⟩
  refine ⟨.string ⟨bs.toArray⟩, w.freeze ⟨g, 0, none⟩ bs.length, G,   .lit _, S', ?_, hfin.1, hfin.2, .lit _, by rw [hS']; exact hk⟩
  · simp only [execOp, hop, resolve, invoke, builtin, Sem.run_bind, Sem.run_pure, Result.andThen_ok]
    simp only [List.map_toArray, List.map_cons, List.map_nil, hr.lit hx, hr.lit hy, hrun, Result.andThen_ok]

end

theorem ACall.inv {P : Program} {f : FuncId} {args : List V} {S : List Res} {Q : Out → List Res → Prop} {φ : Prop} (h : ∀ G w, Inv G w S → φ) (hk : φ → ACall P f args S Q) : ACall P f args S Q := fun G w xs hv hi => hk (h G w hi) G w xs hv hi
theorem Inv.own_cap {G : Im} {w : World} {S : List Res} (h : Inv G w S) {k : Nat} {a : Option Addr} {cap sz : Nat} {xs : List V} (hf : findVec S k = some (a, cap, sz, xs)) (hk : 100000 ≤ k) (ha : a ≠ none) : cap ≠ 0 := by
  obtain ⟨S1, S2, hS, _⟩ := findVec_split hf
  obtain ⟨_, hown⟩ := h.res (.vec k a cap sz xs) (by rw [hS]; simp)
  obtain ⟨b, us, T, rfl, _, _, hT, _⟩ := hown (by cases a <;> simp [ownB, hk] at ha ⊢)
  have := (hT hk).1; omega
theorem Inv.own_some {G : Im} {w : World} {S : List Res} (h : Inv G w S) {k : Nat} {a : Option Addr} {cap sz : Nat} {xs : List V} (hf : findVec S k = some (a, cap, sz, xs)) (hx : xs ≠ []) : a ≠ none := by
  obtain ⟨S1, S2, hS, _⟩ := findVec_split hf
  obtain ⟨hrel, _⟩ := h.res (.vec k a cap sz xs) (by rw [hS]; simp)
  obtain ⟨a0, cap0, us, he, _, _, _, _, _, hne⟩ := hrel.sl_cells
  obtain ⟨b, o, h1, _⟩ := hne hx
  simp at he; rw [he.1, h1]; simp

/-! ### Sources of copies -/

def CopySrc (S : List Res) (y : V) (len : Nat) (src : List V) : Prop :=
  ∀ G w v, Inv G w S → VRel G y v → ∃ a slen scap, v = .slice (some a) slen scap ∧ src.length = Nat.min slen len ∧ ∃ us : List Value, VRels G src us ∧ (∀ j u, us[j]? = some u → w.cell? (a.add j) = some u) ∧ ∀ u ∈ us, u.oneCell' = true

theorem VRels.take {G : Im} {vs : List V} {xs : List Value} (h : VRels G vs xs) (n : Nat) : VRels G (vs.take n) (xs.take n) :=
  ⟨by simp [h.1], fun i v x hv hx => by
    rw [List.getElem?_take] at hv hx
    split at hv
    · rename_i hlt; rw [if_pos hlt] at hx; exact h.2 i v x hv hx
    · cases hv⟩
theorem one_of {c : V} (h1 : c.okv = true) (h2 : c.cells = [c]) : c.one = true := by
  cases c with
  | agg cs =>
    simp only [V.cells] at h2
    have := congrArg (fun l : List V => SizeOf.sizeOf l) h2
    simp at this
    omega
  | _ => exact h1
theorem okv_of {c : V} (h : c.one = true) : c.okv = true := by
  cases c <;> first | exact h | cases h
theorem flat_ones : ∀ {xs : List V}, (∀ x ∈ xs, x.cells = [x]) → xs.flatMap V.cells = xs
  | [], _ => rfl
  | x :: xs, h => by rw [List.flatMap_cons, h x List.mem_cons_self, flat_ones fun y hy => h y (List.mem_cons_of_mem _ hy)]; rfl

theorem CopySrc.sl {S : List Res} {full : Bool} {xs : List V} (hx : xs ≠ []) (hone : ∀ x ∈ xs, x.cells = [x]) (len : Nat) : CopySrc S (.sl full 1 xs) len (xs.take (Nat.min xs.length len)) := fun G w v hi hv => by
  obtain ⟨a, cap, us, rfl, hcap, _, hok, hus, hul, hne⟩ := hv.sl_cells
  obtain ⟨b, o, rfl, hG⟩ := hne hx
  have hfl : xs.flatMap V.cells = xs := flat_ones hone
  rw [hfl] at hus
  refine ⟨_, xs.length, cap, rfl, by rw [List.length_take]; show min (min _ _) _ = min _ _; omega, us.take (Nat.min xs.length len), hus.take _, fun j u hu => ?_, fun u hu => ?_⟩
  · rw [Addr.add_eq]
    rw [List.getElem?_take] at hu
    split at hu
    · exact hi.im _ _ _ (hG j u hu)
    · cases hu
  · refine VRel.one_cells hus (fun c hc => ?_) u (List.mem_of_mem_take hu)
    exact one_of (hok c hc).2 (hone c hc)

theorem CopySrc.own {S : List Res} {b o slen scap : Nat} {cs : List V} (hf : findObj S b = some cs) (hone : ∀ c ∈ cs, V.one c = true) (len : Nat) (hl : o + slen ≤ cs.length) :
    CopySrc S (.lit (.slice (some ⟨b, o, none⟩) slen scap)) len ((cs.drop o).take (Nat.min slen len)) := fun G w v hi hv => by
  have := hv.lit_inv; subst this
  obtain ⟨us, T, h1, h2, h3⟩ := hi.obj hf
  have hul : us.size = cs.length := by rw [h2.1]; simp
  refine ⟨_, slen, scap, rfl, by rw [List.length_take, List.length_drop]; show min (min _ _) _ = min _ _; omega, (us.toList.drop o).take (Nat.min slen len), (h2.drop o).take _, fun j u hu => ?_, fun u hu => ?_⟩
  · rw [Addr.add_eq]
    rw [List.getElem?_take] at hu
    split at hu
    · rw [List.getElem?_drop] at hu
      simp only [World.cell?, h1]
      simpa using hu
    · cases hu
  · exact VRel.one_cells h2 hone u (List.mem_of_mem_drop (List.mem_of_mem_take hu))

/-- A whole own slice, handed back and laid among what never changes. -/
theorem OLe.freezeSl {b n : Nat} {cs : List V} {tt : Option TypeId} {A B : List Res} {Q : Out → List Res → Prop} (hn : cs.length = n) (hone : ∀ c ∈ cs, c.cells = [c] ∧ V.one c = true) (h : Q (.ret (.sl true 1 cs)) (A ++ B)) :
    OLe (.ret (.lit (.slice (some ⟨b, 0, none⟩) n n))) (A ++ .objT b cs tt :: B) Q := fun G w e hi he => by
  obtain ⟨G1, he1, hi1, hv1⟩ := freeze1 (A := A) hi
  cases he with
  | ret hv =>
    have := hv.lit_inv; subst this
    refine ⟨G1, A ++ B, _, he1, hi1, .ret ?_, h⟩
    subst hn
    have hfl : cs.flatMap V.cells = cs := flat_ones fun x hx => (hone x hx).1
    generalize hp : (Value.pointer (some ⟨b, 0, none⟩)) = p at hv1
    cases hv1 with
    | pe b' o' us hG hh =>
      simp at hp; obtain ⟨rfl, rfl⟩ := hp
      refine .sl _ _ us (fun _ => rfl) (fun x hx => by rw [(hone x hx).1]; rfl) (fun x hx => ?_) (Nat.le_refl _) (fun _ => rfl) (by rw [hfl]; exact hG) (by rw [hfl]; exact hh)
      exact okv_of (hone x hx).2
end Go.AW
/- strings.Builder. -/
set_option maxRecDepth 100000
set_option pp.maxSteps 3000
set_option pp.deepTerms false
set_option linter.unusedSimpArgs false
set_option linter.unusedVariables false
namespace Go.Proofs.YtflpfjeghomepaaDoor
open Go Go.AW Go.Proofs

theorem setObj_self {b : Nat} {cs : List V} : ∀ S : List Res, findObj S b = some cs → AW.setObj S b cs = S
  | [], h => rfl
  | r :: S, h => by
    cases r with
    | objT x ys tt =>
      simp only [AW.setObj, findObj] at h ⊢
      split
      · rename_i e; rw [if_pos e] at h; simp at h; subst h; rfl
      · rename_i e; rw [if_neg e] at h; rw [setObj_self S h]
    | vec => simp only [AW.setObj, findObj] at h ⊢; rw [setObj_self S h]
    | raw => simp only [AW.setObj, findObj] at h ⊢; rw [setObj_self S h]
    | lp => simp only [AW.setObj, findObj] at h ⊢; rw [setObj_self S h]
theorem findVec_setObj {b k : Nat} {cs : List V} : ∀ S : List Res, findVec (AW.setObj S b cs) k = findVec S k
  | [] => rfl
  | r :: S => by
    have ih := @findVec_setObj b k cs S
    cases r with
    | objT x ys tt => simp only [AW.setObj]; split <;> simp [findVec, ih]
    | vec => simp only [AW.setObj, findVec, ih]
    | raw => simp only [AW.setObj, findVec, ih]
    | lp => simp only [AW.setObj, findVec, ih]
theorem findObj_setVec {b k k' : Nat} {a : Option Addr} {c z : Nat} {xs : List V} : ∀ S : List Res, findObj (setVec S k (.vec k' a c z xs)) b = findObj S b
  | [] => rfl
  | r :: S => by
    have ih := @findObj_setVec b k k' a c z xs S
    cases r with
    | objT x ys tt => simp only [setVec, findObj, ih]
    | vec => simp only [setVec]; split <;> simp [findObj, ih]
    | raw => simp only [setVec, findObj, ih]
    | lp => simp only [setVec, findObj, ih]


theorem copyCheckT_spec (TT : TypeId) (hTT : liesAt Tryd.prog Tryd.prog.depth TT (2 / Tryd.prog.cellsOf TT) 0 39 1 = true) (b : Nat) (ad : Option Addr) (had : ad = none ∨ ad = some ⟨b, 0, none⟩) (c2 : V) (S : List Res) (hS : findObj S b = some [.lit (.pointer ad), c2]) (hT : findTy S b = some TT)
    (Q : Out → List Res → Prop) (h : Q (.ret (.tuple [])) (AW.setObj S b [.lit (.pointer (some ⟨b, 0, none⟩)), c2])) :
    ACall Tryd.prog 32 [.lit (.pointer (some ⟨b, 0, none⟩))] S Q := by
  refine acall_of_awp Tryd.func32 rfl (by simp [go_sem]) (awp_sound pl0 _ (by kernel_rfl) _ _ ?_)
  simp [go_sem, hS]
  refine ATake.aop (AT.ptrNil rfl (by simp [go_sem]) rfl rfl rfl (.inl ⟨rfl, ?_⟩))
  rcases had with rfl | rfl
  · simp [go_sem, hS]
    obtain ⟨j, hj, hjs⟩ : ∃ j, Tryd.prog.info? 39 = some j ∧ j.size = 2 := by
      have : (Tryd.prog.info? 39).map (·.size) = some 2 := by kernel_rfl
      simpa using this
    refine AOp.toUnsafe rfl (by simp [go_sem]) rfl hS hT rfl rfl hj (by omega) (by simp) ?_
    simp [go_sem, hS]
    refine AOp.same rfl (by simp [go_sem]) rfl (fun v w => ?_) ?_
    · rw [run_callFunc_extern (f := 41) rfl (by kernel_rfl) (by kernel_rfl) (by kernel_rfl) (e := Extern.AbiNoEscape.same) (by kernel_rfl), Lib.run_noEscape]; rfl
    simp [go_sem, hS]
    refine AOp.fromUnsafe rfl (by simp [go_sem]) rfl hS hT rfl rfl hj hTT ?_
    simp [go_sem, hS, findObj_setObj_eq S hS]
    exact done (List.Sublist.refl _) h
  · simp [go_sem, hS]
    obtain ⟨j, hj, hjs⟩ : ∃ j, Tryd.prog.info? 39 = some j ∧ j.size = 2 := by
      have : (Tryd.prog.info? 39).map (·.size) = some 2 := by kernel_rfl
      simpa using this
    refine ATake.aop (AT.ptrSame rfl (by simp [go_sem]) rfl hj rfl rfl ?_)
    simp [go_sem]
    rw [setObj_self S hS] at h
    exact done (List.Sublist.refl _) h
theorem copyCheck_spec (b : Nat) (ad : Option Addr) (had : ad = none ∨ ad = some ⟨b, 0, none⟩) (c2 : V) (S : List Res) (hS : findObj S b = some [.lit (.pointer ad), c2]) (hT : findTy S b = some 39)
    (Q : Out → List Res → Prop) (h : Q (.ret (.tuple [])) (AW.setObj S b [.lit (.pointer (some ⟨b, 0, none⟩)), c2])) :
    ACall Tryd.prog 32 [.lit (.pointer (some ⟨b, 0, none⟩))] S Q :=
  copyCheckT_spec _ (by kernel_rfl) b ad had c2 S hS hT Q h

/-- The key of a builder's bytes. -/
abbrev kB (b : Nat) : Nat := bk b 5
theorem kB_mod (b : Nat) : kB b % 100000 = 5 := bk_mod (by decide)

theorem writeByteT_spec (TT : TypeId) (hTT : liesAt Tryd.prog Tryd.prog.depth TT (2 / Tryd.prog.cellsOf TT) 0 39 1 = true) (b : Nat) (ad : Option Addr) (had : ad = none ∨ ad = some ⟨b, 0, none⟩) (a : Option Addr) (cap : Nat) (bs : List UInt8) (c : UInt8) (hl : bs.length + 1 ≤ 4294967296) (S : List Res)
    (hS : findObj S b = some [.lit (.pointer ad), .vs (kB b) a bs.length cap]) (hT : findTy S b = some TT) (hV : findVec S (kB b) = some (a, cap, 1, bs.map u8V))
    (Q : Out → List Res → Prop) (h : ∀ a' cap', Q (.ret (.lit .nilIface)) (AW.setObj (setVec (AW.setObj S b [.lit (.pointer (some ⟨b, 0, none⟩)), .vs (kB b) a bs.length cap]) (kB b) (.vec (kB b) a' cap' 1 ((bs ++ [c]).map u8V))) b [.lit (.pointer (some ⟨b, 0, none⟩)), .vs (kB b) a' (bs ++ [c]).length cap'])) :
    ACall Tryd.prog 21 [.lit (.pointer (some ⟨b, 0, none⟩)), u8V c] S Q := by
  refine acall_of_awp Tryd.func21 rfl (by simp [go_sem]) (awp_sound pl0 _ (by kernel_rfl) _ _ ?_)
  simp [go_sem]
  refine .refl (copyCheckT_spec TT hTT b ad had _ S hS hT _ ?_)
  simp [go_sem, findObj_setObj_eq S hS, u8V, findVec_setObj, hV, findObj_setVec]
  refine ⟨.inr (kB_mod b).symm, by omega, fun a'' cap'' => ?_⟩
  have := h a'' cap''
  simp only [List.map_append, List.map_cons, List.map_nil, List.length_append, List.length_cons, List.length_nil, Nat.zero_add] at this
  exact done (List.Sublist.refl _) this
theorem writeByte_spec (b : Nat) (ad : Option Addr) (had : ad = none ∨ ad = some ⟨b, 0, none⟩) (a : Option Addr) (cap : Nat) (bs : List UInt8) (c : UInt8) (hl : bs.length + 1 ≤ 4294967296) (S : List Res)
    (hS : findObj S b = some [.lit (.pointer ad), .vs (kB b) a bs.length cap]) (hT : findTy S b = some 39) (hV : findVec S (kB b) = some (a, cap, 1, bs.map u8V))
    (Q : Out → List Res → Prop) (h : ∀ a' cap', Q (.ret (.lit .nilIface)) (AW.setObj (setVec (AW.setObj S b [.lit (.pointer (some ⟨b, 0, none⟩)), .vs (kB b) a bs.length cap]) (kB b) (.vec (kB b) a' cap' 1 ((bs ++ [c]).map u8V))) b [.lit (.pointer (some ⟨b, 0, none⟩)), .vs (kB b) a' (bs ++ [c]).length cap'])) :
    ACall Tryd.prog 21 [.lit (.pointer (some ⟨b, 0, none⟩)), u8V c] S Q :=
  writeByteT_spec _ (by kernel_rfl) b ad had a cap bs c hl S hS hT hV Q h

theorem writeStringT_spec (TT : TypeId) (hTT : liesAt Tryd.prog Tryd.prog.depth TT (2 / Tryd.prog.cellsOf TT) 0 39 1 = true) (b : Nat) (ad : Option Addr) (had : ad = none ∨ ad = some ⟨b, 0, none⟩) (a : Option Addr) (cap : Nat) (bs : List UInt8) (s : ByteArray) (hl : bs.length + s.size ≤ 4294967296) (S : List Res)
    (hS : findObj S b = some [.lit (.pointer ad), .vs (kB b) a bs.length cap]) (hT : findTy S b = some TT) (hV : findVec S (kB b) = some (a, cap, 1, bs.map u8V))
    (Q : Out → List Res → Prop) (h : ∀ a' cap', Q (.ret (.tuple [iV s.size, .lit .nilIface])) (AW.setObj (setVec (AW.setObj S b [.lit (.pointer (some ⟨b, 0, none⟩)), .vs (kB b) a bs.length cap]) (kB b) (.vec (kB b) a' cap' 1 ((bs ++ s.data.toList).map u8V))) b [.lit (.pointer (some ⟨b, 0, none⟩)), .vs (kB b) a' (bs ++ s.data.toList).length cap'])) :
    ACall Tryd.prog 27 [.lit (.pointer (some ⟨b, 0, none⟩)), sV s] S Q := by
  refine acall_of_awp Tryd.func27 rfl (by simp [go_sem]) (awp_sound pl0 _ (by kernel_rfl) _ _ ?_)
  simp [go_sem]
  refine .refl (copyCheckT_spec TT hTT b ad had _ S hS hT _ ?_)
  simp [go_sem, findObj_setObj_eq S hS, sV, findVec_setObj, hV, findObj_setVec, bytesV]
  refine ⟨.inr (kB_mod b).symm, hl, fun a'' cap'' => ?_⟩
  have := h a'' cap''
  rw [List.map_append, List.length_append, show s.data.toList.length = s.size by simp] at this
  exact done (List.Sublist.refl _) this
theorem writeString_spec (b : Nat) (ad : Option Addr) (had : ad = none ∨ ad = some ⟨b, 0, none⟩) (a : Option Addr) (cap : Nat) (bs : List UInt8) (s : ByteArray) (hl : bs.length + s.size ≤ 4294967296) (S : List Res)
    (hS : findObj S b = some [.lit (.pointer ad), .vs (kB b) a bs.length cap]) (hT : findTy S b = some 39) (hV : findVec S (kB b) = some (a, cap, 1, bs.map u8V))
    (Q : Out → List Res → Prop) (h : ∀ a' cap', Q (.ret (.tuple [iV s.size, .lit .nilIface])) (AW.setObj (setVec (AW.setObj S b [.lit (.pointer (some ⟨b, 0, none⟩)), .vs (kB b) a bs.length cap]) (kB b) (.vec (kB b) a' cap' 1 ((bs ++ s.data.toList).map u8V))) b [.lit (.pointer (some ⟨b, 0, none⟩)), .vs (kB b) a' (bs ++ s.data.toList).length cap'])) :
    ACall Tryd.prog 27 [.lit (.pointer (some ⟨b, 0, none⟩)), sV s] S Q :=
  writeStringT_spec _ (by kernel_rfl) b ad had a cap bs s hl S hS hT hV Q h

def plStr : Nat → DPlan
  | 1 => .take 0 (.take 1 (.take 2 (.take 5 (.take 6 (.take 7 (.alt 3 (.take 4 (one 8 (.take 9 (one 10 (one 11 .done))))) (.alt 8 (.take 9 (one 3 (.take 4 (one 10 (one 11 .done))))) .stop)))))))
  | _ => .done
theorem string_spec (b : Nat) (ad : Option Addr) (a : Option Addr) (cap : Nat) (bs : List UInt8) (hl : bs.length ≤ 4294967296) (S : List Res)
    (hS : findObj S b = some [.lit (.pointer ad), .vs (kB b) a bs.length cap]) (hV : findVec S (kB b) = some (a, cap, 1, bs.map u8V))
    (Q : Out → List Res → Prop) (h : Q (.ret (sV ⟨bs.toArray⟩)) (delVec S (kB b))) :
    ACall Tryd.prog 13 [.lit (.pointer (some ⟨b, 0, none⟩))] S Q := by
  refine ACall.inv (φ := (a ≠ none → cap ≠ 0) ∧ (bs.map u8V ≠ [] → a ≠ none)) (fun G w hi => ⟨hi.own_cap hV (bk_ge _ _), fun hx => hi.own_some hV hx⟩) fun ⟨hc, ha⟩ => ?_
  refine acall_of_awp Tryd.func13 rfl (by simp [go_sem]) (awp_sound plStr _ (by kernel_rfl) _ _ ?_)
  simp [go_sem, plStr, one, hS]
  by_cases h0 : bs = []
  · subst h0
    refine ⟨⟨fun e => hc e, ?_⟩, fun e => hc e, ?_⟩
    all_goals
      refine ATake.aop (AT.uString0 rfl (by simp [go_sem]) rfl rfl ?_)
      simp [go_sem, plStr, one]
      exact done (delVec_sub _ _) h
  · refine ⟨⟨fun e => hc e, ?_⟩, fun e => hc e, ?_⟩
    all_goals
      refine AOp.uString (e := 5) (b0 := b) rfl (by simp [go_sem]) (by decide) rfl (by kernel_rfl) hV (ha (by simpa using h0)) rfl rfl hl h0 ?_
      simp [go_sem, plStr, one]
      exact done (List.Sublist.refl _) h

theorem SLe.builder (A B : List Res) (b : Nat) (ad : Option Addr) (T : Option TypeId) : SLe (A ++ .objT b [.lit (.pointer ad), .lit (.slice none 0 0)] T :: B) (.vec (kB b) none 0 1 [] :: (A ++ .objT b [.lit (.pointer ad), .vs (kB b) none 0 0] T :: B)) :=
  SLe.trans (SLe.obj (fun G us h => by
    obtain ⟨x, xs, rfl, h1, h2⟩ := h.cons_inv
    exact .cons h1 (VRels.nil_vs _ h2))) (SLe.vecNil _ (kB b) 1)
end Go.Proofs.YtflpfjeghomepaaDoor
/- Noads as data: what stands in memory, sizes, numbers. -/
set_option maxRecDepth 100000
set_option linter.unusedSimpArgs false
set_option linter.unusedVariables false
set_option pp.maxSteps 3000
set_option pp.deepTerms false
namespace Go.Proofs.YtflpfjeghomepaaDoor
open Go Go.AW Go.Proofs

/-- A noad. -/
structure Nd where
  kind : Int
  cls : Int
  rune : Int
  n : Int
  lim : Int
  parts : List (List Nd)
  runes : List Int
  hasSup : Bool
  hasSub : Bool
  sup : List Nd
  sub : List Nd

mutual
def Nd.v : Nd → V
  | .mk k c r n l ps rs a b u d => .agg [iV k, iV c, iV r, iV n, iV l, .sl false 1 (ndPs ps), .sl false 1 (rs.map iV), .lit (.bool a), .lit (.bool b), .sl false 11 (ndVs u), .sl false 11 (ndVs d)]
def ndVs : List Nd → List V
  | [] => []
  | x :: l => x.v :: ndVs l
def ndPs : List (List Nd) → List V
  | [] => []
  | p :: l => .sl false 11 (ndVs p) :: ndPs l
end
def partV (p : List Nd) : V := .sl false 11 (p.map Nd.v)
theorem ndVs_map : ∀ l, ndVs l = l.map Nd.v
  | [] => rfl
  | x :: l => by rw [ndVs, ndVs_map l]; rfl
theorem ndPs_map : ∀ l, ndPs l = l.map partV
  | [] => rfl
  | x :: l => by rw [ndPs, ndPs_map l, ndVs_map]; rfl
theorem Nd.v_eq (x : Nd) : x.v = .agg [iV x.kind, iV x.cls, iV x.rune, iV x.n, iV x.lim, .sl false 1 (x.parts.map partV), .sl false 1 (x.runes.map iV), .lit (.bool x.hasSup), .lit (.bool x.hasSub), .sl false 11 (x.sup.map Nd.v), .sl false 11 (x.sub.map Nd.v)] := by
  cases x; simp only [Nd.v, ndVs_map, ndPs_map]

mutual
def Nd.size : Nd → Nat
  | .mk _ _ _ _ _ ps rs _ _ u d => 1 + sizeP ps + rs.length + sizeL u + sizeL d
def sizeL : List Nd → Nat
  | [] => 0
  | x :: l => x.size + sizeL l
def sizeP : List (List Nd) → Nat
  | [] => 0
  | p :: l => 1 + sizeL p + sizeP l
end
theorem Nd.size_eq (x : Nd) : x.size = 1 + sizeP x.parts + x.runes.length + sizeL x.sup + sizeL x.sub := by cases x; rfl
theorem sizeL_append : ∀ l m, sizeL (l ++ m) = sizeL l + sizeL m
  | [], m => by simp [sizeL]
  | x :: l, m => by simp only [List.cons_append, sizeL, sizeL_append l m]; omega
theorem sizeL_mem : ∀ {l : List Nd} {x : Nd}, x ∈ l → x.size ≤ sizeL l
  | y :: l, x, h => by
    rcases List.mem_cons.1 h with rfl | h
    · simp only [sizeL]; omega
    · have := sizeL_mem h; simp only [sizeL]; omega
theorem sizeP_mem : ∀ {l : List (List Nd)} {p : List Nd}, p ∈ l → 1 + sizeL p ≤ sizeP l
  | y :: l, x, h => by
    rcases List.mem_cons.1 h with rfl | h
    · simp only [sizeP]; omega
    · have := sizeP_mem h; simp only [sizeP]; omega
theorem size_pos (x : Nd) : 1 ≤ x.size := by rw [x.size_eq]; omega
theorem len_size : ∀ l : List Nd, l.length ≤ sizeL l
  | [] => by simp [sizeL]
  | x :: l => by have := len_size l; have := size_pos x; simp only [sizeL, List.length_cons]; omega
theorem len_sizeP : ∀ l : List (List Nd), l.length ≤ sizeP l
  | [] => by simp [sizeP]
  | x :: l => by have := len_sizeP l; simp only [sizeP, List.length_cons]; omega

/-- Are limits told? -/
def Nd.told (x : Nd) : Bool := (x.lim == 1) || (x.lim == 2)
mutual
def Nd.extra : Nd → Int
  | .mk _ _ _ _ lim ps _ _ _ u d => (if (lim == 1) || (lim == 2) then 1 else 0) + (cntL u + cntL d) + cntP ps
def cntL : List Nd → Int
  | [] => 0
  | x :: l => 1 + x.extra + cntL l
def cntP : List (List Nd) → Int
  | [] => 0
  | p :: l => cntL p + cntP l
end
theorem Nd.extra_eq (x : Nd) : x.extra = (if x.told then 1 else 0) + (cntL x.sup + cntL x.sub) + cntP x.parts := by cases x; rfl
theorem cntL_append : ∀ l m, cntL (l ++ m) = cntL l + cntL m
  | [], m => by simp [cntL]
  | x :: l, m => by simp only [List.cons_append, cntL, cntL_append l m]; omega
theorem cntP_append : ∀ l m, cntP (l ++ m) = cntP l + cntP m
  | [], m => by simp [cntP]
  | x :: l, m => by simp only [List.cons_append, cntP, cntP_append l m]; omega
mutual
theorem Nd.extra_le : ∀ x : Nd, 0 ≤ x.extra ∧ x.extra + 1 ≤ 2 * x.size
  | .mk _ _ _ _ lim ps rs _ _ u d => by
    have h1 := cntL_le u
    have h2 := cntL_le d
    have h3 := cntP_le ps
    simp only [Nd.extra, Nd.size]
    split <;> omega
theorem cntL_le : ∀ l : List Nd, 0 ≤ cntL l ∧ cntL l ≤ 2 * sizeL l
  | [] => by simp [cntL, sizeL]
  | x :: l => by
    have h1 := x.extra_le
    have h2 := cntL_le l
    simp only [cntL, sizeL]; omega
theorem cntP_le : ∀ l : List (List Nd), 0 ≤ cntP l ∧ cntP l ≤ 2 * sizeP l
  | [] => by simp [cntP, sizeP]
  | p :: l => by
    have h1 := cntL_le p
    have h2 := cntP_le l
    simp only [cntP, sizeP]; omega
end

/-- A noad's cells, laid open. -/
abbrev Nd.ce (x : Nd) : List V := [iV x.kind, iV x.cls, iV x.rune, iV x.n, iV x.lim, .sl false 1 (x.parts.map partV), .sl false 1 (x.runes.map iV), .lit (.bool x.hasSup), .lit (.bool x.hasSub), .sl false 11 (x.sup.map Nd.v), .sl false 11 (x.sub.map Nd.v)]
theorem told_spec (x : Nd) (S : List Res) (Q : Out → List Res → Prop) (h : Q (.ret (.lit (.bool x.told))) S) : ACall Tryd.prog 14 [.agg x.ce] S Q := by
  refine acall_of_awp Tryd.func14 rfl (by simp [go_sem]) (awp_sound pl0 _ (by kernel_rfl) _ _ ?_)
  simp [go_sem, iV]
  intro b hb
  rw [Nd.told] at h
  refine cGuard_i (fun c1 => ?_) (fun c1 => ?_)
  · simp [go_sem, iV, c1]
    simp at c1
    exact done (List.sublist_cons_self _ _) (by simpa [c1] using h)
  · simp [go_sem, iV, c1]
    rw [c1, Bool.false_or] at h
    exact done (List.sublist_cons_self _ _) h
end Go.Proofs.YtflpfjeghomepaaDoor
/- show.Count. -/
set_option maxRecDepth 100000
set_option linter.unusedSimpArgs false
set_option linter.unusedVariables false
set_option pp.maxSteps 3000
set_option pp.deepTerms false
namespace Go.Proofs.YtflpfjeghomepaaDoor
open Go Go.AW Go.Proofs

def plCnt : Nat → DPlan 
  | 7 => .take 0 (.take 1 (.take 4 (.alt 2 (.alt 3 (one 5 (one 6 (.take 7 (.take 8 (one 9 .done))))) (.alt 5 (one 3 (one 6 (.take 7 (.take 8 (one 9 .done))))) .stop)) (.alt 5 (one 2 (one 3 (one 6 (.take 7 (.take 8 (one 9 .done)))))) .stop))))
  | _ => .done
theorem count_spec : ∀ (n : Nat) (l : List Nd), sizeL l ≤ n → n ≤ 4294967296 → ∀ (full : Bool) (S : List Res) (Q : Out → List Res → Prop), Q (.ret (iV (cntL l))) S → ACall Tryd.prog 7 [.sl full 11 (l.map Nd.v)] S Q := by
  intro n
  induction n with
  | zero =>
    intro l hl hn full S Q h
    have hlen := len_size l
    have : l = [] := List.eq_nil_of_length_eq_zero (by omega)
    subst this
    refine acall_of_awp Tryd.func7 rfl (by simp [go_sem]) (awp_sound plCnt _ (by kernel_rfl) _ _ ?_)
    simp [go_sem, iV]
    refine AWP.loop (ι := Nat) (fun k => k = 0) (fun k => 0) (fun k => ⟨43, [(3, iV 0), (10, .sl full 11 []), (11, iV 0), (12, iV 0)], S, []⟩) 0 rfl (StLe.env (by simp [go_sem, iV])) ?_
    intro k hk
    refine awp_sound plCnt _ (by kernel_rfl) _ _ ?_
    simp [go_sem, iV]
    exact done (List.Sublist.refl _) h
  | succ n ih =>
    intro l hl hn full S Q h
    refine acall_of_awp Tryd.func7 rfl (by simp [go_sem]) (awp_sound plCnt _ (by kernel_rfl) _ _ ?_)
    simp [go_sem, iV]
    have hlen := len_size l
    refine AWP.loop (ι := Nat) (fun k => k ≤ l.length) (fun k => l.length - k) (fun k => ⟨43, [(3, iV (l.length + cntL (l.take k) - k)), (10, .sl full 11 (l.map Nd.v)), (11, iV l.length), (12, iV k)], S, []⟩) 0 (by simp) (StLe.env (by simp [go_sem, iV, cntL])) ?_
    intro k hk
    refine awp_sound plCnt _ (by kernel_rfl) _ _ ?_
    simp [go_sem, iV]
    refine cCond_i (fun c1 => ?_) (fun c1 => ?_)
    · simp at c1
      simp [go_sem, iV]
      refine ⟨c1, fun x hx => ?_⟩
      simp [go_sem, iV, Nd.v_eq x]
      intro b hb
      refine .refl (told_spec x _ _ ?_)
      have hxs := sizeL_mem (List.mem_of_getElem? hx)
      have hse := x.size_eq
      have hee := x.extra_eq
      have hee2 := x.extra_le
      have htk := take_snoc hx
      have hcl := cntL_le (l.take k)
      have hcl2 := cntL_le l
      have hcs : cntL (l.take (k + 1)) = cntL (l.take k) + 1 + x.extra := by rw [htk, cntL_append]; simp only [cntL]; omega
      have hcb : cntL (l.take (k + 1)) ≤ cntL l := by
        have := cntL_append (l.take (k + 1)) (l.drop (k + 1))
        rw [List.take_append_drop] at this
        have := cntL_le (l.drop (k + 1)); omega
      have hu := cntL_le x.sup
      have hd := cntL_le x.sub
      have hp := cntP_le x.parts
      simp [go_sem]
      cases e : x.told
      all_goals
        rw [e] at hee
        simp [go_sem, iV, plCnt, one]
        refine ⟨⟨?_, ?_⟩, ?_⟩
      all_goals
        refine .refl (ih x.sup (by omega) (by omega) false _ _ ?_)
        simp [go_sem, iV, plCnt, one]
        refine .refl (ih x.sub (by omega) (by omega) false _ _ ?_)
        simp [go_sem, iV, plCnt, one]
      all_goals
        obtain ⟨B, hB⟩ : ∃ B : Int, B = l.length + cntL (l.take k) - k + x.extra - cntP x.parts := ⟨_, rfl⟩
        simp only [if_true, Bool.false_eq_true, if_false] at hee
        first
          | rw [show IntKind.i64.wrap (l.length + cntL (l.take k) - k + IntKind.i64.wrap (cntL x.sup + cntL x.sub)) = B by
              rw [w64 (x := cntL x.sup + cntL x.sub) (by omega) (by omega), w64 (by omega) (by omega)]; omega]
          | rw [show IntKind.i64.wrap (IntKind.i64.wrap (l.length + cntL (l.take k) - k + 1) + IntKind.i64.wrap (cntL x.sup + cntL x.sub)) = B by
              rw [w64 (x := cntL x.sup + cntL x.sub) (by omega) (by omega), w64 (x := (l.length : Int) + cntL (l.take k) - k + 1) (by omega) (by omega), w64 (by omega) (by omega)]; omega]
        have hpl := len_sizeP x.parts
        refine AWP.loop (ι := Nat) (fun j => j ≤ x.parts.length) (fun j => x.parts.length - j) (fun j => ⟨43, [(3, iV (B + cntP (x.parts.take j))), (10, .sl full 11 (l.map Nd.v)), (11, iV l.length), (12, iV k), (30, .sl false 1 (x.parts.map partV)), (31, iV x.parts.length), (32, iV j)], S, []⟩) 0 (Nat.zero_le _) ((StLe.drop (List.sublist_cons_self _ _)).trans (StLe.env (by simp [go_sem, iV, cntP]))) ?_
        intro j hj
        refine awp_sound plCnt _ (by kernel_rfl) _ _ ?_
        simp [go_sem, iV]
        refine cCond_i (fun c2 => ?_) (fun c2 => ?_)
        · simp at c2
          simp [go_sem, iV]
          refine ⟨c2, fun p hp2 => ?_⟩
          have hps := sizeP_mem (List.mem_of_getElem? hp2)
          have htk2 := take_snoc hp2
          have hcp := cntP_le (x.parts.take j)
          have hcs2 : cntP (x.parts.take (j + 1)) = cntP (x.parts.take j) + cntL p := by rw [htk2, cntP_append]; simp only [cntP]; omega
          have hcb2 : cntP (x.parts.take (j + 1)) ≤ cntP x.parts := by
            have := cntP_append (x.parts.take (j + 1)) (x.parts.drop (j + 1))
            rw [List.take_append_drop] at this
            have := cntP_le (x.parts.drop (j + 1)); omega
          have hpp := cntL_le p
          simp [go_sem, iV, partV]
          refine .refl (ih p (by omega) (by omega) false _ _ ?_)
          simp [go_sem, iV]
          refine round (j + 1) c2 (by omega) (StLe.env ?_)
          rw [w64 (by omega) (by omega), w64 (by omega) (by omega), hcs2]
          simp [go_sem, iV, Int.add_assoc]
        · simp at c2
          simp [go_sem, iV]
          have hjj : j = x.parts.length := by omega
          subst hjj
          rw [List.take_length]
          refine round (k + 1) c1 (by omega) (StLe.env ?_)
          rw [w64 (by omega) (by omega), hcs]
          rw [show B + cntP x.parts = (l.length : Int) + (cntL (l.take k) + 1 + x.extra) - (k + 1 : Nat) by omega]
          simp [go_sem, iV]
    · simp at c1
      simp [go_sem, iV]
      have : k = l.length := by omega
      subst this
      rw [List.take_length, show (l.length : Int) + cntL l - l.length = cntL l by omega]
      exact done (List.Sublist.refl _) h
end Go.Proofs.YtflpfjeghomepaaDoor
/- vinculumref20.Count and vinculumref21.Few: some number; some answer. -/
set_option maxRecDepth 100000
set_option linter.unusedSimpArgs false
set_option linter.unusedVariables false
set_option pp.maxSteps 3000
set_option pp.deepTerms false
namespace Go.Proofs.YtflpfjeghomepaaDoor
open Go Go.AW Go.Proofs

theorem sizeP_append : ∀ l m, sizeP (l ++ m) = sizeP l + sizeP m
  | [], m => by simp [sizeP]
  | x :: l, m => by simp only [List.cons_append, sizeP, sizeP_append l m]; omega
theorem count20_spec : ∀ (n : Nat) (l : List Nd), sizeL l ≤ n → n ≤ 4294967296 → ∀ (most : Int) (full : Bool) (S : List Res) (Q : Out → List Res → Prop), (∀ r : Int, 0 ≤ r → r ≤ sizeL l → Q (.ret (iV r)) S) →
    ACall Tryd.prog 9 [.sl full 11 (l.map Nd.v), iV most] S Q := by
  intro n
  induction n with
  | zero =>
    intro l hl hn most full S Q h
    have hlen := len_size l
    have : l = [] := List.eq_nil_of_length_eq_zero (by omega)
    subst this
    refine acall_of_awp Tryd.func9 rfl (by simp [go_sem]) (awp_sound pl0 _ (by kernel_rfl) _ _ ?_)
    simp [go_sem, iV]
    refine AWP.loop (ι := Nat) (fun k => k = 0) (fun k => 0) (fun k => ⟨81, [(0, .sl full 11 []), (1, iV most), (5, iV 0), (6, iV 0)], S, []⟩) 0 rfl (StLe.env (by simp [go_sem, iV])) ?_
    intro k hk
    refine awp_sound pl0 _ (by kernel_rfl) _ _ ?_
    simp [go_sem, iV]
    exact done (List.Sublist.refl _) (h 0 (by omega) (by omega))
  | succ n ih =>
    intro l hl hn most full S Q h
    refine acall_of_awp Tryd.func9 rfl (by simp [go_sem]) (awp_sound pl0 _ (by kernel_rfl) _ _ ?_)
    simp [go_sem, iV]
    have hlen := len_size l
    have hsub : ∀ k, sizeL (l.take k) ≤ sizeL l := fun k => by
      have := sizeL_append (l.take k) (l.drop k)
      rw [List.take_append_drop] at this; omega
    refine AWP.loop (ι := Nat × Int) (fun p => p.1 ≤ l.length ∧ 0 ≤ p.2 ∧ p.2 ≤ sizeL (l.take p.1)) (fun p => l.length - p.1) (fun p => ⟨81, [(0, .sl full 11 (l.map Nd.v)), (1, iV most), (5, iV p.2), (6, iV p.1)], S, []⟩) (0, 0) (by simp [sizeL]) (StLe.env (by simp [go_sem, iV])) ?_
    rintro ⟨k, c⟩ ⟨hk, hc0, hc1⟩
    simp only at hk hc0 hc1
    have hs1 := hsub k
    refine awp_sound pl0 _ (by kernel_rfl) _ _ ?_
    simp [go_sem, iV]
    have fin : Q (.ret (iV c)) S := h c hc0 (by omega)
    refine cGuard_i (fun c1 => ?_) (fun c1 => ?_)
    rotate_left
    · simp [go_sem, iV, c1]
      exact done (List.Sublist.refl _) fin
    simp [go_sem, iV, c1]
    simp at c1
    refine cCond_i (fun c2 => ?_) (fun c2 => ?_)
    rotate_left
    · simp [go_sem, iV]
      exact done (List.Sublist.refl _) fin
    simp [go_sem, iV]
    refine ⟨c1, fun x hx => ?_⟩
    have hxs := sizeL_mem (List.mem_of_getElem? hx)
    have hse := x.size_eq
    have htk : sizeL (l.take (k + 1)) = sizeL (l.take k) + x.size := by rw [take_snoc hx, sizeL_append]; simp [sizeL]
    have hs2 := hsub (k + 1)
    have same : ∀ y, l[k]? = some y → x = y := fun y hy => by rw [hx] at hy; exact Option.some.inj hy
    have hw1 : IntKind.i64.wrap (c + 1) = c + 1 := w64 (by omega) (by omega)
    have hw2 : IntKind.i64.wrap (c + 1 + (x.runes.length : Int)) = c + 1 + x.runes.length := w64 (by omega) (by omega)
    simp [go_sem, iV, Nd.v_eq x, hw1, hw2]
    refine ⟨c1, fun y hy => ?_⟩
    obtain rfl := same y hy
    simp [go_sem, iV, Nd.v_eq x]
    refine .refl (ih x.sup (by omega) (by omega) _ false _ _ fun r1 h10 h11 => ?_)
    have hw3 : IntKind.i64.wrap (c + 1 + (x.runes.length : Int) + r1) = c + 1 + x.runes.length + r1 := w64 (by omega) (by omega)
    simp [go_sem, iV, hw3]
    refine ⟨c1, fun y hy => ?_⟩
    obtain rfl := same y hy
    simp [go_sem, iV, Nd.v_eq x]
    refine .refl (ih x.sub (by omega) (by omega) _ false _ _ fun r2 h20 h21 => ?_)
    have hw4 : IntKind.i64.wrap (c + 1 + (x.runes.length : Int) + r1 + r2) = c + 1 + x.runes.length + r1 + r2 := w64 (by omega) (by omega)
    simp [go_sem, iV, hw4]
    have hpl := len_sizeP x.parts
    have hsubP : ∀ j, sizeP (x.parts.take j) ≤ sizeP x.parts := fun j => by
      have := sizeP_append (x.parts.take j) (x.parts.drop j)
      rw [List.take_append_drop] at this; omega
    refine AWP.loop (ι := Nat × Int) (fun p => p.1 ≤ x.parts.length ∧ 0 ≤ p.2 ∧ p.2 ≤ c + 1 + x.runes.length + r1 + r2 + sizeP (x.parts.take p.1)) (fun p => x.parts.length - p.1) (fun p => ⟨81, [(0, .sl full 11 (l.map Nd.v)), (1, iV most), (5, iV p.2), (6, iV k), (7, iV p.1)], S, []⟩) (0, c + 1 + x.runes.length + r1 + r2) ⟨Nat.zero_le _, by simp only; omega, by simp [sizeP]⟩ (StLe.env (by simp [go_sem, iV])) ?_
    rintro ⟨j, d⟩ ⟨hj, hd0, hd1⟩
    simp only at hj hd0 hd1
    have hp1 := hsubP j
    refine awp_sound pl0 _ (by kernel_rfl) _ _ ?_
    simp [go_sem, iV]
    refine ⟨c1, fun y hy => ?_⟩
    obtain rfl := same y hy
    simp [go_sem, iV, Nd.v_eq x]
    have hwk : IntKind.i64.wrap ((k : Int) + 1) = k + 1 := w64 (by omega) (by omega)
    refine cGuard_i (fun c4 => ?_) (fun c4 => ?_)
    rotate_left
    · simp [go_sem, iV, c4, hwk]
      refine round (k + 1, d) ⟨c1, hd0, by simp only; omega⟩ (by simp only; omega) (StLe.env ?_)
      simp [go_sem, iV]
    simp [go_sem, iV, c4]
    simp at c4
    refine cCond_i (fun c5 => ?_) (fun c5 => ?_)
    rotate_left
    · simp [go_sem, iV, hwk]
      refine round (k + 1, d) ⟨c1, hd0, by simp only; omega⟩ (by simp only; omega) (StLe.env ?_)
      simp [go_sem, iV]
    simp [go_sem, iV]
    refine ⟨c1, fun y hy => ?_⟩
    obtain rfl := same y hy
    simp [go_sem, iV, Nd.v_eq x]
    refine ⟨c4, fun p hp2 => ?_⟩
    have hps := sizeP_mem (List.mem_of_getElem? hp2)
    have htk2 : sizeP (x.parts.take (j + 1)) = sizeP (x.parts.take j) + 1 + sizeL p := by rw [take_snoc hp2, sizeP_append]; simp [sizeP]; omega
    have hp3 := hsubP (j + 1)
    simp [go_sem, iV, partV]
    refine .refl (ih p (by omega) (by omega) _ false _ _ fun r3 h30 h31 => ?_)
    have hw5 : IntKind.i64.wrap (d + 1) = d + 1 := w64 (by omega) (by omega)
    have hw6 : IntKind.i64.wrap (d + 1 + r3) = d + 1 + r3 := w64 (by omega) (by omega)
    have hw7 : IntKind.i64.wrap ((j : Int) + 1) = j + 1 := w64 (by omega) (by omega)
    simp [go_sem, iV, hw5, hw6, hw7]
    refine round (j + 1, d + 1 + r3) ⟨c4, by simp only; omega, by simp only; omega⟩ (by simp only; omega) (StLe.env ?_)
    simp [go_sem, iV]
theorem few_spec (full : Bool) (l : List Nd) (hl : sizeL l ≤ 4294967296) (S : List Res) (Q : Out → List Res → Prop) (h : ∀ b : Bool, Q (.ret (.lit (.bool b))) S) : ACall Tryd.prog 5 [.sl full 11 (l.map Nd.v)] S Q := by
  refine acall_of_awp Tryd.func5 rfl (by simp [go_sem]) (awp_sound pl0 _ (by kernel_rfl) _ _ ?_)
  simp [go_sem, iV]
  refine .refl (count20_spec _ l (Nat.le_refl _) hl 400 full _ _ fun r _ _ => ?_)
  simp [go_sem, iV]
  exact done (List.Sublist.refl _) (h _)
end Go.Proofs.YtflpfjeghomepaaDoor
/- vinculumref20.in, vinculumref20.Class. -/
set_option maxRecDepth 100000
set_option linter.unusedSimpArgs false
set_option linter.unusedVariables false
set_option pp.maxSteps 3000
set_option pp.deepTerms false
namespace Go.Proofs.YtflpfjeghomepaaDoor
open Go Go.AW Go.Proofs

def inR (c : Int) : List Int → Bool
  | a :: b :: l => (decide (a ≤ c) && decide (c ≤ b)) || inR c l
  | _ => false
theorem inR_drop (c : Int) (l : List Int) (k : Nat) (a b : Int) (ha : l[k]? = some a) (hb : l[k + 1]? = some b) : inR c (l.drop k) = ((decide (a ≤ c) && decide (c ≤ b)) || inR c (l.drop (k + 2))) := by
  have h1 : l.drop k = a :: l.drop (k + 1) := by rw [List.drop_eq_getElem_cons (List.getElem?_eq_some_iff.1 ha).1, (List.getElem?_eq_some_iff.1 ha).2]
  have h2 : l.drop (k + 1) = b :: l.drop (k + 2) := by rw [List.drop_eq_getElem_cons (List.getElem?_eq_some_iff.1 hb).1, (List.getElem?_eq_some_iff.1 hb).2]
  rw [h1, h2, inR]
theorem inR_end (c : Int) (l : List Int) (h : l.length ≤ 1) : inR c l = false := by
  match l, h with
  | [], _ => rfl
  | [_], _ => rfl
theorem in_spec (c : Int) (full : Bool) (l : List Int) (hl : l.length ≤ 4294967296) (S : List Res) (Q : Out → List Res → Prop) (h : Q (.ret (.lit (.bool (inR c l)))) S) : ACall Tryd.prog 23 [iV c, .sl full 1 (l.map iV)] S Q := by
  refine acall_of_awp Tryd.func23 rfl (by simp [go_sem]) (awp_sound pl0 _ (by kernel_rfl) _ _ ?_)
  simp [go_sem, iV]
  refine AWP.loop (ι := Nat) (fun k => inR c l = inR c (l.drop k) ∧ k ≤ l.length + 1) (fun k => l.length + 2 - k) (fun k => ⟨28, [(0, iV c), (1, .sl full 1 (l.map iV)), (5, iV k)], S, []⟩) 0 (by simp) (StLe.env (by simp [go_sem, iV])) ?_
  rintro k ⟨hk, hk2⟩
  refine awp_sound pl0 _ (by kernel_rfl) _ _ ?_
  simp [go_sem, iV]
  rw [w64 (by omega) (by omega)]
  refine cCond_i (fun c1 => ?_) (fun c1 => ?_)
  · simp at c1
    have c1' : k + 1 < l.length := by omega
    simp [go_sem, iV]
    refine ⟨by omega, fun a ha => ?_⟩
    have hb := List.getElem?_eq_getElem c1'
    generalize l[k + 1] = b at hb
    have hin := inR_drop c l k a b ha hb
    rw [← hk] at hin
    refine cGuard_i (fun c2 => ?_) (fun c2 => ?_)
    · simp [go_sem, iV, c2]
      rw [w64 (by omega) (by omega)]
      refine ⟨by omega, by omega, fun b' hb' => ?_⟩
      obtain rfl : b = b' := by
        have e : ((k : Int) + 1).toNat = k + 1 := by omega
        simp only [e] at hb'
        rw [hb] at hb'; exact Option.some.inj hb'
      rw [c2, Bool.true_and] at hin
      refine cCond_i (fun c3 => ?_) (fun c3 => ?_)
      · simp [go_sem, iV]
        rw [c3, Bool.true_or] at hin
        rw [hin] at h
        exact done (List.Sublist.refl _) h
      · simp [go_sem, iV]
        rw [c3, Bool.false_or] at hin
        rw [w64 (by omega) (by omega)]
        refine round (k + 2) ⟨hin, by omega⟩ (by omega) (StLe.env ?_)
        simp [go_sem, iV]
    · simp [go_sem, iV, c2]
      rw [c2, Bool.false_and, Bool.false_or] at hin
      rw [w64 (by omega) (by omega)]
      refine round (k + 2) ⟨hin, by omega⟩ (by omega) (StLe.env ?_)
      simp [go_sem, iV]
  · simp at c1
    simp [go_sem, iV]
    rw [inR_end c (l.drop k) (by simp; omega)] at hk
    rw [hk] at h
    exact done (List.Sublist.refl _) h

def cl_t1 : List Int := [8719, 8721, 8747, 8755]
def cl_t2 : List Int := [42, 43, 45, 45, 177, 177, 183, 183, 215, 215, 247, 247, 8722, 8723, 8727, 8729, 8743, 8746, 8853, 8857]
def cl_t3 : List Int := [58, 58, 60, 62, 8592, 8601, 8712, 8717, 8764, 8777, 8800, 8805, 8834, 8839]
def cl_t4 : List Int := [40, 40, 91, 91, 123, 123, 10216, 10216]
def cl_t5 : List Int := [33, 33, 41, 41, 63, 63, 93, 93, 125, 125, 10217, 10217]
def cl_t6 : List Int := [44, 44, 59, 59]
def classV (c : Int) : Int := if inR c cl_t1 then 1 else if inR c cl_t2 then 2 else if inR c cl_t3 then 3 else if inR c cl_t4 then 4 else if inR c cl_t5 then 5 else if inR c cl_t6 then 6 else 0
theorem class20_spec (c : Int) (S : List Res) (Q : Out → List Res → Prop) (h : Q (.ret (iV (classV c))) S) : ACall Tryd.prog 16 [iV c] S Q := by
  refine acall_of_awp Tryd.func16 rfl (by simp [go_sem]) (awp_sound pl0 _ (by kernel_rfl) _ _ ?_)
  rw [classV] at h
  simp [go_sem, iV]
  refine .refl (in_spec c _ cl_t1 (by decide) _ _ ?_)
  simp [go_sem]
  refine cCond_i (fun c1 => ?_) (fun c1 => ?_)
  · simp [go_sem]
    rw [if_pos c1] at h
    exact done (List.Sublist.refl _) h
  rw [if_neg (by simp [c1])] at h
  clear c1
  simp [go_sem, iV]
  refine .refl (in_spec c _ cl_t2 (by decide) _ _ ?_)
  simp [go_sem]
  refine cCond_i (fun c1 => ?_) (fun c1 => ?_)
  · simp [go_sem]
    rw [if_pos c1] at h
    exact done (List.Sublist.refl _) h
  rw [if_neg (by simp [c1])] at h
  clear c1
  simp [go_sem, iV]
  refine .refl (in_spec c _ cl_t3 (by decide) _ _ ?_)
  simp [go_sem]
  refine cCond_i (fun c1 => ?_) (fun c1 => ?_)
  · simp [go_sem]
    rw [if_pos c1] at h
    exact done (List.Sublist.refl _) h
  rw [if_neg (by simp [c1])] at h
  clear c1
  simp [go_sem, iV]
  refine .refl (in_spec c _ cl_t4 (by decide) _ _ ?_)
  simp [go_sem]
  refine cCond_i (fun c1 => ?_) (fun c1 => ?_)
  · simp [go_sem]
    rw [if_pos c1] at h
    exact done (List.Sublist.refl _) h
  rw [if_neg (by simp [c1])] at h
  clear c1
  simp [go_sem, iV]
  refine .refl (in_spec c _ cl_t5 (by decide) _ _ ?_)
  simp [go_sem]
  refine cCond_i (fun c1 => ?_) (fun c1 => ?_)
  · simp [go_sem]
    rw [if_pos c1] at h
    exact done (List.Sublist.refl _) h
  rw [if_neg (by simp [c1])] at h
  clear c1
  simp [go_sem, iV]
  refine .refl (in_spec c _ cl_t6 (by decide) _ _ ?_)
  simp [go_sem]
  refine cCond_i (fun c1 => ?_) (fun c1 => ?_)
  · simp [go_sem]
    rw [if_pos c1] at h
    exact done (List.Sublist.refl _) h
  rw [if_neg (by simp [c1])] at h
  clear c1
  simp [go_sem, iV]
  exact done (List.Sublist.refl _) h
end Go.Proofs.YtflpfjeghomepaaDoor
/- show.depth. -/
set_option maxRecDepth 100000
set_option linter.unusedSimpArgs false
set_option linter.unusedVariables false
set_option pp.maxSteps 3000
set_option pp.deepTerms false
namespace Go.Proofs.YtflpfjeghomepaaDoor
open Go Go.AW Go.Proofs

mutual
def Nd.dep : Nd → Int
  | .mk k _ _ _ lim ps _ a b u d =>
    if (k == 10) || (k == 11) then 0 else
    let o := depP ps
    let o := if (lim == 1) || (lim == 2) then o + 1 else o
    let o := if a then max o (1 + depL u) else o
    if b then max o (1 + depL d) else o
def depL : List Nd → Int
  | [] => 0
  | x :: l => max x.dep (depL l)
def depP : List (List Nd) → Int
  | [] => 1
  | p :: l => max (1 + depL p) (depP l)
end
def Nd.flat (x : Nd) : Bool := (x.kind == 10) || (x.kind == 11)
def Nd.dep1 (x : Nd) : Int := if x.told then depP x.parts + 1 else depP x.parts
def Nd.dep2 (x : Nd) : Int := if x.hasSup then max x.dep1 (1 + depL x.sup) else x.dep1
theorem Nd.dep_eq (x : Nd) : x.dep = if x.flat then 0 else if x.hasSub then max x.dep2 (1 + depL x.sub) else x.dep2 := by cases x; rfl
mutual
theorem Nd.dep_le : ∀ x : Nd, 0 ≤ x.dep ∧ x.dep ≤ 2 * x.size
  | .mk k _ _ _ lim ps rs a b u d => by
    have h1 := depL_le u
    have h2 := depL_le d
    have h3 := depP_le ps
    simp only [Nd.dep, Nd.size]
    split
    · omega
    · split <;> split <;> split <;> omega
theorem depL_le : ∀ l : List Nd, 0 ≤ depL l ∧ depL l ≤ 2 * sizeL l
  | [] => by simp [depL, sizeL]
  | x :: l => by
    have h1 := x.dep_le
    have h2 := depL_le l
    simp only [depL, sizeL]; omega
theorem depP_le : ∀ l : List (List Nd), 1 ≤ depP l ∧ depP l ≤ 1 + 2 * sizeP l
  | [] => by simp [depP, sizeP]
  | p :: l => by
    have h1 := depL_le p
    have h2 := depP_le l
    simp only [depP, sizeP]; omega
end
theorem depL_append : ∀ l m, depL (l ++ m) = max (depL l) (depL m)
  | [], m => by have := depL_le m; simp only [List.nil_append, depL]; omega
  | x :: l, m => by simp only [List.cons_append, depL, depL_append l m]; omega
theorem depP_append : ∀ l m, depP (l ++ m) = max (depP l) (depP m)
  | [], m => by have := depP_le m; simp only [List.nil_append, depP]; omega
  | x :: l, m => by simp only [List.cons_append, depP, depP_append l m]; omega

theorem VLe.int {S : List Res} {a b : Int} (h : a = b) : VLe S (.lit (.int .i64 a)) (.lit (.int .i64 b)) := by subst h; exact .refl _ _
theorem mxI (x y : Int) : (if x < y then y else x) = max x y := by rw [Int.max_def]; split <;> split <;> omega

theorem depth_spec : ∀ (n : Nat) (l : List Nd), sizeL l ≤ n → n ≤ 4294967296 → ∀ (full : Bool) (S : List Res) (Q : Out → List Res → Prop), Q (.ret (iV (depL l))) S → ACall Tryd.prog 17 [.sl full 11 (l.map Nd.v)] S Q := by
  intro n
  induction n with
  | zero =>
    intro l hl hn full S Q h
    have hlen := len_size l
    have : l = [] := List.eq_nil_of_length_eq_zero (by omega)
    subst this
    refine acall_of_awp Tryd.func17 rfl (by simp [go_sem]) (awp_sound pl0 _ (by kernel_rfl) _ _ ?_)
    simp [go_sem, iV]
    refine AWP.loop (ι := Nat) (fun k => k = 0) (fun k => 0) (fun k => ⟨61, [(3, iV 0), (9, .sl full 11 []), (10, iV 0), (11, iV 0)], S, []⟩) 0 rfl (StLe.env (by simp [go_sem, iV])) ?_
    intro k hk
    refine awp_sound pl0 _ (by kernel_rfl) _ _ ?_
    simp [go_sem, iV]
    exact done (List.Sublist.refl _) h
  | succ n ih =>
    intro l hl hn full S Q h
    refine acall_of_awp Tryd.func17 rfl (by simp [go_sem]) (awp_sound pl0 _ (by kernel_rfl) _ _ ?_)
    simp [go_sem, iV]
    have hlen := len_size l
    refine AWP.loop (ι := Nat) (fun k => k ≤ l.length) (fun k => l.length - k) (fun k => ⟨61, [(3, iV (depL (l.take k))), (9, .sl full 11 (l.map Nd.v)), (10, iV l.length), (11, iV k)], S, []⟩) 0 (by simp) (StLe.env (by simp [go_sem, iV, depL])) ?_
    intro k hk
    refine awp_sound pl0 _ (by kernel_rfl) _ _ ?_
    simp [go_sem, iV]
    refine cCond_i (fun c1 => ?_) (fun c1 => ?_)
    rotate_left
    · simp at c1
      simp [go_sem, iV]
      have : k = l.length := by omega
      subst this
      rw [List.take_length]
      exact done (List.Sublist.refl _) h
    simp at c1
    simp [go_sem, iV]
    refine ⟨c1, fun x hx => ?_⟩
    simp [go_sem, iV, Nd.v_eq x]
    intro b hb
    have hxs := sizeL_mem (List.mem_of_getElem? hx)
    have hse := x.size_eq
    have htk := take_snoc hx
    have hcs : depL (l.take (k + 1)) = max (depL (l.take k)) x.dep := by
      have := x.dep_le
      rw [htk, depL_append]; simp only [depL]; omega
    have hde := x.dep_eq
    have hd0 := depL_le (l.take k)
    have hpl := depP_le x.parts
    have hu := depL_le x.sup
    have hd := depL_le x.sub
    have hfl : x.flat = ((x.kind == 10) || (x.kind == 11)) := rfl
    refine cGuard_i (fun c2 => ?_) (fun c2 => ?_)
    · simp [go_sem, iV, c2]
      rw [c2, Bool.true_or] at hfl
      rw [if_pos hfl] at hde
      rw [w64 (by omega) (by omega)]
      refine round (k + 1) c1 (by omega) ((StLe.drop (List.sublist_cons_self _ _)).trans (StLe.env ?_))
      simp [go_sem, iV]
      exact VLe.int (by omega)
    simp [go_sem, iV, c2]
    rw [c2, Bool.false_or] at hfl
    refine cCond_i (fun c3 => ?_) (fun c3 => ?_)
    · simp [go_sem, iV]
      rw [c3] at hfl
      rw [if_pos hfl] at hde
      rw [w64 (by omega) (by omega)]
      refine round (k + 1) c1 (by omega) ((StLe.drop (List.sublist_cons_self _ _)).trans (StLe.env ?_))
      simp [go_sem, iV]
      exact VLe.int (by omega)
    rw [c3] at hfl
    rw [if_neg (by simp [hfl])] at hde
    simp [go_sem, iV]
    have hpls := len_sizeP x.parts
    refine AWP.loop (ι := Nat) (fun j => j ≤ x.parts.length) (fun j => x.parts.length - j) (fun j => ⟨61, [(3, iV (depL (l.take k))), (5, .lit (.pointer (some ⟨b, 0, none⟩))), (6, iV (depP (x.parts.take j))), (9, .sl full 11 (l.map Nd.v)), (10, iV l.length), (11, iV k), (24, .sl false 1 (x.parts.map partV)), (25, iV x.parts.length), (26, iV j)], .objT b x.ce none :: S, []⟩) 0 (Nat.zero_le _) (StLe.env (by simp [go_sem, iV, depP])) ?_
    intro j hj
    refine awp_sound pl0 _ (by kernel_rfl) _ _ ?_
    simp [go_sem, iV]
    refine cCond_i (fun c4 => ?_) (fun c4 => ?_)
    · simp at c4
      simp [go_sem, iV]
      refine ⟨c4, fun p hp2 => ?_⟩
      have hps := sizeP_mem (List.mem_of_getElem? hp2)
      have htk2 := take_snoc hp2
      have hcp := depP_le (x.parts.take j)
      have hpp := depL_le p
      have hcs2 : depP (x.parts.take (j + 1)) = max (depP (x.parts.take j)) (1 + depL p) := by rw [htk2, depP_append]; simp only [depP]; omega
      simp [go_sem, iV, partV]
      refine .refl (ih p (by omega) (by omega) false _ _ ?_)
      simp [go_sem, iV]
      rw [w64 (x := 1 + depL p) (by omega) (by omega), w64 (by omega) (by omega), mxI]
      refine round (j + 1) c4 (by omega) (StLe.env ?_)
      simp [go_sem, iV]
      exact VLe.int (by omega)
    · simp at c4
      simp [go_sem, iV]
      have hjj : j = x.parts.length := by omega
      subst hjj
      rw [List.take_length]
      refine .refl (told_spec x _ _ ?_)
      have hd1 : x.dep1 = if x.told then depP x.parts + 1 else depP x.parts := rfl
      have hd2 : x.dep2 = if x.hasSup then max x.dep1 (1 + depL x.sup) else x.dep1 := rfl
      simp [go_sem]
      cases e1 : x.told <;> cases e2 : x.hasSup <;> cases e3 : x.hasSub
      all_goals
        rw [e1] at hd1
        rw [e2] at hd2
        rw [e3] at hde
        simp only [if_true, Bool.false_eq_true, if_false] at hd1 hd2 hde
        have hw1 : IntKind.i64.wrap (depP x.parts + 1) = depP x.parts + 1 := w64 (by omega) (by omega)
        have hw2 : IntKind.i64.wrap (1 + depL x.sup) = 1 + depL x.sup := w64 (by omega) (by omega)
        have hw3 : IntKind.i64.wrap (1 + depL x.sub) = 1 + depL x.sub := w64 (by omega) (by omega)
        have hw4 : IntKind.i64.wrap ((k : Int) + 1) = k + 1 := w64 (by omega) (by omega)
        simp [go_sem, iV, e2, e3, hw1, hw2, hw3, hw4, mxI]
        try
          refine .refl (ih x.sup (by omega) (by omega) false _ _ ?_)
          simp [go_sem, iV, e2, e3, hw1, hw2, hw3, hw4, mxI]
        try
          refine .refl (ih x.sub (by omega) (by omega) false _ _ ?_)
          simp [go_sem, iV, e2, e3, hw1, hw2, hw3, hw4, mxI]
        refine round (k + 1) c1 (by omega) ((StLe.drop (List.sublist_cons_self _ _)).trans (StLe.env ?_))
        simp [go_sem, iV]
        exact VLe.int (by omega)
end Go.Proofs.YtflpfjeghomepaaDoor
/- The engine AW, part 19: iterators with what must stay; marks of many ranges over functions. -/
set_option linter.unusedVariables false
set_option linter.unusedSimpArgs false
namespace Go.AW

/-- An iterator's rounds, and what must be so behind each. -/
def AIterJ (P : Program) (l : Nat) (J : List Res → Prop) : List (List V) → List Res → (List Res → Prop) → Prop
  | [], S, Q => Q S
  | x :: xs, S, Q => ARound P l x S fun b S' => J S' ∧ if b = true then AIterJ P l J xs S' Q else Q S'

theorem ARound.post {P : Program} {l : Nat} {args : List V} {S : List Res} {R : Bool → List Res → Prop} (h : ARound P l args S fun b S' => ∃ S'', SLe S' S'' ∧ R b S'') : ARound P l args S R := fun ro G w xs hv hi => by
  obtain ⟨r, h1, h2, h3⟩ := h ro G w xs hv hi
  refine ⟨r, h1, h2, h3.mono fun e w' ⟨b, G', S', h4, h5, h6, S'', hle, hr⟩ => ?_⟩
  obtain ⟨G'', e', i'⟩ := hle G' w' h6
  exact ⟨b, G'', S'', h4, h5.trans e', i', hr⟩

section
variable {ro : Option Nat} {P : Program} {o : Oper} {K : St → Prop} {Q : Exit → St → Prop} {st st' : St}
theorem AOp.le (hle : StLe st st') (h : AOp ro P o K Q st') : AOp ro P o K Q st := fun G w a hr => by
  obtain ⟨G', e, r⟩ := hle G w a hr
  have h1 := h G' w a r
  exact wpIn_mono2 (fun a' w' ⟨G'', st'', he, hr', hk⟩ => ⟨G'', st'', e.trans he, hr', hk⟩) (fun ex a' w' ⟨G'', st'', he, hr', hq⟩ => ⟨G'', st'', e.trans he, hr', hq⟩) h1
end

theorem ACall.pre {P : Program} {f : FuncId} {args : List V} {S S' : List Res} {Q : Out → List Res → Prop} (hle : SLe S S') (h : ACall P f args S' Q) : ACall P f args S Q := fun G w xs hv hi => by
  obtain ⟨G', e, i⟩ := hle G w hi
  exact (h G' w xs (hv.mono e.im) i).mono fun e' w' ⟨G'', S'', o, he, hi', her, hq⟩ => ⟨G'', S'', o, e.trans he, hi', her, hq⟩

@[go_sem] theorem rangeQ_ret {ro : Option Nat} {P : Program} {l : Nat} {n : Nat} {env : List (Nat × V)} {S S2 : List Res} {ds : List Deferred} {Q : Exit → St → Prop} {v : V} : rangeQ ro P l ⟨n, env, S, ds⟩ Q (.ret v) S2 = ∃ L, findLp l S2 = some L ∧ L.st ≠ .busy ∧
      (match L.pend with
       | none => Q .normal ⟨n, env, dropLp l S2, ds⟩
       | some c => AWP ro P c Q ⟨n, env, dropLp l S2, ds⟩) := rfl

section
variable {S S' : List Res} {x y : Nat} {n : Nat} {env : List (Nat × V)} {s s' : LoopState} {p p' : Option Code} {ps : Array Tmp} {asg bd : Code} {db : Nat} {cs : List V} {tt : Option TypeId} {k c z : Nat} {a : Option Addr} {xs : List V} {o : Obj} {r : Res}
@[go_sem] theorem findObj_lp : findObj (.lp x n env s p ps asg bd db :: S) y = findObj S y := rfl
@[go_sem] theorem setObj_lp : setObj (.lp x n env s p ps asg bd db :: S) y cs = .lp x n env s p ps asg bd db :: setObj S y cs := rfl
@[go_sem] theorem findVec_lp : findVec (.lp x n env s p ps asg bd db :: S) y = findVec S y := rfl
@[go_sem] theorem setVec_lp : setVec (.lp x n env s p ps asg bd db :: S) y r = .lp x n env s p ps asg bd db :: setVec S y r := rfl
@[go_sem] theorem findTy_lp : findTy (.lp x n env s p ps asg bd db :: S) y = findTy S y := rfl
@[go_sem] theorem findLp_lp : findLp y (.lp x n env s p ps asg bd db :: S) = if x = y then some ⟨n, env, s, p, ps, asg, bd, db⟩ else findLp y S := rfl
@[go_sem] theorem findLp_obj : findLp y (.objT x cs tt :: S) = findLp y S := rfl
@[go_sem] theorem findLp_vec : findLp y (.vec k a c z xs :: S) = findLp y S := rfl
@[go_sem] theorem findLp_raw : findLp y (.raw x o :: S) = findLp y S := rfl
@[go_sem] theorem setLp_lp : setLp y s' p' (.lp x n env s p ps asg bd db :: S) = if x = y then .lp x n env s' p' ps asg bd db :: S else .lp x n env s p ps asg bd db :: setLp y s' p' S := by
  simp only [setLp]
@[go_sem] theorem setLp_obj : setLp y s' p' (.objT x cs tt :: S) = .objT x cs tt :: setLp y s' p' S := rfl
@[go_sem] theorem setLp_vec : setLp y s' p' (.vec k a c z xs :: S) = .vec k a c z xs :: setLp y s' p' S := rfl
@[go_sem] theorem setLp_raw : setLp y s' p' (.raw x o :: S) = .raw x o :: setLp y s' p' S := rfl
@[go_sem] theorem dropLp_lp : dropLp y (.lp x n env s p ps asg bd db :: S) = if x = y then S else .lp x n env s p ps asg bd db :: dropLp y S := rfl
@[go_sem] theorem dropLp_obj : dropLp y (.objT x cs tt :: S) = .objT x cs tt :: dropLp y S := rfl
@[go_sem] theorem dropLp_vec : dropLp y (.vec k a c z xs :: S) = .vec k a c z xs :: dropLp y S := rfl
@[go_sem] theorem dropLp_raw : dropLp y (.raw x o :: S) = .raw x o :: dropLp y S := rfl
@[go_sem] theorem takeDef_raw : takeDef y (.raw x (.deferred (some [])) :: S) = if x = y then some S else (takeDef y S).map (.raw x (.deferred (some [])) :: ·) := rfl
@[go_sem] theorem takeDef_obj : takeDef y (.objT x cs tt :: S) = (takeDef y S).map (.objT x cs tt :: ·) := rfl
@[go_sem] theorem takeDef_vec : takeDef y (.vec k a c z xs :: S) = (takeDef y S).map (.vec k a c z xs :: ·) := rfl
@[go_sem] theorem takeDef_lp : takeDef y (.lp x n env s p ps asg bd db :: S) = (takeDef y S).map (.lp x n env s p ps asg bd db :: ·) := rfl
end
section
variable {l : Nat} {R : Bool → List Res → Prop} {st : St} {n : Nat} {env : List (Nat × V)} {S : List Res} {ds : List Deferred}
@[go_sem] theorem roundA_normal : roundA l R .normal ⟨n, env, S, ds⟩ = ∃ L, findLp l S = some L ∧ R true (setLp l .ready none S) := rfl
@[go_sem] theorem roundA_ret : roundA l R .ret ⟨n, env, S, ds⟩ = ∃ L, findLp l S = some L ∧ R false (setLp l .done (some .ret) S) := rfl
@[go_sem] theorem roundA_exit {id : Nat} : roundA l R (.exit id) ⟨n, env, S, ds⟩ = ∃ L, findLp l S = some L ∧ R false (setLp l .done (some (.exit id)) S) := rfl
@[congr] theorem roundA_congr {st' : St} {e e' : Exit} (he : e = e') (h : st = st') : roundA l R e st = roundA l R e' st' := by rw [he, h]
theorem roundA_n {L : Lp} (h : findLp l S = some L) (hr : R true (setLp l .ready none S)) : roundA l R .normal ⟨n, env, S, ds⟩ := ⟨L, h, hr⟩
end

/-- The marks of ranges over functions that are done. -/
def raws (dbs : List Nat) : List Res := dbs.map fun d => .raw d (.deferred (some []))
def marks (dbs : List Nat) : List Deferred := dbs.map fun d => ⟨.collected d, #[]⟩
theorem findObj_raws (S : List Res) (b : Nat) : ∀ dbs, findObj (raws dbs ++ S) b = findObj S b
  | [] => rfl
  | d :: dbs => findObj_raws S b dbs
theorem setObj_raws (S : List Res) (b : Nat) (cs : List V) : ∀ dbs, setObj (raws dbs ++ S) b cs = raws dbs ++ setObj S b cs
  | [] => rfl
  | d :: dbs => congrArg (_ :: ·) (setObj_raws S b cs dbs)
theorem findVec_raws (S : List Res) (b : Nat) : ∀ dbs, findVec (raws dbs ++ S) b = findVec S b
  | [] => rfl
  | d :: dbs => findVec_raws S b dbs
theorem setVec_raws (S : List Res) (b : Nat) (r : Res) : ∀ dbs, setVec (raws dbs ++ S) b r = raws dbs ++ setVec S b r
  | [] => rfl
  | d :: dbs => congrArg (_ :: ·) (setVec_raws S b r dbs)
theorem findTy_raws (S : List Res) (b : Nat) : ∀ dbs, findTy (raws dbs ++ S) b = findTy S b
  | [] => rfl
  | d :: dbs => findTy_raws S b dbs
theorem blks_raws : ∀ dbs, blks (raws dbs) = dbs
  | [] => rfl
  | d :: dbs => congrArg (d :: ·) (blks_raws dbs)
def noRaw : List Res → Bool
  | [] => true
  | .raw .. :: _ => false
  | _ :: S => noRaw S
theorem takeDef_noRaw {d : Nat} {S : List Res} : ∀ A : List Res, noRaw A = true → takeDef d (A ++ .raw d (.deferred (some [])) :: S) = some (A ++ S)
  | [], _ => by simp [takeDef]
  | r :: A, h => by
    cases r with
    | raw => cases h
    | objT => simp only [List.cons_append, takeDef]; rw [takeDef_noRaw A (by simpa [noRaw] using h)]; rfl
    | vec => simp only [List.cons_append, takeDef]; rw [takeDef_noRaw A (by simpa [noRaw] using h)]; rfl
    | lp => simp only [List.cons_append, takeDef]; rw [takeDef_noRaw A (by simpa [noRaw] using h)]; rfl
theorem ALeave_marks {P : Program} {fn : Func} {R : Out → List Res → Prop} {u : FrameMode} {n : Nat} {env : List (Nat × V)} {S : List Res} {ds' : List Deferred} (hu : u ≠ .run) (A : List Res) (hA : noRaw A = true) (h : ALeave P fn R [] u ⟨n, env, A ++ S, ds'⟩) :
    ∀ dbs, ALeave P fn R (marks dbs) u ⟨n, env, A ++ (raws dbs ++ S), ds'⟩
  | [] => h
  | d :: dbs => by
    have e : A ++ (raws (d :: dbs) ++ S) = A ++ .raw d (.deferred (some [])) :: (raws dbs ++ S) := rfl
    rw [e, marks, List.map_cons, ALeave_mark, takeDef_noRaw A hA]
    exact ⟨hu, ALeave_marks hu A hA h dbs⟩

@[go_sem] theorem rng0 : List.range 0 = [] := rfl
@[go_sem] theorem rng1 : List.range 1 = [0] := rfl
@[go_sem] theorem rng2 : List.range 2 = [0, 1] := rfl
@[go_sem] theorem rng3 : List.range 3 = [0, 1, 2] := rfl
@[go_sem] theorem rng4 : List.range 4 = [0, 1, 2, 3] := rfl
@[go_sem] theorem rng5 : List.range 5 = [0, 1, 2, 3, 4] := rfl
@[go_sem] theorem rng6 : List.range 6 = [0, 1, 2, 3, 4, 5] := rfl
@[go_sem] theorem rng7 : List.range 7 = [0, 1, 2, 3, 4, 5, 6] := rfl
@[go_sem] theorem rng8 : List.range 8 = [0, 1, 2, 3, 4, 5, 6, 7] := rfl
@[go_sem] theorem rng9 : List.range 9 = [0, 1, 2, 3, 4, 5, 6, 7, 8] := rfl
@[go_sem] theorem rng12 : List.range 12 = [0, 1, 2, 3, 4, 5, 6, 7, 8, 9, 10, 11] := rfl
@[go_sem] theorem okv_int {k : IntKind} {n : Int} : V.okv (.lit (.int k n)) = true := rfl
@[go_sem] theorem okv_bool {b : Bool} : V.okv (.lit (.bool b)) = true := rfl
@[go_sem] theorem okv_string {s : ByteArray} : V.okv (.lit (.string s)) = true := rfl
@[go_sem] theorem okv_slice {a : Option Addr} {n c : Nat} : V.okv (.lit (.slice a n c)) = true := rfl
@[go_sem] theorem one_int {k : IntKind} {n : Int} : V.one (.lit (.int k n)) = true := rfl
@[go_sem] theorem one_bool {b : Bool} : V.one (.lit (.bool b)) = true := rfl
@[go_sem] theorem one_string {s : ByteArray} : V.one (.lit (.string s)) = true := rfl
@[go_sem] theorem one_slice {a : Option Addr} {n c : Nat} : V.one (.lit (.slice a n c)) = true := rfl
@[go_sem] theorem cells_agg {cs : List V} : V.cells (.agg cs) = cs := rfl
@[go_sem] theorem cells_lit {v : Value} : V.cells (.lit v) = [.lit v] := rfl
@[go_sem] theorem cells_sl {f : Bool} {z : Nat} {xs : List V} : V.cells (.sl f z xs) = [.sl f z xs] := rfl
end Go.AW
/- The engine AW, part 20: texts: a rune's text, calls without a body, ranges over a string. -/
set_option linter.unusedVariables false
set_option linter.unusedSimpArgs false
namespace Go.AW
section
variable {ro : Option Nat} {P : Program} {o : Oper} {K : St → Prop} {Q : Exit → St → Prop} {st : St}

/-- A rune's text. -/
theorem AOp.intStr {s d : TypeId} {x : Operand} {ks : IntKind} {k : IntKind} {n : Int} (hop : o.op = .convert s d x) (hd : dstOk st.n o.dst) (hs : P.underlying s = some (.int ks)) (ht : P.underlying d = some .string) (hx : st.opnd x = .lit (.int k n))
    (hk : K (st.put o.dst (.lit (.string (Utf8.encode n))))) : AOp ro P o K Q st :=
  AOp.pure hd (by rw [hop]; rfl) (fun G w a hr => by
    refine ⟨.string (Utf8.encode n), ?_, .lit _⟩
    simp only [execOp, hop, hr.lit hx]
    simp [convert, run_und hs, run_und ht, Conv.intToString]) hk

/-- A call of a function without a body, at values that are known. -/
theorem AOp.ext2 {f : FuncId} {x y : Operand} {tys : Array TypeId} {u v r : Value} (hop : o.op = .call ⟨.value (.func f), #[x, y], tys⟩) (hd : dstOk st.n o.dst) (hx : st.opnd x = .lit u) (hy : st.opnd y = .lit v)
    (hg : ∀ w, (callFunc f #[u, v]).run P w = .ok (.value r) w) (hk : K (st.put o.dst (.lit r))) : AOp ro P o K Q st :=
  AOp.pure hd (by rw [hop]; rfl) (fun G w a hr => by
    refine ⟨_, ?_, .lit _⟩
    have h0 : a.eval (.func f) = .func (.func f) #[] #[] := rfl
    simp only [execOp, hop, resolve, h0, Deferred.ofValue, Sem.run_bind, Sem.run_pure, Result.andThen_ok, invoke]
    simpa [hr.lit hx, hr.lit hy] using hg w) hk

theorem AOp.rangeStr {t : TypeId} {x : Operand} {s : ByteArray} (hop : o.op = .range t x) (hd : dstOk st.n o.dst) (ht : P.underlying t = some .string) (hx : st.opnd x = .lit (.string s))
    (hk : ∀ b, Fresh b st.S → K (St.put { st with S := .raw b (.stringIter s 0) :: st.S } o.dst (.lit (.pointer (some ⟨b, 0, none⟩))))) : AOp ro P o K Q st := by
  refine AOp.value hd (by rw [hop]; rfl) fun G w a hr => ?_
  obtain ⟨he, hi⟩ := hr.inv.alloc_raw (o := .stringIter s 0) rfl
  refine ⟨.pointer (some ⟨w.heap.size, 0, none⟩), w.alloc (.stringIter s 0), G, _, _, ?_, he, hi, .lit _, hk _ (fun hb => by have := hr.inv.lt hb; omega)⟩
  simp only [execOp, hop, hr.lit hx, Sem.run_bind, run_range_string _ _ _ ht, Result.andThen_ok]
  rfl

def findRaw : List Res → Nat → Option Obj
  | [], _ => none
  | .raw b o :: S, x => if b = x then some o else findRaw S x
  | _ :: S, x => findRaw S x
def setRaw : List Res → Nat → Obj → List Res
  | [], _, _ => []
  | .raw b o :: S, x, o' => if b = x then .raw b o' :: S else .raw b o :: setRaw S x o'
  | r :: S, x, o' => r :: setRaw S x o'
theorem findRaw_split {x : Nat} {o : Obj} : ∀ {S : List Res}, findRaw S x = some o → ∃ A B, S = A ++ .raw x o :: B ∧ ∀ o', setRaw S x o' = A ++ .raw x o' :: B
  | [], h => by simp [findRaw] at h
  | r :: S, h => by
    have rest : findRaw S x = some o → (∀ o', setRaw (r :: S) x o' = r :: setRaw S x o') → ∃ A B, r :: S = A ++ .raw x o :: B ∧ ∀ o', setRaw (r :: S) x o' = A ++ .raw x o' :: B := fun h1 h2 => by
      obtain ⟨A, B, e1, e2⟩ := findRaw_split h1
      exact ⟨r :: A, B, by rw [e1]; rfl, fun o' => by rw [h2, e2]; rfl⟩
    cases r with
    | raw b o1 =>
      by_cases hb : b = x
      · subst hb
        simp [findRaw] at h; subst h
        exact ⟨[], S, rfl, fun o' => by simp [setRaw]⟩
      · exact rest (by simpa [findRaw, hb] using h) fun o' => by simp [setRaw, hb]
    | objT => exact rest (by simpa [findRaw] using h) fun o' => rfl
    | vec => exact rest (by simpa [findRaw] using h) fun o' => rfl
    | lp => exact rest (by simpa [findRaw] using h) fun o' => rfl

theorem AOp.nextStr {x : Operand} {b : Nat} {s : ByteArray} {pos : Nat} (hop : o.op = .next x true) (hd : dstOk st.n o.dst) (hx : st.opnd x = .lit (.pointer (some ⟨b, 0, none⟩))) (hS : findRaw st.S b = some (.stringIter s pos))
    (hk1 : pos < s.size → K (St.put { st with S := setRaw st.S b (.stringIter s (pos + (Utf8.decode s pos).2)) } o.dst (.tuple [.lit (.bool true), .lit (.int .i64 pos), .lit (.int .i32 (Utf8.decode s pos).1)])))
    (hk2 : ¬ pos < s.size → K (st.put o.dst (.tuple [.lit (.bool false)]))) : AOp ro P o K Q st := by
  refine AOp.value hd (by rw [hop]; rfl) fun G w a hr => ?_
  obtain ⟨A, B, hA, hB⟩ := findRaw_split hS
  have hraw := hr.inv.res (.raw b (.stringIter s pos)) (by rw [hA]; simp)
  by_cases hp : pos < s.size
  · have hi := hr.inv
    rw [hA] at hi
    obtain ⟨he1, hi1⟩ := hi.put (r' := .raw b (.stringIter s (pos + (Utf8.decode s pos).2))) (o := .stringIter s (pos + (Utf8.decode s pos).2)) rfl rfl hraw.2.2 ⟨World.putObj_heap_same (Array.getElem?_eq_some_iff.1 hraw.1).1, rfl, hraw.2.2⟩
    rw [← hA, ← hB] at he1
    rw [← hB] at hi1
    refine ⟨.tuple #[.bool true, .int .i64 pos, .int .i32 (Utf8.decode s pos).1], _, G, _, _, ?_, he1, hi1, .tuple' (.cons (.lit _) (.cons (.lit _) (.cons (.lit _) .nil))), hk1 hp⟩
    simp only [execOp, hop, hr.lit hx, Sem.run_bind, Instr.next, getObj, Go.setObj, Sem.run, hraw.1, Result.andThen, hp, if_true]
    rfl
  · refine ⟨.tuple #[.bool false], w, G, .tuple [.lit (.bool false)], st.S, ?_, .refl _ _ _, hr.inv, .tuple' (.cons (.lit _) .nil), hk2 hp⟩
    simp [execOp, hop, hr.lit hx, Sem.run_bind, Instr.next, getObj, Sem.run, hraw.1, Result.andThen, hp]
end

/-! ### A scope that nothing jumps out of, nor within -/
section
variable {P : Program} {F : Fence} {n : Nat} {b : Frame} {a : Act} {k : List Item} {cs : List Frame} {w : World} {Q : Exit → Act → World → Prop}
theorem stepR_scope {c : Code} : step P (lone (b.atR a (.code (.scope c) :: k)) cs w) = .next (lone (b.atR a (.code c :: .inScope c :: k)) cs w) :=
  step_lone_go (by simp [stepG, stepG.exec, Frame.atR])
theorem stepR_inScope {c : Code} : step P (lone (b.atR a (.inScope c :: k)) cs w) = .next (lone (b.atR a k) cs w) :=
  step_lone_go (by simp [stepG, stepG.exec, Frame.atR])
theorem wpIn_scope {c : Code} (h : c.wpIn F n P (Exit.noGoto Q) a w) : (Code.scope c).wpIn F n P Q a w := by
  intro b k cs hro hb hr
  have h0 : (lone (b.atR a (.code (.scope c) :: k)) cs w).fenced P F := fenced_calm hb hr rfl
  obtain ⟨e, a₁, w₁, hq, harr⟩ := h b (.inScope c :: k) cs hro hb hr
  cases e with
  | normal => exact ⟨.normal, a₁, w₁, hq, .head h0 stepR_scope (StepsIn.trans harr (.one (fenced_calm hb hr rfl) stepR_inScope))⟩
  | exit id =>
    have hx : exitTo id (.inScope c :: k) = exitTo id k := rfl
    exact ⟨.exit id, a₁, w₁, hq, fun k' hk => .head h0 stepR_scope (harr.1 k' (by rw [hx]; exact hk)),
      fun hr' hk => let ⟨k₁, h1, h2⟩ := harr.2 hr' (by rw [hx]; exact hk); ⟨k₁, h1, .head h0 stepR_scope h2⟩⟩
  | goto l => exact hq.elim
  | ret => exact ⟨_, a₁, w₁, hq, .of_steps (.one h0 stepR_scope) harr⟩
  | panic ch => exact ⟨_, a₁, w₁, hq, .of_steps (.one h0 stepR_scope) harr⟩
  | outgrown => exact ⟨_, a₁, w₁, hq, .of_steps (.one h0 stepR_scope) harr⟩
end
def scopeQ (Q : Exit → St → Prop) : Exit → St → Prop
  | .goto _, _ => False
  | e, st => Q e st
theorem AWP.scope {ro : Option Nat} {P : Program} {c : Code} {Q : Exit → St → Prop} {st : St} (h : AWP ro P c (scopeQ Q) st) : AWP ro P (.scope c) Q st := fun G w a hr => by
  refine wpIn_scope (wpIn_mono (h G w a hr) fun e a' w' ⟨G', st', he, hr', hq⟩ => ?_)
  cases e with
  | goto l => exact hq.elim
  | normal => exact ⟨G', st', he, hr', hq⟩
  | exit id => exact ⟨G', st', he, hr', hq⟩
  | ret => exact ⟨G', st', he, hr', hq⟩
  | panic ch => exact ⟨G', st', he, hr', hq⟩
  | outgrown => exact ⟨G', st', he, hr', hq⟩
section
variable {pl : Nat → DPlan} {ro : Option Nat} {P : Program} {Q : Exit → St → Prop} {n : Nat} {env : List (Nat × V)} {S : List Res} {ds : List Deferred} {st : St}
@[go_sem] theorem awp_scope {c : Code} : awp pl ro P (.scope c) Q ⟨n, env, S, ds⟩ = AWP ro P (.scope c) Q ⟨n, env, S, ds⟩ := rfl
@[go_sem] theorem scopeQ_normal : scopeQ Q .normal st = Q .normal st := rfl
@[go_sem] theorem scopeQ_exit {id : Nat} : scopeQ Q (.exit id) st = Q (.exit id) st := rfl
@[go_sem] theorem scopeQ_ret : scopeQ Q .ret st = Q .ret st := rfl
@[go_sem] theorem scopeQ_panic {ch} : scopeQ Q (.panic ch) st = Q (.panic ch) st := rfl
end
end Go.AW
/- lex.Quote and what it calls: runes and texts. -/
set_option maxRecDepth 100000
set_option linter.unusedSimpArgs false
set_option linter.unusedVariables false
set_option pp.maxSteps 3000
set_option pp.deepTerms false
namespace Go.Proofs.YtflpfjeghomepaaDoor
open Go Go.AW Go.Proofs

def i32V (n : Int) : V := .lit (.int .i32 n)
def validB (r : Int) : Bool := (decide (0 ≤ r) && decide (r < 55296)) || (decide (57343 < r) && decide (r ≤ 1114111))
theorem validRune_spec (r : Int) (S : List Res) (Q : Out → List Res → Prop) (h : Q (.ret (.lit (.bool (validB r)))) S) : ACall Tryd.prog 45 [i32V r] S Q := by
  refine acall_of_awp Tryd.func45 rfl (by simp [go_sem]) (awp_sound pl0 _ (by kernel_rfl) _ _ ?_)
  simp [go_sem, i32V]
  rw [validB] at h
  refine cGuard_i (fun c1 => ?_) (fun c1 => ?_)
  · simp [go_sem, c1]
    rw [c1, Bool.true_and] at h
    refine cCond_i (fun c2 => ?_) (fun c2 => ?_)
    · simp [go_sem]
      exact done (List.Sublist.refl _) (by simpa [c2] using h)
    · simp [go_sem]
      rw [c2, Bool.false_or] at h
      refine cGuard_i (fun c3 => ?_) (fun c3 => ?_)
      · simp [go_sem, c3]
        refine cCond_i (fun c4 => ?_) (fun c4 => ?_)
        · simp [go_sem]; exact done (List.Sublist.refl _) (by simpa [c3, c4] using h)
        · simp [go_sem]; exact done (List.Sublist.refl _) (by simpa [c3, c4] using h)
      · simp [go_sem, c3]
        exact done (List.Sublist.refl _) (by simpa [c3] using h)
  · simp [go_sem, c1]
    rw [c1, Bool.false_and, Bool.false_or] at h
    refine cGuard_i (fun c3 => ?_) (fun c3 => ?_)
    · simp [go_sem, c3]
      refine cCond_i (fun c4 => ?_) (fun c4 => ?_)
      · simp [go_sem]; exact done (List.Sublist.refl _) (by simpa [c3, c4] using h)
      · simp [go_sem]; exact done (List.Sublist.refl _) (by simpa [c3, c4] using h)
    · simp [go_sem, c3]
      exact done (List.Sublist.refl _) (by simpa [c3] using h)

theorem idxByte1_spec (s : ByteArray) (c : Int) (S : List Res) (Q : Out → List Res → Prop) (h : Q (.ret (iV (Lib.indexByte s.data.toList c.toNat.toUInt8))) S) :
    ACall Tryd.prog 65 [sV s, .lit (.int .u8 c)] S Q := by
  refine acall_of_awp Tryd.func65 rfl (by simp [go_sem]) (awp_sound pl0 _ (by kernel_rfl) _ _ ?_)
  simp [go_sem, sV]
  refine AOp.ext2 (r := .int .i64 (Lib.indexByte s.data.toList c.toNat.toUInt8)) rfl (by simp [go_sem]) rfl rfl (fun w => ?_) ?_
  · rw [run_callFunc_extern (f := 68) rfl (by kernel_rfl) (by kernel_rfl) (by kernel_rfl) (e := Extern.BytealgIndexByte.indexByte) (by kernel_rfl), Lib.run_indexByteString]; rfl
  simp [go_sem]
  exact done (List.Sublist.refl _) h
theorem idxByte_spec (s : ByteArray) (c : Int) (S : List Res) (Q : Out → List Res → Prop) (h : Q (.ret (iV (Lib.indexByte s.data.toList c.toNat.toUInt8))) S) :
    ACall Tryd.prog 57 [sV s, .lit (.int .u8 c)] S Q := by
  refine acall_of_awp Tryd.func57 rfl (by simp [go_sem]) (awp_sound pl0 _ (by kernel_rfl) _ _ ?_)
  simp [go_sem, sV]
  refine .refl (idxByte1_spec s c _ _ ?_)
  simp [go_sem]
  exact done (List.Sublist.refl _) h

def signs : ByteArray := ⟨#[123, 125, 94, 95, 38]⟩
def sgnB (r : Int) : Bool := (r == 123) || (r == 125) || (r == 94) || (r == 95) || (r == 38)

def plIR : Nat → DPlan
  | 6 => .take 0 (.take 1 (.take 2 (.take 3 (.take 4 (.take 5 (.take 6 .done))))))
  | 7 => .take 0 (.take 1 (.take 2 (.take 3 (.take 4 (.take 5 (.take 6 (one 7 (one 8 .done))))))))
  | _ => .done
theorem sgn_ascii {r : Int} (h0 : 0 ≤ r) (h1 : r < 128) : decide (0 ≤ Lib.indexByte signs.data.toList (IntKind.u8.wrap r).toNat.toUInt8) = sgnB r := by
  have key : ((List.range 128).all fun n => decide (0 ≤ Lib.indexByte signs.data.toList (IntKind.u8.wrap (n : Int)).toNat.toUInt8) == sgnB n) = true := by kernel_rfl
  have := List.all_eq_true.1 key r.toNat (List.mem_range.2 (by omega))
  rw [Int.toNat_of_nonneg h0] at this
  simpa using this
theorem no_idx : ∀ (l : List UInt8) (c : UInt8), (∀ b ∈ l, b.toNat < 128) → 128 ≤ c.toNat → Lib.indexByte l c = -1
  | [], c, _, _ => rfl
  | b :: l, c, h, hc => by
    have hb := h b (by simp)
    have ih := no_idx l c (fun x hx => h x (by simp [hx])) hc
    have : (b == c) = false := by
      cases e : b == c with
      | false => rfl
      | true => have := eq_of_beq e; subst this; omega
    simp [Lib.indexByte, this, ih]
theorem no_sign (i j : Nat) (c : UInt8) (hc : 128 ≤ c.toNat) : Lib.indexByte (signs.extract i j).data.toList c = -1 := by
  refine no_idx _ _ (fun b hb => ?_) hc
  rw [ByteArray.data_extract, Array.toList_extract] at hb
  have hm : b ∈ signs.data.toList := by
    simp only [List.extract_eq_take_drop] at hb
    exact List.mem_of_mem_drop (List.mem_of_mem_take hb)
  have key : (signs.data.toList.all fun b => decide (b.toNat < 128)) = true := by decide
  simpa using List.all_eq_true.1 key b hm
theorem enc_cases {r : Int} (h : 128 ≤ r) (hv : validB r = true) : (∃ a z : UInt8, Utf8.encode r = ⟨#[a, z]⟩ ∧ 128 ≤ z.toNat) ∨ (∃ a b z : UInt8, Utf8.encode r = ⟨#[a, b, z]⟩ ∧ 128 ≤ z.toNat) ∨ (∃ a b c z : UInt8, Utf8.encode r = ⟨#[a, b, c, z]⟩ ∧ 128 ≤ z.toNat) := by
  have e : Utf8.valid r = true := by simp [validB] at hv; simp [Utf8.valid]; omega
  have hz : ∀ n : Nat, n < 64 → 128 ≤ (UInt8.ofNat (0x80 + n)).toNat := fun n hn => by rw [UInt8.toNat_ofNat']; omega
  simp only [Utf8.encode, e, if_true]
  rw [if_neg (by omega)]
  split
  · exact .inl ⟨_, _, rfl, hz _ (by omega)⟩
  · split
    · exact .inr (.inl ⟨_, _, _, rfl, hz _ (by omega)⟩)
    · exact .inr (.inr ⟨_, _, _, _, rfl, hz _ (by omega)⟩)
theorem indexRune_spec (r : Int) (h0 : 0 ≤ r) (hv : validB r = true) (S : List Res) (Q : Out → List Res → Prop) (h : ∀ v : Int, decide (0 ≤ v) = sgnB r → Q (.ret (iV v)) S) :
    ACall Tryd.prog 52 [sV signs, i32V r] S Q := by
  refine acall_of_awp Tryd.func52 rfl (by simp [go_sem]) (awp_sound plIR _ (by kernel_rfl) _ _ ?_)
  simp [go_sem, i32V, sV]
  have e1 : decide (0 ≤ r) = true := by simpa using h0
  rw [e1]
  simp [go_sem]
  refine cCond_i (fun c1 => ?_) (fun c1 => ?_)
  · simp at c1
    simp [go_sem]
    refine .refl (idxByte_spec signs _ _ _ ?_)
    simp [go_sem]
    exact done (List.Sublist.refl _) (h _ (sgn_ascii h0 c1))
  · simp at c1
    have hs : sgnB r = false := by simp [sgnB]; omega
    rw [hs] at h
    simp [go_sem]
    refine cCond_i (fun c2 => ?_) (fun c2 => ?_)
    · simp [go_sem]
      refine AOp.rangeStr (s := signs) rfl (by simp [go_sem]) rfl rfl fun b hb => ?_
      simp [go_sem]
      refine AWP.loop (ι := Nat) (fun p => p ≤ 5) (fun p => 5 - p) (fun p => ⟨187, [(175, .lit (.pointer (some ⟨b, 0, none⟩)))], .raw b (.stringIter signs p) :: S, []⟩) 0 (by decide) (StLe.env (by simp [go_sem])) ?_
      intro p hp
      refine awp_sound plIR _ (by kernel_rfl) _ _ ?_
      simp [go_sem]
      refine AOp.nextStr (b := b) (s := signs) (pos := p) rfl (by simp [go_sem]) rfl (by simp [findRaw]) (fun hlt => ?_) (fun hge => ?_)
      · have hp5 : p < 5 := hlt
        have hd : Utf8.decode signs p = ((signs[p]'hlt).toNat, 1) := decode_ascii signs p hlt (by
          have key : ∀ q : Fin 5, (signs[q.val]'q.isLt).toNat < 128 := by decide
          exact key ⟨p, hp5⟩)
        have hne : (((signs[p]'hlt).toNat : Int) == 65533) = false := by
          have := (signs[p]'hlt).toNat_lt
          simp; omega
        rw [hd]
        simp [go_sem, setRaw, hne]
        refine round (p + 1) hp5 (by omega) (StLe.env ?_)
        simp [go_sem]
      · simp [go_sem]
        exact done (List.sublist_cons_self _ _) (h (-1) (by decide))
    · simp at c2
      simp [go_sem]
      refine .refl (validRune_spec r _ _ ?_)
      rw [hv]
      simp [go_sem]
      refine AWP.scope (awp_sound plIR _ (by kernel_rfl) _ _ ?_)
      simp [go_sem]
      refine AOp.intStr (ks := .i32) rfl (by simp [go_sem]) rfl rfl rfl ?_
      rcases enc_cases c1 hv with ⟨a, z, he, hz⟩ | ⟨a, a2, z, he, hz⟩ | ⟨a, a2, a3, z, he, hz⟩
      · rw [he]
        simp [go_sem]
        refine AWP.loop (ι := Unit) (fun _ => True) (fun _ => 0) (fun _ => ⟨187, [(0, sV signs), (7, .lit (.string ⟨#[a, z]⟩)), (8, iV 1), (9, iV 1), (10, iV 0)], S, []⟩) () trivial (StLe.env (by simp [go_sem, iV, sV]; exact VLe.int (by decide))) ?_
        intro _ _
        refine awp_sound plIR _ (by kernel_rfl) _ _ ?_
        simp [go_sem, iV, sV, plIR, one, (show signs.size = 5 from rfl)]
        refine AWP.scope (awp_sound plIR _ (by kernel_rfl) _ _ ?_)
        simp [go_sem, iV, sV, plIR, one, (show signs.size = 5 from rfl)]
        refine cCond_i (fun c3 => ?_) (fun c3 => ?_)
        · simp [go_sem, iV, sV, plIR, one]
          refine ⟨by decide, by decide, ?_⟩
          refine .refl (idxByte_spec _ _ _ _ ?_)
          rw [no_sign _ _ _ (show 128 ≤ ((((⟨#[a, z]⟩ : ByteArray)[1]'(by show 1 < 2; decide)).toNat : Int).toNat.toUInt8).toNat by
            show 128 ≤ ((z.toNat : Int).toNat.toUInt8).toNat
            simpa using hz)]
          simp [go_sem, iV, sV, plIR, one]
          exact done (List.Sublist.refl _) (h (-1) (by decide))
        · exfalso
          have c4 : (((125 : Nat) : Int) != (z.toNat : Int)) = false := c3
          simp at c4
          omega
      · rw [he]
        simp [go_sem]
        refine AWP.loop (ι := Unit) (fun _ => True) (fun _ => 0) (fun _ => ⟨187, [(0, sV signs), (7, .lit (.string ⟨#[a, a2, z]⟩)), (8, iV 2), (9, iV 2), (10, iV 0)], S, []⟩) () trivial (StLe.env (by simp [go_sem, iV, sV]; exact VLe.int (by decide))) ?_
        intro _ _
        refine awp_sound plIR _ (by kernel_rfl) _ _ ?_
        simp [go_sem, iV, sV, plIR, one, (show signs.size = 5 from rfl)]
        refine AWP.scope (awp_sound plIR _ (by kernel_rfl) _ _ ?_)
        simp [go_sem, iV, sV, plIR, one, (show signs.size = 5 from rfl)]
        refine cCond_i (fun c3 => ?_) (fun c3 => ?_)
        · simp [go_sem, iV, sV, plIR, one]
          refine ⟨by decide, by decide, ?_⟩
          refine .refl (idxByte_spec _ _ _ _ ?_)
          rw [no_sign _ _ _ (show 128 ≤ ((((⟨#[a, a2, z]⟩ : ByteArray)[2]'(by show 2 < 3; decide)).toNat : Int).toNat.toUInt8).toNat by
            show 128 ≤ ((z.toNat : Int).toNat.toUInt8).toNat
            simpa using hz)]
          simp [go_sem, iV, sV, plIR, one]
          exact done (List.Sublist.refl _) (h (-1) (by decide))
        · exfalso
          have c4 : (((94 : Nat) : Int) != (z.toNat : Int)) = false := c3
          simp at c4
          omega
      · rw [he]
        simp [go_sem]
        refine AWP.loop (ι := Unit) (fun _ => True) (fun _ => 0) (fun _ => ⟨187, [(0, sV signs), (7, .lit (.string ⟨#[a, a2, a3, z]⟩)), (8, iV 3), (9, iV 3), (10, iV 0)], S, []⟩) () trivial (StLe.env (by simp [go_sem, iV, sV]; exact VLe.int (by decide))) ?_
        intro _ _
        refine awp_sound plIR _ (by kernel_rfl) _ _ ?_
        simp [go_sem, iV, sV, plIR, one, (show signs.size = 5 from rfl)]
        refine AWP.scope (awp_sound plIR _ (by kernel_rfl) _ _ ?_)
        simp [go_sem, iV, sV, plIR, one, (show signs.size = 5 from rfl)]
        refine cCond_i (fun c3 => ?_) (fun c3 => ?_)
        · simp [go_sem, iV, sV, plIR, one]
          refine ⟨by decide, by decide, ?_⟩
          refine .refl (idxByte_spec _ _ _ _ ?_)
          rw [no_sign _ _ _ (show 128 ≤ ((((⟨#[a, a2, a3, z]⟩ : ByteArray)[3]'(by show 3 < 4; decide)).toNat : Int).toNat.toUInt8).toNat by
            show 128 ≤ ((z.toNat : Int).toNat.toUInt8).toNat
            simpa using hz)]
          simp [go_sem, iV, sV, plIR, one]
          exact done (List.Sublist.refl _) (h (-1) (by decide))
        · exfalso
          have c4 : (((95 : Nat) : Int) != (z.toNat : Int)) = false := c3
          simp at c4
          omega
end Go.Proofs.YtflpfjeghomepaaDoor
/- The engine AW, part 21: arrays of one's own. -/
set_option linter.unusedVariables false
set_option linter.unusedSimpArgs false
namespace Go.AW
section
variable {ro : Option Nat} {P : Program} {o : Oper} {K : St → Prop} {Q : Exit → St → Prop} {st : St}

theorem AT.sliceArr {t e : TypeId} {n : Nat} {x : Operand} {lo hi : Option Operand} {b o' sz : Nat} {l h : Int} (hop : o.op = .slice t x lo hi none) (hd : dstOk st.n o.dst)
    (hu : P.underlying t = some (.array n e)) (hs : szA P e = some sz) (hx : st.opnd x = .lit (.pointer (some ⟨b, o', none⟩))) (hl : boundOf st 0 lo = some l) (hh : boundOf st n hi = some h) (h0 : 0 ≤ l) (h1 : l ≤ h) (h2 : h ≤ n)
    (hk : K (st.put o.dst (.lit (.slice (some ⟨b, if n = l.toNat then o' else o' + l.toNat * sz, none⟩) (h.toNat - l.toNat) (n - l.toNat))))) : ATake P o K st :=
  AT.pure hd (by rw [hop]; rfl) (fun G w a hr => ⟨_, fun w _ => by
    have hb := run_sliceBounds (P := P) (w := w) false n n (lo := lo.map a.eval) (hi := hi.map a.eval) (l := l) (h := h)
      ((boundOf_val hr hl).imp (fun ⟨e, e'⟩ => ⟨by rw [e]; rfl, e'⟩) id) ((boundOf_val hr hh).imp (fun ⟨e, e'⟩ => ⟨by rw [e]; rfl, e'⟩) id) h0 h1 h2
    simp only [execOp, hop, hr.lit hx, Instr.sliceAt, Sem.run_bind, run_und hu, Result.andThen_ok, Instr.sureAddr, Sem.run_pure]
    simp only [Option.map_none, hb, Sem.run_bind, Result.andThen_ok, run_size hs, Sem.run_pure]
    split
    · rfl
    · simp [Addr.add_eq], .lit _⟩) hk

/-- The text of bytes that stand in a block of one's own. -/
theorem AOp.bytesStr {s d e : TypeId} {x : Operand} {b o' len cap : Nat} {cs : List V} {bs : List UInt8} (hop : o.op = .convert s d x) (hd : dstOk st.n o.dst) (hs : P.underlying s = some (.slice e)) (he : P.underlying e = some (.int .u8)) (ht : P.underlying d = some .string)
    (hx : st.opnd x = .lit (.slice (some ⟨b, o', none⟩) len cap)) (hf : findObj st.S b = some cs) (hb : (cs.drop o').take len = bs.map fun c => V.lit (.int .u8 c.toNat)) (hl : o' + len ≤ cs.length)
    (hk : K (st.put o.dst (.lit (.string ⟨bs.toArray⟩)))) : AOp ro P o K Q st := by
  refine AOp.pure hd (by rw [hop]; rfl) (fun G w a hr => ⟨.string ⟨bs.toArray⟩, ?_, .lit _⟩) hk
  obtain ⟨us, T0, h1, h2, h3⟩ := hr.inv.obj hf
  have hlen : bs.length = len := by
    have := congrArg List.length hb
    simp at this; omega
  have hcells : ∀ j v, ((bs.map fun c => (c.toNat : Int)).map (Value.int .u8))[j]? = some v → w.cell? ((⟨b, o', none⟩ : Addr).add j) = some v := fun j v hj => by
    have hjl : j < bs.length := by have := (List.getElem?_eq_some_iff.1 hj).1; simpa using this
    rw [Addr.add_eq]
    simp only [World.cell?, h1]
    have hc : cs[o' + j]? = some (V.lit (.int .u8 (bs[j]).toNat)) := by
      have : ((cs.drop o').take len)[j]? = (bs.map fun c => V.lit (.int .u8 c.toNat))[j]? := by rw [hb]
      rw [List.getElem?_take, if_pos (by omega), List.getElem?_drop, List.getElem?_map, List.getElem?_eq_getElem hjl] at this
      simpa using this
    have hv : v = .int .u8 (bs[j]).toNat := by
      rw [List.getElem?_map, List.getElem?_map, List.getElem?_eq_getElem hjl] at hj
      simpa using hj.symm
    subst hv
    have hu : o' + j < us.size := by have := h2.1; simp at this; omega
    have hrel := h2.2 (o' + j) _ us[o' + j] hc (by simp [hu])
    have := hrel.lit_inv
    simp [hu, this]
  have hload := run_loadCells_list (P := P) (w := w) ⟨b, o', none⟩ _ hcells
  simp only [execOp, hop, hr.lit hx, Sem.run_bind]
  rw [run_convert_bytes_string w s d e _ _ _ hs he ht, run_bytesToString w _ len cap (bs.map fun c => (c.toNat : Int)) (by simpa [hlen] using hload), foldl_push]
  simp [Sem.run_pure]

/-! ### Tables: what a slice in S holds, seen through a pointer into it -/
theorem AT.loadVLe {T : TypeId} {x : Operand} {cs : List V} {v : V} (hop : o.op = .load T x) (hd : dstOk st.n o.dst) (hc : VLe st.S (st.opnd x) (.pe cs)) (hv : readAs P T cs = some v)
    (hk : K (st.put o.dst v)) : ATake P o K st := by
  refine AT.pure (v := v) hd (by rw [hop]; rfl) (fun G w a hr => ?_) hk
  have hp := hc G w _ hr.inv (hr.opnd x)
  cases hx : a.eval x <;> rw [hx] at hp <;> cases hp
  rename_i b o' us hG hh
  obtain ⟨y, hy, hrun⟩ := loadVar_run (P := P) (G := G) (us := (List.range cs.length).map us) b o' ⟨by simp, fun i v y hv hy => by
    simp at hy
    obtain ⟨j, hj, rfl⟩ := hy
    have := (List.getElem?_eq_some_iff.1 hj)
    simp at this; obtain ⟨_, rfl⟩ := this
    exact hh _ _ hv⟩ hv
  refine ⟨y, fun w' hw' => ?_, hy⟩
  have := hrun w' (fun i u hu => by
    simp at hu
    obtain ⟨j, hj, rfl⟩ := hu
    have := (List.getElem?_eq_some_iff.1 hj)
    simp at this; obtain ⟨hl, rfl⟩ := this
    exact hw' _ _ _ (hG _ hl))
  simp only [execOp, hop, Instr.loadAt, hx, Instr.sureAddr, Sem.run_bind, Sem.run_pure, Result.andThen_ok, this]
theorem VLe.table {S : List Res} {k b cap o' : Nat} {xs : List V} {x : V} (hV : findVec S k = some (some ⟨b, 0, none⟩, cap, 1, xs)) (hx : xs[o']? = some x) (hone : ∀ y ∈ xs, y.cells = [y]) : VLe S (.lit (.pointer (some ⟨b, o', none⟩))) (.pe [x]) := fun G w v hi hv => by
  have := hv.lit_inv; subst this
  obtain ⟨S1, S2, hS, _⟩ := findVec_split hV
  obtain ⟨hrel, _⟩ := hi.res (.vec k (some ⟨b, 0, none⟩) cap 1 xs) (by rw [hS]; simp)
  obtain ⟨a, cap', us, he, _, _, _, hus, hlen, hne⟩ := hrel.sl_cells
  have hlt := (List.getElem?_eq_some_iff.1 hx).1
  obtain ⟨b1, o1, h1, hG⟩ := hne (by intro e; rw [e] at hlt; simp at hlt)
  simp at he
  obtain ⟨he1, _⟩ := he
  rw [h1] at he1
  simp at he1
  obtain ⟨rfl, rfl⟩ := he1
  have hfl := flat_ones hone
  rw [hfl] at hus
  have hlu : o' < us.length := by rw [← hus.1]; exact hlt
  refine .pe b o' (fun _ => us[o']) (fun i hi' => ?_) (fun i c hc => ?_)
  · have : i = 0 := by simpa using hi'
    subst this
    have := hG o' us[o'] (List.getElem?_eq_getElem hlu)
    simpa using this
  · have : i = 0 := by have := (List.getElem?_eq_some_iff.1 hc).1; simpa using this
    subst this
    simp at hc; subst hc
    exact hus.2 o' x us[o'] hx (List.getElem?_eq_getElem hlu)
/-- An element of a table. -/
theorem AT.indexTab {t e : TypeId} {n : Nat} {x ix : Operand} {k : IntKind} {i : Int} {b key cap : Nat} {xs : List V} {v : V} (hop : o.op = .indexAddr t x ix) (hd : dstOk st.n o.dst)
    (hu : P.underlying t = some (.array n e)) (hs : szA P e = some 1) (hx : st.opnd x = .lit (.pointer (some ⟨b, 0, none⟩))) (hi : st.opnd ix = .lit (.int k i)) (h0 : 0 ≤ i) (h1 : i < n)
    (hV : findVec st.S key = some (some ⟨b, 0, none⟩, cap, 1, xs)) (hv : xs[i.toNat]? = some v) (hone : ∀ y ∈ xs, y.cells = [y])
    (hk : K (st.put o.dst (.pe [v]))) : ATake P o K st :=
  AT.pure hd (by rw [hop]; rfl) (fun G w a hr => ⟨.pointer (some ⟨b, i.toNat, none⟩), fun w _ => by
    simp only [execOp, hop, Instr.indexAt, hr.lit hi, hr.lit hx, asIntOf, Instr.sureAddr, Sem.run_bind, Sem.run_pure, Result.andThen_ok, run_und hu]
    simp [h0, h1, run_size hs, Addr.add_eq, run_und hu], VLe.table hV hv hone G w _ hr.inv (.lit _)⟩) hk
end
end Go.AW
/- strings.ContainsRune at the signs, lex.Plain. -/
set_option maxRecDepth 100000
set_option linter.unusedSimpArgs false
set_option linter.unusedVariables false
set_option pp.maxSteps 3000
set_option pp.deepTerms false
namespace Go.Proofs.YtflpfjeghomepaaDoor
open Go Go.AW Go.Proofs

theorem containsRune_spec (r : Int) (h0 : 0 ≤ r) (hv : validB r = true) (S : List Res) (Q : Out → List Res → Prop) (h : Q (.ret (.lit (.bool (sgnB r)))) S) :
    ACall Tryd.prog 47 [sV signs, i32V r] S Q := by
  refine acall_of_awp Tryd.func47 rfl (by simp [go_sem]) (awp_sound pl0 _ (by kernel_rfl) _ _ ?_)
  simp [go_sem, sV, i32V]
  refine .refl (indexRune_spec r h0 hv _ _ fun v hb => ?_)
  simp [go_sem, iV]
  rw [← hb] at h
  exact done (List.Sublist.refl _) h

def plainB (c : Int) : Bool := decide (32 < c) && !(c == 127) && decide (c ≤ 1114111) && validB c && !(sgnB c) && !(c == 92) && !(c == 37)
theorem i32w {x : Int} (h1 : -2147483648 ≤ x) (h2 : x < 2147483648) : IntKind.i32.wrap x = x := by
  rw [IntKind.wrap_i32]; omega
theorem plain_spec (c : Int) (S : List Res) (Q : Out → List Res → Prop) (h : Q (.ret (.lit (.bool (plainB c)))) S) : ACall Tryd.prog 46 [iV c] S Q := by
  refine acall_of_awp Tryd.func46 rfl (by simp [go_sem]) (awp_sound pl0 _ (by kernel_rfl) _ _ ?_)
  simp [go_sem, iV]
  have fin : ∀ v : Bool, plainB c = v → Done S (.lit (.bool v)) Q := fun v e => by subst e; exact done (List.Sublist.refl _) h
  refine cGuard_i (fun c1 => ?_) (fun c1 => ?_)
  rotate_left
  · simp [go_sem, c1]
    exact fin _ (by simp [plainB, c1])
  simp [go_sem, c1]
  refine cGuard_i (fun c2 => ?_) (fun c2 => ?_)
  rotate_left
  · simp [go_sem, c1, c2]
    simp at c2
    exact fin _ (by simp [plainB, c2])
  simp [go_sem, c1, c2]
  refine cGuard_i (fun c3 => ?_) (fun c3 => ?_)
  rotate_left
  · simp [go_sem, c1, c2, c3]
    exact fin _ (by simp [plainB, c3])
  simp [go_sem, c1, c2, c3]
  simp at c1 c2 c3
  rw [i32w (by omega) (by omega)]
  refine .refl (validRune_spec c _ _ ?_)
  simp [go_sem]
  refine cGuard_i (fun c4 => ?_) (fun c4 => ?_)
  rotate_left
  · simp [go_sem, c4]
    exact fin _ (by simp [plainB, c4])
  simp [go_sem, c4]
  rw [i32w (by omega) (by omega)]
  refine .refl (containsRune_spec c (by omega) c4 _ _ ?_)
  simp [go_sem]
  refine cGuard_i (fun c5 => ?_) (fun c5 => ?_)
  rotate_left
  · simp [go_sem, c5]
    exact fin _ (by simp at c5; simp [plainB, c5])
  simp [go_sem, c5]
  simp at c5
  refine cGuard_i (fun c6 => ?_) (fun c6 => ?_)
  rotate_left
  · simp [go_sem, c6]
    simp at c6
    exact fin _ (by simp [plainB, c6])
  simp [go_sem, c6]
  simp at c6
  refine fin _ ?_
  have e2 : (c == 127) = false := by simpa using c2
  have e6 : (c == 92) = false := by simpa using c6
  simp [plainB, c1, e2, c3, c4, c5, e6, bne]
end Go.Proofs.YtflpfjeghomepaaDoor
/- Writers: what a builder holds, said once. -/
set_option maxRecDepth 100000
set_option linter.unusedSimpArgs false
set_option linter.unusedVariables false
set_option pp.maxSteps 3000
set_option pp.deepTerms false
namespace Go.Proofs.YtflpfjeghomepaaDoor
open Go Go.AW Go.Proofs

theorem setObj_setObj {b : Nat} {c1 c2 : List V} : ∀ S : List Res, AW.setObj (AW.setObj S b c1) b c2 = AW.setObj S b c2
  | [] => rfl
  | r :: S => by
    have ih := @setObj_setObj b c1 c2 S
    cases r with
    | objT x ys tt => simp only [AW.setObj]; split <;> simp_all [AW.setObj]
    | vec => simp only [AW.setObj, ih]
    | raw => simp only [AW.setObj, ih]
    | lp => simp only [AW.setObj, ih]
theorem setVec_setVec {k : Nat} {a a' : Option Addr} {c z c' z' : Nat} {xs xs' : List V} : ∀ S : List Res, setVec (setVec S k (.vec k a c z xs)) k (.vec k a' c' z' xs') = setVec S k (.vec k a' c' z' xs')
  | [] => rfl
  | r :: S => by
    have ih := @setVec_setVec k a a' c z c' z' xs xs' S
    cases r with
    | objT x ys tt => simp only [setVec, ih]
    | vec k' a1 c1 z1 x1 => simp only [setVec]; split <;> simp_all [setVec]
    | raw => simp only [setVec, ih]
    | lp => simp only [setVec, ih]
theorem setVec_setObj {b k k2 : Nat} {cs : List V} {a : Option Addr} {c z : Nat} {xs : List V} : ∀ S : List Res, setVec (AW.setObj S b cs) k (.vec k2 a c z xs) = AW.setObj (setVec S k (.vec k2 a c z xs)) b cs
  | [] => rfl
  | q :: S => by
    have ih := @setVec_setObj b k k2 cs a c z xs S
    cases q with
    | objT x ys tt => simp only [AW.setObj, setVec]; split <;> simp_all [AW.setObj, setVec]
    | vec k' a1 c1 z1 x1 => simp only [AW.setObj, setVec]; split <;> simp_all [AW.setObj, setVec]
    | raw => simp only [AW.setObj, setVec, ih]
    | lp => simp only [AW.setObj, setVec, ih]

/-- Builder b holds these bytes. -/
structure Bd (S : List Res) (b : Nat) (ad : Option Addr) (a : Option Addr) (cap : Nat) (bs : List UInt8) : Prop where
  had : ad = none ∨ ad = some ⟨b, 0, none⟩
  ty : ∃ TT, findTy S b = some TT ∧ liesAt Tryd.prog Tryd.prog.depth TT (2 / Tryd.prog.cellsOf TT) 0 39 1 = true
  obj : findObj S b = some [.lit (.pointer ad), .vs (kB b) a bs.length cap]
  vec : findVec S (kB b) = some (a, cap, 1, bs.map u8V)
/-- .. and now these. -/
def upd (S : List Res) (b : Nat) (a : Option Addr) (cap : Nat) (bs : List UInt8) : List Res :=
  AW.setObj (setVec S (kB b) (.vec (kB b) a cap 1 (bs.map u8V))) b [.lit (.pointer (some ⟨b, 0, none⟩)), .vs (kB b) a bs.length cap]
theorem upd_upd (S : List Res) (b : Nat) (a a' : Option Addr) (cap cap' : Nat) (bs bs' : List UInt8) : upd (upd S b a cap bs) b a' cap' bs' = upd S b a' cap' bs' := by
  rw [upd, upd, setVec_setObj, setVec_setVec, setObj_setObj, upd]
theorem findTy_setObj {b x : Nat} {cs : List V} : ∀ S : List Res, findTy (AW.setObj S b cs) x = findTy S x
  | [] => rfl
  | r :: S => by
    have ih := @findTy_setObj b x cs S
    cases r with
    | objT y ys tt => simp only [AW.setObj]; split <;> simp_all [findTy]
    | vec => simp only [AW.setObj, findTy, ih]
    | raw => simp only [AW.setObj, findTy, ih]
    | lp => simp only [AW.setObj, findTy, ih]
theorem findTy_setVec {k x k' : Nat} {a : Option Addr} {c z : Nat} {xs : List V} : ∀ S : List Res, findTy (setVec S k (.vec k' a c z xs)) x = findTy S x
  | [] => rfl
  | r :: S => by
    have ih := @findTy_setVec k x k' a c z xs S
    cases r with
    | objT y ys tt => simp only [setVec, findTy, ih]
    | vec => simp only [setVec]; split <;> simp_all [findTy]
    | raw => simp only [setVec, findTy, ih]
    | lp => simp only [setVec, findTy, ih]
theorem findVec_setVec_eq {k : Nat} {a a0 : Option Addr} {c z c0 z0 : Nat} {xs xs0 : List V} : ∀ S : List Res, findVec S k = some (a0, c0, z0, xs0) → findVec (setVec S k (.vec k a c z xs)) k = some (a, c, z, xs)
  | r :: S, h => by
    have ih := @findVec_setVec_eq k a a0 c z c0 z0 xs xs0 S
    cases r with
    | objT y ys tt => simp only [setVec, findVec] at h ⊢; exact ih h
    | vec k' a1 c1 z1 x1 =>
      simp only [setVec, findVec] at h ⊢
      split
      · simp [findVec]
      · rename_i hne; rw [if_neg hne] at h; simp only [findVec, if_neg hne]; exact ih h
    | raw => simp only [setVec, findVec] at h ⊢; exact ih h
    | lp => simp only [setVec, findVec] at h ⊢; exact ih h
theorem Bd.upd {S : List Res} {b : Nat} {ad a0 : Option Addr} {cap0 : Nat} {bs0 : List UInt8} (h : Bd S b ad a0 cap0 bs0) (a : Option Addr) (cap : Nat) (bs : List UInt8) : Bd (upd S b a cap bs) b (some ⟨b, 0, none⟩) a cap bs := by
  refine ⟨.inr rfl, ?_, ?_, ?_⟩
  · obtain ⟨TT, h1, h2⟩ := h.ty
    exact ⟨TT, by rw [Proofs.YtflpfjeghomepaaDoor.upd, findTy_setObj, findTy_setVec, h1], h2⟩
  · rw [Proofs.YtflpfjeghomepaaDoor.upd]
    exact findObj_setObj_eq _ (by rw [findObj_setVec]; exact h.obj)
  · rw [Proofs.YtflpfjeghomepaaDoor.upd, findVec_setObj]
    exact findVec_setVec_eq _ h.vec
theorem wByte {S : List Res} {b : Nat} {ad a : Option Addr} {cap : Nat} {bs : List UInt8} (h : Bd S b ad a cap bs) (c : UInt8) (hl : bs.length + 1 ≤ 4294967296) (Q : Out → List Res → Prop) (hq : ∀ a' cap', Q (.ret (.lit .nilIface)) (upd S b a' cap' (bs ++ [c]))) :
    ACall Tryd.prog 21 [.lit (.pointer (some ⟨b, 0, none⟩)), u8V c] S Q := by
  obtain ⟨TT, h1, h2⟩ := h.ty
  refine writeByteT_spec TT h2 b ad h.had a cap bs c hl S h.obj h1 h.vec Q fun a' cap' => ?_
  have := hq a' cap'
  rw [upd] at this
  rw [setVec_setObj, setObj_setObj]
  exact this
theorem wString {S : List Res} {b : Nat} {ad a : Option Addr} {cap : Nat} {bs : List UInt8} (h : Bd S b ad a cap bs) (s : ByteArray) (hl : bs.length + s.size ≤ 4294967296) (Q : Out → List Res → Prop) (hq : ∀ a' cap', Q (.ret (.tuple [iV s.size, .lit .nilIface])) (upd S b a' cap' (bs ++ s.data.toList))) :
    ACall Tryd.prog 27 [.lit (.pointer (some ⟨b, 0, none⟩)), sV s] S Q := by
  obtain ⟨TT, h1, h2⟩ := h.ty
  refine writeStringT_spec TT h2 b ad h.had a cap bs s hl S h.obj h1 h.vec Q fun a' cap' => ?_
  have := hq a' cap'
  rw [upd] at this
  rw [setVec_setObj, setObj_setObj]
  exact this

/-- A word, with its backslash. -/
theorem word_spec {S : List Res} {b : Nat} {ad a : Option Addr} {cap : Nat} {bs : List UInt8} (h : Bd S b ad a cap bs) (s : ByteArray) (hl : bs.length + s.size + 1 ≤ 4294967296) (Q : Out → List Res → Prop) (hq : ∀ a' cap', Q (.ret (.tuple [])) (upd S b a' cap' (bs ++ 92 :: s.data.toList))) :
    ACall Tryd.prog 19 [.lit (.pointer (some ⟨b, 0, none⟩)), sV s] S Q := by
  refine acall_of_awp Tryd.func19 rfl (by simp [go_sem]) (awp_sound pl0 _ (by kernel_rfl) _ _ ?_)
  simp [go_sem, sV]
  have e1 : ((⟨#[92]⟩ : ByteArray) ++ s).data.toList = 92 :: s.data.toList := by simp
  have e2 : ((⟨#[92]⟩ : ByteArray) ++ s).size = 1 + s.size := by rw [ByteArray.size_append]; rfl
  refine ⟨by omega, .refl (wString h _ (by rw [e2]; omega) _ fun a' cap' => ?_)⟩
  rw [e1]
  simp [go_sem]
  exact done (List.Sublist.refl _) (hq a' cap')
theorem len_spec {S : List Res} {b : Nat} {ad a : Option Addr} {cap : Nat} {bs : List UInt8} (h : Bd S b ad a cap bs) (Q : Out → List Res → Prop) (hq : Q (.ret (iV bs.length)) S) :
    ACall Tryd.prog 12 [.lit (.pointer (some ⟨b, 0, none⟩))] S Q := by
  refine acall_of_awp Tryd.func12 rfl (by simp [go_sem]) (awp_sound pl0 _ (by kernel_rfl) _ _ ?_)
  simp [go_sem, h.obj]
  exact done (List.Sublist.refl _) hq
end Go.Proofs.YtflpfjeghomepaaDoor
/- The table of trailing zeros; bits.TrailingZeros64 at 16. -/
set_option maxRecDepth 100000
set_option linter.unusedSimpArgs false
set_option linter.unusedVariables false
set_option pp.maxSteps 3000
set_option pp.deepTerms false
namespace Go.Proofs.YtflpfjeghomepaaDoor
open Go Go.AW Go.Proofs

def db64 : List Int := [0, 1, 56, 2, 57, 49, 28, 3, 61, 58, 42, 50, 38, 29, 17, 4, 62, 47, 59, 36, 45, 43, 51, 22, 53, 39, 33, 30, 24, 18, 12, 5, 63, 55, 48, 27, 60, 41, 37, 16, 46, 35, 44, 21, 52, 32, 23, 11, 54, 26, 40, 15, 34, 20, 31, 10, 25, 14, 19, 9, 13, 8, 7, 6]
def tabV (l : List Int) : List V := l.map fun n => .lit (.int .u8 n)
/-- The table stands. -/
def Tab64 (S : List Res) : Prop := findVec S 90001 = some (some ⟨3, 0, none⟩, 64, 1, tabV db64)
theorem tz64_spec (S : List Res) (hT : Tab64 S) (Q : Out → List Res → Prop) (h : Q (.ret (iV 4)) S) : ACall Tryd.prog 67 [.lit (.int .u64 16)] S Q := by
  refine acall_of_awp Tryd.func67 rfl (by simp [go_sem]) (awp_sound pl0 _ (by kernel_rfl) _ _ ?_)
  simp [go_sem, iV]
  have e : (IntKind.u64.wrap (bits BinOp.and IntKind.u64 16 (IntKind.u64.wrap (-16)) * 285870213051353865)).fdiv 288230376151711744 = 15 := by kernel_rfl
  rw [e]
  refine ATake.aop (AT.indexTab (n := 64) (e := 5) (k := .u64) (i := 15) (b := 3) (key := 90001) (xs := tabV db64) (v := .lit (.int .u8 4)) rfl (by simp [go_sem]) rfl (by kernel_rfl) rfl rfl (by omega) (by omega) hT (by kernel_rfl) (fun y hy => ?_) ?_)
  · obtain ⟨z, _, rfl⟩ := List.mem_map.1 hy; rfl
  simp [go_sem, iV]
  exact done (List.Sublist.refl _) h
theorem tz_spec (S : List Res) (hT : Tab64 S) (Q : Out → List Res → Prop) (h : Q (.ret (iV 4)) S) : ACall Tryd.prog 64 [.lit (.int .u64 16)] S Q := by
  refine acall_of_awp Tryd.func64 rfl (by simp [go_sem]) (awp_sound pl0 _ (by kernel_rfl) _ _ ?_)
  simp [go_sem, iV]
  refine .refl (tz64_spec S hT _ ?_)
  simp [go_sem, iV]
  exact done (List.Sublist.refl _) h
theorem pow2_spec (S : List Res) (Q : Out → List Res → Prop) (h : Q (.ret (.lit (.bool true))) S) : ACall Tryd.prog 63 [iV 16] S Q := by
  refine acall_of_awp Tryd.func63 rfl (by simp [go_sem]) (awp_sound pl0 _ (by kernel_rfl) _ _ ?_)
  simp [go_sem, iV]
  rw [show (bits BinOp.and IntKind.i64 16 (IntKind.i64.wrap 15) == 0) = true by kernel_rfl]
  exact done (List.Sublist.refl _) h
end Go.Proofs.YtflpfjeghomepaaDoor
/- strconv.FormatInt at base 16, of small numbers. -/
set_option maxRecDepth 100000
set_option linter.unusedSimpArgs false
set_option linter.unusedVariables false
set_option pp.maxSteps 3000
set_option pp.deepTerms false
namespace Go.Proofs.YtflpfjeghomepaaDoor
open Go Go.AW Go.Proofs

def hexC (n : Nat) : UInt8 := UInt8.ofNat (if n < 10 then 48 + n else 87 + n)
def hexL (c : Nat) : List UInt8 := if c < 16 then [hexC c] else [hexC (c / 16), hexC (c % 16)]
def digs : ByteArray := ⟨#[48, 49, 50, 51, 52, 53, 54, 55, 56, 57, 97, 98, 99, 100, 101, 102, 103, 104, 105, 106, 107, 108, 109, 110, 111, 112, 113, 114, 115, 116, 117, 118, 119, 120, 121, 122]⟩
def plFB : Nat → DPlan
  | _ => .done
theorem u64w' {x : Int} (h1 : 0 ≤ x) (h2 : x < 18446744073709551616) : IntKind.u64.wrap x = x := by
  rw [IntKind.wrap_u64]; omega
theorem and15 (c : Nat) (hc : c < 256) : bits .and .u64 (c : Int) 15 = ((c % 16 : Nat) : Int) := by
  have := bits_mask .u64 62 (by decide) (fun n h h' => u64w' h (by omega)) 4 (by decide) (c : Int) (by omega) (by omega)
  rw [show (15 : Int) = 2 ^ 4 - 1 by decide, this]; omega
theorem fbits_spec (c : Nat) (hc : c < 256) (S : List Res) (hT : Tab64 S) (Q : Out → List Res → Prop) (h : Q (.ret (.tuple [.lit (.slice none 0 0), sV ⟨(hexL c).toArray⟩])) S) :
    ACall Tryd.prog 56 [.lit (.slice none 0 0), .lit (.int .u64 c), iV 16, .lit (.bool false), .lit (.bool false)] S Q := by
  refine acall_of_awp Tryd.func56 rfl (by simp [go_sem]) (awp_sound plFB _ (by kernel_rfl) _ _ ?_)
  simp [go_sem, iV]
  intro b hb
  rw [show ([V.lit (.int .u8 0), V.lit (.int .u8 0), V.lit (.int .u8 0), V.lit (.int .u8 0), V.lit (.int .u8 0), V.lit (.int .u8 0), V.lit (.int .u8 0), V.lit (.int .u8 0), V.lit (.int .u8 0), V.lit (.int .u8 0), V.lit (.int .u8 0), V.lit (.int .u8 0), V.lit (.int .u8 0), V.lit (.int .u8 0), V.lit (.int .u8 0), V.lit (.int .u8 0), V.lit (.int .u8 0), V.lit (.int .u8 0), V.lit (.int .u8 0), V.lit (.int .u8 0), V.lit (.int .u8 0), V.lit (.int .u8 0), V.lit (.int .u8 0), V.lit (.int .u8 0), V.lit (.int .u8 0), V.lit (.int .u8 0), V.lit (.int .u8 0), V.lit (.int .u8 0), V.lit (.int .u8 0), V.lit (.int .u8 0), V.lit (.int .u8 0), V.lit (.int .u8 0), V.lit (.int .u8 0), V.lit (.int .u8 0), V.lit (.int .u8 0), V.lit (.int .u8 0), V.lit (.int .u8 0), V.lit (.int .u8 0), V.lit (.int .u8 0), V.lit (.int .u8 0), V.lit (.int .u8 0), V.lit (.int .u8 0), V.lit (.int .u8 0), V.lit (.int .u8 0), V.lit (.int .u8 0), V.lit (.int .u8 0), V.lit (.int .u8 0), V.lit (.int .u8 0), V.lit (.int .u8 0), V.lit (.int .u8 0), V.lit (.int .u8 0), V.lit (.int .u8 0), V.lit (.int .u8 0), V.lit (.int .u8 0), V.lit (.int .u8 0), V.lit (.int .u8 0), V.lit (.int .u8 0), V.lit (.int .u8 0), V.lit (.int .u8 0), V.lit (.int .u8 0), V.lit (.int .u8 0), V.lit (.int .u8 0), V.lit (.int .u8 0), V.lit (.int .u8 0), V.lit (.int .u8 0)] : List V) = List.replicate 65 (V.lit (.int .u8 0)) from rfl]
  obtain ⟨Z, hZ, hZl⟩ : ∃ Z : List V, Z = List.replicate 65 (V.lit (.int .u8 0)) ∧ Z.length = 65 := ⟨_, rfl, by simp⟩
  rw [← hZ]
  clear hZ
  refine .refl (pow2_spec _ _ ?_)
  simp [go_sem, iV]
  have hw : IntKind.u64.wrap 16 = 16 := by decide
  rw [hw]
  refine .refl (tz_spec _ (by simpa [Tab64, go_sem] using hT) _ ?_)
  simp [go_sem, iV]
  have hw2 : IntKind.u64.wrap (16 - 1) = 15 := by decide
  rw [hw, hw2]
  refine AWP.loop (ι := Nat) (fun k => k = 0 ∨ (k = 1 ∧ 16 ≤ c)) (fun k => 1 - k)
    (fun k => ⟨102, [(0, .lit (.slice none 0 0)), (1, .lit (.int .u64 (if k = 0 then c else c / 16 : Nat))), (3, .lit (.bool false)), (4, .lit (.bool false)), (10, .lit (.slice none 0 0)), (12, .lit (.pointer (some ⟨b, 0, none⟩))), (13, iV (65 - k : Nat)), (14, .lit (.int .u64 4)), (15, .lit (.int .u64 16)), (16, .lit (.int .u64 15))],
      .objT b (if k = 0 then Z else splice Z 64 [.lit (.int .u8 (hexC (c % 16)).toNat)]) none :: S, []⟩) 0 (.inl rfl) (StLe.env (by simp [go_sem, iV]; rw [show IntKind.u64.wrap 4 = 4 by decide]; exact .refl _ _)) ?_
  intro k hk
  refine awp_sound plFB _ (by kernel_rfl) _ _ ?_
  have tab : ∀ (i : Nat) (x : UInt8), i < 16 → digs[i]? = some x → x = hexC i := fun i x hi hx => by
    have key : ((List.range 16).all fun i => digs[i]? == some (hexC i)) = true := by kernel_rfl
    have := List.all_eq_true.1 key i (List.mem_range.2 hi)
    simp at this
    rw [this] at hx; exact (Option.some.inj hx).symm
  have wd : ∀ n : Int, 0 ≤ n → n < 100 → IntKind.i64.wrap n = n := fun n h1 h2 => w64 (by omega) (by omega)
  rcases hk with rfl | ⟨rfl, hc16⟩
  · simp [go_sem, iV]
    refine cCond_i (fun c1 => ?_) (fun c1 => ?_)
    · simp at c1
      simp [go_sem, iV]
      rw [and15 c hc]
      refine ⟨by omega, by omega, fun x hx => ?_⟩
      rw [show IntKind.i64.wrap 64 = 64 by decide]
      refine ATake.aop (AT.indexArr (n := 65) (e := 5) (k := .i64) (i := 64) (sz := 1) (b := b) (o' := 0) rfl (by simp [go_sem]) rfl (by kernel_rfl) rfl rfl (by omega) (by omega) ?_)
      simp [go_sem, iV, hZl]
      have hx2 := tab (c % 16) x (by omega) (by exact hx)
      have e1 : (c : Int).fdiv 16 = ((c / 16 : Nat) : Int) := by rw [Int.fdiv_eq_ediv_of_nonneg _ (by omega)]; omega
      subst hx2
      refine round 1 (.inr ⟨rfl, by omega⟩) (by omega) ?_
      simp only [Nat.one_ne_zero, if_false]
      refine StLe.env ?_
      simp [go_sem, iV, e1]
    · simp at c1
      simp [go_sem, iV]
      refine ⟨by omega, fun x hx => ?_⟩
      rw [show IntKind.i64.wrap 64 = 64 by decide]
      refine ATake.aop (AT.indexArr (n := 65) (e := 5) (k := .i64) (i := 64) (sz := 1) (b := b) (o' := 0) rfl (by simp [go_sem]) rfl (by kernel_rfl) rfl rfl (by omega) (by omega) ?_)
      simp [go_sem, iV, hZl]
      have hx2 := tab c x (by omega) (by simpa [digs] using hx)
      refine ATake.aop (AT.sliceArr (n := 65) (e := 5) (sz := 1) (b := b) (o' := 0) (l := 64) (h := 65) rfl (by simp [go_sem]) rfl (by kernel_rfl) rfl rfl rfl (by omega) (by omega) (by omega) ?_)
      simp [go_sem, iV]
      refine AOp.bytesStr (e := 5) (b := b) (o' := 64) (len := 1) (cap := 1) (bs := [x]) rfl (by simp [go_sem]) rfl (by kernel_rfl) rfl rfl (by simp [findObj]; rfl) ?_ ?_ ?_
      · simp [hZl]
      · simp [hZl]
      simp [go_sem, iV]
      subst hx2
      rw [show hexL c = [hexC c] by rw [hexL, if_pos (by omega)]] at h
      exact done (List.sublist_cons_self _ _) h
  · simp [go_sem, iV]
    refine cCond_i (fun c1 => ?_) (fun c1 => ?_)
    · simp at c1
      exfalso
      omega
    · simp [go_sem, iV]
      refine ⟨by omega, by omega, fun x hx => ?_⟩
      rw [show IntKind.i64.wrap 63 = 63 by decide]
      refine ATake.aop (AT.indexArr (n := 65) (e := 5) (k := .i64) (i := 63) (sz := 1) (b := b) (o' := 0) rfl (by simp [go_sem]) rfl (by kernel_rfl) rfl rfl (by omega) (by omega) ?_)
      simp [go_sem, iV, hZl]
      have hx2 := tab (c / 16) x (by omega) (by rw [show ((c : Int) / 16).toNat = c / 16 by omega] at hx; exact hx)
      refine ATake.aop (AT.sliceArr (n := 65) (e := 5) (sz := 1) (b := b) (o' := 0) (l := 63) (h := 65) rfl (by simp [go_sem]) rfl (by kernel_rfl) rfl rfl rfl (by omega) (by omega) (by omega) ?_)
      simp [go_sem, iV]
      refine AOp.bytesStr (e := 5) (b := b) (o' := 63) (len := 2) (cap := 2) (bs := [x, hexC (c % 16)]) rfl (by simp [go_sem]) rfl (by kernel_rfl) rfl rfl (by simp [findObj]; rfl) ?_ ?_ ?_
      · have hl : (List.take 64 Z).length = 64 := by simp [hZl]
        rw [List.take_append_of_le_length (by omega)]
        simp [hZl]
      · simp [hZl]
      simp [go_sem, iV]
      subst hx2
      rw [show hexL c = [hexC (c / 16), hexC (c % 16)] by rw [hexL, if_neg (by omega)]] at h
      exact done (List.sublist_cons_self _ _) h
end Go.Proofs.YtflpfjeghomepaaDoor
/- The engine AW, part 22: contracts of the kit's shelf, as contracts of the engine; a variable that stands as it was laid. -/
set_option linter.unusedVariables false
set_option linter.unusedSimpArgs false
namespace Go.AW
open Go.RowKit

theorem Inv.below {G : Im} {w w' : World} {S : List Res} (h : Inv G w S) (hb : Below w.heap.size w w') : Evol S G w S G w' ∧ Inv G w' S := by
  refine ⟨⟨hb.size, hb.tape, hb.os, hb.output, Im.le_refl _, fun b hb' _ => hb.block b hb', fun _ _ _ _ => rfl, fun b hb' => .inl hb'⟩, ?_, ?_, h.nd⟩
  · intro b o u hg
    have := h.im b o u hg
    have hlt := World.cell?_lt this
    simp only [World.cell?] at this ⊢
    rw [hb.block b hlt]; exact this
  · intro r hr
    exact Res.holds_of (h.res r hr) (Im.le_refl _) fun b hb' => ⟨hb.block b (Res.blk_lt (h.res r hr) hb'), fun _ => rfl⟩
theorem below_grow (w : World) (k : Nat) (os : Array Obj) : Below w.heap.size w (Sort.grow (w.drewN k) os) :=
  ⟨rfl, rfl, rfl, by show w.heap.size ≤ (w.heap ++ os).size; simp, fun b hb => by
    show (w.heap ++ os)[b]? = _
    rw [Array.getElem?_append_left hb]⟩

/-- A contract that leaves what lay below as it was. -/
theorem acall_below {P : Program} {f : FuncId} {args : List V} {S : List Res} {Q : Out → List Res → Prop} {v : V} (h : ∀ G w xs, VRels G args xs → Inv G w S → ∃ x, VRel G v x ∧ Calls P f xs.toArray w fun e w' => e = .returned x ∧ Below w.heap.size w w')
    (hq : Q (.ret v) S) : ACall P f args S Q := fun G w xs hv hi => by
  obtain ⟨x, hx, hc⟩ := h G w xs hv hi
  refine hc.mono ?_
  rintro e w' ⟨rfl, hb⟩
  obtain ⟨he, hi'⟩ := hi.below hb
  exact ⟨G, S, .ret v, he, hi', .ret hx, hq⟩

/-- A variable holds these numbers. -/
def TabRaw (S : List Res) (g : Nat) (k : IntKind) (zs : List Int) : Prop := ∃ T z, findRaw S g = some (.cells (zs.map fun n => Value.int k n).toArray T z)
theorem TabRaw.is {P : Program} {S : List Res} {g : Nat} {k : IntKind} {zs : List Int} (h : TabRaw S g k zs) {G : Im} {w : World} (hi : Inv G w S) {name : String} (hg : P.globalNamed name = some g) : Lib.TabIs P w name k zs := by
  obtain ⟨T, z, hf⟩ := h
  obtain ⟨A, B, hS, _⟩ := findRaw_split hf
  have := hi.res (.raw g (.cells (zs.map fun n => Value.int k n).toArray T z)) (by rw [hS]; simp)
  unfold Lib.TabIs World.var?
  rw [hg]
  simp [this.1]
end Go.AW
