/- The engine AW, part 8: append, literals, calls. -/
import Derived.Test.YtmlcfgojoglelaaAwOpC
set_option linter.unusedVariables false
set_option linter.unusedSimpArgs false
namespace Go.AW
open Go.Great

/-! ### append, as an operation -/

/-- What is appended, by content. -/
def srcOf (S : List Res) (sz : Nat) : V → Option (List V)
  | .sl _ sz' ys => if sz' = sz then some ys else none
  | .vs k a n cap =>
    match findVec S k with
    | some (a', cap', sz', xs) => if a' = a ∧ cap' = cap ∧ xs.length = n ∧ sz' = sz then some xs else none
    | none => none
  | .lit (.slice none 0 0) => some []
  | .lit (.string s) => if sz = 1 then some (s.data.toList.map fun c => .lit (.int .u8 c.toNat)) else none
  | _ => none

theorem srcOf_news {P : Program} {G : Im} {w : World} {S : List Res} (hi : Inv G w S) {sz : Nat} {v : V} {x : Value} (hv : VRel G v x) {ys : List V} (h : srcOf S sz v = some ys) :
    (∃ news, News P G sz ys.length ys x news) ∧ ∀ y ∈ ys, y.cells.length = sz ∧ V.okv y = true := by
  cases v with
  | sl full sz' ys' =>
    simp only [srcOf] at h
    split at h
    · rename_i e; subst e; simp at h; subst h
      obtain ⟨_, _, _, _, _, _, hok, _⟩ := hv.sl_cells
      exact ⟨News.sl hv, hok⟩
    · cases h
  | vs k a n cap =>
    simp only [srcOf] at h
    split at h
    · rename_i a' cap' sz' xs hf
      split at h
      · rename_i e
        obtain ⟨rfl, rfl, rfl, rfl⟩ := e
        simp at h; subst h
        obtain ⟨S1, S2, rfl, _⟩ := findVec_split hf
        have hr := (hi.res (.vec k a' cap' sz' xs) (by simp)).1
        obtain ⟨_, _, _, _, _, _, hok, _⟩ := hr.sl_cells
        cases hv
        exact ⟨News.sl hr, hok⟩
      · cases h
    · cases h
  | lit u =>
    have hx := hv.lit_inv
    subst hx
    simp only [srcOf] at h
    split at h
    · rename_i e; cases e
    · rename_i e; cases e
    · rename_i e; cases e
      simp at h; subst h
      exact ⟨⟨[], rfl, fun w => rfl, .nil, by simp, by simp, fun w _ => rfl⟩, by simp⟩
    · rename_i s e; cases e
      split at h
      · rename_i e; subst e
        simp at h; subst h
        refine ⟨⟨s.data.toList.map fun c => .int .u8 c.toNat, by simp, fun w => by simp [Builtin.lenOf], ?_, by simp, ?_, fun w _ => ?_⟩, ?_⟩
        · have : ∀ l : List UInt8, VRels G ((l.map fun c => V.lit (.int .u8 c.toNat)).flatMap V.cells) (l.map fun c => Value.int .u8 c.toNat) := by
            intro l
            induction l with
            | nil => exact .nil
            | cons c l ih => simp only [List.map_cons, List.flatMap_cons, V.cells, List.singleton_append]; exact .cons (.lit _) ih
          exact this _
        · intro u hu
          simp at hu
          obtain ⟨c, _, rfl⟩ := hu; rfl
        · simp only [Builtin.firstCells, Sem.run_pure, List.length_map, Array.length_toList]
          congr 1
          have e : s.extract 0 s.data.size = s := by
            apply ByteArray.ext; simp
          rw [e]
          apply Array.ext'
          simp
        · intro y hy
          simp at hy
          obtain ⟨c, _, rfl⟩ := hy
          exact ⟨rfl, rfl⟩
      · cases h
    · cases h
  | _ => simp [srcOf] at h

/-- A slice that may be appended to. -/
def AppTo (S : List Res) (v : V) (k sz : Nat) (xs : List V) (S1 S2 : List Res) : Prop :=
  ∀ G w x, Inv G w S → VRel G v x → ∃ a cap, x = .slice a xs.length cap ∧ Inv G w (S1 ++ .vec k a cap sz xs :: S2) ∧ Evol S G w (S1 ++ .vec k a cap sz xs :: S2) G w

theorem AppTo.nil (S : List Res) (k sz : Nat) : AppTo S (.lit (.slice none 0 0)) k sz [] [] S := fun G w x hi hv => by
  have hx := hv.lit_inv
  subst hx
  exact ⟨none, 0, rfl, hi.vec_nil k sz, (Evol.refl _ _ _).cons (by simp [Res.blk, ownB_nil])⟩

theorem AppTo.full (S : List Res) {k : Nat} (hk : k < 100000) (sz : Nat) (xs : List V) : AppTo S (.sl true sz xs) k sz xs [] S := fun G w x hi hv => by
  obtain ⟨a, cap, us, rfl, hcap, hfull, hok, hrel, hlen, hne⟩ := hv.sl_cells
  have hc := hfull rfl
  subst hc
  have ho : ownB k a xs.length xs.length = false := by simp [ownB]; omega
  have hb : (Res.vec k a xs.length sz xs).blk = none := by simp [Res.blk, ho]
  refine ⟨a, xs.length, rfl, hi.cons ⟨?_, fun h => by rw [ho] at h; cases h⟩ (by simp [hb]), (Evol.refl _ _ _).cons (by simp [hb])⟩
  cases hv with
  | sl b o us ha hsz hok hcap hfull hG hh => exact .sl b o us ha hsz hok hcap (by simp) hG hh

theorem AppTo.vs {S : List Res} {k : Nat} {a : Option Addr} {n cap sz : Nat} {xs : List V} (hf : findVec S k = some (a, cap, sz, xs)) (hn : xs.length = n) :
    ∃ S1 S2, AppTo S (.vs k a n cap) k sz xs S1 S2 ∧ ∀ r, setVec S k r = S1 ++ r :: S2 := by
  obtain ⟨S1, S2, rfl, h2⟩ := findVec_split hf
  refine ⟨S1, S2, fun G w x hi hv => ?_, h2⟩
  cases hv
  exact ⟨a, cap, by rw [hn], hi, .refl _ _ _⟩

section
variable {ro : Option Nat} {P : Program} {o : Oper} {K : St → Prop} {Q : Exit → St → Prop} {st : St}

theorem AOp.append {x y : Operand} {t t2 e : TypeId} {k sz bytes : Nat} {xs ys : List V} {S1 S2 : List Res} {z : Value} {d2 : TypeDesc} (hop : o.op = .call ⟨.builtin .append, #[x, y], #[t, t2]⟩) (hd : dstOk st.n o.dst)
    (ht : P.underlying t = some (.slice e)) (ht2 : P.underlying t2 = some d2) (hd2 : d2 = .slice e ∨ d2 = .string) (hs : szA P e = some sz) (hz : zeroA P e = some z) (hzs : z.cells.size = sz) (hby : bytesA P e = some bytes) (hb : bytes ≤ 16384)
    (hx : AppTo st.S (st.opnd x) k sz xs S1 S2) (hy : srcOf st.S sz (st.opnd y) = some ys) (hbig : xs.length + ys.length ≤ 4294967296) (hke : k < 100000 ∨ e = k % 100000)
    (hk : ∀ a' cap', K (St.put { st with S := S1 ++ .vec k a' cap' sz (xs ++ ys) :: S2 } o.dst (.vs k a' (xs.length + ys.length) cap'))) : AOp ro P o K Q st := by
  refine AOp.value hd (by rw [hop]; rfl) fun G w a hr => ?_
  obtain ⟨⟨news, hn⟩, hys⟩ := srcOf_news (P := P) hr.inv (hr.opnd y) hy
  obtain ⟨ad, cap, hax, hi, he0⟩ := hx G w (a.eval x) hr.inv (hr.opnd x)
  simp only [szA, zeroA, bytesA, Option.map_eq_some_iff, Option.bind_eq_some_iff] at hs hz hby
  obtain ⟨i, hti, rfl⟩ := hs
  obtain ⟨i', hti', hz⟩ := hz
  obtain ⟨i'', hti'', rfl⟩ := hby
  obtain rfl : i = i' := by rw [hti] at hti'; exact Option.some.inj hti'
  obtain rfl : i = i'' := by rw [hti] at hti''; exact Option.some.inj hti''
  obtain ⟨a', cap', G', w', hrun, he, hi'⟩ := append_core hi (ty := o.type) ht ht2 hd2 hti rfl hz hzs hn hys hbig hb hke
  rw [List.length_append] at hrun
  refine ⟨_, w', G', .vs k a' (xs.length + ys.length) cap', _, ?_, he0.trans he, hi', .vs _ _ _ _, hk a' cap'⟩
  simp only [execOp, hop, resolve, invoke, builtin, Sem.run_bind, Sem.run_pure, Result.andThen_ok]
  simp only [List.map_toArray, List.map_cons, List.map_nil, hax, hrun, Result.andThen_ok]

theorem AT.lenVs {x : Operand} {t e : TypeId} {k : Nat} {ad : Option Addr} {n cap : Nat} (hop : o.op = .call ⟨.builtin .len, #[x], #[t]⟩) (hd : dstOk st.n o.dst)
    (hu : P.underlying t = some (.slice e)) (hx : st.opnd x = .vs k ad n cap) (hk : K (st.put o.dst (.lit (.int .i64 n)))) : ATake P o K st :=
  AT.pure hd (by rw [hop]; rfl) (fun G w a hr => by
    have h := hr.opnd x
    rw [hx] at h
    have hv : a.eval x = .slice ad n cap := by cases hv : a.eval x <;> rw [hv] at h <;> cases h; rfl
    refine ⟨_, fun w _ => ?_, .lit _⟩
    simp only [execOp, hop]
    simp [resolve, invoke, builtin, Builtin.len_, hv, run_und hu, goInt]) hk

/-! ### Literals -/

theorem VRels.flat {G : Im} : ∀ {vs : List V} {xs : List Value}, VRels G vs xs → (∀ v ∈ vs, V.okv v = true) → VRels G (vs.flatMap V.cells) (xs.flatMap fun x => x.cells.toList)
  | [], xs, h, _ => by rw [h.nil_inv]; exact .nil
  | v :: vs, xs, h, hok => by
    obtain ⟨x, xs', rfl, h1, h2⟩ := h.cons_inv
    simp only [List.flatMap_cons]
    exact VRels.append (h1.okv (hok v List.mem_cons_self)).1 (VRels.flat h2 fun v hv => hok v (List.mem_cons_of_mem _ hv))

theorem Rel.opnds {G : Im} {w : World} {a : Act} (hr : Rel G w a st) (xs : List Operand) : VRels G (xs.map st.opnd) (xs.map a.eval) := by
  induction xs with
  | nil => exact .nil
  | cons x xs ih => exact .cons (hr.opnd x) ih


end
end Go.AW
