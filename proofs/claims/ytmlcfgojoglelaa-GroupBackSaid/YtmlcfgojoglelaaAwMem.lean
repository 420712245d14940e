/- The engine AW, part 4: memory: own blocks, new blocks, blocks that never change. -/
import Derived.Test.YtmlcfgojoglelaaAwOps
import Derived.Laws.CopyRow
import Derived.Laws.Cells
set_option linter.unusedVariables false
set_option linter.unusedSimpArgs false
namespace Go.AW

def findObj : List Res → Nat → Option (List V)
  | [], _ => none
  | .objT b cs _ :: S, x => if b = x then some cs else findObj S x
  | .vec .. :: S, x => findObj S x
  | .raw .. :: S, x => findObj S x
  | .lp .. :: S, x => findObj S x

def setObj : List Res → Nat → List V → List Res
  | [], _, _ => []
  | .objT b cs T :: S, x, cs' => if b = x then .objT b cs' T :: S else .objT b cs T :: setObj S x cs'
  | r :: S, x, cs' => r :: setObj S x cs'

theorem findObj_mem {S : List Res} {b : Nat} {cs : List V} (h : findObj S b = some cs) : ∃ T, Res.objT b cs T ∈ S := by
  induction S with
  | nil => simp [findObj] at h
  | cons r S ih =>
    cases r with
    | objT b' cs' T' =>
      simp only [findObj] at h
      split at h
      · rename_i e; subst e; simp at h; subst h; exact ⟨T', List.mem_cons_self⟩
      · obtain ⟨T, hT⟩ := ih h; exact ⟨T, List.mem_cons_of_mem _ hT⟩
    | _ => obtain ⟨T, hT⟩ := ih h; exact ⟨T, List.mem_cons_of_mem _ hT⟩

theorem mem_blks {S : List Res} {b : Nat} : b ∈ blks S ↔ ∃ r ∈ S, r.blk = some b := by simp [blks]

theorem findObj_blks {S : List Res} {b : Nat} {cs : List V} (h : findObj S b = some cs) : b ∈ blks S := (findObj_mem h).elim fun T hT => mem_blks.2 ⟨_, hT, rfl⟩

theorem blks_setObj (S : List Res) (b : Nat) (cs : List V) : blks (setObj S b cs) = blks S := by
  induction S with
  | nil => rfl
  | cons r S ih =>
    cases r with
    | objT b' cs' T' =>
      simp only [setObj]
      split
      · simp [blks, Res.blk]
      · simp only [blks] at ih ⊢; simp [Res.blk, ih]
    | vec k a cap sz xs => simp only [setObj, blks, List.filterMap_cons] at ih ⊢; rw [ih]
    | raw b' o => simp only [setObj, blks, List.filterMap_cons] at ih ⊢; rw [ih]
    | lp => simp only [setObj, blks, List.filterMap_cons] at ih ⊢; rw [ih]

theorem nodup_tail {r : Res} {S : List Res} (h : (blks (r :: S)).Nodup) : (blks S).Nodup := by
  simp only [blks, List.filterMap_cons] at h ⊢
  split at h
  · exact h
  · exact (List.nodup_cons.1 h).2
theorem nodup_head {r : Res} {S : List Res} {b : Nat} (h : (blks (r :: S)).Nodup) (hb : b ∈ blks S) : r.blk ≠ some b := fun e => by
  simp only [blks, List.filterMap_cons, e] at h
  exact (List.nodup_cons.1 h).1 hb

theorem mem_setObj {S : List Res} {b : Nat} {cs c0 : List V} {r : Res} (h : r ∈ setObj S b cs) (hnd : (blks S).Nodup) (hf : findObj S b = some c0) : (∃ T, Res.objT b c0 T ∈ S ∧ r = .objT b cs T) ∨ (r ∈ S ∧ r.blk ≠ some b) := by
  induction S with
  | nil => simp [findObj] at hf
  | cons r' S ih =>
    have rest : findObj S b = some c0 → r = r' ∨ r ∈ setObj S b cs → (∃ T, Res.objT b c0 T ∈ r' :: S ∧ r = .objT b cs T) ∨ (r ∈ r' :: S ∧ r.blk ≠ some b) := fun hf2 h => by
      rcases h with rfl | h
      · exact .inr ⟨List.mem_cons_self, nodup_head hnd (findObj_blks hf2)⟩
      · rcases ih h (nodup_tail hnd) hf2 with ⟨T, h1, h2⟩ | ⟨h1, h2⟩
        · exact .inl ⟨T, List.mem_cons_of_mem _ h1, h2⟩
        · exact .inr ⟨List.mem_cons_of_mem _ h1, h2⟩
    cases r' with
    | objT b' cs' T' =>
      by_cases e : b' = b
      · subst e
        simp only [setObj, if_true] at h
        simp only [findObj, if_true, Option.some.injEq] at hf
        subst hf
        rcases List.mem_cons.1 h with rfl | h
        · exact .inl ⟨T', List.mem_cons_self, rfl⟩
        · exact .inr ⟨List.mem_cons_of_mem _ h, fun e => nodup_head hnd (mem_blks.2 ⟨r, h, e⟩) rfl⟩
      · simp only [setObj, if_neg e] at h
        simp only [findObj, if_neg e] at hf
        exact rest hf (List.mem_cons.1 h)
    | vec => exact rest (by simpa [findObj] using hf) (by simpa [setObj] using h)
    | raw => exact rest (by simpa [findObj] using hf) (by simpa [setObj] using h)
    | lp => exact rest (by simpa [findObj] using hf) (by simpa [setObj] using h)

/-- With one block only turned, and the cells that never change as they were: whatever does not lie in it holds. -/
theorem Res.holds_of {G G' : Im} {w w' : World} {r : Res} (h : r.holds G w) (hle : Im.le G G') (hh : ∀ b, r.blk = some b → w'.heap[b]? = w.heap[b]? ∧ ∀ o, G' b o = G b o) : r.holds G' w' := by
  cases r with
  | objT b cs T? =>
    obtain ⟨us, T, h1, h2, h3, h4⟩ := h
    obtain ⟨e1, e2⟩ := hh b rfl
    exact ⟨us, T, e1.trans h1, h2.mono hle, fun i => (e2 i).trans (h3 i), h4⟩
  | vec k a cap sz xs =>
    refine ⟨h.1.mono hle, fun hlt => ?_⟩
    obtain ⟨b, us, T, rfl, h2, h3, h5, h4⟩ := h.2 hlt
    obtain ⟨e1, e2⟩ := hh b (by simp [Res.blk, hlt])
    exact ⟨b, us, T, rfl, e1.trans h2, h3, h5, fun i hi => (e2 i).trans (h4 i hi)⟩
  | raw b o =>
    obtain ⟨e1, e2⟩ := hh b rfl
    exact ⟨e1.trans h.1, h.2.1, fun i => (e2 i).trans (h.2.2 i)⟩
  | lp b n env st pend ps assign body db =>
    obtain ⟨fn, tmps, h1, h2, h3⟩ := h
    obtain ⟨e1, e2⟩ := hh b rfl
    exact ⟨fn, tmps, e1.trans h1, h2.mono hle, fun i => (e2 i).trans (h3 i)⟩

theorem Res.blk_lt {G : Im} {w : World} {r : Res} (h : r.holds G w) {b : Nat} (hb : r.blk = some b) : b < w.heap.size := by
  cases r with
  | objT b' cs T' => obtain ⟨us, T, h1, _⟩ := h; simp [Res.blk] at hb; subst hb; exact (Array.getElem?_eq_some_iff.1 h1).1
  | vec k a cap sz xs =>
    simp only [Res.blk] at hb
    split at hb
    · rename_i hlt
      obtain ⟨b', us, T, rfl, h2, _⟩ := h.2 hlt
      simp at hb; subst hb; exact (Array.getElem?_eq_some_iff.1 h2).1
    · cases hb
  | raw b' o => simp [Res.blk] at hb; subst hb; exact (Array.getElem?_eq_some_iff.1 h.1).1
  | lp b' => obtain ⟨fn, tmps, h1, _⟩ := h; simp [Res.blk] at hb; subst hb; exact (Array.getElem?_eq_some_iff.1 h1).1

theorem Inv.lt {G : Im} {w : World} {S : List Res} (h : Inv G w S) {b : Nat} (hb : b ∈ blks S) : b < w.heap.size := by
  obtain ⟨r, hr, e⟩ := mem_blks.1 hb
  exact Res.blk_lt (h.res r hr) e

theorem World.cell?_lt {w : World} {b o : Nat} {u : Value} (h : w.cell? ⟨b, o, none⟩ = some u) : b < w.heap.size := by
  simp only [World.cell?] at h
  cases hb : w.heap[b]? with
  | none => simp [hb] at h
  | some x => exact (Array.getElem?_eq_some_iff.1 hb).1

theorem Inv.G_lt {G : Im} {w : World} {S : List Res} (h : Inv G w S) {b o : Nat} {u : Value} (hg : G b o = some u) : b < w.heap.size := World.cell?_lt (h.im b o u hg)

theorem Inv.G_new {G : Im} {w : World} {S : List Res} (h : Inv G w S) {b : Nat} (hb : w.heap.size ≤ b) (o : Nat) : G b o = none := by
  cases hg : G b o with
  | none => rfl
  | some u => exact absurd (h.G_lt hg) (by omega)

theorem Inv.obj {G : Im} {w : World} {S : List Res} (h : Inv G w S) {b : Nat} {cs : List V} (hf : findObj S b = some cs) :
    ∃ us T, w.heap[b]? = some (.cells us T (0, 0)) ∧ VRels G cs us.toList ∧ ∀ i, G b i = none :=
  let ⟨_, hT⟩ := findObj_mem hf
  let ⟨us, T, h1, h2, h3, _⟩ := h.res _ hT
  ⟨us, T, h1, h2, h3⟩

/-- An own block is written. -/
theorem Inv.write {G : Im} {w w' : World} {S : List Res} (h : Inv G w S) {b : Nat} {cs cs' : List V} (hf : findObj S b = some cs)
    {us0 us' : Array Value} {T : TypeId} (hw0 : w.heap[b]? = some (.cells us0 T (0, 0))) (hw : w'.heap[b]? = some (.cells us' T (0, 0))) (hv : VRels G cs' us'.toList) (hsz : w'.heap.size = w.heap.size)
    (ho : ∀ b', b' ≠ b → w'.heap[b']? = w.heap[b']?) (ht : w'.tape = w.tape) (hos : w'.os = w.os) (hout : w'.output = w.output) :
    Evol S G w (setObj S b cs') G w' ∧ Inv G w' (setObj S b cs') := by
  have hb := findObj_blks hf
  obtain ⟨us, T0, h1, h2, h3⟩ := h.obj hf
  refine ⟨⟨by omega, ht, hos, hout, Im.le_refl _, fun b' _ hb' => ho b' (fun e => hb' (e ▸ hb)), fun _ _ _ _ => rfl, fun b' hb' => .inl (by rwa [blks_setObj] at hb')⟩, ?_, ?_, ?_⟩
  · intro b' o u hg
    have hne : b' ≠ b := fun e => by subst e; rw [h3] at hg; cases hg
    have := h.im b' o u hg
    simp only [World.cell?] at this ⊢
    rw [ho b' hne]; exact this
  · intro r hr
    rcases mem_setObj hr h.nd hf with ⟨T', hm, rfl⟩ | ⟨hm, hne⟩
    · obtain ⟨us2, T2, h4, h5, h6, h7⟩ := h.res _ hm
      refine ⟨us', T, hw, hv, h3, ?_⟩
      rw [hw0] at h4; simp at h4; rw [h4.2]; exact h7
    · exact Res.holds_of (h.res r hm) (Im.le_refl _) fun b' hb' => ⟨ho b' (fun e => hne (e ▸ hb')), fun _ => rfl⟩
  · rw [blks_setObj]; exact h.nd

theorem World.heap_alloc_ne {w : World} {o : Obj} {b : Nat} (h : b ≠ w.heap.size) : (w.alloc o).heap[b]? = w.heap[b]? := by
  show (w.heap.push o)[b]? = _
  rw [Array.getElem?_push, if_neg h]
theorem World.heap_alloc_eq {w : World} {o : Obj} : (w.alloc o).heap[w.heap.size]? = some o := by
  show (w.heap.push o)[w.heap.size]? = _
  simp


/-- A new block that is nobody's yet: what held holds. -/
theorem Inv.alloc0 {G : Im} {w : World} {S : List Res} (h : Inv G w S) (o : Obj) : Evol S G w S G (w.alloc o) ∧ Inv G (w.alloc o) S := by
  have hne : ∀ b, b < w.heap.size → (w.alloc o).heap[b]? = w.heap[b]? := fun b hb => World.heap_alloc_ne (by omega)
  refine ⟨⟨by simp, rfl, rfl, rfl, Im.le_refl _, fun b hb _ => hne b hb, fun _ _ _ _ => rfl, fun b hb => .inl hb⟩, ?_, ?_, h.nd⟩
  · intro b o' u hg
    have := h.im b o' u hg
    have hlt := World.cell?_lt this
    simp only [World.cell?] at this ⊢
    rw [hne b hlt]; exact this
  · intro r hr
    exact Res.holds_of (h.res r hr) (Im.le_refl _) fun b hb => ⟨hne b (Res.blk_lt (h.res r hr) hb), fun _ => rfl⟩

theorem Inv.cons {G : Im} {w : World} {S : List Res} (h : Inv G w S) {r : Res} (hr : r.holds G w) (hn : ∀ b, r.blk = some b → b ∉ blks S) : Inv G w (r :: S) := by
  refine ⟨h.im, fun x hx => ?_, ?_⟩
  · rcases List.mem_cons.1 hx with rfl | hx
    · exact hr
    · exact h.res x hx
  · simp only [blks, List.filterMap_cons]
    split
    · exact h.nd
    · rename_i b hb; exact List.nodup_cons.2 ⟨hn b hb, h.nd⟩

theorem Evol.cons {S S' : List Res} {G G' : Im} {w w' : World} (h : Evol S G w S' G' w') {r : Res} (hr : ∀ b, r.blk = some b → b ∈ blks S ∨ w.heap.size ≤ b) : Evol S G w (r :: S') G' w' :=
  ⟨h.size, h.tape, h.os, h.out, h.im, h.keep, h.keepG, fun b hb => by
    obtain ⟨r', hr', e⟩ := mem_blks.1 hb
    rcases List.mem_cons.1 hr' with rfl | hr'
    · exact hr b e
    · exact h.own b (mem_blks.2 ⟨r', hr', e⟩)⟩

/-- A new block of one's own. -/
theorem Inv.alloc_objT {G : Im} {w : World} {S : List Res} (h : Inv G w S) {us : Array Value} (T : TypeId) (T' : Option TypeId) (hT : ∀ t, T' = some t → T = t) {cs : List V} (hv : VRels G cs us.toList) :
    Evol S G w (.objT w.heap.size cs T' :: S) G (w.alloc (.cells us T)) ∧ Inv G (w.alloc (.cells us T)) (.objT w.heap.size cs T' :: S) := by
  obtain ⟨he, hi⟩ := h.alloc0 (.cells us T)
  refine ⟨he.cons fun b hb => ?_, hi.cons ⟨us, T, World.heap_alloc_eq, hv, fun i => h.G_new (Nat.le_refl _) i, hT⟩ fun b hb hb' => ?_⟩
  · simp [Res.blk] at hb; exact .inr (by omega)
  · simp [Res.blk] at hb; have := h.lt hb'; omega

theorem Inv.alloc_obj {G : Im} {w : World} {S : List Res} (h : Inv G w S) {us : Array Value} (T : TypeId) {cs : List V} (hv : VRels G cs us.toList) :
    Evol S G w (.obj w.heap.size cs :: S) G (w.alloc (.cells us T)) ∧ Inv G (w.alloc (.cells us T)) (.obj w.heap.size cs :: S) := h.alloc_objT T none (by simp) hv

theorem Inv.alloc_raw {G : Im} {w : World} {S : List Res} (h : Inv G w S) {o : Obj} (ho : o.isCells = false) :
    Evol S G w (.raw w.heap.size o :: S) G (w.alloc o) ∧ Inv G (w.alloc o) (.raw w.heap.size o :: S) := by
  obtain ⟨he, hi⟩ := h.alloc0 o
  refine ⟨he.cons fun b hb => ?_, hi.cons ⟨World.heap_alloc_eq, ho, fun i => h.G_new (Nat.le_refl _) i⟩ fun b hb hb' => ?_⟩
  · simp [Res.blk] at hb; exact .inr (by omega)
  · simp [Res.blk] at hb; have := h.lt hb'; omega

/-- The cells of a new block are laid among those that never change. -/
def Im.add (G : Im) (n : Nat) (us : Array Value) : Im := fun b o => if b = n then us[o]? else G b o

theorem Inv.alloc_im {G : Im} {w : World} {S : List Res} (h : Inv G w S) (us : Array Value) (T : TypeId) :
    Evol S G w S (G.add w.heap.size us) (w.alloc (.cells us T)) ∧ Inv (G.add w.heap.size us) (w.alloc (.cells us T)) S := by
  obtain ⟨he, hi⟩ := h.alloc0 (.cells us T)
  have hle : Im.le G (G.add w.heap.size us) := fun b o u hg => by
    have := h.G_lt hg
    simp [Im.add, show b ≠ w.heap.size by omega, hg]
  have hsame : ∀ b, b < w.heap.size → ∀ o, G.add w.heap.size us b o = G b o := fun b hb o => by simp [Im.add, show b ≠ w.heap.size by omega]
  refine ⟨⟨he.size, he.tape, he.os, he.out, hle, he.keep, fun b hb _ o => hsame b hb o, he.own⟩, ?_, ?_, hi.nd⟩
  · intro b o u hg
    simp only [Im.add] at hg
    split at hg
    · rename_i e; subst e
      simp only [World.cell?, World.heap_alloc_eq]; exact hg
    · exact hi.im b o u hg
  · intro r hr
    exact Res.holds_of (hi.res r hr) hle fun b hb => ⟨rfl, hsame b (Res.blk_lt (h.res r hr) hb)⟩

end Go.AW
