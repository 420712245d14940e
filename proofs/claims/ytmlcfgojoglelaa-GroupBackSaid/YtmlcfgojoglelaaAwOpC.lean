/- The engine AW, part 7: slices that are made and appended to. -/
import Derived.Test.YtmlcfgojoglelaaAwOpB
import Derived.Laws.AppendOwn
set_option linter.unusedVariables false
set_option linter.unusedSimpArgs false
namespace Go.AW
open Go.Great

/-! ### The entry of an appended slice -/

def findVec : List Res → Nat → Option (Option Addr × Nat × Nat × List V)
  | [], _ => none
  | .vec k a cap sz xs :: S, x => if k = x then some (a, cap, sz, xs) else findVec S x
  | .objT .. :: S, x => findVec S x
  | .raw .. :: S, x => findVec S x
  | .lp .. :: S, x => findVec S x

def setVec : List Res → Nat → Res → List Res
  | [], _, _ => []
  | .vec k a cap sz xs :: S, x, r => if k = x then r :: S else .vec k a cap sz xs :: setVec S x r
  | r' :: S, x, r => r' :: setVec S x r

theorem findVec_split {S : List Res} {k : Nat} {a : Option Addr} {cap sz : Nat} {xs : List V} (h : findVec S k = some (a, cap, sz, xs)) :
    ∃ S1 S2, S = S1 ++ .vec k a cap sz xs :: S2 ∧ ∀ r, setVec S k r = S1 ++ r :: S2 := by
  induction S with
  | nil => simp [findVec] at h
  | cons r S ih =>
    cases r with
    | vec k' a' cap' sz' xs' =>
      simp only [findVec] at h
      split at h
      · rename_i e; subst e
        simp at h; obtain ⟨rfl, rfl, rfl, rfl⟩ := h
        exact ⟨[], S, rfl, fun r => by simp [setVec]⟩
      · rename_i e
        obtain ⟨S1, S2, h1, h2⟩ := ih h
        exact ⟨_ :: S1, S2, by rw [h1]; rfl, fun r => by simp [setVec, e, h2]⟩
    | objT b cs => obtain ⟨S1, S2, h1, h2⟩ := ih h; exact ⟨_ :: S1, S2, by rw [h1]; rfl, fun r => by simp [setVec, h2]⟩
    | raw b o => obtain ⟨S1, S2, h1, h2⟩ := ih h; exact ⟨_ :: S1, S2, by rw [h1]; rfl, fun r => by simp [setVec, h2]⟩
    | lp => obtain ⟨S1, S2, h1, h2⟩ := ih h; exact ⟨_ :: S1, S2, by rw [h1]; rfl, fun r => by simp [setVec, h2]⟩

theorem blks_append (S S' : List Res) : blks (S ++ S') = blks S ++ blks S' := by simp [blks]
theorem blks_cons (r : Res) (S : List Res) : blks (r :: S) = (match r.blk with | some b => [b] | none => []) ++ blks S := by
  simp only [blks, List.filterMap_cons]; cases r.blk <;> rfl

/-- One resource is changed for another one, in a world that has turned in the first one's block, or has new blocks. -/
theorem Inv.swap {G G' : Im} {w w' : World} {S1 S2 : List Res} {r r' : Res} (h : Inv G w (S1 ++ r :: S2))
    (hsz : w.heap.size ≤ w'.heap.size) (ht : w'.tape = w.tape) (hos : w'.os = w.os) (hout : w'.output = w.output) (hle : Im.le G G')
    (him : ∀ b o u, G' b o = some u → w'.cell? ⟨b, o, none⟩ = some u)
    (hk : ∀ b, b < w.heap.size → r.blk ≠ some b → w'.heap[b]? = w.heap[b]? ∧ ∀ o, G' b o = G b o) (hr : r'.holds G' w')
    (hbr : ∀ b, r'.blk = some b → r.blk = some b ∨ w.heap.size ≤ b) :
    Evol (S1 ++ r :: S2) G w (S1 ++ r' :: S2) G' w' ∧ Inv G' w' (S1 ++ r' :: S2) := by
  have hnd := h.nd
  rw [blks_append, blks_cons] at hnd
  have hdis : ∀ x ∈ S1 ++ S2, ∀ b, x.blk = some b → r.blk ≠ some b := by
    intro x hx b hxb hrb
    rw [hrb] at hnd
    have hm : b ∈ blks S1 ∨ b ∈ blks S2 := by
      rcases List.mem_append.1 hx with h1 | h1
      · exact .inl (mem_blks.2 ⟨x, h1, hxb⟩)
      · exact .inr (mem_blks.2 ⟨x, h1, hxb⟩)
    rw [List.nodup_append] at hnd
    obtain ⟨_, h2, h3⟩ := hnd
    rcases hm with h1 | h1
    · exact h3 b h1 b (by simp) rfl
    · simp at h2; exact h2.1 h1
  have hother : ∀ x ∈ S1 ++ S2, x.holds G' w' := fun x hx => by
    have hx0 : x ∈ S1 ++ r :: S2 := by rcases List.mem_append.1 hx with h1 | h1 <;> simp [h1]
    exact Res.holds_of (h.res x hx0) hle fun b hb => hk b (Res.blk_lt (h.res x hx0) hb) (hdis x hx b hb)
  have hlt : ∀ b ∈ blks S1 ++ blks S2, b < w.heap.size := fun b hb => h.lt (by
    rw [blks_append, blks_cons]
    rcases List.mem_append.1 hb with h1 | h1 <;> simp [h1])
  refine ⟨⟨hsz, ht, hos, hout, hle, fun b hb hnb => (hk b hb fun e => hnb (by rw [blks_append, blks_cons, e]; simp)).1,
    fun b hb hnb => (hk b hb fun e => hnb (by rw [blks_append, blks_cons, e]; simp)).2, fun b hb => ?_⟩, ⟨him, fun x hx => ?_, ?_⟩⟩
  · rw [blks_append, blks_cons] at hb
    rw [blks_append, blks_cons]
    rcases List.mem_append.1 hb with h1 | h1
    · exact .inl (by simp [h1])
    · rcases List.mem_append.1 h1 with h1 | h1
      · have : r'.blk = some b := by cases hrb : r'.blk <;> simp [hrb] at h1; rw [h1]
        rcases hbr b this with h2 | h2
        all_goals first | (exact .inl (by rw [h2]; simp)) | exact .inr h2
      · exact .inl (by simp [h1])
  · rcases List.mem_append.1 hx with h1 | h1
    · exact hother x (by simp [h1])
    · rcases List.mem_cons.1 h1 with rfl | h1
      · exact hr
      · exact hother x (by simp [h1])
  · rw [blks_append, blks_cons]
    have hnd' : (blks S1 ++ blks S2).Nodup := by
      rw [List.nodup_append] at hnd ⊢
      obtain ⟨h1, h2, h3⟩ := hnd
      rw [List.nodup_append] at h2
      exact ⟨h1, h2.2.1, fun a ha b hb => h3 a ha b (by simp [hb])⟩
    cases hrb : r'.blk with
    | none => simpa using hnd'
    | some b =>
      have hnb : b ∉ blks S1 ++ blks S2 := by
        intro hm
        rcases hbr b hrb with h1 | h1
        · have : ∃ x ∈ S1 ++ S2, x.blk = some b := by
            rcases List.mem_append.1 hm with h2 | h2
            · obtain ⟨x, hx, e⟩ := mem_blks.1 h2; exact ⟨x, by simp [hx], e⟩
            · obtain ⟨x, hx, e⟩ := mem_blks.1 h2; exact ⟨x, by simp [hx], e⟩
          obtain ⟨x, hx, e⟩ := this
          exact hdis x hx b e h1
        · have := hlt b hm; omega
      rw [List.nodup_append] at hnd' ⊢
      obtain ⟨h1, h2, h3⟩ := hnd'
      refine ⟨h1, ?_, fun a ha c hc => ?_⟩
      · simp; exact ⟨fun h => hnb (by simp [h]), h2⟩
      · simp at hc
        rcases hc with rfl | hc
        · intro e; subst e; exact hnb (by simp [ha])
        · exact h3 a ha c hc

/-- A slice of nothing may be appended to. -/
theorem ownB_nil (k : Nat) : ownB k none 0 0 = false := by simp [ownB]
theorem Inv.vec_nil {G : Im} {w : World} {S : List Res} (h : Inv G w S) (k sz : Nat) : Inv G w (.vec k none 0 sz [] :: S) :=
  h.cons ⟨.sl 0 0 (fun _ => undef) (fun e => absurd rfl e) (by simp) (by simp) (by simp) (by simp) (by simp) (by simp), fun hlt => by rw [List.length_nil, ownB_nil] at hlt; cases hlt⟩ (by simp [Res.blk, ownB_nil])

/-! ### What is appended -/

structure News (P : Program) (G : Im) (sz m : Nat) (ys : List V) (y : Value) (news : List Value) : Prop where
  len : ys.length = m
  lenOf : ∀ w, (Builtin.lenOf y).run P w = .ok m w
  rel : VRels G (ys.flatMap V.cells) news
  size : news.length = m * sz
  one : ∀ u ∈ news, u.oneCell' = true
  first : ∀ w, (∀ b o u, G b o = some u → w.cell? ⟨b, o, none⟩ = some u) → (Builtin.firstCells sz m y).run P w = .ok news.toArray w

theorem VRel.one_cells {G : Im} {cs : List V} {us : List Value} (h : VRels G cs us) (hc : ∀ c ∈ cs, V.one c = true) : ∀ u ∈ us, u.oneCell' = true := by
  intro u hu
  obtain ⟨i, hi⟩ := List.mem_iff_getElem?.1 hu
  have hl : i < cs.length := by rw [h.1]; exact (List.getElem?_eq_some_iff.1 hi).1
  exact (h.2 i cs[i] u (by simp [hl]) hi).one (hc _ (List.getElem_mem hl))

theorem flat_length {xs : List V} {sz : Nat} (h : ∀ x ∈ xs, x.cells.length = sz) : (xs.flatMap V.cells).length = xs.length * sz := by
  induction xs with
  | nil => simp
  | cons x xs ih =>
    rw [List.flatMap_cons, List.length_append, ih fun y hy => h y (List.mem_cons_of_mem _ hy), h x List.mem_cons_self, List.length_cons, Nat.succ_mul]
    omega

/-- The cells of a slice by content, one by one. -/
theorem VRel.sl_cells {G : Im} {full : Bool} {sz : Nat} {xs : List V} {x : Value} (h : VRel G (.sl full sz xs) x) :
    ∃ a cap us, x = .slice a xs.length cap ∧ xs.length ≤ cap ∧ (full = true → cap = xs.length) ∧ (∀ x ∈ xs, x.cells.length = sz ∧ V.okv x = true) ∧ VRels G (xs.flatMap V.cells) us ∧ us.length = xs.length * sz ∧
      (xs ≠ [] → ∃ b o, a = some ⟨b, o, none⟩ ∧ ∀ (i : Nat) u, us[i]? = some u → G b (o + i) = some u) := by
  cases h with
  | sl b o us ha hsz hok hcap hfull hG hh =>
    rename_i a cap
    refine ⟨a, cap, (List.range (xs.flatMap V.cells).length).map us, rfl, hcap, hfull, fun x hx => ⟨hsz x hx, hok x hx⟩, ⟨by simp, fun i v y hv hy => ?_⟩, ?_, fun hne => ⟨b, o, ha hne, fun i u hu => ?_⟩⟩
    · simp only [List.getElem?_map, Option.map_eq_some_iff] at hy
      obtain ⟨j, hj, rfl⟩ := hy
      have := List.getElem?_eq_some_iff.1 hj
      simp at this; obtain ⟨_, rfl⟩ := this
      exact hh _ _ hv
    · rw [List.length_map, List.length_range]; exact flat_length hsz
    · simp only [List.getElem?_map, Option.map_eq_some_iff] at hu
      obtain ⟨j, hj, rfl⟩ := hu
      have := List.getElem?_eq_some_iff.1 hj
      simp at this; obtain ⟨hl, rfl⟩ := this
      exact hG _ (by simpa using hl)

theorem News.sl {P : Program} {G : Im} {full : Bool} {sz : Nat} {ys : List V} {y : Value} (h : VRel G (.sl full sz ys) y) : ∃ news, News P G sz ys.length ys y news := by
  obtain ⟨a, cap, us, rfl, hcap, hfull, hsz, hrel, hlen, hne⟩ := h.sl_cells
  refine ⟨us, ⟨rfl, fun w => rfl, hrel, hlen, VRel.one_cells hrel fun c hc => ?_, fun w hw => ?_⟩⟩
  · obtain ⟨y, hy, hc⟩ := List.mem_flatMap.1 hc
    have := (hsz y hy).2
    cases y <;> simp_all [V.okv, V.cells]
  · by_cases he : ys = []
    · subst he
      simp at hlen
      subst hlen
      cases a with
      | none => rfl
      | some a => simp [Builtin.firstCells, loadCells, loadCellsFrom]
    · obtain ⟨b, o, rfl, hG⟩ := hne he
      exact run_firstCells_some (P := P) w sz ys.length ⟨b, o, none⟩ ys.length cap us hlen fun j u hu => by rw [Addr.add_eq]; exact hw _ _ _ (hG j u hu)

theorem run_lenOf_nil (P : Program) (w : World) : (Builtin.lenOf (.slice none 0 0)).run P w = .ok 0 w := rfl

/-! ### append -/

theorem VRel.sl_mk {G : Im} {full : Bool} {sz b : Nat} {xs : List V} {us : List Value} {cap : Nat} (hcap : xs.length ≤ cap) (hfull : full = true → cap = xs.length) (hsz : ∀ x ∈ xs, x.cells.length = sz ∧ V.okv x = true)
    (hrel : VRels G (xs.flatMap V.cells) us) {o : Nat} (hG : ∀ (i : Nat) u, us[i]? = some u → G b (o + i) = some u) : VRel G (.sl full sz xs) (.slice (some ⟨b, o, none⟩) xs.length cap) := by
  refine .sl b o (fun i => us.getD i undef) (fun _ => rfl) (fun x hx => (hsz x hx).1) (fun x hx => (hsz x hx).2) hcap hfull (fun i hi => ?_) (fun i c hc => ?_)
  · have hi' : i < us.length := by rw [← hrel.1]; exact hi
    rw [List.getD_eq_getElem?_getD, List.getElem?_eq_getElem hi']
    exact hG i _ (List.getElem?_eq_getElem hi')
  · have hi : i < us.length := by rw [← hrel.1]; exact (List.getElem?_eq_some_iff.1 hc).1
    rw [List.getD_eq_getElem?_getD, List.getElem?_eq_getElem hi]
    exact hrel.2 i c _ hc (List.getElem?_eq_getElem hi)

theorem run_app_room {P : Program} {w w' : World} {t t2 ty e : TypeId} (ht : P.underlying t = some (.slice e)) {d2 : TypeDesc} (ht2 : P.underlying t2 = some d2) (hd2 : d2 = .slice e ∨ d2 = .string)
    {i : TypeInfo} (hti : P.info? e = some i) {b : Nat} {n cap m : Nat} {y : Value} (hl : (Builtin.lenOf y).run P w = .ok m w) {news : Array Value} (hf : (Builtin.firstCells i.size m y).run P w = .ok news w)
    (hroom : n + m ≤ cap) (hst : (storeCells ⟨b, n * i.size, none⟩ news.toList).run P w = .ok () w') :
    (Builtin.append_ #[t, t2] ty #[.slice (some ⟨b, 0, none⟩) n cap, y]).run P w = .ok (.slice (some ⟨b, 0, none⟩) (n + m) cap) w' := by
  rcases hd2 with rfl | rfl <;> simp [Builtin.append_, run_und ht, run_und ht2, sizeOf, typeInfo, hti, hl, hf, hroom, Addr.add_lit, hst]

theorem run_app_none {P : Program} {w : World} {t t2 ty e : TypeId} (ht : P.underlying t = some (.slice e)) {d2 : TypeDesc} (ht2 : P.underlying t2 = some d2) (hd2 : d2 = .slice e ∨ d2 = .string)
    {i : TypeInfo} (hti : P.info? e = some i) {a : Option Addr} {n cap : Nat} {y : Value} (hl : (Builtin.lenOf y).run P w = .ok 0 w) (hf : (Builtin.firstCells i.size 0 y).run P w = .ok #[] w)
    (hroom : n ≤ cap) : (Builtin.append_ #[t, t2] ty #[.slice a n cap, y]).run P w = .ok (.slice a n cap) w := by
  cases a <;> rcases hd2 with rfl | rfl <;> simp [Builtin.append_, run_und ht, run_und ht2, sizeOf, typeInfo, hti, hl, hf, hroom, storeCells]

theorem run_app_grow {P : Program} {w : World} {t t2 ty e : TypeId} (ht : P.underlying t = some (.slice e)) {d2 : TypeDesc} (ht2 : P.underlying t2 = some d2) (hd2 : d2 = .slice e ∨ d2 = .string)
    {i : TypeInfo} (hti : P.info? e = some i) {z : Value} (hz : i.zero = some z) {a : Option Addr} {n cap m : Nat} {y : Value} (hl : (Builtin.lenOf y).run P w = .ok m w) {olds news : Array Value}
    (ho : (Builtin.firstCells i.size n (.slice a n cap)).run P w.drew = .ok olds w.drew) (hf : (Builtin.firstCells i.size m y).run P w.drew = .ok news w.drew)
    (hroom : cap < n + m) (h63 : ((n + m : Nat) : Int) ≤ 9223372036854775807) (hfit : Builtin.nextslicecap (n + m) cap * i.bytes ≤ 281474976710656) :
    (Builtin.append_ #[t, t2] ty #[.slice a n cap, y]).run P w = .ok (.slice (some ⟨w.heap.size, 0, none⟩) (n + m) (grownCap w (n + m) cap e))
      (w.drew.alloc (.cells (olds ++ news ++ Builtin.zeroCells z.cells (grownCap w (n + m) cap e - (n + m))) e)) := by
  have hn : ¬ (n + m ≤ cap) := by omega
  have h63' : ¬ (9223372036854775807 < ((n : Int) + (m : Int))) := by omega
  have h48' : ¬ (281474976710656 < Builtin.nextslicecap (n + m) cap * i.bytes) := by omega
  have hdr : ({ heap := w.heap, tape := w.tape, drawn := w.drawn + 1, os := w.os, output := w.output } : World) = w.drew := rfl
  rcases hd2 with rfl | rfl <;>
    simp [Builtin.append_, run_und ht, run_und ht2, sizeOf, typeInfo, zeroValue, hti, hz, hl, hn, h63', h48', Question.forced, ho, hf, newRow, grownCap, hdr]

theorem firstCells_zero {P : Program} (sz : Nat) {y : Value} {n : Nat} (w : World) (a : Option Addr) (cap : Nat) : (Builtin.firstCells sz 0 (.slice a n cap)).run P w = .ok #[] w := by
  cases a with
  | none => rfl
  | some a => simp [Builtin.firstCells, loadCells, loadCellsFrom]

theorem append_core {P : Program} {G : Im} {w : World} {S1 S2 : List Res} {k : Nat} {a : Option Addr} {cap sz : Nat} {xs ys : List V} (hi : Inv G w (S1 ++ .vec k a cap sz xs :: S2))
    {t t2 ty e : TypeId} (ht : P.underlying t = some (.slice e)) {d2 : TypeDesc} (ht2 : P.underlying t2 = some d2) (hd2 : d2 = .slice e ∨ d2 = .string) {i : TypeInfo} (hti : P.info? e = some i) (hsz : i.size = sz) {z : Value} (hz : i.zero = some z) (hzs : z.cells.size = sz)
    {y : Value} {news : List Value} (hn : News P G sz ys.length ys y news) (hys : ∀ y ∈ ys, y.cells.length = sz ∧ V.okv y = true) (hbig : xs.length + ys.length ≤ 4294967296) (hby : i.bytes ≤ 16384) (hke : k < 100000 ∨ e = k % 100000) :
    ∃ a' cap' G' w', (Builtin.append_ #[t, t2] ty #[.slice a xs.length cap, y]).run P w = .ok (.slice a' (xs ++ ys).length cap') w' ∧
      Evol (S1 ++ .vec k a cap sz xs :: S2) G w (S1 ++ .vec k a' cap' sz (xs ++ ys) :: S2) G' w' ∧ Inv G' w' (S1 ++ .vec k a' cap' sz (xs ++ ys) :: S2) := by
  subst hsz
  obtain ⟨hrel, hown⟩ := hi.res (.vec k a cap i.size xs) (by simp)
  obtain ⟨a0, cap0, us, he, hcap, _, hxsz, hus, husl, hne⟩ := hrel.sl_cells
  simp at he; obtain ⟨rfl, rfl⟩ := he
  have hall : ∀ x ∈ xs ++ ys, x.cells.length = i.size ∧ V.okv x = true := fun x hx => by rcases List.mem_append.1 hx with h | h; exact hxsz x h; exact hys x h
  have hboth : VRels G ((xs ++ ys).flatMap V.cells) (us ++ news) := by rw [List.flatMap_append]; exact hus.append hn.rel
  have hns := hn.size
  have hlen : (xs ++ ys).length = xs.length + ys.length := List.length_append
  rw [hlen]
  by_cases hy : ys = []
  · subst hy
    have hnews : news = [] := List.eq_nil_of_length_eq_zero (by simpa using hns)
    subst hnews
    exact ⟨a, cap, G, w, run_app_none ht ht2 hd2 hti (by simpa using hn.lenOf w) (by simpa using hn.first w hi.im) hcap, by simpa using Evol.refl _ G w, by simpa using hi⟩
  have hm : 0 < ys.length := List.length_pos_iff.2 hy
  by_cases hroom : xs.length + ys.length ≤ cap
  · obtain ⟨b, us0, T, rfl, hb, hfit, hT, hfree⟩ := hown (by simp [ownB]; left; omega)
    have hzero : xs ≠ [] → ∀ (j : Nat) u, us[j]? = some u → G b j = some u := fun hx => by
      obtain ⟨b', o', hab, hG⟩ := hne hx
      simp at hab; obtain ⟨rfl, rfl⟩ := hab
      simpa using hG
    have hus0 : ∀ (j : Nat) u, us[j]? = some u → G b j = some u := fun j u hu => hzero (fun e => by subst e; simp at husl; subst husl; simp at hu) j u hu
    have hsum : xs.length * i.size + news.length ≤ us0.size := by
      rw [hns, ← Nat.add_mul]; exact Nat.le_trans (Nat.mul_le_mul_right _ hroom) hfit
    have hst := run_storeCells_at P b (xs.length * i.size) T news 0 us0 w hb (by simpa using hsum) hn.one
    simp only [Nat.add_zero] at hst
    have hr := run_app_room (P := P) (ty := ty) ht ht2 hd2 hti (hn.lenOf w) (hn.first w hi.im) hroom (news := news.toArray) hst
    obtain ⟨us1, hus1⟩ : ∃ us1, us1 = (us0.toList.take (xs.length * i.size) ++ news ++ us0.toList.drop (xs.length * i.size + news.length)).toArray := ⟨_, rfl⟩
    rw [← hus1] at hr
    have hget : ∀ j, us1[j]? = if j < xs.length * i.size then us0[j]? else if j < xs.length * i.size + news.length then news[j - xs.length * i.size]? else us0[j]? := by
      intro j
      have hl : (us0.toList.take (xs.length * i.size)).length = xs.length * i.size := by simp; omega
      rw [hus1]
      simp only [List.getElem?_toArray, List.append_assoc]
      by_cases h1 : j < xs.length * i.size
      · rw [if_pos h1, List.getElem?_append_left (by omega), List.getElem?_take, if_pos h1]; simp
      · rw [if_neg h1, List.getElem?_append_right (by omega), hl]
        by_cases h2 : j < xs.length * i.size + news.length
        · rw [if_pos h2, List.getElem?_append_left (by omega)]
        · rw [if_neg h2, List.getElem?_append_right (by omega), List.getElem?_drop]
          simp; congr 1; omega
    have hsz1 : us1.size = us0.size := by rw [hus1]; simp; omega
    have hw1 : (w.setRow b us1).heap[b]? = some (.cells us1 T (0, 0)) := setRow_heap w b us0 us1 T (0, 0) hb
    obtain ⟨G', hG'⟩ : ∃ G' : Im, G' = fun b' o => if b' = b ∧ xs.length * i.size ≤ o ∧ o < xs.length * i.size + news.length then news[o - xs.length * i.size]? else G b' o := ⟨_, rfl⟩
    have hle : Im.le G G' := fun b' o u hg => by
      rw [hG']; simp only
      rw [if_neg (fun h => by obtain ⟨rfl, h1, h2⟩ := h; rw [hfree o h1] at hg; cases hg)]
      exact hg
    have hsame : ∀ b', b' ≠ b → ∀ o, G' b' o = G b' o := fun b' hb' o => by rw [hG']; simp only; rw [if_neg (fun h => hb' h.1)]
    have hcells : ∀ (j : Nat) u, (us ++ news)[j]? = some u → G' b j = some u := by
      intro j u hu
      by_cases h1 : j < us.length
      · rw [List.getElem?_append_left h1] at hu; exact hle _ _ _ (hus0 j u hu)
      · rw [List.getElem?_append_right (by omega)] at hu
        have hl := (List.getElem?_eq_some_iff.1 hu).1
        rw [hG']; simp only
        rw [if_pos ⟨trivial, by omega, by omega⟩, ← husl]; exact hu
    have hrel' : VRel G' (.sl false i.size (xs ++ ys)) (.slice (some ⟨b, 0, none⟩) (xs ++ ys).length cap) :=
      VRel.sl_mk (by omega) (by simp) hall (hboth.mono hle) (by simpa using hcells)
    have hblk : (Res.vec k (some ⟨b, 0, none⟩) cap i.size xs).blk = some b := by simp [Res.blk, ownB, show xs.length < cap by omega]
    refine ⟨some ⟨b, 0, none⟩, cap, G', w.setRow b us1, hr, Inv.swap hi (by simp [World.setRow]) rfl rfl rfl hle (fun b' o u hg => ?_) (fun b' hb' hne' => ?_) ⟨hrel', fun hlt => ?_⟩ (fun b' hb' => ?_)⟩
    · by_cases hbb : b' = b
      · subst hbb
        simp only [World.cell?, hw1]
        show us1[o]? = some u
        rw [hget]
        rw [hG'] at hg; simp only [true_and] at hg
        split at hg
        · rename_i h1
          rw [if_neg (by omega), if_pos h1.2]; exact hg
        · rename_i h1
          have h0 := hi.im _ _ _ hg
          simp only [World.cell?, hb] at h0
          have h0 : us0[o]? = some u := by simpa using h0
          split
          · exact h0
          · split
            · omega
            · exact h0
      · rw [hsame b' hbb] at hg
        have h0 := hi.im _ _ _ hg
        simp only [World.cell?] at h0 ⊢
        rw [setRow_other w b b' us1 hbb]; exact h0
    · have hbb : b' ≠ b := fun e => hne' (by rw [hblk, e])
      exact ⟨setRow_other w b b' us1 hbb, hsame b' hbb⟩
    · refine ⟨b, us1, T, rfl, hw1, by rw [hsz1]; exact hfit, hT, fun j hj => ?_⟩
      rw [hlen, Nat.add_mul] at hj
      rw [hG']; simp only
      rw [if_neg (by omega)]
      exact hfree j (by omega)
    · simp only [Res.blk] at hb'
      split at hb'
      · simp at hb'; subst hb'; exact .inl hblk
      · cases hb'
  · have hfc : (Builtin.firstCells i.size xs.length (.slice a xs.length cap)).run P w.drew = .ok us.toArray w.drew := by
      by_cases hx : xs = []
      · subst hx; simp at husl; subst husl; exact firstCells_zero (y := undef) _ _ _ _
      · obtain ⟨b', o', rfl, hG⟩ := hne hx
        exact run_firstCells_some (P := P) w.drew i.size xs.length ⟨b', o', none⟩ xs.length cap us husl fun j u hu => by
          rw [Addr.add_eq]; exact hi.im _ _ _ (hG j u hu)
    have hby' : (xs.length + ys.length) * i.bytes ≤ 140737488355328 := Nat.le_trans (Nat.mul_le_mul hbig hby) (by decide)
    have hr := run_app_grow (P := P) (ty := ty) ht ht2 hd2 hti hz (hn.lenOf w) hfc (hn.first w.drew hi.im) (by omega) (by omega) (growslice_fits (by omega) hby')
    obtain ⟨nc, hnc⟩ : ∃ nc, nc = grownCap w (xs.length + ys.length) cap e := ⟨_, rfl⟩
    have hge : xs.length + ys.length ≤ nc := by rw [hnc]; exact grownCap_ge _ _ _ _
    rw [← hnc] at hr
    obtain ⟨cells, hcs⟩ : ∃ cells, cells = us.toArray ++ news.toArray ++ Builtin.zeroCells z.cells (nc - (xs.length + ys.length)) := ⟨_, rfl⟩
    rw [← hcs] at hr
    have hcsz : cells.size = nc * i.size := by
      rw [hcs]; simp only [Array.size_append, List.size_toArray, size_zeroCells, hzs, husl, hns, ← Nat.add_mul]
      congr 1; omega
    have hpre : ∀ (j : Nat) u, (us ++ news)[j]? = some u → cells[j]? = some u := by
      intro j u hu
      have hl := (List.getElem?_eq_some_iff.1 hu).1
      rw [hcs, Array.getElem?_append_left (by simp at hl ⊢; omega)]
      rw [← Array.getElem?_toList]
      simpa using hu
    obtain ⟨G', hG'⟩ : ∃ G' : Im, G' = fun b' o => if b' = w.heap.size then (us ++ news)[o]? else G b' o := ⟨_, rfl⟩
    have hle : Im.le G G' := fun b' o u hg => by
      rw [hG']; simp only
      rw [if_neg (by have := hi.G_lt hg; omega)]; exact hg
    have hsame : ∀ b', b' ≠ w.heap.size → ∀ o, G' b' o = G b' o := fun b' hb' o => by rw [hG']; simp only; rw [if_neg hb']
    have hnew : (w.drew.alloc (.cells cells e)).heap[w.heap.size]? = some (.cells cells e (0, 0)) := World.heap_alloc_eq (w := w.drew)
    have hold : ∀ b', b' ≠ w.heap.size → (w.drew.alloc (.cells cells e)).heap[b']? = w.heap[b']? := fun b' hb' => World.heap_alloc_ne (w := w.drew) hb'
    have hrel' : VRel G' (.sl false i.size (xs ++ ys)) (.slice (some ⟨w.heap.size, 0, none⟩) (xs ++ ys).length nc) :=
      VRel.sl_mk (by omega) (by simp) hall (hboth.mono hle) (fun j u hu => by rw [hG']; simp only [if_true, Nat.zero_add]; exact hu)
    refine ⟨some ⟨w.heap.size, 0, none⟩, nc, G', w.drew.alloc (.cells cells e), hr, Inv.swap hi (by simp [World.size_alloc]) rfl rfl rfl hle (fun b' o u hg => ?_) (fun b' hb' _ => ⟨hold b' (by omega), hsame b' (by omega)⟩) ⟨hrel', fun hlt => ?_⟩ (fun b' hb' => ?_)⟩
    · by_cases hbb : b' = w.heap.size
      · subst hbb
        rw [hG'] at hg; simp only [if_true] at hg
        simp only [World.cell?, hnew]
        simpa using hpre o u hg
      · rw [hsame b' hbb] at hg
        have h0 := hi.im _ _ _ hg
        simp only [World.cell?] at h0 ⊢
        rw [hold b' hbb]; exact h0
    · refine ⟨w.heap.size, cells, e, rfl, hnew, by omega, fun hk => ⟨by omega, hke.elim (fun h => absurd hk (by omega)) id⟩, fun j hj => ?_⟩
      rw [hlen, Nat.add_mul] at hj
      rw [hG']; simp only [if_true]
      exact List.getElem?_eq_none (by simp; omega)
    · simp only [Res.blk] at hb'
      split at hb'
      · simp at hb'; exact .inr (by omega)
      · cases hb'

end Go.AW
