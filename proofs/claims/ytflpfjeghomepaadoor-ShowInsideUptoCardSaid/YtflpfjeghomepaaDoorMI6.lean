/- ShowInside, where what is read is of bulk at most 1048576: the row, and the card. -/
import Derived.Test.YtflpfjeghomepaaDoorMI5
import Derived.Test.YtflpfjeghomepaaDoorRows
import Derived.ProofKit
import Derived.Carry
import Derived.Deep.Slices
import Derived.Deep.Fields
import Derived.ChangeSame
import Derived.Below
import Derived.Deep.DeepHandedRow
import Derived.Stop.LaidErr
import Derived.WalkKit
import Derived.OpenShut
import Derived.Test.YtflpfjeghomepaaDoorTie
import Derived.Test.YtflpfjeghomepaaDoorCards
set_option maxRecDepth 100000
set_option linter.unusedSimpArgs false
set_option linter.unusedVariables false
set_option pp.maxSteps 3000
set_option pp.deepTerms false
namespace Go.Proofs.YtflpfjeghomepaaDoor
open Go Go.AW Go.Proofs
open Go.ChangeShapes Go.WideShapes Go.ChangeAt Go.RowKit Go.Deep

/-- All that stands at the start never changes; block g is set apart. -/
def G1 (g : Nat) (W : World) : Im := fun b o => if b = g then none else W.cell? ⟨b, o, none⟩
theorem bulkAll_sum {H : Type} : ∀ ds : List (DataW H), Rows.uptoBulkAll ds = (ds.map Rows.uptoBulk).sum
  | [] => by simp [Rows.uptoBulkAll]
  | d :: ds => by simp only [Rows.uptoBulkAll, List.map_cons, List.sum_cons, bulkAll_sum ds]
theorem sum_le_sum {α : Type} {f g : α → Nat} : ∀ {l : List α}, (∀ x ∈ l, f x ≤ g x) → (l.map f).sum ≤ (l.map g).sum
  | [], _ => by simp
  | x :: l, h => by
    have h1 := h x (by simp)
    have h2 := sum_le_sum (l := l) fun y hy => h y (by simp [hy])
    simp only [List.map_cons, List.sum_cons]; omega
theorem le_sum_mem {l : List Nat} {x : Nat} (h : x ∈ l) : x ≤ l.sum := by
  induction l with
  | nil => simp at h
  | cons y l ih =>
    rcases List.mem_cons.1 h with rfl | h
    · simp
    · have := ih h; simp only [List.sum_cons]; omega

section
variable {H : Type} {enc : TypeId × Value → H} {P : Program} {w : World} {base : Nat} {spare : Nat → Bool} {held : Bool}
/-- A slice, by content, with a measure of its elements; its elements' first cells are none of block g's. -/
theorem slice_relB {α : Type} [Inhabited α] (g : Nat) (hg : ∀ o u, w.cell? ⟨g, o, none⟩ = some u → ∃ z, u = .int .u64 z) (toV : α → V) (μ : α → Nat) (sz : Nat) {t e : TypeId} {fuel : Nat} {cs : List Value} {x : DataW H × List MemPlace} (ht : P.underlying t = some (.slice e)) (hsz : P.cellsOf e = sz) (hpos : 0 < sz)
    (hlen : ∀ a, (toV a).cells.length = sz) (hok : ∀ a, (toV a).okv = true)
    (conv : ∀ n cs' y, Rows.uptoBulk y.1 < Rows.uptoBulk x.1 → DataW.trod enc P w base spare held n e cs' = some y → ∃ a, VRels (G1 g w) (toV a).cells cs' ∧ μ a ≤ Rows.uptoBulk y.1)
    (hfirst : ∀ n cs' y, DataW.trod enc P w base spare held n e cs' = some y → ∀ z, cs'[0]? ≠ some (.int .u64 z))
    (h : DataW.trod enc P w base spare held fuel t cs = some x) : ∃ (l : List α) (v : Value), cs = [v] ∧ VRel (G1 g w) (.sl false sz (l.map toV)) v ∧ (l.map μ).sum + 1 ≤ Rows.uptoBulk x.1 := by
  rcases open_slice ht h with ⟨rfl, rfl⟩ | ⟨a, len, cap, m, n, D, Pl, rfl, hb, hl, hm, rfl, rfl, hx⟩
  · exact ⟨[], _, rfl, .sl (xs := []) 0 0 (fun _ => undef) (fun h => absurd rfl h) (by simp) (by simp) (by simp) (by simp) (by simp) (by simp), by simp [Rows.uptoBulk]⟩
  rw [hsz] at hx
  have hle : len ≤ if spare a.block = true then cap else len := by split <;> omega
  have hbulk : ((List.range len).map fun i => Rows.uptoBulk (D i)).sum + 1 ≤ Rows.uptoBulk (DataW.slice ((List.range len).map D) ((List.range ((if spare a.block = true then cap else len) - len)).map fun j => D (len + j))) := by
    simp only [Rows.uptoBulk, bulkAll_sum, List.map_map]
    have : ((List.range len).map fun i => Rows.uptoBulk (D i)).sum = (List.map (Rows.uptoBulk ∘ D) (List.range len)).sum := rfl
    omega
  have hlt : ∀ i, i < len → Rows.uptoBulk (D i) < Rows.uptoBulk (DataW.slice ((List.range len).map D) ((List.range ((if spare a.block = true then cap else len) - len)).map fun j => D (len + j))) := fun i hi => by
    have := le_sum_mem (l := (List.range len).map fun i => Rows.uptoBulk (D i)) (x := Rows.uptoBulk (D i)) (List.mem_map.2 ⟨i, List.mem_range.2 hi, rfl⟩)
    omega
  obtain ⟨f, hf⟩ := choose_lt (α := α) (n := len) (p := fun i z => ∃ cs', w.cells? base (a.add (i * sz)) sz = some cs' ∧ VRels (G1 g w) (toV z).cells cs' ∧ μ z ≤ Rows.uptoBulk (D i)) (fun i hi => by
    obtain ⟨cs', h1, h2⟩ := hx i (by omega)
    obtain ⟨z, hz, hzm⟩ := conv _ _ _ (hlt i hi) h2
    exact ⟨z, cs', h1, hz, hzm⟩)
  obtain ⟨F, hF⟩ := choose_lt (α := List Value) (n := len) (p := fun i cs' => w.cells? base (a.add (i * sz)) sz = some cs' ∧ VRels (G1 g w) (toV (f i)).cells cs') (fun i hi => by
    obtain ⟨cs', h1, h2, _⟩ := hf i hi; exact ⟨cs', h1, h2⟩)
  obtain ⟨hfl, hfg⟩ := flat_at (sz := sz) (F := F) (c := fun j => w.cell? (a.add j)) len (fun i hi => (World.cells?_some (hF i hi).1).2.1) (fun i hi k hk => by
    rw [← (World.cells?_some (hF i hi).1).2.2 k hk, add_add])
  have hrel := rels_range (toV := toV) (f := f) (F := F) len fun i hi => (hF i hi).2
  have hll : ((List.range len).map f).map toV ≠ [] → 0 < len := fun hne => Nat.pos_of_ne_zero fun h0 => hne (by subst h0; rfl)
  have hspot : 0 < len → a = ⟨a.block, a.off, none⟩ := fun hp => by
    have h0 := hfg 0 (Nat.mul_pos hp hpos)
    have : a.add 0 = a := by simp [Addr.add]
    simp only [this] at h0
    rw [List.getElem?_eq_getElem (by rw [hfl]; exact Nat.mul_pos hp hpos)] at h0
    cases a with | mk b o sp => ?_
    cases sp with
    | none => rfl
    | some k => exfalso; simp [World.cell?] at h0; split at h0 <;> simp at h0
  have hblk : 0 < len → a.block ≠ g := fun hp e => by
    obtain ⟨cs', h1, h2⟩ := hx 0 (by omega)
    obtain ⟨_, hl1, hc1⟩ := World.cells?_some h1
    have h3 := hc1 0 hpos
    have h4 : (a.add (0 * sz)).add 0 = ⟨g, a.off, none⟩ := by rw [hspot hp]; simp [Addr.add, e]
    rw [h4] at h3
    have h5 : 0 < cs'.length := by omega
    rw [List.getElem?_eq_getElem h5] at h3
    obtain ⟨z, hz⟩ := hg _ _ h3
    exact hfirst _ _ _ h2 z (by rw [List.getElem?_eq_getElem h5, hz])
  refine ⟨(List.range len).map f, _, rfl, ?_, ?_⟩
  · have key := VRel.sl (G := G1 g w) (full := false) (sz := sz) (xs := ((List.range len).map f).map toV) (a := some a) (cap := cap) a.block a.off (fun j => (((List.range len).flatMap F)[j]?).getD undef)
      (fun hne => by rw [hspot (hll hne)]) (by simp; exact fun i _ => hlen _) (by simp; exact fun i _ => hok _) (by simpa using hl) (by simp) (fun j hj => by
        rw [hrel.1, hfl] at hj
        have hp : 0 < len := Nat.pos_of_ne_zero fun h0 => by subst h0; rw [Nat.zero_mul] at hj; exact absurd hj (Nat.not_lt_zero _)
        rw [List.getElem?_eq_getElem (by rw [hfl]; exact hj), Option.getD_some]
        have := hfg j hj
        rw [List.getElem?_eq_getElem (by rw [hfl]; exact hj)] at this
        rw [hspot hp, add_plain] at this
        rw [G1, if_neg (hblk hp)]
        exact this.symm) (fun j c hc => by
        have hj : j < ((List.range len).flatMap F).length := by rw [← hrel.1]; exact (List.getElem?_eq_some_iff.1 hc).1
        rw [List.getElem?_eq_getElem hj, Option.getD_some]
        exact hrel.2 j c _ hc (List.getElem?_eq_getElem hj))
    simpa using key
  · have h1 : (((List.range len).map f).map μ).sum ≤ ((List.range len).map fun i => Rows.uptoBulk (D i)).sum := by
      rw [List.map_map]
      exact sum_le_sum fun i hi => (hf i (List.mem_range.1 hi)).elim fun _ h => h.2.2
    exact Nat.le_trans (Nat.succ_le_succ h1) hbulk
end
end Go.Proofs.YtflpfjeghomepaaDoor
/- Noads, read from memory. -/
set_option maxRecDepth 100000
set_option linter.unusedSimpArgs false
set_option linter.unusedVariables false
set_option pp.maxSteps 3000
set_option pp.deepTerms false
namespace Go.Proofs.YtflpfjeghomepaaDoor
open Go Go.AW Go.Proofs
open Go.ChangeShapes Go.WideShapes Go.ChangeAt Go.RowKit Go.Deep

instance : Inhabited Nd := ⟨⟨0, 0, 0, 0, 0, [], [], false, false, [], []⟩⟩
theorem sizeL_sum : ∀ l : List Nd, (l.map Nd.size).sum = sizeL l
  | [] => rfl
  | x :: l => by simp only [List.map_cons, List.sum_cons, sizeL, sizeL_sum l]
theorem sizeP_sum : ∀ l : List (List Nd), (l.map fun p => sizeL p + 1).sum = sizeP l
  | [] => rfl
  | p :: l => by simp only [List.map_cons, List.sum_cons, sizeP, sizeP_sum l]; omega
theorem ones_sum {α : Type} : ∀ l : List α, (l.map fun _ => 1).sum = l.length
  | [] => rfl
  | p :: l => by simp only [List.map_cons, List.sum_cons, List.length_cons, ones_sum l]; omega

section
variable {H : Type} {enc : TypeId × Value → H} {w : World} {base : Nat} {spare : Nat → Bool} {held : Bool}
theorem trod_boolV {n : Nat} {cs : List Value} {x : DataW H × List MemPlace} (h : DataW.trod enc Tryd.prog w base spare held n 4 cs = some x) : ∃ b, cs = [.bool b] := by
  cases n with
  | zero => simp [DataW.trod] at h
  | succ n =>
    unfold DataW.trod at h
    rw [Tryd.underlying4] at h
    split at h <;> simp_all
theorem trod_first22 {n : Nat} {cs : List Value} {x : DataW H × List MemPlace} (h : DataW.trod enc Tryd.prog w base spare held n 22 cs = some x) (z : Int) : cs[0]? ≠ some (.int .u64 z) := by
  rcases open_slice Tryd.underlying22 h with ⟨rfl, _⟩ | ⟨a, len, cap, m, k, D, Pl, rfl, _⟩
  · simp
  · simp
theorem trod_first33 {n : Nat} {cs : List Value} {x : DataW H × List MemPlace} (h : DataW.trod enc Tryd.prog w base spare held n 33 cs = some x) (z : Int) : cs[0]? ≠ some (.int .u64 z) := by
  obtain ⟨xs, k, rfl, _, hl, hn, hf⟩ := DataW.trod_struct Tryd.underlying33 h
  have h0 := hf 0 _ rfl
  have hl : cs.length = 11 := hl
  have hn : xs.length = 11 := hn
  rw [List.getElem?_eq_getElem (by omega)] at h0
  obtain ⟨v, e0, _⟩ := DataW.trod_int Tryd.underlying3 h0
  match cs, hl with
  | c :: cs, _ =>
    have e1 : [c] = [Value.int .i64 v] := e0
    simp at e1
    simp [e1]
theorem trod_first3 {n : Nat} {cs : List Value} {x : DataW H × List MemPlace} (h : DataW.trod enc Tryd.prog w base spare held n 3 cs = some x) (z : Int) : cs[0]? ≠ some (.int .u64 z) := by
  obtain ⟨v, e0, _⟩ := DataW.trod_int Tryd.underlying3 h
  rw [e0]; simp

variable (g : Nat) (hg : ∀ o u, w.cell? ⟨g, o, none⟩ = some u → ∃ z, u = .int .u64 z)
def NdOK (enc : TypeId × Value → H) (w : World) (base : Nat) (spare : Nat → Bool) (held : Bool) (g B : Nat) : Prop := ∀ (n : Nat) (cs : List Value) (y : DataW H × List MemPlace), Rows.uptoBulk y.1 < B → DataW.trod enc Tryd.prog w base spare held n 33 cs = some y → ∃ a : Nd, VRels (G1 g w) a.v.cells cs ∧ a.size ≤ Rows.uptoBulk y.1
include hg
theorem nds_of {B : Nat} (h : NdOK enc w base spare held g B) {n : Nat} {cs : List Value} {x : DataW H × List MemPlace} (hb : Rows.uptoBulk x.1 ≤ B) (ht : DataW.trod enc Tryd.prog w base spare held n 22 cs = some x) :
    ∃ (l : List Nd) (v : Value), cs = [v] ∧ VRel (G1 g w) (.sl false 11 (l.map Nd.v)) v ∧ sizeL l + 1 ≤ Rows.uptoBulk x.1 := by
  obtain ⟨l, v, h1, h2, h3⟩ := slice_relB g hg Nd.v Nd.size 11 Tryd.underlying22 (by kernel_rfl) (by omega) nd_cells nd_okv (fun n cs' y hlt h' => h n cs' y (by omega) h') (fun n cs' y h' z => trod_first33 h' z) ht
  exact ⟨l, v, h1, h2, by rw [← sizeL_sum]; exact h3⟩
theorem parts_of {B : Nat} (h : NdOK enc w base spare held g B) {n : Nat} {cs : List Value} {x : DataW H × List MemPlace} (hb : Rows.uptoBulk x.1 ≤ B) (ht : DataW.trod enc Tryd.prog w base spare held n 30 cs = some x) :
    ∃ (l : List (List Nd)) (v : Value), cs = [v] ∧ VRel (G1 g w) (.sl false 1 (l.map partV)) v ∧ sizeP l + 1 ≤ Rows.uptoBulk x.1 := by
  obtain ⟨l, v, h1, h2, h3⟩ := slice_relB g hg partV (fun p => sizeL p + 1) 1 Tryd.underlying30 (by kernel_rfl) (by omega) (fun _ => rfl) (fun _ => rfl) (fun n cs' y hlt h' => by
    obtain ⟨l, v, rfl, h2, h3⟩ := nds_of g hg h (by omega) h'
    exact ⟨l, .cons h2 .nil, h3⟩) (fun n cs' y h' z => trod_first22 h' z) ht
  exact ⟨l, v, h1, h2, by rw [← sizeP_sum]; exact h3⟩
theorem runes_of {n : Nat} {cs : List Value} {x : DataW H × List MemPlace} (ht : DataW.trod enc Tryd.prog w base spare held n 31 cs = some x) :
    ∃ (l : List Int) (v : Value), cs = [v] ∧ VRel (G1 g w) (.sl false 1 (l.map iV)) v ∧ l.length + 1 ≤ Rows.uptoBulk x.1 := by
  obtain ⟨l, v, h1, h2, h3⟩ := slice_relB g hg iV (fun _ => 1) 1 Tryd.underlying31 (by kernel_rfl) (by omega) (fun _ => rfl) (fun _ => rfl) (fun n cs' y hlt h' => by
    obtain ⟨v, e0, e1, _⟩ := DataW.trod_int Tryd.underlying3 h'
    refine ⟨v, by rw [e0]; exact .cons (.lit _) .nil, ?_⟩
    rw [e1]; simp [Rows.uptoBulk]) (fun n cs' y h' z => trod_first3 h' z) ht
  exact ⟨l, v, h1, h2, by rw [ones_sum] at h3; exact h3⟩
set_option maxHeartbeats 1000000 in
theorem nd_ok : ∀ B, NdOK enc w base spare held g B := by
  intro B
  induction B with
  | zero => intro n cs y h; omega
  | succ B ih =>
    intro n cs y hb ht
    obtain ⟨xs, k, rfl, rfl, hl, hn, hf⟩ := DataW.trod_struct Tryd.underlying33 ht
    have hl : cs.length = 11 := hl
    have hn : xs.length = 11 := hn
    match cs, hl, xs, hn with
    | [c0, c1, c2, c3, c4, c5, c6, c7, c8, c9, c10], _, [x0, x1, x2, x3, x4, x5, x6, x7, x8, x9, x10], _ =>
      have h0 := hf 0 _ rfl
      have h1 := hf 1 _ rfl
      have h2 := hf 2 _ rfl
      have h3 := hf 3 _ rfl
      have h4 := hf 4 _ rfl
      have h5 := hf 5 _ rfl
      have h6 := hf 6 _ rfl
      have h7 := hf 7 _ rfl
      have h8 := hf 8 _ rfl
      have h9 := hf 9 _ rfl
      have h10 := hf 10 _ rfl
      simp only [List.map_cons, List.map_nil, Rows.uptoBulk, Rows.uptoBulkAll] at hb ⊢
      obtain ⟨n0, e0, _⟩ := DataW.trod_int Tryd.underlying3 h0
      obtain ⟨n1, e1, _⟩ := DataW.trod_int Tryd.underlying3 h1
      obtain ⟨n2, e2, _⟩ := DataW.trod_int Tryd.underlying3 h2
      obtain ⟨n3, e3, _⟩ := DataW.trod_int Tryd.underlying3 h3
      obtain ⟨n4, e4, _⟩ := DataW.trod_int Tryd.underlying3 h4
      obtain ⟨b7, e7⟩ := trod_boolV h7
      obtain ⟨b8, e8⟩ := trod_boolV h8
      obtain ⟨ps, v5, e5, r5, s5⟩ := parts_of g hg ih (x := x5) (by omega) h5
      obtain ⟨rs, v6, e6, r6, s6⟩ := runes_of g hg (x := x6) h6
      obtain ⟨us, v9, e9, r9, s9⟩ := nds_of g hg ih (x := x9) (by omega) h9
      obtain ⟨ss, v10, e10, r10, s10⟩ := nds_of g hg ih (x := x10) (by omega) h10
      obtain rfl : c0 = .int .i64 n0 := List.singleton_inj.1 (show [c0] = [Value.int .i64 n0] from e0)
      obtain rfl : c1 = .int .i64 n1 := List.singleton_inj.1 (show [c1] = [Value.int .i64 n1] from e1)
      obtain rfl : c2 = .int .i64 n2 := List.singleton_inj.1 (show [c2] = [Value.int .i64 n2] from e2)
      obtain rfl : c3 = .int .i64 n3 := List.singleton_inj.1 (show [c3] = [Value.int .i64 n3] from e3)
      obtain rfl : c4 = .int .i64 n4 := List.singleton_inj.1 (show [c4] = [Value.int .i64 n4] from e4)
      obtain rfl : c5 = v5 := List.singleton_inj.1 (show [c5] = [v5] from e5)
      obtain rfl : c6 = v6 := List.singleton_inj.1 (show [c6] = [v6] from e6)
      obtain rfl : c7 = .bool b7 := List.singleton_inj.1 (show [c7] = [Value.bool b7] from e7)
      obtain rfl : c8 = .bool b8 := List.singleton_inj.1 (show [c8] = [Value.bool b8] from e8)
      obtain rfl : c9 = v9 := List.singleton_inj.1 (show [c9] = [v9] from e9)
      obtain rfl : c10 = v10 := List.singleton_inj.1 (show [c10] = [v10] from e10)
      refine ⟨⟨n0, n1, n2, n3, n4, ps, rs, b7, b8, us, ss⟩, ?_, ?_⟩
      · rw [Nd.v_eq]
        exact .cons (.lit _) (.cons (.lit _) (.cons (.lit _) (.cons (.lit _) (.cons (.lit _) (.cons r5 (.cons r6 (.cons (.lit _) (.cons (.lit _) (.cons r9 (.cons r10 .nil))))))))))
      · rw [Nd.size_eq]
        simp only
        omega
theorem open_nds {v : Value} {d : DataW H} {ps : List MemPlace} {r : Reach} {b0 : Nat} (hval : Value.okWide Tryd.prog w r b0 22 v) (h : DataW.Trod enc Tryd.prog w base spare held 22 v d ps) : ∃ l : List Nd, VRel (G1 g w) (.sl false 11 (l.map Nd.v)) v ∧ sizeL l + 1 ≤ Rows.uptoBulk d := by
  obtain ⟨fuel, hf⟩ := h
  obtain ⟨l, v', hc, hv, hl⟩ := nds_of g hg (nd_ok g hg _) (Nat.le_refl _) hf
  refine ⟨l, ?_, hl⟩
  obtain ⟨a, n, c, rfl⟩ := okWide_slice Tryd.underlying22 hval
  simp [Value.cells] at hc
  subst hc
  exact hv
end
end Go.Proofs.YtflpfjeghomepaaDoor
/- The rows of layer 21: what stands at the start, and the statements. -/
set_option maxRecDepth 100000
set_option linter.unusedSimpArgs false
set_option linter.unusedVariables false
set_option pp.maxSteps 3000
set_option pp.deepTerms false
namespace Go.Proofs.YtflpfjeghomepaaDoor
open Go Go.AW Go.Proofs
open Go.ChangeShapes Go.WideShapes Go.ChangeAt Go.RowKit Go.Deep

/-- Block g holds these numbers. -/
def TabAt (W : World) (g : Nat) (k : IntKind) (zs : List Int) : Prop := ∃ T z, W.heap[g]? = some (.cells (zs.map fun n => Value.int k n).toArray T z)
theorem tabAt_of {P : Program} {W : World} {name : String} {k : IntKind} {zs : List Int} {g : Nat} (hg : P.globalNamed name = some g) (h : Lib.TabIs P W name k zs) : TabAt W g k zs := by
  unfold Lib.TabIs World.var? at h
  rw [hg] at h
  simp only [Option.bind_some] at h
  split at h
  · rename_i cs T z hh
    exact ⟨T, z, by rw [hh]; simp at h; rw [h]⟩
  · cases h
theorem TabAt.cell {W : World} {g : Nat} {k : IntKind} {zs : List Int} (h : TabAt W g k zs) (i : Nat) : W.cell? ⟨g, i, none⟩ = (zs[i]?).map fun n => Value.int k n := by
  obtain ⟨T, z, h⟩ := h
  simp [World.cell?, h]
abbrev g10 : Nat := 0
abbrev g64 : Nat := 3
def S0 (o : Obj) : List Res := [.raw g10 o, .vec 90001 (some ⟨g64, 0, none⟩) 64 1 (tabV db64)]
theorem blks0 (o : Obj) : blks (S0 o) = [g10] := by
  have h : (tabV db64).length = 64 := by decide
  simp [blks, S0, Res.blk, ownB, h]
theorem inv1 {W : World} (h10 : TabAt W g10 .u64 Lib.pow10Tab) (h64 : TabAt W g64 .u8 db64) : ∃ o, Inv (G1 g10 W) W (S0 o) ∧ Tab64 (S0 o) ∧ Tab10 (S0 o) ∧ W.heap[g10]? = some o := by
  have hc := h64.cell
  obtain ⟨T, z, h10⟩ := h10
  refine ⟨_, ⟨fun b o u hh => ?_, fun r hr => ?_, by show (blks (S0 _)).Nodup; rw [blks0]; simp⟩, rfl, ⟨T, z, rfl⟩, h10⟩
  · unfold G1 at hh
    split at hh
    · cases hh
    · exact hh
  · simp only [S0, List.mem_cons, List.not_mem_nil, or_false] at hr
    rcases hr with rfl | rfl
    · exact ⟨h10, rfl, fun i => by simp [G1]⟩
    · refine ⟨?_, fun hh => by cases hh⟩
      have hone : ∀ x ∈ tabV db64, x.cells = [x] := by
        intro x hx
        obtain ⟨n, _, rfl⟩ := List.mem_map.1 hx; rfl
      have hfl : (tabV db64).flatMap V.cells = tabV db64 := flat_ones hone
      refine .sl (xs := tabV db64) g64 0 (fun i => .int .u8 (db64.getD i 0)) (fun _ => rfl) (fun x hx => by rw [hone x hx]; rfl) (fun x hx => by
        obtain ⟨n, _, rfl⟩ := List.mem_map.1 hx; rfl) (by decide) (by simp) (fun i hi => ?_) (fun i c hcc => ?_)
      · rw [hfl] at hi
        have hi' : i < db64.length := by simpa [tabV] using hi
        rw [Nat.zero_add, G1, if_neg (by decide), hc i, List.getElem?_eq_getElem hi']
        simp [List.getD, hi']
      · rw [hfl] at hcc
        simp only [tabV, List.getElem?_map, Option.map_eq_some_iff] at hcc
        obtain ⟨n, hn, rfl⟩ := hcc
        have : db64.getD i 0 = n := by simp [List.getD, hn]
        rw [this]; exact .lit _
theorem calls1 {f : FuncId} {args : List V} {xs : List Value} {W : World} (h10 : TabAt W g10 .u64 Lib.pow10Tab) (h64 : TabAt W g64 .u8 db64) (hv : VRels (G1 g10 W) args xs)
    (h : ∀ S, Tab64 S → Tab10 S → ∀ Q : Out → List Res → Prop, Q (.ret (.lit (.bool true))) S → ACall Tryd.prog f args S Q) :
    Calls Tryd.prog f xs.toArray W fun e W' => e = .returned (.bool true) ∧ Below W.heap.size W W' := by
  obtain ⟨o, hi, ht, ht', ho⟩ := inv1 h10 h64
  refine (h (S0 o) ht ht' (fun r S' => r = .ret (.lit (.bool true)) ∧ S' = S0 o) ⟨rfl, rfl⟩ (G1 g10 W) W xs hv hi).mono fun e W' ⟨G', S', r, he, hi', her, hr, hS⟩ => ?_
  subst hr hS
  cases her with
  | ret hv =>
    have := hv.lit_inv; subst this
    refine ⟨rfl, he.os, he.tape, he.out, he.size, fun k hk => ?_⟩
    by_cases hg : k = g10
    · subst hg
      have := (hi'.res (.raw g10 o) (by simp [S0])).1
      rw [this, ho]
    · exact he.keep k hk (by
        intro hm
        rw [blks0] at hm; simp at hm; exact hg hm)
end Go.Proofs.YtflpfjeghomepaaDoor
/- ShowJoins, ShowInside, where what is read is of bulk at most 1048576: the rows, and the cards. -/
set_option maxRecDepth 100000
set_option linter.unusedSimpArgs false
set_option linter.unusedVariables false
set_option pp.maxSteps 3000
set_option pp.deepTerms false
namespace Go.Proofs.YtflpfjeghomepaaDoor
open Go Go.AW Go.Proofs
open Go.ChangeShapes Go.WideShapes Go.ChangeAt Go.RowKit Go.Deep Go.ChangeMaps

theorem tab10_at {W : World} (h : laidMetH Tryd.prog Rows.showJoinsRow.laid W) : TabAt W g10 .u64 Lib.pow10Tab :=
  tabAt_of (by kernel_rfl) (Lib.tabIs_of_head (g := g10) (t := 96) (e := 87) (n := 20) (by kernel_rfl) (by kernel_rfl) Tryd.underlying96 Tryd.underlying87 (by kernel_rfl) (by kernel_rfl)
    (laidMet.tail (laidMet.tail (show laidMet Tryd.prog Rows.showJoinsRow.laid W from h))))
theorem tab64_at {W : World} (h : laidMetH Tryd.prog Rows.showJoinsRow.laid W) : TabAt W g64 .u8 db64 :=
  tabAt_of (by kernel_rfl) (Lib.tabIs_of_head (g := g64) (t := 102) (e := 5) (n := 64) (by kernel_rfl) (by kernel_rfl) Tryd.underlying102 Tryd.underlying5 (by kernel_rfl) (by kernel_rfl)
    (laidMet.tail (show laidMet Tryd.prog Rows.showJoinsRow.laid W from h)))
theorem u64_only {W : World} (h : TabAt W g10 .u64 Lib.pow10Tab) : ∀ o u, W.cell? ⟨g10, o, none⟩ = some u → ∃ z, u = .int .u64 z := fun o u hu => by
  rw [h.cell o] at hu
  obtain ⟨n, _, rfl⟩ := Option.map_eq_some_iff.1 hu
  exact ⟨n, rfl⟩

theorem joins_contract (H : Type) (enc : TypeId × Value → H) (W : World) (base : Nat) (args : Array Value) (ds gs : List (DataW H)) (before : List MemPlace)
    (hval : ∀ (j : Nat) t v, Tryd.f3.params[j]? = some t → args[j]? = some v → Value.okWide Tryd.prog W .any base t v)
    (hW : DataW.Whole enc Tryd.prog Tryd.f3.params.toList Rows.showJoinsSpec.vars false W args.toList ds gs before) (hL : laidMetH Tryd.prog Rows.showJoinsRow.laid W) (hB : Rows.uptoBulkAll (ds ++ gs) ≤ 1048576) :
    Calls Tryd.prog 3 args W fun e W' => ∃ v, e = .returned v ∧ Rows.showJoinsSpec.post enc Tryd.prog Tryd.f3 false true false false W args v W' := by
  have h10 := tab10_at hL
  have h64 := tab64_at hL
  have hu := u64_only h10
  have hW' := hW
  obtain ⟨p, q, hA0, hV, rfl, hfz, hnd⟩ := hW
  have hA : DataW.TrodAll enc Tryd.prog W 0 (fun _ => true) true Tryd.f3.params.toList args.toList ds p := hA0
  rw [Tryd.params3] at hA hval
  obtain ⟨v0, vs0, d0, ds0, p0, q0, hargs, rfl, rfl, h0, r0⟩ := trodAll_cons hA
  obtain ⟨v1, vs1, d1, ds1, p1, q1, rfl, rfl, rfl, h1, r1⟩ := trodAll_cons r0
  obtain ⟨rfl, rfl, rfl⟩ := trodAll_nil r1
  obtain rfl : args = #[v0, v1] := by cases args; simp_all
  obtain ⟨rfl, rfl⟩ := trodVars_none hV
  obtain ⟨l, hl, sl⟩ := open_nds g10 hu (hval 0 _ v0 rfl rfl) h0
  obtain ⟨m, hm, sm⟩ := open_nds g10 hu (hval 1 _ v1 rfl rfl) h1
  clear hA0
  simp only [List.cons_append, List.nil_append, List.append_nil, Rows.uptoBulkAll] at hB
  refine (calls1 h10 h64 (.cons hl (.cons hm .nil)) fun S t1 t2 Q h => joins_spec false false l m (by omega) (by omega) S t1 t2 Q h).mono fun e W' ⟨he, hw⟩ => ?_
  subst he
  exact ⟨_, rfl, law_post (tb := 4) rfl rfl Tryd.underlying4 rfl hW' Tryd.laidOut (by kernel_rfl) hw⟩

def setTab (cs : Array Value) : Obj → Obj
  | .cells _ t frozen => .cells cs t frozen
  | o => o
/-- A world for the witness: the settled one, the tables holding what their initialisers lay. -/
noncomputable def laidWorld (os : Os) : World :=
  { World.holding Tryd.prog os ⟨#[], #[], []⟩ with heap := (((World.holding Tryd.prog os ⟨#[], #[], []⟩).heap.modify g10 (setTab (Lib.pow10Tab.map fun n => Value.int .u64 n).toArray)).modify g64 (setTab (db64.map fun n => Value.int .u8 n).toArray)).modify 2 (setTab (([0, 1, 28, 2, 29, 14, 24, 3, 30, 22, 20, 15, 25, 17, 4, 8, 31, 27, 13, 23, 21, 19, 16, 7, 26, 12, 18, 6, 11, 5, 10, 9] : List Int).map fun n => Value.int .u8 n).toArray) }
theorem joins_met (os : Os) : laidMet Tryd.prog Rows.showJoinsUptoRow.laid ((laidWorld os).forCall (fun _ _ => 0) ⟨#[], #[.slice none 0 0, .slice none 0 0], []⟩).memory :=
  laidMet_of_run' 80 (by kernel_rfl) (by kernel_rfl)
theorem joins_reads (os : Os) {H : Type} (enc : TypeId × Value → H) : ∃ places, DataW.whole enc Tryd.prog ((laidWorld os).forCall (fun _ _ => 0) ⟨#[], #[.slice none 0 0, .slice none 0 0], []⟩).memory Tryd.f3.params.toList Rows.showJoinsSpec.vars false #[Value.slice none 0 0, Value.slice none 0 0].toList 8 = some ([.nil, .nil], [], places) :=
  ⟨[], by kernel_rfl⟩

set_option maxRecDepth 100000 in
theorem joins_lifted (os : Os) (started : os.Started) (H : Type) (enc : TypeId × Value → H) (F : Stop.Interp) :
    ReturnsInHanded {} Tryd.checked os 3 .any ((Rows.OpenSpec.upto Rows.showJoinsSpec).preRow enc Tryd.prog Tryd.f3 Rows.showJoinsUptoRow.domain false Rows.showJoinsUptoRow.laid) (((Rows.OpenSpec.upto Rows.showJoinsSpec).at F).post enc Tryd.prog Tryd.f3 false true false false) := by
  obtain ⟨places, hx⟩ := joins_reads os enc
  refine returnsInHanded_of_row (C := Tryd.checked) (s := Rows.OpenSpec.upto Rows.showJoinsSpec) Tryd.own started (by kernel_rfl) Tryd.func3
    (witness_row_at (enc := enc) (C := Tryd.checked) false (laidWorld os) #[.slice none 0 0, .slice none 0 0] rfl (by kernel_rfl) (by kernel_rfl) (by kernel_rfl)
      (OpenSpec.preRow_of_cond 8 hx (by kernel_rfl) (fun k hk => by cases hk; kernel_rfl) (by kernel_rfl) (joins_met os))) ?_
  intro W base args ds gs before hval hW q1 q2 q3 hL q4 q5
  exact joins_contract H enc W base args ds gs before hval hW hL (of_decide_eq_true (q2 _ rfl))

theorem showJoins_upto : Rows.ShowJoinsUptoSaid :=
  OpenClaim.holds_of_cond 3 Tryd.f3 rfl rfl rfl rfl rfl rfl rfl ⟨rfl, rfl, rfl, rfl, rfl⟩ rfl rfl rfl rfl rfl (by kernel_rfl) Tryd.func3 (by kernel_rfl)
    (of_decide_eq_true (by kernel_rfl)) (by unfold Func.isWrapper; first | (rw [if_pos (by decide +kernel)]; kernel_rfl) | (rw [if_neg (by decide +kernel)]; exact ⟨rfl, rfl⟩))
    (fun os started H enc _ F => by rw [OpenClaim.pre_eq_preRow]; exact joins_lifted os started H enc F)
theorem joins_plain (f : FuncId) (fn : Func) (hf : Tryd.pinned.checked.prog.funcNamed Rows.showJoinsUptoRow.func = some f) (hfn : Tryd.pinned.checked.prog.funcs[f]? = some fn) :
    false = Tryd.pinned.checked.prog.looks [] ∧ ∀ (j : Nat) t, fn.params[j]? = some t → Tryd.pinned.checked.prog.wantsStandIn t = false := by
  obtain rfl : f = 3 := Option.some.inj ((show Tryd.prog.funcNamed Rows.showJoinsUptoRow.func = some 3 by kernel_rfl).symm.trans hf) |>.symm
  obtain rfl : fn = Tryd.f3 := (Option.some.inj (Tryd.func3.symm.trans hfn)).symm
  refine ⟨by kernel_rfl, fun j t ht => ?_⟩
  rw [Tryd.params3] at ht
  obtain rfl : t = 22 := by simpa using Array.mem_of_getElem? ht
  exact (show Tryd.prog.wantsStandIn 22 = false by kernel_rfl)
theorem showJoins_card : Rows.ShowJoinsUptoCardSaid :=
  Claim7.holds_tied_plain_at .later [] _ _ _ _ showJoins_upto (fun _ h => by cases h) (by kernel_rfl) (fun _ h => by cases h) showJoinsUpto_row_tie rfl ⟨rfl, rfl⟩ (by kernel_rfl) rfl joins_plain (by kernel_rfl)
end Go.Proofs.YtflpfjeghomepaaDoor
set_option maxRecDepth 100000
set_option linter.unusedSimpArgs false
set_option linter.unusedVariables false
set_option pp.maxSteps 3000
set_option pp.deepTerms false
namespace Go.Proofs.YtflpfjeghomepaaDoor
open Go Go.AW Go.Proofs
open Go.ChangeShapes Go.WideShapes Go.ChangeAt Go.RowKit Go.Deep Go.ChangeMaps

theorem inside_contract (H : Type) (enc : TypeId × Value → H) (W : World) (base : Nat) (args : Array Value) (ds gs : List (DataW H)) (before : List MemPlace)
    (hval : ∀ (j : Nat) t v, Tryd.f4.params[j]? = some t → args[j]? = some v → Value.okWide Tryd.prog W .any base t v)
    (hW : DataW.Whole enc Tryd.prog Tryd.f4.params.toList Rows.showInsideSpec.vars false W args.toList ds gs before) (hL : laidMetH Tryd.prog Rows.showInsideRow.laid W) (hB : Rows.uptoBulkAll (ds ++ gs) ≤ 1048576) :
    Calls Tryd.prog 4 args W fun e W' => ∃ v, e = .returned v ∧ Rows.showInsideSpec.post enc Tryd.prog Tryd.f4 false true false false W args v W' := by
  have h10 := tab10_at hL
  have h64 := tab64_at hL
  have hu := u64_only h10
  have hW' := hW
  obtain ⟨p, q, hA0, hV, rfl, hfz, hnd⟩ := hW
  have hA : DataW.TrodAll enc Tryd.prog W 0 (fun _ => true) true Tryd.f4.params.toList args.toList ds p := hA0
  rw [Tryd.params4] at hA hval
  obtain ⟨v0, vs0, d0, ds0, p0, q0, hargs, rfl, rfl, h0, r0⟩ := trodAll_cons hA
  obtain ⟨rfl, rfl, rfl⟩ := trodAll_nil r0
  obtain rfl : args = #[v0] := by cases args; simp_all
  obtain ⟨rfl, rfl⟩ := trodVars_none hV
  obtain ⟨l, hl, sl⟩ := open_nds g10 hu (hval 0 _ v0 rfl rfl) h0
  clear hA0
  simp only [List.cons_append, List.nil_append, List.append_nil, Rows.uptoBulkAll] at hB
  refine (calls1 h10 h64 (.cons hl .nil) fun S t1 t2 Q h => inside_spec false l (by omega) S t1 t2 Q h).mono fun e W' ⟨he, hw⟩ => ?_
  subst he
  exact ⟨_, rfl, law_post (tb := 4) rfl rfl Tryd.underlying4 rfl hW' Tryd.laidOut (by kernel_rfl) hw⟩

theorem inside_met (os : Os) : laidMet Tryd.prog Rows.showInsideUptoRow.laid ((laidWorld os).forCall (fun _ _ => 0) ⟨#[], #[.slice none 0 0], []⟩).memory :=
  laidMet_of_run' 80 (by kernel_rfl) (by kernel_rfl)
theorem inside_reads (os : Os) {H : Type} (enc : TypeId × Value → H) : ∃ places, DataW.whole enc Tryd.prog ((laidWorld os).forCall (fun _ _ => 0) ⟨#[], #[.slice none 0 0], []⟩).memory Tryd.f4.params.toList Rows.showInsideSpec.vars false #[Value.slice none 0 0].toList 8 = some ([.nil], [], places) :=
  ⟨[], by kernel_rfl⟩

set_option maxRecDepth 100000 in
theorem inside_lifted (os : Os) (started : os.Started) (H : Type) (enc : TypeId × Value → H) (F : Stop.Interp) :
    ReturnsInHanded {} Tryd.checked os 4 .any ((Rows.OpenSpec.upto Rows.showInsideSpec).preRow enc Tryd.prog Tryd.f4 Rows.showInsideUptoRow.domain false Rows.showInsideUptoRow.laid) (((Rows.OpenSpec.upto Rows.showInsideSpec).at F).post enc Tryd.prog Tryd.f4 false true false false) := by
  obtain ⟨places, hx⟩ := inside_reads os enc
  refine returnsInHanded_of_row (C := Tryd.checked) (s := Rows.OpenSpec.upto Rows.showInsideSpec) Tryd.own started (by kernel_rfl) Tryd.func4
    (witness_row_at (enc := enc) (C := Tryd.checked) false (laidWorld os) #[.slice none 0 0] rfl (by kernel_rfl) (by kernel_rfl) (by kernel_rfl)
      (OpenSpec.preRow_of_cond 8 hx (by kernel_rfl) (fun k hk => by cases hk; kernel_rfl) (by kernel_rfl) (inside_met os))) ?_
  intro W base args ds gs before hval hW q1 q2 q3 hL q4 q5
  exact inside_contract H enc W base args ds gs before hval hW hL (of_decide_eq_true (q2 _ rfl))

theorem showInside_upto : Rows.ShowInsideUptoSaid :=
  OpenClaim.holds_of_cond 4 Tryd.f4 rfl rfl rfl rfl rfl rfl rfl ⟨rfl, rfl, rfl, rfl, rfl⟩ rfl rfl rfl rfl rfl (by kernel_rfl) Tryd.func4 (by kernel_rfl)
    (of_decide_eq_true (by kernel_rfl)) (by unfold Func.isWrapper; first | (rw [if_pos (by decide +kernel)]; kernel_rfl) | (rw [if_neg (by decide +kernel)]; exact ⟨rfl, rfl⟩))
    (fun os started H enc _ F => by rw [OpenClaim.pre_eq_preRow]; exact inside_lifted os started H enc F)
theorem inside_plain (f : FuncId) (fn : Func) (hf : Tryd.pinned.checked.prog.funcNamed Rows.showInsideUptoRow.func = some f) (hfn : Tryd.pinned.checked.prog.funcs[f]? = some fn) :
    false = Tryd.pinned.checked.prog.looks [] ∧ ∀ (j : Nat) t, fn.params[j]? = some t → Tryd.pinned.checked.prog.wantsStandIn t = false := by
  obtain rfl : f = 4 := Option.some.inj ((show Tryd.prog.funcNamed Rows.showInsideUptoRow.func = some 4 by kernel_rfl).symm.trans hf) |>.symm
  obtain rfl : fn = Tryd.f4 := (Option.some.inj (Tryd.func4.symm.trans hfn)).symm
  refine ⟨by kernel_rfl, fun j t ht => ?_⟩
  rw [Tryd.params4] at ht
  obtain rfl : t = 22 := by simpa using Array.mem_of_getElem? ht
  exact (show Tryd.prog.wantsStandIn 22 = false by kernel_rfl)
theorem showInside_card : Rows.ShowInsideUptoCardSaid :=
  Claim7.holds_tied_plain_at .later [] _ _ _ _ showInside_upto (fun _ h => by cases h) (by kernel_rfl) (fun _ h => by cases h) showInsideUpto_row_tie rfl ⟨rfl, rfl⟩ (by kernel_rfl) rfl inside_plain (by kernel_rfl)
end Go.Proofs.YtflpfjeghomepaaDoor
