/- The row GroupDoes. -/
import Derived.Test.YtflpfjeghomepaaDoorMI4
import Derived.Test.YtflpfjeghomepaaDoorRows
import Derived.ProofKit
import Derived.Carry
import Derived.Deep.Slices
import Derived.Deep.Fields
import Derived.ChangeSame
import Derived.Below
set_option maxRecDepth 100000
set_option linter.unusedSimpArgs false
set_option linter.unusedVariables false
set_option pp.maxSteps 3000
set_option pp.deepTerms false
namespace Go.Proofs.YtflpfjeghomepaaDoor
open Go Go.AW Go.Proofs
open Go.ChangeShapes Go.WideShapes Go.ChangeAt Go.RowKit Go.Deep

theorem Tryd.own : ownKnob Tryd.prog.godebug = none := by kernel_rfl
theorem Tryd.laidOut : laidOutB Tryd.prog = true := by kernel_rfl

/-- All that stands at the start never changes. -/
def G0 (W : World) : Im := fun b o => W.cell? ⟨b, o, none⟩
theorem inv0 (W : World) : Inv (G0 W) W [] := ⟨fun b o u h => h, fun r hr => by simp at hr, by simp [blks]⟩
theorem below_of_evol {W W' : World} {S' : List Res} {G' : Im} (h : Evol [] (G0 W) W S' G' W') : Below W.heap.size W W' :=
  ⟨h.os, h.tape, h.out, h.size, fun k hk => h.keep k hk (by simp [blks])⟩

theorem calls_of_acall {f : FuncId} {args : List V} {xs : List Value} {W : World} (hv : VRels (G0 W) args xs) (h : ∀ Q : Out → List Res → Prop, Q (.ret (.lit (.bool true))) [] → ACall Tryd.prog f args [] Q) :
    Calls Tryd.prog f xs.toArray W fun e W' => e = .returned (.bool true) ∧ Below W.heap.size W W' :=
  (h (fun o _ => o = .ret (.lit (.bool true))) rfl (G0 W) W xs hv (inv0 W)).mono fun e W' ⟨G', S', o, he, hi, her, hq⟩ => by
    subst hq
    cases her with
    | ret hv => have := hv.lit_inv; subst this; exact ⟨rfl, below_of_evol he⟩

section
variable {H : Type} {enc : TypeId × Value → H} {P : Program}
theorem trodAll_stays (hl : laidOutB P = true) {W W' : World} (hb : Below W.heap.size W W') {sp : Nat → Bool} : ∀ {ts : List TypeId} {vs : List Value} {ds : List (DataW H)} {ps : List MemPlace},
    (∀ t ∈ ts, P.readableRec t = true ∧ t < P.types.size) → DataW.TrodAll enc P W 0 (fun _ => true) true ts vs ds ps → (∀ x ∈ ps, x.block < W.heap.size) → (∀ x ∈ ps, sp x.block = true) → DataW.TrodAll enc P W' 0 sp true ts vs ds ps
  | [], vs, ds, ps, _, h, _, _ => by
    obtain ⟨rfl, rfl, rfl⟩ := trodAll_nil h
    exact trodAll_mk0
  | t :: ts, vs, ds, ps, ht, h, hlt, hsp => by
    obtain ⟨v, vs', d, ds', p, q, rfl, rfl, rfl, hd, hrest⟩ := trodAll_cons h
    obtain ⟨hr, hrow⟩ := ht t (by simp)
    exact ⟨p, q, WideElems.Trod_stays hl hr hrow hd (fun x hx => hb.same (hlt x (by simp [hx]))) (fun x hx => hsp x (by simp [hx])), trodAll_stays hl hb (fun t' h' => ht t' (by simp [h'])) hrest (fun x hx => hlt x (by simp [hx])) (fun x hx => hsp x (by simp [hx])), rfl⟩
end

section
variable {H : Type} {enc : TypeId × Value → H} {P : Program}
theorem law_post {f : Func} {s : ChangeSpec} {apart : Bool} {W W' : World} {args : Array Value} {ds : List (DataW H)} {before : List MemPlace} {tb : TypeId} (hvars : s.vars = []) (hres : f.resultTypes = #[tb]) (htb : P.underlying tb = some .bool)
    (hspec : s.fn H (ds ++ []) = { results := [.lit (.bool true)], args := ds }) (hW : DataW.Whole enc P f.params.toList s.vars apart W args.toList ds [] before) (hl : laidOutB P = true)
    (hts0 : (f.params.toList.all fun t => P.readableRec t && decide (t < P.types.size)) = true) (hb : Below W.heap.size W W') : s.post enc P f apart true false false W args (.bool true) W' := by
  have hts : ∀ t ∈ f.params.toList, P.readableRec t = true ∧ t < P.types.size := fun t ht => by simpa using List.all_eq_true.1 hts0 t ht
  have hlt : ∀ p ∈ before, p.block < W.heap.size := fun p hp => hW.lt p hp
  have hW' := hW
  obtain ⟨p, q, hA, hV, rfl, hfz, hnd⟩ := hW
  rw [hvars] at hV
  obtain ⟨_, rfl⟩ := trodVars_none hV
  refine ⟨ds, [], p ++ [], [], p, [], hW', ?_, ?_, ?_, World.keptBut_mono (fun x hx => ⟨hx, .inr (.inl (by simpa using hx))⟩) (hb.frame (· ∈ p ++ [])), fun h => by cases h⟩
  · rw [hspec, hres]
    exact trodAll_mk1 (shut_bool htb true)
  · rw [hspec]
    exact trodAll_stays hl hb hts hA (fun x hx => hlt x (by simp [hx])) (fun x hx => by simpa using hlt x (by simp [hx]))
  · rw [hvars]
    rw [hspec]
    rfl
end

/-! ### A reading, by content -/
theorem flat_at {sz : Nat} {F : Nat → List Value} {c : Nat → Option Value} : ∀ n, (∀ i, i < n → (F i).length = sz) → (∀ i, i < n → ∀ k, k < sz → (F i)[k]? = c (i * sz + k)) →
    ((List.range n).flatMap F).length = n * sz ∧ ∀ j, j < n * sz → ((List.range n).flatMap F)[j]? = c j
  | 0, _, _ => by simp
  | n + 1, hl, h => by
    obtain ⟨h1, h2⟩ := flat_at n (fun i hi => hl i (by omega)) (fun i hi => h i (by omega))
    rw [List.range_succ, List.flatMap_append]
    have h3 : (F n).length = sz := hl n (by omega)
    refine ⟨by simp [h1, h3, Nat.succ_mul], fun j hj => ?_⟩
    rw [List.getElem?_append]
    split
    · exact h2 j (by omega)
    · simp only [List.flatMap_cons, List.flatMap_nil, List.append_nil]
      have := h n (by omega) (j - n * sz) (by rw [Nat.succ_mul] at hj; omega)
      rw [h1, this]
      congr 1
      omega
theorem rels_range {α : Type} {G : Im} {toV : α → V} {f : Nat → α} {F : Nat → List Value} : ∀ n, (∀ i, i < n → VRels G (toV (f i)).cells (F i)) → VRels G ((((List.range n).map f).map toV).flatMap V.cells) ((List.range n).flatMap F)
  | 0, _ => .nil
  | n + 1, h => by
    rw [List.range_succ, List.map_append, List.map_append, List.flatMap_append, List.flatMap_append]
    exact (rels_range n fun i hi => h i (by omega)).append (by simpa using h n (by omega))

section
variable {H : Type} {enc : TypeId × Value → H} {P : Program} {w : World} {base : Nat} {spare : Nat → Bool} {held : Bool}
theorem slice_rel {α : Type} [Inhabited α] (toV : α → V) (sz : Nat) {t e : TypeId} {fuel : Nat} {cs : List Value} {x : DataW H × List MemPlace} (ht : P.underlying t = some (.slice e)) (hsz : P.cellsOf e = sz) (hpos : 0 < sz)
    (hlen : ∀ a, (toV a).cells.length = sz) (hok : ∀ a, (toV a).okv = true)
    (conv : ∀ n cs' y, DataW.trod enc P w base spare held n e cs' = some y → ∃ a, VRels (G0 w) (toV a).cells cs')
    (h : DataW.trod enc P w base spare held fuel t cs = some x) : ∃ (l : List α) (v : Value), cs = [v] ∧ VRel (G0 w) (.sl false sz (l.map toV)) v ∧ l.length ≤ maxLen := by
  rcases open_slice ht h with ⟨rfl, _⟩ | ⟨a, len, cap, m, n, D, Pl, rfl, hb, hl, hm, rfl, rfl, hx⟩
  · exact ⟨[], _, rfl, .sl (xs := []) 0 0 (fun _ => undef) (fun h => absurd rfl h) (by simp) (by simp) (by simp) (by simp) (by simp) (by simp), by simp⟩
  rw [hsz] at hx
  have hle : len ≤ if spare a.block = true then cap else len := by split <;> omega
  obtain ⟨f, hf⟩ := choose_lt (α := α) (n := len) (p := fun i z => ∃ cs', w.cells? base (a.add (i * sz)) sz = some cs' ∧ VRels (G0 w) (toV z).cells cs') (fun i hi => by
    obtain ⟨cs', h1, h2⟩ := hx i (by omega)
    obtain ⟨z, hz⟩ := conv _ _ _ h2
    exact ⟨z, cs', h1, hz⟩)
  obtain ⟨F, hF⟩ := choose_lt (α := List Value) (n := len) (p := fun i cs' => w.cells? base (a.add (i * sz)) sz = some cs' ∧ VRels (G0 w) (toV (f i)).cells cs') hf
  obtain ⟨hfl, hfg⟩ := flat_at (sz := sz) (F := F) (c := fun j => w.cell? (a.add j)) len (fun i hi => (World.cells?_some (hF i hi).1).2.1) (fun i hi k hk => by
    rw [← (World.cells?_some (hF i hi).1).2.2 k hk, add_add])
  have hrel := rels_range (toV := toV) (f := f) (F := F) len fun i hi => (hF i hi).2
  have hll : ((List.range len).map f).map toV ≠ [] → 0 < len := fun hne => Nat.pos_of_ne_zero fun h0 => hne (by subst h0; rfl)
  have hspot : 0 < len → a = ⟨a.block, a.off, none⟩ := fun hp => by
    have h0 := hfg 0 (Nat.mul_pos hp hpos)
    have : a.add 0 = a := by simp [Addr.add]
    simp only [this] at h0
    rw [List.getElem?_eq_getElem (by rw [hfl]; exact Nat.mul_pos hp hpos)] at h0
    cases a with | mk b o sp => ?_
    cases sp with
    | none => rfl
    | some k => exfalso; simp [World.cell?] at h0; split at h0 <;> simp at h0
  refine ⟨(List.range len).map f, _, rfl, ?_, by simp; omega⟩
  have key := VRel.sl (G := G0 w) (full := false) (sz := sz) (xs := ((List.range len).map f).map toV) (a := some a) (cap := cap) a.block a.off (fun j => (((List.range len).flatMap F)[j]?).getD undef)
    (fun hne => by rw [hspot (hll hne)]) (by simp; exact fun i _ => hlen _) (by simp; exact fun i _ => hok _) (by simpa using hl) (by simp) (fun j hj => by
      rw [hrel.1, hfl] at hj
      have hp : 0 < len := Nat.pos_of_ne_zero fun h0 => by subst h0; rw [Nat.zero_mul] at hj; exact absurd hj (Nat.not_lt_zero _)
      rw [List.getElem?_eq_getElem (by rw [hfl]; exact hj), Option.getD_some]
      have := hfg j hj
      rw [List.getElem?_eq_getElem (by rw [hfl]; exact hj)] at this
      rw [hspot hp, add_plain] at this
      exact this.symm) (fun j c hc => by
      have hj : j < ((List.range len).flatMap F).length := by rw [← hrel.1]; exact (List.getElem?_eq_some_iff.1 hc).1
      rw [List.getElem?_eq_getElem hj, Option.getD_some]
      exact hrel.2 j c _ hc (List.getElem?_eq_getElem hj))
  simpa using key
end
end Go.Proofs.YtflpfjeghomepaaDoor
