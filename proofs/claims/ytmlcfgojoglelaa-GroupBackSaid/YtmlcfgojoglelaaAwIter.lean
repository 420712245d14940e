/- The engine AW, part 19: iterators with what must stay; marks of many ranges over functions. -/
import Derived.Test.YtmlcfgojoglelaaAwBuild
set_option linter.unusedVariables false
set_option linter.unusedSimpArgs false
namespace Go.AW

/-- An iterator's rounds, and what must be so behind each. -/
def AIterJ (P : Program) (l : Nat) (J : List Res → Prop) : List (List V) → List Res → (List Res → Prop) → Prop
  | [], S, Q => Q S
  | x :: xs, S, Q => ARound P l x S fun b S' => J S' ∧ if b = true then AIterJ P l J xs S' Q else Q S'

theorem ARound.post {P : Program} {l : Nat} {args : List V} {S : List Res} {R : Bool → List Res → Prop} (h : ARound P l args S fun b S' => ∃ S'', SLe S' S'' ∧ R b S'') : ARound P l args S R := fun ro G w xs hv hi => by
  obtain ⟨r, h1, h2, h3⟩ := h ro G w xs hv hi
  refine ⟨r, h1, h2, h3.mono fun e w' ⟨b, G', S', h4, h5, h6, S'', hle, hr⟩ => ?_⟩
  obtain ⟨G'', e', i'⟩ := hle G' w' h6
  exact ⟨b, G'', S'', h4, h5.trans e', i', hr⟩

section
variable {ro : Option Nat} {P : Program} {o : Oper} {K : St → Prop} {Q : Exit → St → Prop} {st st' : St}
theorem AOp.le (hle : StLe st st') (h : AOp ro P o K Q st') : AOp ro P o K Q st := fun G w a hr => by
  obtain ⟨G', e, r⟩ := hle G w a hr
  have h1 := h G' w a r
  exact wpIn_mono2 (fun a' w' ⟨G'', st'', he, hr', hk⟩ => ⟨G'', st'', e.trans he, hr', hk⟩) (fun ex a' w' ⟨G'', st'', he, hr', hq⟩ => ⟨G'', st'', e.trans he, hr', hq⟩) h1
end

theorem ACall.pre {P : Program} {f : FuncId} {args : List V} {S S' : List Res} {Q : Out → List Res → Prop} (hle : SLe S S') (h : ACall P f args S' Q) : ACall P f args S Q := fun G w xs hv hi => by
  obtain ⟨G', e, i⟩ := hle G w hi
  exact (h G' w xs (hv.mono e.im) i).mono fun e' w' ⟨G'', S'', o, he, hi', her, hq⟩ => ⟨G'', S'', o, e.trans he, hi', her, hq⟩

@[go_sem] theorem rangeQ_ret {ro : Option Nat} {P : Program} {l : Nat} {n : Nat} {env : List (Nat × V)} {S S2 : List Res} {ds : List Deferred} {Q : Exit → St → Prop} {v : V} : rangeQ ro P l ⟨n, env, S, ds⟩ Q (.ret v) S2 = ∃ L, findLp l S2 = some L ∧ L.st ≠ .busy ∧
      (match L.pend with
       | none => Q .normal ⟨n, env, dropLp l S2, ds⟩
       | some c => AWP ro P c Q ⟨n, env, dropLp l S2, ds⟩) := rfl

section
variable {S S' : List Res} {x y : Nat} {n : Nat} {env : List (Nat × V)} {s s' : LoopState} {p p' : Option Code} {ps : Array Tmp} {as bd : Code} {db : Nat} {cs : List V} {tt : Option TypeId} {k c z : Nat} {a : Option Addr} {xs : List V} {o : Obj} {r : Res}
@[go_sem] theorem findObj_lp : findObj (.lp x n env s p ps as bd db :: S) y = findObj S y := rfl
@[go_sem] theorem setObj_lp : setObj (.lp x n env s p ps as bd db :: S) y cs = .lp x n env s p ps as bd db :: setObj S y cs := rfl
@[go_sem] theorem findVec_lp : findVec (.lp x n env s p ps as bd db :: S) y = findVec S y := rfl
@[go_sem] theorem setVec_lp : setVec (.lp x n env s p ps as bd db :: S) y r = .lp x n env s p ps as bd db :: setVec S y r := rfl
@[go_sem] theorem findTy_lp : findTy (.lp x n env s p ps as bd db :: S) y = findTy S y := rfl
@[go_sem] theorem findLp_lp : findLp y (.lp x n env s p ps as bd db :: S) = if x = y then some ⟨n, env, s, p, ps, as, bd, db⟩ else findLp y S := rfl
@[go_sem] theorem findLp_obj : findLp y (.objT x cs tt :: S) = findLp y S := rfl
@[go_sem] theorem findLp_vec : findLp y (.vec k a c z xs :: S) = findLp y S := rfl
@[go_sem] theorem findLp_raw : findLp y (.raw x o :: S) = findLp y S := rfl
@[go_sem] theorem setLp_lp : setLp y s' p' (.lp x n env s p ps as bd db :: S) = if x = y then .lp x n env s' p' ps as bd db :: S else .lp x n env s p ps as bd db :: setLp y s' p' S := by
  simp only [setLp]
@[go_sem] theorem setLp_obj : setLp y s' p' (.objT x cs tt :: S) = .objT x cs tt :: setLp y s' p' S := rfl
@[go_sem] theorem setLp_vec : setLp y s' p' (.vec k a c z xs :: S) = .vec k a c z xs :: setLp y s' p' S := rfl
@[go_sem] theorem setLp_raw : setLp y s' p' (.raw x o :: S) = .raw x o :: setLp y s' p' S := rfl
@[go_sem] theorem dropLp_lp : dropLp y (.lp x n env s p ps as bd db :: S) = if x = y then S else .lp x n env s p ps as bd db :: dropLp y S := rfl
@[go_sem] theorem dropLp_obj : dropLp y (.objT x cs tt :: S) = .objT x cs tt :: dropLp y S := rfl
@[go_sem] theorem dropLp_vec : dropLp y (.vec k a c z xs :: S) = .vec k a c z xs :: dropLp y S := rfl
@[go_sem] theorem dropLp_raw : dropLp y (.raw x o :: S) = .raw x o :: dropLp y S := rfl
@[go_sem] theorem takeDef_raw : takeDef y (.raw x (.deferred (some [])) :: S) = if x = y then some S else (takeDef y S).map (.raw x (.deferred (some [])) :: ·) := rfl
@[go_sem] theorem takeDef_obj : takeDef y (.objT x cs tt :: S) = (takeDef y S).map (.objT x cs tt :: ·) := rfl
@[go_sem] theorem takeDef_vec : takeDef y (.vec k a c z xs :: S) = (takeDef y S).map (.vec k a c z xs :: ·) := rfl
@[go_sem] theorem takeDef_lp : takeDef y (.lp x n env s p ps as bd db :: S) = (takeDef y S).map (.lp x n env s p ps as bd db :: ·) := rfl
end
section
variable {l : Nat} {R : Bool → List Res → Prop} {st : St} {n : Nat} {env : List (Nat × V)} {S : List Res} {ds : List Deferred}
@[go_sem] theorem roundA_normal : roundA l R .normal ⟨n, env, S, ds⟩ = ∃ L, findLp l S = some L ∧ R true (setLp l .ready none S) := rfl
@[go_sem] theorem roundA_ret : roundA l R .ret ⟨n, env, S, ds⟩ = ∃ L, findLp l S = some L ∧ R false (setLp l .done (some .ret) S) := rfl
@[go_sem] theorem roundA_exit {id : Nat} : roundA l R (.exit id) ⟨n, env, S, ds⟩ = ∃ L, findLp l S = some L ∧ R false (setLp l .done (some (.exit id)) S) := rfl
@[congr] theorem roundA_congr {st' : St} {e e' : Exit} (he : e = e') (h : st = st') : roundA l R e st = roundA l R e' st' := by rw [he, h]
theorem roundA_n {L : Lp} (h : findLp l S = some L) (hr : R true (setLp l .ready none S)) : roundA l R .normal ⟨n, env, S, ds⟩ := ⟨L, h, hr⟩
end

/-- The marks of ranges over functions that are done. -/
def raws (dbs : List Nat) : List Res := dbs.map fun d => .raw d (.deferred (some []))
def marks (dbs : List Nat) : List Deferred := dbs.map fun d => ⟨.collected d, #[]⟩
theorem findObj_raws (S : List Res) (b : Nat) : ∀ dbs, findObj (raws dbs ++ S) b = findObj S b
  | [] => rfl
  | d :: dbs => findObj_raws S b dbs
theorem setObj_raws (S : List Res) (b : Nat) (cs : List V) : ∀ dbs, setObj (raws dbs ++ S) b cs = raws dbs ++ setObj S b cs
  | [] => rfl
  | d :: dbs => congrArg (_ :: ·) (setObj_raws S b cs dbs)
theorem findVec_raws (S : List Res) (b : Nat) : ∀ dbs, findVec (raws dbs ++ S) b = findVec S b
  | [] => rfl
  | d :: dbs => findVec_raws S b dbs
theorem setVec_raws (S : List Res) (b : Nat) (r : Res) : ∀ dbs, setVec (raws dbs ++ S) b r = raws dbs ++ setVec S b r
  | [] => rfl
  | d :: dbs => congrArg (_ :: ·) (setVec_raws S b r dbs)
theorem findTy_raws (S : List Res) (b : Nat) : ∀ dbs, findTy (raws dbs ++ S) b = findTy S b
  | [] => rfl
  | d :: dbs => findTy_raws S b dbs
theorem blks_raws : ∀ dbs, blks (raws dbs) = dbs
  | [] => rfl
  | d :: dbs => congrArg (d :: ·) (blks_raws dbs)
def noRaw : List Res → Bool
  | [] => true
  | .raw .. :: _ => false
  | _ :: S => noRaw S
theorem takeDef_noRaw {d : Nat} {S : List Res} : ∀ A : List Res, noRaw A = true → takeDef d (A ++ .raw d (.deferred (some [])) :: S) = some (A ++ S)
  | [], _ => by simp [takeDef]
  | r :: A, h => by
    cases r with
    | raw => cases h
    | objT => simp only [List.cons_append, takeDef]; rw [takeDef_noRaw A (by simpa [noRaw] using h)]; rfl
    | vec => simp only [List.cons_append, takeDef]; rw [takeDef_noRaw A (by simpa [noRaw] using h)]; rfl
    | lp => simp only [List.cons_append, takeDef]; rw [takeDef_noRaw A (by simpa [noRaw] using h)]; rfl
theorem ALeave_marks {P : Program} {fn : Func} {R : Out → List Res → Prop} {u : FrameMode} {n : Nat} {env : List (Nat × V)} {S : List Res} {ds' : List Deferred} (hu : u ≠ .run) (A : List Res) (hA : noRaw A = true) (h : ALeave P fn R [] u ⟨n, env, A ++ S, ds'⟩) :
    ∀ dbs, ALeave P fn R (marks dbs) u ⟨n, env, A ++ (raws dbs ++ S), ds'⟩
  | [] => h
  | d :: dbs => by
    have e : A ++ (raws (d :: dbs) ++ S) = A ++ .raw d (.deferred (some [])) :: (raws dbs ++ S) := rfl
    rw [e, marks, List.map_cons, ALeave_mark, takeDef_noRaw A hA]
    exact ⟨hu, ALeave_marks hu A hA h dbs⟩

@[go_sem] theorem rng0 : List.range 0 = [] := rfl
@[go_sem] theorem rng1 : List.range 1 = [0] := rfl
@[go_sem] theorem rng2 : List.range 2 = [0, 1] := rfl
@[go_sem] theorem rng3 : List.range 3 = [0, 1, 2] := rfl
@[go_sem] theorem rng4 : List.range 4 = [0, 1, 2, 3] := rfl
@[go_sem] theorem rng5 : List.range 5 = [0, 1, 2, 3, 4] := rfl
@[go_sem] theorem rng6 : List.range 6 = [0, 1, 2, 3, 4, 5] := rfl
@[go_sem] theorem rng7 : List.range 7 = [0, 1, 2, 3, 4, 5, 6] := rfl
@[go_sem] theorem rng8 : List.range 8 = [0, 1, 2, 3, 4, 5, 6, 7] := rfl
@[go_sem] theorem rng9 : List.range 9 = [0, 1, 2, 3, 4, 5, 6, 7, 8] := rfl
@[go_sem] theorem rng12 : List.range 12 = [0, 1, 2, 3, 4, 5, 6, 7, 8, 9, 10, 11] := rfl
@[go_sem] theorem okv_int {k : IntKind} {n : Int} : V.okv (.lit (.int k n)) = true := rfl
@[go_sem] theorem okv_bool {b : Bool} : V.okv (.lit (.bool b)) = true := rfl
@[go_sem] theorem okv_string {s : ByteArray} : V.okv (.lit (.string s)) = true := rfl
@[go_sem] theorem okv_slice {a : Option Addr} {n c : Nat} : V.okv (.lit (.slice a n c)) = true := rfl
@[go_sem] theorem one_int {k : IntKind} {n : Int} : V.one (.lit (.int k n)) = true := rfl
@[go_sem] theorem one_bool {b : Bool} : V.one (.lit (.bool b)) = true := rfl
@[go_sem] theorem one_string {s : ByteArray} : V.one (.lit (.string s)) = true := rfl
@[go_sem] theorem one_slice {a : Option Addr} {n c : Nat} : V.one (.lit (.slice a n c)) = true := rfl
@[go_sem] theorem cells_agg {cs : List V} : V.cells (.agg cs) = cs := rfl
@[go_sem] theorem cells_lit {v : Value} : V.cells (.lit v) = [.lit v] := rfl
@[go_sem] theorem cells_sl {f : Bool} {z : Nat} {xs : List V} : V.cells (.sl f z xs) = [.sl f z xs] := rfl
end Go.AW
