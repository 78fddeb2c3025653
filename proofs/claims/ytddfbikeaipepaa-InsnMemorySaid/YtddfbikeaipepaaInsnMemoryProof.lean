/- The Go function of 'Rows.InsnMemorySaid' answers true at every input, for all instructions. No condition. -/
import Derived.Test.YtddfbikeaipepaaRows
import Derived.WalkKit
import Derived.ProofKit
import Derived.OpenShut
import Derived.Below
import Derived.ChangeSame
import Derived.KernelRfl
import Derived.Test.YtddfbikeaipepaaInsnMemoryRun0
import Derived.Test.YtddfbikeaipepaaInsnMemoryRun1
import Derived.Test.YtddfbikeaipepaaInsnMemoryRun2
import Derived.Test.YtddfbikeaipepaaInsnMemoryRun3
import Derived.Test.YtddfbikeaipepaaInsnMemoryRun4
import Derived.Test.YtddfbikeaipepaaInsnMemoryRun5
namespace Go.Proofs.Ytddfbikeaipepaa.insnMemory
open Go.ChangeShapes Go.WideShapes Go.ChangeAt Go.RowKit Go.Sy
theorem own : ownKnob Try.prog.godebug = none := by kernel_rfl
section
variable {H : Type} {enc : TypeId × Value → H} {P : Program}
theorem post_of_below {f : Func} {s : ChangeSpec} {apart fresh handsOn again : Bool} {W W' : World} {args : Array Value} {v : Value} {ds gs : List (DataW H)} {before pa pv : List MemPlace}
    (hW : DataW.Whole enc P f.params.toList s.vars apart W args.toList ds gs before)
    (hres : ∀ (b : Nat) (sp : Nat → Bool) (hd : Bool), DataW.TrodAll enc P W' b sp hd f.resultTypes.toList (v.resultList f.resultTypes.size) (s.fn H (ds ++ gs)).results [])
    (hargs : ∀ sp : Nat → Bool, (∀ p ∈ before, sp p.block = true) → DataW.TrodAll enc P W' 0 sp true f.params.toList args.toList (s.fn H (ds ++ gs)).args pa)
    (hvars : ∀ sp : Nat → Bool, (∀ p ∈ before, sp p.block = true) → DataW.TrodVars enc P W' sp s.vars (s.fn H (ds ++ gs)).vars pv)
    (hps : before = pa ++ pv) (hb : Below W.heap.size W W')
    (hok : ∀ (j : Nat) (t : TypeId) (r : Value), f.resultTypes[j]? = some t → (v.resultList f.resultTypes.size)[j]? = some r → Value.okWide P W' .any 0 t r) :
    s.post enc P f apart fresh handsOn again W args v W' := by
  have hlt : ∀ p ∈ before, p.block < W.heap.size := fun p hp => hW.lt p hp
  have hold : ∀ p ∈ before, (fun b => decide (b < W.heap.size)) p.block = true := fun p hp => by simpa using hlt p hp
  refine ⟨ds, gs, before, [], pa, pv, hW, hres _ _ _, hargs _ hold, hvars _ hold, World.keptBut_mono (fun p hp => ⟨hp, ?_⟩) (hb.frame (· ∈ before)), fun _ => ?_⟩
  · rw [hps, List.mem_append] at hp
    exact Or.inr hp
  · obtain ⟨_, _, _, _, _, hz, hn⟩ := hW
    refine ⟨hok, _, _, ([] ++ pa) ++ pv, ⟨[] ++ pa, pv, trodAll_append (hargs _ (fun _ _ => rfl)) (hres _ _ _), hvars _ (fun _ _ => rfl), rfl, ?_, ?_⟩, ?_⟩
    · intro b off hp
      have hin : MemPlace.cell b off ∈ before := by rw [hps]; simpa using hp
      rw [hb.frozen (hlt _ hin)]
      exact hz b off hin
    · intro ha
      have := hn ha
      rw [hps] at this
      simpa using this
    · intro p hp _
      rw [hps]
      simpa using hp
end

set_option maxRecDepth 100000 in
theorem walk (cs : List Value) (hk : KOk insnK cs) (w : World) :
    Calls Try.prog 9 #[.agg cs.toArray] w fun e w' => e = .returned (.bool true) ∧ Below w.heap.size w w' :=
  match cs, hk with
  | _ :: vs, ⟨⟨op, rfl, hw⟩, hk'⟩ => by
    have hk0 : KOk insnK (.int .i64 op :: vs) := ⟨⟨op, rfl, hw⟩, hk'⟩
    have hop := int_range hw
    have hx0 : ∀ j v, (Value.int .i64 op :: vs)[j]? = some v → ((Value.int .i64 op :: vs).map cellInt).getD (0 + j) 0 = cellInt v := by
      intro j v hj
      have hlt : j < (Value.int .i64 op :: vs).length := (List.getElem?_eq_some_iff.1 hj).1
      simp only [Nat.zero_add, List.getD_eq_getElem?_getD]
      skip
      simp only [List.getElem?_map, hj, Option.map_some, Option.getD_some]
    have hx : ∀ j v, vs[j]? = some v → ((Value.int .i64 op :: vs).map cellInt).getD (0 + 1 + j) 0 = cellInt v := fun j v hj => by
      rw [show 0 + 1 + j = 0 + (j + 1) by omega]; exact hx0 (j + 1) v (by simpa using hj)
    by_cases hlo : op < 1
    · exact law_chk sm2_ok below (envOf ((Value.int .i64 op :: vs).map cellInt)) (F2.ofL (vs := [.agg (Value.int .i64 op :: vs).toArray]) ⟨agg_ok (symK_ok hk0 hx0), trivial⟩) (lt_fact (x := op) rfl hop (by simpa using hlo)) w
    by_cases hhi : op < 54
    · clear hx0 hk0
      obtain rfl | rfl | rfl | rfl | rfl | rfl | rfl | rfl | rfl | rfl | rfl | rfl | rfl | rfl | rfl | rfl | rfl | rfl | rfl | rfl | rfl | rfl | rfl | rfl | rfl | rfl | rfl | rfl | rfl | rfl | rfl | rfl | rfl | rfl | rfl | rfl | rfl | rfl | rfl | rfl | rfl | rfl | rfl | rfl | rfl | rfl | rfl | rfl | rfl | rfl | rfl | rfl | rfl : op = 1 ∨ op = 2 ∨ op = 3 ∨ op = 4 ∨ op = 5 ∨ op = 6 ∨ op = 7 ∨ op = 8 ∨ op = 9 ∨ op = 10 ∨ op = 11 ∨ op = 12 ∨ op = 13 ∨ op = 14 ∨ op = 15 ∨ op = 16 ∨ op = 17 ∨ op = 18 ∨ op = 19 ∨ op = 20 ∨ op = 21 ∨ op = 22 ∨ op = 23 ∨ op = 24 ∨ op = 25 ∨ op = 26 ∨ op = 27 ∨ op = 28 ∨ op = 29 ∨ op = 30 ∨ op = 31 ∨ op = 32 ∨ op = 33 ∨ op = 34 ∨ op = 35 ∨ op = 36 ∨ op = 37 ∨ op = 38 ∨ op = 39 ∨ op = 40 ∨ op = 41 ∨ op = 42 ∨ op = 43 ∨ op = 44 ∨ op = 45 ∨ op = 46 ∨ op = 47 ∨ op = 48 ∨ op = 49 ∨ op = 50 ∨ op = 51 ∨ op = 52 ∨ op = 53 := by omega
      · exact law_chk sm2_ok run1 (envOf ((Value.int .i64 1 :: vs).map cellInt)) (F2.ofL (vs := [.agg (Value.int .i64 1 :: vs).toArray]) ⟨agg_ok (symL_ok hk' hx), trivial⟩) (fun _ h => nomatch h) w
      · exact law_chk sm2_ok run2 (envOf ((Value.int .i64 2 :: vs).map cellInt)) (F2.ofL (vs := [.agg (Value.int .i64 2 :: vs).toArray]) ⟨agg_ok (symL_ok hk' hx), trivial⟩) (fun _ h => nomatch h) w
      · exact law_chk sm2_ok run3 (envOf ((Value.int .i64 3 :: vs).map cellInt)) (F2.ofL (vs := [.agg (Value.int .i64 3 :: vs).toArray]) ⟨agg_ok (symL_ok hk' hx), trivial⟩) (fun _ h => nomatch h) w
      · exact law_chk sm2_ok run4 (envOf ((Value.int .i64 4 :: vs).map cellInt)) (F2.ofL (vs := [.agg (Value.int .i64 4 :: vs).toArray]) ⟨agg_ok (symL_ok hk' hx), trivial⟩) (fun _ h => nomatch h) w
      · exact law_chk sm2_ok run5 (envOf ((Value.int .i64 5 :: vs).map cellInt)) (F2.ofL (vs := [.agg (Value.int .i64 5 :: vs).toArray]) ⟨agg_ok (symL_ok hk' hx), trivial⟩) (fun _ h => nomatch h) w
      · exact law_chk sm2_ok run6 (envOf ((Value.int .i64 6 :: vs).map cellInt)) (F2.ofL (vs := [.agg (Value.int .i64 6 :: vs).toArray]) ⟨agg_ok (symL_ok hk' hx), trivial⟩) (fun _ h => nomatch h) w
      · exact law_chk sm2_ok run7 (envOf ((Value.int .i64 7 :: vs).map cellInt)) (F2.ofL (vs := [.agg (Value.int .i64 7 :: vs).toArray]) ⟨agg_ok (symL_ok hk' hx), trivial⟩) (fun _ h => nomatch h) w
      · exact law_chk sm2_ok run8 (envOf ((Value.int .i64 8 :: vs).map cellInt)) (F2.ofL (vs := [.agg (Value.int .i64 8 :: vs).toArray]) ⟨agg_ok (symL_ok hk' hx), trivial⟩) (fun _ h => nomatch h) w
      · exact law_chk sm2_ok run9 (envOf ((Value.int .i64 9 :: vs).map cellInt)) (F2.ofL (vs := [.agg (Value.int .i64 9 :: vs).toArray]) ⟨agg_ok (symL_ok hk' hx), trivial⟩) (fun _ h => nomatch h) w
      · exact law_chk sm2_ok run10 (envOf ((Value.int .i64 10 :: vs).map cellInt)) (F2.ofL (vs := [.agg (Value.int .i64 10 :: vs).toArray]) ⟨agg_ok (symL_ok hk' hx), trivial⟩) (fun _ h => nomatch h) w
      · exact law_chk sm2_ok run11 (envOf ((Value.int .i64 11 :: vs).map cellInt)) (F2.ofL (vs := [.agg (Value.int .i64 11 :: vs).toArray]) ⟨agg_ok (symL_ok hk' hx), trivial⟩) (fun _ h => nomatch h) w
      · exact law_chk sm2_ok run12 (envOf ((Value.int .i64 12 :: vs).map cellInt)) (F2.ofL (vs := [.agg (Value.int .i64 12 :: vs).toArray]) ⟨agg_ok (symL_ok hk' hx), trivial⟩) (fun _ h => nomatch h) w
      · exact law_chk sm2_ok run13 (envOf ((Value.int .i64 13 :: vs).map cellInt)) (F2.ofL (vs := [.agg (Value.int .i64 13 :: vs).toArray]) ⟨agg_ok (symL_ok hk' hx), trivial⟩) (fun _ h => nomatch h) w
      · exact law_chk sm2_ok run14 (envOf ((Value.int .i64 14 :: vs).map cellInt)) (F2.ofL (vs := [.agg (Value.int .i64 14 :: vs).toArray]) ⟨agg_ok (symL_ok hk' hx), trivial⟩) (fun _ h => nomatch h) w
      · exact law_chk sm2_ok run15 (envOf ((Value.int .i64 15 :: vs).map cellInt)) (F2.ofL (vs := [.agg (Value.int .i64 15 :: vs).toArray]) ⟨agg_ok (symL_ok hk' hx), trivial⟩) (fun _ h => nomatch h) w
      · exact law_chk sm2_ok run16 (envOf ((Value.int .i64 16 :: vs).map cellInt)) (F2.ofL (vs := [.agg (Value.int .i64 16 :: vs).toArray]) ⟨agg_ok (symL_ok hk' hx), trivial⟩) (fun _ h => nomatch h) w
      · exact law_chk sm2_ok run17 (envOf ((Value.int .i64 17 :: vs).map cellInt)) (F2.ofL (vs := [.agg (Value.int .i64 17 :: vs).toArray]) ⟨agg_ok (symL_ok hk' hx), trivial⟩) (fun _ h => nomatch h) w
      · exact law_chk sm2_ok run18 (envOf ((Value.int .i64 18 :: vs).map cellInt)) (F2.ofL (vs := [.agg (Value.int .i64 18 :: vs).toArray]) ⟨agg_ok (symL_ok hk' hx), trivial⟩) (fun _ h => nomatch h) w
      · exact law_chk sm2_ok run19 (envOf ((Value.int .i64 19 :: vs).map cellInt)) (F2.ofL (vs := [.agg (Value.int .i64 19 :: vs).toArray]) ⟨agg_ok (symL_ok hk' hx), trivial⟩) (fun _ h => nomatch h) w
      · exact law_chk sm2_ok run20 (envOf ((Value.int .i64 20 :: vs).map cellInt)) (F2.ofL (vs := [.agg (Value.int .i64 20 :: vs).toArray]) ⟨agg_ok (symL_ok hk' hx), trivial⟩) (fun _ h => nomatch h) w
      · exact law_chk sm2_ok run21 (envOf ((Value.int .i64 21 :: vs).map cellInt)) (F2.ofL (vs := [.agg (Value.int .i64 21 :: vs).toArray]) ⟨agg_ok (symL_ok hk' hx), trivial⟩) (fun _ h => nomatch h) w
      · exact law_chk sm2_ok run22 (envOf ((Value.int .i64 22 :: vs).map cellInt)) (F2.ofL (vs := [.agg (Value.int .i64 22 :: vs).toArray]) ⟨agg_ok (symL_ok hk' hx), trivial⟩) (fun _ h => nomatch h) w
      · exact law_chk sm2_ok run23 (envOf ((Value.int .i64 23 :: vs).map cellInt)) (F2.ofL (vs := [.agg (Value.int .i64 23 :: vs).toArray]) ⟨agg_ok (symL_ok hk' hx), trivial⟩) (fun _ h => nomatch h) w
      · exact law_chk sm2_ok run24 (envOf ((Value.int .i64 24 :: vs).map cellInt)) (F2.ofL (vs := [.agg (Value.int .i64 24 :: vs).toArray]) ⟨agg_ok (symL_ok hk' hx), trivial⟩) (fun _ h => nomatch h) w
      · exact law_chk sm2_ok run25 (envOf ((Value.int .i64 25 :: vs).map cellInt)) (F2.ofL (vs := [.agg (Value.int .i64 25 :: vs).toArray]) ⟨agg_ok (symL_ok hk' hx), trivial⟩) (fun _ h => nomatch h) w
      · exact law_chk sm2_ok run26 (envOf ((Value.int .i64 26 :: vs).map cellInt)) (F2.ofL (vs := [.agg (Value.int .i64 26 :: vs).toArray]) ⟨agg_ok (symL_ok hk' hx), trivial⟩) (fun _ h => nomatch h) w
      · exact law_chk sm2_ok run27 (envOf ((Value.int .i64 27 :: vs).map cellInt)) (F2.ofL (vs := [.agg (Value.int .i64 27 :: vs).toArray]) ⟨agg_ok (symL_ok hk' hx), trivial⟩) (fun _ h => nomatch h) w
      · exact law_chk sm2_ok run28 (envOf ((Value.int .i64 28 :: vs).map cellInt)) (F2.ofL (vs := [.agg (Value.int .i64 28 :: vs).toArray]) ⟨agg_ok (symL_ok hk' hx), trivial⟩) (fun _ h => nomatch h) w
      · exact law_chk sm2_ok run29 (envOf ((Value.int .i64 29 :: vs).map cellInt)) (F2.ofL (vs := [.agg (Value.int .i64 29 :: vs).toArray]) ⟨agg_ok (symL_ok hk' hx), trivial⟩) (fun _ h => nomatch h) w
      · exact law_chk sm2_ok run30 (envOf ((Value.int .i64 30 :: vs).map cellInt)) (F2.ofL (vs := [.agg (Value.int .i64 30 :: vs).toArray]) ⟨agg_ok (symL_ok hk' hx), trivial⟩) (fun _ h => nomatch h) w
      · exact law_chk sm2_ok run31 (envOf ((Value.int .i64 31 :: vs).map cellInt)) (F2.ofL (vs := [.agg (Value.int .i64 31 :: vs).toArray]) ⟨agg_ok (symL_ok hk' hx), trivial⟩) (fun _ h => nomatch h) w
      · exact law_chk sm2_ok run32 (envOf ((Value.int .i64 32 :: vs).map cellInt)) (F2.ofL (vs := [.agg (Value.int .i64 32 :: vs).toArray]) ⟨agg_ok (symL_ok hk' hx), trivial⟩) (fun _ h => nomatch h) w
      · exact law_chk sm2_ok run33 (envOf ((Value.int .i64 33 :: vs).map cellInt)) (F2.ofL (vs := [.agg (Value.int .i64 33 :: vs).toArray]) ⟨agg_ok (symL_ok hk' hx), trivial⟩) (fun _ h => nomatch h) w
      · exact law_chk sm2_ok run34 (envOf ((Value.int .i64 34 :: vs).map cellInt)) (F2.ofL (vs := [.agg (Value.int .i64 34 :: vs).toArray]) ⟨agg_ok (symL_ok hk' hx), trivial⟩) (fun _ h => nomatch h) w
      · exact law_chk sm2_ok run35 (envOf ((Value.int .i64 35 :: vs).map cellInt)) (F2.ofL (vs := [.agg (Value.int .i64 35 :: vs).toArray]) ⟨agg_ok (symL_ok hk' hx), trivial⟩) (fun _ h => nomatch h) w
      · exact law_chk sm2_ok run36 (envOf ((Value.int .i64 36 :: vs).map cellInt)) (F2.ofL (vs := [.agg (Value.int .i64 36 :: vs).toArray]) ⟨agg_ok (symL_ok hk' hx), trivial⟩) (fun _ h => nomatch h) w
      · exact law_chk sm2_ok run37 (envOf ((Value.int .i64 37 :: vs).map cellInt)) (F2.ofL (vs := [.agg (Value.int .i64 37 :: vs).toArray]) ⟨agg_ok (symL_ok hk' hx), trivial⟩) (fun _ h => nomatch h) w
      · exact law_chk sm2_ok run38 (envOf ((Value.int .i64 38 :: vs).map cellInt)) (F2.ofL (vs := [.agg (Value.int .i64 38 :: vs).toArray]) ⟨agg_ok (symL_ok hk' hx), trivial⟩) (fun _ h => nomatch h) w
      · exact law_chk sm2_ok run39 (envOf ((Value.int .i64 39 :: vs).map cellInt)) (F2.ofL (vs := [.agg (Value.int .i64 39 :: vs).toArray]) ⟨agg_ok (symL_ok hk' hx), trivial⟩) (fun _ h => nomatch h) w
      · exact law_chk sm2_ok run40 (envOf ((Value.int .i64 40 :: vs).map cellInt)) (F2.ofL (vs := [.agg (Value.int .i64 40 :: vs).toArray]) ⟨agg_ok (symL_ok hk' hx), trivial⟩) (fun _ h => nomatch h) w
      · exact law_chk sm2_ok run41 (envOf ((Value.int .i64 41 :: vs).map cellInt)) (F2.ofL (vs := [.agg (Value.int .i64 41 :: vs).toArray]) ⟨agg_ok (symL_ok hk' hx), trivial⟩) (fun _ h => nomatch h) w
      · exact law_chk sm2_ok run42 (envOf ((Value.int .i64 42 :: vs).map cellInt)) (F2.ofL (vs := [.agg (Value.int .i64 42 :: vs).toArray]) ⟨agg_ok (symL_ok hk' hx), trivial⟩) (fun _ h => nomatch h) w
      · exact law_chk sm2_ok run43 (envOf ((Value.int .i64 43 :: vs).map cellInt)) (F2.ofL (vs := [.agg (Value.int .i64 43 :: vs).toArray]) ⟨agg_ok (symL_ok hk' hx), trivial⟩) (fun _ h => nomatch h) w
      · exact law_chk sm2_ok run44 (envOf ((Value.int .i64 44 :: vs).map cellInt)) (F2.ofL (vs := [.agg (Value.int .i64 44 :: vs).toArray]) ⟨agg_ok (symL_ok hk' hx), trivial⟩) (fun _ h => nomatch h) w
      · exact law_chk sm2_ok run45 (envOf ((Value.int .i64 45 :: vs).map cellInt)) (F2.ofL (vs := [.agg (Value.int .i64 45 :: vs).toArray]) ⟨agg_ok (symL_ok hk' hx), trivial⟩) (fun _ h => nomatch h) w
      · exact law_chk sm2_ok run46 (envOf ((Value.int .i64 46 :: vs).map cellInt)) (F2.ofL (vs := [.agg (Value.int .i64 46 :: vs).toArray]) ⟨agg_ok (symL_ok hk' hx), trivial⟩) (fun _ h => nomatch h) w
      · exact law_chk sm2_ok run47 (envOf ((Value.int .i64 47 :: vs).map cellInt)) (F2.ofL (vs := [.agg (Value.int .i64 47 :: vs).toArray]) ⟨agg_ok (symL_ok hk' hx), trivial⟩) (fun _ h => nomatch h) w
      · exact law_chk sm2_ok run48 (envOf ((Value.int .i64 48 :: vs).map cellInt)) (F2.ofL (vs := [.agg (Value.int .i64 48 :: vs).toArray]) ⟨agg_ok (symL_ok hk' hx), trivial⟩) (fun _ h => nomatch h) w
      · exact law_chk sm2_ok run49 (envOf ((Value.int .i64 49 :: vs).map cellInt)) (F2.ofL (vs := [.agg (Value.int .i64 49 :: vs).toArray]) ⟨agg_ok (symL_ok hk' hx), trivial⟩) (fun _ h => nomatch h) w
      · exact law_chk sm2_ok run50 (envOf ((Value.int .i64 50 :: vs).map cellInt)) (F2.ofL (vs := [.agg (Value.int .i64 50 :: vs).toArray]) ⟨agg_ok (symL_ok hk' hx), trivial⟩) (fun _ h => nomatch h) w
      · exact law_chk sm2_ok run51 (envOf ((Value.int .i64 51 :: vs).map cellInt)) (F2.ofL (vs := [.agg (Value.int .i64 51 :: vs).toArray]) ⟨agg_ok (symL_ok hk' hx), trivial⟩) (fun _ h => nomatch h) w
      · exact law_chk sm2_ok run52 (envOf ((Value.int .i64 52 :: vs).map cellInt)) (F2.ofL (vs := [.agg (Value.int .i64 52 :: vs).toArray]) ⟨agg_ok (symL_ok hk' hx), trivial⟩) (fun _ h => nomatch h) w
      · exact law_chk sm2_ok run53 (envOf ((Value.int .i64 53 :: vs).map cellInt)) (F2.ofL (vs := [.agg (Value.int .i64 53 :: vs).toArray]) ⟨agg_ok (symL_ok hk' hx), trivial⟩) (fun _ h => nomatch h) w
    · exact law_chk sm2_ok above (envOf ((Value.int .i64 op :: vs).map cellInt)) (F2.ofL (vs := [.agg (Value.int .i64 op :: vs).toArray]) ⟨agg_ok (symK_ok hk0 hx0), trivial⟩) (lt_fact (x := op) rfl hop (by simpa using hhi)) w

set_option maxRecDepth 100000 in
theorem lifted (os : Os) (started : os.Started) (H : Type) (enc : TypeId × Value → H) :
    ReturnsInHanded {} Try.checked os 9 .any (Rows.insnMemorySpec.pre6 enc Try.prog Try.f9 Rows.insnMemoryRow.domain false) (Rows.insnMemorySpec.post enc Try.prog Try.f9 false true false false) := by
  refine returnsInHanded_of_change (C := Try.checked) own started (by kernel_rfl) Try.func9
    (ChangeSpec.witness6 (enc := enc) (C := Try.checked) false ⟨#[], #[.agg #[.int .i64 0, .int .i64 0, .int .i64 0, .int .i64 0, .int .u32 0, .int .i64 0, .int .i64 0, .int .u32 0, .int .i64 0, .int .i64 0, .int .u32 0, .int .i64 0, .int .i64 0, .int .u32 0, .bool false, .int .i64 0]], []⟩ 8 (by kernel_rfl) (by kernel_rfl) (by kernel_rfl) (by kernel_rfl)) ?_
  intro W base args ds gs before hval0 hW hcnd _
  have hval : ∀ (j : Nat) t v, Try.f9.params[j]? = some t → args[j]? = some v → Value.okWide Try.prog W .any base t v := hval0
  have hW' := hW
  obtain ⟨p, q, hA0, hV, rfl, hfz, hnd⟩ := hW
  have hA : DataW.TrodAll enc Try.prog W 0 (fun _ => true) true Try.f9.params.toList args.toList ds p := hA0
  rw [Try.params9] at hA hval
  obtain ⟨v0, vs0, d0, ds0, p0, q0, hargs, rfl, rfl, h0, r0⟩ := trodAll_cons hA
  obtain ⟨rfl, rfl, rfl⟩ := trodAll_nil r0
  obtain rfl : args = #[v0] := by cases args; simp_all
  obtain ⟨rfl, rfl⟩ := trodVars_none hV
  obtain ⟨cs, rfl, hk, rfl⟩ := open_flat Try.underlying32 flatInsn (hval 0 32 v0 rfl rfl) h0
  clear hA0 hval0
  simp only [List.append_nil] at hW'
  refine (walk cs hk W).mono fun e W' ⟨he, hg⟩ => ?_
  subst he
  exact ⟨_, rfl, post_of_below (pa := []) (pv := []) hW' (fun _ _ _ => (trodAll_cons_mk (shut_bool Try.underlying4 _) trodAll_mk0)) (fun sp _ => (trodAll_cons_mk (shut_flat flatInsn h0) trodAll_mk0)) (fun _ _ => rfl) rfl
    hg (ok_one (by kernel_rfl) rfl (okWide_bool_mk Try.underlying4 _))⟩

theorem over : Rows.insnMemoryRow.holds Try.pinned (OpenSpec.ofChange Rows.insnMemorySpec) :=
  OpenClaim.holds_of_wide 9 Try.f9 rfl rfl rfl rfl rfl rfl rfl ⟨rfl, rfl, rfl, rfl, rfl⟩ rfl rfl rfl rfl rfl (by kernel_rfl) Try.func9 (by kernel_rfl)
    (of_decide_eq_true (by kernel_rfl)) (by unfold Func.isWrapper; first | (rw [if_pos (by decide +kernel)]; kernel_rfl) | (rw [if_neg (by decide +kernel)]; exact ⟨rfl, rfl⟩))
    (fun os started H enc _ => lifted os started H enc)
theorem proved : Rows.InsnMemorySaid :=
  over
#print axioms proved
end Go.Proofs.Ytddfbikeaipepaa.insnMemory
