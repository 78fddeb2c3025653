/- The Go function of 'Rows.EmitExitsSaid' answers true at every input: a branch that is taken ends at one of its exits' places, else at the other; as emitted it ends there, with that place. No condition. -/
import Derived.Test.YtkgdmbnihdakiaaGreatRows
import Derived.WalkKit
import Derived.ProofKit
import Derived.OpenShut
import Derived.Below
import Derived.ChangeSame
import Derived.KernelRfl
import Derived.Test.YtkgdmbnihdakiaaGreatFl
import Derived.Test.YtkgdmbnihdakiaaGreatEeF
import Derived.Test.YtkgdmbnihdakiaaGreatEeE
namespace Go.Proofs.YtkgdmbnihdakiaaGreat.emitExits
open Go.ChangeShapes Go.WideShapes Go.ChangeAt Go.RowKit
set_option maxRecDepth 100000
theorem own : ownKnob Tryz.prog.godebug = none := by kernel_rfl
section
variable {H : Type} {enc : TypeId × Value → H} {P : Program}
theorem post_of_below {f : Func} {s : ChangeSpec} {apart fresh handsOn again : Bool} {W W' : World} {args : Array Value} {v : Value} {ds gs : List (DataW H)} {before pa pv : List MemPlace}
    (hW : DataW.Whole enc P f.params.toList s.vars apart W args.toList ds gs before)
    (hres : ∀ (b : Nat) (sp : Nat → Bool) (hd : Bool), DataW.TrodAll enc P W' b sp hd f.resultTypes.toList (v.resultList f.resultTypes.size) (s.fn H (ds ++ gs)).results [])
    (hargs : ∀ sp : Nat → Bool, (∀ p ∈ before, sp p.block = true) → DataW.TrodAll enc P W' 0 sp true f.params.toList args.toList (s.fn H (ds ++ gs)).args pa)
    (hvars : ∀ sp : Nat → Bool, (∀ p ∈ before, sp p.block = true) → DataW.TrodVars enc P W' sp s.vars (s.fn H (ds ++ gs)).vars pv)
    (hps : before = pa ++ pv) (hb : Below W.heap.size W W')
    (hok : ∀ (j : Nat) (t : TypeId) (r : Value), f.resultTypes[j]? = some t → (v.resultList f.resultTypes.size)[j]? = some r → Value.okWide P W' .any 0 t r) :
    s.post enc P f apart fresh handsOn again W args v W' := by
  have hlt : ∀ p ∈ before, p.block < W.heap.size := fun p hp => hW.lt p hp
  have hold : ∀ p ∈ before, (fun b => decide (b < W.heap.size)) p.block = true := fun p hp => by simpa using hlt p hp
  refine ⟨ds, gs, before, [], pa, pv, hW, hres _ _ _, hargs _ hold, hvars _ hold, World.keptBut_mono (fun p hp => ⟨hp, ?_⟩) (hb.frame (· ∈ before)), fun _ => ?_⟩
  · rw [hps, List.mem_append] at hp
    exact Or.inr hp
  · obtain ⟨_, _, _, _, _, hz, hn⟩ := hW
    refine ⟨hok, _, _, ([] ++ pa) ++ pv, ⟨[] ++ pa, pv, trodAll_append (hargs _ (fun _ _ => rfl)) (hres _ _ _), hvars _ (fun _ _ => rfl), rfl, ?_, ?_⟩, ?_⟩
    · intro b off hp
      have hin : MemPlace.cell b off ∈ before := by rw [hps]; simpa using hp
      rw [hb.frozen (hlt _ hin)]
      exact hz b off hin
    · intro ha
      have := hn ha
      rw [hps] at this
      simpa using this
    · intro p hp _
      rw [hps]
      simpa using hp
end

def stK : List Sy.K := [.i .u32, .i .u32, .i .u32, .i .u32, .i .u32, .i .u32, .i .u32, .i .u32, .i .u32, .b, .b, .b, .b, .b, .b, .b, .i .u64]
theorem flatSt : Sy.flat Tryz.prog 4 75 = some stK := by kernel_rfl
theorem gg0 (E : Sy.Env) (ρ : E3.Pt → E3.Rb) (w : World) : E3.GG E ρ (fun _ => False) w :=
  ⟨fun _ _ _ h => (by rw [show E3.gTab = .e from rfl, E3.Tri.get_e] at h; cases h), fun _ _ _ _ h => h.elim⟩
theorem walk (cs : List Value) (ks : Sy.KOk stK cs) (a b : Int) (wa : (Lit.int .u8 a).wf = true) (wb : (Lit.int .u32 b).wf = true) (w : World) :
    Calls Tryz.prog 10 #[.agg cs.toArray, .int .u8 a, .int .u32 b] w fun e w' => e = .returned (.bool true) ∧ Below w.heap.size w w' := by
  have ln : cs.length = 17 := ks.length.trans (by decide)
  have ra : 0 ≤ a ∧ a ≤ 255 := E3.int_range wa
  have rb : 0 ≤ b ∧ b ≤ 4294967295 := E3.int_range wb
  obtain ⟨l, hl⟩ : ∃ l : List Int, l = cs.map Sy.cellInt ++ [a, b] := ⟨_, rfl⟩
  let E : Sy.Env := ⟨fun i => ⟨l.getD i 0, fun _ => 0⟩, fun _ _ => [], fun _ => .nilIface⟩
  have ha : (E.x 17).n = a := by
    show l.getD 17 0 = a
    rw [hl, List.getD_eq_getElem?_getD, List.getElem?_append_right (by rw [List.length_map]; omega), List.length_map, ln]; rfl
  have hb : (E.x 18).n = b := by
    show l.getD 18 0 = b
    rw [hl, List.getD_eq_getElem?_getD, List.getElem?_append_right (by rw [List.length_map]; omega), List.length_map, ln]; rfl
  have hS : (Sy.symK3 0 stK).map (E3.C.val E fun _ => default) = cs := Sy.symK3_ok _ ks fun j v hj => by
    have hj' := (List.getElem?_eq_some_iff.1 hj).1
    show l.getD (0 + j) 0 = _
    rw [hl, Nat.zero_add, List.getD_eq_getElem?_getD, List.getElem?_append_left (by rw [List.length_map]; exact hj'), List.getElem?_map, hj]; rfl
  obtain ⟨j, hj, ej⟩ := RvC.tmod_cases (m := 16) ra.1 (by decide)
  have hj16 : j < 16 := by omega
  obtain ⟨t, hf, ht⟩ := RvC.flags_ok E hj16
  obtain ⟨q, hq3, hq⟩ := RvC.way_ok (RvC.wrap_w E (.bin .add (.v 8 0 4294967295) (.lit 6)))
  obtain ⟨r0, hr3, hr⟩ := RvC.way_ok (RvC.wrap_w E (.bin .add (.bin .add (.v 8 0 4294967295) (.v 18 0 4294967295)) (.lit 6)))
  have hc : E3.CardOk Tryz.prog 10 (RvC.lawE j t q r0) := RvC.lawsE j t q r0 hj16 hq3 hr3
  have r := (hc.2.2 E (fun _ => default) w (RvC.pcOk_app hr (RvC.pcOk_app hq (RvC.pcOk_app hf (Sy.pcOk_cons.2 ⟨RvC.mT6_ok ha ra ej, RvC.pcN⟩)))) (fun x hx => by
    have hx' : x ∈ [E3.L.a (.agg (Sy.symK3 0 stK)), E3.L.a (.c (.int .u8 (.v 17 0 255))), E3.L.a (.c (.int .u32 (.v 18 0 4294967295)))] := hx
    simp only [List.mem_cons, List.not_mem_nil, or_false] at hx'
    rcases hx' with rfl | rfl | rfl
    · exact Sy.symK3_flat E _ _ stK 0
    · trivial
    · trivial) (gg0 E _ w)).2
  have ea : ((RvC.lawE j t q r0).ps.map (E3.L.val E fun _ => default)).toArray = #[.agg cs.toArray, .int .u8 a, .int .u32 b] := by
    show #[Value.agg ((Sy.symK3 0 stK).map (E3.C.val E fun _ => default)).toArray, Value.int .u8 (Sy.clamp 0 255 (E.x 17).n), Value.int .u32 (Sy.clamp 0 4294967295 (E.x 18).n)] = _
    rw [hS, ha, hb, Sy.clamp_id ra, Sy.clamp_id rb]
  rw [ea] at r
  exact Calls.mono r fun e w' ⟨h1, _, h2⟩ => ⟨h1.trans (congrArg (fun b => Ending.returned (.bool b)) (RvC.resE_ok ht hq hr)), ⟨h2.os, h2.tape, h2.output, h2.size, h2.heap⟩⟩

theorem lifted (os : Os) (started : os.Started) (H : Type) (enc : TypeId × Value → H) :
    ReturnsInHanded {} Tryz.checked os 10 .any (Rows.emitExitsSpec.pre6 enc Tryz.prog Tryz.f10 Rows.emitExitsRow.domain false) (Rows.emitExitsSpec.post enc Tryz.prog Tryz.f10 false true false false) := by
  refine returnsInHanded_of_change (C := Tryz.checked) own started (by as_aux_lemma => kernel_rfl) Tryz.func10
    (ChangeSpec.witness6 (enc := enc) (C := Tryz.checked) false ⟨#[], #[.agg #[.int .u32 0, .int .u32 0, .int .u32 0, .int .u32 0, .int .u32 0, .int .u32 0, .int .u32 0, .int .u32 0, .int .u32 0, .bool false, .bool false, .bool false, .bool false, .bool false, .bool false, .bool false, .int .u64 0],
      .int .u8 0, .int .u32 0], []⟩ 8 (by as_aux_lemma => kernel_rfl) (by as_aux_lemma => kernel_rfl) (by as_aux_lemma => kernel_rfl) (by as_aux_lemma => kernel_rfl)) ?_
  intro W base args ds gs before hval0 hW hcnd _
  have hval : ∀ (j : Nat) t v, Tryz.f10.params[j]? = some t → args[j]? = some v → Value.okWide Tryz.prog W .any base t v := hval0
  have hW' := hW
  obtain ⟨p, q, hA0, hV, rfl, hfz, hnd⟩ := hW
  have hA : DataW.TrodAll enc Tryz.prog W 0 (fun _ => true) true Tryz.f10.params.toList args.toList ds p := hA0
  rw [Tryz.params10] at hA hval
  obtain ⟨v0, vs0, d0, ds0, p0, q0, hargs, rfl, rfl, h0, r0⟩ := trodAll_cons hA
  obtain ⟨v1, vs1, d1, ds1, p1, q1, rfl, rfl, rfl, h1, r1⟩ := trodAll_cons r0
  obtain ⟨v2, vs2, d2, ds2, p2, q2, rfl, rfl, rfl, h2, r2⟩ := trodAll_cons r1
  obtain ⟨rfl, rfl, rfl⟩ := trodAll_nil r2
  obtain rfl : args = #[v0, v1, v2] := by cases args; simp_all
  obtain ⟨rfl, rfl⟩ := trodVars_none hV
  obtain ⟨cs, rfl, hk, rfl⟩ := Sy.open_flat Tryz.underlying75 flatSt (hval 0 75 v0 rfl rfl) h0
  obtain ⟨a, rfl, rfl, rfl, wa⟩ := open_int Tryz.underlying5 (hval 1 5 v1 rfl rfl) h1
  obtain ⟨b, rfl, rfl, rfl, wb⟩ := open_int Tryz.underlying35 (hval 2 35 v2 rfl rfl) h2
  clear hA0 hval0
  simp only [List.append_nil] at hW'
  refine (walk cs hk a b wa wb W).mono fun e W' ⟨he, hg⟩ => ?_
  subst he
  exact ⟨_, rfl, post_of_below (pa := []) (pv := []) hW' (fun _ _ _ => (trodAll_cons_mk (shut_bool Tryz.underlying4 _) trodAll_mk0)) (fun sp _ => (trodAll_cons_mk (Sy.shut_flat flatSt h0) (trodAll_cons_mk (shut_int Tryz.underlying5 wa) (trodAll_cons_mk (shut_int Tryz.underlying35 wb) trodAll_mk0)))) (fun _ _ => rfl) rfl
    hg (ok_one (by as_aux_lemma => kernel_rfl) rfl (okWide_bool_mk Tryz.underlying4 _))⟩

theorem and2 {a b : Bool} (h : a = true) (k : b = true) : (a && b) = true := by rw [h, k]; rfl
theorem j1 : laidOutB Tryz.pinned.checked.prog = true := by kernel_rfl
theorem j2 : (Rows.emitExitsRow.inPlace == Tryz.pinned.checked.prog.inPlace 10) = true := by kernel_rfl
theorem j3 : (Rows.emitExitsRow.unfollowed == Tryz.pinned.checked.prog.unfollowed 10) = true := by kernel_rfl
theorem j4 : (Rows.emitExitsRow.recurses == Tryz.pinned.checked.prog.recurses 10) = true := by kernel_rfl
theorem j5 : (Rows.emitExitsRow.named == Tryz.pinned.checked.prog.varsNamed 10) = true := by kernel_rfl
theorem j6 : Tryz.pinned.checked.prog.stopsHeard = true := by kernel_rfl
theorem j7 : Tryz.pinned.checked.prog.mayEnter = true := by kernel_rfl
theorem j8 : (Rows.emitExitsRow.lifted == Tryz.pinned.checked.prog.liftsFinal) = true := by kernel_rfl
/-- the closed facts of the row, one by one: all at once they need more memory than a text may have -/
theorem joined : joinedFacts Tryz.pinned.checked.prog 10 Tryz.f10 Rows.emitExitsSpec Rows.emitExitsRow = true := by
  unfold joinedFacts
  repeat' with_reducible refine and2 ?_ ?_
  all_goals first
    | with_reducible exact j1
    | with_reducible exact j2
    | with_reducible exact j3
    | with_reducible exact j4
    | with_reducible exact j5
    | with_reducible exact j6
    | with_reducible exact j7
    | with_reducible exact j8
    | (as_aux_lemma => kernel_rfl)
theorem over : Rows.emitExitsRow.holds Tryz.pinned (OpenSpec.ofChange Rows.emitExitsSpec) :=
  OpenClaim.holds_of_wide 10 Tryz.f10 rfl rfl rfl rfl rfl rfl rfl ⟨rfl, rfl, rfl, rfl, rfl⟩ rfl rfl rfl rfl rfl (by as_aux_lemma => kernel_rfl) Tryz.func10 joined
    (of_decide_eq_true (by as_aux_lemma => kernel_rfl)) (by unfold Func.isWrapper; first | (rw [if_pos (by decide +kernel)]; kernel_rfl) | (rw [if_neg (by decide +kernel)]; exact ⟨rfl, rfl⟩))
    (fun os started H enc _ => lifted os started H enc)
theorem proved : Rows.EmitExitsSaid :=
  over
#print axioms proved
end Go.Proofs.YtkgdmbnihdakiaaGreat.emitExits
