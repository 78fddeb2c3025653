/- The Go function of 'Rows.EngineLoopsSaid' answers true at every input: a loop comes to its end whatever the cache, in fewer blocks than turns: what was made once is run again. No condition. -/
import Derived.Test.YtgnfekfikifgiaaGreatRows
import Derived.WalkKit
import Derived.ProofKit
import Derived.OpenShut
import Derived.Below
import Derived.ChangeSame
import Derived.KernelRfl
import Derived.Test.YtgnfekfikifgiaaGreatEoE
import Derived.Test.YtgnfekfikifgiaaGreatEoJ
namespace Go.Proofs.YtgnfekfikifgiaaGreat.engineLoops
open Go.ChangeShapes Go.WideShapes Go.ChangeAt Go.RowKit
set_option maxRecDepth 100000
theorem own : ownKnob Tryz.prog.godebug = none := by kernel_rfl
section
variable {H : Type} {enc : TypeId × Value → H} {P : Program}
theorem post_of_below {f : Func} {s : ChangeSpec} {apart fresh handsOn again : Bool} {W W' : World} {args : Array Value} {v : Value} {ds gs : List (DataW H)} {before pa pv : List MemPlace}
    (hW : DataW.Whole enc P f.params.toList s.vars apart W args.toList ds gs before)
    (hres : ∀ (b : Nat) (sp : Nat → Bool) (hd : Bool), DataW.TrodAll enc P W' b sp hd f.resultTypes.toList (v.resultList f.resultTypes.size) (s.fn H (ds ++ gs)).results [])
    (hargs : ∀ sp : Nat → Bool, (∀ p ∈ before, sp p.block = true) → DataW.TrodAll enc P W' 0 sp true f.params.toList args.toList (s.fn H (ds ++ gs)).args pa)
    (hvars : ∀ sp : Nat → Bool, (∀ p ∈ before, sp p.block = true) → DataW.TrodVars enc P W' sp s.vars (s.fn H (ds ++ gs)).vars pv)
    (hps : before = pa ++ pv) (hb : Below W.heap.size W W')
    (hok : ∀ (j : Nat) (t : TypeId) (r : Value), f.resultTypes[j]? = some t → (v.resultList f.resultTypes.size)[j]? = some r → Value.okWide P W' .any 0 t r) :
    s.post enc P f apart fresh handsOn again W args v W' := by
  have hlt : ∀ p ∈ before, p.block < W.heap.size := fun p hp => hW.lt p hp
  have hold : ∀ p ∈ before, (fun b => decide (b < W.heap.size)) p.block = true := fun p hp => by simpa using hlt p hp
  refine ⟨ds, gs, before, [], pa, pv, hW, hres _ _ _, hargs _ hold, hvars _ hold, World.keptBut_mono (fun p hp => ⟨hp, ?_⟩) (hb.frame (· ∈ before)), fun _ => ?_⟩
  · rw [hps, List.mem_append] at hp
    exact Or.inr hp
  · obtain ⟨_, _, _, _, _, hz, hn⟩ := hW
    refine ⟨hok, _, _, ([] ++ pa) ++ pv, ⟨[] ++ pa, pv, trodAll_append (hargs _ (fun _ _ => rfl)) (hres _ _ _), hvars _ (fun _ _ => rfl), rfl, ?_, ?_⟩, ?_⟩
    · intro b off hp
      have hin : MemPlace.cell b off ∈ before := by rw [hps]; simpa using hp
      rw [hb.frozen (hlt _ hin)]
      exact hz b off hin
    · intro ha
      have := hn ha
      rw [hps] at this
      simpa using this
    · intro p hp _
      rw [hps]
      simpa using hp
end


theorem gg0 (E : Sy.Env) (ρ : E3.Pt → E3.Rb) (w : World) : E3.GG E ρ (fun _ => False) w :=
  ⟨fun _ _ _ h => (by rw [show E3.gTab = .e from rfl, E3.Tri.get_e] at h; cases h), fun _ _ _ _ h => h.elim⟩
theorem walk (a : Int) (wa : (Lit.int .u8 a).wf = true) (b : Int) (wb : (Lit.int .u16 b).wf = true) (w : World) :
    Calls Tryz.prog 3 #[.int .u8 a, .int .u16 b] w fun e w' => e = .returned (.bool true) ∧ Below w.heap.size w w' := by
  have ra : 0 ≤ a ∧ a ≤ 255 := E3.int_range wa
  have rb : 0 ≤ b ∧ b ≤ 65535 := E3.int_range wb
  let E : Sy.Env := ⟨fun i => ⟨if i = 0 then a else b, fun _ => 0⟩, fun _ _ => [], fun _ => .nilIface⟩
  obtain ⟨j, hj, ej⟩ := RvC.tmod_cases (m := 60) ra.1 (by decide)
  have hc : E3.CardOk Tryz.prog 3 (RvC.lawM j (RvC.wT.tr E)) := RvC.lawsM j (by omega) _
  have r := (hc.2.2 E (fun _ => default) w (Sy.pcOk_cons.2 ⟨rfl, Sy.pcOk_cons.2 ⟨RvC.mT_ok rfl ra ej, RvC.pcN⟩⟩) (fun x hx => by
    have hx' : x ∈ [E3.L.a (.c (.int .u8 (.v 0 0 255))), E3.L.a (.c (.int .u16 (.v 1 0 65535)))] := hx
    simp only [List.mem_cons, List.not_mem_nil, or_false] at hx'
    rcases hx' with rfl | rfl
    · trivial
    · trivial) (gg0 E _ w)).2
  have ea : ((RvC.lawM j (RvC.wT.tr E)).ps.map (E3.L.val E fun _ => default)).toArray = #[.int .u8 a, .int .u16 b] := by
    show #[Value.int .u8 (Sy.clamp 0 255 a), Value.int .u16 (Sy.clamp 0 65535 b)] = _
    rw [Sy.clamp_id ra, Sy.clamp_id rb]
  rw [ea] at r
  exact Calls.mono r fun e w' ⟨h1, _, h2⟩ => ⟨h1, ⟨h2.os, h2.tape, h2.output, h2.size, h2.heap⟩⟩

theorem lifted (os : Os) (started : os.Started) (H : Type) (enc : TypeId × Value → H) :
    ReturnsInHanded {} Tryz.checked os 3 .any (Rows.engineLoopsSpec.pre6 enc Tryz.prog Tryz.f3 Rows.engineLoopsRow.domain false) (Rows.engineLoopsSpec.post enc Tryz.prog Tryz.f3 false true false false) := by
  refine returnsInHanded_of_change (C := Tryz.checked) own started (by as_aux_lemma => kernel_rfl) Tryz.func3
    (ChangeSpec.witness6 (enc := enc) (C := Tryz.checked) false ⟨#[], #[.int .u8 0, .int .u16 0], []⟩ 8 (by as_aux_lemma => kernel_rfl) (by as_aux_lemma => kernel_rfl) (by as_aux_lemma => kernel_rfl) (by as_aux_lemma => kernel_rfl)) ?_
  intro W base args ds gs before hval0 hW hcnd _
  have hval : ∀ (j : Nat) t v, Tryz.f3.params[j]? = some t → args[j]? = some v → Value.okWide Tryz.prog W .any base t v := hval0
  have hW' := hW
  obtain ⟨p, q, hA0, hV, rfl, hfz, hnd⟩ := hW
  have hA : DataW.TrodAll enc Tryz.prog W 0 (fun _ => true) true Tryz.f3.params.toList args.toList ds p := hA0
  rw [Tryz.params3] at hA hval
  obtain ⟨v0, vs0, d0, ds0, p0, q0, hargs, rfl, rfl, h0, r0⟩ := trodAll_cons hA
  obtain ⟨v1, vs1, d1, ds1, p1, q1, rfl, rfl, rfl, h1, r1⟩ := trodAll_cons r0
  obtain ⟨rfl, rfl, rfl⟩ := trodAll_nil r1
  obtain rfl : args = #[v0, v1] := by cases args; simp_all
  obtain ⟨rfl, rfl⟩ := trodVars_none hV
  obtain ⟨a, rfl, rfl, rfl, wa⟩ := open_int Tryz.underlying5 (hval 0 5 v0 rfl rfl) h0
  obtain ⟨b, rfl, rfl, rfl, wb⟩ := open_int Tryz.underlying22 (hval 1 22 v1 rfl rfl) h1
  clear hA0 hval0
  simp only [List.append_nil] at hW'
  refine (walk a wa b wb W).mono fun e W' ⟨he, hg⟩ => ?_
  subst he
  exact ⟨_, rfl, post_of_below (pa := []) (pv := []) hW' (fun _ _ _ => (trodAll_cons_mk (shut_bool Tryz.underlying4 _) trodAll_mk0)) (fun sp _ => (trodAll_cons_mk (shut_int Tryz.underlying5 wa) (trodAll_cons_mk (shut_int Tryz.underlying22 wb) trodAll_mk0))) (fun _ _ => rfl) rfl
    hg (ok_one (by as_aux_lemma => kernel_rfl) rfl (okWide_bool_mk Tryz.underlying4 _))⟩

theorem over : Rows.engineLoopsRow.holds Tryz.pinned (OpenSpec.ofChange Rows.engineLoopsSpec) :=
  OpenClaim.holds_of_wide 3 Tryz.f3 rfl rfl rfl rfl rfl rfl rfl ⟨rfl, rfl, rfl, rfl, rfl⟩ rfl rfl rfl rfl rfl (by as_aux_lemma => kernel_rfl) Tryz.func3 joined
    (of_decide_eq_true (by as_aux_lemma => kernel_rfl)) (by unfold Func.isWrapper; first | (rw [if_pos (by decide +kernel)]; kernel_rfl) | (rw [if_neg (by decide +kernel)]; exact ⟨rfl, rfl⟩))
    (fun os started H enc _ => lifted os started H enc)
theorem proved : Rows.EngineLoopsSaid :=
  over
#print axioms proved
end Go.Proofs.YtgnfekfikifgiaaGreat.engineLoops
