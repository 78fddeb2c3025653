/- The Go function of 'Rows.EngineStoresSaid' answers true at every input: what a guest writes into its own code, ahead of the place or in the row that runs, is run next. No condition. -/
import Derived.Test.YtbnkhcjmbdcghaaGreatRows
import Derived.WalkKit
import Derived.ProofKit
import Derived.OpenShut
import Derived.Below
import Derived.ChangeSame
import Derived.KernelRfl
import Derived.Test.YtbnkhcjmbdcghaaGreatFl
import Derived.Test.YtbnkhcjmbdcghaaGreatEsF
import Derived.Test.YtbnkhcjmbdcghaaGreatEsE
import Derived.Test.YtbnkhcjmbdcghaaGreatEsJ
namespace Go.Proofs.YtbnkhcjmbdcghaaGreat.engineStores
open Go.ChangeShapes Go.WideShapes Go.ChangeAt Go.RowKit
set_option maxRecDepth 100000
theorem own : ownKnob Tryz.prog.godebug = none := by kernel_rfl
section
variable {H : Type} {enc : TypeId × Value → H} {P : Program}
theorem post_of_below {f : Func} {s : ChangeSpec} {apart fresh handsOn again : Bool} {W W' : World} {args : Array Value} {v : Value} {ds gs : List (DataW H)} {before pa pv : List MemPlace}
    (hW : DataW.Whole enc P f.params.toList s.vars apart W args.toList ds gs before)
    (hres : ∀ (b : Nat) (sp : Nat → Bool) (hd : Bool), DataW.TrodAll enc P W' b sp hd f.resultTypes.toList (v.resultList f.resultTypes.size) (s.fn H (ds ++ gs)).results [])
    (hargs : ∀ sp : Nat → Bool, (∀ p ∈ before, sp p.block = true) → DataW.TrodAll enc P W' 0 sp true f.params.toList args.toList (s.fn H (ds ++ gs)).args pa)
    (hvars : ∀ sp : Nat → Bool, (∀ p ∈ before, sp p.block = true) → DataW.TrodVars enc P W' sp s.vars (s.fn H (ds ++ gs)).vars pv)
    (hps : before = pa ++ pv) (hb : Below W.heap.size W W')
    (hok : ∀ (j : Nat) (t : TypeId) (r : Value), f.resultTypes[j]? = some t → (v.resultList f.resultTypes.size)[j]? = some r → Value.okWide P W' .any 0 t r) :
    s.post enc P f apart fresh handsOn again W args v W' := by
  have hlt : ∀ p ∈ before, p.block < W.heap.size := fun p hp => hW.lt p hp
  have hold : ∀ p ∈ before, (fun b => decide (b < W.heap.size)) p.block = true := fun p hp => by simpa using hlt p hp
  refine ⟨ds, gs, before, [], pa, pv, hW, hres _ _ _, hargs _ hold, hvars _ hold, World.keptBut_mono (fun p hp => ⟨hp, ?_⟩) (hb.frame (· ∈ before)), fun _ => ?_⟩
  · rw [hps, List.mem_append] at hp
    exact Or.inr hp
  · obtain ⟨_, _, _, _, _, hz, hn⟩ := hW
    refine ⟨hok, _, _, ([] ++ pa) ++ pv, ⟨[] ++ pa, pv, trodAll_append (hargs _ (fun _ _ => rfl)) (hres _ _ _), hvars _ (fun _ _ => rfl), rfl, ?_, ?_⟩, ?_⟩
    · intro b off hp
      have hin : MemPlace.cell b off ∈ before := by rw [hps]; simpa using hp
      rw [hb.frozen (hlt _ hin)]
      exact hz b off hin
    · intro ha
      have := hn ha
      rw [hps] at this
      simpa using this
    · intro p hp _
      rw [hps]
      simpa using hp
end

theorem gg0 (E : Sy.Env) (ρ : E3.Pt → E3.Rb) (w : World) : E3.GG E ρ (fun _ => False) w :=
  ⟨fun _ _ _ h => (by rw [show E3.gTab = .e from rfl, E3.Tri.get_e] at h; cases h), fun _ _ _ _ h => h.elim⟩
theorem walk (a : Int) (wa : (Lit.int .u32 a).wf = true) (sg : Bool) (w : World) :
    Calls Tryz.prog 3 #[.int .u32 a, .bool sg] w fun e w' => e = .returned (.bool true) ∧ Below w.heap.size w w' := by
  have ra : 0 ≤ a ∧ a ≤ 4294967295 := E3.int_range wa
  let E : Sy.Env := ⟨fun _ => ⟨a, fun _ => 0⟩, fun _ _ => [], fun _ => .nilIface⟩
  have hden : RvC.mV.den E = a := Sy.clamp_id ra
  have hW : RvC.isW E RvC.mV := ⟨by rw [hden]; exact ra.1, by rw [hden]; omega⟩
  obtain ⟨q, hq, hpq⟩ := RvC.pcS_ok hW
  have main : ∀ s : Nat, s < 2 → sg = ((s : Int) != 0) → Calls Tryz.prog 3 #[.int .u32 a, .bool sg] w fun e w' => e = .returned (.bool true) ∧ Below w.heap.size w w' := by
    intro s hs es
    have hc : E3.CardOk Tryz.prog 3 (RvC.lawS s q) := RvC.lawsS s q hs hq
    have r := (hc.2.2 E (fun _ => default) w hpq (fun x hx => by
      have hx' : x ∈ [E3.L.a (.c (.int .u32 RvC.mV)), E3.L.a (.c (.bool (.lit s)))] := hx
      simp only [List.mem_cons, List.not_mem_nil, or_false] at hx'
      rcases hx' with rfl | rfl
      · trivial
      · trivial) (gg0 E _ w)).2
    have ea : ((RvC.lawS s q).ps.map (E3.L.val E fun _ => default)).toArray = #[.int .u32 a, .bool sg] := by
      show #[Value.int .u32 (RvC.mV.den E), Value.bool ((s : Int) != 0)] = _
      rw [hden, es]
    rw [ea] at r
    refine Calls.mono r fun e w' ⟨h1, _, h2⟩ => ⟨?_, ⟨h2.os, h2.tape, h2.output, h2.size, h2.heap⟩⟩
    rw [h1]
    show Ending.returned (Value.bool ((RvC.resS s q).tr E)) = _
    rw [RvC.resS_ok hW hpq]
  cases sg
  · exact main 0 (by decide) rfl
  · exact main 1 (by decide) rfl

theorem lifted (os : Os) (started : os.Started) (H : Type) (enc : TypeId × Value → H) :
    ReturnsInHanded {} Tryz.checked os 3 .any (Rows.engineStoresSpec.pre6 enc Tryz.prog Tryz.f3 Rows.engineStoresRow.domain false) (Rows.engineStoresSpec.post enc Tryz.prog Tryz.f3 false true false false) := by
  refine returnsInHanded_of_change (C := Tryz.checked) own started (by as_aux_lemma => kernel_rfl) Tryz.func3
    (ChangeSpec.witness6 (enc := enc) (C := Tryz.checked) false ⟨#[], #[.int .u32 0, .bool false], []⟩ 8 (by as_aux_lemma => kernel_rfl) (by as_aux_lemma => kernel_rfl) (by as_aux_lemma => kernel_rfl) (by as_aux_lemma => kernel_rfl)) ?_
  intro W base args ds gs before hval0 hW hcnd _
  have hval : ∀ (j : Nat) t v, Tryz.f3.params[j]? = some t → args[j]? = some v → Value.okWide Tryz.prog W .any base t v := hval0
  have hW' := hW
  obtain ⟨p, q, hA0, hV, rfl, hfz, hnd⟩ := hW
  have hA : DataW.TrodAll enc Tryz.prog W 0 (fun _ => true) true Tryz.f3.params.toList args.toList ds p := hA0
  rw [Tryz.params3] at hA hval
  obtain ⟨v0, vs0, d0, ds0, p0, q0, hargs, rfl, rfl, h0, r0⟩ := trodAll_cons hA
  obtain ⟨v1, vs1, d1, ds1, p1, q1, rfl, rfl, rfl, h1, r1⟩ := trodAll_cons r0
  obtain ⟨rfl, rfl, rfl⟩ := trodAll_nil r1
  obtain rfl : args = #[v0, v1] := by cases args; simp_all
  obtain ⟨rfl, rfl⟩ := trodVars_none hV
  obtain ⟨a, rfl, rfl, rfl, wa⟩ := open_int Tryz.underlying22 (hval 0 22 v0 rfl rfl) h0
  obtain ⟨sg, rfl, rfl, rfl⟩ := open_bool Tryz.underlying4 (hval 1 4 v1 rfl rfl) h1
  clear hA0 hval0
  simp only [List.append_nil] at hW'
  refine (walk a wa sg W).mono fun e W' ⟨he, hg⟩ => ?_
  subst he
  exact ⟨_, rfl, post_of_below (pa := []) (pv := []) hW' (fun _ _ _ => (trodAll_cons_mk (shut_bool Tryz.underlying4 _) trodAll_mk0)) (fun sp _ => (trodAll_cons_mk (shut_int Tryz.underlying22 wa) (trodAll_cons_mk (shut_bool Tryz.underlying4 _) trodAll_mk0))) (fun _ _ => rfl) rfl
    hg (ok_one (by as_aux_lemma => kernel_rfl) rfl (okWide_bool_mk Tryz.underlying4 _))⟩

theorem over : Rows.engineStoresRow.holds Tryz.pinned (OpenSpec.ofChange Rows.engineStoresSpec) :=
  OpenClaim.holds_of_wide 3 Tryz.f3 rfl rfl rfl rfl rfl rfl rfl ⟨rfl, rfl, rfl, rfl, rfl⟩ rfl rfl rfl rfl rfl (by as_aux_lemma => kernel_rfl) Tryz.func3 joined
    (of_decide_eq_true (by as_aux_lemma => kernel_rfl)) (by unfold Func.isWrapper; first | (rw [if_pos (by decide +kernel)]; kernel_rfl) | (rw [if_neg (by decide +kernel)]; exact ⟨rfl, rfl⟩))
    (fun os started H enc _ => lifted os started H enc)
theorem proved : Rows.EngineStoresSaid :=
  over
#print axioms proved
end Go.Proofs.YtbnkhcjmbdcghaaGreat.engineStores
