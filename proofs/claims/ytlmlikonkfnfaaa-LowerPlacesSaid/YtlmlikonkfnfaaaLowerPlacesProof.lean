/- The Go function of 'Rows.LowerPlacesSaid' answers true at every input: the small operations of an instruction at two places do the same there. No condition. -/
import Derived.Test.YtlmlikonkfnfaaaRows
import Derived.WalkKit
import Derived.ProofKit
import Derived.OpenShut
import Derived.Below
import Derived.ChangeSame
import Derived.KernelRfl
import Derived.Test.YtlmlikonkfnfaaaLowQA
namespace Go.Proofs.Ytlmlikonkfnfaaa.lowerPlaces
open Go.ChangeShapes Go.WideShapes Go.ChangeAt Go.RowKit Go.Sy
theorem own : ownKnob Try.prog.godebug = none := by kernel_rfl
section
variable {H : Type} {enc : TypeId × Value → H} {P : Program}
theorem post_of_below {f : Func} {s : ChangeSpec} {apart fresh handsOn again : Bool} {W W' : World} {args : Array Value} {v : Value} {ds gs : List (DataW H)} {before pa pv : List MemPlace}
    (hW : DataW.Whole enc P f.params.toList s.vars apart W args.toList ds gs before)
    (hres : ∀ (b : Nat) (sp : Nat → Bool) (hd : Bool), DataW.TrodAll enc P W' b sp hd f.resultTypes.toList (v.resultList f.resultTypes.size) (s.fn H (ds ++ gs)).results [])
    (hargs : ∀ sp : Nat → Bool, (∀ p ∈ before, sp p.block = true) → DataW.TrodAll enc P W' 0 sp true f.params.toList args.toList (s.fn H (ds ++ gs)).args pa)
    (hvars : ∀ sp : Nat → Bool, (∀ p ∈ before, sp p.block = true) → DataW.TrodVars enc P W' sp s.vars (s.fn H (ds ++ gs)).vars pv)
    (hps : before = pa ++ pv) (hb : Below W.heap.size W W')
    (hok : ∀ (j : Nat) (t : TypeId) (r : Value), f.resultTypes[j]? = some t → (v.resultList f.resultTypes.size)[j]? = some r → Value.okWide P W' .any 0 t r) :
    s.post enc P f apart fresh handsOn again W args v W' := by
  have hlt : ∀ p ∈ before, p.block < W.heap.size := fun p hp => hW.lt p hp
  have hold : ∀ p ∈ before, (fun b => decide (b < W.heap.size)) p.block = true := fun p hp => by simpa using hlt p hp
  refine ⟨ds, gs, before, [], pa, pv, hW, hres _ _ _, hargs _ hold, hvars _ hold, World.keptBut_mono (fun p hp => ⟨hp, ?_⟩) (hb.frame (· ∈ before)), fun _ => ?_⟩
  · rw [hps, List.mem_append] at hp
    exact Or.inr hp
  · obtain ⟨_, _, _, _, _, hz, hn⟩ := hW
    refine ⟨hok, _, _, ([] ++ pa) ++ pv, ⟨[] ++ pa, pv, trodAll_append (hargs _ (fun _ _ => rfl)) (hres _ _ _), hvars _ (fun _ _ => rfl), rfl, ?_, ?_⟩, ?_⟩
    · intro b off hp
      have hin : MemPlace.cell b off ∈ before := by rw [hps]; simpa using hp
      rw [hb.frozen (hlt _ hin)]
      exact hz b off hin
    · intro ha
      have := hn ha
      rw [hps] at this
      simpa using this
    · intro p hp _
      rw [hps]
      simpa using hp
end

theorem flatSt : flat Try.prog 4 28 = some stK := by kernel_rfl
theorem all6 (x : Int) (h0 : 0 ≤ x) : x.tmod 6 = 0 ∨ x.tmod 6 = 1 ∨ x.tmod 6 = 2 ∨ x.tmod 6 = 3 ∨ x.tmod 6 = 4 ∨ x.tmod 6 = 5 := by
  have h1 := Int.tmod_lt_of_pos x (b := 6) (by decide)
  have h2 := Int.tmod_nonneg (6 : Int) h0
  omega
theorem walk (cs : List Value) (ks : KOk stK cs) (a b o p : Int) (wa : (Lit.int .u8 a).wf = true) (wb : (Lit.int .u8 b).wf = true) (wo : (Lit.int .u8 o).wf = true) (wp : (Lit.int .u32 p).wf = true) (w : World) :
    Calls Try.prog 3 #[.agg cs.toArray, .int .u8 a, .int .u8 b, .int .u8 o, .int .u32 p] w fun e w' => e = .returned (.bool true) ∧ Below w.heap.size w w' := by
  have ln : cs.length = 17 := ks.length.trans (by decide)
  obtain ⟨l, hl⟩ : ∃ l : List Int, l = cs.map cellInt ++ [a, b, o, p] := ⟨_, rfl⟩
  have hlt : ∀ j, l.getD (17 + j) 0 = [a, b, o, p].getD j 0 := fun j => by
    rw [hl, List.getD_eq_getElem?_getD, List.getElem?_append_right (by rw [List.length_map]; omega), List.length_map, ln, show 17 + j - 17 = j by omega, List.getD_eq_getElem?_getD]
  have hS : Ar (envOf l) (fun _ => default) 0 (.agg (symK 0 stK)) (.agg cs.toArray) := agg_ok (symK_ok ks fun j v hj => by
    have hj' := (List.getElem?_eq_some_iff.1 hj).1
    rw [hl, Nat.zero_add, List.getD_eq_getElem?_getD, List.getElem?_append_left (by rw [List.length_map]; exact hj'), List.getElem?_map, hj]; rfl)
  have xo : l.getD 19 0 = o := hlt 2
  have ro : 0 ≤ o ∧ o ≤ 255 := int_range wo
  have hA := F2.ofL (r := Ar (envOf l) (fun _ => default) 0) (xs := [.agg (symK 0 stK), .c (.int .u8 (.v 17 0 255)), .c (.int .u8 (.v 18 0 255)), .c (.int .u8 (.v 19 0 255)), .c (.int .u32 (.v 20 0 4294967295))])
    (vs := [.agg cs.toArray, .int .u8 a, .int .u8 b, .int .u8 o, .int .u32 p])
    ⟨hS, Ar_intw (hlt 0) rfl rfl wa, Ar_intw (hlt 1) rfl rfl wb, Ar_intw xo rfl rfl wo, Ar_intw (hlt 3) rfl rfl wp, trivial⟩
  have fact : ∀ n : Int, o.tmod 6 = n → pcOk (envOf l) [(.bin .eq (.bin .tmod (.v 19 0 255) (.lit 6)) (.lit n), true)] := fun n hn q hq => by
    rw [List.mem_singleton] at hq; subst hq
    show (T.bin .eq (.bin .tmod (.v 19 0 255) (.lit 6)) (.lit n)).tr _ = true
    have hc : clamp 0 255 (l.getD 19 0) = o := by rw [xo]; exact clamp_id ro
    have : (T.bin .tmod (.v 19 0 255) (.lit 6)).den (envOf l) = n := by
      show (clamp 0 255 (l.getD 19 0)).tmod 6 = n
      rw [hc]; exact hn
    simp only [T.tr, T.den, O2.den, tb_ne] at this ⊢
    rw [this]; exact beq_self_eq_true n
  rcases all6 o ro.1 with h | h | h | h | h | h
  · exact law3000 rfl (fact 0 h) hA w
  · exact law3001 rfl (fact 1 h) hA w
  · exact law3002 rfl (fact 2 h) hA w
  · exact law3003 rfl (fact 3 h) hA w
  · exact law3004 rfl (fact 4 h) hA w
  · exact law3005 rfl (fact 5 h) hA w

set_option maxRecDepth 100000 in
theorem lifted (os : Os) (started : os.Started) (H : Type) (enc : TypeId × Value → H) :
    ReturnsInHanded {} Try.checked os 3 .any (Rows.lowerPlacesSpec.pre6 enc Try.prog Try.f3 Rows.lowerPlacesRow.domain false) (Rows.lowerPlacesSpec.post enc Try.prog Try.f3 false true false false) := by
  refine returnsInHanded_of_change (C := Try.checked) own started (by kernel_rfl) Try.func3
    (ChangeSpec.witness6 (enc := enc) (C := Try.checked) false ⟨#[], #[.agg #[.int .u32 0, .int .u32 0, .int .u32 0, .int .u32 0, .int .u32 0, .int .u32 0, .int .u32 0, .int .u32 0, .int .u32 0, .bool false, .bool false, .bool false, .bool false, .bool false, .bool false, .bool false, .int .u64 0],
      .int .u8 0, .int .u8 0, .int .u8 0, .int .u32 0], []⟩ 8 (by kernel_rfl) (by kernel_rfl) (by kernel_rfl) (by kernel_rfl)) ?_
  intro W base args ds gs before hval0 hW hcnd _
  have hval : ∀ (j : Nat) t v, Try.f3.params[j]? = some t → args[j]? = some v → Value.okWide Try.prog W .any base t v := hval0
  have hW' := hW
  obtain ⟨p, q, hA0, hV, rfl, hfz, hnd⟩ := hW
  have hA : DataW.TrodAll enc Try.prog W 0 (fun _ => true) true Try.f3.params.toList args.toList ds p := hA0
  rw [Try.params3] at hA hval
  obtain ⟨v0, vs0, d0, ds0, p0, q0, hargs, rfl, rfl, h0, r0⟩ := trodAll_cons hA
  obtain ⟨v1, vs1, d1, ds1, p1, q1, rfl, rfl, rfl, h1, r1⟩ := trodAll_cons r0
  obtain ⟨v2, vs2, d2, ds2, p2, q2, rfl, rfl, rfl, h2, r2⟩ := trodAll_cons r1
  obtain ⟨v3, vs3, d3, ds3, p3, q3, rfl, rfl, rfl, h3, r3⟩ := trodAll_cons r2
  obtain ⟨v4, vs4, d4, ds4, p4, q4, rfl, rfl, rfl, h4, r4⟩ := trodAll_cons r3
  obtain ⟨rfl, rfl, rfl⟩ := trodAll_nil r4
  obtain rfl : args = #[v0, v1, v2, v3, v4] := by cases args; simp_all
  obtain ⟨rfl, rfl⟩ := trodVars_none hV
  obtain ⟨cs, rfl, hk, rfl⟩ := open_flat Try.underlying28 flatSt (hval 0 28 v0 rfl rfl) h0
  obtain ⟨a, rfl, rfl, rfl, wa⟩ := open_int Try.underlying5 (hval 1 5 v1 rfl rfl) h1
  obtain ⟨b, rfl, rfl, rfl, wb⟩ := open_int Try.underlying5 (hval 2 5 v2 rfl rfl) h2
  obtain ⟨o, rfl, rfl, rfl, wo⟩ := open_int Try.underlying5 (hval 3 5 v3 rfl rfl) h3
  obtain ⟨k, rfl, rfl, rfl, wk⟩ := open_int Try.underlying22 (hval 4 22 v4 rfl rfl) h4
  clear hA0 hval0
  simp only [List.append_nil] at hW'
  refine (walk cs hk a b o k wa wb wo wk W).mono fun e W' ⟨he, hg⟩ => ?_
  subst he
  exact ⟨_, rfl, post_of_below (pa := []) (pv := []) hW' (fun _ _ _ => (trodAll_cons_mk (shut_bool Try.underlying4 _) trodAll_mk0)) (fun sp _ => (trodAll_cons_mk (shut_flat flatSt h0) (trodAll_cons_mk (shut_int Try.underlying5 wa) (trodAll_cons_mk (shut_int Try.underlying5 wb) (trodAll_cons_mk (shut_int Try.underlying5 wo) (trodAll_cons_mk (shut_int Try.underlying22 wk) trodAll_mk0)))))) (fun _ _ => rfl) rfl
    hg (ok_one (by kernel_rfl) rfl (okWide_bool_mk Try.underlying4 _))⟩

theorem over : Rows.lowerPlacesRow.holds Try.pinned (OpenSpec.ofChange Rows.lowerPlacesSpec) :=
  OpenClaim.holds_of_wide 3 Try.f3 rfl rfl rfl rfl rfl rfl rfl ⟨rfl, rfl, rfl, rfl, rfl⟩ rfl rfl rfl rfl rfl (by kernel_rfl) Try.func3 (by kernel_rfl)
    (of_decide_eq_true (by kernel_rfl)) (by unfold Func.isWrapper; first | (rw [if_pos (by decide +kernel)]; kernel_rfl) | (rw [if_neg (by decide +kernel)]; exact ⟨rfl, rfl⟩))
    (fun os started H enc _ => lifted os started H enc)
theorem proved : Rows.LowerPlacesSaid :=
  over
#print axioms proved
end Go.Proofs.Ytlmlikonkfnfaaa.lowerPlaces
