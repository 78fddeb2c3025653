/- The Go function of 'Rows.LiveFreeSaid' answers true at every input: flags that aren't wanted behind an instruction may be anything, the rest of the row goes on to the same. No condition. -/
import Derived.Test.YtddfbikeaipepaaRows
import Derived.WalkKit
import Derived.ProofKit
import Derived.OpenShut
import Derived.Below
import Derived.Carry
import Derived.ChangeSame
import Derived.KernelRfl
import Derived.Test.YtddfbikeaipepaaJy29
import Derived.Test.YtddfbikeaipepaaFreeA
import Derived.Test.YtddfbikeaipepaaOpenFree
import Derived.Test.YtddfbikeaipepaaPlainFreeD
namespace Go.Proofs.Ytddfbikeaipepaa.liveFree
open Go.ChangeShapes Go.WideShapes Go.ChangeAt Go.RowKit Go.Sy
theorem own : ownKnob Try.prog.godebug = none := by kernel_rfl
section
variable {H : Type} {enc : TypeId × Value → H} {P : Program}
theorem post_of_below {f : Func} {s : ChangeSpec} {apart fresh handsOn again : Bool} {W W' : World} {args : Array Value} {v : Value} {ds gs : List (DataW H)} {before pa pv : List MemPlace}
    (hW : DataW.Whole enc P f.params.toList s.vars apart W args.toList ds gs before)
    (hres : ∀ (b : Nat) (sp : Nat → Bool) (hd : Bool), DataW.TrodAll enc P W' b sp hd f.resultTypes.toList (v.resultList f.resultTypes.size) (s.fn H (ds ++ gs)).results [])
    (hargs : ∀ sp : Nat → Bool, (∀ p ∈ before, sp p.block = true) → DataW.TrodAll enc P W' 0 sp true f.params.toList args.toList (s.fn H (ds ++ gs)).args pa)
    (hvars : ∀ sp : Nat → Bool, (∀ p ∈ before, sp p.block = true) → DataW.TrodVars enc P W' sp s.vars (s.fn H (ds ++ gs)).vars pv)
    (hps : before = pa ++ pv) (hb : Below W.heap.size W W')
    (hok : ∀ (j : Nat) (t : TypeId) (r : Value), f.resultTypes[j]? = some t → (v.resultList f.resultTypes.size)[j]? = some r → Value.okWide P W' .any 0 t r) :
    s.post enc P f apart fresh handsOn again W args v W' := by
  have hlt : ∀ p ∈ before, p.block < W.heap.size := fun p hp => hW.lt p hp
  have hold : ∀ p ∈ before, (fun b => decide (b < W.heap.size)) p.block = true := fun p hp => by simpa using hlt p hp
  refine ⟨ds, gs, before, [], pa, pv, hW, hres _ _ _, hargs _ hold, hvars _ hold, World.keptBut_mono (fun p hp => ⟨hp, ?_⟩) (hb.frame (· ∈ before)), fun _ => ?_⟩
  · rw [hps, List.mem_append] at hp
    exact Or.inr hp
  · obtain ⟨_, _, _, _, _, hz, hn⟩ := hW
    refine ⟨hok, _, _, ([] ++ pa) ++ pv, ⟨[] ++ pa, pv, trodAll_append (hargs _ (fun _ _ => rfl)) (hres _ _ _), hvars _ (fun _ _ => rfl), rfl, ?_, ?_⟩, ?_⟩
    · intro b off hp
      have hin : MemPlace.cell b off ∈ before := by rw [hps]; simpa using hp
      rw [hb.frozen (hlt _ hin)]
      exact hz b off hin
    · intro ha
      have := hn ha
      rw [hps] at this
      simpa using this
    · intro p hp _
      rw [hps]
      simpa using hp
end

theorem flatInsn : flat Try.prog 4 32 = some insnK := by kernel_rfl
theorem flatSt : flat Try.prog 4 43 = some stK := by kernel_rfl
theorem flatFl : flat Try.prog 4 40 = some flK := by kernel_rfl
theorem F7 (xs : List Arg) : Fs.F 7 xs = [⟨1, fun _ => 1⟩] := by kernel_rfl
theorem walk {H : Type} {enc : TypeId × Value → H} (w : World) (a : Option Addr) (l c : Nat) {d : DataW H} {p : List MemPlace} (h : DataW.Trod enc Try.prog w 0 (fun _ => true) true 22 (.slice a l c) d p) (k : Int) (wk : (Lit.int .u8 k).wf = true)
    (cs2 cs3 : List Value) (k2 : KOk stK cs2) (k3 : KOk flK cs3) :
    Calls Try.prog 7 #[.slice a l c, .int .u8 k, .agg cs2.toArray, .agg cs3.toArray] w fun e w' => e = .returned (.bool true) ∧ Below w.heap.size w w' := by
  have hl := law_okM (c := q7) (cfL_ok (P := Try.prog) (l := [p12, p19, p24]) (lm := [p1013, p2022, p1018]) (ll := [s2007, s2107]) ⟨ok12, ok19, ok24, trivial⟩ ⟨ok1013, ok2022, ok1018, trivial⟩ ⟨okk2007, okk2107, trivial⟩) chk7 (lo := 0) (hi := 1) rfl (by decide) (by decide) rfl rfl F7 plain7
  obtain ⟨f, z, _, hall⟩ := open_rows Try.underlying22 flatInsn (by kernel_rfl) (by decide) h
  have l2 : cs2.length = 17 := k2.length.trans (by decide)
  have l3 : cs3.length = 6 := k3.length.trans (by decide)
  obtain ⟨E, hE⟩ : ∃ E : Env, E = ⟨fun i => match i with | 0 => ⟨l, fun _ => 0⟩ | q + 1 => ⟨if q = 16 then k else (cs2.map cellInt ++ cs3.map cellInt).getD (q - 17) 0, f q⟩, Fs.F⟩ := ⟨_, rfl⟩
  have hA := hall E 0 (fun _ => z) 0 1 65 (by rw [hE]) (fun q j => by rw [hE, show 0 + 1 + q = q + 1 by omega]) rfl (by decide) (by decide)
  have hF : E.F = Fs.F := by rw [hE]
  have x17 : (E.x 17).n = k := by rw [hE]; rfl
  have x18 : ∀ j, (E.x (18 + j)).n = (cs2.map cellInt ++ cs3.map cellInt).getD j 0 := fun j => by
    rw [hE, show 18 + j = (17 + j) + 1 by omega]
    show (if 17 + j = 16 then k else (cs2.map cellInt ++ cs3.map cellInt).getD (17 + j - 17) 0) = _
    rw [if_neg (by omega), show 17 + j - 17 = j by omega]
  clear hE
  have int17 : Ar E (fun _ => z) 1 (.c (.int .u8 (.v 17 0 255))) (.int .u8 k) := by
    show Value.int .u8 k = Value.int .u8 (clamp (kmin .u8) (kmax .u8) (E.x 17).n)
    rw [x17, clamp_id (int_range wk)]
  have hS : Ar E (fun _ => z) 1 (.agg (symK 18 stK)) (.agg cs2.toArray) := agg_ok (symE_ok k2 fun j v hj => by
    have hlt := (List.getElem?_eq_some_iff.1 hj).1
    rw [x18, List.getD_eq_getElem?_getD, List.getElem?_append_left (by rw [List.length_map]; exact hlt), List.getElem?_map, hj]; rfl)
  have hL : Ar E (fun _ => z) 1 (.agg (symK 35 flK)) (.agg cs3.toArray) := agg_ok (symE_ok k3 fun j v hj => by
    rw [show 35 + j = 18 + (17 + j) by omega, x18, List.getD_eq_getElem?_getD, List.getElem?_append_right (by rw [List.length_map]; omega), List.length_map, l2, show 17 + j - 17 = j by omega, List.getElem?_map, hj]; rfl)
  refine hl.2 _ (fun _ => z) #[.slice a l c, .int .u8 k, .agg cs2.toArray, .agg cs3.toArray] w hF (fun _ h => nomatch h) (F2.ofL (vs := [.slice a l c, .int .u8 k, .agg cs2.toArray, .agg cs3.toArray]) ⟨hA.1, int17, hS, hL, trivial⟩) ⟨fun i b hi => ?_, fun i j bi bj hi hj _ _ _ => ?_⟩
  · cases i with
    | zero => cases hi; exact hA.2
    | succ i => cases hi
  · have one : ∀ (i : Nat) (b : Bk), [insB][i]? = some b → i = 0 := fun i b h => by
      cases i with
      | zero => rfl
      | succ i => cases h
    rw [one i bi hi, one j bj hj]

set_option maxRecDepth 100000 in
theorem lifted (os : Os) (started : os.Started) (H : Type) (enc : TypeId × Value → H) :
    ReturnsInHanded {} Try.checked os 7 .any (Rows.liveFreeSpec.pre6 enc Try.prog Try.f7 Rows.liveFreeRow.domain false) (Rows.liveFreeSpec.post enc Try.prog Try.f7 false true false false) := by
  refine returnsInHanded_of_change (C := Try.checked) own started (by kernel_rfl) Try.func7
    (ChangeSpec.witness6 (enc := enc) (C := Try.checked) false ⟨#[], #[.slice none 0 0, .int .u8 0,
      .agg #[.int .u32 0, .int .u32 0, .int .u32 0, .int .u32 0, .int .u32 0, .int .u32 0, .int .u32 0, .int .u32 0, .int .u32 0, .bool false, .bool false, .bool false, .bool false, .bool false, .bool false, .bool false, .int .u64 0],
      .agg #[.bool false, .bool false, .bool false, .bool false, .bool false, .bool false]], []⟩ 8 (by kernel_rfl) (by kernel_rfl) (by kernel_rfl) (by kernel_rfl)) ?_
  intro W base args ds gs before hval0 hW hcnd _
  have hval : ∀ (j : Nat) t v, Try.f7.params[j]? = some t → args[j]? = some v → Value.okWide Try.prog W .any base t v := hval0
  have hW' := hW
  have hlt := fun p hp => hW.lt p hp
  obtain ⟨p, q, hA0, hV, rfl, hfz, hnd⟩ := hW
  have hA : DataW.TrodAll enc Try.prog W 0 (fun _ => true) true Try.f7.params.toList args.toList ds p := hA0
  rw [Try.params7] at hA hval
  obtain ⟨v0, vs0, d0, ds0, p0, q0, hargs, rfl, rfl, h0, r0⟩ := trodAll_cons hA
  obtain ⟨v1, vs1, d1, ds1, p1, q1, rfl, rfl, rfl, h1, r1⟩ := trodAll_cons r0
  obtain ⟨v2, vs2, d2, ds2, p2, q2, rfl, rfl, rfl, h2, r2⟩ := trodAll_cons r1
  obtain ⟨v3, vs3, d3, ds3, p3, q3, rfl, rfl, rfl, h3, r3⟩ := trodAll_cons r2
  obtain ⟨rfl, rfl, rfl⟩ := trodAll_nil r3
  obtain rfl : args = #[v0, v1, v2, v3] := by cases args; simp_all
  obtain ⟨rfl, rfl⟩ := trodVars_none hV
  obtain ⟨a, l, c, rfl⟩ := okWide_slice Try.underlying22 (hval 0 22 v0 rfl rfl)
  obtain ⟨k, rfl, rfl, rfl, wk⟩ := open_int Try.underlying5 (hval 1 5 v1 rfl rfl) h1
  obtain ⟨cs2, rfl, hk2, rfl⟩ := open_flat Try.underlying43 flatSt (hval 2 43 v2 rfl rfl) h2
  obtain ⟨cs3, rfl, hk3, rfl⟩ := open_flat Try.underlying40 flatFl (hval 3 40 v3 rfl rfl) h3
  clear hA0 hval0
  simp only [List.append_nil] at hW' hlt
  refine (walk W a l c h0 k wk cs2 cs3 hk2 hk3).mono fun e W' ⟨he, hg⟩ => ?_
  subst he
  have again : ∀ sp : Nat → Bool, (∀ x ∈ p0, sp x.block = true) → DataW.Trod enc Try.prog W' 0 sp true 22 (.slice a l c) d0 p0 := fun sp hs =>
    WideElems.Trod_stays (by kernel_rfl) (by kernel_rfl) (of_decide_eq_true (by kernel_rfl)) h0 (fun x hx => hg.same (hlt x hx)) hs
  exact ⟨_, rfl, post_of_below (pa := p0) (pv := []) hW' (fun _ _ _ => (trodAll_cons_mk (shut_bool Try.underlying4 _) trodAll_mk0)) (fun sp hs => by
      have := (trodAll_cons_mk (again sp hs) (trodAll_cons_mk (shut_int Try.underlying5 wk) (trodAll_cons_mk (shut_flat flatSt h2) (trodAll_cons_mk (shut_flat flatFl h3) trodAll_mk0))))
      simp only [List.append_nil] at this
      exact this) (fun _ _ => rfl) (List.append_nil _).symm
    hg (ok_one (by kernel_rfl) rfl (okWide_bool_mk Try.underlying4 _))⟩

theorem over : Rows.liveFreeRow.holds Try.pinned (OpenSpec.ofChange Rows.liveFreeSpec) :=
  OpenClaim.holds_of_wide 7 Try.f7 rfl rfl rfl rfl rfl rfl rfl ⟨rfl, rfl, rfl, rfl, rfl⟩ rfl rfl rfl rfl rfl (by kernel_rfl) Try.func7 (by kernel_rfl)
    (of_decide_eq_true (by kernel_rfl)) (by unfold Func.isWrapper; first | (rw [if_pos (by decide +kernel)]; kernel_rfl) | (rw [if_neg (by decide +kernel)]; exact ⟨rfl, rfl⟩))
    (fun os started H enc _ => lifted os started H enc)
theorem proved : Rows.LiveFreeSaid :=
  over
#print axioms proved
end Go.Proofs.Ytddfbikeaipepaa.liveFree
