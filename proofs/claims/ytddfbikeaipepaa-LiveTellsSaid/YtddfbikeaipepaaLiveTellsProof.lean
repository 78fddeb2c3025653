/- The Go function of 'Rows.LiveTellsSaid' answers true at every input: of every row of instructions, the flags that are wanted behind each, and those that each is sure to write, are as the document reckons them. No condition. -/
import Derived.Test.YtddfbikeaipepaaRows
import Derived.WalkKit
import Derived.ProofKit
import Derived.OpenShut
import Derived.Below
import Derived.Carry
import Derived.ChangeSame
import Derived.KernelRfl
import Derived.Test.YtddfbikeaipepaaGy32
import Derived.Test.YtddfbikeaipepaaCardsRowAll
import Derived.Test.YtddfbikeaipepaaOpenRow
import Derived.Test.YtddfbikeaipepaaPlainRowTells
namespace Go.Proofs.Ytddfbikeaipepaa.liveTells
open Go.ChangeShapes Go.WideShapes Go.ChangeAt Go.RowKit Go.Sy
theorem own : ownKnob Try.prog.godebug = none := by kernel_rfl
section
variable {H : Type} {enc : TypeId × Value → H} {P : Program}
theorem post_of_below {f : Func} {s : ChangeSpec} {apart fresh handsOn again : Bool} {W W' : World} {args : Array Value} {v : Value} {ds gs : List (DataW H)} {before pa pv : List MemPlace}
    (hW : DataW.Whole enc P f.params.toList s.vars apart W args.toList ds gs before)
    (hres : ∀ (b : Nat) (sp : Nat → Bool) (hd : Bool), DataW.TrodAll enc P W' b sp hd f.resultTypes.toList (v.resultList f.resultTypes.size) (s.fn H (ds ++ gs)).results [])
    (hargs : ∀ sp : Nat → Bool, (∀ p ∈ before, sp p.block = true) → DataW.TrodAll enc P W' 0 sp true f.params.toList args.toList (s.fn H (ds ++ gs)).args pa)
    (hvars : ∀ sp : Nat → Bool, (∀ p ∈ before, sp p.block = true) → DataW.TrodVars enc P W' sp s.vars (s.fn H (ds ++ gs)).vars pv)
    (hps : before = pa ++ pv) (hb : Below W.heap.size W W')
    (hok : ∀ (j : Nat) (t : TypeId) (r : Value), f.resultTypes[j]? = some t → (v.resultList f.resultTypes.size)[j]? = some r → Value.okWide P W' .any 0 t r) :
    s.post enc P f apart fresh handsOn again W args v W' := by
  have hlt : ∀ p ∈ before, p.block < W.heap.size := fun p hp => hW.lt p hp
  have hold : ∀ p ∈ before, (fun b => decide (b < W.heap.size)) p.block = true := fun p hp => by simpa using hlt p hp
  refine ⟨ds, gs, before, [], pa, pv, hW, hres _ _ _, hargs _ hold, hvars _ hold, World.keptBut_mono (fun p hp => ⟨hp, ?_⟩) (hb.frame (· ∈ before)), fun _ => ?_⟩
  · rw [hps, List.mem_append] at hp
    exact Or.inr hp
  · obtain ⟨_, _, _, _, _, hz, hn⟩ := hW
    refine ⟨hok, _, _, ([] ++ pa) ++ pv, ⟨[] ++ pa, pv, trodAll_append (hargs _ (fun _ _ => rfl)) (hres _ _ _), hvars _ (fun _ _ => rfl), rfl, ?_, ?_⟩, ?_⟩
    · intro b off hp
      have hin : MemPlace.cell b off ∈ before := by rw [hps]; simpa using hp
      rw [hb.frozen (hlt _ hin)]
      exact hz b off hin
    · intro ha
      have := hn ha
      rw [hps] at this
      simpa using this
    · intro p hp _
      rw [hps]
      simpa using hp
end

theorem flatInsn : flat Try.prog 4 32 = some insnK := by kernel_rfl
theorem walk {H : Type} {enc : TypeId × Value → H} (w : World) (a : Option Addr) (l c : Nat) {d : DataW H} {p : List MemPlace} (h : DataW.Trod enc Try.prog w 0 (fun _ => true) true 22 (.slice a l c) d p) (k : Int) (wk : (Lit.int .i64 k).wf = true) :
    Calls Try.prog 3 #[.slice a l c, .int .i64 k] w fun e w' => e = .returned (.bool true) ∧ Below w.heap.size w w' := by
  have hl := law_okM (c := q3) (cfL_ok (P := Try.prog) (l := [p12, p16, p17]) (lm := [p1013, p1014, p1015, p1018]) (ll := [s2003]) ⟨ok12, ok16, ok17, trivial⟩ ⟨ok1013, ok1014, ok1015, ok1018, trivial⟩ ⟨okk2003, trivial⟩) chk3 (lo := 0) (hi := 1) rfl (by decide) (by decide) rfl rfl F3 plain3
  obtain ⟨f, z, _, hall⟩ := open_rows Try.underlying22 flatInsn (by kernel_rfl) (by decide) h
  obtain ⟨E, hE⟩ : ∃ E : Env, E = ⟨fun i => match i with | 0 => ⟨l, fun _ => 0⟩ | q + 1 => ⟨if q = 16 then k else 0, f q⟩, Fs.F⟩ := ⟨_, rfl⟩
  have hA := hall E 0 (fun _ => z) 0 1 65 (by rw [hE]) (fun q j => by rw [hE, show 0 + 1 + q = q + 1 by omega]) rfl (by decide) (by decide)
  subst hE
  have int17 : Ar ⟨fun i => match i with | 0 => ⟨l, fun _ => 0⟩ | q + 1 => ⟨if q = 16 then k else 0, f q⟩, Fs.F⟩ (fun _ => z) 1 (.c (intV 17)) (.int .i64 k) := by
    show Value.int .i64 k = Value.int .i64 (clamp (kmin .i64) (kmax .i64) k)
    rw [clamp_id (int_range wk)]
  refine hl.2 _ (fun _ => z) #[.slice a l c, .int .i64 k] w rfl (fun _ h => nomatch h) (F2.ofL (vs := [.slice a l c, .int .i64 k]) ⟨hA.1, int17, trivial⟩) ⟨fun i b hi => ?_, fun i j bi bj hi hj _ _ _ => ?_⟩
  · cases i with
    | zero => cases hi; exact hA.2
    | succ i => cases hi
  · have one : ∀ (i : Nat) (b : Bk), [insB][i]? = some b → i = 0 := fun i b h => by
      cases i with
      | zero => rfl
      | succ i => cases h
    rw [one i bi hi, one j bj hj]

set_option maxRecDepth 100000 in
theorem lifted (os : Os) (started : os.Started) (H : Type) (enc : TypeId × Value → H) :
    ReturnsInHanded {} Try.checked os 3 .any (Rows.liveTellsSpec.pre6 enc Try.prog Try.f3 Rows.liveTellsRow.domain false) (Rows.liveTellsSpec.post enc Try.prog Try.f3 false true false false) := by
  refine returnsInHanded_of_change (C := Try.checked) own started (by kernel_rfl) Try.func3
    (ChangeSpec.witness6 (enc := enc) (C := Try.checked) false ⟨#[], #[.slice none 0 0, .int .i64 0], []⟩ 8 (by kernel_rfl) (by kernel_rfl) (by kernel_rfl) (by kernel_rfl)) ?_
  intro W base args ds gs before hval0 hW hcnd _
  have hval : ∀ (j : Nat) t v, Try.f3.params[j]? = some t → args[j]? = some v → Value.okWide Try.prog W .any base t v := hval0
  have hW' := hW
  have hlt := fun p hp => hW.lt p hp
  obtain ⟨p, q, hA0, hV, rfl, hfz, hnd⟩ := hW
  have hA : DataW.TrodAll enc Try.prog W 0 (fun _ => true) true Try.f3.params.toList args.toList ds p := hA0
  rw [Try.params3] at hA hval
  obtain ⟨v0, vs0, d0, ds0, p0, q0, hargs, rfl, rfl, h0, r0⟩ := trodAll_cons hA
  obtain ⟨v1, vs1, d1, ds1, p1, q1, rfl, rfl, rfl, h1, r1⟩ := trodAll_cons r0
  obtain ⟨rfl, rfl, rfl⟩ := trodAll_nil r1
  obtain rfl : args = #[v0, v1] := by cases args; simp_all
  obtain ⟨rfl, rfl⟩ := trodVars_none hV
  obtain ⟨a, l, c, rfl⟩ := okWide_slice Try.underlying22 (hval 0 22 v0 rfl rfl)
  obtain ⟨k, rfl, rfl, rfl, wk⟩ := open_int Try.underlying3 (hval 1 3 v1 rfl rfl) h1
  clear hA0 hval0
  simp only [List.append_nil] at hW' hlt
  refine (walk W a l c h0 k wk).mono fun e W' ⟨he, hg⟩ => ?_
  subst he
  have again : ∀ sp : Nat → Bool, (∀ x ∈ p0, sp x.block = true) → DataW.Trod enc Try.prog W' 0 sp true 22 (.slice a l c) d0 p0 := fun sp hs =>
    WideElems.Trod_stays (by kernel_rfl) (by kernel_rfl) (of_decide_eq_true (by kernel_rfl)) h0 (fun x hx => hg.same (hlt x hx)) hs
  exact ⟨_, rfl, post_of_below (pa := p0) (pv := []) hW' (fun _ _ _ => (trodAll_cons_mk (shut_bool Try.underlying4 _) trodAll_mk0)) (fun sp hs => by
      have := (trodAll_cons_mk (again sp hs) (trodAll_cons_mk (shut_int Try.underlying3 wk) trodAll_mk0))
      simp only [List.append_nil] at this
      exact this) (fun _ _ => rfl) (List.append_nil _).symm
    hg (ok_one (by kernel_rfl) rfl (okWide_bool_mk Try.underlying4 _))⟩

theorem over : Rows.liveTellsRow.holds Try.pinned (OpenSpec.ofChange Rows.liveTellsSpec) :=
  OpenClaim.holds_of_wide 3 Try.f3 rfl rfl rfl rfl rfl rfl rfl ⟨rfl, rfl, rfl, rfl, rfl⟩ rfl rfl rfl rfl rfl (by kernel_rfl) Try.func3 (by kernel_rfl)
    (of_decide_eq_true (by kernel_rfl)) (by unfold Func.isWrapper; first | (rw [if_pos (by decide +kernel)]; kernel_rfl) | (rw [if_neg (by decide +kernel)]; exact ⟨rfl, rfl⟩))
    (fun os started H enc _ => lifted os started H enc)
theorem proved : Rows.LiveTellsSaid :=
  over
#print axioms proved
end Go.Proofs.Ytddfbikeaipepaa.liveTells
