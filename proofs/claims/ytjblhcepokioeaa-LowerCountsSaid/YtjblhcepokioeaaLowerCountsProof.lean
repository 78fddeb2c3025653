/- The Go function of 'Rows.LowerCountsSaid' answers true at every input: the small operations of a row of instructions have a point for each, with its place, in order. No condition. -/
import Derived.Test.YtjblhcepokioeaaRows
import Derived.WalkKit
import Derived.ProofKit
import Derived.OpenShut
import Derived.Below
import Derived.Carry
import Derived.ChangeSame
import Derived.KernelRfl
import Derived.Test.YtjblhcepokioeaaLowKA
import Derived.Test.YtjblhcepokioeaaOpenLow
namespace Go.Proofs.Ytjblhcepokioeaa.lowerCounts
open Go.ChangeShapes Go.WideShapes Go.ChangeAt Go.RowKit Go.Sy
theorem own : ownKnob Try.prog.godebug = none := by kernel_rfl
section
variable {H : Type} {enc : TypeId × Value → H} {P : Program}
theorem post_of_below {f : Func} {s : ChangeSpec} {apart fresh handsOn again : Bool} {W W' : World} {args : Array Value} {v : Value} {ds gs : List (DataW H)} {before pa pv : List MemPlace}
    (hW : DataW.Whole enc P f.params.toList s.vars apart W args.toList ds gs before)
    (hres : ∀ (b : Nat) (sp : Nat → Bool) (hd : Bool), DataW.TrodAll enc P W' b sp hd f.resultTypes.toList (v.resultList f.resultTypes.size) (s.fn H (ds ++ gs)).results [])
    (hargs : ∀ sp : Nat → Bool, (∀ p ∈ before, sp p.block = true) → DataW.TrodAll enc P W' 0 sp true f.params.toList args.toList (s.fn H (ds ++ gs)).args pa)
    (hvars : ∀ sp : Nat → Bool, (∀ p ∈ before, sp p.block = true) → DataW.TrodVars enc P W' sp s.vars (s.fn H (ds ++ gs)).vars pv)
    (hps : before = pa ++ pv) (hb : Below W.heap.size W W')
    (hok : ∀ (j : Nat) (t : TypeId) (r : Value), f.resultTypes[j]? = some t → (v.resultList f.resultTypes.size)[j]? = some r → Value.okWide P W' .any 0 t r) :
    s.post enc P f apart fresh handsOn again W args v W' := by
  have hlt : ∀ p ∈ before, p.block < W.heap.size := fun p hp => hW.lt p hp
  have hold : ∀ p ∈ before, (fun b => decide (b < W.heap.size)) p.block = true := fun p hp => by simpa using hlt p hp
  refine ⟨ds, gs, before, [], pa, pv, hW, hres _ _ _, hargs _ hold, hvars _ hold, World.keptBut_mono (fun p hp => ⟨hp, ?_⟩) (hb.frame (· ∈ before)), fun _ => ?_⟩
  · rw [hps, List.mem_append] at hp
    exact Or.inr hp
  · obtain ⟨_, _, _, _, _, hz, hn⟩ := hW
    refine ⟨hok, _, _, ([] ++ pa) ++ pv, ⟨[] ++ pa, pv, trodAll_append (hargs _ (fun _ _ => rfl)) (hres _ _ _), hvars _ (fun _ _ => rfl), rfl, ?_, ?_⟩, ?_⟩
    · intro b off hp
      have hin : MemPlace.cell b off ∈ before := by rw [hps]; simpa using hp
      rw [hb.frozen (hlt _ hin)]
      exact hz b off hin
    · intro ha
      have := hn ha
      rw [hps] at this
      simpa using this
    · intro p hp _
      rw [hps]
      simpa using hp
end

theorem flatU8 : flat Try.prog 4 5 = some [.i .u8] := by kernel_rfl
def envO (k l : Int) (f : Int → Int) : Env := ⟨fun i => match i with | 0 => ⟨k, fun _ => 0⟩ | 1 => ⟨l, fun _ => 0⟩ | _ => ⟨0, f⟩, Fs.F⟩
theorem walk {H : Type} {enc : TypeId × Value → H} (w : World) (k : Int) (wk : (Lit.int .u32 k).wf = true) (a : Option Addr) (l c : Nat) {d : DataW H} {p : List MemPlace} (h : DataW.Trod enc Try.prog w 0 (fun _ => true) true 50 (.slice a l c) d p) :
    Calls Try.prog 4 #[.int .u32 k, .slice a l c] w fun e w' => e = .returned (.bool true) ∧ Below w.heap.size w w' := by
  obtain ⟨f, z, hmax, hall⟩ := open_bytes Try.underlying50 flatU8 (by kernel_rfl) h
  have rk : 0 ≤ k ∧ k ≤ 4294967295 := int_range wk
  have hx : ∀ t : T, t.den (envO k l f) = l → Ar (envO k l f) (fun _ => z) 1 (.c (.slr 0 1 (.lit 0) t)) (.slice a l c) ∧ Br (envO k l f) (fun _ => z) 1 z (.arr 11 t [⟨.i .u8, 1, .v 2 0 255⟩]) w.heap[z.g]? := fun t ht =>
    hall (envO k l f) 2 t (fun _ => z) 0 1 11 ht (fun _ => rfl) rfl (by decide) (by decide)
  have hk : Ar (envO k l f) (fun _ => z) 1 (.c (.int .u32 (.v 0 0 4294967295))) (.int .u32 k) := by
    show Value.int .u32 k = Value.int .u32 (clamp 0 4294967295 k)
    rw [clamp_id rk]
  have hM : ∀ t : T, t.den (envO k l f) = l → InB (envO k l f) (fun _ => z) [.arr 11 t [⟨.i .u8, 1, .v 2 0 255⟩]] w := fun t ht => by
    refine ⟨fun i b hi => ?_, fun i j bi bj hi hj _ _ _ => ?_⟩
    · cases i with
      | zero => cases hi; exact (hx t ht).2
      | succ i => cases hi
    · have one : ∀ (i : Nat) (b : Bk), [Bk.arr 11 t [⟨.i .u8, 1, .v 2 0 255⟩]][i]? = some b → i = 0 := fun i b h => by
        cases i with
        | zero => rfl
        | succ i => cases h
      rw [one i bi hi, one j bj hj]
  have hA : ∀ t : T, t.den (envO k l f) = l → F2 (Ar (envO k l f) (fun _ => z) 1) [.c (.int .u32 (.v 0 0 4294967295)), .c (.slr 0 1 (.lit 0) t)] #[.int .u32 k, .slice a l c] := fun t ht =>
    F2.ofL (vs := [.int .u32 k, .slice a l c]) ⟨hk, (hx t ht).1, trivial⟩
  have nop : pcOk (envO k l f) [] := fun _ h => nomatch h
  by_cases h9 : l < 9
  · have : l = 0 ∨ l = 1 ∨ l = 2 ∨ l = 3 ∨ l = 4 ∨ l = 5 ∨ l = 6 ∨ l = 7 ∨ l = 8 := by omega
    rcases this with e | e | e | e | e | e | e | e | e
    · exact law4000 (envO k l f) (fun _ => z) _ w rfl nop (hA (.lit 0) (by rw [e]; rfl)) (hM (.lit 0) (by rw [e]; rfl))
    · exact law4001 (envO k l f) (fun _ => z) _ w rfl nop (hA (.lit 1) (by rw [e]; rfl)) (hM (.lit 1) (by rw [e]; rfl))
    · exact law4002 (envO k l f) (fun _ => z) _ w rfl nop (hA (.lit 2) (by rw [e]; rfl)) (hM (.lit 2) (by rw [e]; rfl))
    · exact law4003 (envO k l f) (fun _ => z) _ w rfl nop (hA (.lit 3) (by rw [e]; rfl)) (hM (.lit 3) (by rw [e]; rfl))
    · exact law4004 (envO k l f) (fun _ => z) _ w rfl nop (hA (.lit 4) (by rw [e]; rfl)) (hM (.lit 4) (by rw [e]; rfl))
    · exact law4005 (envO k l f) (fun _ => z) _ w rfl nop (hA (.lit 5) (by rw [e]; rfl)) (hM (.lit 5) (by rw [e]; rfl))
    · exact law4006 (envO k l f) (fun _ => z) _ w rfl nop (hA (.lit 6) (by rw [e]; rfl)) (hM (.lit 6) (by rw [e]; rfl))
    · exact law4007 (envO k l f) (fun _ => z) _ w rfl nop (hA (.lit 7) (by rw [e]; rfl)) (hM (.lit 7) (by rw [e]; rfl))
    · exact law4008 (envO k l f) (fun _ => z) _ w rfl nop (hA (.lit 8) (by rw [e]; rfl)) (hM (.lit 8) (by rw [e]; rfl))
  · have hl : (T.v 1 0 9223372036854775807).den (envO k l f) = l := by
      show clamp 0 9223372036854775807 (l : Int) = l
      exact clamp_id ⟨by omega, hmax⟩
    refine law4099 (envO k l f) (fun _ => z) _ w rfl (fun q hq => ?_) (hA _ hl) (hM _ hl)
    rw [show q4099.pre = [(.bin .lt (.v 1 0 9223372036854775807) (.lit 9), false)] from rfl, List.mem_singleton] at hq
    subst hq
    show (T.bin .lt (.v 1 0 9223372036854775807) (.lit 9)).tr _ = false
    simp only [T.tr, T.den, O2.den, tb_ne] at hl ⊢
    rw [hl, ltb_f]
    omega

set_option maxRecDepth 100000 in
theorem lifted (os : Os) (started : os.Started) (H : Type) (enc : TypeId × Value → H) :
    ReturnsInHanded {} Try.checked os 4 .any (Rows.lowerCountsSpec.pre6 enc Try.prog Try.f4 Rows.lowerCountsRow.domain false) (Rows.lowerCountsSpec.post enc Try.prog Try.f4 false true false false) := by
  refine returnsInHanded_of_change (C := Try.checked) own started (by kernel_rfl) Try.func4
    (ChangeSpec.witness6 (enc := enc) (C := Try.checked) false ⟨#[], #[.int .u32 0, .slice none 0 0], []⟩ 8 (by kernel_rfl) (by kernel_rfl) (by kernel_rfl) (by kernel_rfl)) ?_
  intro W base args ds gs before hval0 hW hcnd _
  have hval : ∀ (j : Nat) t v, Try.f4.params[j]? = some t → args[j]? = some v → Value.okWide Try.prog W .any base t v := hval0
  have hW' := hW
  have hlt := fun p hp => hW.lt p hp
  obtain ⟨p, q, hA0, hV, rfl, hfz, hnd⟩ := hW
  have hA : DataW.TrodAll enc Try.prog W 0 (fun _ => true) true Try.f4.params.toList args.toList ds p := hA0
  rw [Try.params4] at hA hval
  obtain ⟨v0, vs0, d0, ds0, p0, q0, hargs, rfl, rfl, h0, r0⟩ := trodAll_cons hA
  obtain ⟨v1, vs1, d1, ds1, p1, q1, rfl, rfl, rfl, h1, r1⟩ := trodAll_cons r0
  obtain ⟨rfl, rfl, rfl⟩ := trodAll_nil r1
  obtain rfl : args = #[v0, v1] := by cases args; simp_all
  obtain ⟨rfl, rfl⟩ := trodVars_none hV
  obtain ⟨k, rfl, rfl, rfl, wk⟩ := open_int Try.underlying22 (hval 0 22 v0 rfl rfl) h0
  obtain ⟨a, l, c, rfl⟩ := okWide_slice Try.underlying50 (hval 1 50 v1 rfl rfl)
  clear hA0 hval0
  simp only [List.append_nil, List.nil_append] at hW' hlt
  refine (walk W k wk a l c h1).mono fun e W' ⟨he, hg⟩ => ?_
  subst he
  have again : ∀ sp : Nat → Bool, (∀ x ∈ p1, sp x.block = true) → DataW.Trod enc Try.prog W' 0 sp true 50 (.slice a l c) d1 p1 := fun sp hs =>
    WideElems.Trod_stays (by kernel_rfl) (by kernel_rfl) (of_decide_eq_true (by kernel_rfl)) h1 (fun x hx => hg.same (hlt x hx)) hs
  exact ⟨_, rfl, post_of_below (pa := p1) (pv := []) hW' (fun _ _ _ => (trodAll_cons_mk (shut_bool Try.underlying4 _) trodAll_mk0)) (fun sp hs => by
      have := (trodAll_cons_mk (shut_int Try.underlying22 wk) (trodAll_cons_mk (again sp hs) trodAll_mk0))
      simp only [List.append_nil, List.nil_append] at this
      exact this) (fun _ _ => rfl) (List.append_nil _).symm
    hg (ok_one (by kernel_rfl) rfl (okWide_bool_mk Try.underlying4 _))⟩

theorem over : Rows.lowerCountsRow.holds Try.pinned (OpenSpec.ofChange Rows.lowerCountsSpec) :=
  OpenClaim.holds_of_wide 4 Try.f4 rfl rfl rfl rfl rfl rfl rfl ⟨rfl, rfl, rfl, rfl, rfl⟩ rfl rfl rfl rfl rfl (by kernel_rfl) Try.func4 (by kernel_rfl)
    (of_decide_eq_true (by kernel_rfl)) (by unfold Func.isWrapper; first | (rw [if_pos (by decide +kernel)]; kernel_rfl) | (rw [if_neg (by decide +kernel)]; exact ⟨rfl, rfl⟩))
    (fun os started H enc _ => lifted os started H enc)
theorem proved : Rows.LowerCountsSaid :=
  over
#print axioms proved
end Go.Proofs.Ytjblhcepokioeaa.lowerCounts
