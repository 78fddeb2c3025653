/- The Go function of 'Rows.TextNumbersCardSaid' answers true at every input: numbers are read as they are written, of jumps with their sign. Condition, as the card says it: package variables of Go's library stand as the program's text lays them. -/
import Derived.Test.YtjfcnhfpnjcjaaaGreatDoorRows
import Derived.Test.YtjfcnhfpnjcjaaaGreatDoorTie
import Derived.Test.YtjfcnhfpnjcjaaaGreatDoorCards
import Derived.WalkKit
import Derived.ProofKit
import Derived.OpenShut
import Derived.Below
import Derived.ChangeSame
import Derived.KernelRfl
import Derived.LaidMore
import Derived.Lay
import Derived.SevenTiedAt
import Derived.Stop.Joined
import Derived.Stop.LaidErr
import Derived.Lib.LaidTab
import Derived.Test.YtjfcnhfpnjcjaaaGreatDoorQyZd4
import Derived.Test.YtjfcnhfpnjcjaaaGreatDoorTnE
namespace Go.Proofs.YtjfcnhfpnjcjaaaGreatDoor.textNumbers
open Go.ChangeShapes Go.WideShapes Go.ChangeAt Go.RowKit
set_option maxRecDepth 100000

theorem own : ownKnob Tryz.prog.godebug = none := by kernel_rfl
section
variable {H : Type} {enc : TypeId × Value → H} {P : Program}
theorem post_of_below {f : Func} {s : ChangeSpec} {apart fresh handsOn again : Bool} {W W' : World} {args : Array Value} {v : Value} {ds gs : List (DataW H)} {before pa pv : List MemPlace}
    (hW : DataW.Whole enc P f.params.toList s.vars apart W args.toList ds gs before)
    (hres : ∀ (b : Nat) (sp : Nat → Bool) (hd : Bool), DataW.TrodAll enc P W' b sp hd f.resultTypes.toList (v.resultList f.resultTypes.size) (s.fn H (ds ++ gs)).results [])
    (hargs : ∀ sp : Nat → Bool, (∀ p ∈ before, sp p.block = true) → DataW.TrodAll enc P W' 0 sp true f.params.toList args.toList (s.fn H (ds ++ gs)).args pa)
    (hvars : ∀ sp : Nat → Bool, (∀ p ∈ before, sp p.block = true) → DataW.TrodVars enc P W' sp s.vars (s.fn H (ds ++ gs)).vars pv)
    (hps : before = pa ++ pv) (hb : Below W.heap.size W W')
    (hok : ∀ (j : Nat) (t : TypeId) (r : Value), f.resultTypes[j]? = some t → (v.resultList f.resultTypes.size)[j]? = some r → Value.okWide P W' .any 0 t r) :
    s.post enc P f apart fresh handsOn again W args v W' := by
  have hlt : ∀ p ∈ before, p.block < W.heap.size := fun p hp => hW.lt p hp
  have hold : ∀ p ∈ before, (fun b => decide (b < W.heap.size)) p.block = true := fun p hp => by simpa using hlt p hp
  refine ⟨ds, gs, before, [], pa, pv, hW, hres _ _ _, hargs _ hold, hvars _ hold, World.keptBut_mono (fun p hp => ⟨hp, ?_⟩) (hb.frame (· ∈ before)), fun _ => ?_⟩
  · rw [hps, List.mem_append] at hp
    exact Or.inr hp
  · obtain ⟨_, _, _, _, _, hz, hn⟩ := hW
    refine ⟨hok, _, _, ([] ++ pa) ++ pv, ⟨[] ++ pa, pv, trodAll_append (hargs _ (fun _ _ => rfl)) (hres _ _ _), hvars _ (fun _ _ => rfl), rfl, ?_, ?_⟩, ?_⟩
    · intro b off hp
      have hin : MemPlace.cell b off ∈ before := by rw [hps]; simpa using hp
      rw [hb.frozen (hlt _ hin)]
      exact hz b off hin
    · intro ha
      have := hn ha
      rw [hps] at this
      simpa using this
    · intro p hp _
      rw [hps]
      simpa using hp
end

/-! package variables -/
theorem heap_of_var {P : Program} {w : World} {n : String} {g : Nat} {cs : Array Value} (hg : P.globalNamed n = some g) (h : w.var? P n = some cs) : ∃ ty fz, w.heap[g]? = some (.cells cs ty fz) := by
  simp only [World.var?, hg, Option.bind_some] at h
  split at h
  · rename_i cs' ty fz hh
    cases h
    exact ⟨ty, fz, hh⟩
  · cases h
def z1 : List Int := [1, 10, 100, 1000, 10000, 100000, 1000000, 10000000, 100000000, 1000000000, 10000000000, 100000000000, 1000000000000, 10000000000000, 100000000000000, 1000000000000000, 10000000000000000, 100000000000000000, 1000000000000000000, 10000000000000000000]
def z6 : List Int := [0, 1, 28, 2, 29, 14, 24, 3, 30, 22, 20, 15, 25, 17, 4, 8, 31, 27, 13, 23, 21, 19, 16, 7, 26, 12, 18, 6, 11, 5, 10, 9]
def z7 : List Int := [0, 1, 56, 2, 57, 49, 28, 3, 61, 58, 42, 50, 38, 29, 17, 4, 62, 47, 59, 36, 45, 43, 51, 22, 53, 39, 33, 30, 24, 18, 12, 5, 63, 55, 48, 27, 60, 41, 37, 16, 46, 35, 44, 21, 52, 32, 23, 11, 54, 26, 40, 15, 34, 20, 31, 10, 25, 14, 19, 9, 13, 8, 7, 6]
theorem tab_at {n : Nat} {t : E3.Tri E3.C} {k : IntKind} {zs : List Int} (hz : zs.length = n) (hc : ((List.range n).all fun i => match E3.cellAt n [] t i with | some (.int k' (.lit m)) => decide (k' = k) && m == zs.getD i 0 | none => true | _ => false) = true) {i : Nat} {x : E3.C} (hx : E3.cellAt n [] t i = some x) :
    ∀ (E' : Sy.Env) (ρ : E3.Pt → E3.Rb) (D : E3.Pt → Prop), x.ok E' ρ D ∧ (zs.map fun z => Value.int k z).toArray[i]? = some (x.val E' ρ) := by
  have hi : i < n := by
    unfold E3.cellAt at hx
    cases hb : Nat.ble n i <;> simp only [hb, cond_true, cond_false] at hx
    · rcases Nat.lt_or_ge i n with h1 | h1
      · exact h1
      · rw [ge_iff_le, ← Nat.ble_eq, hb] at h1; cases h1
    · cases hx
  have h1 := List.all_eq_true.1 hc i (List.mem_range.2 hi)
  rw [hx] at h1
  intro E' ρ D
  split at h1
  · rename_i k' m hm
    cases hm
    rw [Bool.and_eq_true, decide_eq_true_eq, beq_iff_eq] at h1
    obtain ⟨rfl, rfl⟩ := h1
    refine ⟨trivial, ?_⟩
    simp [List.getD, E3.C.val, Sy.T.den, hz, hi]
  · rename_i hm; cases hm
  · cases h1
theorem chk1 : ((List.range 20).all fun i => match E3.cellAt 20 [] E3.g1 i with | some (.int k' (.lit m)) => decide (k' = .u64) && m == z1.getD i 0 | none => true | _ => false) = true := by kernel_rfl
theorem chk6 : ((List.range 32).all fun i => match E3.cellAt 32 [] E3.g6 i with | some (.int k' (.lit m)) => decide (k' = .u8) && m == z6.getD i 0 | none => true | _ => false) = true := by kernel_rfl
theorem chk7 : ((List.range 64).all fun i => match E3.cellAt 64 [] E3.g7 i with | some (.int k' (.lit m)) => decide (k' = .u8) && m == z7.getD i 0 | none => true | _ => false) = true := by kernel_rfl
/-- Nothing is told of variables from the eighth on. -/
theorem gTab_far {g : Nat} (h : 8 ≤ g) : E3.gTab.get (E3.path g) = none := by
  have hn := E3.path_num g
  generalize E3.path g = p at hn
  unfold E3.gTab
  cases p with
  | z => simp [E3.Pt.num] at hn; omega
  | l p => cases p with
    | z => simp [E3.Pt.num] at hn; omega
    | l p => cases p with
      | z => simp [E3.Pt.num] at hn; omega
      | l p => cases p with
        | z => simp [E3.Pt.num] at hn; omega
        | l p => cases p <;> rfl
        | r p => cases p <;> rfl
      | r p => cases p <;> rfl
    | r p => cases p with
      | z => simp [E3.Pt.num] at hn; omega
      | l p => cases p <;> rfl
      | r p => cases p <;> rfl
  | r p => cases p with
    | z => simp [E3.Pt.num] at hn; omega
    | l p => cases p with
      | z => simp [E3.Pt.num] at hn; omega
      | l p => cases p <;> rfl
      | r p => cases p <;> rfl
    | r p => cases p with
      | z => simp [E3.Pt.num] at hn; omega
      | l p => cases p <;> rfl
      | r p => cases p <;> rfl
/-- What the condition gives the runs. -/
theorem gg_of_laid {W : World} (h : laidMetH Tryz.prog Rows.textNumbersRow.laid W) : ∃ V : Nat → Value, ∀ (E : Sy.Env) (ρ : E3.Pt → E3.Rb), E.V = V → E3.GG E ρ (fun _ => False) W := by
  rw [MakeChecks.laidMetH_plain _ _ _ (by kernel_rfl)] at h
  have h6 : laidMet Tryz.prog (("math/bits.deBruijn32tab", Lib.tabData .u8 z6) :: Rows.textNumbersRow.laid.tail) W := h
  have t6 := Lib.tabIs_of_head (g := 6) (by kernel_rfl) (by kernel_rfl) Tryz.underlying199 Tryz.underlying5 (by kernel_rfl) (by kernel_rfl) h6
  have h7 : laidMet Tryz.prog (("math/bits.deBruijn64tab", Lib.tabData .u8 z7) :: Rows.textNumbersRow.laid.tail.tail) W := h6.tail
  have t7 := Lib.tabIs_of_head (g := 7) (by kernel_rfl) (by kernel_rfl) Tryz.underlying200 Tryz.underlying5 (by kernel_rfl) (by kernel_rfl) h7
  have h1 : laidMet Tryz.prog (("internal/strconv.uint64pow10", Lib.tabData .u64 z1) :: Rows.textNumbersRow.laid.tail.tail.tail) W := h7.tail
  have t1 := Lib.tabIs_of_head (g := 1) (by kernel_rfl) (by kernel_rfl) Tryz.underlying164 (show Tryz.prog.underlying 75 = some (.int .u64) by kernel_rfl) (by kernel_rfl) (by kernel_rfl) h1
  have h3 : laidMet Tryz.prog (("strconv.ErrRange", Rows.laid_strconv_ErrRange) :: Rows.textNumbersRow.laid.tail.tail.tail.tail.tail) W := h1.tail.tail
  have h2 : laidMet Tryz.prog (("strconv.ErrSyntax", Rows.laid_strconv_ErrSyntax) :: Rows.textNumbersRow.laid.tail.tail.tail.tail.tail.tail) W := h3.tail
  obtain ⟨_, ⟨g3, s3, c3, f3, p3, q3, hg3, hs3, hv3, hd3, _⟩, _⟩ := h3
  obtain ⟨_, ⟨g2, s2, c2, f2, p2, q2, hg2, hs2, hv2, hd2, _⟩, _⟩ := h2
  obtain rfl := Option.some.inj ((show Tryz.prog.globalNamed "strconv.ErrRange" = some 3 by kernel_rfl).symm.trans hg3)
  obtain rfl := Option.some.inj ((show Tryz.prog.globalNamed "strconv.ErrSyntax" = some 2 by kernel_rfl).symm.trans hg2)
  obtain rfl := Option.some.inj ((show (Tryz.prog.globals[3]?).map (·.type) = some 86 by kernel_rfl).symm.trans hs3)
  obtain rfl := Option.some.inj ((show (Tryz.prog.globals[2]?).map (·.type) = some 86 by kernel_rfl).symm.trans hs2)
  obtain ⟨_, u3, v3, e3, _⟩ := iface_of_trod Tryz.underlying86 hd3
  obtain ⟨_, u2, v2, e2, _⟩ := iface_of_trod Tryz.underlying86 hd2
  obtain ⟨y1, z1', k1⟩ := heap_of_var (g := 1) (by kernel_rfl) t1
  obtain ⟨y6, z6', k6⟩ := heap_of_var (g := 6) (by kernel_rfl) t6
  obtain ⟨y7, z7', k7⟩ := heap_of_var (g := 7) (by kernel_rfl) t7
  obtain ⟨y2, z2', k2⟩ := heap_of_var hg2 hv2
  obtain ⟨y3, z3', k3⟩ := heap_of_var hg3 hv3
  refine ⟨fun i => if i = 0 then .iface u2 v2 else .iface u3 v3, fun E ρ hV => ⟨fun g n t hg => ?_, fun _ _ _ _ hb => hb.elim⟩⟩
  have one : ∀ (i : Nat) (x : Value), (∃ u v, x = .iface u v) → ∀ (cs : Array Value), cs.toList = [x] → (E.V i = x) → ∀ (j : Nat) (c : E3.C), E3.cellAt 1 [] (.n (some (.any i)) .e .e) j = some c → ∀ (E' : Sy.Env) (ρ : E3.Pt → E3.Rb) (D : E3.Pt → Prop), E'.V = E.V → c.ok E' ρ D ∧ cs[j]? = some (c.val E' ρ) := by
    intro i x hx cs hcs hvi j c hc E' ρ D hE
    have hj : j = 0 := by
      unfold E3.cellAt at hc
      cases hb : Nat.ble 1 j <;> simp only [hb, cond_true, cond_false] at hc
      · have : ¬ 1 ≤ j := fun h => by rw [← Nat.ble_eq, hb] at h; cases h
        omega
      · cases hc
    subst hj
    have hc' : some (E3.C.any i) = some c := hc
    cases hc'
    obtain ⟨u, v, rfl⟩ := hx
    refine ⟨?_, ?_⟩
    · show (E'.V i).oneCell' = true
      rw [hE, hvi]; rfl
    · show cs[0]? = some (E'.V i)
      rw [hE, hvi, ← Array.getElem?_toList, hcs]; rfl
  have hcase : g = 1 ∨ g = 2 ∨ g = 3 ∨ g = 6 ∨ g = 7 ∨ (g = 0 ∨ g = 4 ∨ g = 5) ∨ 8 ≤ g := by omega
  rcases hcase with rfl | rfl | rfl | rfl | rfl | hx | hx
  · have hg' : some (20, E3.g1) = some (n, t) := hg
    cases hg'
    exact ⟨_, y1, z1', k1, fun i x hx E' ρ D _ => tab_at (by kernel_rfl) chk1 hx E' ρ D⟩
  · have hg' : some (1, E3.g2) = some (n, t) := hg
    cases hg'
    exact ⟨_, y2, z2', k2, fun i x hx => one 0 (.iface u2 v2) ⟨_, _, rfl⟩ _ e2 (by rw [hV]; rfl) i x hx⟩
  · have hg' : some (1, E3.g3) = some (n, t) := hg
    cases hg'
    exact ⟨_, y3, z3', k3, fun i x hx => one 1 (.iface u3 v3) ⟨_, _, rfl⟩ _ e3 (by rw [hV]; rfl) i x hx⟩
  · have hg' : some (32, E3.g6) = some (n, t) := hg
    cases hg'
    exact ⟨_, y6, z6', k6, fun i x hx E' ρ D _ => tab_at (by kernel_rfl) chk6 hx E' ρ D⟩
  · have hg' : some (64, E3.g7) = some (n, t) := hg
    cases hg'
    exact ⟨_, y7, z7', k7, fun i x hx E' ρ D _ => tab_at (by kernel_rfl) chk7 hx E' ρ D⟩
  · rcases hx with rfl | rfl | rfl
    · have hg' : (none : Option (Nat × E3.Tri E3.C)) = some (n, t) := hg
      cases hg'
    · have hg' : (none : Option (Nat × E3.Tri E3.C)) = some (n, t) := hg
      cases hg'
    · have hg' : (none : Option (Nat × E3.Tri E3.C)) = some (n, t) := hg
      cases hg'
  · rw [gTab_far hx] at hg
    cases hg
theorem tmod_lt {a m : Int} (h0 : 0 ≤ a) (hm : 0 < m) : ∃ k : Nat, (k : Int) < m ∧ a.tmod m = k := by
  have h1 := Int.tmod_lt_of_pos a hm
  have h2 := Int.tmod_nonneg m h0
  exact ⟨(a.tmod m).toNat, by omega, by omega⟩
/-! the walk: by the runs -/
theorem walk (a0 : Int) (a1 : Int) (w0 : (Lit.int .u32 a0).wf = true) (w1 : (Lit.int .u8 a1).wf = true) (w : World) (hL : laidMetH Tryz.prog Rows.textNumbersRow.laid w) :
    Calls Tryz.prog 3 #[.int .u32 a0, .int .u8 a1] w fun e w' => e = .returned (.bool true) ∧ Below w.heap.size w w' := by
  have r0 : 0 ≤ a0 ∧ a0 ≤ 4294967295 := E3.int_range w0
  have r1 : 0 ≤ a1 ∧ a1 ≤ 255 := E3.int_range w1
  obtain ⟨V, hV⟩ := gg_of_laid hL
  obtain ⟨j, hj, ej⟩ := tmod_lt (m := 8) r1.1 (by decide)
  obtain ⟨lo, hi, b0, b1, -, -, hc⟩ := TextN.laws a0 r0.1 r0.2 j (by omega)
  let E : Sy.Env := ⟨fun i => if i = 0 then ⟨a0, fun _ => a0⟩ else ⟨a1, fun _ => a1⟩, fun _ _ => [], V⟩
  have c0 : (Sy.T.v 0 lo hi).den E = a0 := Sy.clamp_id ⟨b0, b1⟩
  have c1 : (Sy.T.v 1 0 255).den E = a1 := Sy.clamp_id r1
  have hp : Sy.pcOk E (TextN.law lo hi j).pc := by
    intro q hq
    have hq' : q ∈ [((Sy.T.bin .eq (.bin .tmod (.v 1 0 255) (.lit 8)) (.lit (j : Int))), true)] := hq
    simp only [List.mem_cons, List.not_mem_nil, or_false] at hq'
    subst hq'
    show (Sy.T.bin .eq (.bin .tmod (.v 1 0 255) (.lit 8)) (.lit j)).tr E = true
    have : (Sy.T.bin .tmod (.v 1 0 255) (.lit 8)).den E = (j : Int) := by
      show ((Sy.T.v 1 0 255).den E).tmod 8 = _
      rw [c1]; exact ej
    simp only [Sy.T.tr, Sy.T.den, Sy.O2.den, Sy.tb_ne] at this ⊢
    rw [this]; exact beq_self_eq_true _
  have q := (hc.2.2 E (fun _ => default) w hp (fun l hl => by
    have hl' : l ∈ [E3.L.a (.c (.int .u32 (.v 0 lo hi))), E3.L.a (.c (.int .u8 (.v 1 0 255)))] := hl
    simp only [List.mem_cons, List.not_mem_nil, or_false] at hl'
    rcases hl' with rfl | rfl <;> trivial) (hV E _ rfl)).2
  have ea : ((TextN.law lo hi j).ps.map (E3.L.val E fun _ => default)).toArray = #[.int .u32 a0, .int .u8 a1] := by
    show #[Value.int .u32 ((Sy.T.v 0 lo hi).den E), Value.int .u8 ((Sy.T.v 1 0 255).den E)] = _
    rw [c0, c1]
  rw [ea] at q
  exact Calls.mono q fun e w' ⟨h1, _, h2⟩ => ⟨h1, ⟨h2.os, h2.tape, h2.output, h2.size, h2.heap⟩⟩
/-! ### THE ROW's STEP: WRITTEN OUT: LEAVE IT -/
set_option maxRecDepth 100000 in
theorem lifted (os : Os) (started : os.Started) (H : Type) (enc : TypeId × Value → H) :
    ReturnsInHanded {} Tryz.checked os 3 .any (fun w args => (Rows.textNumbersSpec.pre enc Tryz.prog Tryz.f3 Rows.textNumbersRow.domain false w args ∧ laidMetH Tryz.prog Rows.textNumbersRow.laid w) ∧ sizedMet enc Tryz.prog Tryz.f3 (OpenSpec.ofChange Rows.textNumbersSpec) false w args) (Rows.textNumbersSpec.post enc Tryz.prog Tryz.f3 false true false false) := by
  refine returnsInHanded_of_change_and (C := Tryz.checked) (X := fun w _ => laidMetH Tryz.prog Rows.textNumbersRow.laid w) (fun _ _ _ hh h => h.of_heap hh) own started (by kernel_rfl) Tryz.func3
    (ChangeSpec.witness_shaped (enc := enc) (C := Tryz.checked) (os := os) (X := fun w _ => laidMetH Tryz.prog Rows.textNumbersRow.laid w) false (World.laidAll Tryz.prog os Rows.textNumbersRow.laid) #[.int .u32 0, .int .u8 0] 8 (World.laidAll_os _ _ _)
      (World.shaped_of_ZipB (by kernel_rfl) (by kernel_rfl)) (by kernel_rfl) (by kernel_rfl) (by kernel_rfl)
      (by rw [MakeChecks.laidMetH_plain _ _ _ (by kernel_rfl)]; exact laidMet_laidAll _ (by kernel_rfl) (by kernel_rfl))) ?_
  intro W base args ds gs before hval0 hW _ _ hL _
  have hval : ∀ (j : Nat) t v, Tryz.f3.params[j]? = some t → args[j]? = some v → Value.okWide Tryz.prog W .any base t v := hval0
  have hW' := hW
  obtain ⟨p, q, hA0, hV, rfl, _, _⟩ := hW
  have hA : DataW.TrodAll enc Tryz.prog W 0 (fun _ => true) true Tryz.f3.params.toList args.toList ds p := hA0
  rw [Tryz.params3] at hA hval
  obtain ⟨v0, vs0, d0, ds0, p0, q0, hargs, rfl, rfl, h0, r0⟩ := trodAll_cons hA
  obtain ⟨v1, vs1, d1, ds1, p1, q1, rfl, rfl, rfl, h1, r1⟩ := trodAll_cons r0
  obtain ⟨rfl, rfl, rfl⟩ := trodAll_nil r1
  obtain rfl : args = #[v0, v1] := by cases args; simp_all
  obtain ⟨rfl, rfl⟩ := trodVars_none hV
  obtain ⟨a0, rfl, rfl, rfl, w0⟩ := open_int Tryz.underlying22 (hval 0 22 v0 rfl rfl) h0
  obtain ⟨a1, rfl, rfl, rfl, w1⟩ := open_int Tryz.underlying5 (hval 1 5 v1 rfl rfl) h1
  clear hA0 hval0
  simp only [List.append_nil] at hW'
  refine (walk a0 a1 w0 w1 W hL).mono fun e W' ⟨he, hg⟩ => ?_
  subst he
  exact ⟨_, rfl, post_of_below (pa := []) (pv := []) hW' (fun _ _ _ => (trodAll_cons_mk (shut_bool Tryz.underlying4 _) trodAll_mk0)) (fun _ _ => (trodAll_cons_mk (shut_int Tryz.underlying22 w0) (trodAll_cons_mk (shut_int Tryz.underlying5 w1) trodAll_mk0))) (fun _ _ => rfl) rfl
    hg (ok_one (by kernel_rfl) rfl (okWide_bool_mk Tryz.underlying4 _))⟩

theorem over : Rows.textNumbersRow.holds Tryz.pinned (OpenSpec.ofChange Rows.textNumbersSpec) :=
  OpenClaim.holds_of_wide 3 Tryz.f3 rfl rfl rfl rfl rfl rfl rfl ⟨rfl, rfl, rfl, rfl, rfl⟩ rfl rfl rfl rfl rfl (by kernel_rfl) Tryz.func3 (by kernel_rfl)
    (of_decide_eq_true (by kernel_rfl)) (by unfold Func.isWrapper; first | (rw [if_pos (by decide +kernel)]; kernel_rfl) | (rw [if_neg (by decide +kernel)]; exact ⟨rfl, rfl⟩))
    (fun os started H enc _ => lifted os started H enc)

theorem row : Rows.TextNumbersSaid :=
  over
theorem proved : Rows.TextNumbersCardSaid :=
  Claim7.holds_tied_plain_at .later [] [.data, .data, .data, .data, .sentinel, .sentinel, .pinned] true (true, "56ad1edb7c3460c01612029ddd58a819bce0fb62d0e8123e593bd5c7eb71ea82") true row (fun _ h => by cases h) (by kernel_rfl) (fun _ h => by cases h) textNumbers_row_tie rfl ⟨rfl, rfl⟩ (by kernel_rfl) rfl
    (fun f fn hf hfn => by
      obtain rfl : f = 3 := Option.some.inj ((show Tryz.prog.funcNamed "ferryman/ferrymanlaw27.TextNumbers" = some 3 by kernel_rfl).symm.trans hf) |>.symm
      obtain rfl : fn = Tryz.f3 := (Option.some.inj (Tryz.func3.symm.trans hfn)).symm
      exact ⟨by kernel_rfl, fun j t ht => by
        rw [Tryz.params3] at ht
        have hm : t ∈ [22, 5] := by simpa using Array.mem_of_getElem? ht
        have hall : ([22, 5].all fun u => !Tryz.prog.wantsStandIn u) = true := by kernel_rfl
        exact (show Tryz.prog.wantsStandIn t = false by simpa using List.all_eq_true.1 hall t hm)⟩)
    (by kernel_rfl)
#print axioms proved
end Go.Proofs.YtjfcnhfpnjcjaaaGreatDoor.textNumbers

