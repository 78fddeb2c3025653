/- The Go function of 'Rows.LiveSureSaid' answers true at every input: the flags that an instruction is sure to write come out the same, whatever the flags were. No condition. -/
import Derived.Test.YtddfbikeaipepaaRows
import Derived.WalkKit
import Derived.ProofKit
import Derived.OpenShut
import Derived.Below
import Derived.ChangeSame
import Derived.KernelRfl
import Derived.Test.YtddfbikeaipepaaSureA
namespace Go.Proofs.Ytddfbikeaipepaa.liveSure
open Go.ChangeShapes Go.WideShapes Go.ChangeAt Go.RowKit Go.Sy
theorem own : ownKnob Try.prog.godebug = none := by kernel_rfl
section
variable {H : Type} {enc : TypeId × Value → H} {P : Program}
theorem post_of_below {f : Func} {s : ChangeSpec} {apart fresh handsOn again : Bool} {W W' : World} {args : Array Value} {v : Value} {ds gs : List (DataW H)} {before pa pv : List MemPlace}
    (hW : DataW.Whole enc P f.params.toList s.vars apart W args.toList ds gs before)
    (hres : ∀ (b : Nat) (sp : Nat → Bool) (hd : Bool), DataW.TrodAll enc P W' b sp hd f.resultTypes.toList (v.resultList f.resultTypes.size) (s.fn H (ds ++ gs)).results [])
    (hargs : ∀ sp : Nat → Bool, (∀ p ∈ before, sp p.block = true) → DataW.TrodAll enc P W' 0 sp true f.params.toList args.toList (s.fn H (ds ++ gs)).args pa)
    (hvars : ∀ sp : Nat → Bool, (∀ p ∈ before, sp p.block = true) → DataW.TrodVars enc P W' sp s.vars (s.fn H (ds ++ gs)).vars pv)
    (hps : before = pa ++ pv) (hb : Below W.heap.size W W')
    (hok : ∀ (j : Nat) (t : TypeId) (r : Value), f.resultTypes[j]? = some t → (v.resultList f.resultTypes.size)[j]? = some r → Value.okWide P W' .any 0 t r) :
    s.post enc P f apart fresh handsOn again W args v W' := by
  have hlt : ∀ p ∈ before, p.block < W.heap.size := fun p hp => hW.lt p hp
  have hold : ∀ p ∈ before, (fun b => decide (b < W.heap.size)) p.block = true := fun p hp => by simpa using hlt p hp
  refine ⟨ds, gs, before, [], pa, pv, hW, hres _ _ _, hargs _ hold, hvars _ hold, World.keptBut_mono (fun p hp => ⟨hp, ?_⟩) (hb.frame (· ∈ before)), fun _ => ?_⟩
  · rw [hps, List.mem_append] at hp
    exact Or.inr hp
  · obtain ⟨_, _, _, _, _, hz, hn⟩ := hW
    refine ⟨hok, _, _, ([] ++ pa) ++ pv, ⟨[] ++ pa, pv, trodAll_append (hargs _ (fun _ _ => rfl)) (hres _ _ _), hvars _ (fun _ _ => rfl), rfl, ?_, ?_⟩, ?_⟩
    · intro b off hp
      have hin : MemPlace.cell b off ∈ before := by rw [hps]; simpa using hp
      rw [hb.frozen (hlt _ hin)]
      exact hz b off hin
    · intro ha
      have := hn ha
      rw [hps] at this
      simpa using this
    · intro p hp _
      rw [hps]
      simpa using hp
end

theorem flatInsn : flat Try.prog 4 32 = some insnK := by kernel_rfl
theorem flatSt : flat Try.prog 4 43 = some stK := by kernel_rfl
theorem flatFl : flat Try.prog 4 40 = some flK := by kernel_rfl
def k2 : T := .bin .eq (.v 8 (-9223372036854775808) 9223372036854775807) (.lit 2)
def lo31 : T := .bin (.band .u32) (.v 10 0 4294967295) (.lit 31)
def E0 (cs1 cs2 cs3 : List Value) : Env := envOf (cs1.map cellInt ++ cs2.map cellInt ++ cs3.map cellInt)
theorem three (E : Env) : (T.bin .and k2 (.un .not (.bin .eq lo31 (.lit 0)))).tr E = false ∨ (k2.tr E = true ∧ (T.bin .eq lo31 (.lit 1)).tr E = true) ∨ (k2.tr E = true ∧ (T.bin .eq lo31 (.lit 1)).tr E = false ∧ (T.bin .eq lo31 (.lit 0)).tr E = false) := by
  have hand : ∀ a b : T, (T.bin .and a b).tr E = (a.tr E && b.tr E) := fun a b => by simp only [T.tr, T.den, O2.den, tb_ne]
  have hnot : ∀ a : T, (T.un .not a).tr E = !(a.tr E) := fun a => by simp only [T.tr, T.den, O1.den, tb_ne]; cases h : a.den E == 0 <;> simp_all
  rw [hand, hnot]
  cases k2.tr E <;> cases (T.bin .eq lo31 (.lit 0)).tr E <;> cases (T.bin .eq lo31 (.lit 1)).tr E <;> simp
theorem pre1 {E : Env} (h : (T.bin .and k2 (.un .not (.bin .eq lo31 (.lit 0)))).tr E = false) : pcOk E [(.bin .and k2 (.un .not (.bin .eq lo31 (.lit 0))), false)] := fun p hp => by
  rw [List.mem_singleton] at hp; subst hp; exact h
theorem pre2 {E : Env} (h1 : k2.tr E = true) (h2 : (T.bin .eq lo31 (.lit 1)).tr E = true) : pcOk E [(k2, true), (.bin .eq lo31 (.lit 1), true)] := fun p hp => by
  rcases List.mem_cons.1 hp with rfl | hp
  · exact h1
  · rw [List.mem_singleton] at hp; subst hp; exact h2
theorem pre3 {E : Env} (h1 : k2.tr E = true) (h2 : (T.bin .eq lo31 (.lit 1)).tr E = false) (h3 : (T.bin .eq lo31 (.lit 0)).tr E = false) : pcOk E [(k2, true), (.bin .eq lo31 (.lit 1), false), (.bin .eq lo31 (.lit 0), false)] := fun p hp => by
  rcases List.mem_cons.1 hp with rfl | hp
  · exact h1
  rcases List.mem_cons.1 hp with rfl | hp
  · exact h2
  · rw [List.mem_singleton] at hp; subst hp; exact h3
theorem all54 (x : Int) (h0 : 0 ≤ x) (h1 : x < 54) : x = 0 ∨ x = 1 ∨ x = 2 ∨ x = 3 ∨ x = 4 ∨ x = 5 ∨ x = 6 ∨ x = 7 ∨ x = 8 ∨ x = 9 ∨ x = 10 ∨ x = 11 ∨ x = 12 ∨ x = 13 ∨ x = 14 ∨ x = 15 ∨ x = 16 ∨ x = 17 ∨ x = 18 ∨ x = 19 ∨ x = 20 ∨ x = 21 ∨ x = 22 ∨ x = 23 ∨ x = 24 ∨ x = 25 ∨ x = 26 ∨ x = 27 ∨ x = 28 ∨ x = 29 ∨ x = 30 ∨ x = 31 ∨ x = 32 ∨ x = 33 ∨ x = 34 ∨ x = 35 ∨ x = 36 ∨ x = 37 ∨ x = 38 ∨ x = 39 ∨ x = 40 ∨ x = 41 ∨ x = 42 ∨ x = 43 ∨ x = 44 ∨ x = 45 ∨ x = 46 ∨ x = 47 ∨ x = 48 ∨ x = 49 ∨ x = 50 ∨ x = 51 ∨ x = 52 ∨ x = 53 := by omega
theorem walk (cs1 cs2 cs3 : List Value) (k1 : KOk insnK cs1) (k2' : KOk stK cs2) (k3 : KOk flK cs3) (w : World) :
    Calls Try.prog 6 #[.agg cs1.toArray, .agg cs2.toArray, .agg cs3.toArray] w fun e w' => e = .returned (.bool true) ∧ Below w.heap.size w w' := by
  have l1 : cs1.length = 16 := k1.length.trans (by decide)
  have l2 : cs2.length = 17 := k2'.length.trans (by decide)
  have l3 : cs3.length = 6 := k3.length.trans (by decide)
  have g1 : ∀ j v, cs1[j]? = some v → (cs1.map cellInt ++ cs2.map cellInt ++ cs3.map cellInt).getD j 0 = cellInt v := fun j v hj => by
    have hlt := (List.getElem?_eq_some_iff.1 hj).1
    rw [List.getD_eq_getElem?_getD, List.append_assoc, List.getElem?_append_left (by rw [List.length_map]; exact hlt), List.getElem?_map, hj]; rfl
  have g2 : ∀ j v, cs2[j]? = some v → (cs1.map cellInt ++ cs2.map cellInt ++ cs3.map cellInt).getD (16 + j) 0 = cellInt v := fun j v hj => by
    have hlt := (List.getElem?_eq_some_iff.1 hj).1
    rw [List.getD_eq_getElem?_getD, List.append_assoc, List.getElem?_append_right (by rw [List.length_map]; omega), List.length_map, l1, show 16 + j - 16 = j by omega, List.getElem?_append_left (by rw [List.length_map]; exact hlt), List.getElem?_map, hj]; rfl
  have g3 : ∀ j v, cs3[j]? = some v → (cs1.map cellInt ++ cs2.map cellInt ++ cs3.map cellInt).getD (33 + j) 0 = cellInt v := fun j v hj => by
    rw [List.getD_eq_getElem?_getD, List.getElem?_append_right (by rw [List.length_append, List.length_map, List.length_map]; omega), List.length_append, List.length_map, List.length_map, l1, l2, show 33 + j - (16 + 17) = j by omega, List.getElem?_map, hj]; rfl
  have hS : Ar (E0 cs1 cs2 cs3) (fun _ => default) 0 (.agg (symK 16 stK)) (.agg cs2.toArray) := agg_ok (symK_ok k2' g2)
  have hF : Ar (E0 cs1 cs2 cs3) (fun _ => default) 0 (.agg (symK 33 flK)) (.agg cs3.toArray) := agg_ok (symK_ok k3 g3)
  have hI0 : Ar (E0 cs1 cs2 cs3) (fun _ => default) 0 (.agg (symK 0 insnK)) (.agg cs1.toArray) := agg_ok (symK_ok k1 fun j v hj => by rw [Nat.zero_add]; exact g1 j v hj)
  obtain ⟨v0, t1, rfl⟩ : ∃ v t, cs1 = v :: t := by cases cs1 with
    | nil => simp at l1
    | cons v t => exact ⟨v, t, rfl⟩
  obtain ⟨⟨x, rfl, wx⟩, kt⟩ : (∃ n, v0 = .int .i64 n ∧ (Lit.int .i64 n).wf = true) ∧ KOk (insnK.drop 1) t1 := k1
  have ins : ∀ n : Int, x = n → Ar (E0 (.int .i64 x :: t1) cs2 cs3) (fun _ => default) 0 (insO n) (.agg (Value.int .i64 x :: t1).toArray) := fun n hn => by
    subst hn
    exact agg_ok (vs := .int .i64 x :: t1) ⟨rfl, symK_ok kt fun j v hj => by rw [show 1 + j = j + 1 by omega]; exact g1 (j + 1) v (by simpa using hj)⟩
  have den0 : (T.v 0 (-9223372036854775808) 9223372036854775807).den (E0 (.int .i64 x :: t1) cs2 cs3) = x := by
    show clamp _ _ x = x
    exact clamp_id (int_range wx)
  have fact : ∀ (n : Int) (b : Bool), ltb x n = b → pcOk (E0 (.int .i64 x :: t1) cs2 cs3) [(.bin .lt (.v 0 (-9223372036854775808) 9223372036854775807) (.lit n), b)] := fun n b hb p hp => by
    rw [List.mem_singleton] at hp; subst hp
    show (T.bin .lt (.v 0 (-9223372036854775808) 9223372036854775807) (.lit n)).tr _ = b
    simp only [T.tr, T.den, O2.den, tb_ne]
    have := den0
    simp only [T.den] at this
    rw [this]; exact hb
  by_cases hneg : x < 0
  · exact law6100 rfl (fact 0 true (by rw [ltb_t]; exact hneg)) (F2.ofL (vs := [.agg _, .agg cs2.toArray, .agg cs3.toArray]) ⟨hI0, hS, hF, trivial⟩) w
  by_cases hbig : 54 ≤ x
  · exact law6101 rfl (fact 54 false (by rw [ltb_f]; exact hbig)) (F2.ofL (vs := [.agg _, .agg cs2.toArray, .agg cs3.toArray]) ⟨hI0, hS, hF, trivial⟩) w
  rcases all54 x (by omega) (by omega) with rfl | rfl | rfl | rfl | rfl | rfl | rfl | rfl | rfl | rfl | rfl | rfl | rfl | rfl | rfl | rfl | rfl | rfl | rfl | rfl | rfl | rfl | rfl | rfl | rfl | rfl | rfl | rfl | rfl | rfl | rfl | rfl | rfl | rfl | rfl | rfl | rfl | rfl | rfl | rfl | rfl | rfl | rfl | rfl | rfl | rfl | rfl | rfl | rfl | rfl | rfl | rfl | rfl | rfl
  · exact law6000 rfl (fun _ h => nomatch h) (F2.ofL (vs := [.agg _, .agg cs2.toArray, .agg cs3.toArray]) ⟨ins 0 rfl, hS, hF, trivial⟩) w
  · exact law6001 rfl (fun _ h => nomatch h) (F2.ofL (vs := [.agg _, .agg cs2.toArray, .agg cs3.toArray]) ⟨ins 1 rfl, hS, hF, trivial⟩) w
  · exact law6002 rfl (fun _ h => nomatch h) (F2.ofL (vs := [.agg _, .agg cs2.toArray, .agg cs3.toArray]) ⟨ins 2 rfl, hS, hF, trivial⟩) w
  · exact law6003 rfl (fun _ h => nomatch h) (F2.ofL (vs := [.agg _, .agg cs2.toArray, .agg cs3.toArray]) ⟨ins 3 rfl, hS, hF, trivial⟩) w
  · exact law6004 rfl (fun _ h => nomatch h) (F2.ofL (vs := [.agg _, .agg cs2.toArray, .agg cs3.toArray]) ⟨ins 4 rfl, hS, hF, trivial⟩) w
  · exact law6005 rfl (fun _ h => nomatch h) (F2.ofL (vs := [.agg _, .agg cs2.toArray, .agg cs3.toArray]) ⟨ins 5 rfl, hS, hF, trivial⟩) w
  · exact law6006 rfl (fun _ h => nomatch h) (F2.ofL (vs := [.agg _, .agg cs2.toArray, .agg cs3.toArray]) ⟨ins 6 rfl, hS, hF, trivial⟩) w
  · exact law6007 rfl (fun _ h => nomatch h) (F2.ofL (vs := [.agg _, .agg cs2.toArray, .agg cs3.toArray]) ⟨ins 7 rfl, hS, hF, trivial⟩) w
  · exact law6008 rfl (fun _ h => nomatch h) (F2.ofL (vs := [.agg _, .agg cs2.toArray, .agg cs3.toArray]) ⟨ins 8 rfl, hS, hF, trivial⟩) w
  · exact law6009 rfl (fun _ h => nomatch h) (F2.ofL (vs := [.agg _, .agg cs2.toArray, .agg cs3.toArray]) ⟨ins 9 rfl, hS, hF, trivial⟩) w
  · exact law6010 rfl (fun _ h => nomatch h) (F2.ofL (vs := [.agg _, .agg cs2.toArray, .agg cs3.toArray]) ⟨ins 10 rfl, hS, hF, trivial⟩) w
  · exact law6011 rfl (fun _ h => nomatch h) (F2.ofL (vs := [.agg _, .agg cs2.toArray, .agg cs3.toArray]) ⟨ins 11 rfl, hS, hF, trivial⟩) w
  · exact law6012 rfl (fun _ h => nomatch h) (F2.ofL (vs := [.agg _, .agg cs2.toArray, .agg cs3.toArray]) ⟨ins 12 rfl, hS, hF, trivial⟩) w
  · exact law6013 rfl (fun _ h => nomatch h) (F2.ofL (vs := [.agg _, .agg cs2.toArray, .agg cs3.toArray]) ⟨ins 13 rfl, hS, hF, trivial⟩) w
  · exact law6014 rfl (fun _ h => nomatch h) (F2.ofL (vs := [.agg _, .agg cs2.toArray, .agg cs3.toArray]) ⟨ins 14 rfl, hS, hF, trivial⟩) w
  · exact law6015 rfl (fun _ h => nomatch h) (F2.ofL (vs := [.agg _, .agg cs2.toArray, .agg cs3.toArray]) ⟨ins 15 rfl, hS, hF, trivial⟩) w
  · exact law6016 rfl (fun _ h => nomatch h) (F2.ofL (vs := [.agg _, .agg cs2.toArray, .agg cs3.toArray]) ⟨ins 16 rfl, hS, hF, trivial⟩) w
  · exact law6017 rfl (fun _ h => nomatch h) (F2.ofL (vs := [.agg _, .agg cs2.toArray, .agg cs3.toArray]) ⟨ins 17 rfl, hS, hF, trivial⟩) w
  · exact law6018 rfl (fun _ h => nomatch h) (F2.ofL (vs := [.agg _, .agg cs2.toArray, .agg cs3.toArray]) ⟨ins 18 rfl, hS, hF, trivial⟩) w
  · exact law6019 rfl (fun _ h => nomatch h) (F2.ofL (vs := [.agg _, .agg cs2.toArray, .agg cs3.toArray]) ⟨ins 19 rfl, hS, hF, trivial⟩) w
  · exact law6020 rfl (fun _ h => nomatch h) (F2.ofL (vs := [.agg _, .agg cs2.toArray, .agg cs3.toArray]) ⟨ins 20 rfl, hS, hF, trivial⟩) w
  · have hI : Ar (E0 _ cs2 cs3) (fun _ => default) 0 (insO 21) (.agg _) := ins 21 rfl
    rcases three (E0 _ cs2 cs3) with h | h | h
    · exact law1006021 rfl (pre1 h) (F2.ofL (vs := [.agg _, .agg cs2.toArray, .agg cs3.toArray]) ⟨hI, hS, hF, trivial⟩) w
    · exact law1006121 rfl (pre2 h.1 h.2) (F2.ofL (vs := [.agg _, .agg cs2.toArray, .agg cs3.toArray]) ⟨hI, hS, hF, trivial⟩) w
    · exact law1006221 rfl (pre3 h.1 h.2.1 h.2.2) (F2.ofL (vs := [.agg _, .agg cs2.toArray, .agg cs3.toArray]) ⟨hI, hS, hF, trivial⟩) w
  · have hI : Ar (E0 _ cs2 cs3) (fun _ => default) 0 (insO 22) (.agg _) := ins 22 rfl
    rcases three (E0 _ cs2 cs3) with h | h | h
    · exact law1006022 rfl (pre1 h) (F2.ofL (vs := [.agg _, .agg cs2.toArray, .agg cs3.toArray]) ⟨hI, hS, hF, trivial⟩) w
    · exact law1006122 rfl (pre2 h.1 h.2) (F2.ofL (vs := [.agg _, .agg cs2.toArray, .agg cs3.toArray]) ⟨hI, hS, hF, trivial⟩) w
    · exact law1006222 rfl (pre3 h.1 h.2.1 h.2.2) (F2.ofL (vs := [.agg _, .agg cs2.toArray, .agg cs3.toArray]) ⟨hI, hS, hF, trivial⟩) w
  · have hI : Ar (E0 _ cs2 cs3) (fun _ => default) 0 (insO 23) (.agg _) := ins 23 rfl
    rcases three (E0 _ cs2 cs3) with h | h | h
    · exact law1006023 rfl (pre1 h) (F2.ofL (vs := [.agg _, .agg cs2.toArray, .agg cs3.toArray]) ⟨hI, hS, hF, trivial⟩) w
    · exact law1006123 rfl (pre2 h.1 h.2) (F2.ofL (vs := [.agg _, .agg cs2.toArray, .agg cs3.toArray]) ⟨hI, hS, hF, trivial⟩) w
    · exact law1006223 rfl (pre3 h.1 h.2.1 h.2.2) (F2.ofL (vs := [.agg _, .agg cs2.toArray, .agg cs3.toArray]) ⟨hI, hS, hF, trivial⟩) w
  · have hI : Ar (E0 _ cs2 cs3) (fun _ => default) 0 (insO 24) (.agg _) := ins 24 rfl
    rcases three (E0 _ cs2 cs3) with h | h | h
    · exact law1006024 rfl (pre1 h) (F2.ofL (vs := [.agg _, .agg cs2.toArray, .agg cs3.toArray]) ⟨hI, hS, hF, trivial⟩) w
    · exact law1006124 rfl (pre2 h.1 h.2) (F2.ofL (vs := [.agg _, .agg cs2.toArray, .agg cs3.toArray]) ⟨hI, hS, hF, trivial⟩) w
    · exact law1006224 rfl (pre3 h.1 h.2.1 h.2.2) (F2.ofL (vs := [.agg _, .agg cs2.toArray, .agg cs3.toArray]) ⟨hI, hS, hF, trivial⟩) w
  · have hI : Ar (E0 _ cs2 cs3) (fun _ => default) 0 (insO 25) (.agg _) := ins 25 rfl
    rcases three (E0 _ cs2 cs3) with h | h | h
    · exact law1006025 rfl (pre1 h) (F2.ofL (vs := [.agg _, .agg cs2.toArray, .agg cs3.toArray]) ⟨hI, hS, hF, trivial⟩) w
    · exact law1006125 rfl (pre2 h.1 h.2) (F2.ofL (vs := [.agg _, .agg cs2.toArray, .agg cs3.toArray]) ⟨hI, hS, hF, trivial⟩) w
    · exact law1006225 rfl (pre3 h.1 h.2.1 h.2.2) (F2.ofL (vs := [.agg _, .agg cs2.toArray, .agg cs3.toArray]) ⟨hI, hS, hF, trivial⟩) w
  · exact law6026 rfl (fun _ h => nomatch h) (F2.ofL (vs := [.agg _, .agg cs2.toArray, .agg cs3.toArray]) ⟨ins 26 rfl, hS, hF, trivial⟩) w
  · exact law6027 rfl (fun _ h => nomatch h) (F2.ofL (vs := [.agg _, .agg cs2.toArray, .agg cs3.toArray]) ⟨ins 27 rfl, hS, hF, trivial⟩) w
  · exact law6028 rfl (fun _ h => nomatch h) (F2.ofL (vs := [.agg _, .agg cs2.toArray, .agg cs3.toArray]) ⟨ins 28 rfl, hS, hF, trivial⟩) w
  · exact law6029 rfl (fun _ h => nomatch h) (F2.ofL (vs := [.agg _, .agg cs2.toArray, .agg cs3.toArray]) ⟨ins 29 rfl, hS, hF, trivial⟩) w
  · exact law6030 rfl (fun _ h => nomatch h) (F2.ofL (vs := [.agg _, .agg cs2.toArray, .agg cs3.toArray]) ⟨ins 30 rfl, hS, hF, trivial⟩) w
  · exact law6031 rfl (fun _ h => nomatch h) (F2.ofL (vs := [.agg _, .agg cs2.toArray, .agg cs3.toArray]) ⟨ins 31 rfl, hS, hF, trivial⟩) w
  · exact law6032 rfl (fun _ h => nomatch h) (F2.ofL (vs := [.agg _, .agg cs2.toArray, .agg cs3.toArray]) ⟨ins 32 rfl, hS, hF, trivial⟩) w
  · exact law6033 rfl (fun _ h => nomatch h) (F2.ofL (vs := [.agg _, .agg cs2.toArray, .agg cs3.toArray]) ⟨ins 33 rfl, hS, hF, trivial⟩) w
  · exact law6034 rfl (fun _ h => nomatch h) (F2.ofL (vs := [.agg _, .agg cs2.toArray, .agg cs3.toArray]) ⟨ins 34 rfl, hS, hF, trivial⟩) w
  · exact law6035 rfl (fun _ h => nomatch h) (F2.ofL (vs := [.agg _, .agg cs2.toArray, .agg cs3.toArray]) ⟨ins 35 rfl, hS, hF, trivial⟩) w
  · exact law6036 rfl (fun _ h => nomatch h) (F2.ofL (vs := [.agg _, .agg cs2.toArray, .agg cs3.toArray]) ⟨ins 36 rfl, hS, hF, trivial⟩) w
  · exact law6037 rfl (fun _ h => nomatch h) (F2.ofL (vs := [.agg _, .agg cs2.toArray, .agg cs3.toArray]) ⟨ins 37 rfl, hS, hF, trivial⟩) w
  · exact law6038 rfl (fun _ h => nomatch h) (F2.ofL (vs := [.agg _, .agg cs2.toArray, .agg cs3.toArray]) ⟨ins 38 rfl, hS, hF, trivial⟩) w
  · exact law6039 rfl (fun _ h => nomatch h) (F2.ofL (vs := [.agg _, .agg cs2.toArray, .agg cs3.toArray]) ⟨ins 39 rfl, hS, hF, trivial⟩) w
  · exact law6040 rfl (fun _ h => nomatch h) (F2.ofL (vs := [.agg _, .agg cs2.toArray, .agg cs3.toArray]) ⟨ins 40 rfl, hS, hF, trivial⟩) w
  · exact law6041 rfl (fun _ h => nomatch h) (F2.ofL (vs := [.agg _, .agg cs2.toArray, .agg cs3.toArray]) ⟨ins 41 rfl, hS, hF, trivial⟩) w
  · exact law6042 rfl (fun _ h => nomatch h) (F2.ofL (vs := [.agg _, .agg cs2.toArray, .agg cs3.toArray]) ⟨ins 42 rfl, hS, hF, trivial⟩) w
  · exact law6043 rfl (fun _ h => nomatch h) (F2.ofL (vs := [.agg _, .agg cs2.toArray, .agg cs3.toArray]) ⟨ins 43 rfl, hS, hF, trivial⟩) w
  · exact law6044 rfl (fun _ h => nomatch h) (F2.ofL (vs := [.agg _, .agg cs2.toArray, .agg cs3.toArray]) ⟨ins 44 rfl, hS, hF, trivial⟩) w
  · exact law6045 rfl (fun _ h => nomatch h) (F2.ofL (vs := [.agg _, .agg cs2.toArray, .agg cs3.toArray]) ⟨ins 45 rfl, hS, hF, trivial⟩) w
  · exact law6046 rfl (fun _ h => nomatch h) (F2.ofL (vs := [.agg _, .agg cs2.toArray, .agg cs3.toArray]) ⟨ins 46 rfl, hS, hF, trivial⟩) w
  · exact law6047 rfl (fun _ h => nomatch h) (F2.ofL (vs := [.agg _, .agg cs2.toArray, .agg cs3.toArray]) ⟨ins 47 rfl, hS, hF, trivial⟩) w
  · exact law6048 rfl (fun _ h => nomatch h) (F2.ofL (vs := [.agg _, .agg cs2.toArray, .agg cs3.toArray]) ⟨ins 48 rfl, hS, hF, trivial⟩) w
  · exact law6049 rfl (fun _ h => nomatch h) (F2.ofL (vs := [.agg _, .agg cs2.toArray, .agg cs3.toArray]) ⟨ins 49 rfl, hS, hF, trivial⟩) w
  · exact law6050 rfl (fun _ h => nomatch h) (F2.ofL (vs := [.agg _, .agg cs2.toArray, .agg cs3.toArray]) ⟨ins 50 rfl, hS, hF, trivial⟩) w
  · exact law6051 rfl (fun _ h => nomatch h) (F2.ofL (vs := [.agg _, .agg cs2.toArray, .agg cs3.toArray]) ⟨ins 51 rfl, hS, hF, trivial⟩) w
  · exact law6052 rfl (fun _ h => nomatch h) (F2.ofL (vs := [.agg _, .agg cs2.toArray, .agg cs3.toArray]) ⟨ins 52 rfl, hS, hF, trivial⟩) w
  · exact law6053 rfl (fun _ h => nomatch h) (F2.ofL (vs := [.agg _, .agg cs2.toArray, .agg cs3.toArray]) ⟨ins 53 rfl, hS, hF, trivial⟩) w

set_option maxRecDepth 100000 in
theorem lifted (os : Os) (started : os.Started) (H : Type) (enc : TypeId × Value → H) :
    ReturnsInHanded {} Try.checked os 6 .any (Rows.liveSureSpec.pre6 enc Try.prog Try.f6 Rows.liveSureRow.domain false) (Rows.liveSureSpec.post enc Try.prog Try.f6 false true false false) := by
  refine returnsInHanded_of_change (C := Try.checked) own started (by kernel_rfl) Try.func6
    (ChangeSpec.witness6 (enc := enc) (C := Try.checked) false ⟨#[], #[.agg #[.int .i64 0, .int .i64 0, .int .i64 0, .int .i64 0, .int .u32 0, .int .i64 0, .int .i64 0, .int .u32 0, .int .i64 0, .int .i64 0, .int .u32 0, .int .i64 0, .int .i64 0, .int .u32 0, .bool false, .int .i64 0],
      .agg #[.int .u32 0, .int .u32 0, .int .u32 0, .int .u32 0, .int .u32 0, .int .u32 0, .int .u32 0, .int .u32 0, .int .u32 0, .bool false, .bool false, .bool false, .bool false, .bool false, .bool false, .bool false, .int .u64 0],
      .agg #[.bool false, .bool false, .bool false, .bool false, .bool false, .bool false]], []⟩ 8 (by kernel_rfl) (by kernel_rfl) (by kernel_rfl) (by kernel_rfl)) ?_
  intro W base args ds gs before hval0 hW hcnd _
  have hval : ∀ (j : Nat) t v, Try.f6.params[j]? = some t → args[j]? = some v → Value.okWide Try.prog W .any base t v := hval0
  have hW' := hW
  obtain ⟨p, q, hA0, hV, rfl, hfz, hnd⟩ := hW
  have hA : DataW.TrodAll enc Try.prog W 0 (fun _ => true) true Try.f6.params.toList args.toList ds p := hA0
  rw [Try.params6] at hA hval
  obtain ⟨v0, vs0, d0, ds0, p0, q0, hargs, rfl, rfl, h0, r0⟩ := trodAll_cons hA
  obtain ⟨v1, vs1, d1, ds1, p1, q1, rfl, rfl, rfl, h1, r1⟩ := trodAll_cons r0
  obtain ⟨v2, vs2, d2, ds2, p2, q2, rfl, rfl, rfl, h2, r2⟩ := trodAll_cons r1
  obtain ⟨rfl, rfl, rfl⟩ := trodAll_nil r2
  obtain rfl : args = #[v0, v1, v2] := by cases args; simp_all
  obtain ⟨rfl, rfl⟩ := trodVars_none hV
  obtain ⟨cs1, rfl, hk1, rfl⟩ := open_flat Try.underlying32 flatInsn (hval 0 32 v0 rfl rfl) h0
  obtain ⟨cs2, rfl, hk2, rfl⟩ := open_flat Try.underlying43 flatSt (hval 1 43 v1 rfl rfl) h1
  obtain ⟨cs3, rfl, hk3, rfl⟩ := open_flat Try.underlying40 flatFl (hval 2 40 v2 rfl rfl) h2
  clear hA0 hval0
  simp only [List.append_nil] at hW'
  refine (walk cs1 cs2 cs3 hk1 hk2 hk3 W).mono fun e W' ⟨he, hg⟩ => ?_
  subst he
  exact ⟨_, rfl, post_of_below (pa := []) (pv := []) hW' (fun _ _ _ => (trodAll_cons_mk (shut_bool Try.underlying4 _) trodAll_mk0)) (fun sp _ => (trodAll_cons_mk (shut_flat flatInsn h0) (trodAll_cons_mk (shut_flat flatSt h1) (trodAll_cons_mk (shut_flat flatFl h2) trodAll_mk0)))) (fun _ _ => rfl) rfl
    hg (ok_one (by kernel_rfl) rfl (okWide_bool_mk Try.underlying4 _))⟩

theorem over : Rows.liveSureRow.holds Try.pinned (OpenSpec.ofChange Rows.liveSureSpec) :=
  OpenClaim.holds_of_wide 6 Try.f6 rfl rfl rfl rfl rfl rfl rfl ⟨rfl, rfl, rfl, rfl, rfl⟩ rfl rfl rfl rfl rfl (by kernel_rfl) Try.func6 (by kernel_rfl)
    (of_decide_eq_true (by kernel_rfl)) (by unfold Func.isWrapper; first | (rw [if_pos (by decide +kernel)]; kernel_rfl) | (rw [if_neg (by decide +kernel)]; exact ⟨rfl, rfl⟩))
    (fun os started H enc _ => lifted os started H enc)
theorem proved : Rows.LiveSureSaid :=
  over
#print axioms proved
end Go.Proofs.Ytddfbikeaipepaa.liveSure
