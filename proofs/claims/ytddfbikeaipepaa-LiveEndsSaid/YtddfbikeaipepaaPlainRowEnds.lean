/- Functions, each told by its own run; and what follows from what they tell. -/
import Derived.Test.YtddfbikeaipepaaPlainRow4
namespace Go.Sy
def allB : Nat → List (List Bool)
  | 0 => [[]]
  | n + 1 => (allB n).flatMap fun l => [true :: l, false :: l]
theorem allB_mem : ∀ (l : List Bool), l ∈ allB l.length := by
  intro l
  induction l with
  | nil => exact List.mem_singleton.2 rfl
  | cons b r ih =>
    simp only [List.length_cons, allB, List.mem_flatMap]
    exact ⟨r, ih, by cases b <;> simp⟩
/-! the loop of LiveEnds -/
def W18 : T := .sel (V 18) (V0 19)
def D04 : List Df := (way k2004 1).ds
def n19 : T := .bin .add (V0 19) (.lit 1)
def b04 : List T := [.bin .lt (V0 19) (V0 0), .bin .lt W18 (.lit 0), .bin .lt (.lit 63) W18, .v 20 0 1, .bin .eq W18 (.lit 63), .bin .lt n19 (V0 0), .v 21 0 1, .bin .eq (.bin (.band .i64) W18 (V 22)) (V 22)]
theorem ok04 : k2004.ways.all (wyOk 20 D04 b04) = true := by kernel_rfl
theorem lo04 : k2004.ways.all (fun w => (contig 20 w.ds).isSome) = true := by kernel_rfl
def w04 (l : List Arg) : Int := cl64 ((l.getD 18 default).s (iOf 19 l))
def r04 (l : List Arg) : Int := cl64 (num (Fs.F 20 (insX (argE Fs.F l).x (iOf 19 l + 1))))
def t04 (l : List Arg) : List Int := [tb (ltb (iOf 19 l) (nOf (argE Fs.F l).x)), tb (ltb (w04 l) 0), tb (ltb 63 (w04 l)), clamp 0 1 (num (Fs.F 19 (insX (argE Fs.F l).x (iOf 19 l)))), tb (w04 l == 63),
  tb (ltb (iOf 19 l + 1) (nOf (argE Fs.F l).x)), clamp 0 1 (num (Fs.F 19 (insX (argE Fs.F l).x (iOf 19 l + 1)))), tb (bandI (w04 l) (r04 l) == r04 l)]
theorem den04 (l : List Arg) : b04.map (T.den (extL (argE Fs.F l) D04)) = t04 l := by kernel_rfl
theorem pick04 (l : List Arg) : pick Fs.F l 0 k2004.ways = pickA (b04.zip ((t04 l).map (· != 0))) 0 k2004.ways := by
  rw [pick_alpha ok04, ← den04, List.map_map]; rfl
def goB (bs : List Bool) : Bool := match pickA (b04.zip bs) 0 k2004.ways with
  | some (_, w) => w.go && listB T.beq w.ts [n19]
  | none => false
def endB (bs : List Bool) : Bool := match pickA (b04.zip bs) 0 k2004.ways with
  | some (j, w) => Nat.beq j 14 && !w.go && listB T.beq w.ts []
  | none => false
def fits : List Bool → Bool
  | [p3, p4, p5, p6, p7] => (!p3 || p4) && (!p5 || ((!p6 || p4) && p7))
  | _ => false
theorem go_all : (allB 5).all (fun l => !(fits l) || goB (true :: false :: false :: l)) = true := by kernel_rfl
theorem end_all : (allB 7).all (fun l => endB (false :: l)) = true := by kernel_rfl
theorem goB_ok {p3 p4 p5 p6 p7 : Bool} (h1 : p3 = true → p4 = true) (h2 : p5 = true → p6 = true → p4 = true) (h3 : p5 = true → p7 = true) : goB [true, false, false, p3, p4, p5, p6, p7] = true := by
  have := go_all
  rw [List.all_eq_true] at this
  have := this [p3, p4, p5, p6, p7] (allB_mem _)
  have hf : fits [p3, p4, p5, p6, p7] = true := by cases p3 <;> cases p4 <;> cases p5 <;> cases p6 <;> cases p7 <;> simp_all [fits]
  rw [hf] at this
  exact this
theorem endB_ok (p1 p2 p3 p4 p5 p6 p7 : Bool) : endB [false, p1, p2, p3, p4, p5, p6, p7] = true := by
  have := end_all
  rw [List.all_eq_true] at this
  exact this [p1, p2, p3, p4, p5, p6, p7] (allB_mem _)
theorem ends_loop (x : Nat → Arg) (r a : Arg) (ha : ∀ j, 0 ≤ j → j < nOf x → cl64 (a.s j) = told 1014 (parA x) j) :
    ∀ (d : Nat) (i : Arg), 0 ≤ i.n → i.n = nOf x - d → ∀ f, d < f → iter Fs.F k2004 f ((parA x ++ [r, a]) ++ [i]) = some [⟨14, fun _ => 14⟩] := by
  have hN := nOf_range x
  have hQ : (parA x ++ [r, a]).length = 19 := by rw [List.length_append, parA_len]; rfl
  have g18 : ∀ i : Arg, ((parA x ++ [r, a]) ++ [i]).getD 18 default = a := fun i => by
    rw [getD_left (by omega)]; have := getD_right (p := parA x) (q := [r, a]) (i := 1); rw [parA_len] at this; exact this
  have g19 : ∀ i : Arg, ((parA x ++ [r, a]) ++ [i]).getD 19 default = i := fun i => by
    have := getD_right (p := parA x ++ [r, a]) (q := [i]) (i := 0); rw [hQ] at this; exact this
  have hi : ∀ i : Arg, 0 ≤ i.n → i.n ≤ nOf x → iOf 19 ((parA x ++ [r, a]) ++ [i]) = i.n := fun i h0 h1 => by
    rw [iOf, g19]; exact clamp_id ⟨h0, by omega⟩
  have hn : ∀ i : Arg, nOf (argE Fs.F ((parA x ++ [r, a]) ++ [i])).x = nOf x := fun i => clamp_mid (by decide)
  have gins : ∀ (i : Arg) (j : Int), insX (argE Fs.F ((parA x ++ [r, a]) ++ [i])).x j = insX x j := fun i j => by rw [List.append_assoc]; exact insX_cl x _ j
  refine count_of hQ (fun i h0 h1 => ?_) fun i h1 => ?_
  · generalize hl : (parA x ++ [r, a]) ++ [i] = l
    have hk : iOf 19 l = i.n := by rw [← hl]; exact hi i h0 (by omega)
    have hln : nOf (argE Fs.F l).x = nOf x := by rw [← hl]; exact hn i
    have hins : ∀ j, insX (argE Fs.F l).x j = insX x j := fun j => by rw [← hl]; exact gins i j
    have hg : l.getD 18 default = a := by rw [← hl]; exact g18 i
    have hw : w04 l = told 1014 (parA x) i.n := by rw [w04, hg, hk]; exact ha _ h0 h1
    have hW := rows14 x i.n h0 (by omega)
    have hWr := rows_range (rows14 x) ⟨by decide, by decide⟩ (nOf x - 1 - i.n).toNat i.n h0 (by omega)
    have i0 := ins_ok (xs := insX x i.n) (by rw [insX_len]; omega)
    have i1 := ins_ok (xs := insX x (i.n + 1)) (by rw [insX_len]; omega)
    have hr : r04 l = num (Fs.F 20 (insX x (i.n + 1))) := by rw [r04, hk, hins]; exact cl64_id i1.rr
    have c0 : clamp 0 1 (num (Fs.F 19 (insX x i.n))) = num (Fs.F 19 (insX x i.n)) := by rcases i0.tb with h | h <;> rw [h] <;> rfl
    have c1 : clamp 0 1 (num (Fs.F 19 (insX x (i.n + 1)))) = num (Fs.F 19 (insX x (i.n + 1))) := by rcases i1.tb with h | h <;> rw [h] <;> rfl
    rw [← hw] at hW hWr
    have hW63 : num (Fs.F 19 (insX x i.n)) ≠ 0 → w04 l = 63 := fun h => by rw [hW, wk, if_neg h]
    have hgo : goB ((t04 l).map (· != 0)) = true := by
      have e1 : ltb i.n (nOf x) = true := by rw [ltb_t]; exact h1
      have e2 : ltb (w04 l) 0 = false := by rw [ltb_f]; exact hWr.1
      have e3 : ltb 63 (w04 l) = false := by rw [ltb_f]; exact hWr.2
      rw [t04, hk, hln, hins, hins, c0, c1, e1, e2, e3]
      simp only [List.map_cons, List.map_nil, tb_ne]
      refine goB_ok (fun h => ?_) (fun h5 h6 => ?_) fun h5 => ?_
      · rw [beq_iff_eq]; exact hW63 (by simpa using h)
      · rw [beq_iff_eq]
        by_cases hT : num (Fs.F 19 (insX x i.n)) = 0
        · rw [ltb_t] at h5
          rw [hW, wk, if_pos hT, if_neg (by omega), ah, if_neg]
          intro h48
          have := (i1.f.1 h48).1
          rw [this] at h6; cases h6
        · exact hW63 hT
      · rw [beq_iff_eq, hr]
        by_cases hT : num (Fs.F 19 (insX x i.n)) = 0
        · rw [ltb_t] at h5
          rw [hW, wk, if_pos hT, if_neg (by omega), ah]
          have hw1 := rows_range (rows14 x) ⟨by decide, by decide⟩ (nOf x - 1 - (i.n + 1)).toNat (i.n + 1) (by omega) (by omega)
          split
          · exact (two_set i1.rr (two_set hw1 i1.sr).2.1).2.2
          · exact (one_set i1.rr).2
        · rw [hW63 hT]; exact (one_set i1.rr).2
    unfold goB at hgo
    split at hgo
    · rename_i j w hp
      rw [Bool.and_eq_true] at hgo
      have hp' : pick Fs.F l 0 k2004.ways = some (j, w) := by rw [pick04]; exact hp
      have hts := listB_eq (fun _ _ => T.beq_eq) hgo.2
      refine ⟨j, w, ⟨i.n + 1, fun _ => i.n + 1⟩, hp', hgo.1, ?_, rfl⟩
      have hm := pick_mem hp'
      have hc := lo04
      rw [List.all_eq_true] at hc
      obtain ⟨hh, hc⟩ := Option.isSome_iff_exists.1 (hc w hm)
      have ag : Agree (argE Fs.F l) (wayE Fs.F l w) 20 := by
        have := extL_app_agree (E := argE Fs.F l) (r := []) (h := 20) (pre := w.ds) (by rw [List.all_eq_true]; exact fun d hd => by rw [Nat.ble_eq]; exact (contig_lo hc).2 d hd)
        rw [List.append_nil] at this; exact this
      rw [hts]
      have hb : T.me (wayE Fs.F l w) n19 = T.me (argE Fs.F l) n19 := T.bel_me ag (by rfl)
      have hv : T.me (argE Fs.F l) n19 = ⟨iOf 19 l + 1, fun _ => iOf 19 l + 1⟩ := by kernel_rfl
      simp only [List.map_cons, List.map_nil]
      rw [hb, hv, hk]
    · cases hgo
  · have hk := hi i (by omega) (by omega)
    have he : endB ((t04 ((parA x ++ [r, a]) ++ [i])).map (· != 0)) = true := by
      rw [t04, hn, hk, show ltb i.n (nOf x) = false by rw [ltb_f]; omega]
      exact endB_ok _ _ _ _ _ _ _
    unfold endB at he
    split at he
    · rename_i j w hp
      simp only [Bool.and_eq_true, Bool.not_eq_true'] at he
      have hp' : pick Fs.F ((parA x ++ [r, a]) ++ [i]) 0 k2004.ways = some (j, w) := by rw [pick04]; exact hp
      exact ⟨j, w, hp', by rw [Nat.eq_of_beq_eq_true he.1.1]; rfl, he.1.2, listB_eq (fun _ _ => T.beq_eq) he.2⟩
    · cases he
theorem spec04 (l : List Arg) : Fs.F 2004 l = k2004.spec Fs.F l := loop_ok k2004 (table.take 3) (table.drop 4) rfl okT l
theorem plain4 (E : Env) (hE : E.F = Fs.F) (hd : ∀ d ∈ d4, d.ok E) : t4.den E = 1 := by
  have hN := nOf_range E.x
  have e18 : E.x 18 = ((Fs.F 1014 (parA E.x))[0]?).getD default := by
    have h : Df.ok E (.call 18 1014 parI 1) := hd _ (List.mem_of_getElem? (i := 1) rfl)
    have := h 0 (by decide)
    rw [hE] at this; exact this
  have e19 : E.x 19 = ((Fs.F 2004 ((parA E.x ++ [T.me E (.v 17 0 1), T.me E (V 18)]) ++ [T.me E (.lit 0)]))[0]?).getD default := by
    have h : Df.ok E (.call 19 2004 (parI ++ [.v 17 0 1, V 18, .lit 0]) 2) := hd _ (List.mem_of_getElem? (i := 0) rfl)
    have := h 0 (by decide)
    rw [hE] at this; exact this
  have ha : ∀ j, cl64 ((T.me E (V 18)).s j) = told 1014 (parA E.x) j := fun j => by show cl64 (cl64 ((E.x 18).s j)) = _; rw [e18]; exact cl64_cl _
  have hit := ends_loop E.x (T.me E (.v 17 0 1)) (T.me E (V 18)) (fun j _ _ => ha j) (nOf E.x).toNat (T.me E (.lit 0)) (Int.le_refl _) (by show (0 : Int) = _; omega) ((nOf E.x).toNat + 1) (by omega)
  have v19 : (T.v 19 0 15).den E = 14 := by
    have hmu : ∀ l : List Arg, k2004.mu.den (argE Fs.F l) = nOf (argE Fs.F l).x - iOf 19 l := fun l => by kernel_rfl
    have hQ : (parA E.x ++ [T.me E (.v 17 0 1), T.me E (V 18)]).length = 19 := by rw [List.length_append, parA_len]; rfl
    have hi : iOf 19 ((parA E.x ++ [T.me E (.v 17 0 1), T.me E (V 18)]) ++ [T.me E (.lit 0)]) = 0 := by
      have := getD_right (p := parA E.x ++ [T.me E (.v 17 0 1), T.me E (V 18)]) (q := [T.me E (.lit 0)]) (i := 0)
      rw [hQ] at this
      rw [iOf, this]; rfl
    have hn : nOf (argE Fs.F ((parA E.x ++ [T.me E (.v 17 0 1), T.me E (V 18)]) ++ [T.me E (.lit 0)])).x = nOf E.x := clamp_mid (by decide)
    show clamp 0 15 (E.x 19).n = 14
    rw [e19, spec04, Lk.spec, hmu, hi, hn, Int.sub_zero, hit]; rfl
  have hlast : ((T.v 0 0 9223372036854775807).den E == 0) = false → (T.sel (V 18) (.bin .sub (V0 0) (.lit 1))).den E = 63 := fun h => by
    have h0 : nOf E.x ≠ 0 := by rw [beq_eq_false_iff_ne] at h; exact h
    show cl64 ((E.x 18).s (nOf E.x - 1)) = 63
    have := rows14 E.x (nOf E.x - 1) (by omega) (Int.le_refl _)
    rw [if_pos rfl] at this
    rw [e18]
    unfold told at this
    rw [this]
    unfold wk; split <;> rfl
  have key : t4.tr E = true := by
    unfold t4
    simp only [trand, tror, trnot, treq, trlt, denlit]
    rw [v19]
    simp only [V, V0] at hlast
    cases hq : (T.v 0 0 9223372036854775807).den E == 0
    · rw [hlast hq]; simp
    · simp
  exact den_of_tr key
end Go.Sy
