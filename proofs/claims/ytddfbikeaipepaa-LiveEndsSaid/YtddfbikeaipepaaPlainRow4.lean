/- Functions, each told by its own run; and what follows from what they tell. -/
import Derived.Test.YtddfbikeaipepaaPlainRow3
namespace Go.Sy
theorem rows_eq {x : Nat → Arg} {K A : Int} {w v : Int → Int} (hw : Rows x K A w) (hv : Rows x K A v) : ∀ (d : Nat) (j : Int), 0 ≤ j → j = K - d → w j = v j := by
  intro d
  induction d with
  | zero =>
    intro j h0 hj
    rw [hw j h0 (by omega), hv j h0 (by omega), if_pos (by omega), if_pos (by omega)]
  | succ d ih =>
    intro j h0 hj
    rw [hw j h0 (by omega), hv j h0 (by omega), if_neg (by omega), if_neg (by omega), ih (j + 1) (by omega) (by omega)]
theorem rows_range {x : Nat → Arg} {K A : Int} {w : Int → Int} (hw : Rows x K A w) (hA : 0 ≤ A ∧ A ≤ 63) : ∀ (d : Nat) (j : Int), 0 ≤ j → j = K - d → 0 ≤ w j ∧ w j ≤ 63 := by
  intro d
  induction d with
  | zero =>
    intro j h0 hj
    rw [hw j h0 (by omega), if_pos (by omega)]
    exact wk_range hA
  | succ d ih =>
    intro j h0 hj
    rw [hw j h0 (by omega), if_neg (by omega)]
    exact wk_range (ah_range (insX_len _ _) (ih (j + 1) (by omega) (by omega)))
theorem rows_x {x y : Nat → Arg} {K A : Int} {w : Int → Int} (h : ∀ j, insX x j = insX y j) (hw : Rows x K A w) : Rows y K A w := by
  intro j h0 h1
  rw [← h j, ← h (j + 1)]
  exact hw j h0 h1
def parA (x : Nat → Arg) : List Arg := parI.map (T.me ⟨x, Fs.F⟩)
theorem parA_len (x : Nat → Arg) : (parA x).length = 17 := by kernel_rfl
theorem parA_cl (x : Nat → Arg) (rest : List Arg) : parA (argE Fs.F (parA x ++ rest)).x = parA x := by
  have h0 : ∀ n, clamp 0 9223372036854775807 (clamp 0 9223372036854775807 n) = clamp 0 9223372036854775807 n := fun n => clamp_mid (by decide)
  have h1 : ∀ n, clamp (kmin .i64) (kmax .i64) (clamp (kmin .i64) (kmax .i64) n) = clamp (kmin .i64) (kmax .i64) n := fun n => clamp_mid (by decide)
  have h2 : ∀ n, clamp (kmin .u32) (kmax .u32) (clamp (kmin .u32) (kmax .u32) n) = clamp (kmin .u32) (kmax .u32) n := fun n => clamp_mid (by decide)
  have h3 : ∀ n, clamp 0 1 (clamp 0 1 n) = clamp 0 1 n := fun n => clamp_mid (by decide)
  simp only [parA, parI, parK, insnK, opK, nL, List.cons_append, List.nil_append, List.map_cons, List.map_nil, T.me, T.row, T.den, argE, List.getD_cons_succ, List.getD_cons_zero, h0, h1, h2, h3]
def nOf (x : Nat → Arg) : Int := clamp 0 9223372036854775807 (x 0).n
theorem nOf_range (x : Nat → Arg) : 0 ≤ nOf x ∧ nOf x ≤ 9223372036854775807 := by unfold nOf clamp; split <;> (try split) <;> omega
theorem spec14 (l : List Arg) : Fs.F 2014 l = k2014.spec Fs.F l := loop_ok k2014 (table.take 8) (table.drop 9) rfl okT l
theorem spec15 (l : List Arg) : Fs.F 2015 l = k2015.spec Fs.F l := loop_ok k2015 (table.take 6) (table.drop 7) rfl okT l
def aC (n : Int) : Arg := ⟨n, fun _ => n⟩
theorem F1014 (l : List Arg) : (((Fs.F 1014 l)[0]?).getD default).s = fun j => cl64 ((((Fs.F 2014 (parA (argE Fs.F l).x ++ [aC 63, aC (nOf (argE Fs.F l).x - 1), aC 0]))[3]?).getD default).s j) := by kernel_rfl
theorem F1015 (l : List Arg) : (((Fs.F 1015 l)[0]?).getD default).s = fun j => cl64 ((((Fs.F 2015 (parA (argE Fs.F l).x ++ [aC 63, aC (nOf (argE Fs.F l).x - 1), aC 0]))[3]?).getD default).s j) := by kernel_rfl
/-- What a row function tells. -/
def told (g : Nat) (l : List Arg) (j : Int) : Int := cl64 ((((Fs.F g l)[0]?).getD default).s j)
theorem rows_F {c : Lk} {e : Int} (R : RowLoop c e) (hsp : ∀ l, Fs.F c.id l = c.spec Fs.F l) (hmu : ∀ l, c.mu.den (argE Fs.F l) = kOf l + 1) {g : Nat}
    (hg : ∀ l, (((Fs.F g l)[0]?).getD default).s = fun j => cl64 ((((Fs.F c.id (parA (argE Fs.F l).x ++ [aC 63, aC (nOf (argE Fs.F l).x - 1), aC 0]))[3]?).getD default).s j)) (x : Nat → Arg) :
    Rows x (nOf x - 1) 63 (told g (parA x)) := by
  have hcl : parA (argE Fs.F (parA x)).x = parA x := by have := parA_cl x []; rw [List.append_nil] at this; exact this
  have hn : nOf (argE Fs.F (parA x)).x = nOf x := clamp_mid (by decide)
  have hN := nOf_range x
  obtain ⟨a', b', r', h1, _, h3⟩ := rows_of R (parA_len x) (nOf x).toNat (aC 63) (aC (nOf x - 1)) (aC 0) (by show nOf x - 1 = _; omega) (by omega) ⟨by decide, by decide⟩ ((nOf x).toNat + 1) (by omega)
  have hk : kOf (parA x ++ [aC 63, aC (nOf x - 1), aC 0]) = nOf x - 1 := by
    have : (parA x ++ [aC 63, aC (nOf x - 1), aC 0]).getD 18 default = aC (nOf x - 1) := by have := getD_right (p := parA x) (q := [aC 63, aC (nOf x - 1), aC 0]) (i := 1); rw [parA_len] at this; exact this
    rw [kOf, this]
    exact clamp_id ⟨by show -1 ≤ nOf x - 1; omega, by show nOf x - 1 ≤ _; omega⟩
  have hs : Fs.F c.id (parA x ++ [aC 63, aC (nOf x - 1), aC 0]) = [⟨e, fun _ => e⟩, a', b', r'] := by
    rw [hsp, Lk.spec, hmu, hk, show nOf x - 1 + 1 = nOf x by omega, h1]; rfl
  have e : told g (parA x) = fun j => cl64 (r'.s j) := by
    funext j
    unfold told
    rw [hg, hcl, hn, hs]
    exact cl64_cl _
  rw [e]
  rw [show ((nOf x).toNat : Int) - 1 = nOf x - 1 by omega] at h3
  have hi : ∀ j, insX (argE Fs.F (parA x)).x j = insX x j := fun j => by have := insX_cl x [] j; rw [List.append_nil] at this; exact this
  exact rows_x hi h3
theorem rows14 (x : Nat → Arg) : Rows x (nOf x - 1) 63 (told 1014 (parA x)) := rows_F row14 spec14 (fun l => by kernel_rfl) F1014 x
theorem rows15 (x : Nat → Arg) : Rows x (nOf x - 1) 63 (told 1015 (parA x)) := rows_F row15 spec15 (fun l => by kernel_rfl) F1015 x
theorem rows_same (x : Nat → Arg) {j : Int} (h0 : 0 ≤ j) (h1 : j < nOf x) : told 1014 (parA x) j = told 1015 (parA x) j :=
  rows_eq (rows14 x) (rows15 x) (nOf x - 1 - j).toNat j h0 (by omega)
/-! loops that count -/
theorem count_of {c : Lk} {e : Int} {Q : List Arg} (hQ : Q.length = c.n0) {n : Int}
    (hgo : ∀ i : Arg, 0 ≤ i.n → i.n < n → ∃ (j : Nat) (w : Wy) (b : Arg), pick Fs.F (Q ++ [i]) 0 c.ways = some (j, w) ∧ w.go = true ∧ w.ts.map (T.me (wayE Fs.F (Q ++ [i]) w)) = [b] ∧ b.n = i.n + 1)
    (hend : ∀ i : Arg, i.n = n → ∃ (j : Nat) (w : Wy), pick Fs.F (Q ++ [i]) 0 c.ways = some (j, w) ∧ (j : Int) = e ∧ w.go = false ∧ w.ts = []) :
    ∀ (k : Nat) (i : Arg), 0 ≤ i.n → i.n = n - k → ∀ f, k < f → iter Fs.F c f (Q ++ [i]) = some [⟨e, fun _ => e⟩] := by
  intro k
  induction k with
  | zero =>
    intro i _ hi f hf
    obtain ⟨f, rfl⟩ : ∃ g, f = g + 1 := ⟨f - 1, by omega⟩
    obtain ⟨j, w, h1, h2, h3, h4⟩ := hend i (by omega)
    rw [iter_at h1, h3, h4, h2]; rfl
  | succ k ih =>
    intro i h0 hi f hf
    obtain ⟨f, rfl⟩ : ∃ g, f = g + 1 := ⟨f - 1, by omega⟩
    obtain ⟨j, w, b, h1, h2, h3, h4⟩ := hgo i h0 (by omega)
    rw [iter_at h1, h2, h3, cond_true]
    have : (Q ++ [i]).take c.n0 = Q := by rw [← hQ, List.take_left']; rfl
    rw [this]
    exact ih b (by omega) (by omega) f (by omega)
end Go.Sy
namespace Go.Sy
theorem F1018 (l : List Arg) : num (Fs.F 1018 l) = if O2.den .or (tb (ltb (cl64 (l.getD 17 default).n) 0)) (tb (leb (nOf (argE Fs.F l).x) (cl64 (l.getD 17 default).n))) = 0 then told 1014 (parA (argE Fs.F l).x) (cl64 (l.getD 17 default).n) else 63 := by kernel_rfl
theorem behind_in {x : Nat → Arg} {a : Arg} (h0 : 0 ≤ a.n) (h1 : a.n < nOf x) : num (Fs.F 1018 (parA x ++ [a])) = told 1014 (parA x) a.n := by
  have hN := nOf_range x
  have hg : (parA x ++ [a]).getD 17 default = a := by have := getD_right (p := parA x) (q := [a]) (i := 0); rw [parA_len] at this; exact this
  have hc : cl64 a.n = a.n := clamp_id ⟨by show (-9223372036854775808 : Int) ≤ _; omega, by show _ ≤ (9223372036854775807 : Int); omega⟩
  have hn : nOf (argE Fs.F (parA x ++ [a])).x = nOf x := clamp_mid (by decide)
  rw [F1018, hg, hc, hn, parA_cl]
  have e1 : ltb a.n 0 = false := by rw [ltb_f]; exact h0
  have e2 : leb (nOf x) a.n = false := by rw [leb_f]; exact h1
  rw [e1, e2]; rfl
theorem behind_out {x : Nat → Arg} {a : Arg} (h : cl64 a.n < 0 ∨ nOf x ≤ cl64 a.n) : num (Fs.F 1018 (parA x ++ [a])) = 63 := by
  have hg : (parA x ++ [a]).getD 17 default = a := by have := getD_right (p := parA x) (q := [a]) (i := 0); rw [parA_len] at this; exact this
  have hn : nOf (argE Fs.F (parA x ++ [a])).x = nOf x := clamp_mid (by decide)
  rw [F1018, hg, hn]
  rcases h with h | h
  · have e1 : ltb (cl64 a.n) 0 = true := by rw [ltb_t]; exact h
    rw [e1]
    cases leb (nOf x) (cl64 a.n) <;> rfl
  · have e1 : leb (nOf x) (cl64 a.n) = true := by rw [leb_t]; exact h
    rw [e1]
    cases ltb (cl64 a.n) 0 <;> rfl
/-! the loop of LiveTells -/
def V (i : Nat) : T := .v i (-9223372036854775808) 9223372036854775807
def V0 (i : Nat) : T := .v i 0 9223372036854775807
def iOf (k : Nat) (l : List Arg) : Int := clamp 0 9223372036854775807 (l.getD k default).n
def D03 : List Df := (way k2003 0).ds
def b03 : List T := [.bin .lt (V0 21) (V0 0), .bin .eq (.sel (V 19) (V0 21)) (.sel (V 20) (V0 21)), .bin .eq (V 22) (V 23), .bin .eq (V 24) (.sel (V 20) (V0 21))]
theorem ok03 : k2003.ways.all (wyOk 22 D03 b03) = true := by kernel_rfl
def t03 (l : List Arg) : List Int := [tb (ltb (iOf 21 l) (nOf (argE Fs.F l).x)), tb (cl64 ((l.getD 19 default).s (iOf 21 l)) == cl64 ((l.getD 20 default).s (iOf 21 l))),
  tb (cl64 (num (Fs.F 16 (insX (argE Fs.F l).x (iOf 21 l)))) == cl64 (num (Fs.F 17 (insX (argE Fs.F l).x (iOf 21 l))))),
  tb (cl64 (num (Fs.F 1018 (parA (argE Fs.F l).x ++ [T.me (argE Fs.F l) (V0 21)]))) == cl64 ((l.getD 20 default).s (iOf 21 l)))]
theorem den03 (l : List Arg) : b03.map (T.den (extL (argE Fs.F l) D03)) = t03 l := by kernel_rfl
theorem pick03 (l : List Arg) : pick Fs.F l 0 k2003.ways = pickA (b03.zip ((t03 l).map (· != 0))) 0 k2003.ways := by
  rw [pick_alpha ok03, ← den03, List.map_map]; rfl
theorem tells_loop (x : Nat → Arg) (k r a b : Arg) (ha : ∀ j, 0 ≤ j → j < nOf x → cl64 (a.s j) = told 1014 (parA x) j) (hb : ∀ j, 0 ≤ j → j < nOf x → cl64 (b.s j) = told 1015 (parA x) j) :
    ∀ (d : Nat) (i : Arg), 0 ≤ i.n → i.n = nOf x - d → ∀ f, d < f → iter Fs.F k2003 f ((parA x ++ [k, r, a, b]) ++ [i]) = some [⟨4, fun _ => 4⟩] := by
  have hN := nOf_range x
  have hQ : (parA x ++ [k, r, a, b]).length = 21 := by rw [List.length_append, parA_len]; rfl
  have g19 : ∀ i : Arg, ((parA x ++ [k, r, a, b]) ++ [i]).getD 19 default = a := fun i => by
    rw [getD_left (by omega)]; have := getD_right (p := parA x) (q := [k, r, a, b]) (i := 2); rw [parA_len] at this; exact this
  have g20 : ∀ i : Arg, ((parA x ++ [k, r, a, b]) ++ [i]).getD 20 default = b := fun i => by
    rw [getD_left (by omega)]; have := getD_right (p := parA x) (q := [k, r, a, b]) (i := 3); rw [parA_len] at this; exact this
  have g21 : ∀ i : Arg, ((parA x ++ [k, r, a, b]) ++ [i]).getD 21 default = i := fun i => by
    have := getD_right (p := parA x ++ [k, r, a, b]) (q := [i]) (i := 0); rw [hQ] at this; exact this
  have hi : ∀ i : Arg, 0 ≤ i.n → i.n ≤ nOf x → iOf 21 ((parA x ++ [k, r, a, b]) ++ [i]) = i.n := fun i h0 h1 => by
    rw [iOf, g21]; exact clamp_id ⟨h0, by omega⟩
  have hn : ∀ i : Arg, nOf (argE Fs.F ((parA x ++ [k, r, a, b]) ++ [i])).x = nOf x := fun i => clamp_mid (by decide)
  refine count_of hQ (fun i h0 h1 => ?_) fun i h1 => ?_
  · have hk := hi i h0 (by omega)
    have hp : parA (argE Fs.F ((parA x ++ [k, r, a, b]) ++ [i])).x = parA x := by rw [List.append_assoc]; exact parA_cl x _
    have hme : (T.me (argE Fs.F ((parA x ++ [k, r, a, b]) ++ [i])) (V0 21)).n = i.n := hk
    have ht : t03 ((parA x ++ [k, r, a, b]) ++ [i]) = [1, 1, 1, 1] := by
      unfold t03
      rw [g19, g20, hn, hk, hp]
      have hins := ins_ok (xs := insX (argE Fs.F ((parA x ++ [k, r, a, b]) ++ [i])).x i.n) (by rw [insX_len]; omega)
      have e1 : ltb i.n (nOf x) = true := by rw [ltb_t]; exact h1
      have e2 : (cl64 (a.s i.n) == cl64 (b.s i.n)) = true := by rw [beq_iff_eq, ha _ h0 h1, hb _ h0 h1]; exact rows_same x h0 h1
      have e4 : num (Fs.F 1018 (parA x ++ [T.me (argE Fs.F ((parA x ++ [k, r, a, b]) ++ [i])) (V0 21)])) = told 1014 (parA x) i.n := by
        rw [behind_in (x := x) (by rw [hme]; exact h0) (by rw [hme]; exact h1), hme]
      have e5 : (cl64 (told 1014 (parA x) i.n) == cl64 (b.s i.n)) = true := by
        rw [beq_iff_eq, hb _ h0 h1, rows_same x h0 h1]; exact cl64_cl _
      rw [e1, e2, hins.s, beq_self_eq_true, e4, e5]; rfl
    refine ⟨1, way k2003 1, ⟨i.n + 1, fun _ => i.n + 1⟩, by rw [pick03, ht]; kernel_rfl, by kernel_rfl, ?_, rfl⟩
    have : (way k2003 1).ts.map (T.me (wayE Fs.F ((parA x ++ [k, r, a, b]) ++ [i]) (way k2003 1))) = [⟨iOf 21 ((parA x ++ [k, r, a, b]) ++ [i]) + 1, fun _ => iOf 21 ((parA x ++ [k, r, a, b]) ++ [i]) + 1⟩] := by kernel_rfl
    rw [this, hk]
  · have hk := hi i (by omega) (by omega)
    refine ⟨4, way k2003 4, ?_, rfl, by kernel_rfl, by kernel_rfl⟩
    rw [pick03, t03, hn, hk, show ltb i.n (nOf x) = false by rw [ltb_f]; omega]
    generalize (cl64 _ == cl64 _) = p
    generalize (cl64 _ == cl64 _) = q
    generalize (cl64 _ == cl64 _) = s
    cases p <;> cases q <;> cases s <;> kernel_rfl
theorem spec03 (l : List Arg) : Fs.F 2003 l = k2003.spec Fs.F l := loop_ok k2003 (table.take 1) (table.drop 2) rfl okT l
/-! LiveTells -/
theorem trand (E : Env) (a b : T) : (T.bin .and a b).tr E = (a.tr E && b.tr E) := by simp only [T.tr, T.den, O2.den, tb_ne]
theorem tror (E : Env) (a b : T) : (T.bin .or a b).tr E = (a.tr E || b.tr E) := by simp only [T.tr, T.den, O2.den, tb_ne]
theorem trnot (E : Env) (a : T) : (T.un .not a).tr E = !(a.tr E) := by simp only [T.tr, T.den, O1.den, tb_ne]; cases h : a.den E == 0 <;> simp_all
theorem treq (E : Env) (a b : T) : (T.bin .eq a b).tr E = (a.den E == b.den E) := by simp only [T.tr, T.den, O2.den, tb_ne]
theorem trlt (E : Env) (a b : T) : (T.bin .lt a b).tr E = ltb (a.den E) (b.den E) := by simp only [T.tr, T.den, O2.den, tb_ne]
theorem denlit (E : Env) (n : Int) : (T.lit n).den E = n := rfl
theorem den_of_tr {E : Env} {a b : T} (h : (T.bin .or a b).tr E = true) : (T.bin .or a b).den E = 1 := by
  simp only [T.tr, T.den, O2.den, tb_ne] at h ⊢
  rw [h]; rfl
end Go.Sy
