/- Functions, each told by its own run; and what follows from what they tell. -/
import Derived.Test.YtddfbikeaipepaaPlainRow2
import Derived.Test.YtddfbikeaipepaaGy32
namespace Go.Sy
/-! rows of instructions -/
def selK (i : Nat) (j : T) : List K → List T
  | [] => []
  | .i k :: r => .sel (.v i (kmin k) (kmax k)) j :: selK (i + 1) j r
  | .b :: r => .sel (.v i 0 1) j :: selK (i + 1) j r
def insT (j : T) : List T := selK 1 j insnK
/-- The instruction at a place of a row. -/
def insX (x : Nat → Arg) (j : Int) : List Arg := (insT (.lit j)).map (T.me ⟨x, Fs.F⟩)
theorem insT_me (E : Env) (t : T) : (insT t).map (T.me E) = insX E.x (t.den E) := by kernel_rfl
theorem insX_len (x : Nat → Arg) (j : Int) : (insX x j).length = 16 := by kernel_rfl
theorem insX_cl (x : Nat → Arg) (rest : List Arg) (j : Int) : insX (argE Fs.F (parI.map (T.me ⟨x, Fs.F⟩) ++ rest)).x j = insX x j := by
  have h1 : ∀ n, clamp (kmin .i64) (kmax .i64) (clamp (kmin .i64) (kmax .i64) n) = clamp (kmin .i64) (kmax .i64) n := fun n => clamp_mid (by decide)
  have h2 : ∀ n, clamp (kmin .u32) (kmax .u32) (clamp (kmin .u32) (kmax .u32) n) = clamp (kmin .u32) (kmax .u32) n := fun n => clamp_mid (by decide)
  have h3 : ∀ n, clamp 0 1 (clamp 0 1 n) = clamp 0 1 n := fun n => clamp_mid (by decide)
  simp only [insX, insT, selK, insnK, opK, List.cons_append, List.nil_append, List.map_cons, List.map_nil, T.me, T.row, T.den, parI, parK, nL, argE, List.getD_cons_succ, List.getD_cons_zero, h1, h2, h3]
theorem sees_clamp (i : Nat) (lo hi n : Int) (g1 : i = 10 → lo = 0 ∧ hi = 4294967295) (g2 : i = 0 ∨ i = 2 ∨ i = 8 → lo = kmin .i64 ∧ hi = kmax .i64) : sees i (clamp lo hi n) n := by
  refine ⟨fun e => ?_, fun e => ?_, fun e => ?_, fun e => ?_⟩
  · obtain ⟨rfl, rfl⟩ := g2 (.inl e)
    show opc (cl64 n) = opc n
    unfold opc; rw [cl64_cl]
  · obtain ⟨rfl, rfl⟩ := g2 (.inr (.inl e))
    show is3 (cl64 n) = is3 n
    unfold is3; rw [cl64_cl]
  · obtain ⟨rfl, rfl⟩ := g2 (.inr (.inr e))
    show is3 (cl64 n) = is3 n ∧ is2 (cl64 n) = is2 n
    unfold is3 is2; rw [cl64_cl]; exact ⟨rfl, rfl⟩
  · obtain ⟨rfl, rfl⟩ := g1 e
    rw [low31_cl]; exact ⟨rfl, rfl⟩
def preT : List T := parK 0 insnK
def preA (xs : List Arg) : List Arg := preT.map (T.me (argE Fs.F xs))
theorem preT_at (i : Nat) (hi : i < 16) : ∃ lo hi : Int, preT[i]? = some (.v i lo hi) ∧ (i = 10 → lo = 0 ∧ hi = 4294967295) ∧ (i = 0 ∨ i = 2 ∨ i = 8 → lo = kmin .i64 ∧ hi = kmax .i64) := by
  have h : i = 0 ∨ i = 1 ∨ i = 2 ∨ i = 3 ∨ i = 4 ∨ i = 5 ∨ i = 6 ∨ i = 7 ∨ i = 8 ∨ i = 9 ∨ i = 10 ∨ i = 11 ∨ i = 12 ∨ i = 13 ∨ i = 14 ∨ i = 15 := by omega
  rcases h with rfl | rfl | rfl | rfl | rfl | rfl | rfl | rfl | rfl | rfl | rfl | rfl | rfl | rfl | rfl | rfl <;> exact ⟨_, _, rfl, by decide, by decide⟩
theorem pre_eo {xs : List Arg} (hl : xs.length = 16) (rest : List Arg) : Eo 16 (argE Fs.F (preA (xs ++ rest))) (argE Fs.F xs) := by
  refine eo_of rfl fun i => ?_
  by_cases hi : i < 16
  · refine .inr ⟨hi, ?_⟩
    obtain ⟨lo, hi', h1, h2, h3⟩ := preT_at i hi
    have e : (argE Fs.F (preA (xs ++ rest))).x i = T.me (argE Fs.F (xs ++ rest)) (.v i lo hi') := by
      simp only [argE, preA, List.getD_eq_getElem?_getD, List.getElem?_map, h1, Option.map_some, Option.getD_some]
    rw [e]
    show sees i (clamp lo hi' ((xs ++ rest).getD i default).n) (xs.getD i default).n
    rw [List.getD_eq_getElem?_getD, List.getElem?_append_left (by omega), ← List.getD_eq_getElem?_getD]
    exact sees_clamp i lo hi' _ h2 h3
  · refine .inl ?_
    have hp : (preA (xs ++ rest)).length = 16 := by rw [preA, List.length_map]; rfl
    simp only [argE, List.getD_eq_getElem?_getD]
    rw [List.getElem?_eq_none (by omega), List.getElem?_eq_none (by omega)]
/-- What is wanted ahead of an instruction. -/
def ah (l : List Arg) (w : Int) : Int := if num (Fs.F 48 l) = 0 then borI (num (Fs.F 20 l)) (bandnI w (num (Fs.F 17 l))) else 63
/-- What is wanted behind it. -/
def wk (l : List Arg) (w : Int) : Int := if num (Fs.F 19 l) = 0 then w else 63
theorem F29 (xs : List Arg) : num (Fs.F 29 xs) = if clamp 0 1 (num (Fs.F 48 (preA xs))) = 0 then borI (cl64 (num (Fs.F 44 (preA xs)))) (bandnI (cl64 (xs.getD 16 default).n) (cl64 (num (Fs.F 16 (preA xs))))) else 63 := by kernel_rfl
theorem cl64_id {n : Int} (h : 0 ≤ n ∧ n ≤ 63) : cl64 n = n := clamp_id ⟨by show (-9223372036854775808 : Int) ≤ _; omega, by show _ ≤ (9223372036854775807 : Int); omega⟩
theorem F29_at {l : List Arg} (hl : l.length = 16) {a : Arg} (ha : 0 ≤ a.n ∧ a.n ≤ 63) : num (Fs.F 29 (l ++ [a])) = ah l a.n := by
  have he := pre_eo hl [a]
  have e : ∀ g, niceOf g = some 16 → Fs.F g (preA (l ++ [a])) = Fs.F g l := fun g hg => niceT g 16 hg _ _ he
  have hi := ins_ok (xs := l) (by omega)
  have hg : (l ++ [a]).getD 16 default = a := by
    rw [List.getD_eq_getElem?_getD, List.getElem?_append_right (by omega), hl]; rfl
  rw [F29, e 48 rfl, e 44 rfl, e 16 rfl, hg, hi.r, hi.s, cl64_id hi.rr, cl64_id hi.sr, cl64_id ha, clamp_id hi.fb]
  rfl
theorem ah_range {l : List Arg} (hl : l.length = 16) {w : Int} (hw : 0 ≤ w ∧ w ≤ 63) : 0 ≤ ah l w ∧ ah l w ≤ 63 := by
  have hi := ins_ok (xs := l) (by omega)
  unfold ah
  split
  · exact (two_set hi.rr (two_set hw hi.sr).2.1).1
  · omega
theorem wk_range {l : List Arg} {w : Int} (hw : 0 ≤ w ∧ w ≤ 63) : 0 ≤ wk l w ∧ wk l w ≤ 63 := by
  unfold wk; split <;> omega
/-- A row of what is wanted: up to a place, what is wanted at that place to begin with. -/
def Rows (x : Nat → Arg) (k a : Int) (w : Int → Int) : Prop := ∀ j, 0 ≤ j → j ≤ k → w j = wk (insX x j) (if j = k then a else ah (insX x (j + 1)) (w (j + 1)))
end Go.Sy
namespace Go.Sy
def way (c : Lk) (i : Nat) : Wy := (c.ways[i]?).getD ⟨false, [], [], []⟩
def kOf (l : List Arg) : Int := clamp (-1) 9223372036854775807 (l.getD 18 default).n
def insK18 (l : List Arg) : List Arg := insX (argE Fs.F l).x (kOf l)
/-- What is wanted behind the instruction where the loop stands. -/
def wNow (l : List Arg) (t : Int) : Arg := ⟨if t = 0 then cl64 (l.getD 17 default).n else 63, fun j => if t = 0 then cl64 ((l.getD 17 default).s j) else 63⟩
def rNow (l : List Arg) (t : Int) : Arg := ⟨0, fun j => if j = kOf l then (wNow l t).n else cl64 ((l.getD 19 default).s j)⟩
def kNow (l : List Arg) : Arg := ⟨kOf l - 1, fun _ => kOf l - 1⟩
def endNow (l : List Arg) : List Arg := [⟨cl64 (l.getD 17 default).n, fun j => cl64 ((l.getD 17 default).s j)⟩, ⟨kOf l, fun j => clamp (-1) 9223372036854775807 ((l.getD 18 default).s j)⟩, ⟨cl64 (l.getD 19 default).n, fun j => cl64 ((l.getD 19 default).s j)⟩]
/-! live.Wanted -/
def D14 : List Df := (way k2014 0).ds
def t14 (l : List Arg) : Int := clamp 0 1 (num (Fs.F 27 (insK18 l)))
def a14 (l : List Arg) : Arg := ⟨cl64 (num (Fs.F 29 (insK18 l ++ [wNow l (t14 l)]))), fun j => cl64 ((((Fs.F 29 (insK18 l ++ [wNow l (t14 l)]))[0]?).getD default).s j)⟩
def b14 : List T := [.bin .lt (.lit (-1)) (.v 18 (-1) 9223372036854775807)]
theorem ok14 : k2014.ways.all (wyOk 20 D14 b14) = true := by kernel_rfl
theorem pick14 (l : List Arg) : pick Fs.F l 0 k2014.ways = pickA (b14.zip [ltb (-1) (kOf l)]) 0 k2014.ways := by
  rw [pick_alpha ok14]
  have : T.tr (extL (argE Fs.F l) D14) (.bin .lt (.lit (-1)) (.v 18 (-1) 9223372036854775807)) = ltb (-1) (kOf l) := by
    simp only [T.tr, T.den, O2.den, tb_ne]; rfl
  simp only [b14, List.map_cons, List.map_nil, this]
theorem ts14 (l : List Arg) : (way k2014 0).ts.map (T.me (wayE Fs.F l (way k2014 0))) = [a14 l, kNow l, rNow l (t14 l)] := by kernel_rfl
theorem te14 (l : List Arg) : (way k2014 1).ts.map (T.me (wayE Fs.F l (way k2014 1))) = endNow l := by kernel_rfl
theorem go14 (f : Nat) (l : List Arg) (h : ltb (-1) (kOf l) = true) : iter Fs.F k2014 (f + 1) l = iter Fs.F k2014 f (l.take 17 ++ [a14 l, kNow l, rNow l (t14 l)]) := by
  have hp : pick Fs.F l 0 k2014.ways = some (0, way k2014 0) := by rw [pick14, h]; kernel_rfl
  rw [iter_at hp, ts14]; rfl
theorem end14 (f : Nat) (l : List Arg) (h : ltb (-1) (kOf l) = false) : iter Fs.F k2014 (f + 1) l = some (⟨1, fun _ => 1⟩ :: endNow l) := by
  have hp : pick Fs.F l 0 k2014.ways = some (1, way k2014 1) := by rw [pick14, h]; kernel_rfl
  rw [iter_at hp, te14]; rfl
/-! a loop that makes a row -/
structure RowLoop (c : Lk) (e : Int) where
  t : List Arg → Int
  a : List Arg → Arg
  go : ∀ (f : Nat) (l : List Arg), ltb (-1) (kOf l) = true → iter Fs.F c (f + 1) l = iter Fs.F c f (l.take 17 ++ [a l, kNow l, rNow l (t l)])
  fin : ∀ (f : Nat) (l : List Arg), ltb (-1) (kOf l) = false → iter Fs.F c (f + 1) l = some (⟨e, fun _ => e⟩ :: endNow l)
  ht : ∀ l, t l = num (Fs.F 19 (insK18 l))
  ha : ∀ l, 0 ≤ (l.getD 17 default).n ∧ (l.getD 17 default).n ≤ 63 → (a l).n = ah (insK18 l) (wk (insK18 l) (l.getD 17 default).n)
theorem wNow_n {l : List Arg} {t : Int} (ht : t = num (Fs.F 19 (insK18 l))) (h : 0 ≤ (l.getD 17 default).n ∧ (l.getD 17 default).n ≤ 63) : (wNow l t).n = wk (insK18 l) (l.getD 17 default).n := by
  simp only [wNow, wk, ht, cl64_id h]
def row14 : RowLoop k2014 1 where
  t := t14
  a := a14
  go := go14
  fin := end14
  ht := fun l => by
    have hi := ins_ok (xs := insK18 l) (by rw [insK18, insX_len]; omega)
    unfold t14
    rw [hi.t]
    rcases hi.tb with h | h <;> rw [h] <;> rfl
  ha := fun l h => by
    have hi := ins_ok (xs := insK18 l) (by rw [insK18, insX_len]; omega)
    have ht : t14 l = num (Fs.F 19 (insK18 l)) := by
      unfold t14
      rw [hi.t]
      rcases hi.tb with h | h <;> rw [h] <;> rfl
    have hw := wNow_n ht h
    have hr : 0 ≤ (wNow l (t14 l)).n ∧ (wNow l (t14 l)).n ≤ 63 := by rw [hw]; exact wk_range h
    simp only [a14]
    rw [F29_at (l := insK18 l) (insX_len _ _) hr, hw, cl64_id (ah_range (l := insK18 l) (insX_len _ _) (wk_range h))]
theorem insX_eq {x y : Nat → Arg} (h : ∀ i, 1 ≤ i → i < 17 → x i = y i) (j : Int) : insX x j = insX y j := by
  simp only [insX, insT, selK, insnK, opK, List.cons_append, List.nil_append, List.map_cons, List.map_nil, T.me, T.row, T.den]
  rw [h 1 (by decide) (by decide), h 2 (by decide) (by decide), h 3 (by decide) (by decide), h 4 (by decide) (by decide), h 5 (by decide) (by decide), h 6 (by decide) (by decide), h 7 (by decide) (by decide), h 8 (by decide) (by decide),
    h 9 (by decide) (by decide), h 10 (by decide) (by decide), h 11 (by decide) (by decide), h 12 (by decide) (by decide), h 13 (by decide) (by decide), h 14 (by decide) (by decide), h 15 (by decide) (by decide), h 16 (by decide) (by decide)]
theorem getD_left {p q : List Arg} {i : Nat} (h : i < p.length) : (p ++ q).getD i default = p.getD i default := by
  rw [List.getD_eq_getElem?_getD, List.getElem?_append_left h, ← List.getD_eq_getElem?_getD]
theorem getD_right {p q : List Arg} {i : Nat} : (p ++ q).getD (p.length + i) default = q.getD i default := by
  rw [List.getD_eq_getElem?_getD, List.getElem?_append_right (by omega), ← List.getD_eq_getElem?_getD]
  congr 1; omega
theorem rows_of {c : Lk} {e : Int} (R : RowLoop c e) {P : List Arg} (hP : P.length = 17) : ∀ (k : Nat) (a b r : Arg), b.n = (k : Int) - 1 → (k : Int) ≤ 9223372036854775807 → 0 ≤ a.n ∧ a.n ≤ 63 → ∀ f, k < f →
    ∃ a' b' r', iter Fs.F c f (P ++ [a, b, r]) = some [⟨e, fun _ => e⟩, a', b', r'] ∧ (∀ j, (k : Int) - 1 < j → cl64 (r'.s j) = cl64 (r.s j)) ∧ Rows (argE Fs.F P).x ((k : Int) - 1) a.n fun j => cl64 (r'.s j) := by
  have g17 : ∀ a b r : Arg, (P ++ [a, b, r]).getD 17 default = a := fun a b r => by have := getD_right (p := P) (q := [a, b, r]) (i := 0); rw [hP] at this; exact this
  have g18 : ∀ a b r : Arg, (P ++ [a, b, r]).getD 18 default = b := fun a b r => by have := getD_right (p := P) (q := [a, b, r]) (i := 1); rw [hP] at this; exact this
  have g19 : ∀ a b r : Arg, (P ++ [a, b, r]).getD 19 default = r := fun a b r => by have := getD_right (p := P) (q := [a, b, r]) (i := 2); rw [hP] at this; exact this
  have gi : ∀ (a b r : Arg) (j : Int), insX (argE Fs.F (P ++ [a, b, r])).x j = insX (argE Fs.F P).x j := fun a b r j => insX_eq (fun i _ hi => getD_left (by omega)) j
  have gk : ∀ (k : Nat) (a b r : Arg), b.n = (k : Int) - 1 → (k : Int) ≤ 9223372036854775807 → kOf (P ++ [a, b, r]) = (k : Int) - 1 := fun k a b r hb hk => by
    rw [kOf, g18, hb]; exact clamp_id ⟨by omega, by omega⟩
  intro k
  induction k with
  | zero =>
    intro a b r hb _ ha f hf
    obtain ⟨f, rfl⟩ : ∃ g, f = g + 1 := ⟨f - 1, by omega⟩
    have hk := gk 0 a b r hb (by decide)
    rw [R.fin f _ (by rw [hk]; rfl)]
    refine ⟨_, _, _, rfl, fun j _ => ?_, fun j h1 h2 => by omega⟩
    simp only [g19, cl64_cl]
  | succ k ih =>
    intro a b r hb hkm ha f hf
    obtain ⟨f, rfl⟩ : ∃ g, f = g + 1 := ⟨f - 1, by omega⟩
    have hk := gk (k + 1) a b r hb hkm
    have hk' : kOf (P ++ [a, b, r]) = (k : Int) := by rw [hk]; omega
    have hins : insK18 (P ++ [a, b, r]) = insX (argE Fs.F P).x k := by rw [insK18, gi, hk']
    rw [R.go f _ (by rw [hk', ltb_t]; omega)]
    have htk : (P ++ [a, b, r]).take 17 = P := by rw [← hP, List.take_left']; rfl
    rw [htk]
    have h17 : 0 ≤ ((P ++ [a, b, r]).getD 17 default).n ∧ ((P ++ [a, b, r]).getD 17 default).n ≤ 63 := by rw [g17]; exact ha
    have hA := R.ha _ h17
    have hW := wNow_n (R.ht _) h17
    rw [g17, hins] at hA hW
    have hAr : 0 ≤ (R.a (P ++ [a, b, r])).n ∧ (R.a (P ++ [a, b, r])).n ≤ 63 := by rw [hA]; exact ah_range (insX_len _ _) (wk_range ha)
    obtain ⟨a', b', r', i1, i2, i3⟩ := ih (R.a (P ++ [a, b, r])) (kNow (P ++ [a, b, r])) (rNow (P ++ [a, b, r]) (R.t (P ++ [a, b, r]))) (by simp only [kNow, hk']) (by omega) hAr f (by omega)
    have hrow : ∀ j, (k : Int) - 1 < j → cl64 (r'.s j) = if j = k then wk (insX (argE Fs.F P).x k) a.n else cl64 (r.s j) := fun j hj => by
      rw [i2 j hj]
      simp only [rNow, hk', hW, g19]
      split
      · exact cl64_id (wk_range ha)
      · exact cl64_cl _
    refine ⟨a', b', r', i1, fun j hj => ?_, fun j h1 h2 => ?_⟩
    · rw [hrow j (by omega), if_neg (by omega)]
    · by_cases he : j = k
      · rw [if_pos (by omega)]
        have := hrow j (by omega)
        rw [if_pos he, ← he] at this
        exact this
      · rw [if_neg (by omega)]
        have := i3 j h1 (by omega)
        simp only at this ⊢
        rw [this]
        by_cases hj : j = (k : Int) - 1
        · rw [if_pos hj]
          have hk1 : j + 1 = k := by omega
          rw [hk1, hA]
          have := hrow k (by omega)
          rw [if_pos rfl] at this
          rw [this]
        · rw [if_neg hj]
end Go.Sy
namespace Go.Sy
theorem borI_comm (a b : Int) : borI a b = borI b a := by simp only [borI, O2.den, BitVec.or_comm]
/-! ref9.Wanted -/
def D15 : List Df := (way k2015 0).ds
def t15 (l : List Arg) : Int := clamp 0 1 (num (Fs.F 19 (insK18 l)))
def op18 (l : List Arg) : Int := ((insK18 l).getD 0 default).n
def r15 (l : List Arg) : Int := cl64 (num (Fs.F 20 (insK18 l)))
def s15 (l : List Arg) : Int := cl64 (num (Fs.F 17 (insK18 l)))
def x15 : T := .bin .eq (.sel (.v 1 (-9223372036854775808) 9223372036854775807) (.v 18 (-1) 9223372036854775807)) (.lit 19)
def b15 : List T := [.bin .lt (.lit (-1)) (.v 18 (-1) 9223372036854775807), .v 20 0 1, x15]
theorem ok15 : k2015.ways.all (wyOk 20 D15 b15) = true := by kernel_rfl
theorem pick15 (l : List Arg) : pick Fs.F l 0 k2015.ways = pickA (b15.zip [ltb (-1) (kOf l), t15 l != 0, op18 l == 19]) 0 k2015.ways := by
  rw [pick_alpha ok15]
  have h1 : T.tr (extL (argE Fs.F l) D15) (.bin .lt (.lit (-1)) (.v 18 (-1) 9223372036854775807)) = ltb (-1) (kOf l) := by
    simp only [T.tr, T.den, O2.den, tb_ne]; rfl
  have h2 : T.tr (extL (argE Fs.F l) D15) (.v 20 0 1) = (t15 l != 0) := by kernel_rfl
  have h3 : T.tr (extL (argE Fs.F l) D15) x15 = (op18 l == 19) := by
    have : T.den (extL (argE Fs.F l) D15) x15 = tb (op18 l == 19) := by kernel_rfl
    rw [T.tr, this, tb_ne]
  simp only [b15, List.map_cons, List.map_nil, h1, h2, h3]
def a15 (l : List Arg) : Arg := if t15 l = 0 ∧ op18 l ≠ 19 then ⟨borI (if op18 l = 20 then 63 else bandnI (wNow l (t15 l)).n (s15 l)) (r15 l), fun _ => borI (if op18 l = 20 then 63 else bandnI (wNow l (t15 l)).n (s15 l)) (r15 l)⟩
  else ⟨borI 63 (r15 l), fun _ => borI 63 (r15 l)⟩
theorem ts15_0 (l : List Arg) : ∃ c : Int, c = tb (op18 l == 20) ∧ (way k2015 0).ts.map (T.me (wayE Fs.F l (way k2015 0))) = [⟨borI (if c = 0 then bandnI (wNow l (t15 l)).n (s15 l) else 63) (r15 l), fun _ => borI (if c = 0 then bandnI (wNow l (t15 l)).n (s15 l) else 63) (r15 l)⟩, kNow l, rNow l (t15 l)] := ⟨_, rfl, by kernel_rfl⟩
theorem ts15_1 (l : List Arg) : (way k2015 1).ts.map (T.me (wayE Fs.F l (way k2015 1))) = [⟨borI 63 (r15 l), fun _ => borI 63 (r15 l)⟩, kNow l, rNow l (t15 l)] := by kernel_rfl
theorem ts15_2 (l : List Arg) : (way k2015 2).ts.map (T.me (wayE Fs.F l (way k2015 2))) = [⟨borI 63 (r15 l), fun _ => borI 63 (r15 l)⟩, kNow l, rNow l (t15 l)] := by kernel_rfl
theorem te15 (l : List Arg) : (way k2015 3).ts.map (T.me (wayE Fs.F l (way k2015 3))) = endNow l := by kernel_rfl
theorem go15 (f : Nat) (l : List Arg) (h : ltb (-1) (kOf l) = true) : iter Fs.F k2015 (f + 1) l = iter Fs.F k2015 f (l.take 17 ++ [a15 l, kNow l, rNow l (t15 l)]) := by
  cases h2 : t15 l != 0
  · have h2' : t15 l = 0 := by simpa using h2
    cases h3 : op18 l == 19
    · have hp : pick Fs.F l 0 k2015.ways = some (0, way k2015 0) := by rw [pick15, h, h2, h3]; kernel_rfl
      obtain ⟨c, hc, hts⟩ := ts15_0 l
      have h3' : op18 l ≠ 19 := by simpa using h3
      rw [iter_at hp, hts]
      have : a15 l = ⟨borI (if c = 0 then bandnI (wNow l (t15 l)).n (s15 l) else 63) (r15 l), fun _ => borI (if c = 0 then bandnI (wNow l (t15 l)).n (s15 l) else 63) (r15 l)⟩ := by
        rw [a15, if_pos ⟨h2', h3'⟩]
        have : (if c = 0 then bandnI (wNow l (t15 l)).n (s15 l) else 63) = if op18 l = 20 then 63 else bandnI (wNow l (t15 l)).n (s15 l) := by
          by_cases h4 : op18 l = 20
          · rw [if_pos h4, hc, h4]; rfl
          · have : (op18 l == 20) = false := by simpa using h4
            rw [if_neg h4, hc, this]; rfl
        rw [this]
      rw [this]; rfl
    · have hp : pick Fs.F l 0 k2015.ways = some (1, way k2015 1) := by rw [pick15, h, h2, h3]; kernel_rfl
      have h3' : op18 l = 19 := by simpa using h3
      rw [iter_at hp, ts15_1, a15, if_neg (fun q => q.2 h3')]; rfl
  · have h2' : t15 l ≠ 0 := by simpa using h2
    have hp : pick Fs.F l 0 k2015.ways = some (2, way k2015 2) := by
      rw [pick15, h, h2]
      cases op18 l == 19 <;> kernel_rfl
    rw [iter_at hp, ts15_2, a15, if_neg (fun q => h2' q.1)]; rfl
theorem end15 (f : Nat) (l : List Arg) (h : ltb (-1) (kOf l) = false) : iter Fs.F k2015 (f + 1) l = some (⟨3, fun _ => 3⟩ :: endNow l) := by
  have hp : pick Fs.F l 0 k2015.ways = some (3, way k2015 3) := by
    rw [pick15, h]
    cases t15 l != 0 <;> cases op18 l == 19 <;> kernel_rfl
  rw [iter_at hp, te15]; rfl
theorem op18_cl (l : List Arg) : cl64 (op18 l) = op18 l := by
  have : op18 l = cl64 ((l.getD 1 default).s (kOf l)) := by kernel_rfl
  rw [this, cl64_cl]
theorem t15_eq (l : List Arg) : t15 l = num (Fs.F 19 (insK18 l)) := by
  have hi := ins_ok (xs := insK18 l) (by rw [insK18, insX_len]; omega)
  unfold t15
  rcases hi.tb with h | h <;> rw [h] <;> rfl
def row15 : RowLoop k2015 3 where
  t := t15
  a := a15
  go := go15
  fin := end15
  ht := t15_eq
  ha := fun l h => by
    have hi := ins_ok (xs := insK18 l) (by rw [insK18, insX_len]; omega)
    have hw := wNow_n (t15_eq l) h
    have hr : r15 l = num (Fs.F 20 (insK18 l)) := cl64_id hi.rr
    have hs : s15 l = num (Fs.F 17 (insK18 l)) := cl64_id hi.sr
    have h63 := (one_set hi.rr).1
    have hf := hi.f
    rw [← t15_eq l] at hf
    change num (Fs.F 48 (insK18 l)) = 0 ↔ t15 l = 0 ∧ cl64 (op18 l) ≠ 19 ∧ cl64 (op18 l) ≠ 20 at hf
    rw [op18_cl] at hf
    unfold a15 ah
    by_cases h1 : t15 l = 0 ∧ op18 l ≠ 19
    · rw [if_pos h1]
      by_cases h2 : op18 l = 20
      · rw [if_neg (fun q => (hf.1 q).2.2 h2)]
        simp only [h2, if_true, hr, h63]
      · rw [if_pos (hf.2 ⟨h1.1, h1.2, h2⟩)]
        simp only [if_neg h2, hr, hs, hw]
        -- the sets in the other order
        exact borI_comm _ _
    · rw [if_neg h1, if_neg (fun q => h1 ⟨(hf.1 q).1, (hf.1 q).2.1⟩), hr]
      exact h63
end Go.Sy
