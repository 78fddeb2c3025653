/- Functions, each told by its own run; and what follows from what they tell. -/
import Derived.KernelRfl
import Derived.Test.YtddfbikeaipepaaFreeD
namespace Go.Sy
/-! how functions look at an instruction -/
def cl64 (n : Int) : Int := clamp (kmin .i64) (kmax .i64) n
def opc (n : Int) : Int := clamp (-1) 54 (cl64 n)
def is3 (n : Int) : Bool := cl64 n == 3
def is2 (n : Int) : Bool := cl64 n == 2
def low31 (n : Int) : Int := O2.den (.band .u32) (clamp 0 4294967295 n) 31
/-- Letters below m are looked at in these ways alone; the others are the same. -/
structure Eo (m : Nat) (E E' : Env) : Prop where
  F : E.F = E'.F
  x : ∀ i, m ≤ i → E.x i = E'.x i
  o0 : opc (E.x 0).n = opc (E'.x 0).n
  o2 : is3 (E.x 2).n = is3 (E'.x 2).n
  o8 : is3 (E.x 8).n = is3 (E'.x 8).n
  p8 : is2 (E.x 8).n = is2 (E'.x 8).n
  o10 : (low31 (E.x 10).n == 0) = (low31 (E'.x 10).n == 0)
  p10 : (low31 (E.x 10).n == 1) = (low31 (E'.x 10).n == 1)
def seen (o : O2) (a b : T) : Bool := match o, a, b with
  | .eq, .v 0 lo hi, .lit n => lo == kmin .i64 && hi == kmax .i64 && leb 0 n && leb n 53
  | .lt, .v 0 lo hi, .lit n => lo == kmin .i64 && hi == kmax .i64 && leb 0 n && leb n 54
  | .lt, .lit n, .v 0 lo hi => lo == kmin .i64 && hi == kmax .i64 && leb (-1) n && leb n 53
  | .eq, .v 2 lo hi, .lit n => lo == kmin .i64 && hi == kmax .i64 && n == 3
  | .eq, .v 8 lo hi, .lit n => lo == kmin .i64 && hi == kmax .i64 && (n == 3 || n == 2)
  | .eq, .bin (.band .u32) (.v 10 lo hi) (.lit k), .lit n => lo == 0 && hi == 4294967295 && k == 31 && (n == 0 || n == 1)
  | _, _, _ => false
def T.obs (m : Nat) : T → Bool
  | .lit _ => true
  | .v i _ _ => Nat.ble m i
  | .un _ a => a.obs m
  | .bin o a b => (a.obs m && b.obs m) || seen o a b
  | .ite c a b => c.obs m && a.obs m && b.obs m
  | .sel s i => s.obs m && i.obs m
  | .upd s i x => s.obs m && i.obs m && x.obs m
  | .sh s o => s.obs m && o.obs m
  | .blit d o n s => d.obs m && o.obs m && n.obs m && s.obs m
  | .eqr n a b => n.obs m && a.obs m && b.obs m
theorem opc_eq {a b n : Int} (h : opc a = opc b) (h1 : 0 ≤ n) (h2 : n ≤ 53) : (cl64 a == n) = (cl64 b == n) := by
  unfold opc clamp at h
  rw [Bool.eq_iff_iff, beq_iff_eq, beq_iff_eq]
  split at h <;> split at h <;> (try split at h) <;> (try split at h) <;> omega
theorem opc_lt {a b n : Int} (h : opc a = opc b) (h1 : 0 ≤ n) (h2 : n ≤ 54) : ltb (cl64 a) n = ltb (cl64 b) n := by
  unfold opc clamp at h
  rw [Bool.eq_iff_iff, ltb_t, ltb_t]
  split at h <;> split at h <;> (try split at h) <;> (try split at h) <;> omega
theorem opc_gt {a b n : Int} (h : opc a = opc b) (h1 : -1 ≤ n) (h2 : n ≤ 53) : ltb n (cl64 a) = ltb n (cl64 b) := by
  unfold opc clamp at h
  rw [Bool.eq_iff_iff, ltb_t, ltb_t]
  split at h <;> split at h <;> (try split at h) <;> (try split at h) <;> omega
theorem seen_ok {m : Nat} {E E' : Env} (h : Eo m E E') {o : O2} {a b : T} (hs : seen o a b = true) : o.den (a.den E) (b.den E) = o.den (a.den E') (b.den E') := by
  unfold seen at hs
  split at hs
  · simp only [Bool.and_eq_true, beq_iff_eq, leb_t] at hs
    obtain ⟨⟨⟨rfl, rfl⟩, h1⟩, h2⟩ := hs
    exact congrArg tb (opc_eq h.o0 h1 h2)
  · simp only [Bool.and_eq_true, beq_iff_eq, leb_t] at hs
    obtain ⟨⟨⟨rfl, rfl⟩, h1⟩, h2⟩ := hs
    exact congrArg tb (opc_lt h.o0 h1 h2)
  · simp only [Bool.and_eq_true, beq_iff_eq, leb_t] at hs
    obtain ⟨⟨⟨rfl, rfl⟩, h1⟩, h2⟩ := hs
    exact congrArg tb (opc_gt h.o0 h1 h2)
  · simp only [Bool.and_eq_true, beq_iff_eq] at hs
    obtain ⟨⟨rfl, rfl⟩, rfl⟩ := hs
    exact congrArg tb h.o2
  · simp only [Bool.and_eq_true, Bool.or_eq_true, beq_iff_eq] at hs
    obtain ⟨⟨rfl, rfl⟩, rfl | rfl⟩ := hs
    · exact congrArg tb h.o8
    · exact congrArg tb h.p8
  · simp only [Bool.and_eq_true, Bool.or_eq_true, beq_iff_eq] at hs
    obtain ⟨⟨⟨rfl, rfl⟩, rfl⟩, rfl | rfl⟩ := hs
    · exact congrArg tb h.o10
    · exact congrArg tb h.p10
  · cases hs
theorem T.obs_ok {m : Nat} {E E' : Env} (h : Eo m E E') {t : T} (ht : t.obs m = true) : t.den E = t.den E' ∧ t.row E = t.row E' := by
  induction t with
  | lit n => exact ⟨rfl, rfl⟩
  | v i lo hi =>
    simp only [T.obs, Nat.ble_eq] at ht
    exact ⟨by simp only [T.den, h.x i ht], by funext j; simp only [T.row, h.x i ht]⟩
  | un o a ih => simp only [T.obs] at ht; cases o <;> exact ⟨by simp only [T.den, (ih ht).1], by funext j; simp only [T.row, (ih ht).1, (ih ht).2]⟩
  | bin o a b iha ihb =>
    simp only [T.obs, Bool.or_eq_true, Bool.and_eq_true] at ht
    have key : o.den (a.den E) (b.den E) = o.den (a.den E') (b.den E') := by
      rcases ht with ⟨h1, h2⟩ | h1
      · rw [(iha h1).1, (ihb h2).1]
      · exact seen_ok h h1
    exact ⟨key, by funext j; exact key⟩
  | ite c a b ihc iha ihb =>
    simp only [T.obs, Bool.and_eq_true] at ht
    exact ⟨by simp only [T.den, (ihc ht.1.1).1, (iha ht.1.2).1, (ihb ht.2).1], by funext j; simp only [T.row, (ihc ht.1.1).1, (iha ht.1.2).2, (ihb ht.2).2]⟩
  | sel s i ihs ihi => simp only [T.obs, Bool.and_eq_true] at ht; exact ⟨by simp only [T.den, (ihs ht.1).2, (ihi ht.2).1], by funext j; simp only [T.row, (ihs ht.1).2, (ihi ht.2).1]⟩
  | upd s i x ihs ihi ihx => simp only [T.obs, Bool.and_eq_true] at ht; exact ⟨rfl, by funext j; simp only [T.row, (ihs ht.1.1).2, (ihi ht.1.2).1, (ihx ht.2).1]⟩
  | sh s o ihs iho => simp only [T.obs, Bool.and_eq_true] at ht; exact ⟨rfl, by funext j; simp only [T.row, (ihs ht.1).2, (iho ht.2).1]⟩
  | blit d o n s ihd iho ihn ihs => simp only [T.obs, Bool.and_eq_true] at ht; exact ⟨rfl, by funext j; simp only [T.row, (ihd ht.1.1.1).2, (iho ht.1.1.2).1, (ihn ht.1.2).1, (ihs ht.2).2]⟩
  | eqr n a b ihn iha ihb => simp only [T.obs, Bool.and_eq_true] at ht; exact ⟨by simp only [T.den, (ihn ht.1.1).1, (iha ht.1.2).2, (ihb ht.2).2], by funext j; simp only [T.row, (ihn ht.1.1).1, (iha ht.1.2).2, (ihb ht.2).2]⟩
/-- The functions, and how many of their letters are an instruction's. -/
def nice : List (Nat × Nat) := [(75, 0), (32, 0), (27, 16), (19, 16), (72, 1), (31, 1), (44, 16), (30, 16), (16, 16), (48, 16), (50, 1), (34, 1), (20, 16), (33, 16), (17, 16)]
def niceOf (g : Nat) : Option Nat := (nice.find? fun p => Nat.beq p.1 g).map (·.2)
/-- A letter handed on at its own place, or what is the same. -/
def argOk (m mg i : Nat) (t : T) : Bool := t.obs m || (Nat.blt i mg && match t with
  | .v j lo hi => Nat.beq i j && (bif Nat.beq i 10 then lo == 0 && hi == 4294967295 else (lo == kmin .i64 && hi == kmax .i64) || !(Nat.beq i 0 || Nat.beq i 2 || Nat.beq i 8))
  | _ => false)
def argsOk (m mg : Nat) : Nat → List T → Bool
  | _, [] => true
  | i, t :: r => argOk m mg i t && argsOk m mg (i + 1) r
def dOk (m : Nat) : Df → Bool
  | .one i t => Nat.ble m i && t.obs m
  | .call i g args _ => Nat.ble m i && match niceOf g with
    | some mg => argsOk m mg 0 args
    | none => false
/-- What is seen of a letter. -/
def sees (i : Nat) (a b : Int) : Prop := (i = 0 → opc a = opc b) ∧ (i = 2 → is3 a = is3 b) ∧ (i = 8 → is3 a = is3 b ∧ is2 a = is2 b) ∧ (i = 10 → (low31 a == 0) = (low31 b == 0) ∧ (low31 a == 1) = (low31 b == 1))
theorem sees_refl (i : Nat) (a : Int) : sees i a a := ⟨fun _ => rfl, fun _ => rfl, fun _ => ⟨rfl, rfl⟩, fun _ => ⟨rfl, rfl⟩⟩
theorem eo_of {m : Nat} {E E' : Env} (hF : E.F = E'.F) (hx : ∀ i, E.x i = E'.x i ∨ (i < m ∧ sees i (E.x i).n (E'.x i).n)) : Eo m E E' := by
  have hs : ∀ i, sees i (E.x i).n (E'.x i).n := fun i => by
    rcases hx i with h | h
    · rw [h]; exact sees_refl _ _
    · exact h.2
  exact ⟨hF, fun i hi => (hx i).elim id fun h => absurd h.1 (by omega), (hs 0).1 rfl, (hs 2).2.1 rfl, ((hs 8).2.2.1 rfl).1, ((hs 8).2.2.1 rfl).2, ((hs 10).2.2.2 rfl).1, ((hs 10).2.2.2 rfl).2⟩
theorem Eo.sees {m : Nat} {E E' : Env} (h : Eo m E E') (i : Nat) : sees i (E.x i).n (E'.x i).n :=
  ⟨fun e => by subst e; exact h.o0, fun e => by subst e; exact h.o2, fun e => by subst e; exact ⟨h.o8, h.p8⟩, fun e => by subst e; exact ⟨h.o10, h.p10⟩⟩
theorem Eo.of_x {m : Nat} {E E' : Env} (h : Eo m E E') (i : Nat) : E.x i = E'.x i ∨ (i < m ∧ Go.Sy.sees i (E.x i).n (E'.x i).n) := by
  by_cases hi : i < m
  · exact .inr ⟨hi, h.sees i⟩
  · exact .inl (h.x i (by omega))
theorem clamp_mid {lo hi n : Int} (h : lo ≤ hi) : clamp lo hi (clamp lo hi n) = clamp lo hi n := by
  unfold clamp; split <;> split <;> (try split) <;> omega
theorem cl64_cl (n : Int) : cl64 (cl64 n) = cl64 n := clamp_mid (by decide)
theorem low31_cl (n : Int) : low31 (clamp 0 4294967295 n) = low31 n := by unfold low31; rw [clamp_mid (by decide)]
theorem T.obs_me {m : Nat} {E E' : Env} (h : Eo m E E') {t : T} (ht : t.obs m = true) : t.me E = t.me E' := by
  obtain ⟨h1, h2⟩ := T.obs_ok h ht
  unfold T.me; rw [h1, h2]
theorem arg_sees {m mg i : Nat} {E E' : Env} (h : Eo m E E') {t : T} (ht : argOk m mg i t = true) : t.me E = t.me E' ∨ (i < mg ∧ Go.Sy.sees i (t.me E).n (t.me E').n) := by
  simp only [argOk, Bool.or_eq_true, Bool.and_eq_true, Nat.blt_eq] at ht
  rcases ht with ht | ⟨h1, h2⟩
  · exact .inl (T.obs_me h ht)
  refine .inr ⟨h1, ?_⟩
  split at h2
  · rename_i j lo hi
    simp only [Bool.and_eq_true] at h2
    obtain ⟨h2, h3⟩ := h2
    have h2 := Nat.eq_of_beq_eq_true h2
    subst h2
    have hs := h.sees i
    have key : ∀ (lo hi : Int), (i = 10 → lo = 0 ∧ hi = 4294967295) → (i = 0 ∨ i = 2 ∨ i = 8 → lo = kmin .i64 ∧ hi = kmax .i64) → Go.Sy.sees i (clamp lo hi (E.x i).n) (clamp lo hi (E'.x i).n) := by
      intro lo hi g1 g2
      refine ⟨fun e => ?_, fun e => ?_, fun e => ?_, fun e => ?_⟩
      · obtain ⟨rfl, rfl⟩ := g2 (.inl e)
        have := hs.1 e
        unfold opc at this ⊢
        rw [← cl64_cl (E.x i).n, ← cl64_cl (E'.x i).n] at this; exact this
      · obtain ⟨rfl, rfl⟩ := g2 (.inr (.inl e))
        have := hs.2.1 e
        unfold is3 at this ⊢
        rw [← cl64_cl (E.x i).n, ← cl64_cl (E'.x i).n] at this; exact this
      · obtain ⟨rfl, rfl⟩ := g2 (.inr (.inr e))
        have := hs.2.2.1 e
        unfold is3 is2 at this ⊢
        rw [← cl64_cl (E.x i).n, ← cl64_cl (E'.x i).n] at this; exact this
      · obtain ⟨rfl, rfl⟩ := g1 e
        rw [low31_cl, low31_cl]
        exact hs.2.2.2 e
    refine key lo hi (fun e => ?_) fun e => ?_
    · subst e
      simp only [Nat.beq_refl, cond_true, Bool.and_eq_true, beq_iff_eq] at h3
      exact h3
    · have hn : Nat.beq i 10 = false := by rcases e with rfl | rfl | rfl <;> rfl
      have hq : (Nat.beq i 0 || Nat.beq i 2 || Nat.beq i 8) = true := by rcases e with rfl | rfl | rfl <;> rfl
      simp only [hn, hq, cond_false, Bool.not_true, Bool.or_false, Bool.and_eq_true, beq_iff_eq] at h3
      exact h3
  · cases h2
theorem argsOk_get {m mg : Nat} : ∀ {l : List T} {i : Nat}, argsOk m mg i l = true → ∀ (j : Nat) (t : T), l[j]? = some t → argOk m mg (i + j) t = true := by
  intro l
  induction l with
  | nil => intro i _ j t h; simp at h
  | cons x r ih =>
    intro i h j t hj
    simp only [argsOk, Bool.and_eq_true] at h
    cases j with
    | zero => simp at hj; subst hj; exact h.1
    | succ j =>
      have := ih h.2 j t (by simpa using hj)
      rw [show i + (j + 1) = i + 1 + j by omega]; exact this
theorem args_eo {m mg : Nat} {E E' : Env} (h : Eo m E E') {F : Nat → List Arg → List Arg} {l : List T} (hl : argsOk m mg 0 l = true) : Eo mg (argE F (l.map (T.me E))) (argE F (l.map (T.me E'))) := by
  refine eo_of rfl fun i => ?_
  simp only [argE, List.getD_eq_getElem?_getD, List.getElem?_map]
  cases hi : l[i]? with
  | none => exact .inl rfl
  | some t =>
    have := argsOk_get hl i t hi
    rw [Nat.zero_add] at this
    exact arg_sees h this
/-- Does a function of a table look so alone? -/
def Te.nice : Te → Bool
  | .card c => match niceOf c.g with
    | none => true
    | some m => c.ds.all (dOk m) && c.ls.all (·.obs m)
  | .loop c => (niceOf c.id).isNone
  | .sw c => (niceOf c.id).isNone
def allNice (F : Nat → List Arg → List Arg) : Prop := ∀ g m, niceOf g = some m → ∀ xs ys : List Arg, Eo m (argE F xs) (argE F ys) → F g xs = F g ys
theorem ext_eo {m : Nat} {E E' : Env} (hF : allNice E.F) (h : Eo m E E') {d : Df} (hd : dOk m d = true) : Eo m (d.ext E) (d.ext E') := by
  have set : ∀ (i cnt : Nat) (f g : Nat → Arg), (∀ k, f k = g k) → Eo m (setX E i cnt f) (setX E' i cnt g) := fun i cnt f g hfg => by
    refine eo_of h.F fun j => ?_
    simp only [setX]
    split
    · exact .inl (hfg _)
    · exact h.of_x j
  cases d with
  | one i t =>
    simp only [dOk, Bool.and_eq_true] at hd
    exact set i 1 _ _ fun _ => T.obs_me h hd.2
  | call i g args cnt =>
    simp only [dOk, Bool.and_eq_true] at hd
    obtain ⟨_, hd⟩ := hd
    split at hd
    · rename_i mg hm
      simp only [Df.ext]
      refine set i cnt _ _ fun k => ?_
      have := hF g mg hm _ _ (args_eo (F := E.F) h hd)
      rw [this, h.F]
    · cases hd
theorem extL_eo {m : Nat} {E E' : Env} (hF : allNice E.F) (h : Eo m E E') : ∀ {ds : List Df}, ds.all (dOk m) = true → Eo m (extL E ds) (extL E' ds) := by
  intro ds
  induction ds with
  | nil => intro _; exact h
  | cons d r ih =>
    intro hd
    simp only [List.all_cons, Bool.and_eq_true] at hd
    have e : (extL E r).F = E.F := (extL_noF (x := E.x) (F := E.F) (F' := E.F) (ds := r) fun _ _ _ _ => rfl).2
    exact ext_eo (by rw [e]; exact hF) (ih hd.2) hd.1
theorem allNice_mk : ∀ {l : List Te}, l.all Te.nice = true → allNice (mkG l) := by
  intro l
  induction l with
  | nil => intro _ g m _ xs ys _; rfl
  | cons c r ih =>
    intro h
    simp only [List.all_cons, Bool.and_eq_true] at h
    have ih := ih h.2
    intro g m hg xs ys he
    simp only [mkG]
    cases hb : Nat.beq g c.id <;> simp only [cond_true, cond_false]
    · exact ih g m hg xs ys ⟨rfl, he.x, he.o0, he.o2, he.o8, he.p8, he.o10, he.p10⟩
    · have hb := Nat.eq_of_beq_eq_true hb
      have hc := h.1
      cases c with
      | loop c =>
        simp only [Te.nice, Te.id] at hc hb
        rw [← hb, hg] at hc; cases hc
      | sw c =>
        simp only [Te.nice, Te.id] at hc hb
        rw [← hb, hg] at hc; cases hc
      | card c =>
        simp only [Te.nice, Te.id] at hc hb
        rw [← hb, hg] at hc
        simp only [Bool.and_eq_true, List.all_eq_true] at hc
        simp only [Te.spec, Fk.spec]
        refine List.map_congr_left fun t ht => ?_
        refine T.obs_me (extL_eo (E := argE (mkG r) xs) (E' := argE (mkG r) ys) ih ⟨rfl, he.x, he.o0, he.o2, he.o8, he.p8, he.o10, he.p10⟩ ?_) (hc.2 t ht)
        rw [List.all_eq_true]; exact hc.1
theorem niceT : allNice Fs.F := allNice_mk (l := table) (by kernel_rfl)
end Go.Sy
namespace Go.Sy
/-! what the functions say of an instruction -/
def num (l : List Arg) : Int := ((l[0]?).getD default).n
def aN (n : Int) : Arg := ⟨n, fun _ => n⟩
def mkI (x a b c : Int) : List Arg := [aN x, aN 0, aN a, aN 0, aN 0, aN 0, aN 0, aN 0, aN b, aN 0, aN c]
def rp (xs : List Arg) : List Arg := mkI (opc (xs.getD 0 default).n) (if is3 (xs.getD 2 default).n then 3 else 0) (if is3 (xs.getD 8 default).n then 3 else if is2 (xs.getD 8 default).n then 2 else 0)
  (if low31 (xs.getD 10 default).n == 0 then 0 else if low31 (xs.getD 10 default).n == 1 then 1 else 2)
theorem opc_range (n : Int) : -1 ≤ opc n ∧ opc n ≤ 54 := by unfold opc clamp; split <;> (try split) <;> omega
theorem opc_opc (n : Int) : opc (opc n) = opc n := by
  have h := opc_range n
  have h2 : cl64 (opc n) = opc n := clamp_id ⟨by show (-9223372036854775808 : Int) ≤ _; omega, by show _ ≤ (9223372036854775807 : Int); omega⟩
  rw [opc, h2, clamp_id h]
theorem opc_at {n k : Int} (h0 : 0 ≤ k) (h1 : k ≤ 53) : (opc n == k) = (cl64 n == k) := by
  rw [Bool.eq_iff_iff, beq_iff_eq, beq_iff_eq]
  unfold opc clamp; split <;> (try split) <;> omega
theorem rp_eo {F : Nat → List Arg → List Arg} {xs : List Arg} (hl : xs.length ≤ 16) : Eo 16 (argE F xs) (argE F (rp xs)) := by
  refine eo_of rfl fun i => ?_
  by_cases hi : i < 16
  · refine .inr ⟨hi, fun e => ?_, fun e => ?_, fun e => ?_, fun e => ?_⟩
    · subst e; exact (opc_opc _).symm
    · subst e
      show is3 (xs.getD 2 default).n = is3 (if is3 (xs.getD 2 default).n then 3 else 0)
      cases is3 (xs.getD 2 default).n <;> rfl
    · subst e
      show is3 (xs.getD 8 default).n = is3 (if is3 (xs.getD 8 default).n then 3 else if is2 (xs.getD 8 default).n then 2 else 0) ∧ is2 (xs.getD 8 default).n = is2 (if is3 (xs.getD 8 default).n then 3 else if is2 (xs.getD 8 default).n then 2 else 0)
      cases h3 : is3 (xs.getD 8 default).n
      · cases is2 (xs.getD 8 default).n <;> exact ⟨rfl, rfl⟩
      · refine ⟨rfl, ?_⟩
        unfold is3 at h3
        unfold is2
        rw [beq_iff_eq.1 h3]; rfl
    · subst e
      show (low31 (xs.getD 10 default).n == 0) = (low31 (if low31 (xs.getD 10 default).n == 0 then 0 else if low31 (xs.getD 10 default).n == 1 then 1 else 2) == 0) ∧
        (low31 (xs.getD 10 default).n == 1) = (low31 (if low31 (xs.getD 10 default).n == 0 then 0 else if low31 (xs.getD 10 default).n == 1 then 1 else 2) == 1)
      cases h3 : low31 (xs.getD 10 default).n == 0
      · cases low31 (xs.getD 10 default).n == 1 <;> exact ⟨by decide, by decide⟩
      · simp only [ite_true]; refine ⟨by decide, ?_⟩
        rw [beq_iff_eq.1 h3]; decide
  · refine .inl ?_
    simp only [argE, List.getD_eq_getElem?_getD]
    rw [List.getElem?_eq_none (by omega), List.getElem?_eq_none (by simp [rp, mkI]; omega)]
def chkT (l : List Arg) (x : Int) : Bool :=
  fcI (num (Fs.F 19 l)) fun t => fcI (num (Fs.F 48 l)) fun f =>
  num (Fs.F 27 l) == t && (t == 0 || t == 1) && ((f == 0) == (t == 0 && !(x == 19) && !(x == 20))) && leb 0 f && leb f 1
def chkS (l : List Arg) : Bool := fcI (num (Fs.F 17 l)) fun s => num (Fs.F 16 l) == s && leb 0 s && leb s 63
def chkR (l : List Arg) : Bool := fcI (num (Fs.F 20 l)) fun r => num (Fs.F 44 l) == r && leb 0 r && leb r 63
def ops : List Int := (List.range 56).map fun x => Int.ofNat x - 1
def chkA (p : Int → Int → Int → Int → Bool) : Bool := fcLs fcI ops fun ops => ops.all fun x => [0, 3].all fun a => [0, 2, 3].all fun b => [0, 1, 2].all fun c => p x a b c
theorem chk1_ok : chkA (fun x a b c => chkT (mkI x a b c) x) = true := by kernel_rfl
theorem chk2_ok : chkA (fun x a b c => chkS (mkI x a b c)) = true := by kernel_rfl
theorem chk3_ok : chkA (fun x a b c => chkR (mkI x a b c)) = true := by kernel_rfl
theorem chkA_at {p : Int → Int → Int → Int → Bool} (h : chkA p = true) (xs : List Arg) : p (opc (xs.getD 0 default).n) (if is3 (xs.getD 2 default).n then 3 else 0)
    (if is3 (xs.getD 8 default).n then 3 else if is2 (xs.getD 8 default).n then 2 else 0) (if low31 (xs.getD 10 default).n == 0 then 0 else if low31 (xs.getD 10 default).n == 1 then 1 else 2) = true := by
  have hr := opc_range (xs.getD 0 default).n
  simp only [chkA, fcLs_eq fcI_eq, List.all_eq_true] at h
  refine h _ ?_ _ ?_ _ ?_ _ ?_
  · unfold ops
    rw [List.mem_map]
    exact ⟨(opc (xs.getD 0 default).n + 1).toNat, List.mem_range.2 (by omega), by simp only [Int.ofNat_eq_natCast]; omega⟩
  · cases is3 (xs.getD 2 default).n <;> decide
  · cases is3 (xs.getD 8 default).n <;> cases is2 (xs.getD 8 default).n <;> decide
  · cases low31 (xs.getD 10 default).n == 0 <;> cases low31 (xs.getD 10 default).n == 1 <;> decide
structure Ins (xs : List Arg) : Prop where
  t : num (Fs.F 27 xs) = num (Fs.F 19 xs)
  tb : num (Fs.F 19 xs) = 0 ∨ num (Fs.F 19 xs) = 1
  s : num (Fs.F 16 xs) = num (Fs.F 17 xs)
  sr : 0 ≤ num (Fs.F 17 xs) ∧ num (Fs.F 17 xs) ≤ 63
  r : num (Fs.F 44 xs) = num (Fs.F 20 xs)
  rr : 0 ≤ num (Fs.F 20 xs) ∧ num (Fs.F 20 xs) ≤ 63
  f : num (Fs.F 48 xs) = 0 ↔ num (Fs.F 19 xs) = 0 ∧ cl64 (xs.getD 0 default).n ≠ 19 ∧ cl64 (xs.getD 0 default).n ≠ 20
  fb : 0 ≤ num (Fs.F 48 xs) ∧ num (Fs.F 48 xs) ≤ 1
theorem ins_ok {xs : List Arg} (hl : xs.length ≤ 16) : Ins xs := by
  have he := rp_eo (F := Fs.F) hl
  have e : ∀ g, niceOf g = some 16 → Fs.F g (rp xs) = Fs.F g xs := fun g hg => (niceT g 16 hg _ _ he).symm
  have g1 := chkA_at chk1_ok xs
  have g2 := chkA_at chk2_ok xs
  have g3 := chkA_at chk3_ok xs
  simp only [chkT] at g1
  change (fcI (num (Fs.F 19 (rp xs))) fun t => fcI (num (Fs.F 48 (rp xs))) fun f => num (Fs.F 27 (rp xs)) == t && (t == 0 || t == 1) && ((f == 0) == (t == 0 && !(opc (xs.getD 0 default).n == 19) && !(opc (xs.getD 0 default).n == 20))) && leb 0 f && leb f 1) = true at g1
  change (fcI (num (Fs.F 17 (rp xs))) fun s => num (Fs.F 16 (rp xs)) == s && leb 0 s && leb s 63) = true at g2
  change (fcI (num (Fs.F 20 (rp xs))) fun r => num (Fs.F 44 (rp xs)) == r && leb 0 r && leb r 63) = true at g3
  rw [e 27 rfl, e 19 rfl, e 48 rfl, opc_at (n := (xs.getD 0 default).n) (k := 19) (by decide) (by decide), opc_at (n := (xs.getD 0 default).n) (k := 20) (by decide) (by decide), fcI_eq, fcI_eq] at g1
  rw [e 17 rfl, e 16 rfl, fcI_eq] at g2
  rw [e 20 rfl, e 44 rfl, fcI_eq] at g3
  simp only [Bool.and_eq_true, Bool.or_eq_true, beq_iff_eq, leb_t] at g1 g2 g3
  obtain ⟨⟨⟨⟨h1, h2⟩, h9⟩, h10⟩, h11⟩ := g1
  refine ⟨h1, h2, g2.1.1, ⟨g2.1.2, g2.2⟩, g3.1.1, ⟨g3.1.2, g3.2⟩, ?_, ⟨h10, h11⟩⟩
  rw [Bool.eq_iff_iff] at h9
  simpa [and_assoc] using h9
/-! sets of flags -/
def borI (a b : Int) : Int := O2.den (.bor .i64) a b
def bandnI (a b : Int) : Int := O2.den (.bandn .i64) a b
def bandI (a b : Int) : Int := O2.den (.band .i64) a b
def inS (n : Int) : Bool := leb 0 n && leb n 63
def chkB : Bool := (List.range 64).all fun a => (List.range 64).all fun b => inS (borI a b) && inS (bandnI a b) && bandI (borI a b) a == a
def chkC : Bool := (List.range 64).all fun a => borI 63 a == 63 && bandI 63 a == a
theorem chkB_ok : chkB = true := by kernel_rfl
theorem chkC_ok : chkC = true := by kernel_rfl
theorem two_set {a b : Int} (ha : 0 ≤ a ∧ a ≤ 63) (hb : 0 ≤ b ∧ b ≤ 63) : (0 ≤ borI a b ∧ borI a b ≤ 63) ∧ (0 ≤ bandnI a b ∧ bandnI a b ≤ 63) ∧ bandI (borI a b) a = a := by
  have h := chkB_ok
  simp only [chkB, List.all_eq_true, List.mem_range] at h
  have := h a.toNat (by omega) b.toNat (by omega)
  rw [Int.toNat_of_nonneg ha.1, Int.toNat_of_nonneg hb.1] at this
  simp only [inS, Bool.and_eq_true, leb_t, beq_iff_eq] at this
  exact ⟨this.1.1, this.1.2, this.2⟩
theorem one_set {a : Int} (ha : 0 ≤ a ∧ a ≤ 63) : borI 63 a = 63 ∧ bandI 63 a = a := by
  have h := chkC_ok
  simp only [chkC, List.all_eq_true, List.mem_range] at h
  have := h a.toNat (by omega)
  rw [Int.toNat_of_nonneg ha.1] at this
  simpa using this
end Go.Sy
namespace Go.Sy
/-! rows of instructions -/
def selK (i : Nat) (j : T) : List K → List T
  | [] => []
  | .i k :: r => .sel (.v i (kmin k) (kmax k)) j :: selK (i + 1) j r
  | .b :: r => .sel (.v i 0 1) j :: selK (i + 1) j r
def insT (j : T) : List T := selK 1 j insnK
/-- The instruction at a place of a row. -/
def insX (x : Nat → Arg) (j : Int) : List Arg := (insT (.lit j)).map (T.me ⟨x, Fs.F⟩)
theorem insT_me (E : Env) (t : T) : (insT t).map (T.me E) = insX E.x (t.den E) := by kernel_rfl
theorem insX_len (x : Nat → Arg) (j : Int) : (insX x j).length = 16 := by kernel_rfl
theorem insX_cl (x : Nat → Arg) (rest : List Arg) (j : Int) : insX (argE Fs.F (parI.map (T.me ⟨x, Fs.F⟩) ++ rest)).x j = insX x j := by
  have h1 : ∀ n, clamp (kmin .i64) (kmax .i64) (clamp (kmin .i64) (kmax .i64) n) = clamp (kmin .i64) (kmax .i64) n := fun n => clamp_mid (by decide)
  have h2 : ∀ n, clamp (kmin .u32) (kmax .u32) (clamp (kmin .u32) (kmax .u32) n) = clamp (kmin .u32) (kmax .u32) n := fun n => clamp_mid (by decide)
  have h3 : ∀ n, clamp 0 1 (clamp 0 1 n) = clamp 0 1 n := fun n => clamp_mid (by decide)
  simp only [insX, insT, selK, insnK, opK, List.cons_append, List.nil_append, List.map_cons, List.map_nil, T.me, T.row, T.den, parI, parK, nL, argE, List.getD_cons_succ, List.getD_cons_zero, h1, h2, h3]
theorem sees_clamp (i : Nat) (lo hi n : Int) (g1 : i = 10 → lo = 0 ∧ hi = 4294967295) (g2 : i = 0 ∨ i = 2 ∨ i = 8 → lo = kmin .i64 ∧ hi = kmax .i64) : sees i (clamp lo hi n) n := by
  refine ⟨fun e => ?_, fun e => ?_, fun e => ?_, fun e => ?_⟩
  · obtain ⟨rfl, rfl⟩ := g2 (.inl e)
    show opc (cl64 n) = opc n
    unfold opc; rw [cl64_cl]
  · obtain ⟨rfl, rfl⟩ := g2 (.inr (.inl e))
    show is3 (cl64 n) = is3 n
    unfold is3; rw [cl64_cl]
  · obtain ⟨rfl, rfl⟩ := g2 (.inr (.inr e))
    show is3 (cl64 n) = is3 n ∧ is2 (cl64 n) = is2 n
    unfold is3 is2; rw [cl64_cl]; exact ⟨rfl, rfl⟩
  · obtain ⟨rfl, rfl⟩ := g1 e
    rw [low31_cl]; exact ⟨rfl, rfl⟩
def preT : List T := parK 0 insnK
def preA (xs : List Arg) : List Arg := preT.map (T.me (argE Fs.F xs))
theorem preT_at (i : Nat) (hi : i < 16) : ∃ lo hi : Int, preT[i]? = some (.v i lo hi) ∧ (i = 10 → lo = 0 ∧ hi = 4294967295) ∧ (i = 0 ∨ i = 2 ∨ i = 8 → lo = kmin .i64 ∧ hi = kmax .i64) := by
  have h : i = 0 ∨ i = 1 ∨ i = 2 ∨ i = 3 ∨ i = 4 ∨ i = 5 ∨ i = 6 ∨ i = 7 ∨ i = 8 ∨ i = 9 ∨ i = 10 ∨ i = 11 ∨ i = 12 ∨ i = 13 ∨ i = 14 ∨ i = 15 := by omega
  rcases h with rfl | rfl | rfl | rfl | rfl | rfl | rfl | rfl | rfl | rfl | rfl | rfl | rfl | rfl | rfl | rfl <;> exact ⟨_, _, rfl, by decide, by decide⟩
theorem pre_eo {xs : List Arg} (hl : xs.length = 16) (rest : List Arg) : Eo 16 (argE Fs.F (preA (xs ++ rest))) (argE Fs.F xs) := by
  refine eo_of rfl fun i => ?_
  by_cases hi : i < 16
  · refine .inr ⟨hi, ?_⟩
    obtain ⟨lo, hi', h1, h2, h3⟩ := preT_at i hi
    have e : (argE Fs.F (preA (xs ++ rest))).x i = T.me (argE Fs.F (xs ++ rest)) (.v i lo hi') := by
      simp only [argE, preA, List.getD_eq_getElem?_getD, List.getElem?_map, h1, Option.map_some, Option.getD_some]
    rw [e]
    show sees i (clamp lo hi' ((xs ++ rest).getD i default).n) (xs.getD i default).n
    rw [List.getD_eq_getElem?_getD, List.getElem?_append_left (by omega), ← List.getD_eq_getElem?_getD]
    exact sees_clamp i lo hi' _ h2 h3
  · refine .inl ?_
    have hp : (preA (xs ++ rest)).length = 16 := by rw [preA, List.length_map]; rfl
    simp only [argE, List.getD_eq_getElem?_getD]
    rw [List.getElem?_eq_none (by omega), List.getElem?_eq_none (by omega)]
/-- What is wanted ahead of an instruction. -/
def ah (l : List Arg) (w : Int) : Int := if num (Fs.F 48 l) = 0 then borI (num (Fs.F 20 l)) (bandnI w (num (Fs.F 17 l))) else 63
/-- What is wanted behind it. -/
def wk (l : List Arg) (w : Int) : Int := if num (Fs.F 19 l) = 0 then w else 63
theorem F29 (xs : List Arg) : num (Fs.F 29 xs) = if clamp 0 1 (num (Fs.F 48 (preA xs))) = 0 then borI (cl64 (num (Fs.F 44 (preA xs)))) (bandnI (cl64 (xs.getD 16 default).n) (cl64 (num (Fs.F 16 (preA xs))))) else 63 := by kernel_rfl
theorem cl64_id {n : Int} (h : 0 ≤ n ∧ n ≤ 63) : cl64 n = n := clamp_id ⟨by show (-9223372036854775808 : Int) ≤ _; omega, by show _ ≤ (9223372036854775807 : Int); omega⟩
theorem F29_at {l : List Arg} (hl : l.length = 16) {a : Arg} (ha : 0 ≤ a.n ∧ a.n ≤ 63) : num (Fs.F 29 (l ++ [a])) = ah l a.n := by
  have he := pre_eo hl [a]
  have e : ∀ g, niceOf g = some 16 → Fs.F g (preA (l ++ [a])) = Fs.F g l := fun g hg => niceT g 16 hg _ _ he
  have hi := ins_ok (xs := l) (by omega)
  have hg : (l ++ [a]).getD 16 default = a := by
    rw [List.getD_eq_getElem?_getD, List.getElem?_append_right (by omega), hl]; rfl
  rw [F29, e 48 rfl, e 44 rfl, e 16 rfl, hg, hi.r, hi.s, cl64_id hi.rr, cl64_id hi.sr, cl64_id ha, clamp_id hi.fb]
  rfl
theorem ah_range {l : List Arg} (hl : l.length = 16) {w : Int} (hw : 0 ≤ w ∧ w ≤ 63) : 0 ≤ ah l w ∧ ah l w ≤ 63 := by
  have hi := ins_ok (xs := l) (by omega)
  unfold ah
  split
  · exact (two_set hi.rr (two_set hw hi.sr).2.1).1
  · omega
theorem wk_range {l : List Arg} {w : Int} (hw : 0 ≤ w ∧ w ≤ 63) : 0 ≤ wk l w ∧ wk l w ≤ 63 := by
  unfold wk; split <;> omega
/-- A row of what is wanted: up to a place, what is wanted at that place to begin with. -/
def Rows (x : Nat → Arg) (k a : Int) (w : Int → Int) : Prop := ∀ j, 0 ≤ j → j ≤ k → w j = wk (insX x j) (if j = k then a else ah (insX x (j + 1)) (w (j + 1)))
end Go.Sy
namespace Go.Sy
def way (c : Lk) (i : Nat) : Wy := (c.ways[i]?).getD ⟨false, [], [], []⟩
def kAt (l : List Arg) : Int := clamp (-1) 9223372036854775807 (l.getD 18 default).n
def insK18 (l : List Arg) : List Arg := insX (argE Fs.F l).x (kAt l)
/-- What is wanted behind the instruction where the loop stands. -/
def wNow (l : List Arg) (t : Int) : Arg := ⟨if t = 0 then cl64 (l.getD 17 default).n else 63, fun j => if t = 0 then cl64 ((l.getD 17 default).s j) else 63⟩
def rNow (l : List Arg) (t : Int) : Arg := ⟨0, fun j => if j = kAt l then (wNow l t).n else cl64 ((l.getD 19 default).s j)⟩
def kNow (l : List Arg) : Arg := ⟨kAt l - 1, fun _ => kAt l - 1⟩
def endNow (l : List Arg) : List Arg := [⟨cl64 (l.getD 17 default).n, fun j => cl64 ((l.getD 17 default).s j)⟩, ⟨kAt l, fun j => clamp (-1) 9223372036854775807 ((l.getD 18 default).s j)⟩, ⟨cl64 (l.getD 19 default).n, fun j => cl64 ((l.getD 19 default).s j)⟩]
/-! live.Wanted -/
def D14 : List Df := (way k2014 0).ds
def t14 (l : List Arg) : Int := clamp 0 1 (num (Fs.F 27 (insK18 l)))
def a14 (l : List Arg) : Arg := ⟨cl64 (num (Fs.F 29 (insK18 l ++ [wNow l (t14 l)]))), fun j => cl64 ((((Fs.F 29 (insK18 l ++ [wNow l (t14 l)]))[0]?).getD default).s j)⟩
def b14 : List T := [.bin .lt (.lit (-1)) (.v 18 (-1) 9223372036854775807)]
theorem ok14 : k2014.ways.all (wyOk 20 D14 b14) = true := by kernel_rfl
theorem pick14 (l : List Arg) : pick Fs.F l 0 k2014.ways = pickA (b14.zip [ltb (-1) (kAt l)]) 0 k2014.ways := by
  rw [pick_alpha ok14]
  have : T.tr (extL (argE Fs.F l) D14) (.bin .lt (.lit (-1)) (.v 18 (-1) 9223372036854775807)) = ltb (-1) (kAt l) := by
    simp only [T.tr, T.den, O2.den, tb_ne]; rfl
  simp only [b14, List.map_cons, List.map_nil, this]
theorem ts14 (l : List Arg) : (way k2014 0).ts.map (T.me (wayE Fs.F l (way k2014 0))) = [a14 l, kNow l, rNow l (t14 l)] := by kernel_rfl
theorem te14 (l : List Arg) : (way k2014 1).ts.map (T.me (wayE Fs.F l (way k2014 1))) = endNow l := by kernel_rfl
theorem go14 (f : Nat) (l : List Arg) (h : ltb (-1) (kAt l) = true) : iter Fs.F k2014 (f + 1) l = iter Fs.F k2014 f (l.take 17 ++ [a14 l, kNow l, rNow l (t14 l)]) := by
  have hp : pick Fs.F l 0 k2014.ways = some (0, way k2014 0) := by rw [pick14, h]; kernel_rfl
  rw [iter_at hp, ts14]; rfl
theorem end14 (f : Nat) (l : List Arg) (h : ltb (-1) (kAt l) = false) : iter Fs.F k2014 (f + 1) l = some (⟨1, fun _ => 1⟩ :: endNow l) := by
  have hp : pick Fs.F l 0 k2014.ways = some (1, way k2014 1) := by rw [pick14, h]; kernel_rfl
  rw [iter_at hp, te14]; rfl
/-! a loop that makes a row -/
structure RowLoop (c : Lk) (e : Int) where
  t : List Arg → Int
  a : List Arg → Arg
  go : ∀ (f : Nat) (l : List Arg), ltb (-1) (kAt l) = true → iter Fs.F c (f + 1) l = iter Fs.F c f (l.take 17 ++ [a l, kNow l, rNow l (t l)])
  fin : ∀ (f : Nat) (l : List Arg), ltb (-1) (kAt l) = false → iter Fs.F c (f + 1) l = some (⟨e, fun _ => e⟩ :: endNow l)
  ht : ∀ l, t l = num (Fs.F 19 (insK18 l))
  ha : ∀ l, 0 ≤ (l.getD 17 default).n ∧ (l.getD 17 default).n ≤ 63 → (a l).n = ah (insK18 l) (wk (insK18 l) (l.getD 17 default).n)
theorem wNow_n {l : List Arg} {t : Int} (ht : t = num (Fs.F 19 (insK18 l))) (h : 0 ≤ (l.getD 17 default).n ∧ (l.getD 17 default).n ≤ 63) : (wNow l t).n = wk (insK18 l) (l.getD 17 default).n := by
  simp only [wNow, wk, ht, cl64_id h]
def row14 : RowLoop k2014 1 where
  t := t14
  a := a14
  go := go14
  fin := end14
  ht := fun l => by
    have hi := ins_ok (xs := insK18 l) (by rw [insK18, insX_len]; omega)
    unfold t14
    rw [hi.t]
    rcases hi.tb with h | h <;> rw [h] <;> rfl
  ha := fun l h => by
    have hi := ins_ok (xs := insK18 l) (by rw [insK18, insX_len]; omega)
    have ht : t14 l = num (Fs.F 19 (insK18 l)) := by
      unfold t14
      rw [hi.t]
      rcases hi.tb with h | h <;> rw [h] <;> rfl
    have hw := wNow_n ht h
    have hr : 0 ≤ (wNow l (t14 l)).n ∧ (wNow l (t14 l)).n ≤ 63 := by rw [hw]; exact wk_range h
    simp only [a14]
    rw [F29_at (l := insK18 l) (insX_len _ _) hr, hw, cl64_id (ah_range (l := insK18 l) (insX_len _ _) (wk_range h))]
theorem insX_eq {x y : Nat → Arg} (h : ∀ i, 1 ≤ i → i < 17 → x i = y i) (j : Int) : insX x j = insX y j := by
  simp only [insX, insT, selK, insnK, opK, List.cons_append, List.nil_append, List.map_cons, List.map_nil, T.me, T.row, T.den]
  rw [h 1 (by decide) (by decide), h 2 (by decide) (by decide), h 3 (by decide) (by decide), h 4 (by decide) (by decide), h 5 (by decide) (by decide), h 6 (by decide) (by decide), h 7 (by decide) (by decide), h 8 (by decide) (by decide),
    h 9 (by decide) (by decide), h 10 (by decide) (by decide), h 11 (by decide) (by decide), h 12 (by decide) (by decide), h 13 (by decide) (by decide), h 14 (by decide) (by decide), h 15 (by decide) (by decide), h 16 (by decide) (by decide)]
theorem getD_left {p q : List Arg} {i : Nat} (h : i < p.length) : (p ++ q).getD i default = p.getD i default := by
  rw [List.getD_eq_getElem?_getD, List.getElem?_append_left h, ← List.getD_eq_getElem?_getD]
theorem getD_right {p q : List Arg} {i : Nat} : (p ++ q).getD (p.length + i) default = q.getD i default := by
  rw [List.getD_eq_getElem?_getD, List.getElem?_append_right (by omega), ← List.getD_eq_getElem?_getD]
  congr 1; omega
theorem rows_of {c : Lk} {e : Int} (R : RowLoop c e) {P : List Arg} (hP : P.length = 17) : ∀ (k : Nat) (a b r : Arg), b.n = (k : Int) - 1 → (k : Int) ≤ 9223372036854775807 → 0 ≤ a.n ∧ a.n ≤ 63 → ∀ f, k < f →
    ∃ a' b' r', iter Fs.F c f (P ++ [a, b, r]) = some [⟨e, fun _ => e⟩, a', b', r'] ∧ (∀ j, (k : Int) - 1 < j → cl64 (r'.s j) = cl64 (r.s j)) ∧ Rows (argE Fs.F P).x ((k : Int) - 1) a.n fun j => cl64 (r'.s j) := by
  have g17 : ∀ a b r : Arg, (P ++ [a, b, r]).getD 17 default = a := fun a b r => by have := getD_right (p := P) (q := [a, b, r]) (i := 0); rw [hP] at this; exact this
  have g18 : ∀ a b r : Arg, (P ++ [a, b, r]).getD 18 default = b := fun a b r => by have := getD_right (p := P) (q := [a, b, r]) (i := 1); rw [hP] at this; exact this
  have g19 : ∀ a b r : Arg, (P ++ [a, b, r]).getD 19 default = r := fun a b r => by have := getD_right (p := P) (q := [a, b, r]) (i := 2); rw [hP] at this; exact this
  have gi : ∀ (a b r : Arg) (j : Int), insX (argE Fs.F (P ++ [a, b, r])).x j = insX (argE Fs.F P).x j := fun a b r j => insX_eq (fun i _ hi => getD_left (by omega)) j
  have gk : ∀ (k : Nat) (a b r : Arg), b.n = (k : Int) - 1 → (k : Int) ≤ 9223372036854775807 → kAt (P ++ [a, b, r]) = (k : Int) - 1 := fun k a b r hb hk => by
    rw [kAt, g18, hb]; exact clamp_id ⟨by omega, by omega⟩
  intro k
  induction k with
  | zero =>
    intro a b r hb _ ha f hf
    obtain ⟨f, rfl⟩ : ∃ g, f = g + 1 := ⟨f - 1, by omega⟩
    have hk := gk 0 a b r hb (by decide)
    rw [R.fin f _ (by rw [hk]; rfl)]
    refine ⟨_, _, _, rfl, fun j _ => ?_, fun j h1 h2 => by omega⟩
    simp only [g19, cl64_cl]
  | succ k ih =>
    intro a b r hb hkm ha f hf
    obtain ⟨f, rfl⟩ : ∃ g, f = g + 1 := ⟨f - 1, by omega⟩
    have hk := gk (k + 1) a b r hb hkm
    have hk' : kAt (P ++ [a, b, r]) = (k : Int) := by rw [hk]; omega
    have hins : insK18 (P ++ [a, b, r]) = insX (argE Fs.F P).x k := by rw [insK18, gi, hk']
    rw [R.go f _ (by rw [hk', ltb_t]; omega)]
    have htk : (P ++ [a, b, r]).take 17 = P := by rw [← hP, List.take_left']; rfl
    rw [htk]
    have h17 : 0 ≤ ((P ++ [a, b, r]).getD 17 default).n ∧ ((P ++ [a, b, r]).getD 17 default).n ≤ 63 := by rw [g17]; exact ha
    have hA := R.ha _ h17
    have hW := wNow_n (R.ht _) h17
    rw [g17, hins] at hA hW
    have hAr : 0 ≤ (R.a (P ++ [a, b, r])).n ∧ (R.a (P ++ [a, b, r])).n ≤ 63 := by rw [hA]; exact ah_range (insX_len _ _) (wk_range ha)
    obtain ⟨a', b', r', i1, i2, i3⟩ := ih (R.a (P ++ [a, b, r])) (kNow (P ++ [a, b, r])) (rNow (P ++ [a, b, r]) (R.t (P ++ [a, b, r]))) (by simp only [kNow, hk']) (by omega) hAr f (by omega)
    have hrow : ∀ j, (k : Int) - 1 < j → cl64 (r'.s j) = if j = k then wk (insX (argE Fs.F P).x k) a.n else cl64 (r.s j) := fun j hj => by
      rw [i2 j hj]
      simp only [rNow, hk', hW, g19]
      split
      · exact cl64_id (wk_range ha)
      · exact cl64_cl _
    refine ⟨a', b', r', i1, fun j hj => ?_, fun j h1 h2 => ?_⟩
    · rw [hrow j (by omega), if_neg (by omega)]
    · by_cases he : j = k
      · rw [if_pos (by omega)]
        have := hrow j (by omega)
        rw [if_pos he, ← he] at this
        exact this
      · rw [if_neg (by omega)]
        have := i3 j h1 (by omega)
        simp only at this ⊢
        rw [this]
        by_cases hj : j = (k : Int) - 1
        · rw [if_pos hj]
          have hk1 : j + 1 = k := by omega
          rw [hk1, hA]
          have := hrow k (by omega)
          rw [if_pos rfl] at this
          rw [this]
        · rw [if_neg hj]
end Go.Sy
namespace Go.Sy
theorem rows_eq {x : Nat → Arg} {K A : Int} {w v : Int → Int} (hw : Rows x K A w) (hv : Rows x K A v) : ∀ (d : Nat) (j : Int), 0 ≤ j → j = K - d → w j = v j := by
  intro d
  induction d with
  | zero =>
    intro j h0 hj
    rw [hw j h0 (by omega), hv j h0 (by omega), if_pos (by omega), if_pos (by omega)]
  | succ d ih =>
    intro j h0 hj
    rw [hw j h0 (by omega), hv j h0 (by omega), if_neg (by omega), if_neg (by omega), ih (j + 1) (by omega) (by omega)]
theorem rows_range {x : Nat → Arg} {K A : Int} {w : Int → Int} (hw : Rows x K A w) (hA : 0 ≤ A ∧ A ≤ 63) : ∀ (d : Nat) (j : Int), 0 ≤ j → j = K - d → 0 ≤ w j ∧ w j ≤ 63 := by
  intro d
  induction d with
  | zero =>
    intro j h0 hj
    rw [hw j h0 (by omega), if_pos (by omega)]
    exact wk_range hA
  | succ d ih =>
    intro j h0 hj
    rw [hw j h0 (by omega), if_neg (by omega)]
    exact wk_range (ah_range (insX_len _ _) (ih (j + 1) (by omega) (by omega)))
theorem rows_x {x y : Nat → Arg} {K A : Int} {w : Int → Int} (h : ∀ j, insX x j = insX y j) (hw : Rows x K A w) : Rows y K A w := by
  intro j h0 h1
  rw [← h j, ← h (j + 1)]
  exact hw j h0 h1
def parA (x : Nat → Arg) : List Arg := parI.map (T.me ⟨x, Fs.F⟩)
theorem parA_len (x : Nat → Arg) : (parA x).length = 17 := by kernel_rfl
theorem parA_cl (x : Nat → Arg) (rest : List Arg) : parA (argE Fs.F (parA x ++ rest)).x = parA x := by
  have h0 : ∀ n, clamp 0 9223372036854775807 (clamp 0 9223372036854775807 n) = clamp 0 9223372036854775807 n := fun n => clamp_mid (by decide)
  have h1 : ∀ n, clamp (kmin .i64) (kmax .i64) (clamp (kmin .i64) (kmax .i64) n) = clamp (kmin .i64) (kmax .i64) n := fun n => clamp_mid (by decide)
  have h2 : ∀ n, clamp (kmin .u32) (kmax .u32) (clamp (kmin .u32) (kmax .u32) n) = clamp (kmin .u32) (kmax .u32) n := fun n => clamp_mid (by decide)
  have h3 : ∀ n, clamp 0 1 (clamp 0 1 n) = clamp 0 1 n := fun n => clamp_mid (by decide)
  simp only [parA, parI, parK, insnK, opK, nL, List.cons_append, List.nil_append, List.map_cons, List.map_nil, T.me, T.row, T.den, argE, List.getD_cons_succ, List.getD_cons_zero, h0, h1, h2, h3]
def nOf (x : Nat → Arg) : Int := clamp 0 9223372036854775807 (x 0).n
theorem nOf_range (x : Nat → Arg) : 0 ≤ nOf x ∧ nOf x ≤ 9223372036854775807 := by unfold nOf clamp; split <;> (try split) <;> omega
theorem spec14 (l : List Arg) : Fs.F 2014 l = k2014.spec Fs.F l := okk2014 l
def aC (n : Int) : Arg := ⟨n, fun _ => n⟩
theorem F1014 (l : List Arg) : (((Fs.F 1014 l)[0]?).getD default).s = fun j => cl64 ((((Fs.F 2014 (parA (argE Fs.F l).x ++ [aC 63, aC (nOf (argE Fs.F l).x - 1), aC 0]))[3]?).getD default).s j) := by kernel_rfl
/-- What a row function tells. -/
def told (g : Nat) (l : List Arg) (j : Int) : Int := cl64 ((((Fs.F g l)[0]?).getD default).s j)
theorem rows_F {c : Lk} {e : Int} (R : RowLoop c e) (hsp : ∀ l, Fs.F c.id l = c.spec Fs.F l) (hmu : ∀ l, c.mu.den (argE Fs.F l) = kAt l + 1) {g : Nat}
    (hg : ∀ l, (((Fs.F g l)[0]?).getD default).s = fun j => cl64 ((((Fs.F c.id (parA (argE Fs.F l).x ++ [aC 63, aC (nOf (argE Fs.F l).x - 1), aC 0]))[3]?).getD default).s j)) (x : Nat → Arg) :
    Rows x (nOf x - 1) 63 (told g (parA x)) := by
  have hcl : parA (argE Fs.F (parA x)).x = parA x := by have := parA_cl x []; rw [List.append_nil] at this; exact this
  have hn : nOf (argE Fs.F (parA x)).x = nOf x := clamp_mid (by decide)
  have hN := nOf_range x
  obtain ⟨a', b', r', h1, _, h3⟩ := rows_of R (parA_len x) (nOf x).toNat (aC 63) (aC (nOf x - 1)) (aC 0) (by show nOf x - 1 = _; omega) (by omega) ⟨by decide, by decide⟩ ((nOf x).toNat + 1) (by omega)
  have hk : kAt (parA x ++ [aC 63, aC (nOf x - 1), aC 0]) = nOf x - 1 := by
    have : (parA x ++ [aC 63, aC (nOf x - 1), aC 0]).getD 18 default = aC (nOf x - 1) := by have := getD_right (p := parA x) (q := [aC 63, aC (nOf x - 1), aC 0]) (i := 1); rw [parA_len] at this; exact this
    rw [kAt, this]
    exact clamp_id ⟨by show -1 ≤ nOf x - 1; omega, by show nOf x - 1 ≤ _; omega⟩
  have hs : Fs.F c.id (parA x ++ [aC 63, aC (nOf x - 1), aC 0]) = [⟨e, fun _ => e⟩, a', b', r'] := by
    rw [hsp, Lk.spec, hmu, hk, show nOf x - 1 + 1 = nOf x by omega, h1]; rfl
  have e : told g (parA x) = fun j => cl64 (r'.s j) := by
    funext j
    unfold told
    rw [hg, hcl, hn, hs]
    exact cl64_cl _
  rw [e]
  rw [show ((nOf x).toNat : Int) - 1 = nOf x - 1 by omega] at h3
  have hi : ∀ j, insX (argE Fs.F (parA x)).x j = insX x j := fun j => by have := insX_cl x [] j; rw [List.append_nil] at this; exact this
  exact rows_x hi h3
theorem rows14 (x : Nat → Arg) : Rows x (nOf x - 1) 63 (told 1014 (parA x)) := rows_F row14 spec14 (fun l => by kernel_rfl) F1014 x
/-! loops that count -/
theorem count_of {c : Lk} {e : Int} {Q : List Arg} (hQ : Q.length = c.n0) {n : Int}
    (hgo : ∀ i : Arg, 0 ≤ i.n → i.n < n → ∃ (j : Nat) (w : Wy) (b : Arg), pick Fs.F (Q ++ [i]) 0 c.ways = some (j, w) ∧ w.go = true ∧ w.ts.map (T.me (wayE Fs.F (Q ++ [i]) w)) = [b] ∧ b.n = i.n + 1)
    (hend : ∀ i : Arg, i.n = n → ∃ (j : Nat) (w : Wy), pick Fs.F (Q ++ [i]) 0 c.ways = some (j, w) ∧ (j : Int) = e ∧ w.go = false ∧ w.ts = []) :
    ∀ (k : Nat) (i : Arg), 0 ≤ i.n → i.n = n - k → ∀ f, k < f → iter Fs.F c f (Q ++ [i]) = some [⟨e, fun _ => e⟩] := by
  intro k
  induction k with
  | zero =>
    intro i _ hi f hf
    obtain ⟨f, rfl⟩ : ∃ g, f = g + 1 := ⟨f - 1, by omega⟩
    obtain ⟨j, w, h1, h2, h3, h4⟩ := hend i (by omega)
    rw [iter_at h1, h3, h4, h2]; rfl
  | succ k ih =>
    intro i h0 hi f hf
    obtain ⟨f, rfl⟩ : ∃ g, f = g + 1 := ⟨f - 1, by omega⟩
    obtain ⟨j, w, b, h1, h2, h3, h4⟩ := hgo i h0 (by omega)
    rw [iter_at h1, h2, h3, cond_true]
    have : (Q ++ [i]).take c.n0 = Q := by rw [← hQ, List.take_left']; rfl
    rw [this]
    exact ih b (by omega) (by omega) f (by omega)
theorem F1018 (l : List Arg) : num (Fs.F 1018 l) = if O2.den .or (tb (ltb (cl64 (l.getD 17 default).n) 0)) (tb (leb (nOf (argE Fs.F l).x) (cl64 (l.getD 17 default).n))) = 0 then told 1014 (parA (argE Fs.F l).x) (cl64 (l.getD 17 default).n) else 63 := by kernel_rfl
theorem behind_in {x : Nat → Arg} {a : Arg} (h0 : 0 ≤ a.n) (h1 : a.n < nOf x) : num (Fs.F 1018 (parA x ++ [a])) = told 1014 (parA x) a.n := by
  have hN := nOf_range x
  have hg : (parA x ++ [a]).getD 17 default = a := by have := getD_right (p := parA x) (q := [a]) (i := 0); rw [parA_len] at this; exact this
  have hc : cl64 a.n = a.n := clamp_id ⟨by show (-9223372036854775808 : Int) ≤ _; omega, by show _ ≤ (9223372036854775807 : Int); omega⟩
  have hn : nOf (argE Fs.F (parA x ++ [a])).x = nOf x := clamp_mid (by decide)
  rw [F1018, hg, hc, hn, parA_cl]
  have e1 : ltb a.n 0 = false := by rw [ltb_f]; exact h0
  have e2 : leb (nOf x) a.n = false := by rw [leb_f]; exact h1
  rw [e1, e2]; rfl
theorem behind_out {x : Nat → Arg} {a : Arg} (h : cl64 a.n < 0 ∨ nOf x ≤ cl64 a.n) : num (Fs.F 1018 (parA x ++ [a])) = 63 := by
  have hg : (parA x ++ [a]).getD 17 default = a := by have := getD_right (p := parA x) (q := [a]) (i := 0); rw [parA_len] at this; exact this
  have hn : nOf (argE Fs.F (parA x ++ [a])).x = nOf x := clamp_mid (by decide)
  rw [F1018, hg, hn]
  rcases h with h | h
  · have e1 : ltb (cl64 a.n) 0 = true := by rw [ltb_t]; exact h
    rw [e1]
    cases leb (nOf x) (cl64 a.n) <;> rfl
  · have e1 : leb (nOf x) (cl64 a.n) = true := by rw [leb_t]; exact h
    rw [e1]
    cases ltb (cl64 a.n) 0 <;> rfl
end Go.Sy
