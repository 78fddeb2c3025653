/- Functions, each told by its own run; and what follows from what they tell. -/
import Derived.KernelRfl
import Derived.Test.YtddfbikeaipepaaCardsRow
namespace Go.Sy
/-! how functions look at an instruction -/
def cl64 (n : Int) : Int := clamp (kmin .i64) (kmax .i64) n
def opc (n : Int) : Int := clamp (-1) 54 (cl64 n)
def is3 (n : Int) : Bool := cl64 n == 3
def is2 (n : Int) : Bool := cl64 n == 2
def low31 (n : Int) : Int := O2.den (.band .u32) (clamp 0 4294967295 n) 31
/-- Letters below m are looked at in these ways alone; the others are the same. -/
structure Eo (m : Nat) (E E' : Env) : Prop where
  F : E.F = E'.F
  x : ∀ i, m ≤ i → E.x i = E'.x i
  o0 : opc (E.x 0).n = opc (E'.x 0).n
  o2 : is3 (E.x 2).n = is3 (E'.x 2).n
  o8 : is3 (E.x 8).n = is3 (E'.x 8).n
  p8 : is2 (E.x 8).n = is2 (E'.x 8).n
  o10 : (low31 (E.x 10).n == 0) = (low31 (E'.x 10).n == 0)
  p10 : (low31 (E.x 10).n == 1) = (low31 (E'.x 10).n == 1)
def seen (o : O2) (a b : T) : Bool := match o, a, b with
  | .eq, .v 0 lo hi, .lit n => lo == kmin .i64 && hi == kmax .i64 && leb 0 n && leb n 53
  | .lt, .v 0 lo hi, .lit n => lo == kmin .i64 && hi == kmax .i64 && leb 0 n && leb n 54
  | .lt, .lit n, .v 0 lo hi => lo == kmin .i64 && hi == kmax .i64 && leb (-1) n && leb n 53
  | .eq, .v 2 lo hi, .lit n => lo == kmin .i64 && hi == kmax .i64 && n == 3
  | .eq, .v 8 lo hi, .lit n => lo == kmin .i64 && hi == kmax .i64 && (n == 3 || n == 2)
  | .eq, .bin (.band .u32) (.v 10 lo hi) (.lit k), .lit n => lo == 0 && hi == 4294967295 && k == 31 && (n == 0 || n == 1)
  | _, _, _ => false
def T.obs (m : Nat) : T → Bool
  | .lit _ => true
  | .v i _ _ => Nat.ble m i
  | .un _ a => a.obs m
  | .bin o a b => (a.obs m && b.obs m) || seen o a b
  | .ite c a b => c.obs m && a.obs m && b.obs m
  | .sel s i => s.obs m && i.obs m
  | .upd s i x => s.obs m && i.obs m && x.obs m
  | .sh s o => s.obs m && o.obs m
  | .blit d o n s => d.obs m && o.obs m && n.obs m && s.obs m
  | .eqr n a b => n.obs m && a.obs m && b.obs m
theorem opc_eq {a b n : Int} (h : opc a = opc b) (h1 : 0 ≤ n) (h2 : n ≤ 53) : (cl64 a == n) = (cl64 b == n) := by
  unfold opc clamp at h
  rw [Bool.eq_iff_iff, beq_iff_eq, beq_iff_eq]
  split at h <;> split at h <;> (try split at h) <;> (try split at h) <;> omega
theorem opc_lt {a b n : Int} (h : opc a = opc b) (h1 : 0 ≤ n) (h2 : n ≤ 54) : ltb (cl64 a) n = ltb (cl64 b) n := by
  unfold opc clamp at h
  rw [Bool.eq_iff_iff, ltb_t, ltb_t]
  split at h <;> split at h <;> (try split at h) <;> (try split at h) <;> omega
theorem opc_gt {a b n : Int} (h : opc a = opc b) (h1 : -1 ≤ n) (h2 : n ≤ 53) : ltb n (cl64 a) = ltb n (cl64 b) := by
  unfold opc clamp at h
  rw [Bool.eq_iff_iff, ltb_t, ltb_t]
  split at h <;> split at h <;> (try split at h) <;> (try split at h) <;> omega
theorem seen_ok {m : Nat} {E E' : Env} (h : Eo m E E') {o : O2} {a b : T} (hs : seen o a b = true) : o.den (a.den E) (b.den E) = o.den (a.den E') (b.den E') := by
  unfold seen at hs
  split at hs
  · simp only [Bool.and_eq_true, beq_iff_eq, leb_t] at hs
    obtain ⟨⟨⟨rfl, rfl⟩, h1⟩, h2⟩ := hs
    exact congrArg tb (opc_eq h.o0 h1 h2)
  · simp only [Bool.and_eq_true, beq_iff_eq, leb_t] at hs
    obtain ⟨⟨⟨rfl, rfl⟩, h1⟩, h2⟩ := hs
    exact congrArg tb (opc_lt h.o0 h1 h2)
  · simp only [Bool.and_eq_true, beq_iff_eq, leb_t] at hs
    obtain ⟨⟨⟨rfl, rfl⟩, h1⟩, h2⟩ := hs
    exact congrArg tb (opc_gt h.o0 h1 h2)
  · simp only [Bool.and_eq_true, beq_iff_eq] at hs
    obtain ⟨⟨rfl, rfl⟩, rfl⟩ := hs
    exact congrArg tb h.o2
  · simp only [Bool.and_eq_true, Bool.or_eq_true, beq_iff_eq] at hs
    obtain ⟨⟨rfl, rfl⟩, rfl | rfl⟩ := hs
    · exact congrArg tb h.o8
    · exact congrArg tb h.p8
  · simp only [Bool.and_eq_true, Bool.or_eq_true, beq_iff_eq] at hs
    obtain ⟨⟨⟨rfl, rfl⟩, rfl⟩, rfl | rfl⟩ := hs
    · exact congrArg tb h.o10
    · exact congrArg tb h.p10
  · cases hs
theorem T.obs_ok {m : Nat} {E E' : Env} (h : Eo m E E') {t : T} (ht : t.obs m = true) : t.den E = t.den E' ∧ t.row E = t.row E' := by
  induction t with
  | lit n => exact ⟨rfl, rfl⟩
  | v i lo hi =>
    simp only [T.obs, Nat.ble_eq] at ht
    exact ⟨by simp only [T.den, h.x i ht], by funext j; simp only [T.row, h.x i ht]⟩
  | un o a ih => simp only [T.obs] at ht; cases o <;> exact ⟨by simp only [T.den, (ih ht).1], by funext j; simp only [T.row, (ih ht).1, (ih ht).2]⟩
  | bin o a b iha ihb =>
    simp only [T.obs, Bool.or_eq_true, Bool.and_eq_true] at ht
    have key : o.den (a.den E) (b.den E) = o.den (a.den E') (b.den E') := by
      rcases ht with ⟨h1, h2⟩ | h1
      · rw [(iha h1).1, (ihb h2).1]
      · exact seen_ok h h1
    exact ⟨key, by funext j; exact key⟩
  | ite c a b ihc iha ihb =>
    simp only [T.obs, Bool.and_eq_true] at ht
    exact ⟨by simp only [T.den, (ihc ht.1.1).1, (iha ht.1.2).1, (ihb ht.2).1], by funext j; simp only [T.row, (ihc ht.1.1).1, (iha ht.1.2).2, (ihb ht.2).2]⟩
  | sel s i ihs ihi => simp only [T.obs, Bool.and_eq_true] at ht; exact ⟨by simp only [T.den, (ihs ht.1).2, (ihi ht.2).1], by funext j; simp only [T.row, (ihs ht.1).2, (ihi ht.2).1]⟩
  | upd s i x ihs ihi ihx => simp only [T.obs, Bool.and_eq_true] at ht; exact ⟨rfl, by funext j; simp only [T.row, (ihs ht.1.1).2, (ihi ht.1.2).1, (ihx ht.2).1]⟩
  | sh s o ihs iho => simp only [T.obs, Bool.and_eq_true] at ht; exact ⟨rfl, by funext j; simp only [T.row, (ihs ht.1).2, (iho ht.2).1]⟩
  | blit d o n s ihd iho ihn ihs => simp only [T.obs, Bool.and_eq_true] at ht; exact ⟨rfl, by funext j; simp only [T.row, (ihd ht.1.1.1).2, (iho ht.1.1.2).1, (ihn ht.1.2).1, (ihs ht.2).2]⟩
  | eqr n a b ihn iha ihb => simp only [T.obs, Bool.and_eq_true] at ht; exact ⟨by simp only [T.den, (ihn ht.1.1).1, (iha ht.1.2).2, (ihb ht.2).2], by funext j; simp only [T.row, (ihn ht.1.1).1, (iha ht.1.2).2, (ihb ht.2).2]⟩
/-- The functions, and how many of their letters are an instruction's. -/
def nice : List (Nat × Nat) := [(75, 0), (32, 0), (27, 16), (19, 16), (72, 1), (31, 1), (44, 16), (30, 16), (16, 16), (48, 16), (50, 1), (34, 1), (20, 16), (33, 16), (17, 16)]
def niceOf (g : Nat) : Option Nat := (nice.find? fun p => Nat.beq p.1 g).map (·.2)
/-- A letter handed on at its own place, or what is the same. -/
def argOk (m mg i : Nat) (t : T) : Bool := t.obs m || (Nat.blt i mg && match t with
  | .v j lo hi => Nat.beq i j && (bif Nat.beq i 10 then lo == 0 && hi == 4294967295 else (lo == kmin .i64 && hi == kmax .i64) || !(Nat.beq i 0 || Nat.beq i 2 || Nat.beq i 8))
  | _ => false)
def argsOk (m mg : Nat) : Nat → List T → Bool
  | _, [] => true
  | i, t :: r => argOk m mg i t && argsOk m mg (i + 1) r
def dOk (m : Nat) : Df → Bool
  | .one i t => Nat.ble m i && t.obs m
  | .call i g args _ => Nat.ble m i && match niceOf g with
    | some mg => argsOk m mg 0 args
    | none => false
/-- What is seen of a letter. -/
def sees (i : Nat) (a b : Int) : Prop := (i = 0 → opc a = opc b) ∧ (i = 2 → is3 a = is3 b) ∧ (i = 8 → is3 a = is3 b ∧ is2 a = is2 b) ∧ (i = 10 → (low31 a == 0) = (low31 b == 0) ∧ (low31 a == 1) = (low31 b == 1))
theorem sees_refl (i : Nat) (a : Int) : sees i a a := ⟨fun _ => rfl, fun _ => rfl, fun _ => ⟨rfl, rfl⟩, fun _ => ⟨rfl, rfl⟩⟩
theorem eo_of {m : Nat} {E E' : Env} (hF : E.F = E'.F) (hx : ∀ i, E.x i = E'.x i ∨ (i < m ∧ sees i (E.x i).n (E'.x i).n)) : Eo m E E' := by
  have hs : ∀ i, sees i (E.x i).n (E'.x i).n := fun i => by
    rcases hx i with h | h
    · rw [h]; exact sees_refl _ _
    · exact h.2
  exact ⟨hF, fun i hi => (hx i).elim id fun h => absurd h.1 (by omega), (hs 0).1 rfl, (hs 2).2.1 rfl, ((hs 8).2.2.1 rfl).1, ((hs 8).2.2.1 rfl).2, ((hs 10).2.2.2 rfl).1, ((hs 10).2.2.2 rfl).2⟩
theorem Eo.sees {m : Nat} {E E' : Env} (h : Eo m E E') (i : Nat) : sees i (E.x i).n (E'.x i).n :=
  ⟨fun e => by subst e; exact h.o0, fun e => by subst e; exact h.o2, fun e => by subst e; exact ⟨h.o8, h.p8⟩, fun e => by subst e; exact ⟨h.o10, h.p10⟩⟩
theorem Eo.of_x {m : Nat} {E E' : Env} (h : Eo m E E') (i : Nat) : E.x i = E'.x i ∨ (i < m ∧ Go.Sy.sees i (E.x i).n (E'.x i).n) := by
  by_cases hi : i < m
  · exact .inr ⟨hi, h.sees i⟩
  · exact .inl (h.x i (by omega))
theorem clamp_mid {lo hi n : Int} (h : lo ≤ hi) : clamp lo hi (clamp lo hi n) = clamp lo hi n := by
  unfold clamp; split <;> split <;> (try split) <;> omega
theorem cl64_cl (n : Int) : cl64 (cl64 n) = cl64 n := clamp_mid (by decide)
theorem low31_cl (n : Int) : low31 (clamp 0 4294967295 n) = low31 n := by unfold low31; rw [clamp_mid (by decide)]
theorem T.obs_me {m : Nat} {E E' : Env} (h : Eo m E E') {t : T} (ht : t.obs m = true) : t.me E = t.me E' := by
  obtain ⟨h1, h2⟩ := T.obs_ok h ht
  unfold T.me; rw [h1, h2]
theorem arg_sees {m mg i : Nat} {E E' : Env} (h : Eo m E E') {t : T} (ht : argOk m mg i t = true) : t.me E = t.me E' ∨ (i < mg ∧ Go.Sy.sees i (t.me E).n (t.me E').n) := by
  simp only [argOk, Bool.or_eq_true, Bool.and_eq_true, Nat.blt_eq] at ht
  rcases ht with ht | ⟨h1, h2⟩
  · exact .inl (T.obs_me h ht)
  refine .inr ⟨h1, ?_⟩
  split at h2
  · rename_i j lo hi
    simp only [Bool.and_eq_true] at h2
    obtain ⟨h2, h3⟩ := h2
    have h2 := Nat.eq_of_beq_eq_true h2
    subst h2
    have hs := h.sees i
    have key : ∀ (lo hi : Int), (i = 10 → lo = 0 ∧ hi = 4294967295) → (i = 0 ∨ i = 2 ∨ i = 8 → lo = kmin .i64 ∧ hi = kmax .i64) → Go.Sy.sees i (clamp lo hi (E.x i).n) (clamp lo hi (E'.x i).n) := by
      intro lo hi g1 g2
      refine ⟨fun e => ?_, fun e => ?_, fun e => ?_, fun e => ?_⟩
      · obtain ⟨rfl, rfl⟩ := g2 (.inl e)
        have := hs.1 e
        unfold opc at this ⊢
        rw [← cl64_cl (E.x i).n, ← cl64_cl (E'.x i).n] at this; exact this
      · obtain ⟨rfl, rfl⟩ := g2 (.inr (.inl e))
        have := hs.2.1 e
        unfold is3 at this ⊢
        rw [← cl64_cl (E.x i).n, ← cl64_cl (E'.x i).n] at this; exact this
      · obtain ⟨rfl, rfl⟩ := g2 (.inr (.inr e))
        have := hs.2.2.1 e
        unfold is3 is2 at this ⊢
        rw [← cl64_cl (E.x i).n, ← cl64_cl (E'.x i).n] at this; exact this
      · obtain ⟨rfl, rfl⟩ := g1 e
        rw [low31_cl, low31_cl]
        exact hs.2.2.2 e
    refine key lo hi (fun e => ?_) fun e => ?_
    · subst e
      simp only [Nat.beq_refl, cond_true, Bool.and_eq_true, beq_iff_eq] at h3
      exact h3
    · have hn : Nat.beq i 10 = false := by rcases e with rfl | rfl | rfl <;> rfl
      have hq : (Nat.beq i 0 || Nat.beq i 2 || Nat.beq i 8) = true := by rcases e with rfl | rfl | rfl <;> rfl
      simp only [hn, hq, cond_false, Bool.not_true, Bool.or_false, Bool.and_eq_true, beq_iff_eq] at h3
      exact h3
  · cases h2
theorem argsOk_get {m mg : Nat} : ∀ {l : List T} {i : Nat}, argsOk m mg i l = true → ∀ (j : Nat) (t : T), l[j]? = some t → argOk m mg (i + j) t = true := by
  intro l
  induction l with
  | nil => intro i _ j t h; simp at h
  | cons x r ih =>
    intro i h j t hj
    simp only [argsOk, Bool.and_eq_true] at h
    cases j with
    | zero => simp at hj; subst hj; exact h.1
    | succ j =>
      have := ih h.2 j t (by simpa using hj)
      rw [show i + (j + 1) = i + 1 + j by omega]; exact this
theorem args_eo {m mg : Nat} {E E' : Env} (h : Eo m E E') {F : Nat → List Arg → List Arg} {l : List T} (hl : argsOk m mg 0 l = true) : Eo mg (argE F (l.map (T.me E))) (argE F (l.map (T.me E'))) := by
  refine eo_of rfl fun i => ?_
  simp only [argE, List.getD_eq_getElem?_getD, List.getElem?_map]
  cases hi : l[i]? with
  | none => exact .inl rfl
  | some t =>
    have := argsOk_get hl i t hi
    rw [Nat.zero_add] at this
    exact arg_sees h this
/-- Does a function of a table look so alone? -/
def Te.nice : Te → Bool
  | .card c => match niceOf c.g with
    | none => true
    | some m => c.ds.all (dOk m) && c.ls.all (·.obs m)
  | .loop c => (niceOf c.id).isNone
def allNice (F : Nat → List Arg → List Arg) : Prop := ∀ g m, niceOf g = some m → ∀ xs ys : List Arg, Eo m (argE F xs) (argE F ys) → F g xs = F g ys
theorem ext_eo {m : Nat} {E E' : Env} (hF : allNice E.F) (h : Eo m E E') {d : Df} (hd : dOk m d = true) : Eo m (d.ext E) (d.ext E') := by
  have set : ∀ (i cnt : Nat) (f g : Nat → Arg), (∀ k, f k = g k) → Eo m (setX E i cnt f) (setX E' i cnt g) := fun i cnt f g hfg => by
    refine eo_of h.F fun j => ?_
    simp only [setX]
    split
    · exact .inl (hfg _)
    · exact h.of_x j
  cases d with
  | one i t =>
    simp only [dOk, Bool.and_eq_true] at hd
    exact set i 1 _ _ fun _ => T.obs_me h hd.2
  | call i g args cnt =>
    simp only [dOk, Bool.and_eq_true] at hd
    obtain ⟨_, hd⟩ := hd
    split at hd
    · rename_i mg hm
      simp only [Df.ext]
      refine set i cnt _ _ fun k => ?_
      have := hF g mg hm _ _ (args_eo (F := E.F) h hd)
      rw [this, h.F]
    · cases hd
theorem extL_eo {m : Nat} {E E' : Env} (hF : allNice E.F) (h : Eo m E E') : ∀ {ds : List Df}, ds.all (dOk m) = true → Eo m (extL E ds) (extL E' ds) := by
  intro ds
  induction ds with
  | nil => intro _; exact h
  | cons d r ih =>
    intro hd
    simp only [List.all_cons, Bool.and_eq_true] at hd
    have e : (extL E r).F = E.F := (extL_noF (x := E.x) (F := E.F) (F' := E.F) (ds := r) fun _ _ _ _ => rfl).2
    exact ext_eo (by rw [e]; exact hF) (ih hd.2) hd.1
theorem allNice_mk : ∀ {l : List Te}, l.all Te.nice = true → allNice (mkG l) := by
  intro l
  induction l with
  | nil => intro _ g m _ xs ys _; rfl
  | cons c r ih =>
    intro h
    simp only [List.all_cons, Bool.and_eq_true] at h
    have ih := ih h.2
    intro g m hg xs ys he
    simp only [mkG]
    cases hb : Nat.beq g c.id <;> simp only [cond_true, cond_false]
    · exact ih g m hg xs ys ⟨rfl, he.x, he.o0, he.o2, he.o8, he.p8, he.o10, he.p10⟩
    · have hb := Nat.eq_of_beq_eq_true hb
      have hc := h.1
      cases c with
      | loop c =>
        simp only [Te.nice, Te.id] at hc hb
        rw [← hb, hg] at hc; cases hc
      | card c =>
        simp only [Te.nice, Te.id] at hc hb
        rw [← hb, hg] at hc
        simp only [Bool.and_eq_true, List.all_eq_true] at hc
        simp only [Te.spec, Fk.spec]
        refine List.map_congr_left fun t ht => ?_
        refine T.obs_me (extL_eo (E := argE (mkG r) xs) (E' := argE (mkG r) ys) ih ⟨rfl, he.x, he.o0, he.o2, he.o8, he.p8, he.o10, he.p10⟩ ?_) (hc.2 t ht)
        rw [List.all_eq_true]; exact hc.1
theorem niceT : allNice Fs.F := allNice_mk (l := table) (by kernel_rfl)
end Go.Sy
