/- Part 25 of a checked reader of Go texts in their model form: it runs a function at terms in the place of numbers, and each part proves that its answers hold of the model. -/
import Derived.Test.YtddfbikeaipepaaHy24
namespace Go.Sy
/-! what a loop tells -/
/-- A way through a loop's body: does it go round, what holds on it, what its letters stand for, the values that it leaves. -/
structure Wy where
  go : Bool
  pc : Pc
  ds : List Df
  ts : List T
/-- A loop: its name, how many letters stand fast, how many turn, a measure, the ways. -/
structure Lk where
  id : Nat
  n0 : Nat
  s : Nat
  mu : T
  ways : List Wy
def argE (F : Nat → List Arg → List Arg) (args : List Arg) : Env := ⟨fun i => args.getD i default, F⟩
def wayE (F : Nat → List Arg → List Arg) (args : List Arg) (w : Wy) : Env := extL (argE F args) w.ds
def pcB (E : Env) (pc : Pc) : Bool := pc.all fun p => p.1.tr E == p.2
def pick (F : Nat → List Arg → List Arg) (args : List Arg) : Nat → List Wy → Option (Nat × Wy)
  | _, [] => none
  | i, w :: r => bif pcB (wayE F args w) w.pc then some (i, w) else pick F args (i + 1) r
def iter (F : Nat → List Arg → List Arg) (c : Lk) : Nat → List Arg → Option (List Arg)
  | 0, _ => none
  | k + 1, args => match pick F args 0 c.ways with
    | some (i, w) => bif w.go then iter F c k (args.take c.n0 ++ w.ts.map (T.me (wayE F args w))) else some (⟨i, fun _ => i⟩ :: w.ts.map (T.me (wayE F args w)))
    | none => none
def Lk.spec (c : Lk) (F : Nat → List Arg → List Arg) (args : List Arg) : List Arg := (iter F c ((c.mu.den (argE F args)).toNat + 1) args).getD []
theorem iter_mono [Fs] {F : Nat → List Arg → List Arg} {c : Lk} : ∀ {k : Nat} {args r : List Arg}, iter F c k args = some r → iter F c (k + 1) args = some r := by
  intro k
  induction k with
  | zero => intro args r h; cases h
  | succ k ih =>
    intro args r h
    rw [iter] at h ⊢
    cases hp : pick F args 0 c.ways with
    | none => rw [hp] at h; cases h
    | some q =>
      obtain ⟨i, w⟩ := q
      rw [hp] at h
      simp only at h ⊢
      cases hg : w.go <;> simp only [hg, cond_true, cond_false] at h ⊢
      · exact h
      · exact ih h
theorem iter_le [Fs] {F : Nat → List Arg → List Arg} {c : Lk} {k j : Nat} {args r : List Arg} (h : iter F c k args = some r) (hj : k ≤ j) : iter F c j args = some r := by
  obtain ⟨d, rfl⟩ := Nat.exists_eq_add_of_le hj
  clear hj
  induction d with
  | zero => exact h
  | succ d ih => exact iter_mono ih
theorem pick_at [Fs] {F : Nat → List Arg → List Arg} {args : List Arg} : ∀ {l : List Wy} {b k : Nat} {w : Wy}, l[k]? = some w → pcB (wayE F args w) w.pc = true → (∀ (j : Nat) (v : Wy), j < k → l[j]? = some v → pcB (wayE F args v) v.pc = false) → pick F args b l = some (b + k, w) := by
  intro l
  induction l with
  | nil => intro b k w h; simp at h
  | cons x r ih =>
    intro b k w h hp hn
    cases k with
    | zero => simp at h; subst h; simp only [pick, hp, cond_true]; rfl
    | succ k =>
      simp at h
      have h0 := hn 0 x (Nat.succ_pos k) rfl
      simp only [pick, h0, cond_false]
      rw [ih h hp fun j v hj hv => hn (j + 1) v (by omega) (by simpa using hv)]
      congr 2; omega

/-! letters that stand fast, held within their ranges -/
def T.rok (par : List T) (n0 : Nat) : T → Bool
  | .lit _ => true
  | .v i lo hi => bif Nat.blt i n0 then (par.getD i (.lit 0)).beq (.v i lo hi) && leb lo hi else true
  | .un _ a => a.rok par n0
  | .bin _ a b => a.rok par n0 && b.rok par n0
  | .ite c a b => c.rok par n0 && a.rok par n0 && b.rok par n0
  | .sel s i => s.rok par n0 && i.rok par n0
  | .upd s i x => s.rok par n0 && i.rok par n0 && x.rok par n0
  | .sh s o => s.rok par n0 && o.rok par n0
  | .blit d o n s => d.rok par n0 && o.rok par n0 && n.rok par n0 && s.rok par n0
  | .eqr n a b => n.rok par n0 && a.rok par n0 && b.rok par n0
def clE (par : List T) (n0 : Nat) (E : Env) : Env := ⟨fun i => if i < n0 then (par.getD i (.lit 0)).me E else E.x i, E.F⟩
theorem clamp_clamp [Fs] {lo hi n : Int} (h : lo ≤ hi) : clamp lo hi (clamp lo hi n) = clamp lo hi n := by
  refine clamp_id ?_
  unfold clamp; split; omega; split <;> omega
theorem T.rok_me [Fs] {par : List T} {n0 : Nat} {E : Env} {t : T} (h : t.rok par n0 = true) : t.den (clE par n0 E) = t.den E ∧ t.row (clE par n0 E) = t.row E := by
  induction t with
  | lit n => exact ⟨rfl, rfl⟩
  | v i lo hi =>
    simp only [T.rok] at h
    cases hi' : Nat.blt i n0 <;> simp only [hi', cond_true, cond_false] at h
    · have : ¬ i < n0 := by rw [← Nat.blt_eq, hi']; exact Bool.false_ne_true
      exact ⟨by simp only [T.den, clE, if_neg this], by funext j; simp only [T.row, clE, if_neg this]⟩
    · rw [Nat.blt_eq] at hi'
      rw [Bool.and_eq_true, leb_t] at h
      have e := T.beq_eq h.1
      have hx : (clE par n0 E).x i = T.me E (.v i lo hi) := by simp only [clE, if_pos hi', e]
      exact ⟨by simp only [T.den, hx, T.me, clamp_clamp h.2], by funext j; simp only [T.row, hx, T.me, clamp_clamp h.2]⟩
  | un o a ih => simp only [T.rok] at h; cases o <;> exact ⟨by simp only [T.den, (ih h).1], by funext j; simp only [T.row, (ih h).1, (ih h).2]⟩
  | bin o a b iha ihb => simp only [T.rok, Bool.and_eq_true] at h; exact ⟨by simp only [T.den, (iha h.1).1, (ihb h.2).1], by funext j; simp only [T.row, (iha h.1).1, (ihb h.2).1]⟩
  | ite c a b ihc iha ihb =>
    simp only [T.rok, Bool.and_eq_true] at h
    exact ⟨by simp only [T.den, (ihc h.1.1).1, (iha h.1.2).1, (ihb h.2).1], by funext j; simp only [T.row, (ihc h.1.1).1, (iha h.1.2).2, (ihb h.2).2]⟩
  | sel s i ihs ihi => simp only [T.rok, Bool.and_eq_true] at h; exact ⟨by simp only [T.den, (ihs h.1).2, (ihi h.2).1], by funext j; simp only [T.row, (ihs h.1).2, (ihi h.2).1]⟩
  | upd s i x ihs ihi ihx => simp only [T.rok, Bool.and_eq_true] at h; exact ⟨rfl, by funext j; simp only [T.row, (ihs h.1.1).2, (ihi h.1.2).1, (ihx h.2).1]⟩
  | sh s o ihs iho => simp only [T.rok, Bool.and_eq_true] at h; exact ⟨rfl, by funext j; simp only [T.row, (ihs h.1).2, (iho h.2).1]⟩
  | blit d o n s ihd iho ihn ihs => simp only [T.rok, Bool.and_eq_true] at h; exact ⟨rfl, by funext j; simp only [T.row, (ihd h.1.1.1).2, (iho h.1.1.2).1, (ihn h.1.2).1, (ihs h.2).2]⟩
  | eqr n a b ihn iha ihb => simp only [T.rok, Bool.and_eq_true] at h; exact ⟨by simp only [T.den, (ihn h.1.1).1, (iha h.1.2).2, (ihb h.2).2], by funext j; simp only [T.row, (ihn h.1.1).1, (iha h.1.2).2, (ihb h.2).2]⟩
theorem T.rok_eq [Fs] {par : List T} {n0 : Nat} {E : Env} {t : T} (h : t.rok par n0 = true) : T.me (clE par n0 E) t = T.me E t := by
  unfold T.me; rw [(T.rok_me h).1, (T.rok_me h).2]
/-- Letters' meanings hold as well where those that stand fast are held within their ranges. -/
theorem Df.ok_clE [Fs] {par : List T} {n0 : Nat} {E : Env} {d : Df} (hl : n0 ≤ d.lo) (ha : d.args.all (·.rok par n0) = true) (h : d.ok E) : d.ok (clE par n0 E) := by
  rw [List.all_eq_true] at ha
  cases d with
  | one i t =>
    show (clE par n0 E).x i = T.me (clE par n0 E) t
    rw [T.rok_eq (ha t List.mem_cons_self)]
    simp only [Df.lo] at hl
    simp only [clE, if_neg (show ¬ i < n0 by omega)]
    exact h
  | call i g ts cnt =>
    intro k hk
    simp only [Df.lo] at hl
    have e : ts.map (T.me (clE par n0 E)) = ts.map (T.me E) := List.map_congr_left fun t ht => T.rok_eq (ha t ht)
    rw [e]
    simp only [clE, if_neg (show ¬ i + k < n0 by omega)]
    exact h k hk
theorem contig_lo [Fs] {n : Nat} : ∀ {ds : List Df} {h : Nat}, contig n ds = some h → n ≤ h ∧ ∀ d ∈ ds, n ≤ d.lo := by
  intro ds
  induction ds with
  | nil => intro h hc; cases hc; exact ⟨Nat.le_refl _, fun d hd => (nomatch hd)⟩
  | cons d r ih =>
    intro h hc
    simp only [contig] at hc
    split at hc
    · rename_i h0 h1
      cases hb : Nat.beq d.lo h0 && d.args.all (·.bel d.lo) <;> simp only [hb, cond_true, cond_false] at hc
      · cases hc
      cases hc
      rw [Bool.and_eq_true] at hb
      have e0 := Nat.eq_of_beq_eq_true hb.1
      obtain ⟨i1, i2⟩ := ih h1
      have : d.lo ≤ d.hi := by cases d <;> simp only [Df.lo, Df.hi] <;> omega
      refine ⟨by omega, fun e he => ?_⟩
      rcases List.mem_cons.1 he with rfl | he
      · omega
      · exact i2 e he
    · cases hc
/-- What stands behind doesn't turn what stands ahead. -/
theorem contig_app [Fs] {n : Nat} {E : Env} : ∀ {p c : List Df} {h : Nat}, contig n (p ++ c) = some h → ∃ hc, contig n c = some hc ∧ hc ≤ h ∧ Agree (extL E c) (extL E (p ++ c)) hc := by
  intro p
  induction p with
  | nil => intro c h hc; exact ⟨h, hc, Nat.le_refl _, Agree.refl _ _⟩
  | cons d p ih =>
    intro c h hc
    simp only [List.cons_append, contig] at hc
    split at hc
    · rename_i h0 h1
      cases hb : Nat.beq d.lo h0 && d.args.all (·.bel d.lo) <;> simp only [hb, cond_true, cond_false] at hc
      · cases hc
      cases hc
      rw [Bool.and_eq_true] at hb
      have e0 := Nat.eq_of_beq_eq_true hb.1
      obtain ⟨hc', i1, i2, i3⟩ := ih h1
      have : d.lo ≤ d.hi := by cases d <;> simp only [Df.lo, Df.hi] <;> omega
      refine ⟨hc', i1, by omega, ?_⟩
      exact i3.trans (ext_agree _ d) (by omega)
    · cases hc
/-- The meanings that two ways share, from the first letter on. -/
def comS0 : List Df → List Df → List Df
  | [], _ => []
  | x :: xs, ys => bif listB Df.beq (x :: xs) ys then x :: xs else match ys with
    | [] => []
    | _ :: ys => comS0 xs ys
def comS (a b : List Df) : List Df := comS0 (a.drop (a.length - b.length)) (b.drop (b.length - a.length))
theorem comS0_ok [Fs] : ∀ {a b : List Df}, (∃ p, a = p ++ comS0 a b) ∧ (∃ q, b = q ++ comS0 a b) := by
  intro a
  induction a with
  | nil => intro b; exact ⟨⟨[], rfl⟩, ⟨b, by simp [comS0]⟩⟩
  | cons x xs ih =>
    intro b
    simp only [comS0]
    cases hb : listB Df.beq (x :: xs) b <;> simp only [cond_true, cond_false]
    · cases b with
      | nil => exact ⟨⟨x :: xs, by simp⟩, ⟨[], rfl⟩⟩
      | cons y ys =>
        obtain ⟨⟨p, h1⟩, q, h2⟩ := ih (b := ys)
        exact ⟨⟨x :: p, by simp only [List.cons_append]; rw [← h1]⟩, y :: q, by simp only [List.cons_append]; rw [← h2]⟩
    · have e := listB_eq (fun _ _ => Df.beq_eq) hb
      exact ⟨⟨[], rfl⟩, [], e.symm⟩
theorem comS_ok [Fs] {a b : List Df} : (∃ p, a = p ++ comS a b) ∧ (∃ q, b = q ++ comS a b) := by
  unfold comS
  obtain ⟨⟨p, h1⟩, q, h2⟩ := comS0_ok (a := a.drop (a.length - b.length)) (b := b.drop (b.length - a.length))
  refine ⟨⟨a.take (a.length - b.length) ++ p, ?_⟩, b.take (b.length - a.length) ++ q, ?_⟩
  · rw [List.append_assoc, ← h1, List.take_append_drop]
  · rw [List.append_assoc, ← h2, List.take_append_drop]
end Go.Sy
