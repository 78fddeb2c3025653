/- Part 25 of a checked reader of Go texts in their model form: it runs a function at terms in the place of numbers, and each part proves that its answers hold of the model. -/
import Derived.Test.YtpjmhngcdbpmpaaLy22
namespace Go.Sy
/-! what a loop tells -/
/-- A way through a loop's body: does it go round, what holds on it, what its letters stand for, the values that it leaves. -/
structure Wy where
  go : Bool
  pc : Pc
  ds : List Df
  ts : List T
/-- A loop: its name, how many letters stand fast, how many turn, a measure, the ways. -/
structure Lk where
  id : Nat
  n0 : Nat
  s : Nat
  mu : T
  ways : List Wy
def argE (F : Nat → List Arg → List Arg) (args : List Arg) : Env := ⟨fun i => args.getD i default, F⟩
def wayE (F : Nat → List Arg → List Arg) (args : List Arg) (w : Wy) : Env := extL (argE F args) w.ds
def pcB (E : Env) (pc : Pc) : Bool := pc.all fun p => p.1.tr E == p.2
def pick (F : Nat → List Arg → List Arg) (args : List Arg) : Nat → List Wy → Option (Nat × Wy)
  | _, [] => none
  | i, w :: r => bif pcB (wayE F args w) w.pc then some (i, w) else pick F args (i + 1) r
def iter (F : Nat → List Arg → List Arg) (c : Lk) : Nat → List Arg → Option (List Arg)
  | 0, _ => none
  | k + 1, args => match pick F args 0 c.ways with
    | some (i, w) => bif w.go then iter F c k (args.take c.n0 ++ w.ts.map (T.me (wayE F args w))) else some (⟨i, fun _ => i⟩ :: w.ts.map (T.me (wayE F args w)))
    | none => none
def Lk.spec (c : Lk) (F : Nat → List Arg → List Arg) (args : List Arg) : List Arg := (iter F c ((c.mu.den (argE F args)).toNat + 1) args).getD []
theorem iter_mono [Fs] {F : Nat → List Arg → List Arg} {c : Lk} : ∀ {k : Nat} {args r : List Arg}, iter F c k args = some r → iter F c (k + 1) args = some r := by
  intro k
  induction k with
  | zero => intro args r h; cases h
  | succ k ih =>
    intro args r h
    rw [iter] at h ⊢
    cases hp : pick F args 0 c.ways with
    | none => rw [hp] at h; cases h
    | some q =>
      obtain ⟨i, w⟩ := q
      rw [hp] at h
      simp only at h ⊢
      cases hg : w.go <;> simp only [hg, cond_true, cond_false] at h ⊢
      · exact h
      · exact ih h
theorem iter_le [Fs] {F : Nat → List Arg → List Arg} {c : Lk} {k j : Nat} {args r : List Arg} (h : iter F c k args = some r) (hj : k ≤ j) : iter F c j args = some r := by
  obtain ⟨d, rfl⟩ := Nat.exists_eq_add_of_le hj
  clear hj
  induction d with
  | zero => exact h
  | succ d ih => exact iter_mono ih
theorem pick_at [Fs] {F : Nat → List Arg → List Arg} {args : List Arg} : ∀ {l : List Wy} {b k : Nat} {w : Wy}, l[k]? = some w → pcB (wayE F args w) w.pc = true → (∀ (j : Nat) (v : Wy), j < k → l[j]? = some v → pcB (wayE F args v) v.pc = false) → pick F args b l = some (b + k, w) := by
  intro l
  induction l with
  | nil => intro b k w h; simp at h
  | cons x r ih =>
    intro b k w h hp hn
    cases k with
    | zero => simp at h; subst h; simp only [pick, hp, cond_true]; rfl
    | succ k =>
      simp at h
      have h0 := hn 0 x (Nat.succ_pos k) rfl
      simp only [pick, h0, cond_false]
      rw [ih h hp fun j v hj hv => hn (j + 1) v (by omega) (by simpa using hv)]
      congr 2; omega

/-! letters that stand fast, held within their ranges -/
def T.rok (par : List T) (n0 : Nat) : T → Bool
  | .lit _ => true
  | .v i lo hi => bif Nat.blt i n0 then (par.getD i (.lit 0)).beq (.v i lo hi) && leb lo hi else true
  | .un _ a => a.rok par n0
  | .bin _ a b => a.rok par n0 && b.rok par n0
  | .ite c a b => c.rok par n0 && a.rok par n0 && b.rok par n0
  | .sel s i => s.rok par n0 && i.rok par n0
  | .upd s i x => s.rok par n0 && i.rok par n0 && x.rok par n0
  | .sh s o => s.rok par n0 && o.rok par n0
  | .blit d o n s => d.rok par n0 && o.rok par n0 && n.rok par n0 && s.rok par n0
  | .eqr n a b => n.rok par n0 && a.rok par n0 && b.rok par n0
def clE (par : List T) (n0 : Nat) (E : Env) : Env := ⟨fun i => if i < n0 then (par.getD i (.lit 0)).me E else E.x i, E.F⟩
theorem clamp_clamp [Fs] {lo hi n : Int} (h : lo ≤ hi) : clamp lo hi (clamp lo hi n) = clamp lo hi n := by
  refine clamp_id ?_
  unfold clamp; split; omega; split <;> omega
theorem T.rok_me [Fs] {par : List T} {n0 : Nat} {E : Env} {t : T} (h : t.rok par n0 = true) : t.den (clE par n0 E) = t.den E ∧ t.row (clE par n0 E) = t.row E := by
  induction t with
  | lit n => exact ⟨rfl, rfl⟩
  | v i lo hi =>
    simp only [T.rok] at h
    cases hi' : Nat.blt i n0 <;> simp only [hi', cond_true, cond_false] at h
    · have : ¬ i < n0 := by rw [← Nat.blt_eq, hi']; exact Bool.false_ne_true
      exact ⟨by simp only [T.den, clE, if_neg this], by funext j; simp only [T.row, clE, if_neg this]⟩
    · rw [Nat.blt_eq] at hi'
      rw [Bool.and_eq_true, leb_t] at h
      have e := T.beq_eq h.1
      have hx : (clE par n0 E).x i = T.me E (.v i lo hi) := by simp only [clE, if_pos hi', e]
      exact ⟨by simp only [T.den, hx, T.me, clamp_clamp h.2], by funext j; simp only [T.row, hx, T.me, clamp_clamp h.2]⟩
  | un o a ih => simp only [T.rok] at h; cases o <;> exact ⟨by simp only [T.den, (ih h).1], by funext j; simp only [T.row, (ih h).1, (ih h).2]⟩
  | bin o a b iha ihb => simp only [T.rok, Bool.and_eq_true] at h; exact ⟨by simp only [T.den, (iha h.1).1, (ihb h.2).1], by funext j; simp only [T.row, (iha h.1).1, (ihb h.2).1]⟩
  | ite c a b ihc iha ihb =>
    simp only [T.rok, Bool.and_eq_true] at h
    exact ⟨by simp only [T.den, (ihc h.1.1).1, (iha h.1.2).1, (ihb h.2).1], by funext j; simp only [T.row, (ihc h.1.1).1, (iha h.1.2).2, (ihb h.2).2]⟩
  | sel s i ihs ihi => simp only [T.rok, Bool.and_eq_true] at h; exact ⟨by simp only [T.den, (ihs h.1).2, (ihi h.2).1], by funext j; simp only [T.row, (ihs h.1).2, (ihi h.2).1]⟩
  | upd s i x ihs ihi ihx => simp only [T.rok, Bool.and_eq_true] at h; exact ⟨rfl, by funext j; simp only [T.row, (ihs h.1.1).2, (ihi h.1.2).1, (ihx h.2).1]⟩
  | sh s o ihs iho => simp only [T.rok, Bool.and_eq_true] at h; exact ⟨rfl, by funext j; simp only [T.row, (ihs h.1).2, (iho h.2).1]⟩
  | blit d o n s ihd iho ihn ihs => simp only [T.rok, Bool.and_eq_true] at h; exact ⟨rfl, by funext j; simp only [T.row, (ihd h.1.1.1).2, (iho h.1.1.2).1, (ihn h.1.2).1, (ihs h.2).2]⟩
  | eqr n a b ihn iha ihb => simp only [T.rok, Bool.and_eq_true] at h; exact ⟨by simp only [T.den, (ihn h.1.1).1, (iha h.1.2).2, (ihb h.2).2], by funext j; simp only [T.row, (ihn h.1.1).1, (iha h.1.2).2, (ihb h.2).2]⟩
theorem T.rok_eq [Fs] {par : List T} {n0 : Nat} {E : Env} {t : T} (h : t.rok par n0 = true) : T.me (clE par n0 E) t = T.me E t := by
  unfold T.me; rw [(T.rok_me h).1, (T.rok_me h).2]
/-- Letters' meanings hold as well where those that stand fast are held within their ranges. -/
theorem Df.ok_clE [Fs] {par : List T} {n0 : Nat} {E : Env} {d : Df} (hl : n0 ≤ d.lo) (ha : d.args.all (·.rok par n0) = true) (h : d.ok E) : d.ok (clE par n0 E) := by
  rw [List.all_eq_true] at ha
  cases d with
  | one i t =>
    show (clE par n0 E).x i = T.me (clE par n0 E) t
    rw [T.rok_eq (ha t List.mem_cons_self)]
    simp only [Df.lo] at hl
    simp only [clE, if_neg (show ¬ i < n0 by omega)]
    exact h
  | call i g ts cnt =>
    intro k hk
    simp only [Df.lo] at hl
    have e : ts.map (T.me (clE par n0 E)) = ts.map (T.me E) := List.map_congr_left fun t ht => T.rok_eq (ha t ht)
    rw [e]
    simp only [clE, if_neg (show ¬ i + k < n0 by omega)]
    exact h k hk
theorem contig_lo [Fs] {n : Nat} : ∀ {ds : List Df} {h : Nat}, contig n ds = some h → n ≤ h ∧ ∀ d ∈ ds, n ≤ d.lo := by
  intro ds
  induction ds with
  | nil => intro h hc; cases hc; exact ⟨Nat.le_refl _, fun d hd => (nomatch hd)⟩
  | cons d r ih =>
    intro h hc
    simp only [contig] at hc
    split at hc
    · rename_i h0 h1
      cases hb : Nat.beq d.lo h0 && d.args.all (·.bel d.lo) <;> simp only [hb, cond_true, cond_false] at hc
      · cases hc
      cases hc
      rw [Bool.and_eq_true] at hb
      have e0 := Nat.eq_of_beq_eq_true hb.1
      obtain ⟨i1, i2⟩ := ih h1
      have : d.lo ≤ d.hi := by cases d <;> simp only [Df.lo, Df.hi] <;> omega
      refine ⟨by omega, fun e he => ?_⟩
      rcases List.mem_cons.1 he with rfl | he
      · omega
      · exact i2 e he
    · cases hc
/-- What stands behind doesn't turn what stands ahead. -/
theorem contig_app [Fs] {n : Nat} {E : Env} : ∀ {p c : List Df} {h : Nat}, contig n (p ++ c) = some h → ∃ hc, contig n c = some hc ∧ hc ≤ h ∧ Agree (extL E c) (extL E (p ++ c)) hc := by
  intro p
  induction p with
  | nil => intro c h hc; exact ⟨h, hc, Nat.le_refl _, Agree.refl _ _⟩
  | cons d p ih =>
    intro c h hc
    simp only [List.cons_append, contig] at hc
    split at hc
    · rename_i h0 h1
      cases hb : Nat.beq d.lo h0 && d.args.all (·.bel d.lo) <;> simp only [hb, cond_true, cond_false] at hc
      · cases hc
      cases hc
      rw [Bool.and_eq_true] at hb
      have e0 := Nat.eq_of_beq_eq_true hb.1
      obtain ⟨hc', i1, i2, i3⟩ := ih h1
      have : d.lo ≤ d.hi := by cases d <;> simp only [Df.lo, Df.hi] <;> omega
      refine ⟨hc', i1, by omega, ?_⟩
      exact i3.trans (ext_agree _ d) (by omega)
    · cases hc
/-- The meanings that two ways share, from the first letter on. -/
def comS0 : List Df → List Df → List Df
  | [], _ => []
  | x :: xs, ys => bif listB Df.beq (x :: xs) ys then x :: xs else match ys with
    | [] => []
    | _ :: ys => comS0 xs ys
def comS (a b : List Df) : List Df := comS0 (a.drop (a.length - b.length)) (b.drop (b.length - a.length))
theorem comS0_ok [Fs] : ∀ {a b : List Df}, (∃ p, a = p ++ comS0 a b) ∧ (∃ q, b = q ++ comS0 a b) := by
  intro a
  induction a with
  | nil => intro b; exact ⟨⟨[], rfl⟩, ⟨b, by simp [comS0]⟩⟩
  | cons x xs ih =>
    intro b
    simp only [comS0]
    cases hb : listB Df.beq (x :: xs) b <;> simp only [cond_true, cond_false]
    · cases b with
      | nil => exact ⟨⟨x :: xs, by simp⟩, ⟨[], rfl⟩⟩
      | cons y ys =>
        obtain ⟨⟨p, h1⟩, q, h2⟩ := ih (b := ys)
        exact ⟨⟨x :: p, by simp only [List.cons_append]; rw [← h1]⟩, y :: q, by simp only [List.cons_append]; rw [← h2]⟩
    · have e := listB_eq (fun _ _ => Df.beq_eq) hb
      exact ⟨⟨[], rfl⟩, [], e.symm⟩
theorem comS_ok [Fs] {a b : List Df} : (∃ p, a = p ++ comS a b) ∧ (∃ q, b = q ++ comS a b) := by
  unfold comS
  obtain ⟨⟨p, h1⟩, q, h2⟩ := comS0_ok (a := a.drop (a.length - b.length)) (b := b.drop (b.length - a.length))
  refine ⟨⟨a.take (a.length - b.length) ++ p, ?_⟩, b.take (b.length - a.length) ++ q, ?_⟩
  · rw [List.append_assoc, ← h1, List.take_append_drop]
  · rw [List.append_assoc, ← h2, List.take_append_drop]
end Go.Sy
namespace Go.Sy
/-! patterns of states -/
def L.isDead : L → Bool
  | .a .dead => true
  | _ => false
def Bk.isDead : Bk → Bool
  | .dead => true
  | _ => false
def Tr.pat (σ : Sg) (n : Nat) : Tr → Tr → Bool
  | .nil, _ => true
  | .nd x l r, .nd y l' r' => (x.isDead || ((x.sub σ id).beq y && x.blk n)) && l.pat σ n l' && r.pat σ n r'
  | .nd _ _ _, .nil => false
theorem Tr.pat_get [Fs] {σ : Sg} {n : Nat} : ∀ {t u : Tr}, t.pat σ n u = true → ∀ (i : Nat) (x : L), t.get i = some x → ∃ y, u.get i = some y ∧ (x = .a .dead ∨ (x.sub σ id = y ∧ x.blk n = true)) := by
  intro t
  induction t with
  | nil => intro u _ i x h; cases h
  | nd z l r ihl ihr =>
    intro u h i x hx
    cases u with
    | nil => cases h
    | nd y l' r' =>
      simp only [Tr.pat, Bool.and_eq_true, Bool.or_eq_true] at h
      simp only [Tr.get] at hx ⊢
      cases h0 : Nat.beq i 0 <;> simp only [h0, cond_true, cond_false] at hx ⊢
      · cases h1 : Nat.beq (Nat.mod i 2) 1 <;> simp only [h1, cond_true, cond_false] at hx ⊢
        · exact ihr h.2 _ x hx
        · exact ihl h.1.2 _ x hx
      · cases hx
        refine ⟨y, rfl, ?_⟩
        rcases h.1.1 with hd | ⟨h1, h2⟩
        · left
          unfold L.isDead at hd
          split at hd
          · rfl
          · cases hd
        · exact .inr ⟨L.beq_eq h1, h2⟩
def bksPat (σ : Sg) (n : Nat) : List Bk → List Bk → Bool
  | [], _ => true
  | b :: r, c :: s => (b.isDead || ((b.sub σ id).beq c && b.blk n)) && bksPat σ n r s
  | _ :: _, [] => false
theorem bksPat_get [Fs] {σ : Sg} {n : Nat} : ∀ {m m' : List Bk}, bksPat σ n m m' = true → ∀ (i : Nat) (b : Bk), m[i]? = some b → ∃ c, m'[i]? = some c ∧ (b = .dead ∨ (b.sub σ id = c ∧ b.blk n = true)) := by
  intro m
  induction m with
  | nil => intro m' _ i b h; simp at h
  | cons x r ih =>
    intro m' h i b hb
    cases m' with
    | nil => cases h
    | cons y s =>
      simp only [bksPat, Bool.and_eq_true, Bool.or_eq_true] at h
      cases i with
      | zero =>
        simp at hb; subst hb
        refine ⟨y, rfl, ?_⟩
        rcases h.1 with hd | ⟨h1, h2⟩
        · left; cases x <;> simp [Bk.isDead] at hd; rfl
        · exact .inr ⟨Bk.beq_eq h1, h2⟩
      | succ i => simp at hb; exact ih h.2 i b hb
section
variable {X : Cx} {E1 E2 : Env} {σ : Sg} {ρ : Nat → Rb} {st' gx : St} {a : Act} {w : World}
theorem rel_pat [Fs] (h : Rel (X.at E2) ρ st' a w) (hs : SubOk E1 E2 σ) (h1 : gx.s.pat σ gx.m.length st'.s = true) (h2 : bksPat σ gx.m.length gx.m st'.m = true) (h0 : X.n0 ≤ gx.m.length) (hpc : pcOk E1 gx.pc) (hds : ∀ d ∈ gx.k.ds, d.ok E1) : Rel (X.at E1) ρ gx a w := by
  have hF : E1.F = Fs.F := hs.F.symm.trans h.F
  have live : ∀ (i : Nat) (b : Bk), gx.m[i]? = some b → b.there E1 → ∃ c, st'.m[i]? = some c ∧ c.there E2 ∧ c.ro = b.ro := fun i b hi hb => by
    obtain ⟨c, g1, g2⟩ := bksPat_get h2 i b hi
    rcases g2 with rfl | ⟨rfl, _⟩
    · exact hb.elim
    · exact ⟨_, g1, (Bk.there_sub hs).2 hb, Bk.ro_sub⟩
  refine ⟨⟨fun i x hx => ?_, hpc, hds, hF⟩, h.dfr, ⟨fun i b hi => ?_, fun i j bi bj hi hj hbi hbj heq => ?_, h0, h.mr.old, fun i b hn hi hro hb => ?_, ⟨h.mr.fr.os, h.mr.fr.tape, h.mr.fr.output, h.mr.fr.size, h.mr.fr.block⟩⟩⟩
  · obtain ⟨y, g1, g2⟩ := Tr.pat_get h1 i x hx
    obtain ⟨v, g3, g4⟩ := h.slots i y g1
    refine ⟨v, g3, ?_⟩
    rcases g2 with rfl | ⟨rfl, g5⟩
    · trivial
    · exact Lr.unsub (β := id) (ρ' := ρ) hs (fun _ _ => rfl) g5 g4
  · obtain ⟨c, g1, g2⟩ := bksPat_get h2 i b hi
    rcases g2 with rfl | ⟨rfl, g5⟩
    · trivial
    · exact Br.unsub (β := id) (ρ' := ρ) hs (fun _ _ => rfl) g5 (h.mr.mem i _ g1)
  · obtain ⟨c, g1, g2, _⟩ := live i bi hi hbi
    obtain ⟨d, g3, g4, _⟩ := live j bj hj hbj
    exact h.mr.inj i j c d g1 g3 g2 g4 heq
  · obtain ⟨c, g1, g2, g3⟩ := live i b hi hb
    exact h.mr.new i c hn g1 (g3.trans hro) g2
theorem rel_sub [Fs] (h : Rel (X.at E1) ρ gx a w) (hs : SubOk E1 E2 σ) {pc : Pc} {k : Kn} (hpc : pcOk E2 pc) (hds : ∀ d ∈ k.ds, d.ok E2) : Rel (X.at E2) ρ ⟨gx.s.sub σ id, gx.m.map (·.sub σ id), pc, k⟩ a w := by
  have hβ : ∀ b, b < gx.m.length → id b < (gx.m.map (·.sub σ id)).length ∧ ρ (id b) = ρ b := fun b hb => ⟨by simpa using hb, rfl⟩
  have get : ∀ {i : Nat} {b : Bk}, (gx.m.map (·.sub σ id))[i]? = some b → ∃ c, gx.m[i]? = some c ∧ b = c.sub σ id := by
    intro i b hi
    rw [List.getElem?_map, Option.map_eq_some_iff] at hi
    obtain ⟨c, h1, h2⟩ := hi
    exact ⟨c, h1, h2.symm⟩
  refine ⟨⟨h.slots.sub hs hβ, hpc, hds, hs.F.trans h.F⟩, h.dfr, ⟨fun i b hi => ?_, fun i j bi bj hi hj hbi hbj heq => ?_, by simpa [Cx.at] using h.mr.len, h.mr.old, fun i b hn hi hro hb => ?_, ⟨h.mr.fr.os, h.mr.fr.tape, h.mr.fr.output, h.mr.fr.size, h.mr.fr.block⟩⟩⟩
  · obtain ⟨c, h1, rfl⟩ := get hi
    exact (h.mr.mem i c h1).sub hs hβ
  · obtain ⟨c, h1, rfl⟩ := get hi
    obtain ⟨d, h2, rfl⟩ := get hj
    exact h.mr.inj i j c d h1 h2 ((Bk.there_sub hs).1 hbi) ((Bk.there_sub hs).1 hbj) heq
  · obtain ⟨c, h1, rfl⟩ := get hi
    exact h.mr.new i c hn h1 (by rw [← Bk.ro_sub (σ := σ) (β := id)]; exact hro) ((Bk.there_sub hs).1 hb)
end
/-- A loop by a number that each round lowers. -/
theorem wp_loopN [Fs] {P : Program} {body : Code} {Q : Exit → Act → World → Prop} (I : Nat → Act → World → Prop)
    (round : ∀ m a w, I m a w → body.wp P (Exit.then (fun a' w' => ∃ m', m' < m ∧ I m' a' w') Q) a w) {m : Nat} {a : Act} {w : World} (h : I m a w) : (Code.loop body).wp P Q a w := by
  have least : ∀ (n : Nat) (a : Act) (w : World), I n a w → ∃ k, I k a w ∧ ∀ j, I j a w → k ≤ j := by
    intro n
    induction n using Nat.strongRecOn with
    | _ n ih =>
      intro a w hI
      by_cases hc : ∃ j, j < n ∧ I j a w
      · obtain ⟨j, hj, hI'⟩ := hc
        exact ih j hj a w hI'
      · exact ⟨n, hI, fun j hj => Nat.le_of_not_lt fun hlt => hc ⟨j, hlt, hj⟩⟩
  have ch : ∃ μ : Act → World → Nat, ∀ a w, (∃ n, I n a w) → I (μ a w) a w ∧ ∀ j, I j a w → μ a w ≤ j := by
    refine ⟨fun a w => @dite _ (∃ n, I n a w) (Classical.propDecidable _) (fun h => Classical.choose (least _ a w (Classical.choose_spec h))) (fun _ => 0), fun a w hx => ?_⟩
    simp only [dif_pos hx]
    exact Classical.choose_spec (least _ a w (Classical.choose_spec hx))
  obtain ⟨μ, hμ⟩ := ch
  refine wp_loop (fun a w => ∃ n, I n a w) μ ⟨m, h⟩ fun a w hI => ?_
  refine Code.wp_mono (fun e a' w' q => ?_) (round _ a w (hμ a w hI).1)
  cases e with
  | normal =>
    obtain ⟨m', h1, h2⟩ := q
    exact ⟨⟨m', h2⟩, Nat.lt_of_le_of_lt ((hμ a' w' ⟨m', h2⟩).2 m' h2) h1⟩
  | _ => exact q
end Go.Sy
namespace Go.Sy
/-- A way out of a loop: the slots and blocks that differ from those at its head, how many letters they take, what holds. -/
structure Xp where
  sl : List (Nat × L)
  bl : List (Nat × Bk)
  t : Nat
  post : Pc
/-- A loop of a function: the function, its code's first number; what it tells; the letters that stand fast; the slots and blocks that turn, what holds at its head, its ways out; how many letters it tells. -/
structure Ls where
  g : Nat
  key : Nat
  c : Lk
  par : List T
  sl : List (Nat × L)
  bl : List (Nat × Bk)
  inv : Pc
  ex : List Xp
  cnt : Nat
def setS (t : Tr) : List (Nat × L) → Tr
  | [] => t
  | (i, x) :: r => setS (t.set i x) r
def setBs (m : List Bk) : List (Nat × Bk) → List Bk
  | [] => m
  | (i, b) :: r => setBs (m.set i b) r
theorem setBs_length [Fs] : ∀ {l : List (Nat × Bk)} {m : List Bk}, (setBs m l).length = m.length := by
  intro l
  induction l with
  | nil => intro m; rfl
  | cons p r ih => intro m; obtain ⟨i, b⟩ := p; simp only [setBs, ih, List.length_set]
def mSl (u : Tr) : List (Nat × L) → Mt
  | [] => []
  | (i, x) :: r => (match u.get i with | some y => mL x y | none => []) ++ mSl u r
def mBl (m : List Bk) : List (Nat × Bk) → Mt
  | [] => []
  | (i, x) :: r => mB x (bkAt m i) ++ mBl m r
def decB (pc : Pc) (t : T) (b : Bool) : Bool := match dec pc t with
  | some c => c == b
  | none => false
theorem decB_ok [Fs] {E : Env} {pc : Pc} (hp : pcOk E pc) {t : T} {b : Bool} (h : decB pc t b = true) : t.tr E = b := by
  unfold decB at h
  split at h
  · rename_i c hc
    rw [dec_ok hp hc]; exact beq_iff_eq.1 h
  · cases h
def clash (n : Nat) (pc : Pc) (w v : Wy) : Bool := match contig n (comS w.ds v.ds) with
  | some hc => w.pc.any fun p => p.1.bel hc && decB pc p.1 (!p.2)
  | none => false
def Ls.n (l : Ls) : Nat := l.c.n0 + l.c.s
/-- What each way must be. -/
def wayB (l : Ls) (st st' : St) (w : Wy) (prev : List Wy) (h : Nat) : Bool :=
  listB Df.beq st'.k.ds (w.ds ++ st.k.ds) && w.ds.all (fun d => d.args.all (·.rok l.par l.c.n0)) && w.pc.all (fun p => p.1.bel h && p.1.rok l.par l.c.n0 && decB st'.pc p.1 p.2) &&
    w.ts.all (fun t => t.bel h && t.rok l.par l.c.n0) && prev.all (fun v => v.pc.all (fun p => p.1.rok l.par l.c.n0) && clash l.n st'.pc v w && (contig l.n v.ds).isSome)
def vals (l : Ls) (t : Nat) (mt : Mt) : List T := (List.range t).map fun j => lookT (l.c.n0 + j) mt
def outSg (l : Ls) (t : Nat) : Sg := resXS l.c.n0 t fun i lo hi => bif Nat.blt i l.c.n0 then .v i lo hi else .v (l.c.n0 + 1 + (i - l.c.n0)) lo hi
def lpGo (l : Ls) (gen st' : St) (w : Wy) : Bool :=
  let mt := mSl st'.s l.sl ++ mBl st'.m l.bl
  let σ := runSg l.c.n0 l.c.s st'.pc mt
  w.go && listB T.beq (vals l l.c.s mt) w.ts && gen.s.pat σ gen.m.length st'.s && bksPat σ gen.m.length gen.m st'.m && sureAll st'.pc σ l.inv && decB st'.pc (mk2 .lt (l.c.mu.sub σ) l.c.mu) true
def lpX (l : Ls) (gen st' : St) (w : Wy) (x : Xp) : Bool :=
  let mt := mSl st'.s (x.sl ++ l.sl) ++ mBl st'.m (x.bl ++ l.bl)
  let σ := runSg l.c.n0 x.t st'.pc mt
  !w.go && listB T.beq (vals l x.t mt) w.ts && (setS gen.s x.sl).pat σ gen.m.length st'.s && bksPat σ gen.m.length (setBs gen.m x.bl) st'.m && sureAll st'.pc σ x.post && Nat.blt x.t l.cnt
def lpOut (l : Ls) (st gen : St) (args : List T) (k : Nat) (e : Ex) (x : Xp) : Out :=
  .good e ⟨(setS gen.s x.sl).sub (outSg l x.t) id, (setBs gen.m x.bl).map (·.sub (outSg l x.t) id), (.bin .eq (.v l.c.n0 0 l.c.ways.length) (.lit k), true) :: (pcSub (outSg l x.t) x.post ++ st.pc),
    ⟨.call l.c.n0 l.c.id args l.cnt :: st.k.ds, l.c.n0 + l.cnt⟩⟩
def lpWay (l : Ls) (st gen : St) (args : List T) (k : Nat) (w : Wy) (x : Xp) : Out → Option (List Out)
  | .bad _ _ => none
  | .good (.pan _) _ => none
  | .good e st' => match contig l.n w.ds with
    | none => none
    | some h => bif wayB l st st' w (l.c.ways.take k) h then match e with
      | .norm => bif lpGo l gen st' w then some [] else none
      | e => bif lpX l gen st' w x then some [lpOut l st gen args k e x] else none
      else none
def lpOuts (l : Ls) (st gen : St) (args : List T) : Nat → List Wy → List Xp → List Out → Option (List Out)
  | _, [], _, [] => some []
  | k, w :: ws, x :: xs, o :: os => match lpWay l st gen args k w x o with
    | some a => match lpOuts l st gen args (k + 1) ws xs os with
      | some b => some (a ++ b)
      | none => none
    | none => none
  | _, _, _, _ => none
def lpGen (l : Ls) (st : St) : St := ⟨setS st.s l.sl, setBs st.m l.bl, l.inv ++ st.pc, ⟨st.k.ds, l.n⟩⟩
def lpMt (l : Ls) (st : St) : Mt := mSl st.s l.sl ++ mBl st.m l.bl
def lpEntry (l : Ls) (st gen : St) (es : List T) : Bool :=
  Nat.beq st.k.nv l.c.n0 && st.bel && Nat.beq l.par.length l.c.n0 && l.par.all (·.bel l.c.n0) && es.all (·.bel l.c.n0) && gen.s.pat (runSg l.c.n0 l.c.s st.pc (lpMt l st)) gen.m.length st.s &&
    bksPat (runSg l.c.n0 l.c.s st.pc (lpMt l st)) gen.m.length gen.m st.m && sureAll st.pc (runSg l.c.n0 l.c.s st.pc (lpMt l st)) l.inv && decB gen.pc (mk2 .le (.lit 0) l.c.mu) true && l.c.mu.bel l.n && l.c.mu.rok l.par l.c.n0
def lpRun (l : Ls) (body : Code) (st : St) (run : Code → St → Option (List Out)) : Option (List Out) :=
  (lpGen l st).fc fun gen => fcLs T.fc (vals l l.c.s (lpMt l st)) fun es => bif lpEntry l st gen es then match run body gen with
    | some os => fcLs Out.fc os fun os => match lpOuts l st gen (l.par ++ es) 0 l.c.ways l.ex os with
      | some r => fcLs Out.fc r some
      | none => none
    | none => none
    else none
theorem lpOuts_mem [Fs] {l : Ls} {st gen : St} {args : List T} : ∀ {ws : List Wy} {xs : List Xp} {os outs : List Out} {k : Nat}, lpOuts l st gen args k ws xs os = some outs →
    ∀ o ∈ os, ∃ (j : Nat) (w : Wy) (x : Xp) (oo : List Out), ws[j]? = some w ∧ lpWay l st gen args (k + j) w x o = some oo ∧ ∀ y ∈ oo, y ∈ outs := by
  intro ws
  induction ws with
  | nil =>
    intro xs os outs k h o ho
    cases os with
    | nil => cases ho
    | cons o os => cases h
  | cons w ws ih =>
    intro xs os outs k h o ho
    cases os with
    | nil => cases ho
    | cons o' os =>
      cases xs with
      | nil => cases h
      | cons x xs =>
        simp only [lpOuts] at h
        split at h
        · rename_i a ha
          split at h
          · rename_i b hb
            cases h
            rcases List.mem_cons.1 ho with rfl | ho
            · exact ⟨0, w, x, a, rfl, ha, fun y hy => List.mem_append_left _ hy⟩
            · obtain ⟨j, w', x', oo, h1, h2, h3⟩ := ih hb o ho
              exact ⟨j + 1, w', x', oo, by simpa using h1, by rw [show k + (j + 1) = k + 1 + j by omega]; exact h2, fun y hy => List.mem_append_right _ (h3 y hy)⟩
          · cases h
        · cases h
theorem runSg_ok [Fs] {E : Env} {pc : Pc} (hp : pcOk E pc) (n t : Nat) (mt : Mt) (ts : List T) (hts : ∀ k, k < t → ts[k]? = some (lookT (n + k) mt)) : SubOk (resX E n t (ts.map (T.me E))) E (runSg n t pc mt) := by
  refine resXS_ok rfl (fun i hi lo hi' => ?_) fun k hk lo hi' => ?_
  · rw [← Nat.blt_eq] at hi
    simp only [hi, cond_true]
    exact ⟨rfl, fun j => rfl⟩
  · have : Nat.blt (n + k) n = false := by
      cases hb : Nat.blt (n + k) n
      · rfl
      · rw [Nat.blt_eq] at hb; omega
    simp only [this, cond_false]
    simp only [List.getElem?_map, hts k hk, Option.map_some, Option.getD_some]
    exact mkCl_ok hp lo hi' _
theorem vals_get [Fs] {l : Ls} {t : Nat} {mt : Mt} {k : Nat} (hk : k < t) : (vals l t mt)[k]? = some (lookT (l.c.n0 + k) mt) := by
  simp only [vals, List.getElem?_map, List.getElem?_range hk, Option.map_some]
theorem vals_length [Fs] {l : Ls} {t : Nat} {mt : Mt} : (vals l t mt).length = t := by simp [vals]
end Go.Sy
namespace Go.Sy
/-- A loop's letters: those that stand fast, those that turn. -/
def hA (par : List T) (E0 E : Env) (n0 s : Nat) : List Arg := par.map (T.me E0) ++ (List.range s).map fun j => E.x (n0 + j)
theorem hA_x [Fs] {par : List T} {E0 E : Env} {n0 s : Nat} {F : Nat → List Arg → List Arg} (hl : par.length = n0) (hb : par.all (·.bel n0) = true) (hag : Agree E0 E n0) : ∀ i, i < n0 + s → (clE par n0 E).x i = (argE F (hA par E0 E n0 s)).x i := by
  intro i hi
  simp only [clE, argE, hA, List.getD_eq_getElem?_getD]
  by_cases h : i < n0
  · rw [if_pos h, List.getElem?_append_left (by rw [List.length_map, hl]; exact h), List.getElem?_map]
    rw [List.getElem?_eq_getElem (by rw [hl]; exact h)]
    simp only [Option.getD_some, Option.map_some]
    rw [List.all_eq_true] at hb
    exact T.bel_me hag (hb _ (List.getElem_mem _))
  · rw [if_neg h, List.getElem?_append_right (by rw [List.length_map, hl]; omega), List.length_map, hl, List.getElem?_map, List.getElem?_range (by omega)]
    simp only [Option.map_some, Option.getD_some]
    congr 1; omega
theorem pcB_of [Fs] {E : Env} {pc : Pc} (h : ∀ p ∈ pc, p.1.tr E = p.2) : pcB E pc = true := by
  unfold pcB
  rw [List.all_eq_true]
  intro p hp
  rw [h p hp]; exact beq_self_eq_true _
theorem pcB_no [Fs] {E : Env} {pc : Pc} {p : T × Bool} (hp : p ∈ pc) (h : p.1.tr E = !p.2) : pcB E pc = false := by
  cases hb : pcB E pc
  · rfl
  · unfold pcB at hb
    rw [List.all_eq_true] at hb
    have := beq_iff_eq.1 (hb p hp)
    rw [h] at this
    cases hq : p.2 <;> rw [hq] at this <;> cases this
theorem T.tr_of_den [Fs] {E E' : Env} {t : T} (h : t.den E = t.den E') : t.tr E = t.tr E' := by unfold T.tr; rw [h]
theorem iter_at [Fs] {F : Nat → List Arg → List Arg} {c : Lk} {f : Nat} {args : List Arg} {i : Nat} {w : Wy} (h : pick F args 0 c.ways = some (i, w)) : iter F c (f + 1) args = bif w.go then iter F c f (args.take c.n0 ++ w.ts.map (T.me (wayE F args w))) else some (⟨i, fun _ => i⟩ :: w.ts.map (T.me (wayE F args w))) := by
  rw [iter, h]
/-- What a way's run says of what the loop tells. -/
theorem way_ok [Fs] {l : Ls} {st st' : St} {w : Wy} {k h : Nat} {X0 E E2 : Env} (hc : contig l.n w.ds = some h) (hw : wayB l st st' w (l.c.ways.take k) h = true) (hk : l.c.ways[k]? = some w) (hl : l.par.length = l.c.n0) (hb : l.par.all (·.bel l.c.n0) = true)
    (hag0 : Agree X0 E l.c.n0) (hag : Agree E E2 l.n) (hp : pcOk E2 st'.pc) (hd : ∀ d ∈ st'.k.ds, d.ok E2) (hF : E2.F = Fs.F) :
    pick Fs.F (hA l.par X0 E l.c.n0 l.c.s) 0 l.c.ways = some (k, w) ∧ w.ts.map (T.me (wayE Fs.F (hA l.par X0 E l.c.n0 l.c.s) w)) = w.ts.map (T.me E2) := by
  simp only [wayB, Bool.and_eq_true, List.all_eq_true] at hw
  obtain ⟨⟨⟨⟨w1, w2⟩, w3⟩, w4⟩, w5⟩ := hw
  have w1 := listB_eq (fun _ _ => Df.beq_eq) w1
  have hn : l.c.n0 ≤ l.n := Nat.le_add_right _ _
  have hx : ∀ i, i < l.n → (clE l.par l.c.n0 E2).x i = (argE Fs.F (hA l.par X0 E l.c.n0 l.c.s)).x i := by
    intro i hi
    rw [← hA_x (F := Fs.F) hl hb hag0 i hi]
    simp only [clE]
    by_cases h0 : i < l.c.n0
    · rw [if_pos h0, if_pos h0]
      rw [List.all_eq_true] at hb
      refine T.bel_me (hag.mono hn) ?_
      rw [List.getD_eq_getElem?_getD, List.getElem?_eq_getElem (by rw [hl]; exact h0), Option.getD_some]
      exact hb _ (List.getElem_mem _)
    · rw [if_neg h0, if_neg h0]; exact hag.x i hi
  have hdc : ∀ ds : List Df, (∀ d ∈ ds, d ∈ w.ds) → ∀ d ∈ ds, d.ok (clE l.par l.c.n0 E2) := fun ds hds d hd' => by
    have hm := hds d hd'
    refine Df.ok_clE (Nat.le_trans hn ((contig_lo hc).2 d hm)) (by rw [List.all_eq_true]; exact w2 d hm) (hd d ?_)
    rw [w1]; exact List.mem_append_left _ hm
  have ag := contig_ok (E := clE l.par l.c.n0 E2) (E0 := argE Fs.F (hA l.par X0 E l.c.n0 l.c.s)) hF hx hc (hdc w.ds fun _ h => h)
  have val : ∀ t : T, t.bel h = true → t.rok l.par l.c.n0 = true → T.me (wayE Fs.F (hA l.par X0 E l.c.n0 l.c.s) w) t = T.me E2 t := fun t h1 h2 => by
    exact (T.bel_me ag h1).symm.trans (T.rok_eq h2)
  refine ⟨?_, List.map_congr_left fun t ht => val t (w4 t ht).1 (w4 t ht).2⟩
  have hpk : pcB (wayE Fs.F (hA l.par X0 E l.c.n0 l.c.s) w) w.pc = true := by
    refine pcB_of fun p hp' => ?_
    obtain ⟨⟨h1, h2⟩, h3⟩ := w3 p hp'
    rw [T.tr_of_den (congrArg Arg.n (val p.1 h1 h2))]
    exact decB_ok hp h3
  have := pick_at (b := 0) hk hpk fun j v hj hv => ?_
  · rw [Nat.zero_add] at this; exact this
  have hm : v ∈ l.c.ways.take k := by
    have : (l.c.ways.take k)[j]? = some v := by rw [List.getElem?_take, if_pos hj]; exact hv
    exact List.mem_of_getElem? this
  obtain ⟨⟨v1, v2⟩, v3⟩ := w5 v hm
  unfold clash at v2
  split at v2
  · rename_i hc' hcc
    rw [List.any_eq_true] at v2
    obtain ⟨p, p1, p2⟩ := v2
    rw [Bool.and_eq_true] at p2
    obtain ⟨⟨pa, e1⟩, pb, e2⟩ := comS_ok (a := v.ds) (b := w.ds)
    generalize comS v.ds w.ds = cm at hcc e1 e2
    obtain ⟨hv', v4⟩ := Option.isSome_iff_exists.1 v3
    rw [e1] at v4
    obtain ⟨hc2, g1, g2, g3⟩ := contig_app (E := argE Fs.F (hA l.par X0 E l.c.n0 l.c.s)) v4
    rw [hcc] at g1; cases g1
    have ag2 := contig_ok (E := clE l.par l.c.n0 E2) (E0 := argE Fs.F (hA l.par X0 E l.c.n0 l.c.s)) hF hx hcc (hdc _ fun d hd' => by rw [e2]; exact List.mem_append_right _ hd')
    refine pcB_no p1 ?_
    have h3 : p.1.tr E2 = !p.2 := decB_ok hp p2.2
    rw [← h3, ← T.tr_of_den (T.rok_me (E := E2) (v1 p p1)).1]
    refine T.tr_of_den ?_
    have q1 : p.1.den (clE l.par l.c.n0 E2) = p.1.den (extL (argE Fs.F (hA l.par X0 E l.c.n0 l.c.s)) cm) := T.bel_den ag2 p2.1
    have q2 : p.1.den (wayE Fs.F (hA l.par X0 E l.c.n0 l.c.s) v) = p.1.den (extL (argE Fs.F (hA l.par X0 E l.c.n0 l.c.s)) cm) := by
      unfold wayE
      rw [e1]
      exact T.bel_den g3 p2.1
    rw [q2, q1]
  · cases v2
end Go.Sy
