/- Functions, each told by its own run; and what follows from what they tell. -/
import Derived.Test.YtddfbikeaipepaaCardsLive
namespace Go.Sy
/-- Are letters 0 and 1 asked for by their rest of eight alone? -/
def T.only8 : T → Bool
  | .lit _ => true
  | .v i _ _ => Nat.ble 2 i
  | .un _ a => a.only8
  | .bin o a b => (a.only8 && b.only8) || match o, a, b with
    | .tmod, .v i lo hi, .lit n => Nat.blt i 2 && lo == 0 && hi == 255 && n == 8
    | _, _, _ => false
  | .ite c a b => c.only8 && a.only8 && b.only8
  | .sel s i => s.only8 && i.only8
  | .upd s i x => s.only8 && i.only8 && x.only8
  | .sh s o => s.only8 && o.only8
  | .blit d o n s => d.only8 && o.only8 && n.only8 && s.only8
  | .eqr n a b => n.only8 && a.only8 && b.only8
structure Eq8 (E E' : Env) : Prop where
  F : E.F = E'.F
  x : ∀ i, 2 ≤ i → E.x i = E'.x i
  m : ∀ i, i < 2 → (clamp 0 255 (E.x i).n).tmod 8 = (clamp 0 255 (E'.x i).n).tmod 8
theorem T.only8_ok {E E' : Env} (h : Eq8 E E') {t : T} (ht : t.only8 = true) : t.den E = t.den E' ∧ t.row E = t.row E' := by
  induction t with
  | lit n => exact ⟨rfl, rfl⟩
  | v i lo hi =>
    simp only [T.only8, Nat.ble_eq] at ht
    exact ⟨by simp only [T.den, h.x i ht], by funext j; simp only [T.row, h.x i ht]⟩
  | un o a ih => simp only [T.only8] at ht; cases o <;> exact ⟨by simp only [T.den, (ih ht).1], by funext j; simp only [T.row, (ih ht).1, (ih ht).2]⟩
  | bin o a b iha ihb =>
    simp only [T.only8, Bool.or_eq_true, Bool.and_eq_true] at ht
    have key : o.den (a.den E) (b.den E) = o.den (a.den E') (b.den E') := by
      rcases ht with ⟨h1, h2⟩ | h1
      · rw [(iha h1).1, (ihb h2).1]
      · split at h1
        · simp only [Bool.and_eq_true, Nat.blt_eq, beq_iff_eq] at h1
          obtain ⟨⟨⟨h1, rfl⟩, rfl⟩, rfl⟩ := h1
          exact h.m _ h1
        · cases h1
    exact ⟨key, by funext j; exact key⟩
  | ite c a b ihc iha ihb =>
    simp only [T.only8, Bool.and_eq_true] at ht
    exact ⟨by simp only [T.den, (ihc ht.1.1).1, (iha ht.1.2).1, (ihb ht.2).1], by funext j; simp only [T.row, (ihc ht.1.1).1, (iha ht.1.2).2, (ihb ht.2).2]⟩
  | sel s i ihs ihi => simp only [T.only8, Bool.and_eq_true] at ht; exact ⟨by simp only [T.den, (ihs ht.1).2, (ihi ht.2).1], by funext j; simp only [T.row, (ihs ht.1).2, (ihi ht.2).1]⟩
  | upd s i x ihs ihi ihx => simp only [T.only8, Bool.and_eq_true] at ht; exact ⟨rfl, by funext j; simp only [T.row, (ihs ht.1.1).2, (ihi ht.1.2).1, (ihx ht.2).1]⟩
  | sh s o ihs iho => simp only [T.only8, Bool.and_eq_true] at ht; exact ⟨rfl, by funext j; simp only [T.row, (ihs ht.1).2, (iho ht.2).1]⟩
  | blit d o n s ihd iho ihn ihs => simp only [T.only8, Bool.and_eq_true] at ht; exact ⟨rfl, by funext j; simp only [T.row, (ihd ht.1.1.1).2, (iho ht.1.1.2).1, (ihn ht.1.2).1, (ihs ht.2).2]⟩
  | eqr n a b ihn iha ihb => simp only [T.only8, Bool.and_eq_true] at ht; exact ⟨by simp only [T.den, (ihn ht.1.1).1, (iha ht.1.2).2, (ihb ht.2).2], by funext j; simp only [T.row, (ihn ht.1.1).1, (iha ht.1.2).2, (ihb ht.2).2]⟩
theorem Eq8.extL {E E' : Env} (h : Eq8 E E') : ∀ {ds : List Df}, ds.all (fun d => Nat.ble 2 d.lo && d.args.all (·.only8)) = true → Eq8 (extL E ds) (extL E' ds) := by
  intro ds
  induction ds with
  | nil => intro _; exact h
  | cons d r ih =>
    intro hd
    simp only [List.all_cons, Bool.and_eq_true, Nat.ble_eq] at hd
    have ih := ih hd.2
    have h2 := hd.1.1
    have ha := hd.1.2
    rw [List.all_eq_true] at ha
    have hme : ∀ t ∈ d.args, T.me (Go.Sy.extL E r) t = T.me (Go.Sy.extL E' r) t := fun t ht => by
      obtain ⟨e1, e2⟩ := T.only8_ok ih (ha t ht)
      unfold T.me; rw [e1, e2]
    cases d with
    | one i t =>
      simp only [Df.lo] at h2
      refine ⟨ih.F, fun j hj => ?_, fun j hj => ?_⟩
      · simp only [Go.Sy.extL, Df.ext, setX, ih.x j hj, hme t List.mem_cons_self]
      · simp only [Go.Sy.extL, Df.ext, setX]
        rw [if_neg (by omega), if_neg (by omega)]; exact ih.m j hj
    | call i g ts cnt =>
      simp only [Df.lo] at h2
      have e : ts.map (T.me (Go.Sy.extL E r)) = ts.map (T.me (Go.Sy.extL E' r)) := List.map_congr_left hme
      refine ⟨ih.F, fun j hj => ?_, fun j hj => ?_⟩
      · simp only [Go.Sy.extL, Df.ext, setX, ih.x j hj, e, ih.F]
      · simp only [Go.Sy.extL, Df.ext, setX]
        rw [if_neg (by omega), if_neg (by omega)]; exact ih.m j hj
def env2 (a b : Int) : Env := ⟨fun i => ⟨match i with | 0 => a | 1 => b | _ => 0, fun _ => 0⟩, Fs.F⟩
def all8 (f : Int → Bool) : Bool := f 0 && f 1 && f 2 && f 3 && f 4 && f 5 && f 6 && f 7
theorem all8_ok {f : Int → Bool} (h : all8 f = true) {a : Int} (h0 : 0 ≤ a) (h1 : a < 8) : f a = true := by
  simp only [all8, Bool.and_eq_true] at h
  obtain ⟨⟨⟨⟨⟨⟨⟨g0, g1⟩, g2⟩, g3⟩, g4⟩, g5⟩, g6⟩, g7⟩ := h
  have : a = 0 ∨ a = 1 ∨ a = 2 ∨ a = 3 ∨ a = 4 ∨ a = 5 ∨ a = 6 ∨ a = 7 := by omega
  rcases this with rfl | rfl | rfl | rfl | rfl | rfl | rfl | rfl <;> assumption
set_option maxRecDepth 100000 in
theorem dead_all : (all8 fun a => all8 fun b => t5.den (extL (env2 a b) d5) == 1) = true := by kernel_rfl
theorem dead_ok8 : (d5.all (fun d => Nat.ble 2 d.lo && d.args.all (·.only8)) && t5.only8) = true := by kernel_rfl
theorem dead_plain (E : Env) (hE : E.F = Fs.F) (hd : ∀ d ∈ d5, d.ok E) : t5.den E = 1 := by
  have h : contig 2 d5 = some 6 := by kernel_rfl
  have hb : t5.bel 6 = true := by kernel_rfl
  have h8 := dead_ok8
  rw [Bool.and_eq_true] at h8
  have c0 : ∀ i, 0 ≤ (clamp 0 255 (E.x i).n).tmod 8 ∧ (clamp 0 255 (E.x i).n).tmod 8 < 8 := fun i => by
    have : 0 ≤ clamp 0 255 (E.x i).n := by unfold clamp; split; omega; split <;> omega
    rw [Int.tmod_eq_emod_of_nonneg this]; omega
  have cc : ∀ a : Int, 0 ≤ a → a < 8 → (clamp 0 255 a).tmod 8 = a := fun a h0 h1 => by
    rw [clamp_id (by omega), Int.tmod_eq_emod_of_nonneg h0]; omega
  have he : Eq8 ⟨fun i => if i < 2 then E.x i else ⟨0, fun _ => 0⟩, Fs.F⟩ (env2 ((clamp 0 255 (E.x 0).n).tmod 8) ((clamp 0 255 (E.x 1).n).tmod 8)) := by
    refine ⟨rfl, fun i hi => ?_, fun i hi => ?_⟩
    · simp only [env2]; rw [if_neg (by omega)]
      match i, hi with
      | i + 2, _ => rfl
    · simp only [env2, if_pos hi]
      have : i = 0 ∨ i = 1 := by omega
      rcases this with rfl | rfl
      · exact (cc _ (c0 0).1 (c0 0).2).symm
      · exact (cc _ (c0 1).1 (c0 1).2).symm
  rw [den_ext (E0 := ⟨fun i => if i < 2 then E.x i else ⟨0, fun _ => 0⟩, Fs.F⟩) h hb hE (fun i hi => by simp only [if_pos hi]) hd, (T.only8_ok (he.extL h8.1) h8.2).1]
  have := all8_ok (all8_ok dead_all (c0 0).1 (c0 0).2) (c0 1).1 (c0 1).2
  exact beq_iff_eq.1 this
end Go.Sy
