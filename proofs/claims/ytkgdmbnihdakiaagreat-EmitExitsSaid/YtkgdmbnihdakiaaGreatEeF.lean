/- Calls of the program, each told by its own run. -/
import Derived.Test.YtkgdmbnihdakiaaGreatEpF
import Derived.Test.YtkgdmbnihdakiaaGreatEeD
namespace Go.RvC
open Go Go.Sy Go.E3
/-- A term of flags alone: letters 9 to 15. -/
def onlyF : T → Bool
  | .lit _ => true
  | .v i lo hi => Nat.ble 9 i && Nat.ble i 15 && lo == 0 && hi == 1
  | .un _ a => onlyF a
  | .bin _ a b => onlyF a && onlyF b
  | _ => false
/-- Flags told by a number. -/
noncomputable def envF (n : Nat) : Env := ⟨fun i => ⟨bif n.testBit (i - 9) then 1 else 0, fun _ => 0⟩, fun _ _ => [], fun _ => .nilIface⟩
theorem onlyF_den {E E' : Env} (h : ∀ i, 9 ≤ i → i ≤ 15 → clamp 0 1 (E.x i).n = clamp 0 1 (E'.x i).n) : ∀ t : T, onlyF t = true → t.den E = t.den E' := by
  intro t
  induction t with
  | lit n => intro _; rfl
  | v i lo hi =>
    intro ht
    simp only [onlyF, Bool.and_eq_true, beq_iff_eq] at ht
    obtain ⟨⟨⟨h1, h2⟩, rfl⟩, rfl⟩ := ht
    exact h i (Nat.le_of_ble_eq_true h1) (Nat.le_of_ble_eq_true h2)
  | un o a ih => intro ht; simp only [T.den, ih ht]
  | bin o a b iha ihb =>
    intro ht
    simp only [onlyF, Bool.and_eq_true] at ht
    simp only [T.den, iha ht.1, ihb ht.2]
  | _ => intro ht; cases ht
def bitF (E : Env) (i : Nat) : Nat := if clamp 0 1 (E.x i).n = 0 then 0 else 1
/-- The number of flags. -/
def numF (E : Env) : Nat := bitF E 9 + 2 * bitF E 10 + 4 * bitF E 11 + 8 * bitF E 12 + 16 * bitF E 13 + 32 * bitF E 14 + 64 * bitF E 15
theorem bitF_lt (E : Env) (i : Nat) : bitF E i < 2 := by unfold bitF; split <;> decide
theorem numF_lt (E : Env) : numF E < 128 := by
  have h9 := bitF_lt E 9; have h10 := bitF_lt E 10; have h11 := bitF_lt E 11; have h12 := bitF_lt E 12; have h13 := bitF_lt E 13; have h14 := bitF_lt E 14; have h15 := bitF_lt E 15
  unfold numF; omega
theorem clamp_bit (n : Int) : clamp 0 1 n = if (if clamp 0 1 n = 0 then 0 else 1 : Nat) = 0 then 0 else 1 := by
  have h : clamp 0 1 n = 0 ∨ clamp 0 1 n = 1 := by
    unfold clamp
    split
    · exact .inl rfl
    · split
      · exact .inr rfl
      · omega
  rcases h with h | h <;> rw [h] <;> rfl
theorem bits_cases : ∀ a b c d e f g : Nat, a < 2 → b < 2 → c < 2 → d < 2 → e < 2 → f < 2 → g < 2 →
    (∀ i, i ≤ 6 → (a + 2 * b + 4 * c + 8 * d + 16 * e + 32 * f + 64 * g).testBit i = ([a, b, c, d, e, f, g].getD i 0 == 1)) := by
  have h : ∀ a : Fin 2, ∀ b : Fin 2, ∀ c : Fin 2, ∀ d : Fin 2, ∀ e : Fin 2, ∀ f : Fin 2, ∀ g : Fin 2, ∀ i : Fin 7, (a.1 + 2 * b.1 + 4 * c.1 + 8 * d.1 + 16 * e.1 + 32 * f.1 + 64 * g.1).testBit i.1 = ([a.1, b.1, c.1, d.1, e.1, f.1, g.1].getD i.1 0 == 1) := by decide +kernel
  intro a b c d e f g ha hb hc hd he hf hg i hi
  exact h ⟨a, ha⟩ ⟨b, hb⟩ ⟨c, hc⟩ ⟨d, hd⟩ ⟨e, he⟩ ⟨f, hf⟩ ⟨g, hg⟩ ⟨i, by omega⟩
theorem envF_ok (E : Env) : ∀ i, 9 ≤ i → i ≤ 15 → clamp 0 1 (E.x i).n = clamp 0 1 ((envF (numF E)).x i).n := by
  intro i h1 h2
  have hb := bits_cases _ _ _ _ _ _ _ (bitF_lt E 9) (bitF_lt E 10) (bitF_lt E 11) (bitF_lt E 12) (bitF_lt E 13) (bitF_lt E 14) (bitF_lt E 15) (i - 9) (by omega)
  have key : ([bitF E 9, bitF E 10, bitF E 11, bitF E 12, bitF E 13, bitF E 14, bitF E 15].getD (i - 9) 0) = bitF E i := by
    have : i = 9 ∨ i = 10 ∨ i = 11 ∨ i = 12 ∨ i = 13 ∨ i = 14 ∨ i = 15 := by omega
    rcases this with rfl | rfl | rfl | rfl | rfl | rfl | rfl <;> rfl
  show _ = clamp 0 1 (bif (numF E).testBit (i - 9) then 1 else 0)
  unfold numF
  rw [hb, key, clamp_bit]
  unfold bitF
  split <;> rfl
/-- A run's flags as they must be, in a world of flags. -/
noncomputable def hasF (n : Nat) (l : Pc) : Bool := l.all fun x => onlyF x.1 && ((x.1.den (envF n) != 0) == x.2)
noncomputable def oneF (n : Nat) (j : Nat) : Bool := (hasF n (flE j true) && onlyF (resF j true) && (resF j true).den (envF n) != 0) || (hasF n (flE j false) && onlyF (resF j false) && (resF j false).den (envF n) != 0)
theorem allF_ok : ((List.range 128).all fun n => (List.range 16).all fun j => oneF n j) = true := by kernel_rfl
theorem hasF_ok {E : Env} {l : Pc} (h : hasF (numF E) l = true) : pcOk E l := by
  intro x hx
  have := List.all_eq_true.1 h x hx
  simp only [Bool.and_eq_true, beq_iff_eq] at this
  show (x.1.den E != 0) = x.2
  rw [onlyF_den (envF_ok E) _ this.1]
  exact this.2
/-- Taken or not: what the flags must be, and what is told of them. -/
theorem flags_ok (E : Env) {j : Nat} (hj : j < 16) : ∃ b, pcOk E (flE j b) ∧ (resF j b).tr E = true := by
  have h := List.all_eq_true.1 (List.all_eq_true.1 allF_ok (numF E) (List.mem_range.2 (numF_lt E))) j (List.mem_range.2 hj)
  simp only [oneF, Bool.or_eq_true, Bool.and_eq_true] at h
  have fin : ∀ b, hasF (numF E) (flE j b) = true → onlyF (resF j b) = true → ((resF j b).den (envF (numF E)) != 0) = true → ∃ b, pcOk E (flE j b) ∧ (resF j b).tr E = true := fun b h1 h2 h3 => ⟨b, hasF_ok h1, by
    show ((resF j b).den E != 0) = true
    rw [onlyF_den (envF_ok E) _ h2]; exact h3⟩
  rcases h with ⟨⟨h1, h2⟩, h3⟩ | ⟨⟨h1, h2⟩, h3⟩
  · exact fin _ h1 h2 h3
  · exact fin _ h1 h2 h3
/-- One of the ways. -/
theorem way_ok {E : Env} {p : T} (h : isW E p) : ∃ q, q < 3 ∧ pcOk E (pcX q p) := by
  rcases pcX_ok h with ⟨a, _⟩ | ⟨a, _⟩ | ⟨a, _⟩
  · exact ⟨0, by decide, a⟩
  · exact ⟨1, by decide, a⟩
  · exact ⟨2, by decide, a⟩
theorem resE_ok {E : Env} {j : Nat} {b : Bool} {q r : Nat} (hf : (resF j b).tr E = true) (hq : pcOk E (pcX q (pC 6))) (hr : pcOk E (pcX r (pV 18 6))) : (resE j b q r).tr E = true := by
  have h1 := resX_ok (wrap_w E _) hq
  have h2 := resX_ok (wrap_w E _) hr
  have and_ok : ∀ t : T, t.tr E = true → (andE t (resF j b)).tr E = true := by
    intro t ht
    unfold andE
    split
    · exact hf
    · show (tb (t.den E != 0 && (resF j b).den E != 0) != 0) = true
      rw [tb_ne, Bool.and_eq_true]; exact ⟨ht, hf⟩
  unfold resE
  cases b
  · exact and_ok _ h1
  · exact and_ok _ h2
end Go.RvC
