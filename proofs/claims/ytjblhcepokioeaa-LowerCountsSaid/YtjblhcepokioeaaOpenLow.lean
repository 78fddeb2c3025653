/- Functions, each told by its own run; and what follows from what they tell. -/
import Derived.KernelRfl
import Derived.Deep.Slices
import Derived.Test.YtjblhcepokioeaaLowKD
namespace Go.Sy
open Go.ChangeShapes Go.WideShapes Go.Deep
def colsK (i : Nat) : List K → List Col
  | [] => []
  | .i k :: r => ⟨.i k, 1, .v i (kmin k) (kmax k)⟩ :: colsK (i + 1) r
  | .b :: r => ⟨.b, 1, .v i 0 1⟩ :: colsK (i + 1) r
/-! a slice of structs of numbers and truths, opened as rows -/
theorem KOk.at : ∀ {ks : List K} {vs : List Value} {p : Nat} {k : K}, KOk ks vs → ks[p]? = some k → ∃ v, vs[p]? = some v ∧ v = k.val (cellInt v) ∧ match k with
    | .i kk => kmin kk ≤ cellInt v ∧ cellInt v ≤ kmax kk
    | .b => 0 ≤ cellInt v ∧ cellInt v ≤ 1 := by
  intro ks
  induction ks with
  | nil => intro vs p k _ h; simp at h
  | cons k0 ks ih =>
    intro vs p k h hp
    cases vs with
    | nil => cases k0 <;> simp [KOk] at h
    | cons v vs =>
      cases p with
      | zero =>
        simp at hp; subst hp
        cases k0 with
        | i kk =>
          obtain ⟨⟨n, rfl, hw⟩, _⟩ := h
          exact ⟨_, rfl, rfl, int_range hw⟩
        | b =>
          obtain ⟨⟨b, rfl⟩, _⟩ := h
          refine ⟨_, rfl, ?_, tb_range b⟩
          show Value.bool b = Value.bool (tb b != 0)
          rw [tb_ne]
      | succ p =>
        have h2 : KOk ks vs := by cases k0 <;> exact h.2
        obtain ⟨u, h3, h4⟩ := ih h2 (by simpa using hp)
        exact ⟨u, by simpa using h3, h4⟩
theorem colAt_K : ∀ {ks : List K} {i p r : Nat} {c : Col}, colAt (colsK i ks) p = some (c, r) → r = 0 ∧ c.m = 1 ∧ p < ks.length ∧ ∃ k, ks[p]? = some k ∧ c.k = k ∧ c.s = match k with
    | .i kk => .v (i + p) (kmin kk) (kmax kk)
    | .b => .v (i + p) 0 1 := by
  intro ks
  induction ks with
  | nil => intro i p r c h; cases h
  | cons k0 ks ih =>
    intro i p r c h
    have step : ∀ c0 : Col, c0.m = 1 → colAt (c0 :: colsK (i + 1) ks) p = some (c, r) → (p = 0 ∧ c = c0 ∧ r = 0) ∨ ∃ q, p = q + 1 ∧ colAt (colsK (i + 1) ks) q = some (c, r) := fun c0 hm hc => by
      simp only [colAt, hm] at hc
      cases p with
      | zero =>
        left
        rw [show Nat.blt 0 1 = true from rfl, cond_true] at hc
        cases hc; exact ⟨rfl, rfl, rfl⟩
      | succ q =>
        right
        refine ⟨q, rfl, ?_⟩
        have hb : Nat.blt (q + 1) 1 = false := by
          cases hb : Nat.blt (q + 1) 1
          · rfl
          · rw [Nat.blt_eq] at hb; omega
        rw [hb, cond_false, Nat.add_sub_cancel] at hc
        exact hc
    cases k0 with
    | i kk =>
      rcases step ⟨.i kk, 1, .v i (kmin kk) (kmax kk)⟩ rfl h with ⟨rfl, rfl, rfl⟩ | ⟨q, rfl, hq⟩
      · exact ⟨rfl, rfl, by simp, .i kk, rfl, rfl, rfl⟩
      · obtain ⟨h1, h2, h3, k, h4, h5, h6⟩ := ih hq
        refine ⟨h1, h2, by simp; omega, k, by simpa using h4, h5, ?_⟩
        rw [h6]; cases k <;> simp only [show i + 1 + q = i + (q + 1) by omega]
    | b =>
      rcases step ⟨.b, 1, .v i 0 1⟩ rfl h with ⟨rfl, rfl, rfl⟩ | ⟨q, rfl, hq⟩
      · exact ⟨rfl, rfl, by simp, .b, rfl, rfl, rfl⟩
      · obtain ⟨h1, h2, h3, k, h4, h5, h6⟩ := ih hq
        refine ⟨h1, h2, by simp; omega, k, by simpa using h4, h5, ?_⟩
        rw [h6]; cases k <;> simp only [show i + 1 + q = i + (q + 1) by omega]
theorem wid_K : ∀ {ks : List K} {i : Nat}, wid (colsK i ks) = ks.length := by
  intro ks
  induction ks with
  | nil => intro i; rfl
  | cons k ks ih => intro i; cases k <;> simp only [colsK, wid, ih, List.length_cons] <;> omega
theorem cell_at {w : World} {x : Addr} {v : Value} (h : w.cell? x = some v) : ∃ c t fr, w.heap[x.block]? = some (.cells c t fr) ∧ c[x.off]? = some v ∧ x.spot = none := by
  unfold World.cell? at h
  split at h
  · rename_i c t fr hc
    split at h
    · cases h
    · rename_i hs
      exact ⟨c, t, fr, hc, h, by simpa using hs⟩
  · cases h
theorem add_block (a : Addr) (n : Nat) : (a.add n).block = a.block := by unfold Addr.add; split <;> rfl
theorem add_off (a : Addr) (n : Nat) : (a.add n).off = a.off + n := by
  unfold Addr.add; split
  · rename_i h; rw [h]; rfl
  · rfl
section
variable {H : Type} {enc : TypeId × Value → H} {P : Program}
/-- Letter i is the length; those behind it are the columns. -/
theorem open_rows {W : World} {spare : Nat → Bool} {held : Bool} {n : Nat} {t e : TypeId} {ks : List K} {a0 : Option Addr} {l0 c0 : Nat} {d : DataW H} {p : List MemPlace} (ht : P.underlying t = some (.slice e)) (hf : flat P n e = some ks) (hC : P.cellsOf e = ks.length) (hk : 0 < ks.length)
    (h : DataW.Trod enc P W 0 spare held t (.slice a0 l0 c0) d p) : ∃ (f : Nat → Int → Int) (z : Rb), (l0 : Int) ≤ 9223372036854775807 ∧
      ∀ (E : Env) (i : Nat) (ρ : Nat → Rb) (b N ty : Nat), (E.x i).n = l0 → (∀ q j, (E.x (i + 1 + q)).s j = f q j) → ρ b = z → b < N → Nat.beq (Nat.mod ty 2) 1 = true →
        Ar E ρ N (.c (.slr b ks.length (.lit 0) (.v i 0 9223372036854775807))) (.slice a0 l0 c0) ∧ Br E ρ N z (.arr ty (.v i 0 9223372036854775807) (colsK (i + 1) ks)) W.heap[z.g]? := by
  obtain ⟨fuel, hx⟩ := h
  have none_case : l0 = 0 → ∃ (f : Nat → Int → Int) (z : Rb), (l0 : Int) ≤ 9223372036854775807 ∧
      ∀ (E : Env) (i : Nat) (ρ : Nat → Rb) (b N ty : Nat), (E.x i).n = l0 → (∀ q j, (E.x (i + 1 + q)).s j = f q j) → ρ b = z → b < N → Nat.beq (Nat.mod ty 2) 1 = true →
        Ar E ρ N (.c (.slr b ks.length (.lit 0) (.v i 0 9223372036854775807))) (.slice a0 l0 c0) ∧ Br E ρ N z (.arr ty (.v i 0 9223372036854775807) (colsK (i + 1) ks)) W.heap[z.g]? := fun hl => by
    subst hl
    refine ⟨fun _ _ => 0, default, by omega, fun E i ρ b N ty h1 _ _ h4 _ => ?_⟩
    have hn : (T.v i 0 9223372036854775807).den E = 0 := by simp only [T.den, h1]; rfl
    refine ⟨⟨h4, Int.le_refl _, by rw [hn]; omega, a0, c0, by rw [hn]; rfl, by rw [hn]; omega, fun h => by rw [hn] at h; omega⟩, by rw [hn]; omega, fun h => by rw [hn] at h; omega⟩
  rcases open_slice ht hx with ⟨h0, _⟩ | ⟨a, len, cap, m, n', D, Pl, hcs, hb, hl, hm, hmm, _, hi⟩
  · simp only [Value.cells, List.cons.injEq, Value.slice.injEq, and_true] at h0
    exact none_case h0.2.1
  simp only [Value.cells, List.cons.injEq, Value.slice.injEq, and_true] at hcs
  obtain ⟨rfl, rfl, rfl⟩ := hcs
  by_cases h0 : l0 = 0
  · exact none_case h0
  have hle : l0 ≤ m := by rw [hmm]; split <;> omega
  have cells : ∀ j q, j < l0 → q < ks.length → ∃ (k : K) (v : Value), ks[q]? = some k ∧ W.cell? ((a.add (j * ks.length)).add q) = some v ∧ v = k.val (cellInt v) ∧ match k with
      | .i kk => kmin kk ≤ cellInt v ∧ cellInt v ≤ kmax kk
      | .b => 0 ≤ cellInt v ∧ cellInt v ≤ 1 := fun j q hj hq => by
    obtain ⟨cs', g1, g2⟩ := hi j (by omega)
    rw [hC] at g1
    obtain ⟨_, _, g3⟩ := World.cells?_some g1
    have g4 := (trod_flat hf _ _ _ g2).2
    obtain ⟨v, v1, v2, v3⟩ := KOk.at g4 (List.getElem?_eq_getElem hq)
    exact ⟨ks[q], v, List.getElem?_eq_getElem hq, (g3 q hq).trans v1, v2, v3⟩
  obtain ⟨_, v0, _, hv0, _⟩ := cells 0 0 (by omega) hk
  obtain ⟨c, tt, fr, hheap, _, hspot⟩ := cell_at hv0
  rw [Nat.zero_mul] at hheap hspot
  have e0 : (a.add 0).add 0 = a := by simp [Addr.add]
  rw [e0] at hheap hspot
  have cell : ∀ j q, j < l0 → q < ks.length → ∃ (k : K) (v : Value), ks[q]? = some k ∧ c[a.off + (j * ks.length + q)]? = some v ∧ v = k.val (cellInt v) ∧ match k with
      | .i kk => kmin kk ≤ cellInt v ∧ cellInt v ≤ kmax kk
      | .b => 0 ≤ cellInt v ∧ cellInt v ≤ 1 := fun j q hj hq => by
    obtain ⟨k, v, g1, g2, g3⟩ := cells j q hj hq
    obtain ⟨c', tt', fr', g4, g5, _⟩ := cell_at g2
    rw [add_block, add_block, hheap] at g4
    cases g4
    rw [add_off, add_off, Nat.add_assoc] at g5
    exact ⟨k, v, g1, g5, g3⟩
  have hmax : (l0 : Int) ≤ 9223372036854775807 := by
    have : maxLen ≤ 9223372036854775807 := by decide
    omega
  refine ⟨fun q j => cellInt ((c[a.off + (j.toNat * ks.length + q)]?).getD (.bool false)), ⟨a.block, c.size, a.off⟩, hmax, fun E i ρ b N ty h1 h2 h3 h4 h5 => ?_⟩
  have hn : (T.v i 0 9223372036854775807).den E = l0 := by simp only [T.den, h1]; exact clamp_id ⟨by omega, hmax⟩
  refine ⟨⟨h4, Int.le_refl _, by rw [hn]; omega, some a, c0, by rw [hn]; rfl, by rw [hn]; exact hl, fun _ => ?_⟩, by rw [hn]; omega, fun _ => ⟨c, tt, fr, hheap, fun h => absurd h (by rw [h5]; decide), rfl, ?_, ?_⟩⟩
  · rw [h3]
    simp only [T.den, Int.toNat_zero, Nat.zero_mul, Nat.add_zero]
    rw [← hspot]
  · rw [wid_K, hn, Int.toNat_natCast]
    obtain ⟨L, rfl⟩ : ∃ L, l0 = L + 1 := ⟨l0 - 1, by omega⟩
    obtain ⟨_, v, _, g2, _⟩ := cell L (ks.length - 1) (by omega) (by omega)
    have := (Array.getElem?_eq_some_iff.1 g2).1
    rw [Nat.succ_mul]
    show a.off + _ ≤ _
    omega
  · intro j q r col hj hcol
    obtain ⟨rfl, hm1, hq, k, hk1, hk2, hk3⟩ := colAt_K hcol
    rw [hn] at hj
    obtain ⟨k', v, g1, g2, g3, g4⟩ := cell j q (by omega) hq
    rw [hk1] at g1; cases g1
    rw [wid_K]
    have hlt := (Array.getElem?_eq_some_iff.1 g2).1
    rw [Array.getElem?_extract, if_pos (by show _ < min c.size c.size - a.off; omega)]
    show c[a.off + (j * ks.length + q)]? = _
    rw [g2, hk2, hm1, hk3, Nat.mul_one]
    have hrow : ∀ lo hi : Int, lo ≤ cellInt v ∧ cellInt v ≤ hi → (T.v (i + 1 + q) lo hi).row E ((j : Nat) : Int) = cellInt v := fun lo hi hr => by
      simp only [T.row, h2, Int.toNat_natCast, g2, Option.getD_some]
      exact clamp_id hr
    cases k with
    | i kk => exact congrArg some (g3.trans (congrArg (K.val (.i kk)) (hrow _ _ g4).symm))
    | b => exact congrArg some (g3.trans (congrArg (K.val .b) (hrow _ _ g4).symm))
end
/-- A struct of numbers and truths, its letters one behind the other. -/
theorem symE_ok {E : Env} {ρ : Nat → Rb} {n : Nat} : ∀ {ks : List K} {vs : List Value} {i : Nat}, KOk ks vs → (∀ j v, vs[j]? = some v → (E.x (i + j)).n = cellInt v) → F2L (Cr E ρ n) (symK i ks) vs := by
  intro ks
  induction ks with
  | nil => intro vs i h _; cases vs <;> simp [KOk] at h; trivial
  | cons k ks ih =>
    intro vs i h hx
    cases vs with
    | nil => cases k <;> simp [KOk] at h
    | cons v vs =>
      have h0 := hx 0 v rfl
      have hr : ∀ j u, vs[j]? = some u → (E.x (i + 1 + j)).n = cellInt u := fun j u hj => by
        rw [show i + 1 + j = i + (j + 1) by omega]; exact hx (j + 1) u (by simpa using hj)
      cases k with
      | i k =>
        obtain ⟨⟨m, rfl, hw⟩, h2⟩ := h
        refine ⟨?_, ih h2 hr⟩
        show Value.int k m = Value.int k (clamp (kmin k) (kmax k) (E.x i).n)
        have e : (E.x i).n = m := h0
        rw [e, clamp_id (int_range hw)]
      | b =>
        obtain ⟨⟨m, rfl⟩, h2⟩ := h
        refine ⟨?_, ih h2 hr⟩
        show Value.bool m = Value.bool (clamp 0 1 (E.x i).n != 0)
        have e : (E.x i).n = tb m := h0
        rw [e, clamp_id (tb_range m), tb_ne]
section
variable {H : Type} {enc : TypeId × Value → H} {P : Program}
/-- A slice of bytes: its length a term of any kind, letter i its bytes. -/
theorem open_bytes {W : World} {spare : Nat → Bool} {held : Bool} {n : Nat} {t e : TypeId} {a0 : Option Addr} {l0 c0 : Nat} {d : DataW H} {p : List MemPlace} (ht : P.underlying t = some (.slice e)) (hf : flat P n e = some [.i .u8]) (hC : P.cellsOf e = 1)
    (h : DataW.Trod enc P W 0 spare held t (.slice a0 l0 c0) d p) : ∃ (f : Int → Int) (z : Rb), (l0 : Int) ≤ 9223372036854775807 ∧
      ∀ (E : Env) (i : Nat) (k : T) (ρ : Nat → Rb) (b N ty : Nat), k.den E = l0 → (∀ j, (E.x i).s j = f j) → ρ b = z → b < N → Nat.beq (Nat.mod ty 2) 1 = true →
        Ar E ρ N (.c (.slr b 1 (.lit 0) k)) (.slice a0 l0 c0) ∧ Br E ρ N z (.arr ty k [⟨.i .u8, 1, .v i 0 255⟩]) W.heap[z.g]? := by
  obtain ⟨f, z, hmax, hall⟩ := open_rows ht hf hC (by decide) h
  refine ⟨f 0, z, hmax, fun E i k ρ b N ty h1 h2 h3 h4 h5 => ?_⟩
  obtain ⟨E', hE'⟩ : ∃ E' : Env, E' = ⟨fun j => match j with | 0 => ⟨l0, fun _ => 0⟩ | q + 1 => ⟨0, f q⟩, E.F⟩ := ⟨_, rfl⟩
  obtain ⟨hA, hB⟩ := hall E' 0 ρ b N ty (by rw [hE']) (fun q j => by rw [hE', show 0 + 1 + q = q + 1 by omega]) h3 h4 h5
  have hk : (T.v 0 0 9223372036854775807).den E' = k.den E := by
    rw [h1, hE']
    show clamp 0 9223372036854775807 (l0 : Int) = l0
    exact clamp_id ⟨by omega, hmax⟩
  have hs : ∀ j, (E'.x 1).s j = (E.x i).s j := fun j => by rw [h2, hE']
  constructor
  · simp only [Ar, Cr] at hA ⊢
    rw [hk] at hA
    exact hA
  · simp only [Br, colsK, wid] at hB ⊢
    rw [hk] at hB
    refine ⟨hB.1, fun h0 => ?_⟩
    obtain ⟨cs, t', fr, g1, g2, g3, g4, g5⟩ := hB.2 h0
    refine ⟨cs, t', fr, g1, g2, g3, g4, fun j p r c hj hc => ?_⟩
    cases p with
    | succ p => exact absurd hc (by simp only [colAt]; rw [show Nat.blt (p + 1) 1 = false by cases hb : Nat.blt (p + 1) 1 <;> first | rfl | (rw [Nat.blt_eq] at hb; omega)]; simp)
    | zero =>
      have hc' : colAt [⟨.i .u8, 1, .v 1 0 255⟩] 0 = some (⟨.i .u8, 1, .v 1 0 255⟩, 0) := rfl
      have hc2 : colAt [(⟨.i .u8, 1, .v i 0 255⟩ : Col)] 0 = some (⟨.i .u8, 1, .v i 0 255⟩, 0) := rfl
      rw [hc2] at hc; cases hc
      have := g5 j 0 0 _ hj hc'
      simp only [T.row, hs] at this ⊢
      exact this
end
end Go.Sy
