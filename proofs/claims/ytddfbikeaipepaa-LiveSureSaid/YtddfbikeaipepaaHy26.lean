/- Part 26 of a checked reader of Go texts in their model form: it runs a function at terms in the place of numbers, and each part proves that its answers hold of the model. -/
import Derived.Test.YtddfbikeaipepaaHy25
namespace Go.Sy
/-! patterns of states -/
def L.isDead : L → Bool
  | .a .dead => true
  | _ => false
def Bk.isDead : Bk → Bool
  | .dead => true
  | _ => false
def Tr.pat (σ : Sg) (n : Nat) : Tr → Tr → Bool
  | .nil, _ => true
  | .nd x l r, .nd y l' r' => (x.isDead || ((x.sub σ id).beq y && x.blk n)) && l.pat σ n l' && r.pat σ n r'
  | .nd _ _ _, .nil => false
theorem Tr.pat_get [Fs] {σ : Sg} {n : Nat} : ∀ {t u : Tr}, t.pat σ n u = true → ∀ (i : Nat) (x : L), t.get i = some x → ∃ y, u.get i = some y ∧ (x = .a .dead ∨ (x.sub σ id = y ∧ x.blk n = true)) := by
  intro t
  induction t with
  | nil => intro u _ i x h; cases h
  | nd z l r ihl ihr =>
    intro u h i x hx
    cases u with
    | nil => cases h
    | nd y l' r' =>
      simp only [Tr.pat, Bool.and_eq_true, Bool.or_eq_true] at h
      simp only [Tr.get] at hx ⊢
      cases h0 : Nat.beq i 0 <;> simp only [h0, cond_true, cond_false] at hx ⊢
      · cases h1 : Nat.beq (Nat.mod i 2) 1 <;> simp only [h1, cond_true, cond_false] at hx ⊢
        · exact ihr h.2 _ x hx
        · exact ihl h.1.2 _ x hx
      · cases hx
        refine ⟨y, rfl, ?_⟩
        rcases h.1.1 with hd | ⟨h1, h2⟩
        · left
          unfold L.isDead at hd
          split at hd
          · rfl
          · cases hd
        · exact .inr ⟨L.beq_eq h1, h2⟩
def bksPat (σ : Sg) (n : Nat) : List Bk → List Bk → Bool
  | [], _ => true
  | b :: r, c :: s => (b.isDead || ((b.sub σ id).beq c && b.blk n)) && bksPat σ n r s
  | _ :: _, [] => false
theorem bksPat_get [Fs] {σ : Sg} {n : Nat} : ∀ {m m' : List Bk}, bksPat σ n m m' = true → ∀ (i : Nat) (b : Bk), m[i]? = some b → ∃ c, m'[i]? = some c ∧ (b = .dead ∨ (b.sub σ id = c ∧ b.blk n = true)) := by
  intro m
  induction m with
  | nil => intro m' _ i b h; simp at h
  | cons x r ih =>
    intro m' h i b hb
    cases m' with
    | nil => cases h
    | cons y s =>
      simp only [bksPat, Bool.and_eq_true, Bool.or_eq_true] at h
      cases i with
      | zero =>
        simp at hb; subst hb
        refine ⟨y, rfl, ?_⟩
        rcases h.1 with hd | ⟨h1, h2⟩
        · left; cases x <;> simp [Bk.isDead] at hd; rfl
        · exact .inr ⟨Bk.beq_eq h1, h2⟩
      | succ i => simp at hb; exact ih h.2 i b hb
section
variable {X : Cx} {E1 E2 : Env} {σ : Sg} {ρ : Nat → Rb} {st' gx : St} {a : Act} {w : World}
theorem rel_pat [Fs] (h : Rel (X.at E2) ρ st' a w) (hs : SubOk E1 E2 σ) (h1 : gx.s.pat σ gx.m.length st'.s = true) (h2 : bksPat σ gx.m.length gx.m st'.m = true) (h0 : X.n0 ≤ gx.m.length) (hpc : pcOk E1 gx.pc) (hds : ∀ d ∈ gx.k.ds, d.ok E1) : Rel (X.at E1) ρ gx a w := by
  have hF : E1.F = Fs.F := hs.F.symm.trans h.F
  have live : ∀ (i : Nat) (b : Bk), gx.m[i]? = some b → b.there E1 → ∃ c, st'.m[i]? = some c ∧ c.there E2 ∧ c.ro = b.ro := fun i b hi hb => by
    obtain ⟨c, g1, g2⟩ := bksPat_get h2 i b hi
    rcases g2 with rfl | ⟨rfl, _⟩
    · exact hb.elim
    · exact ⟨_, g1, (Bk.there_sub hs).2 hb, Bk.ro_sub⟩
  refine ⟨⟨fun i x hx => ?_, hpc, hds, hF⟩, h.dfr, ⟨fun i b hi => ?_, fun i j bi bj hi hj hbi hbj heq => ?_, h0, h.mr.old, fun i b hn hi hro hb => ?_, ⟨h.mr.fr.os, h.mr.fr.tape, h.mr.fr.output, h.mr.fr.size, h.mr.fr.block⟩⟩⟩
  · obtain ⟨y, g1, g2⟩ := Tr.pat_get h1 i x hx
    obtain ⟨v, g3, g4⟩ := h.slots i y g1
    refine ⟨v, g3, ?_⟩
    rcases g2 with rfl | ⟨rfl, g5⟩
    · trivial
    · exact Lr.unsub (β := id) (ρ' := ρ) hs (fun _ _ => rfl) g5 g4
  · obtain ⟨c, g1, g2⟩ := bksPat_get h2 i b hi
    rcases g2 with rfl | ⟨rfl, g5⟩
    · trivial
    · exact Br.unsub (β := id) (ρ' := ρ) hs (fun _ _ => rfl) g5 (h.mr.mem i _ g1)
  · obtain ⟨c, g1, g2, _⟩ := live i bi hi hbi
    obtain ⟨d, g3, g4, _⟩ := live j bj hj hbj
    exact h.mr.inj i j c d g1 g3 g2 g4 heq
  · obtain ⟨c, g1, g2, g3⟩ := live i b hi hb
    exact h.mr.new i c hn g1 (g3.trans hro) g2
theorem rel_sub [Fs] (h : Rel (X.at E1) ρ gx a w) (hs : SubOk E1 E2 σ) {pc : Pc} {k : Kn} (hpc : pcOk E2 pc) (hds : ∀ d ∈ k.ds, d.ok E2) : Rel (X.at E2) ρ ⟨gx.s.sub σ id, gx.m.map (·.sub σ id), pc, k⟩ a w := by
  have hβ : ∀ b, b < gx.m.length → id b < (gx.m.map (·.sub σ id)).length ∧ ρ (id b) = ρ b := fun b hb => ⟨by simpa using hb, rfl⟩
  have get : ∀ {i : Nat} {b : Bk}, (gx.m.map (·.sub σ id))[i]? = some b → ∃ c, gx.m[i]? = some c ∧ b = c.sub σ id := by
    intro i b hi
    rw [List.getElem?_map, Option.map_eq_some_iff] at hi
    obtain ⟨c, h1, h2⟩ := hi
    exact ⟨c, h1, h2.symm⟩
  refine ⟨⟨h.slots.sub hs hβ, hpc, hds, hs.F.trans h.F⟩, h.dfr, ⟨fun i b hi => ?_, fun i j bi bj hi hj hbi hbj heq => ?_, by simpa [Cx.at] using h.mr.len, h.mr.old, fun i b hn hi hro hb => ?_, ⟨h.mr.fr.os, h.mr.fr.tape, h.mr.fr.output, h.mr.fr.size, h.mr.fr.block⟩⟩⟩
  · obtain ⟨c, h1, rfl⟩ := get hi
    exact (h.mr.mem i c h1).sub hs hβ
  · obtain ⟨c, h1, rfl⟩ := get hi
    obtain ⟨d, h2, rfl⟩ := get hj
    exact h.mr.inj i j c d h1 h2 ((Bk.there_sub hs).1 hbi) ((Bk.there_sub hs).1 hbj) heq
  · obtain ⟨c, h1, rfl⟩ := get hi
    exact h.mr.new i c hn h1 (by rw [← Bk.ro_sub (σ := σ) (β := id)]; exact hro) ((Bk.there_sub hs).1 hb)
end
/-- A loop by a number that each round lowers. -/
theorem wp_loopN [Fs] {P : Program} {body : Code} {Q : Exit → Act → World → Prop} (I : Nat → Act → World → Prop)
    (round : ∀ m a w, I m a w → body.wp P (Exit.then (fun a' w' => ∃ m', m' < m ∧ I m' a' w') Q) a w) {m : Nat} {a : Act} {w : World} (h : I m a w) : (Code.loop body).wp P Q a w := by
  have least : ∀ (n : Nat) (a : Act) (w : World), I n a w → ∃ k, I k a w ∧ ∀ j, I j a w → k ≤ j := by
    intro n
    induction n using Nat.strongRecOn with
    | _ n ih =>
      intro a w hI
      by_cases hc : ∃ j, j < n ∧ I j a w
      · obtain ⟨j, hj, hI'⟩ := hc
        exact ih j hj a w hI'
      · exact ⟨n, hI, fun j hj => Nat.le_of_not_lt fun hlt => hc ⟨j, hlt, hj⟩⟩
  have ch : ∃ μ : Act → World → Nat, ∀ a w, (∃ n, I n a w) → I (μ a w) a w ∧ ∀ j, I j a w → μ a w ≤ j := by
    refine ⟨fun a w => @dite _ (∃ n, I n a w) (Classical.propDecidable _) (fun h => Classical.choose (least _ a w (Classical.choose_spec h))) (fun _ => 0), fun a w hx => ?_⟩
    simp only [dif_pos hx]
    exact Classical.choose_spec (least _ a w (Classical.choose_spec hx))
  obtain ⟨μ, hμ⟩ := ch
  refine wp_loop (fun a w => ∃ n, I n a w) μ ⟨m, h⟩ fun a w hI => ?_
  refine Code.wp_mono (fun e a' w' q => ?_) (round _ a w (hμ a w hI).1)
  cases e with
  | normal =>
    obtain ⟨m', h1, h2⟩ := q
    exact ⟨⟨m', h2⟩, Nat.lt_of_le_of_lt ((hμ a' w' ⟨m', h2⟩).2 m' h2) h1⟩
  | _ => exact q
end Go.Sy
