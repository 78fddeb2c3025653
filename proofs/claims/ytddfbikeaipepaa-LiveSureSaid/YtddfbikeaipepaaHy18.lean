/- Part 18 of a checked reader of Go texts in their model form: it runs a function at terms in the place of numbers, and each part proves that its answers hold of the model. -/
import Derived.Test.YtddfbikeaipepaaHy17
namespace Go.Sy
theorem env_eq [Fs] {E : Env} {x : Nat → Arg} {F : Nat → List Arg → List Arg} (h1 : E.x = x) (h2 : E.F = F) : E = ⟨x, F⟩ := by subst h1; subst h2; rfl
/-! functions told by their own runs -/
theorem T.noF [Fs] (x : Nat → Arg) (F F' : Nat → List Arg → List Arg) (t : T) : t.den ⟨x, F⟩ = t.den ⟨x, F'⟩ ∧ t.row ⟨x, F⟩ = t.row ⟨x, F'⟩ := by
  induction t with
  | un o a ih => cases o <;> exact ⟨by simp only [T.den, ih.1], by funext j; simp only [T.row, ih.1, ih.2]⟩
  | lit n => exact ⟨rfl, rfl⟩
  | v i lo hi => exact ⟨rfl, rfl⟩
  | bin o a b iha ihb => exact ⟨by simp only [T.den, iha.1, ihb.1], by funext j; simp only [T.row, iha.1, ihb.1]⟩
  | ite c a b ihc iha ihb => exact ⟨by simp only [T.den, ihc.1, iha.1, ihb.1], by funext j; simp only [T.row, ihc.1, iha.2, ihb.2]⟩
  | sel s i ihs ihi => exact ⟨by simp only [T.den, ihs.2, ihi.1], by funext j; simp only [T.row, ihs.2, ihi.1]⟩
  | upd s i y ihs ihi ihy => exact ⟨rfl, by funext j; simp only [T.row, ihs.2, ihi.1, ihy.1]⟩
  | sh s o ihs iho => exact ⟨rfl, by funext j; simp only [T.row, ihs.2, iho.1]⟩
  | blit d o n s ihd iho ihn ihs => exact ⟨rfl, by funext j; simp only [T.row, ihd.2, iho.1, ihn.1, ihs.2]⟩
  | eqr n a b ihn iha ihb => exact ⟨by simp only [T.den, ihn.1, iha.2, ihb.2], by funext j; simp only [T.row, ihn.1, iha.2, ihb.2]⟩
theorem T.me_noF [Fs] (x : Nat → Arg) (F F' : Nat → List Arg → List Arg) (t : T) : t.me ⟨x, F⟩ = t.me ⟨x, F'⟩ := by
  unfold T.me; rw [(T.noF x F F' t).1, (T.noF x F F' t).2]
/-- What a card's function tells. -/
structure Fk where
  g : Nat
  n : Nat
  ds : List Df
  ls : List T
def Fk.spec (c : Fk) (F : Nat → List Arg → List Arg) (args : List Arg) : List Arg := c.ls.map (T.me (extL ⟨fun i => args.getD i default, F⟩ c.ds))
/-- Each by those behind it. -/
def mkF : List Fk → Nat → List Arg → List Arg
  | [] => fun _ _ => []
  | c :: r => fun g args => bif Nat.beq g c.g then c.spec (mkF r) args else mkF r g args
/-- One letter behind the other. -/
def contig (n : Nat) : List Df → Option Nat
  | [] => some n
  | d :: r => match contig n r with
    | some h => bif Nat.beq d.lo h && d.args.all (·.bel d.lo) then some d.hi else none
    | none => none
def Df.gs : Df → List Nat
  | .one _ _ => []
  | .call _ g _ _ => [g]
theorem contig_ok [Fs] {E E0 : Env} {n : Nat} (hF : E.F = E0.F) (hx : ∀ i, i < n → E.x i = E0.x i) : ∀ {ds : List Df} {h : Nat}, contig n ds = some h → (∀ d ∈ ds, d.ok E) → Agree (extL E0 ds) E h := by
  intro ds
  induction ds with
  | nil => intro h hc _; cases hc; exact ⟨hF, hx⟩
  | cons d r ih =>
    intro h hc hd
    simp only [contig] at hc
    split at hc
    · rename_i h0 h1
      cases hb : Nat.beq d.lo h0 && d.args.all (·.bel d.lo) <;> simp only [hb, cond_true, cond_false] at hc
      · cases hc
      cases hc
      rw [Bool.and_eq_true] at hb
      have e0 := Nat.eq_of_beq_eq_true hb.1
      have ag := ih h1 fun e he => hd e (List.mem_cons_of_mem _ he)
      have hd0 := hd d List.mem_cons_self
      have hargs := hb.2
      rw [List.all_eq_true] at hargs
      rw [← e0] at ag
      have hFF : (extL E0 r).F = E.F := ag.F.symm
      cases d with
      | one i t =>
        refine ⟨by simp only [extL, Df.ext, setX]; exact ag.F, fun j hj => ?_⟩
        simp only [Df.hi] at hj
        simp only [extL, Df.ext, setX]
        by_cases hji : i ≤ j ∧ j < i + 1
        · rw [if_pos hji, show j = i by omega, ← T.bel_me ag (hargs t List.mem_cons_self)]
          exact hd0
        · rw [if_neg hji]; exact ag.x j (by simp only [Df.lo]; omega)
      | call i g ts cnt =>
        refine ⟨by simp only [extL, Df.ext, setX]; exact ag.F, fun j hj => ?_⟩
        simp only [Df.hi] at hj
        simp only [extL, Df.ext, setX]
        by_cases hji : i ≤ j ∧ j < i + cnt
        · rw [if_pos hji]
          have := hd0 (j - i) (by omega)
          rw [show i + (j - i) = j by omega] at this
          rw [this, hFF]
          congr 2
          congr 1
          exact List.map_congr_left fun t ht => T.bel_me ag (hargs t ht)
        · rw [if_neg hji]; exact ag.x j (by simp only [Df.lo]; omega)
    · cases hc
theorem extL_noF [Fs] {x : Nat → Arg} {F F' : Nat → List Arg → List Arg} : ∀ {ds : List Df}, (∀ d ∈ ds, ∀ g ∈ d.gs, F g = F' g) → (extL ⟨x, F⟩ ds).x = (extL ⟨x, F'⟩ ds).x ∧ (extL ⟨x, F⟩ ds).F = F := by
  intro ds
  induction ds with
  | nil => intro _; exact ⟨rfl, rfl⟩
  | cons d r ih =>
    intro h
    obtain ⟨h1, h2⟩ := ih fun e he => h e (List.mem_cons_of_mem _ he)
    have h3 : (extL ⟨x, F'⟩ r).F = F' := by
      have : ∀ l, (extL ⟨x, F'⟩ l).F = F' := by
        intro l
        induction l with
        | nil => rfl
        | cons d l ih => cases d <;> exact ih
      exact this r
    have hme : ∀ t, T.me (extL ⟨x, F⟩ r) t = T.me (extL ⟨x, F'⟩ r) t := fun t => by
      rw [env_eq h1 h2, T.me_noF _ F F', ← env_eq rfl h3]
    cases d with
    | one i t => exact ⟨by simp only [extL, Df.ext, setX, h1, hme], h2⟩
    | call i g ts cnt =>
      refine ⟨?_, h2⟩
      have hm : ts.map (T.me (extL ⟨x, F⟩ r)) = ts.map (T.me (extL ⟨x, F'⟩ r)) := List.map_congr_left fun t _ => hme t
      simp only [extL, Df.ext, setX, h1, h2, h3, hm, h _ List.mem_cons_self g List.mem_cons_self]
/-- In a table of cards each name stands once; each is told by those behind it. -/
def okF : List Fk → Bool
  | [] => true
  | c :: r => r.all (fun d => !(Nat.beq c.g d.g)) && c.ds.all (fun d => d.gs.all fun g => r.any fun e => Nat.beq g e.g) && (match contig c.n c.ds with | some h => c.ls.all (·.bel h) | none => false) && okF r
theorem mkF_tail [Fs] {l : List Fk} {c : Fk} {g : Nat} (h : (l.any fun e => Nat.beq g e.g) = true) (hn : (l.all fun d => !(Nat.beq c.g d.g)) = true) : mkF (c :: l) g = mkF l g := by
  funext args
  rw [List.any_eq_true] at h
  obtain ⟨e, h1, h2⟩ := h
  rw [List.all_eq_true] at hn
  have := hn e h1
  have hne : Nat.beq g c.g = false := by
    cases hb : Nat.beq g c.g
    · rfl
    · rw [Nat.eq_of_beq_eq_true hb] at h2
      rw [h2] at this; cases this
  simp only [mkF, hne, cond_false]
theorem mkF_mem [Fs] {l1 : List Fk} {c : Fk} {l2 : List Fk} (h : okF (l1 ++ c :: l2) = true) : mkF (l1 ++ c :: l2) c.g = c.spec (mkF l2) ∧ (∀ g, (l2.any fun e => Nat.beq g e.g) = true → mkF (l1 ++ c :: l2) g = mkF l2 g) ∧ okF (c :: l2) = true := by
  induction l1 with
  | nil =>
    refine ⟨by funext args; simp only [List.nil_append, mkF, Nat.beq_refl, cond_true], fun g hg => ?_, h⟩
    simp only [List.nil_append, okF, Bool.and_eq_true] at h
    exact mkF_tail hg h.1.1.1
  | cons d l1 ih =>
    have h' := h
    simp only [List.cons_append, okF, Bool.and_eq_true] at h
    obtain ⟨i1, i2, i3⟩ := ih h.2
    refine ⟨?_, fun g hg => ?_, i3⟩
    · rw [← i1, List.cons_append]
      exact mkF_tail (by rw [List.any_eq_true]; exact ⟨c, by simp, Nat.beq_refl _⟩) h.1.1.1
    · rw [← i2 g hg, List.cons_append]
      refine mkF_tail ?_ h.1.1.1
      rw [List.any_eq_true] at hg ⊢
      obtain ⟨e, e1, e2⟩ := hg
      exact ⟨e, by simp [e1], e2⟩
theorem spec_ok [Fs] {l1 : List Fk} {c : Fk} {l2 : List Fk} (h : okF (l1 ++ c :: l2) = true) {E : Env} (hF : E.F = mkF (l1 ++ c :: l2)) (hd : ∀ d ∈ c.ds, d.ok E) : mkF (l1 ++ c :: l2) c.g (letters E c.n) = c.ls.map (T.me E) := by
  obtain ⟨m1, m2, m3⟩ := mkF_mem h
  rw [m1]
  simp only [okF, Bool.and_eq_true] at m3
  obtain ⟨⟨⟨-, k2⟩, k3⟩, -⟩ := m3
  split at k3
  · rename_i hh hc
    have hx : ∀ i, i < c.n → E.x i = (letters E c.n).getD i default := fun i hi => by
      simp [letters, List.getD_eq_getElem?_getD, hi]
    have ag := contig_ok (E := E) (E0 := ⟨fun i => (letters E c.n).getD i default, E.F⟩) rfl hx hc hd
    unfold Fk.spec
    refine List.map_congr_left fun t ht => ?_
    rw [List.all_eq_true] at k3
    rw [T.bel_me ag (k3 t ht)]
    have hg : ∀ d ∈ c.ds, ∀ g ∈ d.gs, mkF l2 g = E.F g := fun d hd g hg => by
      rw [List.all_eq_true] at k2
      have := k2 d hd
      rw [List.all_eq_true] at this
      rw [hF, m2 g (this g hg)]
    obtain ⟨e1, e2⟩ := extL_noF (x := fun i => (letters E c.n).getD i default) hg
    have h3 : (extL ⟨fun i => (letters E c.n).getD i default, E.F⟩ c.ds).F = E.F := ag.F.symm
    rw [env_eq e1 e2, T.me_noF _ _ E.F, ← env_eq rfl h3]
  · cases k3
end Go.Sy
