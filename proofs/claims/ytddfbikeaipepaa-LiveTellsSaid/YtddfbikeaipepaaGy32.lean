/- Part 32 of a checked reader of Go texts in their model form: it runs a function at terms in the place of numbers, and each part proves that its answers hold of the model. -/
import Derived.Test.YtddfbikeaipepaaGy31
namespace Go.Sy
/-! which way a loop takes, by the truths of a few terms -/
def lookB (t : T) : List (T × Bool) → Option Bool
  | [] => none
  | (u, b) :: r => bif t.beq u then some b else lookB t r
def pcA (α : List (T × Bool)) (pc : Pc) : Bool := pc.all fun p => match lookB p.1 α with
  | some b => b == p.2
  | none => false
def pickA (α : List (T × Bool)) : Nat → List Wy → Option (Nat × Wy)
  | _, [] => none
  | i, w :: r => bif pcA α w.pc then some (i, w) else pickA α (i + 1) r
def inB (bs : List T) (t : T) : Bool := bs.any fun u => t.beq u
/-- Does a way speak of these terms alone, its letters being among those of D? -/
def wyOk (n : Nat) (D : List Df) (bs : List T) (w : Wy) : Bool := match contig n w.ds with
  | some h => listB Df.beq (D.drop (D.length - w.ds.length)) w.ds && (D.take (D.length - w.ds.length)).all (fun d => Nat.ble h d.lo) && w.pc.all fun p => p.1.bel h && inB bs p.1
  | none => false
theorem extL_app_agree [Fs] {E : Env} {r : List Df} {h : Nat} : ∀ {pre : List Df}, pre.all (fun d => Nat.ble h d.lo) = true → Agree (extL E r) (extL E (pre ++ r)) h := by
  intro pre
  induction pre with
  | nil => intro _; exact Agree.refl _ _
  | cons d q ih =>
    intro hp
    simp only [List.all_cons, Bool.and_eq_true, Nat.ble_eq] at hp
    exact (ih hp.2).trans ((ext_agree (extL E (q ++ r)) d).mono hp.1) (Nat.le_refl _)
theorem lookB_in [Fs] {E : Env} {bs : List T} {t : T} (h : inB bs t = true) : lookB t (bs.zip (bs.map (T.tr E))) = some (t.tr E) := by
  induction bs with
  | nil => cases h
  | cons u r ih =>
    simp only [inB, List.any_cons, Bool.or_eq_true] at h
    simp only [List.map_cons, List.zip_cons_cons, lookB]
    cases hb : t.beq u <;> simp only [cond_true, cond_false]
    · rw [hb] at h
      exact ih (by simpa [inB] using h)
    · rw [T.beq_eq hb]
theorem pick_alpha [Fs] {F : Nat → List Arg → List Arg} {args : List Arg} {n : Nat} {D : List Df} {bs : List T} : ∀ {ws : List Wy} {b : Nat}, ws.all (wyOk n D bs) = true → pick F args b ws = pickA (bs.zip (bs.map (T.tr (extL (argE F args) D)))) b ws := by
  intro ws
  induction ws with
  | nil => intro b _; rfl
  | cons w r ih =>
    intro b h
    simp only [List.all_cons, Bool.and_eq_true] at h
    have e : pcB (wayE F args w) w.pc = pcA (bs.zip (bs.map (T.tr (extL (argE F args) D)))) w.pc := by
      have hw := h.1
      unfold wyOk at hw
      split at hw
      · rename_i hh hc
        simp only [Bool.and_eq_true] at hw
        obtain ⟨⟨h1, h2⟩, h3⟩ := hw
        have h1 := listB_eq (fun _ _ => Df.beq_eq) h1
        have ag : Agree (wayE F args w) (extL (argE F args) D) hh := by
          generalize D.length - w.ds.length = k at h1 h2
          have := extL_app_agree (E := argE F args) (r := D.drop k) h2
          rw [List.take_append_drop] at this
          unfold wayE
          rw [← h1]; exact this
        unfold pcB pcA
        rw [List.all_eq_true] at h3
        have : ∀ p ∈ w.pc, (p.1.tr (wayE F args w) == p.2) = (match lookB p.1 (bs.zip (bs.map (T.tr (extL (argE F args) D)))) with | some b => b == p.2 | none => false) := fun p hp => by
          have h4 := h3 p hp
          rw [Bool.and_eq_true] at h4
          rw [lookB_in h4.2]
          show _ = (p.1.tr (extL (argE F args) D) == p.2)
          rw [T.tr, T.tr, T.bel_den ag h4.1]
        revert this
        generalize w.pc = l
        intro this
        induction l with
        | nil => rfl
        | cons p q ih => rw [List.all_cons, List.all_cons, this p List.mem_cons_self, ih fun p hp => this p (List.mem_cons_of_mem _ hp)]
      · cases hw
    simp only [pick, pickA, e, ih h.2]
end Go.Sy
