/- Part 4 of a checked reader of Go texts in their model form: it runs a function at terms in the place of numbers, and each part proves that its answers hold of the model. -/
import Derived.Test.YtpjmhngcdbpmpaaLy3
namespace Go.Sy

section F2
variable {α : Type} {r r' : α → Value → Prop} {xs : List α} {vs : Array Value}
theorem F2.get (h : F2 r xs vs) {i : Nat} {x : α} (hx : xs[i]? = some x) : ∃ v, vs[i]? = some v ∧ r x v := h.2 i x hx
theorem F2.toP (h : F2 r xs vs) : F2p r xs vs := ⟨Nat.le_of_eq h.1.symm, h.2⟩
theorem F2p.mono (h : F2p r xs vs) (hr : ∀ x v, r x v → r' x v) : F2p r' xs vs :=
  ⟨h.1, fun i x hx => let ⟨v, h1, h2⟩ := h.2 i x hx; ⟨v, h1, hr _ _ h2⟩⟩
theorem F2p.set (h : F2p r xs vs) (i : Nat) {x : α} {v : Value} (hr : r x v) : F2p r (xs.set i x) (vs.setIfInBounds i v) := by
  refine ⟨by simpa using h.1, fun j y hy => ?_⟩
  rw [List.getElem?_set] at hy
  split at hy
  · rename_i hij
    subst hij
    split at hy
    · cases hy
      rename_i hlt
      have h2 : i < vs.size := Nat.lt_of_lt_of_le hlt h.1
      exact ⟨v, by rw [Array.getElem?_setIfInBounds, if_pos rfl, if_pos h2], hr⟩
    · cases hy
  · rename_i hij
    obtain ⟨u, h1, h2⟩ := h.2 j y hy
    exact ⟨u, by rw [Array.getElem?_setIfInBounds, if_neg hij]; exact h1, h2⟩
theorem F2p.extract (h : F2p r xs vs) {o n : Nat} (hle : o + n ≤ xs.length) : F2 r ((xs.drop o).take n) (vs.extract o (o + n)) := by
  have := h.1
  refine ⟨by simp; omega, fun i x hx => ?_⟩
  rw [List.getElem?_take] at hx
  split at hx
  · rename_i hlt
    rw [List.getElem?_drop] at hx
    obtain ⟨v, h1, h2⟩ := h.2 _ _ hx
    refine ⟨v, ?_, h2⟩
    rw [Array.getElem?_extract, if_pos (by omega)]
    exact h1
  · cases hx
theorem F2p.extract' (h : F2p r xs vs) {o n : Nat} (hl : ((xs.drop o).take n).length = n) : F2 r ((xs.drop o).take n) (vs.extract o (o + n)) := by
  by_cases hn : n = 0
  · subst hn
    refine ⟨by simp; omega, fun i x hx => ?_⟩
    simp at hx
  · refine h.extract ?_
    simp at hl; omega
theorem F2p.map {β : Type} {r2 : β → Value → Prop} (f : α → β) (h : F2p r xs vs) (hr : ∀ x v, r x v → r2 (f x) v) : F2p r2 (xs.map f) vs := by
  refine ⟨by simpa using h.1, fun i y hy => ?_⟩
  rw [List.getElem?_map, Option.map_eq_some_iff] at hy
  obtain ⟨x, hx, rfl⟩ := hy
  obtain ⟨v, h1, h2⟩ := h.2 i x hx
  exact ⟨v, h1, hr _ _ h2⟩
theorem F2p.splice {ys : List α} {us : Array Value} (h : F2p r xs vs) (hy : F2 r ys us) {o : Nat} (hle : o + ys.length ≤ xs.length) : F2p r (xs.take o ++ ys ++ xs.drop (o + ys.length)) ((vs.toList.take o).toArray ++ us ++ (vs.toList.drop (o + ys.length)).toArray) := by
  have h1 := h.1
  have h2 := hy.1
  refine ⟨by simp; omega, fun i x hx => ?_⟩
  by_cases ha : i < o
  · rw [List.getElem?_append_left (by simp; omega), List.getElem?_append_left (by simp; omega), List.getElem?_take, if_pos ha] at hx
    obtain ⟨v, h3, h4⟩ := h.2 i x hx
    refine ⟨v, ?_, h4⟩
    rw [Array.getElem?_append, if_pos (by simp; omega), Array.getElem?_append, if_pos (by simp; omega)]
    simp [ha]; simpa using h3
  · by_cases hb : i < o + ys.length
    · rw [List.getElem?_append_left (by simp; omega), List.getElem?_append_right (by simp; omega)] at hx
      have e : i - (xs.take o).length = i - o := by simp; omega
      rw [e] at hx
      obtain ⟨v, h3, h4⟩ := hy.2 _ x hx
      refine ⟨v, ?_, h4⟩
      rw [Array.getElem?_append, if_pos (by simp; omega), Array.getElem?_append, if_neg (by simp; omega)]
      have e : i - (vs.toList.take o).toArray.size = i - o := by simp; omega
      rw [e]; exact h3
    · rw [List.getElem?_append_right (by simp; omega), List.getElem?_drop] at hx
      rw [show o + ys.length + (i - (xs.take o ++ ys).length) = i by simp; omega] at hx
      obtain ⟨v, h3, h4⟩ := h.2 i x hx
      refine ⟨v, ?_, h4⟩
      rw [Array.getElem?_append, if_neg (by simp; omega)]
      simp only [List.getElem?_toArray, List.getElem?_drop]
      rw [show o + ys.length + (i - ((vs.toList.take o).toArray ++ us).size) = i by simp; omega]
      simpa using h3
theorem F2.mono (h : F2 r xs vs) (hr : ∀ x v, r x v → r' x v) : F2 r' xs vs :=
  ⟨h.1, fun i x hx => let ⟨v, h1, h2⟩ := h.2 i x hx; ⟨v, h1, hr _ _ h2⟩⟩
theorem F2.set (h : F2 r xs vs) (i : Nat) {x : α} {v : Value} (hr : r x v) : F2 r (xs.set i x) (vs.setIfInBounds i v) := by
  refine ⟨by simp [h.1], fun j y hy => ?_⟩
  by_cases hij : i = j
  · subst hij
    rw [List.getElem?_set] at hy
    simp only [if_true] at hy
    split at hy
    · cases hy
      exact ⟨v, by rw [Array.getElem?_setIfInBounds]; simp [h.1]; assumption, hr⟩
    · cases hy
  · rw [List.getElem?_set_ne hij] at hy
    obtain ⟨v', h1, h2⟩ := h.2 j y hy
    exact ⟨v', by rw [Array.getElem?_setIfInBounds_ne hij]; exact h1, h2⟩
theorem F2.nil : F2 r [] #[] := ⟨rfl, fun i x hx => by simp at hx⟩
theorem F2.of_list {ys : List Value} (hl : ys.length = xs.length) (h : ∀ (i : Nat) (x : α), xs[i]? = some x → ∃ v, ys[i]? = some v ∧ r x v) : F2 r xs ys.toArray :=
  ⟨by simpa using hl, fun i x hx => by simpa using h i x hx⟩
theorem F2.append {ys : List α} {us : Array Value} (h : F2 r xs vs) (k : F2 r ys us) : F2 r (xs ++ ys) (vs ++ us) := by
  refine ⟨by simp [h.1, k.1], fun i x hx => ?_⟩
  rw [List.getElem?_append] at hx
  rw [Array.getElem?_append]
  split at hx
  · rename_i hi; rw [if_pos (by rw [h.1]; exact hi)]; exact h.2 _ _ hx
  · rename_i hi; rw [if_neg (by rw [h.1]; exact hi), h.1]; exact k.2 _ _ hx
theorem F2.take (h : F2 r xs vs) (n : Nat) : F2 r (xs.take n) (vs.toList.take n).toArray := by
  refine F2.of_list (by simp [h.1]) fun i x hx => ?_
  rw [List.getElem?_take] at hx ⊢
  split at hx
  · rename_i hi; obtain ⟨v, h1, h2⟩ := h.2 _ _ hx; exact ⟨v, by simp [hi]; exact h1, h2⟩
  · cases hx
theorem F2.drop (h : F2 r xs vs) (n : Nat) : F2 r (xs.drop n) (vs.toList.drop n).toArray := by
  refine F2.of_list (by simp [h.1]) fun i x hx => ?_
  rw [List.getElem?_drop] at hx ⊢
  obtain ⟨v, h1, h2⟩ := h.2 _ _ hx; exact ⟨v, by simp; exact h1, h2⟩
theorem F2.extract (h : F2 r xs vs) (o n : Nat) : F2 r ((xs.drop o).take n) (vs.extract o (o + n)) := by
  have := (h.drop o).take n
  have e : ((vs.toList.drop o).toArray.toList.take n).toArray = vs.extract o (o + n) := by
    apply Array.ext'
    simp [Array.toList_extract, List.extract_eq_take_drop]
  rwa [e] at this
theorem F2.all {p : Value → Bool} (h : F2 r xs vs) (hp : ∀ x v, r x v → p v = true) : ∀ v ∈ vs, p v = true := by
  intro v hv
  obtain ⟨i, hi, rfl⟩ := Array.mem_iff_getElem.1 hv
  have hl : i < xs.length := by rw [← h.1]; exact hi
  obtain ⟨v', h1, h2⟩ := h.2 i xs[i] (List.getElem?_eq_getElem hl)
  rw [Array.getElem?_eq_getElem hi] at h1
  cases h1
  exact hp _ _ h2
theorem F2.map {β : Type} {r2 : β → Value → Prop} (f : α → β) (h : F2 r xs vs) (hr : ∀ x v, r x v → r2 (f x) v) : F2 r2 (xs.map f) vs := by
  refine ⟨by simp [h.1], fun i y hy => ?_⟩
  rw [List.getElem?_map] at hy
  cases hx : xs[i]? with
  | none => simp [hx] at hy
  | some x =>
    simp [hx] at hy
    obtain ⟨v, h1, h2⟩ := h.2 i x hx
    exact ⟨v, h1, hy ▸ hr _ _ h2⟩
theorem F2.replicate (n : Nat) {x : α} {v : Value} (h : r x v) : F2 r (List.replicate n x) (Array.replicate n v) := by
  refine ⟨by simp, fun i y hy => ?_⟩
  rw [List.getElem?_replicate] at hy
  split at hy
  · rename_i hi; cases hy; exact ⟨v, by simp [hi], h⟩
  · cases hy
end F2

section S2
theorem nbeq_f {i j : Nat} (h : i ≠ j) : Nat.beq i j = false := by
  cases e : Nat.beq i j
  · rfl
  · exact absurd (Nat.eq_of_beq_eq_true e) h
theorem Tr.get_nd (x : L) (l r : Tr) (i : Nat) : (Tr.nd x l r).get i = if i = 0 then some x else if i % 2 = 1 then l.get (i / 2) else r.get (i / 2 - 1) := by
  show (bif Nat.beq i 0 then _ else bif Nat.beq (i % 2) 1 then _ else _) = _
  by_cases h0 : i = 0
  · subst h0; rfl
  · have : Nat.beq i 0 = false := nbeq_f h0
    simp only [this, cond_false, if_neg h0]
    by_cases h1 : i % 2 = 1
    · have : Nat.beq (i % 2) 1 = true := by rw [h1]; rfl
      simp only [this, cond_true, if_pos h1]; rfl
    · have : Nat.beq (i % 2) 1 = false := nbeq_f h1
      simp only [this, cond_false, if_neg h1]; rfl
theorem Tr.set_nd (x : L) (l r : Tr) (i : Nat) (y : L) : (Tr.nd x l r).set i y = if i = 0 then .nd y l r else if i % 2 = 1 then .nd x (l.set (i / 2) y) r else .nd x l (r.set (i / 2 - 1) y) := by
  show (bif Nat.beq i 0 then _ else bif Nat.beq (i % 2) 1 then _ else _) = _
  by_cases h0 : i = 0
  · subst h0; rfl
  · have : Nat.beq i 0 = false := nbeq_f h0
    simp only [this, cond_false, if_neg h0]
    by_cases h1 : i % 2 = 1
    · have : Nat.beq (i % 2) 1 = true := by rw [h1]; rfl
      simp only [this, cond_true, if_pos h1]; rfl
    · have : Nat.beq (i % 2) 1 = false := nbeq_f h1
      simp only [this, cond_false, if_neg h1]; rfl
theorem Tr.get_set (t : Tr) : ∀ (i j : Nat) (y : L), (t.set i y).get j = if i = j then (t.get j).map (fun _ => y) else t.get j := by
  induction t with
  | nil => intro i j y; simp [Tr.set, Tr.get]
  | nd x l r ihl ihr =>
    intro i j y
    rw [Tr.set_nd, Tr.get_nd]
    by_cases hi : i = 0
    · subst hi
      rw [if_pos rfl, Tr.get_nd]
      by_cases hj : j = 0
      · subst hj; simp
      · have h0j : ¬ (0 : Nat) = j := fun h => hj h.symm
        simp only [if_neg hj, if_neg h0j]
    · rw [if_neg hi]
      by_cases hio : i % 2 = 1
      · rw [if_pos hio, Tr.get_nd, ihl]
        by_cases hj : j = 0
        · rw [if_pos hj, if_neg (by omega), if_pos hj]
        · rw [if_neg hj, if_neg hj]
          by_cases hjo : j % 2 = 1
          · rw [if_pos hjo, if_pos hjo]
            by_cases hij : i = j
            · rw [if_pos hij, if_pos (by omega)]
            · rw [if_neg hij, if_neg (by omega)]
          · rw [if_neg hjo, if_neg (by intro h; subst h; exact hjo hio), if_neg hjo]
      · rw [if_neg hio, Tr.get_nd, ihr]
        by_cases hj : j = 0
        · rw [if_pos hj, if_neg (by omega), if_pos hj]
        · rw [if_neg hj, if_neg hj]
          by_cases hjo : j % 2 = 1
          · rw [if_pos hjo, if_pos hjo, if_neg (by intro h; subst h; exact hio hjo)]
          · rw [if_neg hjo, if_neg hjo]
            by_cases hij : i = j
            · rw [if_pos hij, if_pos (by omega)]
            · rw [if_neg hij, if_neg (by omega)]
theorem Tr.get_rep : ∀ (f n i : Nat) (x : L), (Tr.rep f n).get i = some x → x = .a .dead ∧ i < n := by
  intro f
  induction f with
  | zero => intro n i x h; simp [Tr.rep, Tr.get] at h
  | succ f ih =>
    intro n i x h
    have e : Tr.rep (f + 1) n = bif Nat.beq n 0 then .nil else .nd (.a .dead) (Tr.rep f (n / 2)) (Tr.rep f ((n - 1) / 2)) := rfl
    rw [e] at h
    cases hn : Nat.beq n 0
    · have h0 : n ≠ 0 := by intro h'; subst h'; cases hn
      rw [hn, cond_false, Tr.get_nd] at h
      split at h
      · cases h; exact ⟨rfl, by omega⟩
      · split at h
        · obtain ⟨h1, h2⟩ := ih _ _ _ h; exact ⟨h1, by omega⟩
        · obtain ⟨h1, h2⟩ := ih _ _ _ h; exact ⟨h1, by omega⟩
    · rw [hn, cond_true] at h; simp [Tr.get] at h
theorem Tr.any_get {p : L → Bool} : ∀ {t : Tr} {i : Nat} {x : L}, t.any p = false → t.get i = some x → p x = false := by
  intro t
  induction t with
  | nil => intro i x _ h; simp [Tr.get] at h
  | nd y l r ihl ihr =>
    intro i x ha h
    simp only [Tr.any, Bool.or_eq_false_iff] at ha
    rw [Tr.get_nd] at h
    split at h
    · cases h; exact ha.1.1
    · split at h
      · exact ihl ha.1.2 h
      · exact ihr ha.2 h
variable {r r' : L → Value → Prop} {t : Tr} {vs : Array Value}
theorem S2.mono (h : S2 r t vs) (hr : ∀ x v, r x v → r' x v) : S2 r' t vs := fun i x hx => let ⟨v, h1, h2⟩ := h i x hx; ⟨v, h1, hr _ _ h2⟩
theorem S2.set (h : S2 r t vs) (i : Nat) {x : L} {v : Value} (hr : r x v) : S2 r (t.set i x) (vs.setIfInBounds i v) := by
  intro j y hy
  rw [Tr.get_set] at hy
  split at hy
  · rename_i hij
    subst hij
    rw [Option.map_eq_some_iff] at hy
    obtain ⟨z, h1, rfl⟩ := hy
    obtain ⟨u, h2, _⟩ := h i z h1
    have hlt : i < vs.size := (Array.getElem?_eq_some_iff.1 h2).1
    exact ⟨v, by rw [Array.getElem?_setIfInBounds]; simp [hlt], hr⟩
  · rename_i hij
    obtain ⟨v', h1, h2⟩ := h j y hy
    exact ⟨v', by rw [Array.getElem?_setIfInBounds_ne hij]; exact h1, h2⟩
theorem S2.fill {E : Env} {ρ : Nat → Rb} {n : Nat} : ∀ {xs : List L} {t : Tr} {k : Nat}, S2 (Lr E ρ n) t vs → (∀ (i : Nat) (x : L), xs[i]? = some x → ∃ v, vs[k + i]? = some v ∧ Lr E ρ n x v) → S2 (Lr E ρ n) (t.fill k xs) vs := by
  intro xs
  induction xs with
  | nil => intro t k h _; exact h
  | cons x xs ih =>
    intro t k h ha
    have e : t.fill k (x :: xs) = (t.set k x).fill (k + 1) xs := rfl
    rw [e]
    obtain ⟨v, h1, h2⟩ := ha 0 x rfl
    refine ih (fun j y hy => ?_) (fun i y hy => ?_)
    · rw [Tr.get_set] at hy
      split at hy
      · rename_i hij
        subst hij
        rw [Option.map_eq_some_iff] at hy
        obtain ⟨_, _, rfl⟩ := hy
        exact ⟨v, by simpa using h1, h2⟩
      · exact h j y hy
    · obtain ⟨v, h1, h2⟩ := ha (i + 1) y (by simpa using hy)
      exact ⟨v, by rw [show k + 1 + i = k + (i + 1) by omega]; exact h1, h2⟩
/-- The slots of a call. -/
def ini (xs : List L) (k : Nat) : Tr := (Tr.rep 12 k).fill 0 xs
theorem ini_ok {E : Env} {ρ : Nat → Rb} {n : Nat} {xs : List L} {args : Array Value} (h : F2 (Lr E ρ n) xs args) (k : Nat) : S2 (Lr E ρ n) (ini xs k) (args ++ Array.replicate (k - args.size) undef) := by
  refine S2.fill (fun i x hx => ?_) (fun i x hx => ?_)
  · obtain ⟨rfl, hlt⟩ := Tr.get_rep _ _ _ _ hx
    have : i < (args ++ Array.replicate (k - args.size) undef).size := by simp; omega
    exact ⟨_, Array.getElem?_eq_getElem this, trivial⟩
  · obtain ⟨v, h1, h2⟩ := h.2 i x hx
    have hlt : i < args.size := (Array.getElem?_eq_some_iff.1 h1).1
    exact ⟨v, by rw [Nat.zero_add, Array.getElem?_append_left hlt]; exact h1, h2⟩
end S2

section mono
variable {E : Env} {ρ ρ' : Nat → Rb} {n n' : Nat}
theorem Cr.mono (hρ : ∀ i, i < n → ρ' i = ρ i) (hn : n ≤ n') {x : C} {v : Value} (h : Cr E ρ n x v) : Cr E ρ' n' x v := by
  cases x <;> simp only [Cr] at h ⊢ <;> try exact h
  case ptr b o => exact ⟨Nat.lt_of_lt_of_le h.1 hn, by rw [hρ _ h.1]; exact h.2⟩
  case pti => exact ⟨Nat.lt_of_lt_of_le h.1 hn, h.2.1, h.2.2.1, by rw [hρ _ h.1]; exact h.2.2.2⟩
  case pta => exact ⟨Nat.lt_of_lt_of_le h.1 hn, h.2.1, h.2.2.1, by rw [hρ _ h.1]; exact h.2.2.2⟩
  case slc => obtain ⟨h1, cap, h2, h3⟩ := h; exact ⟨Nat.lt_of_lt_of_le h1 hn, cap, by rw [hρ _ h1]; exact h2, h3⟩
  case slr => obtain ⟨h1, h2⟩ := h; exact ⟨Nat.lt_of_lt_of_le h1 hn, by rw [hρ _ h1]; exact h2⟩
  case sln => obtain ⟨h1, h2⟩ := h; exact ⟨Nat.lt_of_lt_of_le h1 hn, by rw [hρ _ h1]; exact h2⟩
  case sle => obtain ⟨h1, h2⟩ := h; exact ⟨Nat.lt_of_lt_of_le h1 hn, by rw [hρ _ h1]; exact h2⟩
  case clo f caps =>
    refine ⟨fun p hp => Nat.lt_of_lt_of_le (h.1 p hp) hn, h.2.trans ?_⟩
    congr 2
    exact List.map_congr_left fun p hp => by rw [hρ _ (h.1 p hp)]
theorem Ar.mono (hρ : ∀ i, i < n → ρ' i = ρ i) (hn : n ≤ n') {x : A} {v : Value} (h : Ar E ρ n x v) : Ar E ρ' n' x v := by
  cases x with
  | c x => exact Cr.mono hρ hn h
  | agg xs => obtain ⟨cs, h1, h2⟩ := h; exact ⟨cs, h1, h2.mono fun _ _ => Cr.mono hρ hn⟩
  | rows cols => exact h
  | dead => trivial
theorem Lr.mono (hρ : ∀ i, i < n → ρ' i = ρ i) (hn : n ≤ n') {x : L} {v : Value} (h : Lr E ρ n x v) : Lr E ρ' n' x v := by
  cases x with
  | a x => exact Ar.mono hρ hn h
  | tup xs => obtain ⟨cs, h1, h2⟩ := h; exact ⟨cs, h1, h2.mono fun _ _ => Ar.mono hρ hn⟩
  | gd c x => exact ⟨fun hc => Ar.mono hρ hn (h.1 hc), h.2⟩
theorem Br.mono (hρ : ∀ i, i < n → ρ' i = ρ i) (hn : n ≤ n') {z : Rb} {x : Bk} {o : Option Obj} (h : Br E ρ n z x o) : Br E ρ' n' z x o := by
  cases x with
  | cells ty xs => obtain ⟨cs, h1, hz, h2⟩ := h; exact ⟨cs, h1, hz, h2.mono fun _ _ => Cr.mono hρ hn⟩
  | arr ty k cols => exact h
  | dead => trivial
end mono

section memory
variable {X : Cx} {ρ : Nat → Rb} {m : List Bk} {w : World}
def upd (ρ : Nat → Rb) (i : Nat) (k : Rb) : Nat → Rb := fun j => bif j == i then k else ρ j
theorem upd_same (ρ : Nat → Rb) (i : Nat) (k : Rb) : upd ρ i k i = k := by simp [upd]
theorem upd_ne (ρ : Nat → Rb) {i j : Nat} (k : Rb) (h : j ≠ i) : upd ρ i k j = ρ j := by
  simp only [upd, show (j == i) = false from beq_eq_false_iff_ne.2 h, cond_false]

/-- A block that is there lies in the world. -/
theorem Br.lt {E : Env} {n : Nat} {z : Rb} {b : Bk} {g : Nat} (h : Br E ρ n z b w.heap[g]?) (hb : b.there E) : g < w.heap.size := by
  cases b with
  | dead => exact hb.elim
  | cells ty xs =>
    obtain ⟨cs, h1, _⟩ := h
    exact (Array.getElem?_eq_some_iff.1 h1).1
  | arr ty k cols =>
    obtain ⟨_, h⟩ := h
    obtain ⟨cs, _, _, h1, _⟩ := h hb
    exact (Array.getElem?_eq_some_iff.1 h1).1
/-- A block that isn't there asks nothing of the world. -/
theorem Br.same {E : Env} {n : Nat} {z : Rb} {b : Bk} {o o' : Option Obj} (h : Br E ρ n z b o) (ho : b.there E → o' = o) : Br E ρ n z b o' := by
  cases b with
  | dead => trivial
  | cells ty xs => rw [ho trivial]; exact h
  | arr ty k cols => exact ⟨h.1, fun hk => by rw [ho hk]; exact h.2 hk⟩
theorem MemR.live_lt (h : MemR X ρ m w) {i : Nat} {b : Bk} (hi : m[i]? = some b) (hb : b.there X.E) : (ρ i).g < w.heap.size := (h.mem i b hi).lt hb

theorem ro_of {ty : Nat} (h : Nat.beq (Nat.mod ty 2) 0 = true) : Nat.beq (Nat.mod ty 2) 1 = false := by
  rw [Nat.eq_of_beq_eq_true h]; rfl
theorem ro_two (t : Nat) : Nat.beq (Nat.mod (Nat.mul 2 t) 2) 1 = false := by
  have : 2 * t % 2 = 0 := by omega
  show Nat.beq (2 * t % 2) 1 = false
  rw [this]; rfl
theorem tyw (t : Nat) : Nat.div (Nat.mul 2 t) 2 = t := by show 2 * t / 2 = t; omega
/-- A new block, behind the others. -/
theorem MemR.allocB (h : MemR X ρ m w) {b : Bk} {ty : TypeId} {cs : Array Value} (hx : ∀ ρ' n o, m.length ≤ n → (∀ i, i < m.length → ρ' i = ρ i) → o = some (.cells cs ty (0, 0)) → Br X.E ρ' n ⟨w.heap.size, cs.size, 0⟩ b o) :
    MemR X (upd ρ m.length ⟨w.heap.size, cs.size, 0⟩) (m ++ [b]) (w.alloc (.cells cs ty (0, 0))) := by
  have hρ : ∀ i, i < m.length → upd ρ m.length ⟨w.heap.size, cs.size, 0⟩ i = ρ i := fun i hi => upd_ne ρ _ (Nat.ne_of_lt hi)
  have hlen : (m ++ [b]).length = m.length + 1 := by simp
  have hsz : (w.alloc (.cells cs ty (0, 0))).heap.size = w.heap.size + 1 := by
    show (w.heap.push _).size = _; simp
  have split : ∀ (i : Nat) (c : Bk), (m ++ [b])[i]? = some c → (i < m.length ∧ m[i]? = some c) ∨ (i = m.length ∧ c = b) := by
    intro i c hi
    rw [List.getElem?_append] at hi
    split at hi
    · rename_i hl; exact .inl ⟨hl, hi⟩
    · rename_i hl
      right
      have hlt := (List.getElem?_eq_some_iff.1 hi).1
      simp at hlt
      have : i = m.length := by omega
      subst this
      simp at hi
      exact ⟨rfl, hi.symm⟩
  have hf := h.fr
  have hl0 := h.len
  refine ⟨fun i c hi => ?_, fun i j bi bj hi hj hbi hbj heq => ?_, by omega, fun i hi => ?_, fun i c hn hi hro hb => ?_, ?_⟩
  · rw [hlen]
    rcases split i c hi with ⟨hl, hi'⟩ | ⟨rfl, rfl⟩
    · rw [hρ i hl]
      have hb := h.mem i c hi'
      refine Br.mono hρ (Nat.le_succ _) (hb.same fun ht => ?_)
      exact heap_alloc_old w _ (hb.lt ht)
    · rw [upd_same, heap_alloc_new]
      exact hx _ _ _ (Nat.le_succ _) hρ rfl
  · rcases split i bi hi with ⟨hl, hi'⟩ | ⟨rfl, rfl⟩ <;> rcases split j bj hj with ⟨hl', hj'⟩ | ⟨rfl, rfl⟩
    · rw [hρ i hl, hρ j hl'] at heq
      exact h.inj i j bi bj hi' hj' hbi hbj heq
    · rw [hρ i hl, upd_same] at heq
      have := h.live_lt hi' hbi
      simp only at heq; omega
    · rw [hρ j hl', upd_same] at heq
      have := h.live_lt hj' hbj
      simp only at heq; omega
    · rfl
  · rw [hρ i (by omega)]; exact h.old i hi
  · rcases split i c hi with ⟨hl, hi'⟩ | ⟨rfl, rfl⟩
    · rw [hρ i hl]; exact h.new i c hn hi' hro hb
    · rw [upd_same]; exact .inl hf.size
  · exact ⟨hf.os, hf.tape, hf.output, by rw [hsz]; have := hf.size; omega, fun k hk hn => by rw [heap_alloc_old w _ (Nat.lt_of_lt_of_le hk hf.size)]; exact hf.block k hk hn⟩
theorem MemR.alloc (h : MemR X ρ m w) {ty : TypeId} {xs : List C} {cs : Array Value} (hx : F2 (Cr X.E ρ m.length) xs cs) :
    MemR X (upd ρ m.length ⟨w.heap.size, cs.size, 0⟩) (m ++ [.cells (Nat.mul 2 ty) xs]) (w.alloc (.cells cs ty (0, 0))) :=
  h.allocB fun _ _ _ hn hρ ho => ⟨cs, by rw [tyw]; exact ho, rfl, hx.toP.mono fun _ _ => Cr.mono hρ hn⟩

/-- A block's cells turn. -/
theorem MemR.setB (h : MemR X ρ m w) {i : Nat} {b b' : Bk} {ty : TypeId} {old cs : Array Value} (hi : m[i]? = some b) (hb : b.there X.E) (hro : b.ro = false) (hro' : b'.ro = false) (ho : w.heap[(ρ i).g]? = some (.cells old ty (0, 0)))
    (hb' : b'.there X.E) (hy : ∀ o, o = some (.cells cs ty (0, 0)) → Br X.E ρ m.length (ρ i) b' o) :
    MemR X ρ (m.set i b') (w.setRow (ρ i).g cs) := by
  have hlt := h.live_lt hi hb
  have il : i < m.length := (List.getElem?_eq_some_iff.1 hi).1
  have hf := h.fr
  have split : ∀ (j : Nat) (c : Bk), (m.set i b')[j]? = some c → (j = i ∧ c = b') ∨ (j ≠ i ∧ m[j]? = some c) := by
    intro j c hj
    by_cases hij : i = j
    · subst hij
      simp [il] at hj
      exact .inl ⟨rfl, hj.symm⟩
    · rw [List.getElem?_set_ne hij] at hj
      exact .inr ⟨fun e => hij e.symm, hj⟩
  have live : ∀ (j : Nat) (c : Bk), (m.set i b')[j]? = some c → c.there X.E → ∃ c', m[j]? = some c' ∧ c'.there X.E := by
    intro j c hj hc
    rcases split j c hj with ⟨rfl, rfl⟩ | ⟨_, hj'⟩
    · exact ⟨_, hi, hb⟩
    · exact ⟨_, hj', hc⟩
  refine ⟨fun j c hj => ?_, fun j k bj bk hj hk hbj hbk heq => ?_, by simpa using h.len, h.old, fun j c hn hj hr hc => ?_, ?_⟩
  · rw [List.length_set]
    rcases split j c hj with ⟨rfl, rfl⟩ | ⟨hne, hj'⟩
    · exact hy _ (setRow_heap w _ old cs ty (0, 0) ho)
    · refine (h.mem j c hj').same fun ht => ?_
      exact setRow_other w _ _ _ (fun e => hne (h.inj j i _ _ hj' hi ht hb e))
  · obtain ⟨b1, h1, h2⟩ := live j bj hj hbj
    obtain ⟨b3, h3, h4⟩ := live k bk hk hbk
    exact h.inj j k b1 b3 h1 h3 h2 h4 heq
  · rcases split j c hj with ⟨rfl, rfl⟩ | ⟨_, hj'⟩
    · exact h.new _ _ hn hi hro hb
    · exact h.new j c hn hj' hr hc
  · refine ⟨hf.os, hf.tape, hf.output, by rw [setRow_size]; exact hf.size, fun k hk hn => ?_⟩
    rw [setRow_other, hf.block k hk hn]
    intro e
    by_cases hin : i < X.n0
    · exact hn i hin (by rw [← h.old i hin]; exact e.symm)
    · rcases h.new i _ (by omega) hi hro hb with h1 | ⟨j, h1, h2⟩
      · omega
      · exact hn j h1 (by rw [← h2]; exact e.symm)
theorem MemR.set (h : MemR X ρ m w) {i : Nat} {ty : TypeId} {xs ys : List C} {cs : Array Value} (hi : m[i]? = some (.cells ty xs)) (hro : (Bk.cells ty xs).ro = false) (hy : F2p (Cr X.E ρ m.length) ys cs) (hz : cs.size = (ρ i).z) :
    MemR X ρ (m.set i (.cells ty ys)) (w.setRow (ρ i).g cs) := by
  obtain ⟨old, ho, hoz, hox⟩ := h.mem i _ hi
  exact h.setB hi trivial hro hro ho trivial fun o ho => ⟨cs, ho, hz, hy⟩
end memory

end Go.Sy
namespace Go.Sy

/-! more letters: what names none of them stays -/
structure Agree (E E' : Env) (n : Nat) : Prop where
  F : E'.F = E.F
  x : ∀ i, i < n → E'.x i = E.x i
theorem Agree.refl [Fs] (E : Env) (n : Nat) : Agree E E n := ⟨rfl, fun _ _ => rfl⟩
theorem Agree.trans [Fs] {E E' E2 : Env} {n m : Nat} (h : Agree E E' n) (h2 : Agree E' E2 m) (hm : n ≤ m) : Agree E E2 n :=
  ⟨h2.F.trans h.F, fun i hi => (h2.x i (Nat.lt_of_lt_of_le hi hm)).trans (h.x i hi)⟩
theorem Agree.mono [Fs] {E E' : Env} {n m : Nat} (h : Agree E E' m) (hm : n ≤ m) : Agree E E' n := ⟨h.F, fun i hi => h.x i (Nat.lt_of_lt_of_le hi hm)⟩

def T.bel (n : Nat) : T → Bool
  | .lit _ => true
  | .v i _ _ => Nat.blt i n
  | .un _ a => a.bel n
  | .bin _ a b => a.bel n && b.bel n
  | .ite c a b => c.bel n && a.bel n && b.bel n
  | .sel s i => s.bel n && i.bel n
  | .upd s i x => s.bel n && i.bel n && x.bel n
  | .sh s o => s.bel n && o.bel n
  | .blit d o k s => d.bel n && o.bel n && k.bel n && s.bel n
  | .eqr k a b => k.bel n && a.bel n && b.bel n
section
variable {E E' : Env} {n : Nat}
theorem T.bel_both [Fs] (h : Agree E E' n) (t : T) (hb : t.bel n = true) : t.den E' = t.den E ∧ t.row E' = t.row E := by
  induction t with
  | lit k => exact ⟨rfl, rfl⟩
  | v i lo hi =>
    simp only [T.bel, Nat.blt_eq] at hb
    have := h.x i hb
    exact ⟨by simp only [T.den, this], by funext j; simp only [T.row, this]⟩
  | un o a ih =>
    have ih := ih hb
    refine ⟨by simp only [T.den, ih.1], ?_⟩
    funext j
    cases o <;> simp only [T.row, ih.1, ih.2]
  | bin o a b iha ihb =>
    simp only [T.bel, Bool.and_eq_true] at hb
    have iha := iha hb.1
    have ihb := ihb hb.2
    exact ⟨by simp only [T.den, iha.1, ihb.1], by funext j; simp only [T.row, iha.1, ihb.1]⟩
  | ite c a b ihc iha ihb =>
    simp only [T.bel, Bool.and_eq_true] at hb
    have ihc := ihc hb.1.1
    have iha := iha hb.1.2
    have ihb := ihb hb.2
    exact ⟨by simp only [T.den, ihc.1, iha.1, ihb.1], by funext j; simp only [T.row, ihc.1, iha.2, ihb.2]⟩
  | sel s i ihs ihi =>
    simp only [T.bel, Bool.and_eq_true] at hb
    have ihs := ihs hb.1
    have ihi := ihi hb.2
    exact ⟨by simp only [T.den, ihs.2, ihi.1], by funext j; simp only [T.row, ihs.2, ihi.1]⟩
  | upd s i x ihs ihi ihx =>
    simp only [T.bel, Bool.and_eq_true] at hb
    have ihs := ihs hb.1.1
    have ihi := ihi hb.1.2
    have ihx := ihx hb.2
    exact ⟨rfl, by funext j; simp only [T.row, ihs.2, ihi.1, ihx.1]⟩
  | sh s o ihs iho =>
    simp only [T.bel, Bool.and_eq_true] at hb
    have ihs := ihs hb.1
    have iho := iho hb.2
    exact ⟨rfl, by funext j; simp only [T.row, ihs.2, iho.1]⟩
  | blit d o k s ihd iho ihk ihs =>
    simp only [T.bel, Bool.and_eq_true] at hb
    have ihd := ihd hb.1.1.1
    have iho := iho hb.1.1.2
    have ihk := ihk hb.1.2
    have ihs := ihs hb.2
    exact ⟨rfl, by funext j; simp only [T.row, ihd.2, iho.1, ihk.1, ihs.2]⟩
  | eqr k a b ihk iha ihb =>
    simp only [T.bel, Bool.and_eq_true] at hb
    have ihk := ihk hb.1.1
    have iha := iha hb.1.2
    have ihb := ihb hb.2
    exact ⟨by simp only [T.den, ihk.1, iha.2, ihb.2], by funext j; simp only [T.row, ihk.1, iha.2, ihb.2]⟩
theorem T.bel_den [Fs] (h : Agree E E' n) {t : T} (hb : t.bel n = true) : t.den E' = t.den E := (t.bel_both h hb).1
theorem T.bel_row [Fs] (h : Agree E E' n) {t : T} (hb : t.bel n = true) : t.row E' = t.row E := (t.bel_both h hb).2
theorem T.bel_tr [Fs] (h : Agree E E' n) {t : T} (hb : t.bel n = true) : t.tr E' = t.tr E := by simp only [T.tr, T.bel_den h hb]
theorem T.bel_me [Fs] (h : Agree E E' n) {t : T} (hb : t.bel n = true) : t.me E' = t.me E := by simp only [T.me, T.bel_den h hb, T.bel_row h hb]

def Col.bel (n : Nat) (c : Col) : Bool := c.s.bel n
def C.bel (n : Nat) : C → Bool
  | .int _ t | .bool t => t.bel n
  | .pti _ _ ix _ _ => ix.bel n
  | .str k s => k.bel n && s.bel n
  | .slr _ _ o k => o.bel n && k.bel n
  | .sln _ _ k => k.bel n
  | .pta _ _ i _ r => i.bel n && r.bel n
  | .ifc _ _ cs => cs.all (·.bel n)
  | _ => true
def A.bel (n : Nat) : A → Bool
  | .c x => x.bel n
  | .agg xs => xs.all (·.bel n)
  | .rows cols => cols.all (·.bel n)
  | .dead => true
def L.bel (n : Nat) : L → Bool
  | .a x => x.bel n
  | .tup xs => xs.all (·.bel n)
  | .gd c x => c.bel n && x.bel n
def Tr.bel (n : Nat) : Tr → Bool
  | .nil => true
  | .nd x l r => x.bel n && l.bel n && r.bel n
def Bk.bel (n : Nat) : Bk → Bool
  | .cells _ xs => xs.all (·.bel n)
  | .arr _ k cols => k.bel n && cols.all (·.bel n)
  | .dead => true
def pcBel (n : Nat) (pc : Pc) : Bool := pc.all (·.1.bel n)
def Df.bel (n : Nat) : Df → Bool
  | .one i t => Nat.blt i n && t.bel n
  | .call i _ args cnt => Nat.ble (i + cnt) n && args.all (·.bel n)

theorem ifV_agree [Fs] (h : Agree E E' n) {t : TypeId} {g : Bool} {cs : List Col} (hb : cs.all (·.bel n) = true) : ifV E' t g cs = ifV E t g cs := by
  rw [List.all_eq_true] at hb
  unfold ifV
  congr 1
  cases g
  · cases cs with
    | nil => rfl
    | cons c r => simp only [cond_false]; rw [T.bel_den h (hb c List.mem_cons_self)]
  · simp only [cond_true]
    congr 2
    exact List.map_congr_left fun c hc => by rw [T.bel_den h (hb c hc)]
variable {ρ : Nat → Rb} {N : Nat}
theorem Cr.agree [Fs] (h : Agree E E' n) {x : C} {v : Value} (hb : x.bel n = true) (hr : Cr E ρ N x v) : Cr E' ρ N x v := by
  cases x <;> simp only [Cr] at hr ⊢ <;> (try exact hr) <;> simp only [C.bel, Bool.and_eq_true] at hb
  case int => rw [T.bel_den h hb]; exact hr
  case bool => rw [T.bel_tr h hb]; exact hr
  case pti => rw [T.bel_den h hb]; exact hr
  case str => rw [T.bel_den h hb.1, T.bel_row h hb.2]; exact hr
  case slr => rw [T.bel_den h hb.1, T.bel_den h hb.2]; exact hr
  case sln => rw [T.bel_den h hb]; exact hr
  case pta => rw [T.bel_den h hb.1, T.bel_den h hb.2]; exact hr
  case ifc => rw [ifV_agree h hb]; exact hr
theorem F2p.agree [Fs] (h : Agree E E' n) {xs : List C} {vs : Array Value} (hb : xs.all (·.bel n) = true) (hr : F2p (Cr E ρ N) xs vs) : F2p (Cr E' ρ N) xs vs :=
  ⟨hr.1, fun i x hx => let ⟨v, h1, h2⟩ := hr.2 i x hx; ⟨v, h1, h2.agree h (by rw [List.all_eq_true] at hb; exact hb x (List.mem_of_getElem? hx))⟩⟩
theorem F2.agree [Fs] (h : Agree E E' n) {xs : List C} {vs : Array Value} (hb : xs.all (·.bel n) = true) (hr : F2 (Cr E ρ N) xs vs) : F2 (Cr E' ρ N) xs vs :=
  ⟨hr.1, fun i x hx => let ⟨v, h1, h2⟩ := hr.2 i x hx; ⟨v, h1, h2.agree h (by rw [List.all_eq_true] at hb; exact hb x (List.mem_of_getElem? hx))⟩⟩
theorem colAt_in [Fs] : ∀ {cols : List Col} {p r : Nat} {c : Col}, colAt cols p = some (c, r) → c ∈ cols := by
  intro cols
  induction cols with
  | nil => intro p r c h; cases h
  | cons d l ih =>
    intro p r c h
    simp only [colAt] at h
    cases hb : Nat.blt p d.m <;> simp only [hb, cond_true, cond_false] at h
    · exact List.mem_cons_of_mem _ (ih h)
    · cases h; exact List.mem_cons_self
theorem Cells.agree [Fs] (h : Agree E E' n) {k : Int} {cols : List Col} {cs : Array Value} (hb : cols.all (·.bel n) = true) (hr : Cells E k cols cs) : Cells E' k cols cs := by
  intro i p r c hi hc
  rw [hr i p r c hi hc]
  rw [List.all_eq_true] at hb
  rw [T.bel_row h (hb c (colAt_in hc))]
theorem Ar.agree [Fs] (h : Agree E E' n) {x : A} {v : Value} (hb : x.bel n = true) (hr : Ar E ρ N x v) : Ar E' ρ N x v := by
  cases x with
  | c x => exact Cr.agree h hb hr
  | agg xs => obtain ⟨cs, h1, h2⟩ := hr; exact ⟨cs, h1, h2.agree h hb⟩
  | rows cols => obtain ⟨cs, h1, h2, h3⟩ := hr; exact ⟨cs, h1, h2, h3.agree h hb⟩
  | dead => trivial
theorem F2A.agree [Fs] (h : Agree E E' n) {xs : List A} {vs : Array Value} (hb : xs.all (·.bel n) = true) (hr : F2 (Ar E ρ N) xs vs) : F2 (Ar E' ρ N) xs vs :=
  ⟨hr.1, fun i x hx => let ⟨v, h1, h2⟩ := hr.2 i x hx; ⟨v, h1, h2.agree h (by rw [List.all_eq_true] at hb; exact hb x (List.mem_of_getElem? hx))⟩⟩
theorem Lr.agree [Fs] (h : Agree E E' n) {x : L} {v : Value} (hb : x.bel n = true) (hr : Lr E ρ N x v) : Lr E' ρ N x v := by
  cases x with
  | a x => exact Ar.agree h hb hr
  | tup xs => obtain ⟨cs, h1, h2⟩ := hr; exact ⟨cs, h1, F2A.agree h hb h2⟩
  | gd c x =>
    simp only [L.bel, Bool.and_eq_true] at hb
    simp only [Lr, T.bel_tr h hb.1]
    exact ⟨fun hc => (hr.1 hc).agree h hb.2, hr.2⟩
theorem Tr.bel_get [Fs] : ∀ {t : Tr} {i : Nat} {x : L}, t.bel n = true → t.get i = some x → x.bel n = true := by
  intro t
  induction t with
  | nil => intro i x _ h; simp [Tr.get] at h
  | nd y l r ihl ihr =>
    intro i x hb h
    simp only [Tr.bel, Bool.and_eq_true] at hb
    rw [Tr.get_nd] at h
    split at h
    · cases h; exact hb.1.1
    · split at h
      · exact ihl hb.1.2 h
      · exact ihr hb.2 h
theorem S2.agree [Fs] (h : Agree E E' n) {t : Tr} {vs : Array Value} (hb : t.bel n = true) (hr : S2 (Lr E ρ N) t vs) : S2 (Lr E' ρ N) t vs :=
  fun i x hx => let ⟨v, h1, h2⟩ := hr i x hx; ⟨v, h1, h2.agree h (Tr.bel_get hb hx)⟩
theorem Br.agree [Fs] (h : Agree E E' n) {z : Rb} {b : Bk} {o : Option Obj} (hb : b.bel n = true) (hr : Br E ρ N z b o) : Br E' ρ N z b o := by
  cases b with
  | cells ty xs => obtain ⟨cs, h1, hz, h2⟩ := hr; exact ⟨cs, h1, hz, F2p.agree h hb h2⟩
  | arr ty k cols =>
    simp only [Bk.bel, Bool.and_eq_true] at hb
    simp only [Br, T.bel_den h hb.1]
    refine ⟨hr.1, fun hk => ?_⟩
    obtain ⟨cs, t, fr, h1, hro, h2, h3, h5⟩ := hr.2 hk
    refine ⟨cs, t, fr, h1, hro, h2, h3, fun i p r c hi hc => ?_⟩
    rw [h5 i p r c hi hc]
    have hm : c ∈ cols := by
      clear h5 h3 hb hr
      induction cols generalizing p with
      | nil => simp [colAt] at hc
      | cons d l ih =>
        simp only [colAt] at hc
        cases hp : Nat.blt p d.m <;> simp only [hp, cond_true, cond_false] at hc
        · exact List.mem_cons_of_mem _ (ih _ hc)
        · cases hc; exact List.mem_cons_self
    have hcb := hb.2
    rw [List.all_eq_true] at hcb
    rw [T.bel_row h (hcb c hm)]
  | dead => trivial
theorem Bk.there_agree [Fs] (h : Agree E E' n) {b : Bk} (hb : b.bel n = true) : b.there E' ↔ b.there E := by
  cases b with
  | cells => exact Iff.rfl
  | dead => exact Iff.rfl
  | arr ty k cols =>
    simp only [Bk.bel, Bool.and_eq_true] at hb
    simp only [Bk.there, T.bel_den h hb.1]
theorem pcOk_agree [Fs] (h : Agree E E' n) {pc : Pc} (hb : pcBel n pc = true) (hp : pcOk E pc) : pcOk E' pc := by
  intro p hp'
  rw [pcBel, List.all_eq_true] at hb
  rw [T.bel_tr h (hb p hp')]; exact hp p hp'
theorem Df.ok_agree [Fs] (h : Agree E E' n) {d : Df} (hb : d.bel n = true) (hd : d.ok E) : d.ok E' := by
  cases d with
  | one i t =>
    simp only [Df.bel, Bool.and_eq_true, Nat.blt_eq] at hb
    simp only [Df.ok, h.x i hb.1, T.bel_me h hb.2]; exact hd
  | call i g args cnt =>
    simp only [Df.bel, Bool.and_eq_true, Nat.ble_eq] at hb
    intro k hk
    rw [h.x (i + k) (by omega), h.F, hd k hk]
    congr 3
    refine List.map_congr_left fun t ht => ?_
    have := hb.2
    rw [List.all_eq_true] at this
    exact (T.bel_me h (this t ht)).symm
theorem MemR.agree [Fs] {X : Cx} {m : List Bk} {w : World} (h : Agree X.E E' n) (hb : m.all (·.bel n) = true) (hm : MemR X ρ m w) : MemR { X with E := E' } ρ m w := by
  rw [List.all_eq_true] at hb
  have th : ∀ {i : Nat} {b : Bk}, m[i]? = some b → (b.there E' ↔ b.there X.E) := fun hi => Bk.there_agree h (hb _ (List.mem_of_getElem? hi))
  refine ⟨fun i b hi => (hm.mem i b hi).agree h (hb b (List.mem_of_getElem? hi)), fun i j bi bj hi hj h1 h2 => hm.inj i j bi bj hi hj ((th hi).1 h1) ((th hj).1 h2), hm.len, hm.old, fun i b hn hi hr ht => hm.new i b hn hi hr ((th hi).1 ht), ⟨hm.fr.os, hm.fr.tape, hm.fr.output, hm.fr.size, hm.fr.block⟩⟩
/-- A whole state. -/
def St.bel (st : St) : Bool := st.s.bel st.k.nv && st.m.all (·.bel st.k.nv) && pcBel st.k.nv st.pc && st.k.ds.all (·.bel st.k.nv)
theorem Rel.agree [Fs] {X : Cx} {st : St} {a : Act} {w : World} (hb : st.bel = true) (h : Agree X.E E' st.k.nv) (hr : Rel X ρ st a w) : Rel { X with E := E' } ρ st a w := by
  simp only [St.bel, Bool.and_eq_true] at hb
  obtain ⟨⟨⟨h1, h2⟩, h3⟩, h4⟩ := hb
  rw [List.all_eq_true] at h4
  exact ⟨⟨hr.slots.agree h h1, pcOk_agree h h3 hr.pc, fun d hd => Df.ok_agree h (h4 d hd) (hr.ds d hd), h.F.trans hr.F⟩, hr.dfr, hr.mr.agree h h2⟩
end
end Go.Sy
