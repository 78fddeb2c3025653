/- Calls of the program, each told by its own run. -/
import Derived.Test.YtbnkhcjmbdcghaaGreatWyZd4
import Derived.ChangeArms
import Derived.ChangeSame
import Derived.WideShapes
import Derived.OpenShut
namespace Go.Sy
open Go.ChangeShapes Go.WideShapes

/-! values of whole numbers and truths alone -/
def KOk : List K → List Value → Prop
  | [], [] => True
  | .i k :: ks, v :: vs => (∃ n, v = .int k n ∧ (Lit.int k n).wf = true) ∧ KOk ks vs
  | .b :: ks, v :: vs => (∃ b, v = .bool b) ∧ KOk ks vs
  | _, _ => False
theorem KOk.length : ∀ {ks : List K} {vs : List Value}, KOk ks vs → vs.length = ks.length := by
  intro ks
  induction ks with
  | nil => intro vs h; cases vs <;> simp [KOk] at h; rfl
  | cons k ks ih => intro vs h; cases vs <;> cases k <;> simp [KOk] at h <;> simp [ih h.2]
theorem KOk.append : ∀ {ks ls : List K} {vs us : List Value}, KOk ks vs → KOk ls us → KOk (ks ++ ls) (vs ++ us) := by
  intro ks
  induction ks with
  | nil => intro ls vs us h k; cases vs <;> simp [KOk] at h; exact k
  | cons k ks ih =>
    intro ls vs us h hk
    cases vs with
    | nil => cases k <;> simp [KOk] at h
    | cons v vs => cases k <;> exact ⟨h.1, ih h.2 hk⟩
def flatFs (P : Program) (r : TypeId → Option (List K)) : Nat → List Field → Option (List K)
  | _, [] => some []
  | off, f :: fs => match r f.type with
    | some k1 => if f.offset = off ∧ P.cellsOf f.type = k1.length then (flatFs P r (off + k1.length) fs).map (k1 ++ ·) else none
    | none => none
def repK : Nat → List K → List K
  | 0, _ => []
  | m + 1, k => k ++ repK m k
theorem repK_length : ∀ {m : Nat} {k : List K}, (repK m k).length = m * k.length := by
  intro m
  induction m with
  | zero => intro k; simp [repK]
  | succ m ih => intro k; rw [repK, List.length_append, ih, Nat.succ_mul]; omega
theorem KOk.rep {k : List K} {cs : List Value} : ∀ {m off : Nat}, (∀ i, i < m → KOk k ((cs.drop ((off + i) * k.length)).take k.length)) → KOk (repK m k) ((cs.drop (off * k.length)).take (m * k.length)) := by
  intro m
  induction m with
  | zero => intro off _; simp [repK, KOk]
  | succ m ih =>
    intro off h
    have h0 := h 0 (Nat.succ_pos m)
    have h1 := ih (off := off + 1) fun i hi => by have := h (i + 1) (by omega); rw [show off + (i + 1) = off + 1 + i by omega] at this; exact this
    rw [repK, show (m + 1) * k.length = k.length + m * k.length by rw [Nat.succ_mul]; omega, List.take_add, List.drop_drop]
    rw [show (off + 1) * k.length = off * k.length + k.length by rw [Nat.succ_mul]] at h1
    exact h0.append h1
def flat (P : Program) : Nat → TypeId → Option (List K)
  | 0, _ => none
  | n + 1, t => match P.underlying t with
    | some .bool => some [.b]
    | some (.int k) => some [.i k]
    | some (.struct fs) => match flatFs P (flat P n) 0 fs.toList with
      | some ks => if P.cellsOf t = ks.length then some ks else none
      | none => none
    | some (.array m e) => match flat P n e with
      | some k1 => if P.cellsOf e = k1.length ∧ P.cellsOf t = (repK m k1).length then some (repK m k1) else none
      | none => none
    | _ => none
section flat
variable {H : Type} {enc : TypeId × Value → H} {P : Program}
theorem flatFs_mem {r : TypeId → Option (List K)} : ∀ {fs : List Field} {off : Nat} {ks : List K}, flatFs P r off fs = some ks → ∀ f ∈ fs, ∃ k1, r f.type = some k1 := by
  intro fs
  induction fs with
  | nil => intro off ks _ f hf; cases hf
  | cons g fs ih =>
    intro off ks h f hf
    simp only [flatFs] at h
    split at h
    · rename_i k1 h1
      split at h
      · rw [Option.map_eq_some_iff] at h
        obtain ⟨ks', h2, _⟩ := h
        rcases List.mem_cons.1 hf with rfl | hf
        · exact ⟨k1, h1⟩
        · exact ih h2 f hf
      · cases h
    · cases h
theorem mapM_congr' {α β : Type} {A B : α → Option β} : ∀ {l : List α}, (∀ x ∈ l, A x = B x) → l.mapM A = l.mapM B := by
  intro l
  induction l with
  | nil => intro _; rfl
  | cons x l ih =>
    intro h
    rw [List.mapM_cons, List.mapM_cons, h x List.mem_cons_self, ih fun y hy => h y (List.mem_cons_of_mem _ hy)]
theorem trod_flat_eq {w w' : World} {base base' : Nat} {spare spare' : Nat → Bool} {held held' : Bool} : ∀ {n : Nat} {t : TypeId} {ks : List K}, flat P n t = some ks →
    ∀ (fuel : Nat) (cs : List Value), DataW.trod enc P w base spare held fuel t cs = DataW.trod enc P w' base' spare' held' fuel t cs := by
  intro n
  induction n with
  | zero => intro t ks h; cases h
  | succ n ih =>
    intro t ks h fuel cs
    cases fuel with
    | zero => rfl
    | succ fuel =>
      simp only [flat] at h
      split at h
      · rename_i ht; unfold DataW.trod; rw [ht]; cases cs with
        | nil => rfl
        | cons v vs => cases vs <;> cases v <;> rfl
      · rename_i k ht; unfold DataW.trod; rw [ht]; cases cs with
        | nil => rfl
        | cons v vs => cases vs <;> cases v <;> rfl
      · rename_i fs ht
        split at h
        · rename_i ks' hfs
          have hm := flatFs_mem hfs
          have e : (fs.toList.mapM fun f => DataW.trod enc P w base spare held fuel f.type ((cs.drop f.offset).take (P.cellsOf f.type))) = fs.toList.mapM fun f => DataW.trod enc P w' base' spare' held' fuel f.type ((cs.drop f.offset).take (P.cellsOf f.type)) :=
            mapM_congr' fun f hf => let ⟨_, h1⟩ := hm f hf; ih h1 fuel _
          unfold DataW.trod
          rw [ht]
          simp only [e]
        · cases h
      · rename_i m e ht
        split at h
        · rename_i k1 h1
          have e1 : ((List.range m).mapM fun i => DataW.trod enc P w base spare held fuel e ((cs.drop (i * P.cellsOf e)).take (P.cellsOf e))) = (List.range m).mapM fun i => DataW.trod enc P w' base' spare' held' fuel e ((cs.drop (i * P.cellsOf e)).take (P.cellsOf e)) :=
            mapM_congr' fun i _ => ih h1 fuel _
          unfold DataW.trod
          rw [ht]
          simp only [e1]
        · cases h
      · cases h
theorem flds {w : World} {base : Nat} {spare : Nat → Bool} {held : Bool} {fuel : Nat} {cs : List Value} {r : TypeId → Option (List K)}
    (hr : ∀ t k1, r t = some k1 → ∀ cs y, DataW.trod enc P w base spare held fuel t cs = some y → y.2 = [] ∧ KOk k1 cs) :
    ∀ {fs : List Field} {off : Nat} {ks : List K}, flatFs P r off fs = some ks → (∀ f ∈ fs, ∃ y, DataW.trod enc P w base spare held fuel f.type ((cs.drop f.offset).take (P.cellsOf f.type)) = some y) → KOk ks ((cs.drop off).take ks.length) := by
  intro fs
  induction fs with
  | nil => intro off ks h _; simp [flatFs] at h; subst h; simp [KOk]
  | cons g fs ih =>
    intro off ks h hf
    simp only [flatFs] at h
    split at h
    · rename_i k1 h1
      split at h
      · rename_i hc
        rw [Option.map_eq_some_iff] at h
        obtain ⟨ks', h2, rfl⟩ := h
        obtain ⟨y, hy⟩ := hf g List.mem_cons_self
        obtain ⟨_, hk⟩ := hr _ _ h1 _ _ hy
        rw [hc.1, hc.2] at hk
        have := ih h2 fun f hm => hf f (List.mem_cons_of_mem _ hm)
        rw [List.length_append, List.take_add, List.drop_drop]
        exact hk.append this
      · cases h
    · cases h
theorem trod_flat {w : World} {base : Nat} {spare : Nat → Bool} {held : Bool} : ∀ {n : Nat} {t : TypeId} {ks : List K}, flat P n t = some ks →
    ∀ (fuel : Nat) (cs : List Value) (y : DataW H × List MemPlace), DataW.trod enc P w base spare held fuel t cs = some y → y.2 = [] ∧ KOk ks cs := by
  intro n
  induction n with
  | zero => intro t ks h; cases h
  | succ n ih =>
    intro t ks h fuel cs y hy
    simp only [flat] at h
    split at h
    · rename_i ht
      cases h
      obtain ⟨b, rfl, rfl⟩ := DataW.trod_bool ht hy
      exact ⟨rfl, ⟨b, rfl⟩, trivial⟩
    · rename_i k ht
      cases h
      obtain ⟨m, rfl, rfl, hw⟩ := DataW.trod_int ht hy
      exact ⟨rfl, ⟨m, rfl, hw⟩, trivial⟩
    · rename_i fs ht
      split at h
      · rename_i ks' hfs
        split at h
        · rename_i hc
          cases h
          obtain ⟨xs, m, rfl, rfl, hl, hxl, hf⟩ := DataW.trod_struct ht hy
          have hsome : ∀ (i : Nat) (f : Field), fs[i]? = some f → ∃ x, xs[i]? = some x ∧ DataW.trod enc P w base spare held m f.type ((cs.drop f.offset).take (P.cellsOf f.type)) = some x := by
            intro i f hi
            have hlt : i < xs.length := by rw [hxl]; exact (Array.getElem?_eq_some_iff.1 hi).1
            exact ⟨xs[i], List.getElem?_eq_getElem hlt, (hf i f hi).trans (List.getElem?_eq_getElem hlt)⟩
          refine ⟨?_, ?_⟩
          · show xs.flatMap (·.2) = []
            rw [List.flatMap_eq_nil_iff]
            intro x hx
            obtain ⟨i, hi⟩ := List.mem_iff_getElem?.1 hx
            have hlt : i < fs.size := by rw [← hxl]; exact (List.getElem?_eq_some_iff.1 hi).1
            obtain ⟨x', h1, h2⟩ := hsome i fs[i] (Array.getElem?_eq_getElem hlt)
            rw [hi] at h1
            cases h1
            obtain ⟨k1, hk1⟩ := flatFs_mem hfs fs[i] (by simp)
            exact (ih hk1 _ _ _ h2).1
          · have := flds (enc := enc) (w := w) (base := base) (spare := spare) (held := held) (fuel := m) (cs := cs) (r := flat P n) (fun t k1 h1 cs y hy => ih h1 _ _ _ hy) hfs fun f hfm => by
              obtain ⟨i, hi⟩ := List.mem_iff_getElem?.1 hfm
              obtain ⟨x, _, h2⟩ := hsome i f (by simpa using hi)
              exact ⟨x, h2⟩
            rw [List.drop_zero, List.take_of_length_le (by omega)] at this
            exact this
        · cases h
      · cases h
    · rename_i m e ht
      split at h
      · rename_i k1 h1
        split at h
        · rename_i hc
          cases h
          obtain ⟨xs, f, rfl, rfl, hl, hxl, hf⟩ := DataW.trod_array ht hy
          have hsome : ∀ i, i < m → ∃ x, xs[i]? = some x ∧ x.2 = [] ∧ KOk k1 ((cs.drop (i * k1.length)).take k1.length) := by
            intro i hi
            have hlt : i < xs.length := by omega
            have h2 := hf i hi
            rw [List.getElem?_eq_getElem hlt] at h2
            obtain ⟨g1, g2⟩ := ih h1 _ _ _ h2
            rw [hc.1] at g2
            exact ⟨xs[i], List.getElem?_eq_getElem hlt, g1, g2⟩
          refine ⟨?_, ?_⟩
          · show xs.flatMap (·.2) = []
            rw [List.flatMap_eq_nil_iff]
            intro x hx
            obtain ⟨i, hi⟩ := List.mem_iff_getElem?.1 hx
            obtain ⟨x', g1, g2, _⟩ := hsome i (by rw [← hxl]; exact (List.getElem?_eq_some_iff.1 hi).1)
            rw [hi] at g1; cases g1; exact g2
          · have := KOk.rep (k := k1) (cs := cs) (m := m) (off := 0) fun i hi => by rw [Nat.zero_add]; obtain ⟨_, _, _, g⟩ := hsome i hi; exact g
            rw [Nat.zero_mul, List.drop_zero, List.take_of_length_le (by rw [hl, hc.2, repK_length]; exact Nat.le_refl _)] at this
            exact this
        · cases h
      · cases h
    · cases h
/-- A struct of numbers and truths, by value: opened. -/
theorem open_flat {w : World} {base b0 : Nat} {spare : Nat → Bool} {held : Bool} {r : Reach} {n : Nat} {t : TypeId} {fs : Array Field} {ks : List K} {v : Value} {d : DataW H} {p : List MemPlace} (hs : P.underlying t = some (.struct fs)) (h : flat P n t = some ks)
    (hv : Value.okWide P w r b0 t v) (hd : DataW.Trod enc P w base spare held t v d p) : ∃ cs : List Value, v = .agg cs.toArray ∧ KOk ks cs ∧ p = [] := by
  obtain ⟨cs, rfl, _⟩ := okWide_struct hs hv
  obtain ⟨fuel, hf⟩ := hd
  obtain ⟨h1, h2⟩ := trod_flat h _ _ _ hf
  exact ⟨cs.toList, by simp, h2, h1⟩
/-- .. and read again, in whatever world. -/
theorem shut_flat {w w' : World} {base base' : Nat} {spare spare' : Nat → Bool} {held held' : Bool} {n : Nat} {t : TypeId} {ks : List K} {v : Value} {d : DataW H} {p : List MemPlace} (h : flat P n t = some ks)
    (hd : DataW.Trod enc P w base spare held t v d p) : DataW.Trod enc P w' base' spare' held' t v d p := by
  obtain ⟨fuel, hf⟩ := hd
  exact ⟨fuel, (trod_flat_eq h fuel _).symm.trans hf⟩
end flat

def cellInt : Value → Int
  | .int _ n => n
  | .bool b => tb b
  | _ => 0
/-- Letters for a struct's numbers and truths, from one on. -/
def symK3 (i : Nat) : List K → List E3.C
  | [] => []
  | .i k :: ks => .int k (.v i (kmin k) (kmax k)) :: symK3 (i + 1) ks
  | .b :: ks => .bool (.v i 0 1) :: symK3 (i + 1) ks
theorem symK3_ok {E : Env} (ρ : E3.Pt → E3.Rb) : ∀ {ks : List K} {vs : List Value} {i : Nat}, KOk ks vs → (∀ j v, vs[j]? = some v → (E.x (i + j)).n = cellInt v) → (symK3 i ks).map (E3.C.val E ρ) = vs := by
  intro ks
  induction ks with
  | nil => intro vs i h _; cases vs <;> simp [KOk] at h; rfl
  | cons k ks ih =>
    intro vs i h hx
    cases vs with
    | nil => cases k <;> simp [KOk] at h
    | cons v vs =>
      have h0 := hx 0 v rfl
      rw [Nat.add_zero] at h0
      have hr : ∀ j u, vs[j]? = some u → (E.x (i + 1 + j)).n = cellInt u := fun j u hj => by
        rw [show i + 1 + j = i + (j + 1) by omega]; exact hx (j + 1) u (by simpa using hj)
      cases k with
      | i k =>
        obtain ⟨⟨m, rfl, hw⟩, h2⟩ := h
        simp only [symK3, List.map_cons, ih h2 hr]
        show Value.int k (clamp (kmin k) (kmax k) (E.x i).n) :: vs = _
        rw [h0, show cellInt (Value.int k m) = m from rfl, clamp_id (E3.int_range hw)]
      | b =>
        obtain ⟨⟨m, rfl⟩, h2⟩ := h
        simp only [symK3, List.map_cons, ih h2 hr]
        show Value.bool (clamp 0 1 (E.x i).n != 0) :: vs = _
        rw [h0, show cellInt (Value.bool m) = tb m from rfl, clamp_id (tb_range m), tb_ne]
theorem symK3_flat (E : Env) (ρ : E3.Pt → E3.Rb) (D : E3.Pt → Prop) : ∀ (ks : List K) (i : Nat), ∀ x ∈ symK3 i ks, x.ok E ρ D := by
  intro ks
  induction ks with
  | nil => intro i x h; cases h
  | cons k ks ih =>
    intro i x h
    cases k <;>
    · rcases List.mem_cons.1 h with rfl | h
      · trivial
      · exact ih _ x h
end Go.Sy
