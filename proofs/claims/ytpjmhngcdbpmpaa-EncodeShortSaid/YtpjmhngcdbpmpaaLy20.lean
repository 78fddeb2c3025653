/- Part 20 of a checked reader of Go texts in their model form: it runs a function at terms in the place of numbers, and each part proves that its answers hold of the model. -/
import Derived.Test.YtpjmhngcdbpmpaaLy16
import Derived.ChangeArms
import Derived.ChangeSame
import Derived.WideShapes
import Derived.OpenShut
namespace Go.Sy
open Go.ChangeShapes Go.WideShapes

/-! values of whole numbers and truths alone -/
def KOk : List K → List Value → Prop
  | [], [] => True
  | .i k :: ks, v :: vs => (∃ n, v = .int k n ∧ (Lit.int k n).wf = true) ∧ KOk ks vs
  | .b :: ks, v :: vs => (∃ b, v = .bool b) ∧ KOk ks vs
  | _, _ => False
theorem KOk.length [Fs] : ∀ {ks : List K} {vs : List Value}, KOk ks vs → vs.length = ks.length := by
  intro ks
  induction ks with
  | nil => intro vs h; cases vs <;> simp [KOk] at h; rfl
  | cons k ks ih => intro vs h; cases vs <;> cases k <;> simp [KOk] at h <;> simp [ih h.2]
theorem KOk.append [Fs] : ∀ {ks ls : List K} {vs us : List Value}, KOk ks vs → KOk ls us → KOk (ks ++ ls) (vs ++ us) := by
  intro ks
  induction ks with
  | nil => intro ls vs us h k; cases vs <;> simp [KOk] at h; exact k
  | cons k ks ih =>
    intro ls vs us h hk
    cases vs with
    | nil => cases k <;> simp [KOk] at h
    | cons v vs => cases k <;> exact ⟨h.1, ih h.2 hk⟩
def flatFs (P : Program) (r : TypeId → Option (List K)) : Nat → List Field → Option (List K)
  | _, [] => some []
  | off, f :: fs => match r f.type with
    | some k1 => if f.offset = off ∧ P.cellsOf f.type = k1.length then (flatFs P r (off + k1.length) fs).map (k1 ++ ·) else none
    | none => none
def repK : Nat → List K → List K
  | 0, _ => []
  | m + 1, k => k ++ repK m k
theorem repK_length [Fs] : ∀ {m : Nat} {k : List K}, (repK m k).length = m * k.length := by
  intro m
  induction m with
  | zero => intro k; simp [repK]
  | succ m ih => intro k; rw [repK, List.length_append, ih, Nat.succ_mul]; omega
theorem KOk.rep [Fs] {k : List K} {cs : List Value} : ∀ {m off : Nat}, (∀ i, i < m → KOk k ((cs.drop ((off + i) * k.length)).take k.length)) → KOk (repK m k) ((cs.drop (off * k.length)).take (m * k.length)) := by
  intro m
  induction m with
  | zero => intro off _; simp [repK, KOk]
  | succ m ih =>
    intro off h
    have h0 := h 0 (Nat.succ_pos m)
    have h1 := ih (off := off + 1) fun i hi => by have := h (i + 1) (by omega); rw [show off + (i + 1) = off + 1 + i by omega] at this; exact this
    rw [repK, show (m + 1) * k.length = k.length + m * k.length by rw [Nat.succ_mul]; omega, List.take_add, List.drop_drop]
    rw [show (off + 1) * k.length = off * k.length + k.length by rw [Nat.succ_mul]] at h1
    exact h0.append h1
def flat (P : Program) : Nat → TypeId → Option (List K)
  | 0, _ => none
  | n + 1, t => match P.underlying t with
    | some .bool => some [.b]
    | some (.int k) => some [.i k]
    | some (.struct fs) => match flatFs P (flat P n) 0 fs.toList with
      | some ks => if P.cellsOf t = ks.length then some ks else none
      | none => none
    | some (.array m e) => match flat P n e with
      | some k1 => if P.cellsOf e = k1.length ∧ P.cellsOf t = (repK m k1).length then some (repK m k1) else none
      | none => none
    | _ => none
section flat
variable {H : Type} {enc : TypeId × Value → H} {P : Program}
theorem flatFs_mem [Fs] {r : TypeId → Option (List K)} : ∀ {fs : List Field} {off : Nat} {ks : List K}, flatFs P r off fs = some ks → ∀ f ∈ fs, ∃ k1, r f.type = some k1 := by
  intro fs
  induction fs with
  | nil => intro off ks _ f hf; cases hf
  | cons g fs ih =>
    intro off ks h f hf
    simp only [flatFs] at h
    split at h
    · rename_i k1 h1
      split at h
      · rw [Option.map_eq_some_iff] at h
        obtain ⟨ks', h2, _⟩ := h
        rcases List.mem_cons.1 hf with rfl | hf
        · exact ⟨k1, h1⟩
        · exact ih h2 f hf
      · cases h
    · cases h
theorem mapM_congr' [Fs] {α β : Type} {A B : α → Option β} : ∀ {l : List α}, (∀ x ∈ l, A x = B x) → l.mapM A = l.mapM B := by
  intro l
  induction l with
  | nil => intro _; rfl
  | cons x l ih =>
    intro h
    rw [List.mapM_cons, List.mapM_cons, h x List.mem_cons_self, ih fun y hy => h y (List.mem_cons_of_mem _ hy)]
theorem trod_flat_eq [Fs] {w w' : World} {base base' : Nat} {spare spare' : Nat → Bool} {held held' : Bool} : ∀ {n : Nat} {t : TypeId} {ks : List K}, flat P n t = some ks →
    ∀ (fuel : Nat) (cs : List Value), DataW.trod enc P w base spare held fuel t cs = DataW.trod enc P w' base' spare' held' fuel t cs := by
  intro n
  induction n with
  | zero => intro t ks h; cases h
  | succ n ih =>
    intro t ks h fuel cs
    cases fuel with
    | zero => rfl
    | succ fuel =>
      simp only [flat] at h
      split at h
      · rename_i ht; unfold DataW.trod; rw [ht]; cases cs with
        | nil => rfl
        | cons v vs => cases vs <;> cases v <;> rfl
      · rename_i k ht; unfold DataW.trod; rw [ht]; cases cs with
        | nil => rfl
        | cons v vs => cases vs <;> cases v <;> rfl
      · rename_i fs ht
        split at h
        · rename_i ks' hfs
          have hm := flatFs_mem hfs
          have e : (fs.toList.mapM fun f => DataW.trod enc P w base spare held fuel f.type ((cs.drop f.offset).take (P.cellsOf f.type))) = fs.toList.mapM fun f => DataW.trod enc P w' base' spare' held' fuel f.type ((cs.drop f.offset).take (P.cellsOf f.type)) :=
            mapM_congr' fun f hf => let ⟨_, h1⟩ := hm f hf; ih h1 fuel _
          unfold DataW.trod
          rw [ht]
          simp only [e]
        · cases h
      · rename_i m e ht
        split at h
        · rename_i k1 h1
          have e1 : ((List.range m).mapM fun i => DataW.trod enc P w base spare held fuel e ((cs.drop (i * P.cellsOf e)).take (P.cellsOf e))) = (List.range m).mapM fun i => DataW.trod enc P w' base' spare' held' fuel e ((cs.drop (i * P.cellsOf e)).take (P.cellsOf e)) :=
            mapM_congr' fun i _ => ih h1 fuel _
          unfold DataW.trod
          rw [ht]
          simp only [e1]
        · cases h
      · cases h
theorem flds [Fs] {w : World} {base : Nat} {spare : Nat → Bool} {held : Bool} {fuel : Nat} {cs : List Value} {r : TypeId → Option (List K)}
    (hr : ∀ t k1, r t = some k1 → ∀ cs y, DataW.trod enc P w base spare held fuel t cs = some y → y.2 = [] ∧ KOk k1 cs) :
    ∀ {fs : List Field} {off : Nat} {ks : List K}, flatFs P r off fs = some ks → (∀ f ∈ fs, ∃ y, DataW.trod enc P w base spare held fuel f.type ((cs.drop f.offset).take (P.cellsOf f.type)) = some y) → KOk ks ((cs.drop off).take ks.length) := by
  intro fs
  induction fs with
  | nil => intro off ks h _; simp [flatFs] at h; subst h; simp [KOk]
  | cons g fs ih =>
    intro off ks h hf
    simp only [flatFs] at h
    split at h
    · rename_i k1 h1
      split at h
      · rename_i hc
        rw [Option.map_eq_some_iff] at h
        obtain ⟨ks', h2, rfl⟩ := h
        obtain ⟨y, hy⟩ := hf g List.mem_cons_self
        obtain ⟨_, hk⟩ := hr _ _ h1 _ _ hy
        rw [hc.1, hc.2] at hk
        have := ih h2 fun f hm => hf f (List.mem_cons_of_mem _ hm)
        rw [List.length_append, List.take_add, List.drop_drop]
        exact hk.append this
      · cases h
    · cases h
theorem trod_flat [Fs] {w : World} {base : Nat} {spare : Nat → Bool} {held : Bool} : ∀ {n : Nat} {t : TypeId} {ks : List K}, flat P n t = some ks →
    ∀ (fuel : Nat) (cs : List Value) (y : DataW H × List MemPlace), DataW.trod enc P w base spare held fuel t cs = some y → y.2 = [] ∧ KOk ks cs := by
  intro n
  induction n with
  | zero => intro t ks h; cases h
  | succ n ih =>
    intro t ks h fuel cs y hy
    simp only [flat] at h
    split at h
    · rename_i ht
      cases h
      obtain ⟨b, rfl, rfl⟩ := DataW.trod_bool ht hy
      exact ⟨rfl, ⟨b, rfl⟩, trivial⟩
    · rename_i k ht
      cases h
      obtain ⟨m, rfl, rfl, hw⟩ := DataW.trod_int ht hy
      exact ⟨rfl, ⟨m, rfl, hw⟩, trivial⟩
    · rename_i fs ht
      split at h
      · rename_i ks' hfs
        split at h
        · rename_i hc
          cases h
          obtain ⟨xs, m, rfl, rfl, hl, hxl, hf⟩ := DataW.trod_struct ht hy
          have hsome : ∀ (i : Nat) (f : Field), fs[i]? = some f → ∃ x, xs[i]? = some x ∧ DataW.trod enc P w base spare held m f.type ((cs.drop f.offset).take (P.cellsOf f.type)) = some x := by
            intro i f hi
            have hlt : i < xs.length := by rw [hxl]; exact (Array.getElem?_eq_some_iff.1 hi).1
            exact ⟨xs[i], List.getElem?_eq_getElem hlt, (hf i f hi).trans (List.getElem?_eq_getElem hlt)⟩
          refine ⟨?_, ?_⟩
          · show xs.flatMap (·.2) = []
            rw [List.flatMap_eq_nil_iff]
            intro x hx
            obtain ⟨i, hi⟩ := List.mem_iff_getElem?.1 hx
            have hlt : i < fs.size := by rw [← hxl]; exact (List.getElem?_eq_some_iff.1 hi).1
            obtain ⟨x', h1, h2⟩ := hsome i fs[i] (Array.getElem?_eq_getElem hlt)
            rw [hi] at h1
            cases h1
            obtain ⟨k1, hk1⟩ := flatFs_mem hfs fs[i] (by simp)
            exact (ih hk1 _ _ _ h2).1
          · have := flds (enc := enc) (w := w) (base := base) (spare := spare) (held := held) (fuel := m) (cs := cs) (r := flat P n) (fun t k1 h1 cs y hy => ih h1 _ _ _ hy) hfs fun f hfm => by
              obtain ⟨i, hi⟩ := List.mem_iff_getElem?.1 hfm
              obtain ⟨x, _, h2⟩ := hsome i f (by simpa using hi)
              exact ⟨x, h2⟩
            rw [List.drop_zero, List.take_of_length_le (by omega)] at this
            exact this
        · cases h
      · cases h
    · rename_i m e ht
      split at h
      · rename_i k1 h1
        split at h
        · rename_i hc
          cases h
          obtain ⟨xs, f, rfl, rfl, hl, hxl, hf⟩ := DataW.trod_array ht hy
          have hsome : ∀ i, i < m → ∃ x, xs[i]? = some x ∧ x.2 = [] ∧ KOk k1 ((cs.drop (i * k1.length)).take k1.length) := by
            intro i hi
            have hlt : i < xs.length := by omega
            have h2 := hf i hi
            rw [List.getElem?_eq_getElem hlt] at h2
            obtain ⟨g1, g2⟩ := ih h1 _ _ _ h2
            rw [hc.1] at g2
            exact ⟨xs[i], List.getElem?_eq_getElem hlt, g1, g2⟩
          refine ⟨?_, ?_⟩
          · show xs.flatMap (·.2) = []
            rw [List.flatMap_eq_nil_iff]
            intro x hx
            obtain ⟨i, hi⟩ := List.mem_iff_getElem?.1 hx
            obtain ⟨x', g1, g2, _⟩ := hsome i (by rw [← hxl]; exact (List.getElem?_eq_some_iff.1 hi).1)
            rw [hi] at g1; cases g1; exact g2
          · have := KOk.rep (k := k1) (cs := cs) (m := m) (off := 0) fun i hi => by rw [Nat.zero_add]; obtain ⟨_, _, _, g⟩ := hsome i hi; exact g
            rw [Nat.zero_mul, List.drop_zero, List.take_of_length_le (by rw [hl, hc.2, repK_length]; exact Nat.le_refl _)] at this
            exact this
        · cases h
      · cases h
    · cases h
/-- A struct of numbers and truths, by value: opened. -/
theorem open_flat [Fs] {w : World} {base b0 : Nat} {spare : Nat → Bool} {held : Bool} {r : Reach} {n : Nat} {t : TypeId} {fs : Array Field} {ks : List K} {v : Value} {d : DataW H} {p : List MemPlace} (hs : P.underlying t = some (.struct fs)) (h : flat P n t = some ks)
    (hv : Value.okWide P w r b0 t v) (hd : DataW.Trod enc P w base spare held t v d p) : ∃ cs : List Value, v = .agg cs.toArray ∧ KOk ks cs ∧ p = [] := by
  obtain ⟨cs, rfl, _⟩ := okWide_struct hs hv
  obtain ⟨fuel, hf⟩ := hd
  obtain ⟨h1, h2⟩ := trod_flat h _ _ _ hf
  exact ⟨cs.toList, by simp, h2, h1⟩
/-- .. and read again, in whatever world. -/
theorem shut_flat [Fs] {w w' : World} {base base' : Nat} {spare spare' : Nat → Bool} {held held' : Bool} {n : Nat} {t : TypeId} {ks : List K} {v : Value} {d : DataW H} {p : List MemPlace} (h : flat P n t = some ks)
    (hd : DataW.Trod enc P w base spare held t v d p) : DataW.Trod enc P w' base' spare' held' t v d p := by
  obtain ⟨fuel, hf⟩ := hd
  exact ⟨fuel, (trod_flat_eq h fuel _).symm.trans hf⟩
end flat

def cellInt : Value → Int
  | .int _ n => n
  | .bool b => tb b
  | _ => 0
def F2L {α : Type} (r : α → Value → Prop) : List α → List Value → Prop
  | [], [] => True
  | x :: xs, v :: vs => r x v ∧ F2L r xs vs
  | _, _ => False
theorem F2.ofL [Fs] {α : Type} {r : α → Value → Prop} : ∀ {xs : List α} {vs : List Value}, F2L r xs vs → F2 r xs vs.toArray
  | [], [], _ => ⟨rfl, fun i x h => by simp at h⟩
  | x :: xs, v :: vs, h => by
    obtain ⟨h1, h2⟩ := h
    have ih := F2.ofL h2
    refine ⟨by have := ih.1; simp at this ⊢; exact this, fun i y hy => ?_⟩
    cases i with
    | zero => simp at hy; subst hy; exact ⟨v, by simp, h1⟩
    | succ i =>
      simp at hy
      obtain ⟨u, hu, hr⟩ := ih.2 i y hy
      exact ⟨u, by simpa using hu, hr⟩
  | [], _ :: _, h => h.elim
  | _ :: _, [], h => h.elim

def envOf [Fs] (l : List Int) : Env := ⟨fun i => ⟨l.getD i 0, fun _ => 0⟩, Fs.F⟩
theorem Ar_int [Fs] {l : List Int} {ρ : Nat → Rb} {n : Nat} {k : IntKind} {i : Nat} {x lo hi : Int} (hx : l.getD i 0 = x) (h : lo ≤ x ∧ x ≤ hi) : Ar (envOf l) ρ n (.c (.int k (.v i lo hi))) (.int k x) := by
  show Value.int k x = Value.int k (clamp lo hi (l.getD i 0))
  rw [hx, clamp_id h]
theorem Ar_bool [Fs] {l : List Int} {ρ : Nat → Rb} {n : Nat} {i : Nat} {x : Bool} (hx : l.getD i 0 = tb x) : Ar (envOf l) ρ n (.c (.bool (.v i 0 1))) (.bool x) := by
  show Value.bool x = Value.bool (clamp 0 1 (l.getD i 0) != 0)
  rw [hx, clamp_id (tb_range x), tb_ne]
theorem Ar_intw [Fs] {l : List Int} {ρ : Nat → Rb} {n : Nat} {k : IntKind} {i : Nat} {x lo hi : Int} (hx : l.getD i 0 = x) (h1 : lo = kmin k) (h2 : hi = kmax k) (h : (Lit.int k x).wf = true) : Ar (envOf l) ρ n (.c (.int k (.v i lo hi))) (.int k x) := by
  refine Ar_int hx ?_
  rw [h1, h2, kmin_eq, kmax_eq]
  simpa [Lit.wf] using h
theorem symK_ok [Fs] {l : List Int} {ρ : Nat → Rb} {n : Nat} : ∀ {ks : List K} {vs : List Value} {i : Nat}, KOk ks vs → (∀ j v, vs[j]? = some v → l.getD (i + j) 0 = cellInt v) → F2L (Cr (envOf l) ρ n) (symK i ks) vs := by
  intro ks
  induction ks with
  | nil => intro vs i h _; cases vs <;> simp [KOk] at h; trivial
  | cons k ks ih =>
    intro vs i h hx
    cases vs with
    | nil => cases k <;> simp [KOk] at h
    | cons v vs =>
      have h0 := hx 0 v rfl
      have hr : ∀ j u, vs[j]? = some u → l.getD (i + 1 + j) 0 = cellInt u := fun j u hj => by
        rw [show i + 1 + j = i + (j + 1) by omega]; exact hx (j + 1) u (by simpa using hj)
      cases k with
      | i k =>
        obtain ⟨⟨m, rfl, hw⟩, h2⟩ := h
        exact ⟨Ar_intw (ρ := ρ) (n := n) (x := m) h0 rfl rfl hw, ih h2 hr⟩
      | b =>
        obtain ⟨⟨m, rfl⟩, h2⟩ := h
        exact ⟨Ar_bool (ρ := ρ) (n := n) (x := m) h0, ih h2 hr⟩
theorem lt_fact [Fs] {l : List Int} {i : Nat} {x lo hi n : Int} {b : Bool} (hx : l.getD i 0 = x) (h : lo ≤ x ∧ x ≤ hi) (hb : decide (x < n) = b) : pcOk (envOf l) [(.bin .lt (.v i lo hi) (.lit n), b)] := by
  intro p hp
  rw [List.mem_singleton] at hp
  subst hp
  show (tb (ltb (clamp lo hi (l.getD i 0)) n) != 0) = b
  rw [hx, clamp_id h, tb_ne, ← hb]
  rfl
theorem int_range [Fs] {k : IntKind} {x : Int} (h : (Lit.int k x).wf = true) : kmin k ≤ x ∧ x ≤ kmax k := by
  rw [kmin_eq, kmax_eq]; simpa [Lit.wf] using h
theorem agg_ok [Fs] {E : Env} {ρ : Nat → Rb} {n : Nat} {xs : List C} {vs : List Value} (h : F2L (Cr E ρ n) xs vs) : Ar E ρ n (.agg xs) (.agg vs.toArray) := ⟨_, rfl, F2.ofL h⟩
end Go.Sy
namespace Go.Sy
/-- A law, wherever it stands in the table. -/
theorem law_okF [Fs] {P : Program} {cf : Cf} (hcf : CfOk P cf) {fuel : Nat} {c : Pf} {ds : List Df} {t : T} (h : chkPf P cf fuel c ds [t] = true) (hr : c.res = boolR) (hc : c.cnt = 1) (he : t.even = true) (hF : ∀ as : List Arg, Fs.F c.g as = [⟨1, fun _ => 1⟩])
    (hplain : ∀ E : Env, E.F = Fs.F → (∀ d ∈ ds, d.ok E) → t.den E = 1) : IsFn P c.g ∧ ∀ {E : Env}, E.F = Fs.F → ∀ {ρ : Nat → Rb} {N : Nat} {args : Array Value}, pcOk E c.pre → F2 (Ar E ρ N) c.args args → ∀ w : World,
    Calls P c.g args w fun e w' => e = .returned (.bool true) ∧ RowKit.Below w.heap.size w w' := by
  obtain ⟨pc, hrun, hb⟩ := chkPf_ok h
  have hok : PfOk P c := pf_ok hcf hrun hb fun E hE _ hd => by
    rw [hF]
    have h1 := hplain E hE hd
    simp only [List.map_cons, List.map_nil, T.me, h1]
    congr 2
    funext j
    rw [T.even_row he, h1]
  obtain ⟨h1, h2⟩ := hok
  refine ⟨h1, fun {E} hE {ρ N args} hpre ha w => ?_⟩
  obtain ⟨v, h3, h4⟩ := h2 E ρ N args hE hpre ha
  have h5 := h3 ρ N
  rw [hr] at h5
  simp only [boolR, Lr, Ar, Cr] at h5
  have : v = .bool true := by
    rw [h5]
    congr 1
    simp only [T.tr, T.den, resE, hc, Nat.lt_one_iff, if_pos, hE, hF]
    rfl
  rw [this] at h4
  exact h4 w
/-- A law without arguments, as a card that tells 'true'. -/
theorem true_ok [Fs] {P : Program} {g : Nat} (h1 : IsFn P g) (h2 : ∀ w : World, Calls P g #[] w fun e w' => e = .returned (.bool true) ∧ RowKit.Below w.heap.size w w') : PfOk P (constPf g (.c (.bool (.lit 1)))) := by
  refine ⟨h1, fun E ρ N args _ _ ha => ⟨.bool true, fun _ _ => rfl, fun w => ?_⟩⟩
  obtain rfl : args = #[] := by
    have := ha.1
    exact Array.eq_empty_of_size_eq_zero (by simpa [constPf] using this)
  exact h2 w
/-- Letters' meanings, worked out from the first ones. -/
theorem den_ext [Fs] {ds : List Df} {n h : Nat} {t : T} (hc : contig n ds = some h) (hb : t.bel h = true) {E E0 : Env} (hF : E.F = E0.F) (hx : ∀ i, i < n → E.x i = E0.x i) (hd : ∀ d ∈ ds, d.ok E) : t.den E = t.den (extL E0 ds) := by
  have ag := contig_ok hF hx hc hd
  have := T.bel_me ag hb
  exact congrArg Arg.n this
end Go.Sy
