/- Part Za1 of a checked reader of Go texts in their model form: it runs a function at terms in the place of numbers, and each part proves that its answers hold of the model. -/
import Derived.Test.YtjfcnhfpnjcjaaaGreatDoorQySy3
import Derived.Laws.AppendOwn
namespace Go.E3
open Go.Sy
noncomputable section

/-! paths, trees -/
inductive Pt where
  | z
  | l (p : Pt)
  | r (p : Pt)
  deriving DecidableEq
def Pt.num : Pt → Nat
  | .z => 0
  | .l p => 2 * p.num + 1
  | .r p => 2 * p.num + 2
theorem Pt.num_inj : ∀ {p q : Pt}, p.num = q.num → p = q := by
  intro p
  induction p with
  | z => intro q h; cases q <;> simp [Pt.num] at h; rfl
  | l p ih => intro q h; cases q <;> simp only [Pt.num] at h <;> first | omega | exact congrArg _ (ih (by omega))
  | r p ih => intro q h; cases q <;> simp only [Pt.num] at h <;> first | omega | exact congrArg _ (ih (by omega))
/-- The path of a number. -/
def path (n : Nat) : Pt :=
  Nat.rec (motive := fun _ => Nat → Pt) (fun _ => .z) (fun _ ih n => bif Nat.beq n 0 then .z else bif Nat.beq (Nat.land n 1) 1 then .l (ih (Nat.shiftRight n 1)) else .r (ih (Nat.pred (Nat.shiftRight n 1)))) n n
theorem path_go (f : Nat) : ∀ n, n ≤ f → Pt.num (Nat.rec (motive := fun _ => Nat → Pt) (fun _ => .z) (fun _ ih n => bif Nat.beq n 0 then .z else bif Nat.beq (Nat.land n 1) 1 then .l (ih (Nat.shiftRight n 1)) else .r (ih (Nat.pred (Nat.shiftRight n 1)))) f n) = n := by
  induction f with
  | zero => intro n h; have : n = 0 := by omega
            subst this; rfl
  | succ f ih =>
    intro n h
    have hs : Nat.shiftRight n 1 = n / 2 := by show n >>> 1 = _; simp [Nat.shiftRight_succ]
    have hl : Nat.land n 1 = n % 2 := by show n &&& 1 = _; simp
    simp only [hs, hl]
    cases h0 : Nat.beq n 0 <;> simp only [cond_true, cond_false]
    · have h0' : n ≠ 0 := Nat.ne_of_beq_eq_false h0
      cases h1 : Nat.beq (n % 2) 1 <;> simp only [cond_true, cond_false, Pt.num]
      · have h1' : n % 2 ≠ 1 := Nat.ne_of_beq_eq_false h1
        rw [ih _ (by simp only [Nat.pred_eq_sub_one]; omega)]
        simp only [Nat.pred_eq_sub_one]; omega
      · have h1' : n % 2 = 1 := Nat.eq_of_beq_eq_true h1
        rw [ih _ (by omega)]; omega
    · exact (Nat.eq_of_beq_eq_true h0).symm
theorem path_num (n : Nat) : (path n).num = n := path_go n n (Nat.le_refl _)
theorem path_inj {m n : Nat} (h : path m = path n) : m = n := by rw [← path_num m, ← path_num n, h]
theorem path_ne {m n : Nat} (h : m ≠ n) : path m ≠ path n := fun he => h (path_inj he)
/-- The next one, written out. -/
def Pt.succ : Pt → Pt
  | .z => .l .z
  | .l p => .r p
  | .r p => .l p.succ
theorem Pt.succ_num (p : Pt) : p.succ.num = p.num + 1 := by
  induction p with
  | z => rfl
  | l p ih => rfl
  | r p ih => simp only [Pt.succ, Pt.num, ih]; omega
def Pt.sucK {β : Type} (p : Pt) : (Pt → β) → β :=
  Pt.rec (motive := fun _ => (Pt → β) → β) (fun k => k (.l .z)) (fun p _ k => k (.r p)) (fun _ ih k => ih fun p => k (.l p)) p
theorem Pt.sucK_eq {β : Type} (p : Pt) : ∀ (k : Pt → β), p.sucK k = k p.succ := by
  induction p with
  | z => intro k; rfl
  | l p ih => intro k; rfl
  | r p ih => intro k; exact ih _
def Pt.beq (p : Pt) : Pt → Bool :=
  Pt.rec (motive := fun _ => Pt → Bool) (fun q => Pt.casesOn q true (fun _ => false) (fun _ => false)) (fun _ ih q => Pt.casesOn q false (fun q => ih q) (fun _ => false)) (fun _ ih q => Pt.casesOn q false (fun _ => false) (fun q => ih q)) p
theorem Pt.beq_iff {p : Pt} : ∀ {q : Pt}, p.beq q = true ↔ p = q := by
  induction p with
  | z => intro q; cases q <;> simp [Pt.beq]
  | l p ih =>
    intro q; cases q with
    | l q => exact (ih (q := q)).trans ⟨fun h => by rw [h], fun h => by cases h; rfl⟩
    | _ => simp [Pt.beq]
  | r p ih =>
    intro q; cases q with
    | r q => exact (ih (q := q)).trans ⟨fun h => by rw [h], fun h => by cases h; rfl⟩
    | _ => simp [Pt.beq]

inductive Tri (α : Type) where
  | e
  | n (x : Option α) (l r : Tri α)
section tri
variable {α β : Type}
def Tri.top (t : Tri α) : Option α := Tri.rec (motive := fun _ => Option α) none (fun x _ _ _ _ => x) t
def Tri.lft (t : Tri α) : Tri α := Tri.rec (motive := fun _ => Tri α) .e (fun _ l _ _ _ => l) t
def Tri.rgt (t : Tri α) : Tri α := Tri.rec (motive := fun _ => Tri α) .e (fun _ _ r _ _ => r) t
def Tri.get (t : Tri α) (p : Pt) : Option α :=
  Pt.rec (motive := fun _ => Tri α → Option α) (fun t => Tri.rec (motive := fun _ => Option α) none (fun x _ _ _ _ => x) t) (fun _ ih t => Tri.rec (motive := fun _ => Option α) none (fun _ l _ _ _ => ih l) t) (fun _ ih t => Tri.rec (motive := fun _ => Option α) none (fun _ _ r _ _ => ih r) t) p t
theorem Tri.get_z (t : Tri α) : t.get .z = t.top := rfl
theorem Tri.get_e (p : Pt) : (Tri.e : Tri α).get p = none := by cases p <;> rfl
theorem Tri.get_l (t : Tri α) (p : Pt) : t.get (.l p) = t.lft.get p := by
  cases t with
  | e => exact (Tri.get_e p).symm
  | n x l r => rfl
theorem Tri.get_r (t : Tri α) (p : Pt) : t.get (.r p) = t.rgt.get p := by
  cases t with
  | e => exact (Tri.get_e p).symm
  | n x l r => rfl
/-- 'y' (something, or nothing) put in at a path: what lies deeper is worked out when it is looked at. -/
def Tri.put (t : Tri α) (p : Pt) (y : Option α) : Tri α :=
  Pt.rec (motive := fun _ => Tri α → Tri α) (fun t => .n y t.lft t.rgt) (fun _ ih t => .n t.top (ih t.lft) t.rgt) (fun _ ih t => .n t.top t.lft (ih t.rgt)) p t
def Tri.putK (t : Tri α) (p : Pt) (y : Option α) (k : Tri α → β) : β := Tri.rec (motive := fun _ => β) (k .e) (fun x l r _ _ => k (.n x l r)) (t.put p y)
theorem Tri.putK_eq (p : Pt) (y : Option α) (t : Tri α) (k : Tri α → β) : t.putK p y k = k (t.put p y) := by
  unfold Tri.putK
  cases t.put p y <;> rfl
theorem Tri.put_z (t : Tri α) (y : Option α) : t.put .z y = .n y t.lft t.rgt := rfl
theorem Tri.put_l (t : Tri α) (p : Pt) (y : Option α) : t.put (.l p) y = .n t.top (t.lft.put p y) t.rgt := rfl
theorem Tri.put_r (t : Tri α) (p : Pt) (y : Option α) : t.put (.r p) y = .n t.top t.lft (t.rgt.put p y) := rfl
theorem Tri.get_put_same (p : Pt) (y : Option α) : ∀ (t : Tri α), (t.put p y).get p = y := by
  induction p with
  | z => intro t; rw [Tri.put_z]; rfl
  | l p ih => intro t; rw [Tri.put_l, Tri.get_l]; exact ih _
  | r p ih => intro t; rw [Tri.put_r, Tri.get_r]; exact ih _
theorem Tri.get_put_ne {p : Pt} (y : Option α) : ∀ {q : Pt} (t : Tri α), p ≠ q → (t.put p y).get q = t.get q := by
  induction p with
  | z => intro q t h; rw [Tri.put_z]; cases q with
    | z => exact (h rfl).elim
    | l q => rw [Tri.get_l, Tri.get_l]; rfl
    | r q => rw [Tri.get_r, Tri.get_r]; rfl
  | l p ih => intro q t h; rw [Tri.put_l]; cases q with
    | z => rw [Tri.get_z, Tri.get_z]; rfl
    | l q => rw [Tri.get_l, Tri.get_l]; exact ih _ fun e => h (by rw [e])
    | r q => rw [Tri.get_r, Tri.get_r]; rfl
  | r p ih => intro q t h; rw [Tri.put_r]; cases q with
    | z => rw [Tri.get_z, Tri.get_z]; rfl
    | l q => rw [Tri.get_l, Tri.get_l]; rfl
    | r q => rw [Tri.get_r, Tri.get_r]; exact ih _ fun e => h (by rw [e])
theorem Tri.get_put (t : Tri α) (p q : Pt) (y : Option α) : (t.put p y).get q = if p = q then y else t.get q := by
  by_cases h : p = q
  · rw [if_pos h, ← h, Tri.get_put_same]
  · rw [if_neg h, Tri.get_put_ne _ _ h]
end tri
end
end Go.E3
namespace Go.E3
open Go.Sy
noncomputable section

/-! values -/
/-- A block of the world: its number, how many cells it has. -/
structure Rb where
  g : Nat
  z : Nat
instance : Inhabited Rb := ⟨⟨0, 0⟩⟩
/-- A slice's capacity: known; or all that is left of its block but for some elements. -/
inductive Cp where
  | k (n : Nat)
  | r (sz d : Nat)
def Cp.val (z : Nat) : Cp → Nat
  | .k n => n
  | .r sz d => z / sz - d
/-- .. of blocks of whole elements, not too many. -/
def Cp.fit (z : Nat) : Cp → Prop
  | .k _ => True
  | .r sz _ => z = z / sz * sz ∧ z / sz ≤ maxLen
inductive C where
  | int (k : IntKind) (t : T)
  | bool (t : T)
  | ptr (b : Pt) (o : Nat)
  | nilp
  | slc (b : Pt) (o len : Nat) (c : Cp)
  | nils
  | str (l : List T)
  | fn (f : Nat) (caps : List C)
  | nilf
  | map (b : Pt)
  | nilm
  | ifc (t : TypeId) (g : Bool) (cs : List C)
  | nili
  | raw (v : Value)
  | any (i : Nat)
inductive A where
  | c (x : C)
  | agg (xs : List C)
inductive L where
  | a (x : A)
  | tup (xs : List A)
  | gd (c : T) (x : A)

/-- A byte. -/
def byteOf (n : Int) : UInt8 := UInt8.ofNat n.toNat
def strOf (E : Env) (l : List T) : Value := .string ⟨(l.map fun t => byteOf (t.den E)).toArray⟩
mutual
def C.val (E : Env) (ρ : Pt → Rb) : C → Value
  | .int k t => .int k (t.den E)
  | .bool t => .bool (t.tr E)
  | .ptr b o => .pointer (some ⟨(ρ b).g, o, none⟩)
  | .nilp => .pointer none
  | .slc b o len c => .slice (some ⟨(ρ b).g, o, none⟩) len (c.val (ρ b).z)
  | .nils => .slice none 0 0
  | .str l => strOf E l
  | .fn f caps => .func (.func f) #[] (C.vals E ρ caps).toArray
  | .nilf => .nilFunc
  | .map b => .map (some (ρ b).g)
  | .nilm => .map none
  | .ifc t g cs => .iface t (bif g then .agg (C.vals E ρ cs).toArray else (C.vals E ρ cs).headD undef)
  | .nili => .nilIface
  | .raw v => v
  | .any i => E.V i
def C.vals (E : Env) (ρ : Pt → Rb) : List C → List Value
  | [] => []
  | x :: xs => x.val E ρ :: C.vals E ρ xs
end
mutual
def C.ok (E : Env) (ρ : Pt → Rb) (D : Pt → Prop) : C → Prop
  | .ptr b _ => D b
  | .slc b _ len c => D b ∧ len ≤ c.val (ρ b).z ∧ c.fit (ρ b).z
  | .str l => ∀ t ∈ l, 0 ≤ t.den E ∧ t.den E ≤ 255
  | .fn _ caps => C.oks E ρ D caps
  | .map b => D b
  | .ifc _ _ cs => C.oks E ρ D cs
  | .raw v => v.oneCell' = true
  | .any i => (E.V i).oneCell' = true
  | _ => True
def C.oks (E : Env) (ρ : Pt → Rb) (D : Pt → Prop) : List C → Prop
  | [] => True
  | x :: xs => x.ok E ρ D ∧ C.oks E ρ D xs
end
theorem vals_map (E : Env) (ρ : Pt → Rb) (xs : List C) : C.vals E ρ xs = xs.map (C.val E ρ) := by
  induction xs with
  | nil => rfl
  | cons x xs ih => simp [C.vals, ih]
theorem oks_iff {E : Env} {ρ : Pt → Rb} {D : Pt → Prop} {xs : List C} : C.oks E ρ D xs ↔ ∀ x ∈ xs, x.ok E ρ D := by
  induction xs with
  | nil => simp [C.oks]
  | cons x xs ih => simp [C.oks, ih]
theorem C.one {E : Env} {ρ : Pt → Rb} {D : Pt → Prop} {x : C} (h : x.ok E ρ D) : (x.val E ρ).oneCell' = true := by
  cases x <;> first | rfl | exact h | skip
def A.val (E : Env) (ρ : Pt → Rb) : A → Value
  | .c x => x.val E ρ
  | .agg xs => .agg (xs.map (C.val E ρ)).toArray
def A.ok (E : Env) (ρ : Pt → Rb) (D : Pt → Prop) : A → Prop
  | .c x => x.ok E ρ D
  | .agg xs => ∀ x ∈ xs, x.ok E ρ D
def L.val (E : Env) (ρ : Pt → Rb) : L → Value
  | .a x => x.val E ρ
  | .tup xs => .tuple (xs.map (A.val E ρ)).toArray
  | .gd c x => if c.tr E = true then x.val E ρ else undef
def L.ok (E : Env) (ρ : Pt → Rb) (D : Pt → Prop) : L → Prop
  | .a x => x.ok E ρ D
  | .tup xs => ∀ x ∈ xs, x.ok E ρ D
  | .gd c x => c.tr E = true → x.ok E ρ D

/-- More blocks, those that there were as they were. -/
structure Grow (ρ : Pt → Rb) (D : Pt → Prop) (ρ' : Pt → Rb) (D' : Pt → Prop) : Prop where
  rb : ∀ b, D b → ρ' b = ρ b
  sub : ∀ b, D b → D' b
theorem Grow.refl {ρ : Pt → Rb} {D : Pt → Prop} : Grow ρ D ρ D := ⟨fun _ _ => rfl, fun _ h => h⟩
theorem Grow.trans {ρ ρ' ρ'' : Pt → Rb} {D D' D'' : Pt → Prop} (h : Grow ρ D ρ' D') (h' : Grow ρ' D' ρ'' D'') : Grow ρ D ρ'' D'' :=
  ⟨fun b hb => (h'.rb b (h.sub b hb)).trans (h.rb b hb), fun b hb => h'.sub b (h.sub b hb)⟩
theorem C.grow {E : Env} {ρ ρ' : Pt → Rb} {D D' : Pt → Prop} (g : Grow ρ D ρ' D') (x : C) : x.ok E ρ D → x.ok E ρ' D' ∧ x.val E ρ' = x.val E ρ := by
  refine C.rec (motive_1 := fun x => x.ok E ρ D → x.ok E ρ' D' ∧ x.val E ρ' = x.val E ρ) (motive_2 := fun xs => C.oks E ρ D xs → C.oks E ρ' D' xs ∧ C.vals E ρ' xs = C.vals E ρ xs)
    ?_ ?_ ?_ ?_ ?_ ?_ ?_ ?_ ?_ ?_ ?_ ?_ ?_ ?_ ?_ ?_ ?_ x
  · exact fun k t _ => ⟨trivial, rfl⟩
  · exact fun t _ => ⟨trivial, rfl⟩
  · exact fun b o h => ⟨g.sub _ h, by simp only [C.val, g.rb b h]⟩
  · exact fun _ => ⟨trivial, rfl⟩
  · exact fun b o len c h => ⟨⟨g.sub _ h.1, by rw [g.rb b h.1]; exact h.2⟩, by simp only [C.val, g.rb b h.1]⟩
  · exact fun _ => ⟨trivial, rfl⟩
  · exact fun l h => ⟨h, rfl⟩
  · exact fun f caps ih h => ⟨(ih h).1, by simp only [C.val, (ih h).2]⟩
  · exact fun _ => ⟨trivial, rfl⟩
  · exact fun b h => ⟨g.sub _ h, by simp only [C.val, g.rb b h]⟩
  · exact fun _ => ⟨trivial, rfl⟩
  · exact fun t gg cs ih h => ⟨(ih h).1, by simp only [C.val, (ih h).2]⟩
  · exact fun _ => ⟨trivial, rfl⟩
  · exact fun v h => ⟨h, rfl⟩
  · exact fun i h => ⟨h, rfl⟩
  · exact fun _ => ⟨trivial, rfl⟩
  · exact fun x xs ih ihs h => ⟨⟨(ih h.1).1, (ihs h.2).1⟩, by simp only [C.vals, (ih h.1).2, (ihs h.2).2]⟩
theorem A.grow {E : Env} {ρ ρ' : Pt → Rb} {D D' : Pt → Prop} (g : Grow ρ D ρ' D') (x : A) (h : x.ok E ρ D) : x.ok E ρ' D' ∧ x.val E ρ' = x.val E ρ := by
  cases x with
  | c x => exact x.grow g h
  | agg xs => exact ⟨fun x hx => (x.grow g (h x hx)).1, by simp only [A.val]; rw [List.map_congr_left fun x hx => (x.grow g (h x hx)).2]⟩
theorem L.grow {E : Env} {ρ ρ' : Pt → Rb} {D D' : Pt → Prop} (g : Grow ρ D ρ' D') (x : L) (h : x.ok E ρ D) : x.ok E ρ' D' ∧ x.val E ρ' = x.val E ρ := by
  cases x with
  | a x => exact x.grow g h
  | tup xs => exact ⟨fun x hx => (x.grow g (h x hx)).1, by simp only [L.val]; rw [List.map_congr_left fun x hx => (x.grow g (h x hx)).2]⟩
  | gd c x =>
    refine ⟨fun hc => (x.grow g (h hc)).1, ?_⟩
    simp only [L.val]
    split
    · rename_i hc; exact (x.grow g (h hc)).2
    · rfl

/-- A cell. -/
def cellAt (n : Nat) (d : List C) (t : Tri C) (i : Nat) : Option C := bif Nat.ble n i then none else match t.get (path i) with
  | some x => some x
  | none => match d with
    | [] => none
    | d => d[Nat.mod i d.length]?
end
end Go.E3
namespace Go.E3
open Go.Sy
noncomputable section
def g1 : Tri C := (.n (some (.int .u64 (.lit 1))) (.n (some (.int .u64 (.lit 10))) (.n (some (.int .u64 (.lit 1000))) (.n (some (.int .u64 (.lit 10000000))) (.n (some (.int .u64 (.lit 1000000000000000))) .e .e) .e) (.n (some (.int .u64 (.lit 100000000000))) (.n (some (.int .u64 (.lit 10000000000000000000))) .e .e) .e)) (.n (some (.int .u64 (.lit 100000))) (.n (some (.int .u64 (.lit 1000000000))) (.n (some (.int .u64 (.lit 100000000000000000))) .e .e) .e) (.n (some (.int .u64 (.lit 10000000000000))) .e .e))) (.n (some (.int .u64 (.lit 100))) (.n (some (.int .u64 (.lit 10000))) (.n (some (.int .u64 (.lit 100000000))) (.n (some (.int .u64 (.lit 10000000000000000))) .e .e) .e) (.n (some (.int .u64 (.lit 1000000000000))) .e .e)) (.n (some (.int .u64 (.lit 1000000))) (.n (some (.int .u64 (.lit 10000000000))) (.n (some (.int .u64 (.lit 1000000000000000000))) .e .e) .e) (.n (some (.int .u64 (.lit 100000000000000))) .e .e))))
def g2 : Tri C := .n (some (.any 0)) .e .e
def g3 : Tri C := .n (some (.any 1)) .e .e
def g6 : Tri C := (.n (some (.int .u8 (.lit 0))) (.n (some (.int .u8 (.lit 1))) (.n (some (.int .u8 (.lit 2))) (.n (some (.int .u8 (.lit 3))) (.n (some (.int .u8 (.lit 8))) (.n (some (.int .u8 (.lit 9))) .e .e) .e) (.n (some (.int .u8 (.lit 7))) .e .e)) (.n (some (.int .u8 (.lit 15))) (.n (some (.int .u8 (.lit 23))) .e .e) (.n (some (.int .u8 (.lit 6))) .e .e))) (.n (some (.int .u8 (.lit 14))) (.n (some (.int .u8 (.lit 22))) (.n (some (.int .u8 (.lit 27))) .e .e) (.n (some (.int .u8 (.lit 12))) .e .e)) (.n (some (.int .u8 (.lit 17))) (.n (some (.int .u8 (.lit 19))) .e .e) (.n (some (.int .u8 (.lit 5))) .e .e)))) (.n (some (.int .u8 (.lit 28))) (.n (some (.int .u8 (.lit 29))) (.n (some (.int .u8 (.lit 30))) (.n (some (.int .u8 (.lit 31))) .e .e) (.n (some (.int .u8 (.lit 26))) .e .e)) (.n (some (.int .u8 (.lit 25))) (.n (some (.int .u8 (.lit 21))) .e .e) (.n (some (.int .u8 (.lit 11))) .e .e))) (.n (some (.int .u8 (.lit 24))) (.n (some (.int .u8 (.lit 20))) (.n (some (.int .u8 (.lit 13))) .e .e) (.n (some (.int .u8 (.lit 18))) .e .e)) (.n (some (.int .u8 (.lit 4))) (.n (some (.int .u8 (.lit 16))) .e .e) (.n (some (.int .u8 (.lit 10))) .e .e)))))
def g7 : Tri C := (.n (some (.int .u8 (.lit 0))) (.n (some (.int .u8 (.lit 1))) (.n (some (.int .u8 (.lit 2))) (.n (some (.int .u8 (.lit 3))) (.n (some (.int .u8 (.lit 4))) (.n (some (.int .u8 (.lit 5))) (.n (some (.int .u8 (.lit 6))) .e .e) .e) (.n (some (.int .u8 (.lit 11))) .e .e)) (.n (some (.int .u8 (.lit 22))) (.n (some (.int .u8 (.lit 16))) .e .e) (.n (some (.int .u8 (.lit 10))) .e .e))) (.n (some (.int .u8 (.lit 50))) (.n (some (.int .u8 (.lit 36))) (.n (some (.int .u8 (.lit 27))) .e .e) (.n (some (.int .u8 (.lit 15))) .e .e)) (.n (some (.int .u8 (.lit 30))) (.n (some (.int .u8 (.lit 21))) .e .e) (.n (some (.int .u8 (.lit 9))) .e .e)))) (.n (some (.int .u8 (.lit 49))) (.n (some (.int .u8 (.lit 58))) (.n (some (.int .u8 (.lit 47))) (.n (some (.int .u8 (.lit 55))) .e .e) (.n (some (.int .u8 (.lit 26))) .e .e)) (.n (some (.int .u8 (.lit 39))) (.n (some (.int .u8 (.lit 35))) .e .e) (.n (some (.int .u8 (.lit 14))) .e .e))) (.n (some (.int .u8 (.lit 29))) (.n (some (.int .u8 (.lit 43))) (.n (some (.int .u8 (.lit 41))) .e .e) (.n (some (.int .u8 (.lit 20))) .e .e)) (.n (some (.int .u8 (.lit 18))) (.n (some (.int .u8 (.lit 32))) .e .e) (.n (some (.int .u8 (.lit 8))) .e .e))))) (.n (some (.int .u8 (.lit 56))) (.n (some (.int .u8 (.lit 57))) (.n (some (.int .u8 (.lit 61))) (.n (some (.int .u8 (.lit 62))) (.n (some (.int .u8 (.lit 63))) .e .e) (.n (some (.int .u8 (.lit 54))) .e .e)) (.n (some (.int .u8 (.lit 53))) (.n (some (.int .u8 (.lit 46))) .e .e) (.n (some (.int .u8 (.lit 25))) .e .e))) (.n (some (.int .u8 (.lit 38))) (.n (some (.int .u8 (.lit 45))) (.n (some (.int .u8 (.lit 60))) .e .e) (.n (some (.int .u8 (.lit 34))) .e .e)) (.n (some (.int .u8 (.lit 24))) (.n (some (.int .u8 (.lit 52))) .e .e) (.n (some (.int .u8 (.lit 13))) .e .e)))) (.n (some (.int .u8 (.lit 28))) (.n (some (.int .u8 (.lit 42))) (.n (some (.int .u8 (.lit 59))) (.n (some (.int .u8 (.lit 48))) .e .e) (.n (some (.int .u8 (.lit 40))) .e .e)) (.n (some (.int .u8 (.lit 33))) (.n (some (.int .u8 (.lit 44))) .e .e) (.n (some (.int .u8 (.lit 19))) .e .e))) (.n (some (.int .u8 (.lit 17))) (.n (some (.int .u8 (.lit 51))) (.n (some (.int .u8 (.lit 37))) .e .e) (.n (some (.int .u8 (.lit 31))) .e .e)) (.n (some (.int .u8 (.lit 12))) (.n (some (.int .u8 (.lit 23))) .e .e) (.n (some (.int .u8 (.lit 7))) .e .e))))))
/-- Package variables that stand as they were laid: how many cells, what lies there as far as it is told. -/
def gTab : Tri (Nat × Tri C) := (.n none (.n (some (20, g1)) (.n (some (1, g3)) (.n (some (64, g7)) .e .e) .e) .e) (.n (some (1, g2)) .e (.n (some (32, g6)) .e .e)))
end
end Go.E3
namespace Go.E3
open Go.Sy
noncomputable section

/-! blocks -/
structure Ent where
  key : A
  val : A
  born : Nat
inductive B where
  | cells (ty : TypeId) (n : Nat) (k : Bool) (d : List C) (t : Tri C)   -- 'n' cells at least ('k': just so many); 'd': what lies there over and over, where nothing else is told
  | map (es : List Ent) (clock : Nat)
  | miter (m : Option Pt) (since : Nat) (seen : List Nat) (last : Nat)
  | siter (s : List T) (pos : Nat)
  | ro (n : Nat) (t : Tri C)   -- cells that are only read
def BR (E : Env) (ρ : Pt → Rb) (D : Pt → Prop) (z : Nat) : B → Option Obj → Prop
  | .cells ty n k d t, o => ∃ cs, o = some (.cells cs ty (0, 0)) ∧ cs.size = z ∧ n ≤ z ∧ (k = true → z = n) ∧ ∀ i x, cellAt n d t i = some x → x.ok E ρ D ∧ cs[i]? = some (x.val E ρ)
  | .map es clock, o => o = some (.map (es.map fun e => { key := e.key.val E ρ, val := e.val.val E ρ, born := e.born }).toArray clock) ∧ ∀ e ∈ es, e.key.ok E ρ D ∧ e.val.ok E ρ D
  | .miter m since seen last, o => o = some (.mapIter (m.map fun b => (ρ b).g) since seen.toArray last) ∧ ∀ b, m = some b → D b
  | .ro n t, o => ∃ cs ty fz, o = some (.cells cs ty fz) ∧ ∀ i x, cellAt n [] t i = some x → x.ok E ρ D ∧ cs[i]? = some (x.val E ρ)
  | .siter s pos, o => (∃ b, strOf E s = .string b ∧ o = some (.stringIter b pos)) ∧ ∀ t ∈ s, 0 ≤ t.den E ∧ t.den E ≤ 255
theorem BR.grow {E : Env} {ρ ρ' : Pt → Rb} {D D' : Pt → Prop} (g : Grow ρ D ρ' D') {z : Nat} {x : B} {o : Option Obj} (h : BR E ρ D z x o) : BR E ρ' D' z x o := by
  cases x with
  | cells ty n k d t =>
    obtain ⟨cs, h1, h2, h3, h4, h5⟩ := h
    exact ⟨cs, h1, h2, h3, h4, fun i x hx => ⟨(x.grow g (h5 i x hx).1).1, by rw [(x.grow g (h5 i x hx).1).2]; exact (h5 i x hx).2⟩⟩
  | map es clock =>
    obtain ⟨h1, h2⟩ := h
    refine ⟨h1.trans ?_, fun e he => ⟨(e.key.grow g (h2 e he).1).1, (e.val.grow g (h2 e he).2).1⟩⟩
    rw [List.map_congr_left (g := fun e : Ent => ({ key := e.key.val E ρ', val := e.val.val E ρ', born := e.born } : MapEntry)) fun e he => by rw [(e.key.grow g (h2 e he).1).2, (e.val.grow g (h2 e he).2).2]]
  | miter m since seen last =>
    obtain ⟨h1, h2⟩ := h
    refine ⟨h1.trans ?_, fun b hb => g.sub _ (h2 b hb)⟩
    cases m with
    | none => rfl
    | some b => simp only [Option.map_some, g.rb b (h2 b rfl)]
  | siter s pos => exact h
  | ro n t =>
    obtain ⟨cs, ty, fz, h1, h5⟩ := h
    exact ⟨cs, ty, fz, h1, fun i x hx => ⟨(x.grow g (h5 i x hx).1).1, by rw [(x.grow g (h5 i x hx).1).2]; exact (h5 i x hx).2⟩⟩

/-- Package variables stand as they were laid; no block that may turn is one of them. -/
structure GG (E : Env) (ρ : Pt → Rb) (D : Pt → Prop) (w : World) : Prop where
  at_ : ∀ g n t, gTab.get (path g) = some (n, t) → ∃ cs ty fz, w.heap[g]? = some (.cells cs ty fz) ∧ ∀ i x, cellAt n [] t i = some x → ∀ (E' : Env) (ρ : Pt → Rb) (D : Pt → Prop), E'.V = E.V → x.ok E' ρ D ∧ cs[i]? = some (x.val E' ρ)
  off : ∀ g nt b, gTab.get (path g) = some nt → D b → (ρ b).g ≠ g
theorem GG.turn {E : Env} {ρ ρ' : Pt → Rb} {D D' : Pt → Prop} {w w' : World} (h : GG E ρ D w) (hh : ∀ k, k < w.heap.size → (∀ b, D b → (ρ b).g ≠ k) → w'.heap[k]? = w.heap[k]?)
    (hD : ∀ b, D' b → (D b ∧ (ρ' b).g = (ρ b).g) ∨ w.heap.size ≤ (ρ' b).g ∨ ∃ b0, D b0 ∧ (ρ' b).g = (ρ b0).g) : GG E ρ' D' w' where
  at_ g n t hg := by
    obtain ⟨cs, ty, fz, h1, h2⟩ := h.at_ g n t hg
    refine ⟨cs, ty, fz, ?_, h2⟩
    rw [hh g (Array.getElem?_eq_some_iff.1 h1).1 fun b hb => h.off g _ b hg hb]
    exact h1
  off g nt b hg hb := by
    rcases hD b hb with ⟨h1, h2⟩ | h1 | ⟨b0, h1, h2⟩
    · rw [h2]; exact h.off g nt b hg h1
    · obtain ⟨cs, ty, fz, h3, _⟩ := h.at_ g nt.1 nt.2 hg
      have := (Array.getElem?_eq_some_iff.1 h3).1
      omega
    · rw [h2]; exact h.off g nt b0 hg h1
theorem GG.sub {E : Env} {ρ ρ' : Pt → Rb} {D D' : Pt → Prop} {w w' : World} (h : GG E ρ D w) (hh : w'.heap = w.heap) (hD : ∀ b, D' b → D b ∧ (ρ' b).g = (ρ b).g) : GG E ρ' D' w' :=
  h.turn (fun _ _ _ => by rw [hh]) fun b hb => .inl (hD b hb)
/-- In another world of letters. -/
theorem GG.env {E E' : Env} {ρ ρ' : Pt → Rb} {D : Pt → Prop} {w : World} (h : GG E ρ D w) (hV : E'.V = E.V) : GG E' ρ' (fun _ => False) w :=
  ⟨fun g n t hg => by
    obtain ⟨cs, ty, fz, h1, h2⟩ := h.at_ g n t hg
    exact ⟨cs, ty, fz, h1, fun i x hx E'' ρ D hV' => h2 i x hx E'' ρ D (hV'.trans hV)⟩, fun _ _ _ _ hb => hb.elim⟩
/-- The blocks. -/
structure MR (E : Env) (ρ : Pt → Rb) (D : Pt → Prop) (m : Tri B) (w : World) : Prop where
  gl : GG E ρ D w
  mem : ∀ b x, D b → m.get b = some x → BR E ρ D (ρ b).z x w.heap[(ρ b).g]?
  inj : ∀ b b' x x', D b → D b' → m.get b = some x → m.get b' = some x' → (ρ b).g = (ρ b').g → b = b'
theorem BR.lt {E : Env} {ρ : Pt → Rb} {D : Pt → Prop} {z : Nat} {x : B} {w : World} {g : Nat} (h : BR E ρ D z x w.heap[g]?) : g < w.heap.size := by
  have key : ∀ {o : Obj}, w.heap[g]? = some o → g < w.heap.size := fun h => (Array.getElem?_eq_some_iff.1 h).1
  cases x with
  | cells ty n k d t => obtain ⟨cs, h1, _⟩ := h; exact key h1
  | map es clock => exact key h.1
  | miter m since seen last => exact key h.1
  | siter s pos => obtain ⟨⟨b, _, h1⟩, _⟩ := h; exact key h1
  | ro n t => obtain ⟨cs, ty, fz, h1, _⟩ := h; exact key h1
/-- The slots of a kind. -/
def SR (E : Env) (ρ : Pt → Rb) (D : Pt → Prop) (s : Tri L) (tmps : Array Value) : Prop :=
  ∀ (t : Nat) (l : L), s.get (path t) = some l → l.ok E ρ D ∧ tmps[t]? = some (l.val E ρ)
theorem SR.grow {E : Env} {ρ ρ' : Pt → Rb} {D D' : Pt → Prop} (g : Grow ρ D ρ' D') {s : Tri L} {tmps : Array Value} (h : SR E ρ D s tmps) : SR E ρ' D' s tmps :=
  fun t l hl => ⟨(l.grow g (h t l hl).1).1, by rw [(l.grow g (h t l hl).1).2]; exact (h t l hl).2⟩

/-- Blocks' numbers from one on up to another. -/
def Rg (a b : Pt) (p : Pt) : Prop := a.num ≤ p.num ∧ p.num < b.num
def Un (D D' : Pt → Prop) (p : Pt) : Prop := D p ∨ D' p
/-- How the world turns: only blocks of 'D' may have turned; new ones lie under new numbers, or under those of blocks of 'D'. -/
structure Turn (E : Env) (ρ : Pt → Rb) (D : Pt → Prop) (m : Tri B) (nx : Pt) (w : World) (ρ' : Pt → Rb) (m' : Tri B) (nx' : Pt) (w' : World) : Prop where
  le : nx.num ≤ nx'.num
  rb : ∀ b, D b → ρ' b = ρ b
  mr : MR E ρ' (Un D (Rg nx nx')) m' w'
  off : ∀ b, ¬ D b → ¬ Rg nx nx' b → m'.get b = m.get b
  new : ∀ b, Rg nx nx' b → w.heap.size ≤ (ρ' b).g ∨ ∃ b0, D b0 ∧ (ρ' b).g = (ρ b0).g
  os : w'.os = w.os
  tape : w'.tape = w.tape
  output : w'.output = w.output
  size : w.heap.size ≤ w'.heap.size
  heap : ∀ k, k < w.heap.size → (∀ b, D b → (ρ b).g ≠ k) → w'.heap[k]? = w.heap[k]?
theorem Rg.split {a b c p : Pt} (h1 : a.num ≤ b.num) (h2 : b.num ≤ c.num) : Rg a c p ↔ Rg a b p ∨ Rg b c p := by unfold Rg; omega
theorem un_rg {D : Pt → Prop} {a b c : Pt} (h1 : a.num ≤ b.num) (h2 : b.num ≤ c.num) : Un (Un D (Rg a b)) (Rg b c) = Un D (Rg a c) := by
  funext p
  simp only [Un, eq_iff_iff, Rg.split h1 h2]
  exact ⟨fun h => by rcases h with (h | h) | h <;> simp [h], fun h => by rcases h with h | h | h <;> simp [h]⟩
variable {E : Env} {ρ ρ' ρ'' : Pt → Rb} {D : Pt → Prop} {m m' m'' : Tri B} {nx nx' nx'' : Pt} {w w' w'' : World}
theorem Turn.grow (h : Turn E ρ D m nx w ρ' m' nx' w') : Grow ρ D ρ' (Un D (Rg nx nx')) := ⟨h.rb, fun _ => .inl⟩
theorem rg_self (a p : Pt) : ¬ Rg a a p := by unfold Rg; omega
theorem un_self (D : Pt → Prop) (a : Pt) : Un D (Rg a a) = D := by
  funext p
  exact propext ⟨fun h => h.elim id fun h => (rg_self _ _ h).elim, .inl⟩
/-- Nothing has turned. -/
theorem Turn.refl (h : MR E ρ D m w) : Turn E ρ D m nx w ρ m nx w :=
  ⟨Nat.le_refl _, fun _ _ => rfl, by rw [un_self]; exact h, fun _ _ _ => rfl, fun b hb => (rg_self _ _ hb).elim, rfl, rfl, rfl, Nat.le_refl _, fun _ _ _ => rfl⟩
theorem Turn.trans (h : Turn E ρ D m nx w ρ' m' nx' w') (h' : Turn E ρ' (Un D (Rg nx nx')) m' nx' w' ρ'' m'' nx'' w'') : Turn E ρ D m nx w ρ'' m'' nx'' w'' where
  le := Nat.le_trans h.le h'.le
  rb b hb := (h'.rb b (.inl hb)).trans (h.rb b hb)
  mr := by have := h'.mr; rwa [un_rg h.le h'.le] at this
  off b hb hr := by
    rw [Rg.split h.le h'.le] at hr
    exact (h'.off b (fun hu => hu.elim hb fun hu => hr (.inl hu)) fun hu => hr (.inr hu)).trans (h.off b hb fun hu => hr (.inl hu))
  new b hb := by
    rcases (Rg.split h.le h'.le).1 hb with hb | hb
    · rw [h'.rb b (.inr hb)]; exact h.new b hb
    · rcases h'.new b hb with h1 | ⟨b0, h1 | h1, h2⟩
      · exact .inl (Nat.le_trans h.size h1)
      · exact .inr ⟨b0, h1, by rw [h2, h.rb b0 h1]⟩
      · rcases h.new b0 h1 with h3 | ⟨b1, h3, h4⟩
        · exact .inl (by rw [h2]; exact h3)
        · exact .inr ⟨b1, h3, h2.trans h4⟩
  os := h'.os.trans h.os
  tape := h'.tape.trans h.tape
  output := h'.output.trans h.output
  size := Nat.le_trans h.size h'.size
  heap k hk hb := by
    refine (h'.heap k (Nat.lt_of_lt_of_le hk h.size) fun b hb' => ?_).trans (h.heap k hk hb)
    rcases hb' with hb' | hb'
    · rw [h.rb b hb']; exact hb b hb'
    · rcases h.new b hb' with h1 | ⟨b0, h1, h2⟩
      · omega
      · rw [h2]; exact hb b0 h1
end
end Go.E3
