/- Part Ze1 of a checked reader of Go texts in their model form: it runs a function at terms in the place of numbers, and each part proves that its answers hold of the model. -/
import Derived.Test.YtgnfekfikifgiaaGreatWyZd4
namespace Go.E3
open Go.Sy
noncomputable section
/-! values with their blocks under other numbers -/
mutual
def C.rnm (f : Pt → Option Pt) : C → Option C
  | .ptr b o => match f b with
    | some b' => some (.ptr b' o)
    | none => none
  | .slc b o n c => match f b with
    | some b' => some (.slc b' o n c)
    | none => none
  | .map b => match f b with
    | some b' => some (.map b')
    | none => none
  | .fn g caps => match C.rnms f caps with
    | some l => some (.fn g l)
    | none => none
  | .ifc t g cs => match C.rnms f cs with
    | some l => some (.ifc t g l)
    | none => none
  | .int k t => some (.int k t)
  | .bool t => some (.bool t)
  | .nilp => some .nilp
  | .nils => some .nils
  | .str l => some (.str l)
  | .nilf => some .nilf
  | .nilm => some .nilm
  | .nili => some .nili
  | .raw v => some (.raw v)
  | .any i => some (.any i)
def C.rnms (f : Pt → Option Pt) : List C → Option (List C)
  | [] => some []
  | x :: xs => match C.rnm f x with
    | some y => match C.rnms f xs with
      | some ys => some (y :: ys)
      | none => none
    | none => none
end
/-- Numbers told anew: what lies under the one lies under the other. -/
def Rn (ρ : Pt → Rb) (D : Pt → Prop) (f : Pt → Option Pt) (ρ' : Pt → Rb) (D' : Pt → Prop) : Prop := ∀ b b', f b = some b' → D b → D' b' ∧ ρ' b' = ρ b
theorem C.rnm_ok {E : Env} {ρ ρ' : Pt → Rb} {D D' : Pt → Prop} {f : Pt → Option Pt} (h : Rn ρ D f ρ' D') (x : C) : ∀ y, C.rnm f x = some y → x.ok E ρ D → y.ok E ρ' D' ∧ y.val E ρ' = x.val E ρ := by
  refine C.rec (motive_1 := fun x => ∀ y, C.rnm f x = some y → x.ok E ρ D → y.ok E ρ' D' ∧ y.val E ρ' = x.val E ρ) (motive_2 := fun xs => ∀ ys, C.rnms f xs = some ys → C.oks E ρ D xs → C.oks E ρ' D' ys ∧ C.vals E ρ' ys = C.vals E ρ xs)
    ?_ ?_ ?_ ?_ ?_ ?_ ?_ ?_ ?_ ?_ ?_ ?_ ?_ ?_ ?_ ?_ ?_ x
  · intro k t y hy _; simp only [C.rnm] at hy; cases hy; exact ⟨trivial, rfl⟩
  · intro t y hy _; simp only [C.rnm] at hy; cases hy; exact ⟨trivial, rfl⟩
  · intro b o y hy hx
    simp only [C.rnm] at hy
    split at hy
    · rename_i b' hb; cases hy
      obtain ⟨h1, h2⟩ := h b b' hb hx
      exact ⟨h1, by simp only [C.val, h2]⟩
    · cases hy
  · intro y hy _; simp only [C.rnm] at hy; cases hy; exact ⟨trivial, rfl⟩
  · intro b o n c y hy hx
    simp only [C.rnm] at hy
    split at hy
    · rename_i b' hb; cases hy
      obtain ⟨h1, h2⟩ := h b b' hb hx.1
      exact ⟨⟨h1, by rw [h2]; exact hx.2⟩, by simp only [C.val, h2]⟩
    · cases hy
  · intro y hy _; simp only [C.rnm] at hy; cases hy; exact ⟨trivial, rfl⟩
  · intro l y hy hx; simp only [C.rnm] at hy; cases hy; exact ⟨hx, rfl⟩
  · intro g caps ih y hy hx
    simp only [C.rnm] at hy
    split at hy
    · rename_i l hl; cases hy
      obtain ⟨h1, h2⟩ := ih l hl hx
      exact ⟨h1, by simp only [C.val, h2]⟩
    · cases hy
  · intro y hy _; simp only [C.rnm] at hy; cases hy; exact ⟨trivial, rfl⟩
  · intro b y hy hx
    simp only [C.rnm] at hy
    split at hy
    · rename_i b' hb; cases hy
      obtain ⟨h1, h2⟩ := h b b' hb hx
      exact ⟨h1, by simp only [C.val, h2]⟩
    · cases hy
  · intro y hy _; simp only [C.rnm] at hy; cases hy; exact ⟨trivial, rfl⟩
  · intro t g cs ih y hy hx
    simp only [C.rnm] at hy
    split at hy
    · rename_i l hl; cases hy
      obtain ⟨h1, h2⟩ := ih l hl hx
      exact ⟨h1, by simp only [C.val, h2]⟩
    · cases hy
  · intro y hy _; simp only [C.rnm] at hy; cases hy; exact ⟨trivial, rfl⟩
  · intro v y hy hx; simp only [C.rnm] at hy; cases hy; exact ⟨hx, rfl⟩
  · intro i y hy hx; simp only [C.rnm] at hy; cases hy; exact ⟨hx, rfl⟩
  · intro ys hy _; simp only [C.rnms] at hy; cases hy; exact ⟨trivial, rfl⟩
  · intro x xs ih ihs ys hy hx
    simp only [C.rnms] at hy
    split at hy
    · rename_i y' h1
      split at hy
      · rename_i ys' h2; cases hy
        obtain ⟨a1, a2⟩ := ih y' h1 hx.1
        obtain ⟨b1, b2⟩ := ihs ys' h2 hx.2
        exact ⟨⟨a1, b1⟩, by simp only [C.vals, a2, b2]⟩
      · cases hy
    · cases hy
theorem C.rnms_ok {E : Env} {ρ ρ' : Pt → Rb} {D D' : Pt → Prop} {f : Pt → Option Pt} (h : Rn ρ D f ρ' D') : ∀ {xs ys : List C}, C.rnms f xs = some ys → (∀ x ∈ xs, x.ok E ρ D) → (∀ y ∈ ys, y.ok E ρ' D') ∧ ys.map (C.val E ρ') = xs.map (C.val E ρ) := by
  intro xs
  induction xs with
  | nil => intro ys hy _; simp only [C.rnms] at hy; cases hy; exact ⟨(fun _ h => nomatch h), rfl⟩
  | cons x xs ih =>
    intro ys hy hx
    simp only [C.rnms] at hy
    split at hy
    · rename_i y' h1
      split at hy
      · rename_i ys' h2; cases hy
        obtain ⟨a1, a2⟩ := x.rnm_ok h y' h1 (hx _ List.mem_cons_self)
        obtain ⟨b1, b2⟩ := ih h2 fun z hz => hx z (List.mem_cons_of_mem _ hz)
        refine ⟨fun z hz => ?_, by simp only [List.map_cons, a2, b2]⟩
        rcases List.mem_cons.1 hz with rfl | hz
        · exact a1
        · exact b1 z hz
      · cases hy
    · cases hy
def A.rnm (f : Pt → Option Pt) : A → Option A
  | .c x => match x.rnm f with
    | some y => some (.c y)
    | none => none
  | .agg xs => match C.rnms f xs with
    | some ys => some (.agg ys)
    | none => none
theorem A.rnm_ok {E : Env} {ρ ρ' : Pt → Rb} {D D' : Pt → Prop} {f : Pt → Option Pt} (h : Rn ρ D f ρ' D') {x y : A} (hy : x.rnm f = some y) (hx : x.ok E ρ D) : y.ok E ρ' D' ∧ y.val E ρ' = x.val E ρ := by
  cases x with
  | c x =>
    simp only [A.rnm] at hy
    split at hy
    · rename_i z hz; cases hy; exact x.rnm_ok h z hz hx
    · cases hy
  | agg xs =>
    simp only [A.rnm] at hy
    split at hy
    · rename_i z hz; cases hy
      obtain ⟨h1, h2⟩ := C.rnms_ok h hz hx
      exact ⟨h1, by simp only [A.val, h2]⟩
    · cases hy
def A.rnms (f : Pt → Option Pt) : List A → Option (List A)
  | [] => some []
  | x :: xs => match x.rnm f with
    | some y => match A.rnms f xs with
      | some ys => some (y :: ys)
      | none => none
    | none => none
theorem A.rnms_ok {E : Env} {ρ ρ' : Pt → Rb} {D D' : Pt → Prop} {f : Pt → Option Pt} (h : Rn ρ D f ρ' D') : ∀ {xs ys : List A}, A.rnms f xs = some ys → (∀ x ∈ xs, x.ok E ρ D) → (∀ y ∈ ys, y.ok E ρ' D') ∧ ys.map (A.val E ρ') = xs.map (A.val E ρ) := by
  intro xs
  induction xs with
  | nil => intro ys hy _; simp only [A.rnms] at hy; cases hy; exact ⟨(fun _ h => nomatch h), rfl⟩
  | cons x xs ih =>
    intro ys hy hx
    simp only [A.rnms] at hy
    split at hy
    · rename_i y' h1
      split at hy
      · rename_i ys' h2; cases hy
        obtain ⟨a1, a2⟩ := A.rnm_ok h h1 (hx _ List.mem_cons_self)
        obtain ⟨b1, b2⟩ := ih h2 fun z hz => hx z (List.mem_cons_of_mem _ hz)
        refine ⟨fun z hz => ?_, by simp only [List.map_cons, a2, b2]⟩
        rcases List.mem_cons.1 hz with rfl | hz
        · exact a1
        · exact b1 z hz
      · cases hy
    · cases hy
def L.rnm (f : Pt → Option Pt) : L → Option L
  | .a x => match x.rnm f with
    | some y => some (.a y)
    | none => none
  | .tup xs => match A.rnms f xs with
    | some ys => some (.tup ys)
    | none => none
  | .gd _ _ => none
theorem L.rnm_ok {E : Env} {ρ ρ' : Pt → Rb} {D D' : Pt → Prop} {f : Pt → Option Pt} (h : Rn ρ D f ρ' D') {x y : L} (hy : x.rnm f = some y) (hx : x.ok E ρ D) : y.ok E ρ' D' ∧ y.val E ρ' = x.val E ρ := by
  cases x with
  | a x =>
    simp only [L.rnm] at hy
    split at hy
    · rename_i z hz; cases hy; exact A.rnm_ok h hz hx
    · cases hy
  | tup xs =>
    simp only [L.rnm] at hy
    split at hy
    · rename_i z hz; cases hy
      obtain ⟨h1, h2⟩ := A.rnms_ok h hz hx
      exact ⟨h1, by simp only [L.val, h2]⟩
    · cases hy
  | gd c x => cases hy
/-- A tree's values turned; none, where one can't be. -/
def Tri.mapO {α : Type} (f : α → Option α) : Tri α → Option (Tri α)
  | .e => some .e
  | .n x l r => match Tri.mapO f l with
    | some l' => match Tri.mapO f r with
      | some r' => match x with
        | none => some (.n none l' r')
        | some x => match f x with
          | some y => some (.n (some y) l' r')
          | none => none
      | none => none
    | none => none
theorem Tri.mapO_get {α : Type} {f : α → Option α} : ∀ {t t' : Tri α}, t.mapO f = some t' → ∀ p, (∀ y, t'.get p = some y → ∃ x, t.get p = some x ∧ f x = some y) := by
  intro t
  induction t with
  | e => intro t' h p y hy; cases h; rw [Tri.get_e] at hy; cases hy
  | n x l r ihl ihr =>
    intro t' h p y hy
    simp only [Tri.mapO] at h
    split at h
    · rename_i l' hl
      split at h
      · rename_i r' hr
        have key : ∀ z : Option α, t' = .n z l' r' → (∀ y, z = some y → ∃ x0, x = some x0 ∧ f x0 = some y) → ∃ x0, (Tri.n x l r).get p = some x0 ∧ f x0 = some y := by
          intro z hz hzz
          subst hz
          cases p with
          | z => exact hzz y hy
          | l p => exact ihl hl p y hy
          | r p => exact ihr hr p y hy
        split at h
        · cases h; exact key none rfl fun y h => by cases h
        · rename_i x0
          split at h
          · rename_i y0 hy0; cases h; exact key (some y0) rfl fun y h => by cases h; exact ⟨x0, rfl, hy0⟩
          · cases h
      · cases h
    · cases h
def Ent.rnm (f : Pt → Option Pt) (e : Ent) : Option Ent := match e.key.rnm f with
  | some k => match e.val.rnm f with
    | some v => some ⟨k, v, e.born⟩
    | none => none
  | none => none
def Ents.rnm (f : Pt → Option Pt) : List Ent → Option (List Ent)
  | [] => some []
  | e :: es => match e.rnm f with
    | some e' => match Ents.rnm f es with
      | some es' => some (e' :: es')
      | none => none
    | none => none
theorem Ents.rnm_ok {E : Env} {ρ ρ' : Pt → Rb} {D D' : Pt → Prop} {f : Pt → Option Pt} (h : Rn ρ D f ρ' D') : ∀ {es es' : List Ent}, Ents.rnm f es = some es' → (∀ e ∈ es, e.key.ok E ρ D ∧ e.val.ok E ρ D) → (∀ e ∈ es', e.key.ok E ρ' D' ∧ e.val.ok E ρ' D') ∧
    es'.map (fun e => ({ key := e.key.val E ρ', val := e.val.val E ρ', born := e.born } : MapEntry)) = es.map (fun e => ({ key := e.key.val E ρ, val := e.val.val E ρ, born := e.born } : MapEntry)) := by
  intro es
  induction es with
  | nil => intro es' hy _; simp only [Ents.rnm] at hy; cases hy; exact ⟨(fun _ h => nomatch h), rfl⟩
  | cons e es ih =>
    intro es' hy hx
    simp only [Ents.rnm] at hy
    split at hy
    · rename_i e' h1
      split at hy
      · rename_i es'' h2; cases hy
        unfold Ent.rnm at h1
        split at h1
        · rename_i k hk
          split at h1
          · rename_i v hv; cases h1
            obtain ⟨a1, a2⟩ := A.rnm_ok h hk (hx _ List.mem_cons_self).1
            obtain ⟨c1, c2⟩ := A.rnm_ok h hv (hx _ List.mem_cons_self).2
            obtain ⟨b1, b2⟩ := ih h2 fun z hz => hx z (List.mem_cons_of_mem _ hz)
            refine ⟨fun z hz => ?_, by simp only [List.map_cons, a2, b2, c2]⟩
            rcases List.mem_cons.1 hz with rfl | hz
            · exact ⟨a1, c1⟩
            · exact b1 z hz
          · cases h1
        · cases h1
      · cases hy
    · cases hy
def B.rnm (f : Pt → Option Pt) : B → Option B
  | .cells ty n k d t => match C.rnms f d with
    | some d' => match t.mapO (C.rnm f) with
      | some t' => some (.cells ty n k d' t')
      | none => none
    | none => none
  | .map es cl => match Ents.rnm f es with
    | some es' => some (.map es' cl)
    | none => none
  | .miter none a b c => some (.miter none a b c)
  | .miter (some b0) a b c => match f b0 with
    | some b1 => some (.miter (some b1) a b c)
    | none => none
  | .siter s p => some (.siter s p)
  | .ro n t => match t.mapO (C.rnm f) with
    | some t' => some (.ro n t')
    | none => none
theorem Tri.mapO_none {α : Type} {f : α → Option α} : ∀ {t t' : Tri α}, t.mapO f = some t' → ∀ p, t'.get p = none → t.get p = none := by
  intro t
  induction t with
  | e => intro t' _ p _; rw [Tri.get_e]
  | n x l r ihl ihr =>
    intro t' h p hy
    simp only [Tri.mapO] at h
    split at h
    · rename_i l' hl
      split at h
      · rename_i r' hr
        split at h
        · cases h
          cases p with
          | z => rfl
          | l p => exact ihl hl p hy
          | r p => exact ihr hr p hy
        · split at h
          · cases h
            cases p with
            | z => cases hy
            | l p => exact ihl hl p hy
            | r p => exact ihr hr p hy
          · cases h
      · cases h
    · cases h
theorem rnms_at {f : Pt → Option Pt} : ∀ {xs ys : List C}, C.rnms f xs = some ys → ys.length = xs.length ∧ ∀ (i : Nat) (y : C), ys[i]? = some y → ∃ x, xs[i]? = some x ∧ C.rnm f x = some y := by
  intro xs
  induction xs with
  | nil => intro ys hy; simp only [C.rnms] at hy; cases hy; exact ⟨rfl, fun i y h => by simp at h⟩
  | cons x xs ih =>
    intro ys hy
    simp only [C.rnms] at hy
    split at hy
    · rename_i y' h1
      split at hy
      · rename_i ys' h2; cases hy
        obtain ⟨a1, a2⟩ := ih h2
        refine ⟨by simp [a1], fun i y h => ?_⟩
        cases i with
        | zero => simp at h; subst h; exact ⟨x, rfl, h1⟩
        | succ i => exact a2 i y (by simpa using h)
      · cases hy
    · cases hy
theorem cellAt_rnm {f : Pt → Option Pt} {n : Nat} {d d' : List C} {t t' : Tri C} (hd : C.rnms f d = some d') (ht : t.mapO (C.rnm f) = some t') {i : Nat} {y : C} (h : cellAt n d' t' i = some y) : ∃ x, cellAt n d t i = some x ∧ C.rnm f x = some y := by
  obtain ⟨l1, l2⟩ := rnms_at hd
  unfold cellAt at h ⊢
  cases hn : Nat.ble n i <;> simp only [hn, cond_true, cond_false] at h ⊢
  · split at h
    · rename_i z hz
      cases h
      obtain ⟨x, h1, h2⟩ := Tri.mapO_get ht _ _ hz
      exact ⟨x, by rw [h1], h2⟩
    · rename_i hz
      have h1 := Tri.mapO_none ht _ hz
      split at h
      · cases h
      · obtain ⟨x, h2, h3⟩ := l2 _ _ h
        refine ⟨x, ?_, h3⟩
        rw [h1]
        rw [l1] at h2
        cases d with
        | nil => simp at h2
        | cons c d => exact h2
  · cases h
/-- A block with its blocks under other numbers. -/
theorem BR.rnm_ok {E : Env} {ρ ρ' : Pt → Rb} {D D' : Pt → Prop} {f : Pt → Option Pt} (hf : Rn ρ D f ρ' D') {z : Nat} {x y : B} (hy : x.rnm f = some y) {o : Option Obj} (h : BR E ρ D z x o) : BR E ρ' D' z y o := by
  cases x with
  | cells ty n k d t =>
    simp only [B.rnm] at hy
    split at hy
    · rename_i d' hd
      split at hy
      · rename_i t' ht; cases hy
        obtain ⟨cs, h1, h2, h3, h4, h5⟩ := h
        refine ⟨cs, h1, h2, h3, h4, fun i u hu => ?_⟩
        obtain ⟨v, hv, hv2⟩ := cellAt_rnm hd ht hu
        obtain ⟨a1, a2⟩ := v.rnm_ok hf u hv2 (h5 i v hv).1
        exact ⟨a1, by rw [a2]; exact (h5 i v hv).2⟩
      · cases hy
    · cases hy
  | map es cl =>
    simp only [B.rnm] at hy
    split at hy
    · rename_i es' he; cases hy
      obtain ⟨h1, h2⟩ := h
      obtain ⟨a1, a2⟩ := Ents.rnm_ok hf he h2
      exact ⟨h1.trans (by rw [a2]), a1⟩
    · cases hy
  | miter m a b c =>
    obtain ⟨h1, h2⟩ := h
    cases m with
    | none => simp only [B.rnm] at hy; cases hy; exact ⟨h1, fun b hb => by cases hb⟩
    | some b0 =>
      simp only [B.rnm] at hy
      split at hy
      · rename_i b1 hb; cases hy
        obtain ⟨p1, p2⟩ := hf b0 b1 hb (h2 b0 rfl)
        refine ⟨h1.trans ?_, fun b hb => by cases hb; exact p1⟩
        simp only [Option.map_some, p2]
      · cases hy
  | siter s p => simp only [B.rnm] at hy; cases hy; exact h
  | ro n t =>
    simp only [B.rnm] at hy
    split at hy
    · rename_i t' ht; cases hy
      obtain ⟨cs, ty, fz, h1, h5⟩ := h
      refine ⟨cs, ty, fz, h1, fun i u hu => ?_⟩
      obtain ⟨v, hv, hv2⟩ := cellAt_rnm (d := []) (d' := []) rfl ht hu
      obtain ⟨a1, a2⟩ := v.rnm_ok hf u hv2 (h5 i v hv).1
      exact ⟨a1, by rw [a2]; exact (h5 i v hv).2⟩
    · cases hy
end
end Go.E3
namespace Go.E3
open Go.Sy
noncomputable section
/-! blocks that a value speaks of -/
mutual
def C.ptrs : C → List Pt
  | .ptr b _ => [b]
  | .slc b _ _ _ => [b]
  | .map b => [b]
  | .fn _ caps => C.ptrss caps
  | .ifc _ _ cs => C.ptrss cs
  | _ => []
def C.ptrss : List C → List Pt
  | [] => []
  | x :: xs => C.ptrs x ++ C.ptrss xs
end
theorem C.ptrs_D {E : Env} {ρ : Pt → Rb} {D : Pt → Prop} (x : C) : x.ok E ρ D → ∀ b ∈ x.ptrs, D b := by
  refine C.rec (motive_1 := fun x => x.ok E ρ D → ∀ b ∈ x.ptrs, D b) (motive_2 := fun xs => C.oks E ρ D xs → ∀ b ∈ C.ptrss xs, D b) ?_ ?_ ?_ ?_ ?_ ?_ ?_ ?_ ?_ ?_ ?_ ?_ ?_ ?_ ?_ ?_ ?_ x
  · intro k t _ b hb; simp [C.ptrs] at hb
  · intro t _ b hb; simp [C.ptrs] at hb
  · intro b o h c hc; simp [C.ptrs] at hc; subst hc; exact h
  · intro _ b hb; simp [C.ptrs] at hb
  · intro b o n c h d hd; simp [C.ptrs] at hd; subst hd; exact h.1
  · intro _ b hb; simp [C.ptrs] at hb
  · intro l _ b hb; simp [C.ptrs] at hb
  · intro g caps ih h b hb; simp only [C.ptrs] at hb; exact ih h b hb
  · intro _ b hb; simp [C.ptrs] at hb
  · intro b h c hc; simp [C.ptrs] at hc; subst hc; exact h
  · intro _ b hb; simp [C.ptrs] at hb
  · intro t g cs ih h b hb; simp only [C.ptrs] at hb; exact ih h b hb
  · intro _ b hb; simp [C.ptrs] at hb
  · intro v _ b hb; simp [C.ptrs] at hb
  · intro i _ b hb; simp [C.ptrs] at hb
  · intro _ b hb; simp [C.ptrss] at hb
  · intro x xs ih ihs h b hb
    simp only [C.ptrss, List.mem_append] at hb
    exact hb.elim (ih h.1 b) (ihs h.2 b)
/-- The same in another world of blocks, where all that it speaks of is as it was. -/
theorem C.move {E : Env} {ρ ρ' : Pt → Rb} {D D' : Pt → Prop} (x : C) : x.ok E ρ D → (∀ b ∈ x.ptrs, D' b ∧ ρ' b = ρ b) → x.ok E ρ' D' ∧ x.val E ρ' = x.val E ρ := by
  refine C.rec (motive_1 := fun x => x.ok E ρ D → (∀ b ∈ x.ptrs, D' b ∧ ρ' b = ρ b) → x.ok E ρ' D' ∧ x.val E ρ' = x.val E ρ) (motive_2 := fun xs => C.oks E ρ D xs → (∀ b ∈ C.ptrss xs, D' b ∧ ρ' b = ρ b) → C.oks E ρ' D' xs ∧ C.vals E ρ' xs = C.vals E ρ xs)
    ?_ ?_ ?_ ?_ ?_ ?_ ?_ ?_ ?_ ?_ ?_ ?_ ?_ ?_ ?_ ?_ ?_ x
  · exact fun k t _ _ => ⟨trivial, rfl⟩
  · exact fun t _ _ => ⟨trivial, rfl⟩
  · intro b o h hp
    obtain ⟨h1, h2⟩ := hp b (by simp [C.ptrs])
    exact ⟨h1, by simp only [C.val, h2]⟩
  · exact fun _ _ => ⟨trivial, rfl⟩
  · intro b o n c h hp
    obtain ⟨h1, h2⟩ := hp b (by simp [C.ptrs])
    exact ⟨⟨h1, by rw [h2]; exact h.2⟩, by simp only [C.val, h2]⟩
  · exact fun _ _ => ⟨trivial, rfl⟩
  · exact fun l h _ => ⟨h, rfl⟩
  · intro g caps ih h hp
    obtain ⟨h1, h2⟩ := ih h (by simpa only [C.ptrs] using hp)
    exact ⟨h1, by simp only [C.val, h2]⟩
  · exact fun _ _ => ⟨trivial, rfl⟩
  · intro b h hp
    obtain ⟨h1, h2⟩ := hp b (by simp [C.ptrs])
    exact ⟨h1, by simp only [C.val, h2]⟩
  · exact fun _ _ => ⟨trivial, rfl⟩
  · intro t g cs ih h hp
    obtain ⟨h1, h2⟩ := ih h (by simpa only [C.ptrs] using hp)
    exact ⟨h1, by simp only [C.val, h2]⟩
  · exact fun _ _ => ⟨trivial, rfl⟩
  · exact fun v h _ => ⟨h, rfl⟩
  · exact fun i h _ => ⟨h, rfl⟩
  · exact fun _ _ => ⟨trivial, rfl⟩
  · intro x xs ih ihs h hp
    obtain ⟨a1, a2⟩ := ih h.1 fun b hb => hp b (by simp only [C.ptrss, List.mem_append]; exact .inl hb)
    obtain ⟨b1, b2⟩ := ihs h.2 fun b hb => hp b (by simp only [C.ptrss, List.mem_append]; exact .inr hb)
    exact ⟨⟨a1, b1⟩, by simp only [C.vals, a2, b2]⟩
def A.ptrs : A → List Pt
  | .c x => x.ptrs
  | .agg xs => C.ptrss xs
theorem ptrss_mem {xs : List C} {x : C} (hx : x ∈ xs) {b : Pt} (hb : b ∈ x.ptrs) : b ∈ C.ptrss xs := by
  induction xs with
  | nil => cases hx
  | cons y ys ih =>
    simp only [C.ptrss, List.mem_append]
    rcases List.mem_cons.1 hx with rfl | hx
    · exact .inl hb
    · exact .inr (ih hx)
theorem ptrss_of {xs : List C} {b : Pt} (hb : b ∈ C.ptrss xs) : ∃ x ∈ xs, b ∈ x.ptrs := by
  induction xs with
  | nil => simp [C.ptrss] at hb
  | cons y ys ih =>
    simp only [C.ptrss, List.mem_append] at hb
    rcases hb with hb | hb
    · exact ⟨y, List.mem_cons_self, hb⟩
    · obtain ⟨x, h1, h2⟩ := ih hb
      exact ⟨x, List.mem_cons_of_mem _ h1, h2⟩
theorem A.ptrs_D {E : Env} {ρ : Pt → Rb} {D : Pt → Prop} {x : A} (h : x.ok E ρ D) : ∀ b ∈ x.ptrs, D b := by
  cases x with
  | c x => exact x.ptrs_D h
  | agg xs =>
    intro b hb
    obtain ⟨x, h1, h2⟩ := ptrss_of hb
    exact x.ptrs_D (h x h1) b h2
theorem A.move {E : Env} {ρ ρ' : Pt → Rb} {D D' : Pt → Prop} {x : A} (h : x.ok E ρ D) (hp : ∀ b ∈ x.ptrs, D' b ∧ ρ' b = ρ b) : x.ok E ρ' D' ∧ x.val E ρ' = x.val E ρ := by
  cases x with
  | c x => exact x.move h hp
  | agg xs => exact ⟨fun x hx => (x.move (h x hx) fun b hb => hp b (ptrss_mem hx hb)).1, by simp only [A.val]; rw [List.map_congr_left fun x hx => (x.move (h x hx) fun b hb => hp b (ptrss_mem hx hb)).2]⟩
def A.ptrss : List A → List Pt
  | [] => []
  | x :: xs => x.ptrs ++ A.ptrss xs
def L.ptrs : L → List Pt
  | .a x => x.ptrs
  | .tup xs => A.ptrss xs
  | .gd _ x => x.ptrs
def Tri.ptrs : Tri C → List Pt
  | .e => []
  | .n none l r => Tri.ptrs l ++ Tri.ptrs r
  | .n (some x) l r => x.ptrs ++ (Tri.ptrs l ++ Tri.ptrs r)
theorem Tri.ptrs_get {t : Tri C} : ∀ {p : Pt} {x : C}, t.get p = some x → ∀ b ∈ x.ptrs, b ∈ t.ptrs := by
  induction t with
  | e => intro p x h; rw [Tri.get_e] at h; cases h
  | n y l r ihl ihr =>
    intro p x h b hb
    have hl : b ∈ l.ptrs → b ∈ (Tri.n y l r).ptrs := fun h' => by cases y <;> simp [Tri.ptrs, h']
    have hr : b ∈ r.ptrs → b ∈ (Tri.n y l r).ptrs := fun h' => by cases y <;> simp [Tri.ptrs, h']
    cases p with
    | z =>
      have : y = some x := h
      subst this
      simp [Tri.ptrs, hb]
    | l p => exact hl (ihl (p := p) h b hb)
    | r p => exact hr (ihr (p := p) h b hb)
def Ents.ptrs : List Ent → List Pt
  | [] => []
  | e :: es => e.key.ptrs ++ (e.val.ptrs ++ Ents.ptrs es)
def B.ptrs : B → List Pt
  | .cells _ _ _ d t => C.ptrss d ++ t.ptrs
  | .map es _ => Ents.ptrs es
  | .miter none _ _ _ => []
  | .miter (some b) _ _ _ => [b]
  | .siter _ _ => []
  | .ro _ t => t.ptrs
theorem cellAt_ptrs {n : Nat} {d : List C} {t : Tri C} {i : Nat} {x : C} (h : cellAt n d t i = some x) : ∀ b ∈ x.ptrs, b ∈ C.ptrss d ++ t.ptrs := by
  intro b hb
  unfold cellAt at h
  cases hn : Nat.ble n i <;> simp only [hn, cond_true, cond_false] at h
  · split at h
    · rename_i y hy; cases h; exact List.mem_append.2 (.inr (Tri.ptrs_get hy b hb))
    · split at h
      · cases h
      · exact List.mem_append.2 (.inl (ptrss_mem (List.mem_of_getElem? h) hb))
  · cases h
theorem ents_mem {es : List Ent} {e : Ent} (he : e ∈ es) : (∀ b ∈ e.key.ptrs, b ∈ Ents.ptrs es) ∧ (∀ b ∈ e.val.ptrs, b ∈ Ents.ptrs es) := by
  induction es with
  | nil => cases he
  | cons y ys ih =>
    rcases List.mem_cons.1 he with rfl | he
    · exact ⟨fun b hb => by simp [Ents.ptrs, hb], fun b hb => by simp [Ents.ptrs, hb]⟩
    · exact ⟨fun b hb => by simp [Ents.ptrs, (ih he).1 b hb], fun b hb => by simp [Ents.ptrs, (ih he).2 b hb]⟩
/-- A block in another world of blocks. -/
theorem BR.move {E : Env} {ρ ρ' : Pt → Rb} {D D' : Pt → Prop} {z : Nat} {x : B} {o : Option Obj} (h : BR E ρ D z x o) (hp : ∀ b ∈ x.ptrs, D' b ∧ ρ' b = ρ b) : BR E ρ' D' z x o := by
  cases x with
  | cells ty n k d t =>
    obtain ⟨cs, h1, h2, h3, h4, h5⟩ := h
    refine ⟨cs, h1, h2, h3, h4, fun i x hx => ?_⟩
    obtain ⟨a1, a2⟩ := x.move (h5 i x hx).1 fun b hb => hp b (cellAt_ptrs hx b hb)
    exact ⟨a1, by rw [a2]; exact (h5 i x hx).2⟩
  | map es clock =>
    obtain ⟨h1, h2⟩ := h
    have mk := fun e (he : e ∈ es) => A.move (h2 e he).1 fun b hb => hp b ((ents_mem he).1 b hb)
    have mv := fun e (he : e ∈ es) => A.move (h2 e he).2 fun b hb => hp b ((ents_mem he).2 b hb)
    refine ⟨h1.trans ?_, fun e he => ⟨(mk e he).1, (mv e he).1⟩⟩
    rw [List.map_congr_left (g := fun e : Ent => ({ key := e.key.val E ρ', val := e.val.val E ρ', born := e.born } : MapEntry)) fun e he => by rw [(mk e he).2, (mv e he).2]]
  | miter m since seen last =>
    obtain ⟨h1, h2⟩ := h
    cases m with
    | none => exact ⟨h1, fun b hb => by cases hb⟩
    | some b0 =>
      obtain ⟨p1, p2⟩ := hp b0 (by simp [B.ptrs])
      refine ⟨h1.trans ?_, fun b hb => by cases hb; exact p1⟩
      simp only [Option.map_some, p2]
  | siter s pos => exact h
  | ro n t =>
    obtain ⟨cs, ty, fz, h1, h5⟩ := h
    refine ⟨cs, ty, fz, h1, fun i x hx => ?_⟩
    obtain ⟨a1, a2⟩ := x.move (h5 i x hx).1 fun b hb => hp b (by have := cellAt_ptrs hx b hb; simpa [C.ptrss, B.ptrs] using this)
    exact ⟨a1, by rw [a2]; exact (h5 i x hx).2⟩
end
end Go.E3
