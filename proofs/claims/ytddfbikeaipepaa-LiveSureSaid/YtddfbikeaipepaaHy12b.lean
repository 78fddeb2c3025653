/- Part 12b of a checked reader of Go texts in their model form: it runs a function at terms in the place of numbers, and each part proves that its answers hold of the model. -/
import Derived.Test.YtddfbikeaipepaaHy12
namespace Go.Sy

/-! letters put in the place of letters -/
abbrev Sg := Nat → Int → Int → T
def T.sub (σ : Sg) : T → T
  | .lit n => .lit n
  | .v i lo hi => σ i lo hi
  | .un o a => .un o (a.sub σ)
  | .bin o a b => .bin o (a.sub σ) (b.sub σ)
  | .ite c a b => .ite (c.sub σ) (a.sub σ) (b.sub σ)
  | .sel s i => .sel (s.sub σ) (i.sub σ)
  | .upd s i x => .upd (s.sub σ) (i.sub σ) (x.sub σ)
  | .sh s o => .sh (s.sub σ) (o.sub σ)
  | .blit d o n s => .blit (d.sub σ) (o.sub σ) (n.sub σ) (s.sub σ)
  | .eqr n a b => .eqr (n.sub σ) (a.sub σ) (b.sub σ)
/-- What was said in the first world of letters is said in the second. -/
structure SubOk (E E' : Env) (σ : Sg) : Prop where
  F : E'.F = E.F
  den : ∀ i lo hi, (σ i lo hi).den E' = clamp lo hi (E.x i).n
  row : ∀ i lo hi j, (σ i lo hi).row E' j = clamp lo hi ((E.x i).s j)
section
variable {E E' : Env} {σ : Sg}
theorem T.sub_both [Fs] (h : SubOk E E' σ) (t : T) : (t.sub σ).den E' = t.den E ∧ (t.sub σ).row E' = t.row E := by
  induction t with
  | lit k => exact ⟨rfl, rfl⟩
  | v i lo hi => exact ⟨h.den i lo hi, funext fun j => h.row i lo hi j⟩
  | un o a ih =>
    refine ⟨by simp only [T.sub, T.den, ih.1], ?_⟩
    funext j
    cases o <;> simp only [T.sub, T.row, ih.1, ih.2]
  | bin o a b iha ihb => exact ⟨by simp only [T.sub, T.den, iha.1, ihb.1], by funext j; simp only [T.sub, T.row, iha.1, ihb.1]⟩
  | ite c a b ihc iha ihb => exact ⟨by simp only [T.sub, T.den, ihc.1, iha.1, ihb.1], by funext j; simp only [T.sub, T.row, ihc.1, iha.2, ihb.2]⟩
  | sel s i ihs ihi => exact ⟨by simp only [T.sub, T.den, ihs.2, ihi.1], by funext j; simp only [T.sub, T.row, ihs.2, ihi.1]⟩
  | upd s i x ihs ihi ihx => exact ⟨rfl, by funext j; simp only [T.sub, T.row, ihs.2, ihi.1, ihx.1]⟩
  | sh s o ihs iho => exact ⟨rfl, by funext j; simp only [T.sub, T.row, ihs.2, iho.1]⟩
  | blit d o k s ihd iho ihk ihs => exact ⟨rfl, by funext j; simp only [T.sub, T.row, ihd.2, iho.1, ihk.1, ihs.2]⟩
  | eqr k a b ihk iha ihb => exact ⟨by simp only [T.sub, T.den, ihk.1, iha.2, ihb.2], by funext j; simp only [T.sub, T.row, ihk.1, iha.2, ihb.2]⟩
theorem T.sub_den [Fs] (h : SubOk E E' σ) (t : T) : (t.sub σ).den E' = t.den E := (t.sub_both h).1
theorem T.sub_row [Fs] (h : SubOk E E' σ) (t : T) : (t.sub σ).row E' = t.row E := (t.sub_both h).2
theorem T.sub_tr [Fs] (h : SubOk E E' σ) (t : T) : (t.sub σ).tr E' = t.tr E := by simp only [T.tr, T.sub_den h]
theorem T.sub_me [Fs] (h : SubOk E E' σ) (t : T) : (t.sub σ).me E' = t.me E := by simp only [T.me, T.sub_den h, T.sub_row h]
end
/-- .. and blocks in the place of blocks. -/
def C.sub (σ : Sg) (β : Nat → Nat) : C → C
  | .int k t => .int k (t.sub σ)
  | .bool t => .bool (t.sub σ)
  | .ptr b o => .ptr (β b) o
  | .pti b o ix sz cnt => .pti (β b) o (ix.sub σ) sz cnt
  | .nilp => .nilp
  | .slc b o len => .slc (β b) o len
  | .nils => .nils
  | .fn f => .fn f
  | .clo f caps => .clo f (caps.map fun p => (β p.1, p.2))
  | .raw v => .raw v
  | .any => .any
  | .str n s => .str (n.sub σ) (s.sub σ)
  | .slr b z o n => .slr (β b) z (o.sub σ) (n.sub σ)
  | .sln b z n => .sln (β b) z (n.sub σ)
  | .pta b z i o r => .pta (β b) z (i.sub σ) o (r.sub σ)
def A.sub (σ : Sg) (β : Nat → Nat) : A → A
  | .c x => .c (x.sub σ β)
  | .agg xs => .agg (xs.map (·.sub σ β))
  | .dead => .dead
def L.sub (σ : Sg) (β : Nat → Nat) : L → L
  | .a x => .a (x.sub σ β)
  | .tup xs => .tup (xs.map (·.sub σ β))
  | .gd c x => .gd (c.sub σ) (x.sub σ β)
def Tr.sub (σ : Sg) (β : Nat → Nat) : Tr → Tr
  | .nil => .nil
  | .nd x l r => .nd (x.sub σ β) (l.sub σ β) (r.sub σ β)
def Col.sub (σ : Sg) (c : Col) : Col := { c with s := c.s.sub σ }
def Bk.sub (σ : Sg) (β : Nat → Nat) : Bk → Bk
  | .cells ty xs => .cells ty (xs.map (·.sub σ β))
  | .arr ty n cols => .arr ty (n.sub σ) (cols.map (·.sub σ))
  | .dead => .dead
def pcSub (σ : Sg) (pc : Pc) : Pc := pc.map fun p => (p.1.sub σ, p.2)
section
variable {E E' : Env} {σ : Sg} {β : Nat → Nat} {ρ ρ' : Nat → Rb} {n n' : Nat}
theorem Cr.sub [Fs] (h : SubOk E E' σ) (hβ : ∀ b, b < n → β b < n' ∧ ρ' (β b) = ρ b) {x : C} {v : Value} (hr : Cr E ρ n x v) : Cr E' ρ' n' (x.sub σ β) v := by
  cases x <;> simp only [Cr, C.sub, T.sub_den h, T.sub_tr h, T.sub_row h] at hr ⊢ <;> (try exact hr)
  case ptr b o => obtain ⟨h1, h2⟩ := hr; obtain ⟨g1, g2⟩ := hβ b h1; exact ⟨g1, by rw [g2]; exact h2⟩
  case pti b o ix sz cnt => obtain ⟨h1, h2⟩ := hr; obtain ⟨g1, g2⟩ := hβ b h1; exact ⟨g1, by rw [g2]; exact h2⟩
  case slc b o l => obtain ⟨h1, h2⟩ := hr; obtain ⟨g1, g2⟩ := hβ b h1; exact ⟨g1, by rw [g2]; exact h2⟩
  case slr b z o k => obtain ⟨h1, h2⟩ := hr; obtain ⟨g1, g2⟩ := hβ b h1; exact ⟨g1, by rw [g2]; exact h2⟩
  case sln b z k => obtain ⟨h1, h2⟩ := hr; obtain ⟨g1, g2⟩ := hβ b h1; exact ⟨g1, by rw [g2]; exact h2⟩
  case pta b z i o r => obtain ⟨h1, h2⟩ := hr; obtain ⟨g1, g2⟩ := hβ b h1; exact ⟨g1, by rw [g2]; exact h2⟩
  case clo f caps =>
    obtain ⟨h1, h2⟩ := hr
    refine ⟨fun p hp => ?_, ?_⟩
    · obtain ⟨q, hq, rfl⟩ := List.mem_map.1 hp
      exact (hβ q.1 (h1 q hq)).1
    · rw [h2, List.map_map]
      congr 2
      refine List.map_congr_left fun q hq => ?_
      simp only [Function.comp_apply, (hβ q.1 (h1 q hq)).2]
theorem F2.sub [Fs] (h : SubOk E E' σ) (hβ : ∀ b, b < n → β b < n' ∧ ρ' (β b) = ρ b) {xs : List C} {vs : Array Value} (hr : F2 (Cr E ρ n) xs vs) : F2 (Cr E' ρ' n') (xs.map (·.sub σ β)) vs :=
  hr.map _ fun _ _ hx => hx.sub h hβ
theorem Ar.sub [Fs] (h : SubOk E E' σ) (hβ : ∀ b, b < n → β b < n' ∧ ρ' (β b) = ρ b) {x : A} {v : Value} (hr : Ar E ρ n x v) : Ar E' ρ' n' (x.sub σ β) v := by
  cases x with
  | c x => exact Cr.sub h hβ hr
  | agg xs => obtain ⟨cs, h1, h2⟩ := hr; exact ⟨cs, h1, h2.sub h hβ⟩
  | dead => trivial
theorem Lr.sub [Fs] (h : SubOk E E' σ) (hβ : ∀ b, b < n → β b < n' ∧ ρ' (β b) = ρ b) {x : L} {v : Value} (hr : Lr E ρ n x v) : Lr E' ρ' n' (x.sub σ β) v := by
  cases x with
  | a x => exact Ar.sub h hβ hr
  | tup xs => obtain ⟨cs, h1, h2⟩ := hr; exact ⟨cs, h1, h2.map _ fun _ _ hx => hx.sub h hβ⟩
  | gd c x => simp only [Lr, L.sub, T.sub_tr h]; exact ⟨fun hc => (hr.1 hc).sub h hβ, hr.2⟩
theorem Tr.sub_get [Fs] : ∀ {t : Tr} {i : Nat}, (t.sub σ β).get i = (t.get i).map (·.sub σ β) := by
  intro t
  induction t with
  | nil => intro i; rfl
  | nd x l r ihl ihr =>
    intro i
    simp only [Tr.sub, Tr.get_nd]
    split
    · rfl
    · split
      · exact ihl
      · exact ihr
theorem S2.sub [Fs] (h : SubOk E E' σ) (hβ : ∀ b, b < n → β b < n' ∧ ρ' (β b) = ρ b) {t : Tr} {vs : Array Value} (hr : S2 (Lr E ρ n) t vs) : S2 (Lr E' ρ' n') (t.sub σ β) vs := by
  intro i x hx
  rw [Tr.sub_get, Option.map_eq_some_iff] at hx
  obtain ⟨y, h1, rfl⟩ := hx
  obtain ⟨v, h2, h3⟩ := hr i y h1
  exact ⟨v, h2, h3.sub h hβ⟩
theorem wid_sub [Fs] : ∀ {cols : List Col}, wid (cols.map (·.sub σ)) = wid cols := by
  intro cols
  induction cols with
  | nil => rfl
  | cons c l ih => simp only [List.map_cons, wid]; rw [ih]; rfl
theorem colAt_sub [Fs] : ∀ {cols : List Col} {p : Nat}, colAt (cols.map (·.sub σ)) p = (colAt cols p).map fun q => (q.1.sub σ, q.2) := by
  intro cols
  induction cols with
  | nil => intro p; rfl
  | cons c l ih =>
    intro p
    simp only [List.map_cons, colAt, ih]
    show (bif Nat.blt p c.m then _ else _) = _
    cases Nat.blt p c.m <;> rfl
theorem Br.sub [Fs] (h : SubOk E E' σ) (hβ : ∀ b, b < n → β b < n' ∧ ρ' (β b) = ρ b) {z : Rb} {b : Bk} {o : Option Obj} (hr : Br E ρ n z b o) : Br E' ρ' n' z (b.sub σ β) o := by
  cases b with
  | cells ty xs => obtain ⟨cs, h1, h2⟩ := hr; exact ⟨cs, h1, h2.sub h hβ⟩
  | arr ty k cols =>
    simp only [Br, Bk.sub, T.sub_den h, wid_sub] at hr ⊢
    refine ⟨hr.1, fun hk => ?_⟩
    obtain ⟨cs, t, fr, h1, hro, h2, h3, h4⟩ := hr.2 hk
    refine ⟨cs, t, fr, h1, hro, h2, h3, fun i p r c hi hc => ?_⟩
    rw [colAt_sub, Option.map_eq_some_iff] at hc
    obtain ⟨⟨d, r'⟩, h5, h6⟩ := hc
    cases h6
    rw [wid_sub]
    simp only [Col.sub, T.sub_row h]
    exact h4 i p r' d hi h5
  | dead => trivial
theorem Bk.there_sub [Fs] (h : SubOk E E' σ) {b : Bk} : (b.sub σ β).there E' ↔ b.there E := by
  cases b with
  | cells => exact Iff.rfl
  | dead => exact Iff.rfl
  | arr ty k cols => simp only [Bk.there, Bk.sub, T.sub_den h]
theorem pcOk_sub [Fs] (h : SubOk E E' σ) {pc : Pc} (hp : pcOk E pc) : pcOk E' (pcSub σ pc) := by
  intro p hp'
  obtain ⟨q, hq, rfl⟩ := List.mem_map.1 hp'
  simp only [T.sub_tr h]; exact hp q hq
end

/-! all letters from a number on moved up -/
def up (n k : Nat) (i : Nat) : Nat := bif Nat.blt i n then i else i + k
def upS (n k : Nat) : Sg := fun i lo hi => .v (up n k i) lo hi
def Df.up (n k : Nat) : Df → Df
  | .one i t => .one (Go.Sy.up n k i) (t.sub (upS n k))
  | .call i g args cnt => .call (Go.Sy.up n k i) g (args.map (·.sub (upS n k))) cnt
structure UpOk (E E' : Env) (n k : Nat) : Prop where
  F : E'.F = E.F
  x : ∀ i, E'.x (up n k i) = E.x i
theorem UpOk.sub [Fs] {E E' : Env} {n k : Nat} (h : UpOk E E' n k) : SubOk E E' (upS n k) :=
  ⟨h.F, fun i lo hi => by simp only [upS, T.den, h.x], fun i lo hi j => by simp only [upS, T.row, h.x]⟩
/-- A definition's letters lie wholly on one side. -/
def Df.side (n : Nat) : Df → Bool
  | .one _ _ => true
  | .call i _ _ cnt => Nat.ble n i || Nat.ble (i + cnt) n
theorem Df.up_ok [Fs] {E E' : Env} {n k : Nat} (h : UpOk E E' n k) {d : Df} (hs : d.side n = true) (hd : d.ok E) : (d.up n k).ok E' := by
  cases d with
  | one i t => simp only [Df.up, Df.ok, h.x, T.sub_me h.sub]; exact hd
  | call i g args cnt =>
    simp only [Df.side, Bool.or_eq_true, Nat.ble_eq] at hs
    intro j hj
    have e : Go.Sy.up n k i + j = Go.Sy.up n k (i + j) := by
      unfold Go.Sy.up
      rcases hs with hs | hs
      · have h1 : Nat.blt i n = false := by rw [← Bool.not_eq_true, Nat.blt_eq]; omega
        have h2 : Nat.blt (i + j) n = false := by rw [← Bool.not_eq_true, Nat.blt_eq]; omega
        rw [h1, h2, cond_false, cond_false]; omega
      · have h1 : Nat.blt i n = true := by rw [Nat.blt_eq]; omega
        have h2 : Nat.blt (i + j) n = true := by rw [Nat.blt_eq]; omega
        rw [h1, h2, cond_true, cond_true]
    rw [e, h.x, h.F]
    have e2 : (args.map (·.sub (upS n k))).map (T.me E') = args.map (T.me E) := by
      rw [List.map_map]
      exact List.map_congr_left fun t _ => T.sub_me h.sub t
    rw [e2]
    exact hd j hj
def Kn.up (n k : Nat) (q : Kn) : Kn := ⟨q.ds.map (·.up n k), q.nv + k⟩
def St.up (n k : Nat) (st : St) : St := ⟨st.s.sub (upS n k) id, st.m.map (·.sub (upS n k) id), pcSub (upS n k) st.pc, st.k.up n k⟩
theorem Bk.ro_sub [Fs] {σ : Sg} {β : Nat → Nat} {b : Bk} : (b.sub σ β).ro = b.ro := by cases b <;> rfl
theorem Rel.up [Fs] {X : Cx} {ρ : Nat → Rb} {st : St} {a : Act} {w : World} {E' : Env} {n k : Nat} (h : UpOk X.E E' n k) (hs : st.k.ds.all (·.side n) = true) (hr : Rel X ρ st a w) : Rel { X with E := E' } ρ (st.up n k) a w := by
  have hβ : ∀ b, b < st.m.length → id b < (st.m.map (·.sub (upS n k) id)).length ∧ ρ (id b) = ρ b := fun b hb => ⟨by simpa using hb, rfl⟩
  have get : ∀ {i : Nat} {b : Bk}, (st.m.map (·.sub (upS n k) id))[i]? = some b → ∃ c, st.m[i]? = some c ∧ b = c.sub (upS n k) id := by
    intro i b hi
    rw [List.getElem?_map, Option.map_eq_some_iff] at hi
    obtain ⟨c, h1, h2⟩ := hi
    exact ⟨c, h1, h2.symm⟩
  rw [List.all_eq_true] at hs
  refine ⟨⟨hr.slots.sub h.sub hβ, pcOk_sub h.sub hr.pc, fun d hd => ?_, h.F.trans hr.F⟩, hr.dfr, ⟨fun i b hi => ?_, fun i j bi bj hi hj hbi hbj heq => ?_, by simpa [St.up] using hr.mr.len, hr.mr.old, fun i b hn hi hro hb => ?_, ⟨hr.mr.fr.os, hr.mr.fr.tape, hr.mr.fr.output, hr.mr.fr.size, hr.mr.fr.block⟩⟩⟩
  · simp only [St.up, Kn.up, List.mem_map] at hd
    obtain ⟨d', h1, rfl⟩ := hd
    exact Df.up_ok h (hs d' h1) (hr.ds d' h1)
  · obtain ⟨c, h1, rfl⟩ := get hi
    exact (hr.mr.mem i c h1).sub h.sub hβ
  · obtain ⟨c, h1, rfl⟩ := get hi
    obtain ⟨d, h2, rfl⟩ := get hj
    exact hr.mr.inj i j c d h1 h2 ((Bk.there_sub h.sub).1 hbi) ((Bk.there_sub h.sub).1 hbj) heq
  · obtain ⟨c, h1, rfl⟩ := get hi
    exact hr.mr.new i c hn h1 (by rw [← Bk.ro_sub (σ := upS n k) (β := id)]; exact hro) ((Bk.there_sub h.sub).1 hb)

end Go.Sy
