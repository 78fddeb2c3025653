/- Part 12b of a checked reader of Go texts in their model form: it runs a function at terms in the place of numbers, and each part proves that its answers hold of the model. -/
import Derived.Test.YtpjmhngcdbpmpaaLy12
namespace Go.Sy

/-! letters put in the place of letters -/
abbrev Sg := Nat → Int → Int → T
def T.sub (σ : Sg) : T → T
  | .lit n => .lit n
  | .v i lo hi => σ i lo hi
  | .un o a => .un o (a.sub σ)
  | .bin o a b => .bin o (a.sub σ) (b.sub σ)
  | .ite c a b => .ite (c.sub σ) (a.sub σ) (b.sub σ)
  | .sel s i => .sel (s.sub σ) (i.sub σ)
  | .upd s i x => .upd (s.sub σ) (i.sub σ) (x.sub σ)
  | .sh s o => .sh (s.sub σ) (o.sub σ)
  | .blit d o n s => .blit (d.sub σ) (o.sub σ) (n.sub σ) (s.sub σ)
  | .eqr n a b => .eqr (n.sub σ) (a.sub σ) (b.sub σ)
/-- What was said in the first world of letters is said in the second. -/
structure SubOk (E E' : Env) (σ : Sg) : Prop where
  F : E'.F = E.F
  den : ∀ i lo hi, (σ i lo hi).den E' = clamp lo hi (E.x i).n
  row : ∀ i lo hi j, (σ i lo hi).row E' j = clamp lo hi ((E.x i).s j)
section
variable {E E' : Env} {σ : Sg}
theorem T.sub_both [Fs] (h : SubOk E E' σ) (t : T) : (t.sub σ).den E' = t.den E ∧ (t.sub σ).row E' = t.row E := by
  induction t with
  | lit k => exact ⟨rfl, rfl⟩
  | v i lo hi => exact ⟨h.den i lo hi, funext fun j => h.row i lo hi j⟩
  | un o a ih =>
    refine ⟨by simp only [T.sub, T.den, ih.1], ?_⟩
    funext j
    cases o <;> simp only [T.sub, T.row, ih.1, ih.2]
  | bin o a b iha ihb => exact ⟨by simp only [T.sub, T.den, iha.1, ihb.1], by funext j; simp only [T.sub, T.row, iha.1, ihb.1]⟩
  | ite c a b ihc iha ihb => exact ⟨by simp only [T.sub, T.den, ihc.1, iha.1, ihb.1], by funext j; simp only [T.sub, T.row, ihc.1, iha.2, ihb.2]⟩
  | sel s i ihs ihi => exact ⟨by simp only [T.sub, T.den, ihs.2, ihi.1], by funext j; simp only [T.sub, T.row, ihs.2, ihi.1]⟩
  | upd s i x ihs ihi ihx => exact ⟨rfl, by funext j; simp only [T.sub, T.row, ihs.2, ihi.1, ihx.1]⟩
  | sh s o ihs iho => exact ⟨rfl, by funext j; simp only [T.sub, T.row, ihs.2, iho.1]⟩
  | blit d o k s ihd iho ihk ihs => exact ⟨rfl, by funext j; simp only [T.sub, T.row, ihd.2, iho.1, ihk.1, ihs.2]⟩
  | eqr k a b ihk iha ihb => exact ⟨by simp only [T.sub, T.den, ihk.1, iha.2, ihb.2], by funext j; simp only [T.sub, T.row, ihk.1, iha.2, ihb.2]⟩
theorem T.sub_den [Fs] (h : SubOk E E' σ) (t : T) : (t.sub σ).den E' = t.den E := (t.sub_both h).1
theorem T.sub_row [Fs] (h : SubOk E E' σ) (t : T) : (t.sub σ).row E' = t.row E := (t.sub_both h).2
theorem T.sub_tr [Fs] (h : SubOk E E' σ) (t : T) : (t.sub σ).tr E' = t.tr E := by simp only [T.tr, T.sub_den h]
theorem T.sub_me [Fs] (h : SubOk E E' σ) (t : T) : (t.sub σ).me E' = t.me E := by simp only [T.me, T.sub_den h, T.sub_row h]
end
def Col.sub (σ : Sg) (c : Col) : Col := { c with s := c.s.sub σ }
/-- .. and blocks in the place of blocks. -/
def C.sub (σ : Sg) (β : Nat → Nat) : C → C
  | .int k t => .int k (t.sub σ)
  | .bool t => .bool (t.sub σ)
  | .ptr b o => .ptr (β b) o
  | .pti b o ix sz cnt => .pti (β b) o (ix.sub σ) sz cnt
  | .nilp => .nilp
  | .slc b o len => .slc (β b) o len
  | .nils => .nils
  | .fn f => .fn f
  | .clo f caps => .clo f (caps.map fun p => (β p.1, p.2))
  | .raw v => .raw v
  | .any => .any
  | .str n s => .str (n.sub σ) (s.sub σ)
  | .slr b z o n => .slr (β b) z (o.sub σ) (n.sub σ)
  | .sln b z n => .sln (β b) z (n.sub σ)
  | .pta b z i o r => .pta (β b) z (i.sub σ) o (r.sub σ)
  | .ifc t g cs => .ifc t g (cs.map (·.sub σ))
  | .sle b z k => .sle (β b) z k
def A.sub (σ : Sg) (β : Nat → Nat) : A → A
  | .c x => .c (x.sub σ β)
  | .agg xs => .agg (xs.map (·.sub σ β))
  | .rows cols => .rows (cols.map (·.sub σ))
  | .dead => .dead
def L.sub (σ : Sg) (β : Nat → Nat) : L → L
  | .a x => .a (x.sub σ β)
  | .tup xs => .tup (xs.map (·.sub σ β))
  | .gd c x => .gd (c.sub σ) (x.sub σ β)
def Tr.sub (σ : Sg) (β : Nat → Nat) : Tr → Tr
  | .nil => .nil
  | .nd x l r => .nd (x.sub σ β) (l.sub σ β) (r.sub σ β)
def Bk.sub (σ : Sg) (β : Nat → Nat) : Bk → Bk
  | .cells ty xs => .cells ty (xs.map (·.sub σ β))
  | .arr ty n cols => .arr ty (n.sub σ) (cols.map (·.sub σ))
  | .dead => .dead
def pcSub (σ : Sg) (pc : Pc) : Pc := pc.map fun p => (p.1.sub σ, p.2)
section
variable {E E' : Env} {σ : Sg} {β : Nat → Nat} {ρ ρ' : Nat → Rb} {n n' : Nat}
theorem ifV_sub [Fs] (h : SubOk E E' σ) {t : TypeId} {g : Bool} {cs : List Col} : ifV E' t g (cs.map (·.sub σ)) = ifV E t g cs := by
  unfold ifV
  congr 1
  cases g
  · cases cs with
    | nil => rfl
    | cons c r => simp only [cond_false, List.map_cons, Col.sub]; rw [T.sub_den h]
  · simp only [cond_true, List.map_map]
    congr 2
    exact List.map_congr_left fun c hc => by simp only [Function.comp_apply, Col.sub]; rw [T.sub_den h]
theorem Cr.sub [Fs] (h : SubOk E E' σ) (hβ : ∀ b, b < n → β b < n' ∧ ρ' (β b) = ρ b) {x : C} {v : Value} (hr : Cr E ρ n x v) : Cr E' ρ' n' (x.sub σ β) v := by
  cases x <;> simp only [Cr, C.sub, T.sub_den h, T.sub_tr h, T.sub_row h] at hr ⊢ <;> (try exact hr)
  case ptr b o => obtain ⟨h1, h2⟩ := hr; obtain ⟨g1, g2⟩ := hβ b h1; exact ⟨g1, by rw [g2]; exact h2⟩
  case pti b o ix sz cnt => obtain ⟨h1, h2⟩ := hr; obtain ⟨g1, g2⟩ := hβ b h1; exact ⟨g1, by rw [g2]; exact h2⟩
  case slc b o l => obtain ⟨h1, h2⟩ := hr; obtain ⟨g1, g2⟩ := hβ b h1; exact ⟨g1, by rw [g2]; exact h2⟩
  case slr b z o k => obtain ⟨h1, h2⟩ := hr; obtain ⟨g1, g2⟩ := hβ b h1; exact ⟨g1, by rw [g2]; exact h2⟩
  case sln b z k => obtain ⟨h1, h2⟩ := hr; obtain ⟨g1, g2⟩ := hβ b h1; exact ⟨g1, by rw [g2]; exact h2⟩
  case pta b z i o r => obtain ⟨h1, h2⟩ := hr; obtain ⟨g1, g2⟩ := hβ b h1; exact ⟨g1, by rw [g2]; exact h2⟩
  case sle b z k => obtain ⟨h1, h2⟩ := hr; obtain ⟨g1, g2⟩ := hβ b h1; exact ⟨g1, by rw [g2]; exact h2⟩
  case ifc => rw [ifV_sub h]; exact hr
  case clo f caps =>
    obtain ⟨h1, h2⟩ := hr
    refine ⟨fun p hp => ?_, ?_⟩
    · obtain ⟨q, hq, rfl⟩ := List.mem_map.1 hp
      exact (hβ q.1 (h1 q hq)).1
    · rw [h2, List.map_map]
      congr 2
      refine List.map_congr_left fun q hq => ?_
      simp only [Function.comp_apply, (hβ q.1 (h1 q hq)).2]
theorem F2.sub [Fs] (h : SubOk E E' σ) (hβ : ∀ b, b < n → β b < n' ∧ ρ' (β b) = ρ b) {xs : List C} {vs : Array Value} (hr : F2 (Cr E ρ n) xs vs) : F2 (Cr E' ρ' n') (xs.map (·.sub σ β)) vs :=
  hr.map _ fun _ _ hx => hx.sub h hβ
theorem wid_sub [Fs] : ∀ {cols : List Col}, wid (cols.map (·.sub σ)) = wid cols := by
  intro cols
  induction cols with
  | nil => rfl
  | cons c l ih => simp only [List.map_cons, wid]; rw [ih]; rfl
theorem colAt_sub [Fs] : ∀ {cols : List Col} {p : Nat}, colAt (cols.map (·.sub σ)) p = (colAt cols p).map fun q => (q.1.sub σ, q.2) := by
  intro cols
  induction cols with
  | nil => intro p; rfl
  | cons c l ih =>
    intro p
    simp only [List.map_cons, colAt, ih]
    show (bif Nat.blt p c.m then _ else _) = _
    cases Nat.blt p c.m <;> rfl
theorem Cells.sub [Fs] (h : SubOk E E' σ) {k : Int} {cols : List Col} {cs : Array Value} (hr : Cells E k cols cs) : Cells E' k (cols.map (·.sub σ)) cs := by
  intro i p r c hi hc
  rw [colAt_sub, Option.map_eq_some_iff] at hc
  obtain ⟨⟨d, r'⟩, h5, h6⟩ := hc
  cases h6
  rw [wid_sub]
  simp only [Col.sub, T.sub_row h]
  exact hr i p r' d hi h5
theorem Cells.unsub [Fs] (h : SubOk E E' σ) {k : Int} {cols : List Col} {cs : Array Value} (hr : Cells E' k (cols.map (·.sub σ)) cs) : Cells E k cols cs := by
  intro i p r c hi hc
  have := hr i p r (c.sub σ) hi (by rw [colAt_sub, hc]; rfl)
  rw [wid_sub] at this
  simpa only [Col.sub, T.sub_row h] using this
theorem Ar.sub [Fs] (h : SubOk E E' σ) (hβ : ∀ b, b < n → β b < n' ∧ ρ' (β b) = ρ b) {x : A} {v : Value} (hr : Ar E ρ n x v) : Ar E' ρ' n' (x.sub σ β) v := by
  cases x with
  | c x => exact Cr.sub h hβ hr
  | agg xs => obtain ⟨cs, h1, h2⟩ := hr; exact ⟨cs, h1, h2.sub h hβ⟩
  | rows cols => obtain ⟨cs, h1, h2, h3⟩ := hr; exact ⟨cs, h1, h2.trans wid_sub.symm, h3.sub h⟩
  | dead => trivial
theorem Lr.sub [Fs] (h : SubOk E E' σ) (hβ : ∀ b, b < n → β b < n' ∧ ρ' (β b) = ρ b) {x : L} {v : Value} (hr : Lr E ρ n x v) : Lr E' ρ' n' (x.sub σ β) v := by
  cases x with
  | a x => exact Ar.sub h hβ hr
  | tup xs => obtain ⟨cs, h1, h2⟩ := hr; exact ⟨cs, h1, h2.map _ fun _ _ hx => hx.sub h hβ⟩
  | gd c x => simp only [Lr, L.sub, T.sub_tr h]; exact ⟨fun hc => (hr.1 hc).sub h hβ, hr.2⟩
theorem Tr.sub_get [Fs] : ∀ {t : Tr} {i : Nat}, (t.sub σ β).get i = (t.get i).map (·.sub σ β) := by
  intro t
  induction t with
  | nil => intro i; rfl
  | nd x l r ihl ihr =>
    intro i
    simp only [Tr.sub, Tr.get_nd]
    split
    · rfl
    · split
      · exact ihl
      · exact ihr
theorem S2.sub [Fs] (h : SubOk E E' σ) (hβ : ∀ b, b < n → β b < n' ∧ ρ' (β b) = ρ b) {t : Tr} {vs : Array Value} (hr : S2 (Lr E ρ n) t vs) : S2 (Lr E' ρ' n') (t.sub σ β) vs := by
  intro i x hx
  rw [Tr.sub_get, Option.map_eq_some_iff] at hx
  obtain ⟨y, h1, rfl⟩ := hx
  obtain ⟨v, h2, h3⟩ := hr i y h1
  exact ⟨v, h2, h3.sub h hβ⟩
theorem Br.sub [Fs] (h : SubOk E E' σ) (hβ : ∀ b, b < n → β b < n' ∧ ρ' (β b) = ρ b) {z : Rb} {b : Bk} {o : Option Obj} (hr : Br E ρ n z b o) : Br E' ρ' n' z (b.sub σ β) o := by
  cases b with
  | cells ty xs => obtain ⟨cs, h1, hz, h2⟩ := hr; exact ⟨cs, h1, hz, F2p.map _ h2 fun _ _ hx => hx.sub h hβ⟩
  | arr ty k cols =>
    simp only [Br, Bk.sub, T.sub_den h, wid_sub] at hr ⊢
    refine ⟨hr.1, fun hk => ?_⟩
    obtain ⟨cs, t, fr, h1, hro, h2, h3, h4⟩ := hr.2 hk
    refine ⟨cs, t, fr, h1, hro, h2, h3, fun i p r c hi hc => ?_⟩
    rw [colAt_sub, Option.map_eq_some_iff] at hc
    obtain ⟨⟨d, r'⟩, h5, h6⟩ := hc
    cases h6
    rw [wid_sub]
    simp only [Col.sub, T.sub_row h]
    exact h4 i p r' d hi h5
  | dead => trivial
theorem Bk.there_sub [Fs] (h : SubOk E E' σ) {b : Bk} : (b.sub σ β).there E' ↔ b.there E := by
  cases b with
  | cells => exact Iff.rfl
  | dead => exact Iff.rfl
  | arr ty k cols => simp only [Bk.there, Bk.sub, T.sub_den h]
theorem pcOk_sub [Fs] (h : SubOk E E' σ) {pc : Pc} (hp : pcOk E pc) : pcOk E' (pcSub σ pc) := by
  intro p hp'
  obtain ⟨q, hq, rfl⟩ := List.mem_map.1 hp'
  simp only [T.sub_tr h]; exact hp q hq
end

/-! all letters from a number on moved up -/
def up (n k : Nat) (i : Nat) : Nat := bif Nat.blt i n then i else i + k
def upS (n k : Nat) : Sg := fun i lo hi => .v (up n k i) lo hi
def Df.up (n k : Nat) : Df → Df
  | .one i t => .one (Go.Sy.up n k i) (t.sub (upS n k))
  | .call i g args cnt => .call (Go.Sy.up n k i) g (args.map (·.sub (upS n k))) cnt
structure UpOk (E E' : Env) (n k : Nat) : Prop where
  F : E'.F = E.F
  x : ∀ i, E'.x (up n k i) = E.x i
theorem UpOk.sub [Fs] {E E' : Env} {n k : Nat} (h : UpOk E E' n k) : SubOk E E' (upS n k) :=
  ⟨h.F, fun i lo hi => by simp only [upS, T.den, h.x], fun i lo hi j => by simp only [upS, T.row, h.x]⟩
/-- A definition's letters lie wholly on one side. -/
def Df.side (n : Nat) : Df → Bool
  | .one _ _ => true
  | .call i _ _ cnt => Nat.ble n i || Nat.ble (i + cnt) n
theorem Df.up_ok [Fs] {E E' : Env} {n k : Nat} (h : UpOk E E' n k) {d : Df} (hs : d.side n = true) (hd : d.ok E) : (d.up n k).ok E' := by
  cases d with
  | one i t => simp only [Df.up, Df.ok, h.x, T.sub_me h.sub]; exact hd
  | call i g args cnt =>
    simp only [Df.side, Bool.or_eq_true, Nat.ble_eq] at hs
    intro j hj
    have e : Go.Sy.up n k i + j = Go.Sy.up n k (i + j) := by
      unfold Go.Sy.up
      rcases hs with hs | hs
      · have h1 : Nat.blt i n = false := by rw [← Bool.not_eq_true, Nat.blt_eq]; omega
        have h2 : Nat.blt (i + j) n = false := by rw [← Bool.not_eq_true, Nat.blt_eq]; omega
        rw [h1, h2, cond_false, cond_false]; omega
      · have h1 : Nat.blt i n = true := by rw [Nat.blt_eq]; omega
        have h2 : Nat.blt (i + j) n = true := by rw [Nat.blt_eq]; omega
        rw [h1, h2, cond_true, cond_true]
    rw [e, h.x, h.F]
    have e2 : (args.map (·.sub (upS n k))).map (T.me E') = args.map (T.me E) := by
      rw [List.map_map]
      exact List.map_congr_left fun t _ => T.sub_me h.sub t
    rw [e2]
    exact hd j hj
def Kn.up (n k : Nat) (q : Kn) : Kn := ⟨q.ds.map (·.up n k), q.nv + k⟩
def St.up (n k : Nat) (st : St) : St := ⟨st.s.sub (upS n k) id, st.m.map (·.sub (upS n k) id), pcSub (upS n k) st.pc, st.k.up n k⟩
theorem Bk.ro_sub [Fs] {σ : Sg} {β : Nat → Nat} {b : Bk} : (b.sub σ β).ro = b.ro := by cases b <;> rfl
theorem Rel.up [Fs] {X : Cx} {ρ : Nat → Rb} {st : St} {a : Act} {w : World} {E' : Env} {n k : Nat} (h : UpOk X.E E' n k) (hs : st.k.ds.all (·.side n) = true) (hr : Rel X ρ st a w) : Rel { X with E := E' } ρ (st.up n k) a w := by
  have hβ : ∀ b, b < st.m.length → id b < (st.m.map (·.sub (upS n k) id)).length ∧ ρ (id b) = ρ b := fun b hb => ⟨by simpa using hb, rfl⟩
  have get : ∀ {i : Nat} {b : Bk}, (st.m.map (·.sub (upS n k) id))[i]? = some b → ∃ c, st.m[i]? = some c ∧ b = c.sub (upS n k) id := by
    intro i b hi
    rw [List.getElem?_map, Option.map_eq_some_iff] at hi
    obtain ⟨c, h1, h2⟩ := hi
    exact ⟨c, h1, h2.symm⟩
  rw [List.all_eq_true] at hs
  refine ⟨⟨hr.slots.sub h.sub hβ, pcOk_sub h.sub hr.pc, fun d hd => ?_, h.F.trans hr.F⟩, hr.dfr, ⟨fun i b hi => ?_, fun i j bi bj hi hj hbi hbj heq => ?_, by simpa [St.up] using hr.mr.len, hr.mr.old, fun i b hn hi hro hb => ?_, ⟨hr.mr.fr.os, hr.mr.fr.tape, hr.mr.fr.output, hr.mr.fr.size, hr.mr.fr.block⟩⟩⟩
  · simp only [St.up, Kn.up, List.mem_map] at hd
    obtain ⟨d', h1, rfl⟩ := hd
    exact Df.up_ok h (hs d' h1) (hr.ds d' h1)
  · obtain ⟨c, h1, rfl⟩ := get hi
    exact (hr.mr.mem i c h1).sub h.sub hβ
  · obtain ⟨c, h1, rfl⟩ := get hi
    obtain ⟨d, h2, rfl⟩ := get hj
    exact hr.mr.inj i j c d h1 h2 ((Bk.there_sub h.sub).1 hbi) ((Bk.there_sub h.sub).1 hbj) heq
  · obtain ⟨c, h1, rfl⟩ := get hi
    exact hr.mr.new i c hn h1 (by rw [← Bk.ro_sub (σ := upS n k) (β := id)]; exact hro) ((Bk.there_sub h.sub).1 hb)

end Go.Sy
namespace Go.Sy
/-! the operations of a region in their order; a guarded call of a card's function splits no way -/
/-- What a guarded call of such a function leaves. -/
def evGd (run : Rn) (st : St) (t : T) (o : Oper) : Option St := match o.op with
  | .call c => match evSpR run (withPc st t true) c with
    | some ⟨.a x, _, k'⟩ => bif st.bel && t.bel st.k.nv && ordered st.k.nv (newOf k'.ds st.k.ds) && listB Df.beq (oldOf k'.ds st.k.ds) st.k.ds && Nat.ble st.k.nv k'.nv then fcKn st.k k' fun k' => putF ⟨st.s, st.m, st.pc, k'⟩ o.dst (.gd t x) some else none
    | _ => none
  | _ => none
def evOps2 (P : Program) (run : Rn) (ops : Array Oper) : List Nat → St → Option (List Out)
  | [], st => some [.good .norm st]
  | i :: rest, st => match ops[i]? with
    | none => evOps2 P run ops rest st
    | some o => match evGuard st ops o with
      | none => none
      | some .yes => match evO P run st o with
        | some outs => bindL (evOps2 P run ops rest) outs
        | none => none
      | some .no => putF st o.dst (.tup []) (evOps2 P run ops rest)
      | some (.may t) => match evS P (withPc st t true) o with
        | some ⟨.a x, _, []⟩ => putF st o.dst (.gd t x) (evOps2 P run ops rest)
        | _ => match evGd run st t o with
          | some st1 => evOps2 P run ops rest st1
          | none => fcPc (addP t true st.pc) fun pc => match evO P run ⟨st.s, st.m, pc, st.k⟩ o with
            | some outs => fcPc (addP t false st.pc) fun pc => match bindL (evOps2 P run ops rest) outs, putF ⟨st.s, st.m, pc, st.k⟩ o.dst (.tup []) (evOps2 P run ops rest) with
              | some a, some b => some (a ++ b)
              | _, _ => none
            | none => none
section
variable {P : Program} {X : Cx}
theorem evGd_ok [Fs] {run : Rn} (hrun : RnOk P run) {st st1 : St} {t : T} {o : Oper} (he : evGd run st t o = some st1) {ρ : Nat → Rb} {a : Act} {w : World} (h : Rel X ρ st a w) :
    (t.tr X.E = true → ∀ (next : Act → World → Prop) (Q : Exit → Act → World → Prop), (∀ E' a' w', Later X.E ρ st.m.length st.k.nv E' ρ st1 → Rel (X.at E') ρ st1 a' w' → next a' w') → o.wp P a w next Q) ∧
    (t.tr X.E = false → ∃ E', Later X.E ρ st.m.length st.k.nv E' ρ st1 ∧ Rel (X.at E') ρ st1 (a.put o.dst undef) w) := by
  unfold evGd at he
  split at he
  · rename_i c ho
    split at he
    · rename_i x pc' k' hr
      cases hb : st.bel && t.bel st.k.nv && ordered st.k.nv (newOf k'.ds st.k.ds) && listB Df.beq (oldOf k'.ds st.k.ds) st.k.ds && Nat.ble st.k.nv k'.nv <;> simp only [hb, cond_true, cond_false, fcKn_eq, putF_eq] at he
      · cases he
      cases he
      simp only [Bool.and_eq_true, Nat.ble_eq] at hb
      obtain ⟨⟨⟨⟨b1, b2⟩, b3⟩, b4⟩, b5⟩ := hb
      have b4 := listB_eq (fun _ _ => Df.beq_eq) b4
      refine ⟨fun ht next Q hn => ?_, fun ht => ?_⟩
      · obtain ⟨v, E', g, args, hx, hE, hk, hl, hp, hd, hbel, hcall⟩ := evSpR_raw hrun.2.2 (h.withPc ht) ho hr
        have base := h.agree b1 hE
        unfold Oper.wp
        rw [hx]
        refine (hcall w).mono fun e w' ⟨he, hb'⟩ => ?_
        subst he
        have hrel := Rel.put (st := ⟨st.s, st.m, st.pc, k'⟩) ⟨⟨base.slots, base.pc, hd, base.F⟩, base.dfr, base.mr⟩ o.dst (l := .gd t x) (v := v) ⟨fun _ => hl, fun hc => by rw [T.bel_tr hE b2, ht] at hc; cases hc⟩
        exact hn E' _ w' ⟨hE, fun _ _ => rfl, by rw [putS_m]; exact Nat.le_refl _, by rw [putS_k]; exact b5⟩ ⟨hrel.toSRel, hrel.dfr, hrel.mr.below hb'⟩
      · obtain ⟨hE, x2, x3⟩ := extL_ok (E := X.E) b3
        have base := h.agree b1 hE
        refine ⟨extL X.E (newOf k'.ds st.k.ds), ⟨hE, fun _ _ => rfl, by rw [putS_m]; exact Nat.le_refl _, by rw [putS_k]; exact b5⟩, Rel.put (st := ⟨st.s, st.m, st.pc, k'⟩) (v := undef) ⟨⟨base.slots, base.pc, fun d hd => ?_, base.F⟩, base.dfr, base.mr⟩ o.dst (l := .gd t x) ⟨fun hc => (by rw [T.bel_tr hE b2, ht] at hc; cases hc), fun _ => rfl⟩⟩
        rw [← new_old k'.ds st.k.ds, b4] at hd
        rcases List.mem_append.1 hd with hd | hd
        · exact x2 d hd
        · exact base.ds d hd
    · cases he
  · cases he
theorem evOps2_ok [Fs] {run : Rn} (hrun : RnOk P run) {ops : Array Oper} {Q : Exit → Act → World → Prop} : ∀ {l : List Nat} {st : St} {outs : List Out}, evOps2 P run ops l st = some outs →
    ∀ {X : Cx} {ρ : Nat → Rb} {a : Act} {w : World}, Rel X ρ st a w → (∀ x ∈ outs, Sat X ρ st.m.length st.k.nv Q x) → wpOps P ops Q l a w := by
  intro l
  induction l with
  | nil =>
    intro st outs he X ρ a w h hs
    cases he
    exact hs _ List.mem_cons_self X.E ρ a w (Later.refl _ _ _) h
  | cons i rest ih =>
    intro st outs he X ρ a w h hs
    have bind : ∀ {st1 : St} {o : Oper} {outs1 outs2 : List Out}, st1.m = st.m → st1.k = st.k → Rel X ρ st1 a w → evO P run st1 o = some outs1 → bindL (evOps2 P run ops rest) outs1 = some outs2 → (∀ x ∈ outs2, Sat X ρ st.m.length st.k.nv Q x) → o.wp P a w (wpOps P ops Q rest) Q := by
      intro st1 o outs1 outs2 hm hk h1 ho hb hs2
      refine evO_ok hrun h1 ho ?_
      rw [hm, hk]
      refine bindL_ok (Q := Q) (fun st' outs' hf E1 ρ1 a1 w1 L hrel hs' => ?_) (fun e a w he hq => then_of e a w he hq) hb hs2
      exact ih hf hrel fun x hx => (hs' x hx).from L
    have putm : ∀ {ρ : Nat → Rb} {l : L} {dst : Option Tmp} {st1 : St}, st1.m = st.m → st1.k = st.k → ∀ {outs1 : List Out}, (∀ x ∈ outs1, Sat X ρ st.m.length st.k.nv Q x) → ∀ x ∈ outs1, Sat X ρ (putS st1 dst l).m.length (putS st1 dst l).k.nv Q x := by
      intro ρ l dst st1 hm hk outs1 hs1
      rw [putS_m, putS_k, hm, hk]; exact hs1
    simp only [evOps2, putF_eq, fcPc_eq] at he
    simp only [wpOps]
    split at he
    · rename_i hi
      simp only [hi]
      exact ih he h hs
    · rename_i o hi
      simp only [hi]
      split at he
      · cases he
      · rename_i hg
        have hw : Region.wanted o (yielded ops a.tmps) = true := evGuard_ok h hg
        rw [if_pos hw]
        split at he
        · rename_i outs1 ho
          exact .inl (bind rfl rfl h ho he hs)
        · cases he
      · rename_i hg
        have hw : Region.wanted o (yielded ops a.tmps) = false := evGuard_ok h hg
        rw [if_neg (by simp [hw])]
        exact ih he (h.put o.dst (l := .tup []) (v := undef) undef_ok) (putm rfl rfl hs)
      · rename_i t hg
        have hw : t.tr X.E = Region.wanted o (yielded ops a.tmps) := evGuard_ok h hg
        have skip : ∀ outs', evOps2 P run ops rest (putS (withPc st t false) o.dst (.tup [])) = some outs' → (∀ x ∈ outs', Sat X ρ st.m.length st.k.nv Q x) → t.tr X.E = false → wpOps P ops Q rest (a.put o.dst undef) w := by
          intro outs' h1 h2 h3
          exact ih h1 ((h.withPc h3).put o.dst (l := .tup []) (v := undef) undef_ok) (putm (st1 := withPc st t false) rfl rfl h2)
        split at he
        · rename_i x m hq
          · by_cases ht : t.tr X.E = true
            · rw [if_pos (by rw [← hw]; exact ht)]
              have hrel := h.withPc ht
              obtain ⟨hok, hmm⟩ := evS_ok hrel hq
              obtain ⟨v, w', ρ', hrun', hl, hmr, hρ, hn⟩ := hok (fun t ht => by simp at ht)
              simp only at hmm hl hmr hn
              subst hmm
              left
              have hput : Rel X ρ' (putS st o.dst (.gd t x)) (a.put o.dst v) w' := Rel.put ⟨⟨h.slots.mono fun _ _ => Lr.mono hρ (Nat.le_refl _), h.pc, h.ds, h.F⟩, h.dfr, hmr⟩ o.dst ⟨fun _ => hl, fun hc => by rw [ht] at hc; cases hc⟩
              have := ih he hput (putm rfl rfl fun x hx => (hs x hx).from (st1 := st) (ρ1 := ρ') (E1 := X.E) ⟨Agree.refl _ _, hρ, Nat.le_refl _, Nat.le_refl _⟩)
              unfold Oper.wp
              rcases hrun' with hrun' | ⟨hrun', rfl⟩
              · rw [hrun']; exact this
              · rw [hrun']; exact this
            · have ht' : t.tr X.E = false := by simpa using ht
              rw [if_neg (by rw [← hw]; exact ht)]
              exact ih he (h.put o.dst (l := .gd t x) (v := undef) ⟨fun hc => absurd hc ht, fun _ => rfl⟩) (putm rfl rfl hs)
        · split at he
          · rename_i st1 hgd
            obtain ⟨g1, g2⟩ := evGd_ok hrun hgd h
            by_cases ht : t.tr X.E = true
            · rw [if_pos (by rw [← hw]; exact ht)]
              left
              exact g1 ht _ _ fun E' a' w' L hrel => ih he hrel fun x hx => (hs x hx).from L
            · rw [if_neg (by rw [← hw]; exact ht)]
              obtain ⟨E', L, hrel⟩ := g2 (by simpa using ht)
              exact ih he hrel fun x hx => (hs x hx).from L
          · split at he
            · rename_i outs1 ho
              split at he
              · rename_i oa ob ha hb
                cases he
                by_cases ht : t.tr X.E = true
                · rw [if_pos (by rw [← hw]; exact ht)]
                  exact .inl (bind (st1 := withPc st t true) rfl rfl (h.withPc ht) ho ha fun x hx => hs x (List.mem_append_left _ hx))
                · rw [if_neg (by rw [← hw]; exact ht)]
                  exact skip ob hb (fun x hx => hs x (List.mem_append_right _ hx)) (by simpa using ht)
              · cases he
            · cases he
end
end Go.Sy
