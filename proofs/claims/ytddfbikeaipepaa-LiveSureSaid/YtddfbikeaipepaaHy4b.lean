/- Part 4b of a checked reader of Go texts in their model form: it runs a function at terms in the place of numbers, and each part proves that its answers hold of the model. -/
import Derived.Test.YtddfbikeaipepaaHy4
namespace Go.Sy

/-! more letters: what names none of them stays -/
structure Agree (E E' : Env) (n : Nat) : Prop where
  F : E'.F = E.F
  x : ∀ i, i < n → E'.x i = E.x i
theorem Agree.refl [Fs] (E : Env) (n : Nat) : Agree E E n := ⟨rfl, fun _ _ => rfl⟩
theorem Agree.trans [Fs] {E E' E2 : Env} {n m : Nat} (h : Agree E E' n) (h2 : Agree E' E2 m) (hm : n ≤ m) : Agree E E2 n :=
  ⟨h2.F.trans h.F, fun i hi => (h2.x i (Nat.lt_of_lt_of_le hi hm)).trans (h.x i hi)⟩
theorem Agree.mono [Fs] {E E' : Env} {n m : Nat} (h : Agree E E' m) (hm : n ≤ m) : Agree E E' n := ⟨h.F, fun i hi => h.x i (Nat.lt_of_lt_of_le hi hm)⟩

def T.bel (n : Nat) : T → Bool
  | .lit _ => true
  | .v i _ _ => Nat.blt i n
  | .un _ a => a.bel n
  | .bin _ a b => a.bel n && b.bel n
  | .ite c a b => c.bel n && a.bel n && b.bel n
  | .sel s i => s.bel n && i.bel n
  | .upd s i x => s.bel n && i.bel n && x.bel n
  | .sh s o => s.bel n && o.bel n
  | .blit d o k s => d.bel n && o.bel n && k.bel n && s.bel n
  | .eqr k a b => k.bel n && a.bel n && b.bel n
section
variable {E E' : Env} {n : Nat}
theorem T.bel_both [Fs] (h : Agree E E' n) (t : T) (hb : t.bel n = true) : t.den E' = t.den E ∧ t.row E' = t.row E := by
  induction t with
  | lit k => exact ⟨rfl, rfl⟩
  | v i lo hi =>
    simp only [T.bel, Nat.blt_eq] at hb
    have := h.x i hb
    exact ⟨by simp only [T.den, this], by funext j; simp only [T.row, this]⟩
  | un o a ih =>
    have ih := ih hb
    refine ⟨by simp only [T.den, ih.1], ?_⟩
    funext j
    cases o <;> simp only [T.row, ih.1, ih.2]
  | bin o a b iha ihb =>
    simp only [T.bel, Bool.and_eq_true] at hb
    have iha := iha hb.1
    have ihb := ihb hb.2
    exact ⟨by simp only [T.den, iha.1, ihb.1], by funext j; simp only [T.row, iha.1, ihb.1]⟩
  | ite c a b ihc iha ihb =>
    simp only [T.bel, Bool.and_eq_true] at hb
    have ihc := ihc hb.1.1
    have iha := iha hb.1.2
    have ihb := ihb hb.2
    exact ⟨by simp only [T.den, ihc.1, iha.1, ihb.1], by funext j; simp only [T.row, ihc.1, iha.2, ihb.2]⟩
  | sel s i ihs ihi =>
    simp only [T.bel, Bool.and_eq_true] at hb
    have ihs := ihs hb.1
    have ihi := ihi hb.2
    exact ⟨by simp only [T.den, ihs.2, ihi.1], by funext j; simp only [T.row, ihs.2, ihi.1]⟩
  | upd s i x ihs ihi ihx =>
    simp only [T.bel, Bool.and_eq_true] at hb
    have ihs := ihs hb.1.1
    have ihi := ihi hb.1.2
    have ihx := ihx hb.2
    exact ⟨rfl, by funext j; simp only [T.row, ihs.2, ihi.1, ihx.1]⟩
  | sh s o ihs iho =>
    simp only [T.bel, Bool.and_eq_true] at hb
    have ihs := ihs hb.1
    have iho := iho hb.2
    exact ⟨rfl, by funext j; simp only [T.row, ihs.2, iho.1]⟩
  | blit d o k s ihd iho ihk ihs =>
    simp only [T.bel, Bool.and_eq_true] at hb
    have ihd := ihd hb.1.1.1
    have iho := iho hb.1.1.2
    have ihk := ihk hb.1.2
    have ihs := ihs hb.2
    exact ⟨rfl, by funext j; simp only [T.row, ihd.2, iho.1, ihk.1, ihs.2]⟩
  | eqr k a b ihk iha ihb =>
    simp only [T.bel, Bool.and_eq_true] at hb
    have ihk := ihk hb.1.1
    have iha := iha hb.1.2
    have ihb := ihb hb.2
    exact ⟨by simp only [T.den, ihk.1, iha.2, ihb.2], by funext j; simp only [T.row, ihk.1, iha.2, ihb.2]⟩
theorem T.bel_den [Fs] (h : Agree E E' n) {t : T} (hb : t.bel n = true) : t.den E' = t.den E := (t.bel_both h hb).1
theorem T.bel_row [Fs] (h : Agree E E' n) {t : T} (hb : t.bel n = true) : t.row E' = t.row E := (t.bel_both h hb).2
theorem T.bel_tr [Fs] (h : Agree E E' n) {t : T} (hb : t.bel n = true) : t.tr E' = t.tr E := by simp only [T.tr, T.bel_den h hb]
theorem T.bel_me [Fs] (h : Agree E E' n) {t : T} (hb : t.bel n = true) : t.me E' = t.me E := by simp only [T.me, T.bel_den h hb, T.bel_row h hb]

def C.bel (n : Nat) : C → Bool
  | .int _ t | .bool t => t.bel n
  | .pti _ _ ix _ _ => ix.bel n
  | .str k s => k.bel n && s.bel n
  | .slr _ _ o k => o.bel n && k.bel n
  | .sln _ _ k => k.bel n
  | .pta _ _ i _ r => i.bel n && r.bel n
  | _ => true
def A.bel (n : Nat) : A → Bool
  | .c x => x.bel n
  | .agg xs => xs.all (·.bel n)
  | .dead => true
def L.bel (n : Nat) : L → Bool
  | .a x => x.bel n
  | .tup xs => xs.all (·.bel n)
  | .gd c x => c.bel n && x.bel n
def Tr.bel (n : Nat) : Tr → Bool
  | .nil => true
  | .nd x l r => x.bel n && l.bel n && r.bel n
def Col.bel (n : Nat) (c : Col) : Bool := c.s.bel n
def Bk.bel (n : Nat) : Bk → Bool
  | .cells _ xs => xs.all (·.bel n)
  | .arr _ k cols => k.bel n && cols.all (·.bel n)
  | .dead => true
def pcBel (n : Nat) (pc : Pc) : Bool := pc.all (·.1.bel n)
def Df.bel (n : Nat) : Df → Bool
  | .one i t => Nat.blt i n && t.bel n
  | .call i _ args cnt => Nat.ble (i + cnt) n && args.all (·.bel n)

variable {ρ : Nat → Rb} {N : Nat}
theorem Cr.agree [Fs] (h : Agree E E' n) {x : C} {v : Value} (hb : x.bel n = true) (hr : Cr E ρ N x v) : Cr E' ρ N x v := by
  cases x <;> simp only [Cr] at hr ⊢ <;> (try exact hr) <;> simp only [C.bel, Bool.and_eq_true] at hb
  case int => rw [T.bel_den h hb]; exact hr
  case bool => rw [T.bel_tr h hb]; exact hr
  case pti => rw [T.bel_den h hb]; exact hr
  case str => rw [T.bel_den h hb.1, T.bel_row h hb.2]; exact hr
  case slr => rw [T.bel_den h hb.1, T.bel_den h hb.2]; exact hr
  case sln => rw [T.bel_den h hb]; exact hr
  case pta => rw [T.bel_den h hb.1, T.bel_den h hb.2]; exact hr
theorem F2.agree [Fs] (h : Agree E E' n) {xs : List C} {vs : Array Value} (hb : xs.all (·.bel n) = true) (hr : F2 (Cr E ρ N) xs vs) : F2 (Cr E' ρ N) xs vs :=
  ⟨hr.1, fun i x hx => let ⟨v, h1, h2⟩ := hr.2 i x hx; ⟨v, h1, h2.agree h (by rw [List.all_eq_true] at hb; exact hb x (List.mem_of_getElem? hx))⟩⟩
theorem Ar.agree [Fs] (h : Agree E E' n) {x : A} {v : Value} (hb : x.bel n = true) (hr : Ar E ρ N x v) : Ar E' ρ N x v := by
  cases x with
  | c x => exact Cr.agree h hb hr
  | agg xs => obtain ⟨cs, h1, h2⟩ := hr; exact ⟨cs, h1, h2.agree h hb⟩
  | dead => trivial
theorem F2A.agree [Fs] (h : Agree E E' n) {xs : List A} {vs : Array Value} (hb : xs.all (·.bel n) = true) (hr : F2 (Ar E ρ N) xs vs) : F2 (Ar E' ρ N) xs vs :=
  ⟨hr.1, fun i x hx => let ⟨v, h1, h2⟩ := hr.2 i x hx; ⟨v, h1, h2.agree h (by rw [List.all_eq_true] at hb; exact hb x (List.mem_of_getElem? hx))⟩⟩
theorem Lr.agree [Fs] (h : Agree E E' n) {x : L} {v : Value} (hb : x.bel n = true) (hr : Lr E ρ N x v) : Lr E' ρ N x v := by
  cases x with
  | a x => exact Ar.agree h hb hr
  | tup xs => obtain ⟨cs, h1, h2⟩ := hr; exact ⟨cs, h1, F2A.agree h hb h2⟩
  | gd c x =>
    simp only [L.bel, Bool.and_eq_true] at hb
    simp only [Lr, T.bel_tr h hb.1]
    exact ⟨fun hc => (hr.1 hc).agree h hb.2, hr.2⟩
theorem Tr.bel_get [Fs] : ∀ {t : Tr} {i : Nat} {x : L}, t.bel n = true → t.get i = some x → x.bel n = true := by
  intro t
  induction t with
  | nil => intro i x _ h; simp [Tr.get] at h
  | nd y l r ihl ihr =>
    intro i x hb h
    simp only [Tr.bel, Bool.and_eq_true] at hb
    rw [Tr.get_nd] at h
    split at h
    · cases h; exact hb.1.1
    · split at h
      · exact ihl hb.1.2 h
      · exact ihr hb.2 h
theorem S2.agree [Fs] (h : Agree E E' n) {t : Tr} {vs : Array Value} (hb : t.bel n = true) (hr : S2 (Lr E ρ N) t vs) : S2 (Lr E' ρ N) t vs :=
  fun i x hx => let ⟨v, h1, h2⟩ := hr i x hx; ⟨v, h1, h2.agree h (Tr.bel_get hb hx)⟩
theorem Br.agree [Fs] (h : Agree E E' n) {z : Rb} {b : Bk} {o : Option Obj} (hb : b.bel n = true) (hr : Br E ρ N z b o) : Br E' ρ N z b o := by
  cases b with
  | cells ty xs => obtain ⟨cs, h1, h2⟩ := hr; exact ⟨cs, h1, h2.agree h hb⟩
  | arr ty k cols =>
    simp only [Bk.bel, Bool.and_eq_true] at hb
    simp only [Br, T.bel_den h hb.1]
    refine ⟨hr.1, fun hk => ?_⟩
    obtain ⟨cs, t, fr, h1, hro, h2, h3, h5⟩ := hr.2 hk
    refine ⟨cs, t, fr, h1, hro, h2, h3, fun i p r c hi hc => ?_⟩
    rw [h5 i p r c hi hc]
    have hm : c ∈ cols := by
      clear h5 h3 hb hr
      induction cols generalizing p with
      | nil => simp [colAt] at hc
      | cons d l ih =>
        simp only [colAt] at hc
        cases hp : Nat.blt p d.m <;> simp only [hp, cond_true, cond_false] at hc
        · exact List.mem_cons_of_mem _ (ih _ hc)
        · cases hc; exact List.mem_cons_self
    have hcb := hb.2
    rw [List.all_eq_true] at hcb
    rw [T.bel_row h (hcb c hm)]
  | dead => trivial
theorem Bk.there_agree [Fs] (h : Agree E E' n) {b : Bk} (hb : b.bel n = true) : b.there E' ↔ b.there E := by
  cases b with
  | cells => exact Iff.rfl
  | dead => exact Iff.rfl
  | arr ty k cols =>
    simp only [Bk.bel, Bool.and_eq_true] at hb
    simp only [Bk.there, T.bel_den h hb.1]
theorem pcOk_agree [Fs] (h : Agree E E' n) {pc : Pc} (hb : pcBel n pc = true) (hp : pcOk E pc) : pcOk E' pc := by
  intro p hp'
  rw [pcBel, List.all_eq_true] at hb
  rw [T.bel_tr h (hb p hp')]; exact hp p hp'
theorem Df.ok_agree [Fs] (h : Agree E E' n) {d : Df} (hb : d.bel n = true) (hd : d.ok E) : d.ok E' := by
  cases d with
  | one i t =>
    simp only [Df.bel, Bool.and_eq_true, Nat.blt_eq] at hb
    simp only [Df.ok, h.x i hb.1, T.bel_me h hb.2]; exact hd
  | call i g args cnt =>
    simp only [Df.bel, Bool.and_eq_true, Nat.ble_eq] at hb
    intro k hk
    rw [h.x (i + k) (by omega), h.F, hd k hk]
    congr 3
    refine List.map_congr_left fun t ht => ?_
    have := hb.2
    rw [List.all_eq_true] at this
    exact (T.bel_me h (this t ht)).symm
theorem MemR.agree [Fs] {X : Cx} {m : List Bk} {w : World} (h : Agree X.E E' n) (hb : m.all (·.bel n) = true) (hm : MemR X ρ m w) : MemR { X with E := E' } ρ m w := by
  rw [List.all_eq_true] at hb
  have th : ∀ {i : Nat} {b : Bk}, m[i]? = some b → (b.there E' ↔ b.there X.E) := fun hi => Bk.there_agree h (hb _ (List.mem_of_getElem? hi))
  refine ⟨fun i b hi => (hm.mem i b hi).agree h (hb b (List.mem_of_getElem? hi)), fun i j bi bj hi hj h1 h2 => hm.inj i j bi bj hi hj ((th hi).1 h1) ((th hj).1 h2), hm.len, hm.old, fun i b hn hi hr ht => hm.new i b hn hi hr ((th hi).1 ht), ⟨hm.fr.os, hm.fr.tape, hm.fr.output, hm.fr.size, hm.fr.block⟩⟩
/-- A whole state. -/
def St.bel (st : St) : Bool := st.s.bel st.k.nv && st.m.all (·.bel st.k.nv) && pcBel st.k.nv st.pc && st.k.ds.all (·.bel st.k.nv)
theorem Rel.agree [Fs] {X : Cx} {st : St} {a : Act} {w : World} (hb : st.bel = true) (h : Agree X.E E' st.k.nv) (hr : Rel X ρ st a w) : Rel { X with E := E' } ρ st a w := by
  simp only [St.bel, Bool.and_eq_true] at hb
  obtain ⟨⟨⟨h1, h2⟩, h3⟩, h4⟩ := hb
  rw [List.all_eq_true] at h4
  exact ⟨⟨hr.slots.agree h h1, pcOk_agree h h3 hr.pc, fun d hd => Df.ok_agree h (h4 d hd) (hr.ds d hd), h.F.trans hr.F⟩, hr.dfr, hr.mr.agree h h2⟩
end
end Go.Sy
