/- Part Ze3 of a checked reader of Go texts in their model form: it runs a function at terms in the place of numbers, and each part proves that its answers hold of the model. -/
import Derived.Test.YtgnfekfikifgiaaGreatWyZe1
namespace Go.E3
open Go.Sy
noncomputable section
variable {P : Program}
/-! calls told with the memory that they see: 'pre' the blocks ahead (all that can be come to), 'post' behind; new blocks under new numbers, those that live on alone -/
structure Tc where
  g : Nat
  as : List L
  nx : Pt
  pre : List (Pt × B)
  l : L
  post : List (Pt × B)
  nx' : Pt
def memP (b : Pt) : List Pt → Bool
  | [] => false
  | c :: r => bif c.beq b then true else memP b r
theorem memP_iff {b : Pt} {l : List Pt} : memP b l = true ↔ b ∈ l := by
  induction l with
  | nil => simp [memP]
  | cons c r ih =>
    simp only [memP, List.mem_cons]
    cases h : c.beq b <;> simp only [cond_true, cond_false]
    · rw [ih]
      have : b ≠ c := fun e => by rw [Pt.beq_iff.2 e.symm] at h; cases h
      simp [this]
    · have := (Pt.beq_iff.1 h).symm
      simp [this]
def ixP (b : Pt) : List Pt → Pt → Option Pt
  | [], _ => none
  | c :: r, nx => bif c.beq b then some nx else ixP b r nx.succ
theorem ixP_ok {b : Pt} : ∀ {l : List Pt} {nx b' : Pt}, ixP b l nx = some b' → ∃ i, l[i]? = some b ∧ b'.num = nx.num + i := by
  intro l
  induction l with
  | nil => intro nx b' h; cases h
  | cons c r ih =>
    intro nx b' h
    simp only [ixP] at h
    cases hc : c.beq b <;> simp only [hc, cond_true, cond_false] at h
    · obtain ⟨i, h1, h2⟩ := ih h
      exact ⟨i + 1, by simpa using h1, by rw [h2, Pt.succ_num]; omega⟩
    · cases h
      exact ⟨0, by rw [Pt.beq_iff.1 hc]; rfl, rfl⟩
def renF (ids news : List Pt) (nx : Pt) (b : Pt) : Option Pt := bif memP b ids then some b else ixP b news nx
def putsB : List (Pt × B) → Tri B → Tri B
  | [], m => m
  | p :: r, m => putsB r (m.put p.1 (some p.2))
theorem putsB_get : ∀ {l : List (Pt × B)} {m : Tri B} {b : Pt} {x : B}, (putsB l m).get b = some x → (b, x) ∈ l ∨ (m.get b = some x ∧ b ∉ l.map Prod.fst) := by
  intro l
  induction l with
  | nil => intro m b x h; exact .inr ⟨h, by simp⟩
  | cons p r ih =>
    intro m b x h
    rcases ih h with h | ⟨h1, h2⟩
    · exact .inl (List.mem_cons_of_mem _ h)
    · rw [Tri.get_put] at h1
      split at h1
      · rename_i e
        cases h1
        exact .inl (by rw [← e]; exact List.mem_cons_self)
      · rename_i e
        refine .inr ⟨h1, ?_⟩
        simp only [List.map_cons, List.mem_cons, not_or]
        exact ⟨fun h => e h.symm, h2⟩
theorem putsB_off : ∀ {l : List (Pt × B)} {m : Tri B} {b : Pt}, b ∉ l.map Prod.fst → (putsB l m).get b = m.get b := by
  intro l
  induction l with
  | nil => intro m b _; rfl
  | cons p r ih =>
    intro m b h
    simp only [List.map_cons, List.mem_cons, not_or] at h
    show (putsB r (m.put p.1 (some p.2))).get b = _
    rw [ih h.2, Tri.get_put, if_neg fun e => h.1 e.symm]
/-- What is to be shown of a told call. -/
def TcOk (P : Program) (pc : Pc) (c : Tc) : Prop := c.nx.num ≤ c.nx'.num ∧ ∀ (E : Env) (ρ : Pt → Rb) (D : Pt → Prop) (m : Tri B) (w : World), pcOk E pc → (∀ l ∈ c.as, l.ok E ρ D) → MR E ρ D m w → (∀ p ∈ c.pre, D p.1 ∧ m.get p.1 = some p.2) → (∀ b, Rg c.nx c.nx' b → ¬ D b) →
  HasBody P c.g ∧ Calls P c.g (c.as.map (L.val E ρ)).toArray w (CR.ok E ρ D m c.nx w (.ret c.l (putsB c.post m) c.nx'))
def triB : List (Pt × B) → Tri B
  | [] => .e
  | p :: r => (triB r).put p.1 (some p.2)
theorem triB_get : ∀ {l : List (Pt × B)} {b : Pt} {x : B}, (triB l).get b = some x → (b, x) ∈ l := by
  intro l
  induction l with
  | nil => intro b x h; change (Tri.e : Tri B).get b = some x at h; rw [Tri.get_e] at h; cases h
  | cons p r ih =>
    intro b x h
    change ((triB r).put p.1 (some p.2)).get b = some x at h
    rw [Tri.get_put] at h
    split at h
    · rename_i e; cases h; rw [← e]; exact List.mem_cons_self
    · exact List.mem_cons_of_mem _ (ih h)
theorem L.move {E : Env} {ρ ρ' : Pt → Rb} {D D' : Pt → Prop} {x : L} (h : x.ok E ρ D) (hp : ∀ b ∈ x.ptrs, D' b ∧ ρ' b = ρ b) : x.ok E ρ' D' ∧ x.val E ρ' = x.val E ρ := by
  cases x with
  | a x => exact A.move h hp
  | tup xs =>
    have mem : ∀ x ∈ xs, ∀ b ∈ x.ptrs, b ∈ A.ptrss xs := by
      intro x hx b hb
      clear h hp
      induction xs with
      | nil => cases hx
      | cons y ys ih =>
        simp only [A.ptrss, List.mem_append]
        rcases List.mem_cons.1 hx with rfl | hx
        · exact .inl hb
        · exact .inr (ih hx)
    exact ⟨fun x hx => (A.move (h x hx) fun b hb => hp b (mem x hx b hb)).1, by simp only [L.val]; rw [List.map_congr_left fun x hx => (A.move (h x hx) fun b hb => hp b (mem x hx b hb)).2]⟩
  | gd c x =>
    have key : c.tr E = true → x.ok E ρ' D' ∧ x.val E ρ' = x.val E ρ := fun hc => A.move (h hc) hp
    refine ⟨fun hc => (key hc).1, ?_⟩
    simp only [L.val]
    split
    · rename_i hc; exact (key hc).2
    · rfl
/-- The world of blocks behind a told call. -/
noncomputable def rho2 (ρ ρ1 : Pt → Rb) (D : Pt → Prop) (news : List Pt) (nx : Pt) (b : Pt) : Rb := open Classical in if D b then ρ b else match news[b.num - nx.num]? with
  | some c => ρ1 c
  | none => ρ b
/-- A call comes to one of what is told. -/
abbrev RunL := Nat → List L → Tri B → Pt → Option (List CR)
def CallOkL (P : Program) (pc : Pc) (run : RunL) : Prop :=
  ∀ g as m nx rs, run g as m nx = some rs → (∀ r ∈ rs, nx.num ≤ r.nx.num) ∧ ∀ (E : Env) (ρ : Pt → Rb) (D : Pt → Prop) (w : World), pcOk E pc → (∀ l ∈ as, l.ok E ρ D) → MR E ρ D m w → (∀ r ∈ rs, ∀ b, Rg nx r.nx b → ¬ D b) →
    HasBody P g ∧ Calls P g (as.map (L.val E ρ)).toArray w fun e w' => ∃ r ∈ rs, CR.ok E ρ D m nx w r e w'
/-- What is to hold of an outcome of a told call's run. -/
def ResOk (c : Tc) (r : CR) (news : List Pt) (l0 : L) (m0 : Tri B) (nx0 : Pt) : Prop := r = .ret l0 m0 nx0 ∧ c.nx'.num = c.nx.num + news.length ∧ (∀ b ∈ news, c.nx.num ≤ b.num ∧ b.num < nx0.num) ∧ l0.rnm (renF (c.pre.map Prod.fst) news c.nx) = some c.l ∧
    (∀ b ∈ c.pre.map Prod.fst, b ∈ c.post.map Prod.fst) ∧ (∀ b : Pt, c.nx.num ≤ b.num → b.num < c.nx'.num → b ∈ c.post.map Prod.fst) ∧
    (∀ p ∈ c.post, ∃ b x, renF (c.pre.map Prod.fst) news c.nx b = some p.1 ∧ (b ∈ c.pre.map Prod.fst ∨ b ∈ news) ∧ m0.get b = some x ∧ x.rnm (renF (c.pre.map Prod.fst) news c.nx) = some p.2)
/-- What a run on the blocks that a call sees tells of the whole memory. -/
theorem ResOk.turn {E : Env} {ρ ρ1 : Pt → Rb} {D : Pt → Prop} {m : Tri B} {w w' : World} {c : Tc} {news : List Pt} {l0 : L} {m0 : Tri B} {nx0 : Pt} (hm : MR E ρ D m w) (hD : ∀ p ∈ c.pre, D p.1 ∧ m.get p.1 = some p.2) (hfr : ∀ b, Rg c.nx c.nx' b → ¬ D b) (hle : c.nx.num ≤ c.nx'.num)
    (hres : ResOk c (.ret l0 m0 nx0) news l0 m0 nx0) (ho : l0.ok E ρ1 (Un (fun b => D b ∧ b ∈ c.pre.map Prod.fst) (Rg c.nx nx0))) (hT : Turn E ρ (fun b => D b ∧ b ∈ c.pre.map Prod.fst) (triB c.pre) c.nx w ρ1 m0 nx0 w') :
    ∃ ρ', l0.val E ρ1 = c.l.val E ρ' ∧ c.l.ok E ρ' (Un D (Rg c.nx c.nx')) ∧ Turn E ρ D m c.nx w ρ' (putsB c.post m) c.nx' w' := by
  unfold ResOk at hres
  obtain ⟨_, hnx, hnews, hl, hall, hnew, hpost⟩ := hres
  generalize hids : c.pre.map Prod.fst = ids at *
  have hDi : ∀ b ∈ ids, D b ∧ ∃ x, m.get b = some x := fun b hb => by
    rw [← hids] at hb
    obtain ⟨p, h1, rfl⟩ := List.mem_map.1 hb
    exact ⟨(hD p h1).1, _, (hD p h1).2⟩
  have two : ∀ b, D b → rho2 ρ ρ1 D news c.nx b = ρ b := fun b h => by unfold rho2; rw [if_pos h]
  have twoN : ∀ b i x, Rg c.nx c.nx' b → b.num = c.nx.num + i → news[i]? = some x → rho2 ρ ρ1 D news c.nx b = ρ1 x := fun b i x hb hi hx => by
    unfold rho2; rw [if_neg (hfr b hb), hi, Nat.add_sub_cancel_left, hx]
  have ofN : ∀ b, Rg c.nx c.nx' b → ∃ i x, b.num = c.nx.num + i ∧ news[i]? = some x ∧ x ∈ news := fun b hb => by
    have hb1 := hb.1
    have hb2 := hb.2
    have hlt : b.num - c.nx.num < news.length := by omega
    exact ⟨b.num - c.nx.num, news[b.num - c.nx.num], by omega, List.getElem?_eq_getElem hlt, List.getElem_mem hlt⟩
  have hRn : Rn ρ1 (Un (fun b => D b ∧ b ∈ ids) (Rg c.nx nx0)) (renF ids news c.nx) (rho2 ρ ρ1 D news c.nx) (Un D (Rg c.nx c.nx')) := by
    intro b b' hb _
    unfold renF at hb
    cases hmm : memP b ids <;> simp only [hmm, cond_true, cond_false] at hb
    · obtain ⟨i, h1, h2⟩ := ixP_ok hb
      have hi : i < news.length := (List.getElem?_eq_some_iff.1 h1).1
      have hrg : Rg c.nx c.nx' b' := ⟨by omega, by omega⟩
      exact ⟨.inr hrg, twoN b' i b hrg h2 h1⟩
    · cases hb
      have hbi := memP_iff.1 hmm
      exact ⟨.inl (hDi b hbi).1, by rw [two b (hDi b hbi).1, hT.rb b ⟨(hDi b hbi).1, hbi⟩]⟩
  obtain ⟨r1, r2⟩ := L.rnm_ok hRn hl ho
  have newOk : ∀ b, Rg c.nx c.nx' b → w.heap.size ≤ (rho2 ρ ρ1 D news c.nx b).g ∨ ∃ b0, D b0 ∧ (rho2 ρ ρ1 D news c.nx b).g = (ρ b0).g := fun b hb => by
    obtain ⟨i, x, h1, h2, h3⟩ := ofN b hb
    rw [twoN b i x hb h1 h2]
    rcases hT.new x ⟨(hnews x h3).1, (hnews x h3).2⟩ with h | ⟨b0, h4, h5⟩
    · exact .inl h
    · exact .inr ⟨b0, h4.1, h5⟩
  have desc : ∀ b x, Un D (Rg c.nx c.nx') b → (putsB c.post m).get b = some x → (∃ b0 x0, renF ids news c.nx b0 = some b ∧ Un (fun b => D b ∧ b ∈ ids) (Rg c.nx nx0) b0 ∧ m0.get b0 = some x0 ∧ x0.rnm (renF ids news c.nx) = some x ∧ rho2 ρ ρ1 D news c.nx b = ρ1 b0) ∨ (D b ∧ b ∉ ids ∧ m.get b = some x ∧ rho2 ρ ρ1 D news c.nx b = ρ b) := fun b x hb hx => by
    rcases putsB_get hx with h | ⟨h1, h2⟩
    · obtain ⟨b0, x0, g1, g2, g3, g4⟩ := hpost _ h
      have hu : Un (fun b => D b ∧ b ∈ ids) (Rg c.nx nx0) b0 := g2.elim (fun h => .inl ⟨(hDi b0 h).1, h⟩) fun h => .inr ⟨(hnews b0 h).1, (hnews b0 h).2⟩
      exact .inl ⟨b0, x0, g1, hu, g3, g4, (hRn b0 b g1 hu).2⟩
    · rcases hb with hb | hb
      · exact .inr ⟨hb, fun hi => h2 (hall b hi), h1, two b hb⟩
      · exact (h2 (hnew b hb.1 hb.2)).elim
  have oldNe : ∀ q x, D q → q ∉ ids → m.get q = some x → ∀ b0, Un (fun b => D b ∧ b ∈ ids) (Rg c.nx nx0) b0 → (ρ1 b0).g ≠ (ρ q).g := fun q x hq hqi hx b0 hb0 he => by
    have key : ∀ b1, b1 ∈ ids → (ρ b1).g ≠ (ρ q).g := fun b1 h1 h2 => by
      obtain ⟨d1, x1, g1⟩ := hDi b1 h1
      exact hqi (hm.inj b1 q x1 x d1 hq g1 hx h2 ▸ h1)
    rcases hb0 with hb0 | hb0
    · rw [hT.rb b0 hb0] at he; exact key b0 hb0.2 he
    · rcases hT.new b0 hb0 with h | ⟨b1, h1, h2⟩
      · have := (hm.mem q x hq hx).lt; omega
      · rw [h2] at he; exact key b1 h1.2 he
  refine ⟨rho2 ρ ρ1 D news c.nx, by rw [r2], r1, ?_⟩
  refine ⟨by omega, two, ⟨hm.gl.turn (fun k hk h => hT.heap k hk fun b hb => h b hb.1) (fun b hb => hb.elim (fun hb => .inl ⟨hb, by rw [two b hb]⟩) fun hb => .inr (newOk b hb)), fun b x hb hx => ?_, fun p q x x' hp' hq' hx hx' hg => ?_⟩, fun b hb hn => ?_, newOk, hT.os, hT.tape, hT.output, hT.size, fun k hk h => hT.heap k hk fun b hb => h b hb.1⟩
  · rcases desc b x hb hx with ⟨b0, x0, g1, g2, g3, g4, g5⟩ | ⟨g1, g2, g3, g4⟩
    · rw [g5]; exact BR.rnm_ok hRn g4 (hT.mr.mem b0 x0 g2 g3)
    · have h0 := hm.mem b x g1 g3
      rw [g4, hT.heap _ h0.lt fun b' hb' he => by
        obtain ⟨d1, x1, e1⟩ := hDi b' hb'.2
        exact g2 (hm.inj b' b x1 x d1 g1 e1 g3 he ▸ hb'.2)]
      exact h0.grow ⟨two, fun _ => .inl⟩
  · rcases desc p x hp' hx with ⟨b0, x0, g1, g2, g3, g4, g5⟩ | ⟨g1, g2, g3, g4⟩ <;> rcases desc q x' hq' hx' with ⟨b1, x1, k1, k2, k3, k4, k5⟩ | ⟨k1, k2, k3, k4⟩
    · rw [g5, k5] at hg
      have := hT.mr.inj b0 b1 x0 x1 g2 k2 g3 k3 hg
      subst this
      rw [g1] at k1; cases k1; rfl
    · rw [g5, k4] at hg; exact (oldNe q x' k1 k2 k3 b0 g2 hg).elim
    · rw [g4, k5] at hg; exact (oldNe p x g1 g2 g3 b1 k2 hg.symm).elim
    · rw [g4, k4] at hg; exact hm.inj p q x x' g1 k1 g3 k3 hg
  · refine putsB_off fun hmem => ?_
    obtain ⟨p, h1, h2⟩ := List.mem_map.1 hmem
    obtain ⟨b0, x0, g1, g2, _, _⟩ := hpost p h1
    have hu : Un (fun b => D b ∧ b ∈ ids) (Rg c.nx nx0) b0 := g2.elim (fun h => .inl ⟨(hDi b0 h).1, h⟩) fun h => .inr ⟨(hnews b0 h).1, (hnews b0 h).2⟩
    rcases (hRn b0 p.1 g1 hu).1 with h | h
    · rw [h2] at h; exact hb h
    · rw [h2] at h; exact hn h
/-- A told call, by runs on what it sees. -/
theorem TcOk.ofL {pc : Pc} {run : RunL} (hrun : CallOkL P pc run) {c : Tc} {rs : List CR} (hr : run c.g c.as (triB c.pre) c.nx = some rs) (hle : c.nx.num ≤ c.nx'.num)
    (hlow : ∀ b ∈ c.pre.map Prod.fst, b.num < c.nx.num) (has : ∀ l ∈ c.as, ∀ b ∈ l.ptrs, b ∈ c.pre.map Prod.fst) (hpre : ∀ p ∈ c.pre, ∀ b ∈ p.2.ptrs, b ∈ c.pre.map Prod.fst)
    (hres : ∀ r ∈ rs, ∃ news l0 m0 nx0, ResOk c r news l0 m0 nx0) : TcOk P pc c := by
  obtain ⟨l1, q1⟩ := hrun _ _ _ _ _ hr
  refine ⟨hle, fun E ρ D m w hp hok hm hD hfr => ?_⟩
  have hDi : ∀ b ∈ c.pre.map Prod.fst, D b := fun b hb => by
    obtain ⟨p, h1, rfl⟩ := List.mem_map.1 hb
    exact (hD p h1).1
  have mv : ∀ b, b ∈ c.pre.map Prod.fst → (D b ∧ b ∈ c.pre.map Prod.fst) ∧ ρ b = ρ b := fun b hb => ⟨⟨hDi b hb, hb⟩, rfl⟩
  have mrf : MR E ρ (fun b => D b ∧ b ∈ c.pre.map Prod.fst) (triB c.pre) w :=
    ⟨hm.gl.sub rfl fun b hb => ⟨hb.1, rfl⟩, fun b x hb hx => BR.move (hm.mem b x hb.1 (hD _ (triB_get hx)).2) fun b' hb' => mv b' (hpre _ (triB_get hx) b' hb'),
      fun b b' x x' d d' h h' hg => hm.inj b b' x x' d.1 d'.1 (hD _ (triB_get h)).2 (hD _ (triB_get h')).2 hg⟩
  obtain ⟨hb, hc⟩ := q1 E ρ (fun b => D b ∧ b ∈ c.pre.map Prod.fst) w hp (fun l hl' => (L.move (hok l hl') fun b hb => mv b (has l hl' b hb)).1) mrf (fun r _ b hb hd => by have := hlow b hd.2; have := hb.1; omega)
  refine ⟨hb, Calls.mono hc fun e w' he => ?_⟩
  obtain ⟨r, hrs, he⟩ := he
  obtain ⟨news, l0, m0, nx0, hR⟩ := hres r hrs
  obtain rfl := hR.1
  obtain ⟨ρ1, rfl, ho, hT⟩ := he
  obtain ⟨ρ', h1, h2, h3⟩ := hR.turn hm hD hfr hle ho hT
  exact ⟨ρ', by rw [h1], h2, h3⟩
/-- A told call, by a run on what it sees. -/
theorem TcOk.of {pc : Pc} {run : Run} (hrun : CallOk P pc run) {c : Tc} {news : List Pt} {l0 : L} {m0 : Tri B} {nx0 : Pt} (hr : run c.g c.as (triB c.pre) c.nx = some (.ret l0 m0 nx0))
    (hnx : c.nx'.num = c.nx.num + news.length) (hnews : ∀ b ∈ news, c.nx.num ≤ b.num ∧ b.num < nx0.num)
    (hlow : ∀ b ∈ c.pre.map Prod.fst, b.num < c.nx.num) (has : ∀ l ∈ c.as, ∀ b ∈ l.ptrs, b ∈ c.pre.map Prod.fst) (hpre : ∀ p ∈ c.pre, ∀ b ∈ p.2.ptrs, b ∈ c.pre.map Prod.fst)
    (hl : l0.rnm (renF (c.pre.map Prod.fst) news c.nx) = some c.l)
    (hall : ∀ b ∈ c.pre.map Prod.fst, b ∈ c.post.map Prod.fst) (hnew : ∀ b : Pt, c.nx.num ≤ b.num → b.num < c.nx'.num → b ∈ c.post.map Prod.fst)
    (hpost : ∀ p ∈ c.post, ∃ b x, renF (c.pre.map Prod.fst) news c.nx b = some p.1 ∧ (b ∈ c.pre.map Prod.fst ∨ b ∈ news) ∧ m0.get b = some x ∧ x.rnm (renF (c.pre.map Prod.fst) news c.nx) = some p.2) : TcOk P pc c := by
  refine TcOk.ofL (run := fun g as m nx => match run g as m nx with
    | some r => some [r]
    | none => none) (fun g as m nx rs h => ?_) (c := c) (rs := [.ret l0 m0 nx0]) (by rw [hr]) (by omega) hlow has hpre fun r hr' => ?_
  · simp only at h
    split at h
    · rename_i r h1
      cases h
      obtain ⟨l1, q1⟩ := hrun _ _ _ _ _ h1
      refine ⟨fun r hr => by simp at hr; subst hr; exact l1, fun E ρ D w hp ha hm hfr => ?_⟩
      obtain ⟨b1, c1⟩ := q1 E ρ D w hp ha hm (hfr r List.mem_cons_self)
      exact ⟨b1, Calls.mono c1 fun e w' he => ⟨r, List.mem_cons_self, he⟩⟩
    · cases h
  · simp at hr'
    exact ⟨news, l0, m0, nx0, hr', hnx, hnews, hl, hall, hnew, hpost⟩
end
end Go.E3
namespace Go.E3
open Go.Sy
noncomputable section
variable {P : Program}
/-! blocks held against each other -/
def eqTs : List T → List T → Bool
  | [], [] => true
  | s :: r, t :: r' => bif s.beq t then eqTs r r' else false
  | _, _ => false
theorem eqTs_eq : ∀ {a b : List T}, eqTs a b = true → a = b := by
  intro a
  induction a with
  | nil => intro b h; cases b with
    | nil => rfl
    | cons _ _ => cases h
  | cons s r ih => intro b h; cases b with
    | nil => cases h
    | cons t r' =>
      simp only [eqTs] at h
      cases hs : s.beq t <;> simp only [hs, cond_true, cond_false] at h
      · cases h
      · rw [T.beq_eq hs, ih h]
mutual
def C.eqb : C → C → Bool
  | .int k s, .int k' t => decide (k = k') && s.beq t
  | .bool s, .bool t => s.beq t
  | .ptr b o, .ptr b' o' => b.beq b' && Nat.beq o o'
  | .nilp, .nilp => true
  | .slc b o n c, .slc b' o' n' c' => b.beq b' && Nat.beq o o' && Nat.beq n n' && c.beq c'
  | .nils, .nils => true
  | .str l, .str l' => eqTs l l'
  | .fn f cs, .fn f' cs' => Nat.beq f f' && C.eqbs cs cs'
  | .nilf, .nilf => true
  | .map b, .map b' => b.beq b'
  | .nilm, .nilm => true
  | .ifc t g cs, .ifc t' g' cs' => Nat.beq t t' && (g == g') && C.eqbs cs cs'
  | .nili, .nili => true
  | .any i, .any j => Nat.beq i j
  | _, _ => false
def C.eqbs : List C → List C → Bool
  | [], [] => true
  | x :: xs, y :: ys => C.eqb x y && C.eqbs xs ys
  | _, _ => false
end
theorem C.eqb_eq (x : C) : ∀ y, C.eqb x y = true → x = y := by
  refine C.rec (motive_1 := fun x => ∀ y, C.eqb x y = true → x = y) (motive_2 := fun xs => ∀ ys, C.eqbs xs ys = true → xs = ys) ?_ ?_ ?_ ?_ ?_ ?_ ?_ ?_ ?_ ?_ ?_ ?_ ?_ ?_ ?_ ?_ ?_ x
  all_goals intros
  all_goals (rename_i y h; cases y <;> simp only [C.eqb, C.eqbs, Bool.and_eq_true, decide_eq_true_eq, beq_iff_eq, Pt.beq_iff, Nat.beq_eq] at h <;> first | (cases h; done) | rfl | skip)
  case refine_1 => rw [h.1, T.beq_eq h.2]
  case refine_2 => rw [T.beq_eq h]
  case refine_3 => rw [h.1, h.2]
  case refine_5 => rw [h.1.1.1, h.1.1.2, h.1.2, Cp.beq_eq h.2]
  case refine_7 => rw [eqTs_eq h]
  case refine_8 => rename_i ih _ _; rw [h.1, ih _ h.2]
  case refine_10 => rw [h]
  case refine_12 => rename_i ih _ _ _; rw [h.1.1, h.1.2, ih _ h.2]
  case refine_15 => rw [h]
  case refine_17 => rename_i ih ihs _ _; rw [ih _ h.1, ihs _ h.2]
def Tri.eqb : Tri C → Tri C → Bool
  | .e, .e => true
  | .n none l r, .n none l' r' => Tri.eqb l l' && Tri.eqb r r'
  | .n (some x) l r, .n (some y) l' r' => C.eqb x y && (Tri.eqb l l' && Tri.eqb r r')
  | _, _ => false
theorem Tri.eqb_eq : ∀ {t u : Tri C}, Tri.eqb t u = true → t = u := by
  intro t
  induction t with
  | e => intro u h; cases u with
    | e => rfl
    | n y l r => simp [Tri.eqb] at h
  | n x l r ihl ihr =>
    intro u h
    cases u with
    | e => cases x <;> simp [Tri.eqb] at h
    | n y l' r' =>
      cases x <;> cases y <;> simp only [Tri.eqb, Bool.and_eq_true] at h
      · rw [ihl h.1, ihr h.2]
      · cases h
      · cases h
      · rename_i x y
        rw [x.eqb_eq y h.1, ihl h.2.1, ihr h.2.2]
def A.eqb : A → A → Bool
  | .c x, .c y => C.eqb x y
  | .agg xs, .agg ys => C.eqbs xs ys
  | _, _ => false
theorem C.eqbs_eq : ∀ {xs ys : List C}, C.eqbs xs ys = true → xs = ys := by
  intro xs
  induction xs with
  | nil => intro ys h; cases ys with
    | nil => rfl
    | cons _ _ => simp [C.eqbs] at h
  | cons x xs ih => intro ys h; cases ys with
    | nil => simp [C.eqbs] at h
    | cons y ys =>
      simp only [C.eqbs, Bool.and_eq_true] at h
      rw [x.eqb_eq y h.1, ih h.2]
theorem A.eqb_eq {x y : A} (h : A.eqb x y = true) : x = y := by
  cases x <;> cases y <;> simp only [A.eqb] at h
  · rw [C.eqb_eq _ _ h]
  · cases h
  · cases h
  · rw [C.eqbs_eq h]
def Ents.eqb : List Ent → List Ent → Bool
  | [], [] => true
  | e :: es, e' :: es' => (A.eqb e.key e'.key && (A.eqb e.val e'.val && Nat.beq e.born e'.born)) && Ents.eqb es es'
  | _, _ => false
theorem Ents.eqb_eq : ∀ {xs ys : List Ent}, Ents.eqb xs ys = true → xs = ys := by
  intro xs
  induction xs with
  | nil => intro ys h; cases ys with
    | nil => rfl
    | cons _ _ => simp [Ents.eqb] at h
  | cons x xs ih => intro ys h; cases ys with
    | nil => simp [Ents.eqb] at h
    | cons y ys =>
      simp only [Ents.eqb, Bool.and_eq_true] at h
      obtain ⟨⟨h1, h2, h3⟩, h4⟩ := h
      cases x; cases y
      simp only at h1 h2 h3
      rw [A.eqb_eq h1, A.eqb_eq h2, Nat.eq_of_beq_eq_true h3, ih h4]
def B.eqb : B → B → Bool
  | .cells ty n k d t, .cells ty' n' k' d' t' => Nat.beq ty ty' && (Nat.beq n n' && ((k == k') && (C.eqbs d d' && Tri.eqb t t')))
  | .map es cl, .map es' cl' => Ents.eqb es es' && Nat.beq cl cl'
  | _, _ => false
theorem B.eqb_eq {x y : B} (h : B.eqb x y = true) : x = y := by
  cases x <;> cases y <;> simp only [B.eqb, Bool.and_eq_true, beq_iff_eq] at h <;> first | (cases h; done) | skip
  · rw [Nat.eq_of_beq_eq_true h.1, Nat.eq_of_beq_eq_true h.2.1, h.2.2.1, C.eqbs_eq h.2.2.2.1, Tri.eqb_eq h.2.2.2.2]
  · rw [Ents.eqb_eq h.1, Nat.eq_of_beq_eq_true h.2]
/-- A tree's cells, each with its number. -/
def Tri.ixs (a m : Nat) : Tri C → List (Nat × C)
  | .e => []
  | .n none l r => Tri.ixs (a + m) (2 * m) l ++ Tri.ixs (a + 2 * m) (2 * m) r
  | .n (some x) l r => (a, x) :: (Tri.ixs (a + m) (2 * m) l ++ Tri.ixs (a + 2 * m) (2 * m) r)
theorem Tri.ixs_ok : ∀ {t : Tri C} {a m i : Nat} {x : C}, (i, x) ∈ t.ixs a m → ∃ p : Pt, t.get p = some x ∧ i = a + m * p.num := by
  intro t
  induction t with
  | e => intro a m i x h; simp [Tri.ixs] at h
  | n y l r ihl ihr =>
    intro a m i x h
    have key : (i, x) ∈ Tri.ixs (a + m) (2 * m) l ++ Tri.ixs (a + 2 * m) (2 * m) r → ∃ p : Pt, (Tri.n y l r).get p = some x ∧ i = a + m * p.num := by
      intro h
      rcases List.mem_append.1 h with h | h
      · obtain ⟨p, h1, h2⟩ := ihl h
        refine ⟨.l p, h1, ?_⟩
        rw [h2, Pt.num, Nat.mul_add, Nat.mul_one, ← Nat.mul_assoc, Nat.mul_comm m 2]; omega
      · obtain ⟨p, h1, h2⟩ := ihr h
        refine ⟨.r p, h1, ?_⟩
        rw [h2, Pt.num, Nat.mul_add, ← Nat.mul_assoc, Nat.mul_comm m 2]; omega
    cases y with
    | none => exact key (by simpa only [Tri.ixs] using h)
    | some y =>
      simp only [Tri.ixs, List.mem_cons, Prod.mk.injEq] at h
      rcases h with ⟨rfl, rfl⟩ | h
      · exact ⟨.z, rfl, by simp [Pt.num]⟩
      · exact key h
/-- Blocks that a block's cells speak of. -/
def B.outs : B → List Pt
  | .cells _ n _ _ t => (t.ixs 0 1).flatMap fun p => bif Nat.blt p.1 n then p.2.ptrs else []
  | .map es _ => Ents.ptrs es
  | _ => []
theorem ents_of {es : List Ent} {b : Pt} (h : b ∈ Ents.ptrs es) : ∃ e ∈ es, b ∈ e.key.ptrs ∨ b ∈ e.val.ptrs := by
  induction es with
  | nil => simp [Ents.ptrs] at h
  | cons e es ih =>
    simp only [Ents.ptrs, List.mem_append] at h
    rcases h with h | h | h
    · exact ⟨e, List.mem_cons_self, .inl h⟩
    · exact ⟨e, List.mem_cons_self, .inr h⟩
    · obtain ⟨e', h1, h2⟩ := ih h
      exact ⟨e', List.mem_cons_of_mem _ h1, h2⟩
theorem B.outs_D {E : Env} {ρ : Pt → Rb} {D : Pt → Prop} {z : Nat} {x : B} {o : Option Obj} (h : BR E ρ D z x o) : ∀ b ∈ x.outs, D b := by
  intro b hb
  cases x with
  | cells ty n k d t =>
    obtain ⟨cs, _, _, _, _, h5⟩ := h
    simp only [B.outs, List.mem_flatMap] at hb
    obtain ⟨⟨i, c⟩, h1, h2⟩ := hb
    cases hlt : Nat.blt i n <;> simp only [hlt, cond_true, cond_false] at h2
    · cases h2
    obtain ⟨p, h3, h4⟩ := Tri.ixs_ok h1
    have hp : p = path i := Pt.num_inj (by rw [path_num]; omega)
    have hlt := Nat.le_of_ble_eq_true hlt
    have hb' : Nat.ble n i = false := by
      cases hq : Nat.ble n i
      · rfl
      · have := Nat.le_of_ble_eq_true hq; simp at hlt; omega
    exact c.ptrs_D (h5 i c (by unfold cellAt; rw [hb', ← hp, h3]; rfl)).1 b h2
  | map es cl =>
    obtain ⟨e, h1, h2⟩ := ents_of hb
    exact h2.elim (A.ptrs_D (h.2 e h1).1 b) (A.ptrs_D (h.2 e h1).2 b)
  | miter m a b c => cases hb
  | siter s p => cases hb
  | ro n t => cases hb
def reachB (known : List Pt) : List (Pt × B) → Bool
  | [] => true
  | p :: r => memP p.1 known && reachB (p.2.outs ++ known) r
theorem reachB_ok {E : Env} {ρ : Pt → Rb} {D : Pt → Prop} {m : Tri B} {w : World} (hm : MR E ρ D m w) : ∀ {pre : List (Pt × B)} {known : List Pt}, reachB known pre = true → (∀ b ∈ known, D b) → (∀ p ∈ pre, m.get p.1 = some p.2) → ∀ p ∈ pre, D p.1 := by
  intro pre
  induction pre with
  | nil => intro known _ _ _ p hp; cases hp
  | cons q r ih =>
    intro known h hk hg p hp
    simp only [reachB, Bool.and_eq_true] at h
    have hq := hk q.1 (memP_iff.1 h.1)
    rcases List.mem_cons.1 hp with rfl | hp
    · exact hq
    · refine ih h.2 (fun b hb => ?_) (fun p hp => hg p (List.mem_cons_of_mem _ hp)) p hp
      rcases List.mem_append.1 hb with hb | hb
      · exact B.outs_D (hm.mem q.1 q.2 hq (hg q List.mem_cons_self)) b hb
      · exact hk b hb
def As.eqb : List A → List A → Bool
  | [], [] => true
  | x :: xs, y :: ys => A.eqb x y && As.eqb xs ys
  | _, _ => false
theorem As.eqb_eq : ∀ {xs ys : List A}, As.eqb xs ys = true → xs = ys := by
  intro xs
  induction xs with
  | nil => intro ys h; cases ys with
    | nil => rfl
    | cons y ys => cases h
  | cons x xs ih => intro ys h; cases ys with
    | nil => cases h
    | cons y ys =>
      simp only [As.eqb, Bool.and_eq_true] at h
      rw [A.eqb_eq h.1, ih h.2]
def L.eqb : L → L → Bool
  | .a x, .a y => A.eqb x y
  | .tup xs, .tup ys => As.eqb xs ys
  | .gd c x, .gd d y => c.beq d && A.eqb x y
  | _, _ => false
theorem L.eqb_eq {x y : L} (h : L.eqb x y = true) : x = y := by
  cases x <;> cases y <;> simp only [L.eqb, Bool.and_eq_true] at h <;> first | (cases h; done) | skip
  · rw [A.eqb_eq h]
  · rw [As.eqb_eq h]
  · rw [T.beq_eq h.1, A.eqb_eq h.2]
def eqLs : List L → List L → Bool
  | [], [] => true
  | x :: xs, y :: ys => bif L.eqb x y then eqLs xs ys else false
  | _, _ => false
theorem eqLs_eq : ∀ {xs ys : List L}, eqLs xs ys = true → xs = ys := by
  intro xs
  induction xs with
  | nil => intro ys h; cases ys with
    | nil => rfl
    | cons _ _ => cases h
  | cons x xs ih => intro ys h; cases ys with
    | nil => cases h
    | cons y ys =>
      simp only [eqLs] at h
      cases hb : L.eqb x y <;> simp only [hb, cond_true, cond_false] at h
      · cases h
      · rw [L.eqb_eq hb, ih h]
def seesB (m : Tri B) : List (Pt × B) → Bool
  | [] => true
  | p :: r => match m.get p.1 with
    | some x => bif B.eqb x p.2 then seesB m r else false
    | none => false
theorem seesB_ok {m : Tri B} : ∀ {pre : List (Pt × B)}, seesB m pre = true → ∀ p ∈ pre, m.get p.1 = some p.2 := by
  intro pre
  induction pre with
  | nil => intro _ p hp; cases hp
  | cons q r ih =>
    intro h p hp
    simp only [seesB] at h
    split at h
    · rename_i x hx
      cases hb : B.eqb x q.2 <;> simp only [hb, cond_true, cond_false] at h
      · cases h
      rcases List.mem_cons.1 hp with rfl | hp
      · rw [hx, B.eqb_eq hb]
      · exact ih h p hp
    · cases h
/-- Told calls, asked by function, numbers, arguments and what they see. -/
def tabX : List Tc → Run
  | [], _, _, _, _ => none
  | c :: r, g, as, m, nx => bif Nat.beq g c.g then (bif c.nx.beq nx then (bif eqLs as c.as then (bif seesB m c.pre then some (.ret c.l (putsB c.post m) c.nx') else tabX r g as m nx) else tabX r g as m nx) else tabX r g as m nx) else tabX r g as m nx
/-- Blocks that a value is sure to speak of. -/
def L.outs : L → List Pt
  | .a x => x.ptrs
  | .tup xs => A.ptrss xs
  | .gd _ _ => []
theorem aptrss_of {xs : List A} {b : Pt} (hb : b ∈ A.ptrss xs) : ∃ x ∈ xs, b ∈ x.ptrs := by
  induction xs with
  | nil => simp [A.ptrss] at hb
  | cons y ys ih =>
    simp only [A.ptrss, List.mem_append] at hb
    rcases hb with hb | hb
    · exact ⟨y, List.mem_cons_self, hb⟩
    · obtain ⟨x, h1, h2⟩ := ih hb
      exact ⟨x, List.mem_cons_of_mem _ h1, h2⟩
theorem L.outs_D {E : Env} {ρ : Pt → Rb} {D : Pt → Prop} {x : L} (h : x.ok E ρ D) : ∀ b ∈ x.outs, D b := by
  intro b hb
  cases x with
  | a x => exact A.ptrs_D h b hb
  | tup xs =>
    obtain ⟨x, h1, h2⟩ := aptrss_of hb
    exact A.ptrs_D (h x h1) b h2
  | gd c x => cases hb
theorem tabX_ok {pc : Pc} : ∀ {tab : List Tc}, (∀ c ∈ tab, TcOk P pc c ∧ reachB (c.as.flatMap L.outs) c.pre = true) → CallOk P pc (tabX tab) := by
  intro tab
  induction tab with
  | nil => intro _ g as m nx r h; cases h
  | cons c tab ih =>
    intro ht g as m nx r h
    have rest : tabX tab g as m nx = some r → _ := fun h => ih (fun c' hc' => ht c' (List.mem_cons_of_mem _ hc')) g as m nx r h
    simp only [tabX] at h
    cases h1 : Nat.beq g c.g <;> simp only [h1, cond_true, cond_false] at h
    · exact rest h
    cases h2 : c.nx.beq nx <;> simp only [h2, cond_true, cond_false] at h
    · exact rest h
    cases h3 : eqLs as c.as <;> simp only [h3, cond_true, cond_false] at h
    · exact rest h
    cases h4 : seesB m c.pre <;> simp only [h4, cond_true, cond_false] at h
    · exact rest h
    cases h
    have h1 := Nat.eq_of_beq_eq_true h1
    have h2 := Pt.beq_iff.1 h2
    have h3 := eqLs_eq h3
    subst h1
    subst h2
    subst h3
    obtain ⟨⟨q1, q2⟩, q3⟩ := ht c List.mem_cons_self
    refine ⟨q1, fun E ρ D w hp has hm hfr => ?_⟩
    have hsee := seesB_ok h4
    have hD := reachB_ok hm q3 (fun b hb => by
      obtain ⟨l, h5, h6⟩ := List.mem_flatMap.1 hb
      exact L.outs_D (has l h5) b h6) hsee
    exact q2 E ρ D m w hp has hm (fun p hp => ⟨hD p hp, hsee p hp⟩) hfr
end
end Go.E3
namespace Go.E3
open Go.Sy
noncomputable section
variable {P : Program}
/-! a told call by one check -/
def nthS (nx : Pt) : Nat → Pt
  | 0 => nx
  | n + 1 => (nthS nx n).succ
theorem nthS_num (nx : Pt) : ∀ n, (nthS nx n).num = nx.num + n
  | 0 => rfl
  | n + 1 => by rw [nthS, Pt.succ_num, nthS_num nx n]; omega
def allIn (l ids : List Pt) : Bool := match l with
  | [] => true
  | b :: r => memP b ids && allIn r ids
theorem allIn_ok {ids : List Pt} : ∀ {l : List Pt}, allIn l ids = true → ∀ b ∈ l, b ∈ ids := by
  intro l
  induction l with
  | nil => intro _ b hb; cases hb
  | cons c r ih =>
    intro h b hb
    simp only [allIn, Bool.and_eq_true] at h
    rcases List.mem_cons.1 hb with rfl | hb
    · exact memP_iff.1 h.1
    · exact ih h.2 b hb
/-- Is such an entry of 'post' what the run tells of a block? -/
def postB (f : Pt → Option Pt) (m0 : Tri B) : List Pt → List (Pt × B) → Bool
  | [], [] => true
  | b :: bs, p :: ps => match f b with
    | some b' => match m0.get b with
      | some x => match x.rnm f with
        | some y => b'.beq p.1 && (B.eqb y p.2 && postB f m0 bs ps)
        | none => false
      | none => false
    | none => false
  | _, _ => false
theorem postB_ok {f : Pt → Option Pt} {m0 : Tri B} : ∀ {bs : List Pt} {ps : List (Pt × B)}, postB f m0 bs ps = true → ∀ p ∈ ps, ∃ b x, f b = some p.1 ∧ b ∈ bs ∧ m0.get b = some x ∧ x.rnm f = some p.2 := by
  intro bs
  induction bs with
  | nil => intro ps h p hp; cases ps with
    | nil => cases hp
    | cons _ _ => cases h
  | cons b bs ih =>
    intro ps h p hp
    cases ps with
    | nil => cases h
    | cons q ps =>
      simp only [postB] at h
      split at h
      · rename_i b' hb
        split at h
        · rename_i x hx
          split at h
          · rename_i y hy
            simp only [Bool.and_eq_true] at h
            rcases List.mem_cons.1 hp with rfl | hp
            · exact ⟨b, x, by rw [hb, Pt.beq_iff.1 h.1], List.mem_cons_self, hx, by rw [hy, B.eqb_eq h.2.1]⟩
            · obtain ⟨b1, x1, g1, g2, g3, g4⟩ := ih h.2.2 p hp
              exact ⟨b1, x1, g1, List.mem_cons_of_mem _ g2, g3, g4⟩
          · cases h
        · cases h
      · cases h
def tcB (run : Run) (c : Tc) (news : List Pt) : Bool := match run c.g c.as (triB c.pre) c.nx with
  | some (.ret l0 m0 nx0) => Nat.beq c.nx'.num (Nat.add c.nx.num news.length) && (news.all fun b => Nat.ble c.nx.num b.num && Nat.blt b.num nx0.num) && ((c.pre.map Prod.fst).all fun b => Nat.blt b.num c.nx.num) &&
      (c.as.all fun l => allIn l.ptrs (c.pre.map Prod.fst)) && (c.pre.all fun p => allIn p.2.ptrs (c.pre.map Prod.fst)) && (match l0.rnm (renF (c.pre.map Prod.fst) news c.nx) with
        | some l => L.eqb l c.l
        | none => false) && allIn (c.pre.map Prod.fst) (c.post.map Prod.fst) && allIn ((List.range news.length).map (nthS c.nx)) (c.post.map Prod.fst) && postB (renF (c.pre.map Prod.fst) news c.nx) m0 (c.pre.map Prod.fst ++ news) c.post
  | _ => false
theorem TcOk.ofB {pc : Pc} {run : Run} (hrun : CallOk P pc run) {c : Tc} (news : List Pt) (h : tcB run c news = true) : TcOk P pc c := by
  unfold tcB at h
  split at h
  · rename_i l0 m0 nx0 hr
    simp only [Bool.and_eq_true, List.all_eq_true, Nat.blt] at h
    obtain ⟨⟨⟨⟨⟨⟨⟨⟨h1, h2⟩, h3⟩, h4⟩, h5⟩, h6⟩, h7⟩, h8⟩, h9⟩ := h
    have hn := Nat.eq_of_beq_eq_true h1
    simp only [Nat.add_eq] at hn
    split at h6
    · rename_i l hl
      refine TcOk.of hrun hr hn (fun b hb => ⟨Nat.le_of_ble_eq_true (h2 b hb).1, Nat.le_of_ble_eq_true (h2 b hb).2⟩) (fun b hb => Nat.le_of_ble_eq_true (h3 b hb)) (fun l hl b hb => allIn_ok (h4 l hl) b hb) (fun p hp b hb => allIn_ok (h5 p hp) b hb)
        (by rw [hl, L.eqb_eq h6]) (fun b hb => allIn_ok h7 b hb) (fun b hb1 hb2 => ?_) (fun p hp => ?_)
      · refine allIn_ok h8 b (List.mem_map.2 ⟨b.num - c.nx.num, List.mem_range.2 (by omega), Pt.num_inj (by rw [nthS_num]; omega)⟩)
      · obtain ⟨b, x, g1, g2, g3, g4⟩ := postB_ok h9 p hp
        exact ⟨b, x, g1, List.mem_append.1 g2, g3, g4⟩
    · cases h6
  · cases h
/-- The same of a run that forks: 'newss' has the new blocks of each outcome. -/
def resB (c : Tc) : List CR → List (List Pt) → Bool
  | [], [] => true
  | r :: rs, news :: ns => (match r with
    | .ret l0 m0 nx0 => Nat.beq c.nx'.num (Nat.add c.nx.num news.length) && (news.all fun b => Nat.ble c.nx.num b.num && Nat.blt b.num nx0.num) && (match l0.rnm (renF (c.pre.map Prod.fst) news c.nx) with
        | some l => L.eqb l c.l
        | none => false) && allIn ((List.range news.length).map (nthS c.nx)) (c.post.map Prod.fst) && postB (renF (c.pre.map Prod.fst) news c.nx) m0 (c.pre.map Prod.fst ++ news) c.post
    | _ => false) && resB c rs ns
  | _, _ => false
theorem resB_ok {c : Tc} (hall : ∀ b ∈ c.pre.map Prod.fst, b ∈ c.post.map Prod.fst) : ∀ {rs : List CR} {ns : List (List Pt)}, resB c rs ns = true → ∀ r ∈ rs, ∃ news l0 m0 nx0, ResOk c r news l0 m0 nx0 := by
  intro rs
  induction rs with
  | nil => intro ns _ r hr; cases hr
  | cons r0 rs ih =>
    intro ns h r hr
    cases ns with
    | nil => cases h
    | cons news ns =>
      simp only [resB, Bool.and_eq_true] at h
      rcases List.mem_cons.1 hr with rfl | hr
      · obtain ⟨h, _⟩ := h
        split at h
        · rename_i l0 m0 nx0
          simp only [Bool.and_eq_true, List.all_eq_true, Nat.blt] at h
          obtain ⟨⟨⟨⟨h1, h2⟩, h6⟩, h8⟩, h9⟩ := h
          have hn := Nat.eq_of_beq_eq_true h1
          simp only [Nat.add_eq] at hn
          split at h6
          · rename_i l hl
            refine ⟨news, l0, m0, nx0, rfl, hn, fun b hb => ⟨Nat.le_of_ble_eq_true (h2 b hb).1, Nat.le_of_ble_eq_true (h2 b hb).2⟩, by rw [hl, L.eqb_eq h6], hall, fun b hb1 hb2 => ?_, fun p hp => ?_⟩
            · refine allIn_ok h8 b (List.mem_map.2 ⟨b.num - c.nx.num, List.mem_range.2 (by omega), Pt.num_inj (by rw [nthS_num]; omega)⟩)
            · obtain ⟨b, x, g1, g2, g3, g4⟩ := postB_ok h9 p hp
              exact ⟨b, x, g1, List.mem_append.1 g2, g3, g4⟩
          · cases h6
        · cases h
      · exact ih h.2 r hr
def tcBL (run : RunL) (c : Tc) (ns : List (List Pt)) : Bool := match run c.g c.as (triB c.pre) c.nx with
  | some rs => Nat.ble c.nx.num c.nx'.num && ((c.pre.map Prod.fst).all fun b => Nat.blt b.num c.nx.num) && (c.as.all fun l => allIn l.ptrs (c.pre.map Prod.fst)) && (c.pre.all fun p => allIn p.2.ptrs (c.pre.map Prod.fst)) && allIn (c.pre.map Prod.fst) (c.post.map Prod.fst) && resB c rs ns
  | none => false
theorem TcOk.ofBL {pc : Pc} {run : RunL} (hrun : CallOkL P pc run) {c : Tc} (ns : List (List Pt)) (h : tcBL run c ns = true) : TcOk P pc c := by
  unfold tcBL at h
  split at h
  · rename_i rs hr
    simp only [Bool.and_eq_true, List.all_eq_true, Nat.blt] at h
    obtain ⟨⟨⟨⟨⟨h0, h3⟩, h4⟩, h5⟩, h7⟩, h9⟩ := h
    exact TcOk.ofL hrun hr (Nat.le_of_ble_eq_true h0) (fun b hb => Nat.le_of_ble_eq_true (h3 b hb)) (fun l hl b hb => allIn_ok (h4 l hl) b hb) (fun p hp b hb => allIn_ok (h5 p hp) b hb) (resB_ok (fun b hb => allIn_ok h7 b hb) h9)
  · cases h
end
end Go.E3
