/- Part 30m of a checked reader of Go texts in their model form: it runs a function at terms in the place of numbers, and each part proves that its answers hold of the model. -/
import Derived.Test.YtddfbikeaipepaaHy29
namespace Go.Sy
/-! a table of functions and loops -/
inductive Te where
  | card (c : Fk)
  | loop (c : Lk)
def Te.id : Te → Nat
  | .card c => c.g
  | .loop c => c.id
def Te.spec : Te → (Nat → List Arg → List Arg) → List Arg → List Arg
  | .card c => c.spec
  | .loop c => c.spec
def mkG : List Te → Nat → List Arg → List Arg
  | [] => fun _ _ => []
  | c :: r => fun g args => bif Nat.beq g c.id then c.spec (mkG r) args else mkG r g args
def Te.gs : Te → List Nat
  | .card c => c.ds.flatMap Df.gs
  | .loop c => c.ways.flatMap fun w => w.ds.flatMap Df.gs
def Te.good : Te → Bool
  | .card c => match contig c.n c.ds with | some h => c.ls.all (·.bel h) | none => false
  | .loop _ => true
def okG : List Te → Bool
  | [] => true
  | c :: r => r.all (fun d => !(Nat.beq c.id d.id)) && c.gs.all (fun g => r.any fun e => Nat.beq g e.id) && c.good && okG r
theorem mkG_tail [Fs] {l : List Te} {c : Te} {g : Nat} (h : (l.any fun e => Nat.beq g e.id) = true) (hn : (l.all fun d => !(Nat.beq c.id d.id)) = true) : mkG (c :: l) g = mkG l g := by
  funext args
  rw [List.any_eq_true] at h
  obtain ⟨e, h1, h2⟩ := h
  rw [List.all_eq_true] at hn
  have := hn e h1
  have hne : Nat.beq g c.id = false := by
    cases hb : Nat.beq g c.id
    · rfl
    · rw [Nat.eq_of_beq_eq_true hb] at h2
      rw [h2] at this; cases this
  simp only [mkG, hne, cond_false]
theorem mkG_mem [Fs] {l1 : List Te} {c : Te} {l2 : List Te} (h : okG (l1 ++ c :: l2) = true) : mkG (l1 ++ c :: l2) c.id = c.spec (mkG l2) ∧ (∀ g, (l2.any fun e => Nat.beq g e.id) = true → mkG (l1 ++ c :: l2) g = mkG l2 g) ∧ okG (c :: l2) = true := by
  induction l1 with
  | nil =>
    refine ⟨by funext args; simp only [List.nil_append, mkG, Nat.beq_refl, cond_true], fun g hg => ?_, h⟩
    simp only [List.nil_append, okG, Bool.and_eq_true] at h
    exact mkG_tail hg h.1.1.1
  | cons d l1 ih =>
    have h' := h
    simp only [List.cons_append, okG, Bool.and_eq_true] at h
    obtain ⟨i1, i2, i3⟩ := ih h.2
    refine ⟨?_, fun g hg => ?_, i3⟩
    · rw [← i1, List.cons_append]
      exact mkG_tail (by rw [List.any_eq_true]; exact ⟨c, by simp, Nat.beq_refl _⟩) h.1.1.1
    · rw [← i2 g hg, List.cons_append]
      refine mkG_tail ?_ h.1.1.1
      rw [List.any_eq_true] at hg ⊢
      obtain ⟨e, e1, e2⟩ := hg
      exact ⟨e, by simp [e1], e2⟩
theorem gs_ok [Fs] {l1 : List Te} {c : Te} {l2 : List Te} (h : okG (l1 ++ c :: l2) = true) : ∀ g ∈ c.gs, mkG l2 g = mkG (l1 ++ c :: l2) g := by
  obtain ⟨_, m2, m3⟩ := mkG_mem h
  simp only [okG, Bool.and_eq_true, List.all_eq_true] at m3
  intro g hg
  exact (m2 g (m3.1.1.2 g hg)).symm
theorem specG_ok [Fs] {l1 : List Te} {c : Fk} {l2 : List Te} (h : okG (l1 ++ .card c :: l2) = true) {E : Env} (hF : E.F = mkG (l1 ++ .card c :: l2)) (hd : ∀ d ∈ c.ds, d.ok E) : mkG (l1 ++ .card c :: l2) c.g (letters E c.n) = c.ls.map (T.me E) := by
  have hgs := gs_ok h
  obtain ⟨m1, m2, m3⟩ := mkG_mem h
  have m1 : mkG (l1 ++ .card c :: l2) c.g = c.spec (mkG l2) := m1
  rw [m1]
  simp only [okG, Bool.and_eq_true] at m3
  have k3 := m3.1.2
  simp only [Te.good] at k3
  split at k3
  · rename_i hh hc
    have hx : ∀ i, i < c.n → E.x i = (letters E c.n).getD i default := fun i hi => by
      simp [letters, List.getD_eq_getElem?_getD, hi]
    have ag := contig_ok (E := E) (E0 := ⟨fun i => (letters E c.n).getD i default, E.F⟩) rfl hx hc hd
    unfold Fk.spec
    refine List.map_congr_left fun t ht => ?_
    rw [List.all_eq_true] at k3
    rw [T.bel_me ag (k3 t ht)]
    have hg : ∀ d ∈ c.ds, ∀ g ∈ d.gs, mkG l2 g = E.F g := fun d hd g hg => by
      rw [hF]
      exact hgs g (List.mem_flatMap.2 ⟨d, hd, hg⟩)
    obtain ⟨e1, e2⟩ := extL_noF (x := fun i => (letters E c.n).getD i default) hg
    have h3 : (extL ⟨fun i => (letters E c.n).getD i default, E.F⟩ c.ds).F = E.F := ag.F.symm
    rw [env_eq e1 e2, T.me_noF _ _ E.F, ← env_eq rfl h3]
  · cases k3
/-! a loop's own function, by whichever table -/
theorem wayE_noF [Fs] {F F' : Nat → List Arg → List Arg} {args : List Arg} {w : Wy} (h : ∀ d ∈ w.ds, ∀ g ∈ d.gs, F g = F' g) : (∀ t : T, t.tr (wayE F args w) = t.tr (wayE F' args w)) ∧ ∀ t : T, T.me (wayE F args w) t = T.me (wayE F' args w) t := by
  obtain ⟨e1, e2⟩ := extL_noF (x := (argE F args).x) h
  have e3 : (wayE F' args w).F = F' := (extL_noF (x := (argE F args).x) (F := F') (F' := F') (ds := w.ds) fun _ _ _ _ => rfl).2
  have hme : ∀ t : T, T.me (wayE F args w) t = T.me (wayE F' args w) t := fun t => by
    have a1 : wayE F args w = ⟨(wayE F' args w).x, F⟩ := env_eq e1 e2
    rw [a1, T.me_noF _ _ F', ← env_eq rfl e3]
  exact ⟨fun t => by unfold T.tr; rw [show t.den (wayE F args w) = t.den (wayE F' args w) from congrArg Arg.n (hme t)], hme⟩
theorem pick_noF [Fs] {F F' : Nat → List Arg → List Arg} {args : List Arg} : ∀ {l : List Wy} {b : Nat}, (∀ w ∈ l, ∀ d ∈ w.ds, ∀ g ∈ d.gs, F g = F' g) → pick F args b l = pick F' args b l := by
  intro l
  induction l with
  | nil => intro b _; rfl
  | cons w r ih =>
    intro b h
    have e : pcB (wayE F args w) w.pc = pcB (wayE F' args w) w.pc := by
      unfold pcB
      refine List.all_congr rfl fun p => ?_
      rw [(wayE_noF (h w List.mem_cons_self)).1]
    simp only [pick, e, ih fun v hv => h v (List.mem_cons_of_mem _ hv)]
theorem pick_mem [Fs] {F : Nat → List Arg → List Arg} {args : List Arg} : ∀ {l : List Wy} {b i : Nat} {w : Wy}, pick F args b l = some (i, w) → w ∈ l := by
  intro l
  induction l with
  | nil => intro b i w h; cases h
  | cons v r ih =>
    intro b i w h
    simp only [pick] at h
    cases hb : pcB (wayE F args v) v.pc <;> simp only [hb, cond_true, cond_false] at h
    · exact List.mem_cons_of_mem _ (ih h)
    · cases h; exact List.mem_cons_self
theorem iter_noF [Fs] {F F' : Nat → List Arg → List Arg} {c : Lk} (h : ∀ w ∈ c.ways, ∀ d ∈ w.ds, ∀ g ∈ d.gs, F g = F' g) : ∀ {k : Nat} {args : List Arg}, iter F c k args = iter F' c k args := by
  intro k
  induction k with
  | zero => intro args; rfl
  | succ k ih =>
    intro args
    simp only [iter, pick_noF h]
    cases hp : pick F' args 0 c.ways with
    | none => rfl
    | some q =>
      obtain ⟨i, w⟩ := q
      have hm := pick_mem hp
      have e : w.ts.map (T.me (wayE F args w)) = w.ts.map (T.me (wayE F' args w)) := List.map_congr_left fun t _ => (wayE_noF (h w hm)).2 t
      simp only [e, ih]
theorem loopG_ok [Fs] {l1 : List Te} {c : Lk} {l2 : List Te} (h : okG (l1 ++ .loop c :: l2) = true) (args : List Arg) : mkG (l1 ++ .loop c :: l2) c.id args = c.spec (mkG (l1 ++ .loop c :: l2)) args := by
  have hgs := gs_ok h
  obtain ⟨m1, _, _⟩ := mkG_mem h
  have m1 : mkG (l1 ++ .loop c :: l2) c.id = c.spec (mkG l2) := m1
  rw [m1]
  unfold Lk.spec
  have e : c.mu.den (argE (mkG l2) args) = c.mu.den (argE (mkG (l1 ++ .loop c :: l2)) args) := (T.noF (fun i => args.getD i default) _ _ c.mu).1
  rw [e, iter_noF fun w hw d hd g hg => hgs g (List.mem_flatMap.2 ⟨w, hw, List.mem_flatMap.2 ⟨d, hd, hg⟩⟩)]
theorem cardG_ok [Fs] {P : Program} {cf : Cf} (hcf : CfOk P cf) {fuel : Nat} {c : Pf} {ds : List Df} {ls : List T} (h : chkPf P cf fuel c ds ls = true) (l1 l2 : List Te) (hT : Fs.F = mkG (l1 ++ .card ⟨c.g, c.n, ds, ls⟩ :: l2)) (ho : okG (l1 ++ .card ⟨c.g, c.n, ds, ls⟩ :: l2) = true) : PfOk P c := by
  obtain ⟨pc, hr, hb⟩ := chkPf_ok h
  refine pf_ok hcf hr hb fun E hE _ hd => ?_
  have := specG_ok (c := ⟨c.g, c.n, ds, ls⟩) ho (E := E) (hE.trans hT) hd
  rw [← hT] at this
  exact this
theorem cardMG_ok [Fs] {P : Program} {cf : Cf} (hcf : CfOk P cf) {fuel : Nat} {c : Mf} {ds : List Df} {ls : List T} (h : chkMf P cf fuel c ds ls = true) (l1 l2 : List Te) (hT : Fs.F = mkG (l1 ++ .card ⟨c.id, c.n, ds, ls⟩ :: l2)) (ho : okG (l1 ++ .card ⟨c.id, c.n, ds, ls⟩ :: l2) = true) : MfOk P c := by
  obtain ⟨pc, hr⟩ := chkMf_ok h
  refine mf_ok hcf hr fun E hE _ hd => ?_
  have := specG_ok (c := ⟨c.id, c.n, ds, ls⟩) ho (E := E) (hE.trans hT) hd
  rw [← hT] at this
  exact this
theorem loop_ok [Fs] (c : Lk) (l1 l2 : List Te) (hT : Fs.F = mkG (l1 ++ .loop c :: l2)) (ho : okG (l1 ++ .loop c :: l2) = true) (args : List Arg) : Fs.F c.id args = c.spec Fs.F args := by
  rw [hT]; exact loopG_ok ho args
/-- A law: its one result is true by the plain law. -/
def lawG (g n : Nat) : Te := .card (lawF g n)
end Go.Sy
namespace Go.Sy
/-- A law over memory. -/
theorem law_okM [Fs] {P : Program} {cf : Cf} (hcf : CfOk P cf) {fuel : Nat} {c : Mf} {ds : List Df} {t : T} (h : chkMf P cf fuel c ds [t] = true) {lo hi : Int} (hr : c.res = .a (.c (.bool (.v c.n lo hi)))) (hlo : lo ≤ 1) (hhi : 1 ≤ hi) (hc : c.cnt = 1) (he : t.even = true) (hF : ∀ as : List Arg, Fs.F c.id as = [⟨1, fun _ => 1⟩])
    (hplain : ∀ E : Env, E.F = Fs.F → (∀ d ∈ ds, d.ok E) → t.den E = 1) : IsFn P c.g ∧ ∀ (E : Env) (ρ : Nat → Rb) (args : Array Value) (w : World), E.F = Fs.F → pcOk E c.pre → F2 (Ar E ρ c.blks.length) c.args args → InB E ρ c.blks w →
    Calls P c.g args w fun e w' => e = .returned (.bool true) ∧ RowKit.Below w.heap.size w w' := by
  obtain ⟨pc, hrun⟩ := chkMf_ok h
  have hok : MfOk P c := mf_ok hcf hrun fun E hE _ hd => by
    rw [hF]
    have h1 := hplain E hE hd
    simp only [List.map_cons, List.map_nil, T.me, h1]
    congr 2
    funext j
    rw [T.even_row he, h1]
  obtain ⟨h1, h2⟩ := hok
  refine ⟨h1, fun E ρ args w hE hpre ha hb => ?_⟩
  refine Calls.mono (h2 E ρ args w hE hpre ha hb) fun e w' q => ?_
  obtain ⟨v, ρ', q1, q2, q3, _, _⟩ := q
  rw [hr] at q3
  simp only [Lr, Ar, Cr] at q3
  refine ⟨?_, q2⟩
  rw [q1, q3]
  congr 2
  simp only [T.tr, T.den, resX, hc, hF]
  rw [if_neg (by omega), if_pos (by omega), Nat.sub_self]
  simp only [List.getElem?_cons_zero, Option.getD_some]
  rw [clamp_id ⟨hlo, hhi⟩]; rfl
end Go.Sy
namespace Go.Sy
/-! which way a loop takes, by the truths of a few terms -/
def lookB (t : T) : List (T × Bool) → Option Bool
  | [] => none
  | (u, b) :: r => bif t.beq u then some b else lookB t r
def pcA (α : List (T × Bool)) (pc : Pc) : Bool := pc.all fun p => match lookB p.1 α with
  | some b => b == p.2
  | none => false
def pickA (α : List (T × Bool)) : Nat → List Wy → Option (Nat × Wy)
  | _, [] => none
  | i, w :: r => bif pcA α w.pc then some (i, w) else pickA α (i + 1) r
def inB (bs : List T) (t : T) : Bool := bs.any fun u => t.beq u
/-- Does a way speak of these terms alone, its letters being among those of D? -/
def wyOk (n : Nat) (D : List Df) (bs : List T) (w : Wy) : Bool := match contig n w.ds with
  | some h => listB Df.beq (D.drop (D.length - w.ds.length)) w.ds && (D.take (D.length - w.ds.length)).all (fun d => Nat.ble h d.lo) && w.pc.all fun p => p.1.bel h && inB bs p.1
  | none => false
theorem extL_app_agree [Fs] {E : Env} {r : List Df} {h : Nat} : ∀ {pre : List Df}, pre.all (fun d => Nat.ble h d.lo) = true → Agree (extL E r) (extL E (pre ++ r)) h := by
  intro pre
  induction pre with
  | nil => intro _; exact Agree.refl _ _
  | cons d q ih =>
    intro hp
    simp only [List.all_cons, Bool.and_eq_true, Nat.ble_eq] at hp
    exact (ih hp.2).trans ((ext_agree (extL E (q ++ r)) d).mono hp.1) (Nat.le_refl _)
theorem lookB_in [Fs] {E : Env} {bs : List T} {t : T} (h : inB bs t = true) : lookB t (bs.zip (bs.map (T.tr E))) = some (t.tr E) := by
  induction bs with
  | nil => cases h
  | cons u r ih =>
    simp only [inB, List.any_cons, Bool.or_eq_true] at h
    simp only [List.map_cons, List.zip_cons_cons, lookB]
    cases hb : t.beq u <;> simp only [cond_true, cond_false]
    · rw [hb] at h
      exact ih (by simpa [inB] using h)
    · rw [T.beq_eq hb]
theorem pick_alpha [Fs] {F : Nat → List Arg → List Arg} {args : List Arg} {n : Nat} {D : List Df} {bs : List T} : ∀ {ws : List Wy} {b : Nat}, ws.all (wyOk n D bs) = true → pick F args b ws = pickA (bs.zip (bs.map (T.tr (extL (argE F args) D)))) b ws := by
  intro ws
  induction ws with
  | nil => intro b _; rfl
  | cons w r ih =>
    intro b h
    simp only [List.all_cons, Bool.and_eq_true] at h
    have e : pcB (wayE F args w) w.pc = pcA (bs.zip (bs.map (T.tr (extL (argE F args) D)))) w.pc := by
      have hw := h.1
      unfold wyOk at hw
      split at hw
      · rename_i hh hc
        simp only [Bool.and_eq_true] at hw
        obtain ⟨⟨h1, h2⟩, h3⟩ := hw
        have h1 := listB_eq (fun _ _ => Df.beq_eq) h1
        have ag : Agree (wayE F args w) (extL (argE F args) D) hh := by
          generalize D.length - w.ds.length = k at h1 h2
          have := extL_app_agree (E := argE F args) (r := D.drop k) h2
          rw [List.take_append_drop] at this
          unfold wayE
          rw [← h1]; exact this
        unfold pcB pcA
        rw [List.all_eq_true] at h3
        have : ∀ p ∈ w.pc, (p.1.tr (wayE F args w) == p.2) = (match lookB p.1 (bs.zip (bs.map (T.tr (extL (argE F args) D)))) with | some b => b == p.2 | none => false) := fun p hp => by
          have h4 := h3 p hp
          rw [Bool.and_eq_true] at h4
          rw [lookB_in h4.2]
          show _ = (p.1.tr (extL (argE F args) D) == p.2)
          rw [T.tr, T.tr, T.bel_den ag h4.1]
        revert this
        generalize w.pc = l
        intro this
        induction l with
        | nil => rfl
        | cons p q ih => rw [List.all_cons, List.all_cons, this p List.mem_cons_self, ih fun p hp => this p (List.mem_cons_of_mem _ hp)]
      · cases hw
    simp only [pick, pickA, e, ih h.2]
end Go.Sy
namespace Go.Sy
/-! letters that a term doesn't mention -/
def T.avo (S : List Nat) : T → Bool
  | .lit _ => true
  | .v i _ _ => !(S.any (Nat.beq i))
  | .un _ a => a.avo S
  | .bin _ a b => a.avo S && b.avo S
  | .ite c a b => c.avo S && a.avo S && b.avo S
  | .sel s i => s.avo S && i.avo S
  | .upd s i x => s.avo S && i.avo S && x.avo S
  | .sh s o => s.avo S && o.avo S
  | .blit d o n s => d.avo S && o.avo S && n.avo S && s.avo S
  | .eqr n a b => n.avo S && a.avo S && b.avo S
def Off (S : List Nat) (E E' : Env) : Prop := E.F = E'.F ∧ ∀ i, (S.any (Nat.beq i)) = false → E.x i = E'.x i
theorem T.avo_ok [Fs] {S : List Nat} {E E' : Env} (h : Off S E E') {t : T} (ht : t.avo S = true) : t.den E = t.den E' ∧ t.row E = t.row E' := by
  induction t with
  | lit n => exact ⟨rfl, rfl⟩
  | v i lo hi =>
    simp only [T.avo, Bool.not_eq_true'] at ht
    exact ⟨by simp only [T.den, h.2 i ht], by funext j; simp only [T.row, h.2 i ht]⟩
  | un o a ih => simp only [T.avo] at ht; cases o <;> exact ⟨by simp only [T.den, (ih ht).1], by funext j; simp only [T.row, (ih ht).1, (ih ht).2]⟩
  | bin o a b iha ihb =>
    simp only [T.avo, Bool.and_eq_true] at ht
    have key : o.den (a.den E) (b.den E) = o.den (a.den E') (b.den E') := by rw [(iha ht.1).1, (ihb ht.2).1]
    exact ⟨key, by funext j; exact key⟩
  | ite c a b ihc iha ihb =>
    simp only [T.avo, Bool.and_eq_true] at ht
    exact ⟨by simp only [T.den, (ihc ht.1.1).1, (iha ht.1.2).1, (ihb ht.2).1], by funext j; simp only [T.row, (ihc ht.1.1).1, (iha ht.1.2).2, (ihb ht.2).2]⟩
  | sel s i ihs ihi => simp only [T.avo, Bool.and_eq_true] at ht; exact ⟨by simp only [T.den, (ihs ht.1).2, (ihi ht.2).1], by funext j; simp only [T.row, (ihs ht.1).2, (ihi ht.2).1]⟩
  | upd s i x ihs ihi ihx => simp only [T.avo, Bool.and_eq_true] at ht; exact ⟨rfl, by funext j; simp only [T.row, (ihs ht.1.1).2, (ihi ht.1.2).1, (ihx ht.2).1]⟩
  | sh s o ihs iho => simp only [T.avo, Bool.and_eq_true] at ht; exact ⟨rfl, by funext j; simp only [T.row, (ihs ht.1).2, (iho ht.2).1]⟩
  | blit d o n s ihd iho ihn ihs => simp only [T.avo, Bool.and_eq_true] at ht; exact ⟨rfl, by funext j; simp only [T.row, (ihd ht.1.1.1).2, (iho ht.1.1.2).1, (ihn ht.1.2).1, (ihs ht.2).2]⟩
  | eqr n a b ihn iha ihb => simp only [T.avo, Bool.and_eq_true] at ht; exact ⟨by simp only [T.den, (ihn ht.1.1).1, (iha ht.1.2).2, (ihb ht.2).2], by funext j; simp only [T.row, (ihn ht.1.1).1, (iha ht.1.2).2, (ihb ht.2).2]⟩
theorem T.avo_me [Fs] {S : List Nat} {E E' : Env} (h : Off S E E') {t : T} (ht : t.avo S = true) : t.me E = t.me E' := by
  obtain ⟨h1, h2⟩ := T.avo_ok h ht
  unfold T.me; rw [h1, h2]
theorem Off.ext [Fs] {S : List Nat} {E E' : Env} (h : Off S E E') {d : Df} (hd : d.args.all (·.avo S) = true) : Off S (d.ext E) (d.ext E') := by
  rw [List.all_eq_true] at hd
  have set : ∀ (i cnt : Nat) (f g : Nat → Arg), (∀ k, f k = g k) → Off S (setX E i cnt f) (setX E' i cnt g) := fun i cnt f g hfg =>
    ⟨h.1, fun j hj => by
      simp only [setX]
      split
      · exact hfg _
      · exact h.2 j hj⟩
  cases d with
  | one i t => exact set i 1 _ _ fun _ => T.avo_me h (hd t List.mem_cons_self)
  | call i g args cnt =>
    simp only [Df.ext]
    refine set i cnt _ _ fun k => ?_
    have : args.map (T.me E) = args.map (T.me E') := List.map_congr_left fun t ht => T.avo_me h (hd t ht)
    rw [this, h.1]
theorem Off.extL [Fs] {S : List Nat} {E E' : Env} (h : Off S E E') : ∀ {ds : List Df}, ds.all (fun d => d.args.all (·.avo S)) = true → Off S (extL E ds) (extL E' ds) := by
  intro ds
  induction ds with
  | nil => intro _; exact h
  | cons d r ih =>
    intro hd
    simp only [List.all_cons, Bool.and_eq_true] at hd
    exact (ih hd.2).ext hd.1
/-- What a function tells in one place doesn't turn with letters that it doesn't mention. -/
theorem comp_avoid [Fs] {l1 l2 : List Te} {c : Fk} (h : okG (l1 ++ .card c :: l2) = true) (hT : Fs.F = mkG (l1 ++ .card c :: l2)) {S : List Nat} (hds : c.ds.all (fun d => d.args.all (·.avo S)) = true) {xs ys : List Arg}
    (hxy : ∀ i, (S.any (Nat.beq i)) = false → xs.getD i default = ys.getD i default) {i : Nat} {t : T} (hi : c.ls[i]? = some t) (ht : t.avo S = true) : (Fs.F c.g xs)[i]? = (Fs.F c.g ys)[i]? := by
  have e : ∀ zs, Fs.F c.g zs = c.spec (mkG l2) zs := fun zs => by
    rw [hT]; exact congrFun (mkG_mem h).1 zs
  rw [e, e]
  simp only [Fk.spec, List.getElem?_map, hi, Option.map_some]
  rw [T.avo_me (Off.extL (E := ⟨fun i => xs.getD i default, mkG l2⟩) (E' := ⟨fun i => ys.getD i default, mkG l2⟩) ⟨rfl, hxy⟩ hds) ht]
/-! two calls that differ in letters that don't count -/
def sameOff (S : List Nat) : Nat → List T → List T → Bool
  | _, [], [] => true
  | i, x :: xs, y :: ys => (S.any (Nat.beq i) || x.beq y) && sameOff S (i + 1) xs ys
  | _, _, _ => false
theorem sameOff_get [Fs] {S : List Nat} {E : Env} : ∀ {xs ys : List T} {b : Nat}, sameOff S b xs ys = true → ∀ i, (S.any (Nat.beq (b + i))) = false → (xs.map (T.me E)).getD i default = (ys.map (T.me E)).getD i default := by
  intro xs
  induction xs with
  | nil => intro ys b h i _; cases ys; rfl; cases h
  | cons x xs ih =>
    intro ys b h i hi
    cases ys with
    | nil => cases h
    | cons y ys =>
      simp only [sameOff, Bool.and_eq_true, Bool.or_eq_true] at h
      cases i with
      | zero =>
        rcases h.1 with h1 | h1
        · rw [Nat.add_zero] at hi; rw [hi] at h1; cases h1
        · simp only [List.map_cons, List.getD_cons_zero, T.beq_eq h1]
      | succ i =>
        simp only [List.map_cons, List.getD_cons_succ]
        exact ih h.2 i (by rw [show b + 1 + i = b + (i + 1) by omega]; exact hi)
def renS (a b : Nat) (K : List Nat) : Sg := fun i lo hi => bif Nat.ble b i && K.any (Nat.beq (i - b)) then .v (a + (i - b)) lo hi else .v i lo hi
def sureB (c : Fk) (S K : List Nat) (a b cnt : Nat) (xs ys : List T) (t : T) : Bool :=
  c.ds.all (fun d => d.args.all (·.avo S)) && K.all (fun k => Nat.blt k cnt && match c.ls[k]? with | some u => u.avo S | none => false) && sameOff S 0 xs ys && (t.sub (renS a b K)).beq (.lit 1)
theorem sure_plain [Fs] {l1 l2 : List Te} {c : Fk} (h : okG (l1 ++ .card c :: l2) = true) (hT : Fs.F = mkG (l1 ++ .card c :: l2)) {ds : List Df} {a b cnt : Nat} {xs ys : List T} {t : T} (h0 : Df.call b c.g ys cnt ∈ ds) (h1 : Df.call a c.g xs cnt ∈ ds) (S K : List Nat)
    (hb : sureB c S K a b cnt xs ys t = true) (E : Env) (hE : E.F = Fs.F) (hd : ∀ d ∈ ds, d.ok E) : t.den E = 1 := by
  simp only [sureB, Bool.and_eq_true] at hb
  obtain ⟨⟨⟨b1, b2⟩, b3⟩, b4⟩ := hb
  have key : ∀ k, K.any (Nat.beq k) = true → E.x (b + k) = E.x (a + k) := fun k hk => by
    rw [List.any_eq_true] at hk
    obtain ⟨k', hk', e⟩ := hk
    have e := Nat.eq_of_beq_eq_true e
    subst e
    rw [List.all_eq_true] at b2
    have := b2 k hk'
    rw [Bool.and_eq_true, Nat.blt_eq] at this
    obtain ⟨hlt, hu⟩ := this
    split at hu
    · rename_i u hu'
      rw [hd _ h0 k hlt, hd _ h1 k hlt, hE]
      congr 1
      exact (comp_avoid h hT b1 (fun i hi => sameOff_get b3 i (by rw [Nat.zero_add]; exact hi)) hu' hu).symm
    · cases hu
  have hs : SubOk E E (renS a b K) := by
    have key2 : ∀ i lo hi, (renS a b K i lo hi).den E = clamp lo hi (E.x i).n ∧ ∀ j, (renS a b K i lo hi).row E j = clamp lo hi ((E.x i).s j) := by
      intro i lo hi
      unfold renS
      cases hq : Nat.ble b i && K.any (Nat.beq (i - b))
      · exact ⟨rfl, fun j => rfl⟩
      · rw [Bool.and_eq_true, Nat.ble_eq] at hq
        have := key (i - b) hq.2
        rw [show b + (i - b) = i by omega] at this
        simp only [cond_true, T.den, T.row, this]
        exact ⟨trivial, fun j => trivial⟩
    exact ⟨rfl, fun i lo hi => (key2 i lo hi).1, fun i lo hi j => (key2 i lo hi).2 j⟩
  have := T.sub_den hs t
  rw [← this, T.beq_eq b4]; rfl
end Go.Sy
