/- Part 28 of a checked reader of Go texts in their model form: it runs a function at terms in the place of numbers, and each part proves that its answers hold of the model. -/
import Derived.Test.YtddfbikeaipepaaHy27
namespace Go.Sy
/-- A loop's letters: those that stand fast, those that turn. -/
def hA (par : List T) (E0 E : Env) (n0 s : Nat) : List Arg := par.map (T.me E0) ++ (List.range s).map fun j => E.x (n0 + j)
theorem hA_x [Fs] {par : List T} {E0 E : Env} {n0 s : Nat} {F : Nat → List Arg → List Arg} (hl : par.length = n0) (hb : par.all (·.bel n0) = true) (hag : Agree E0 E n0) : ∀ i, i < n0 + s → (clE par n0 E).x i = (argE F (hA par E0 E n0 s)).x i := by
  intro i hi
  simp only [clE, argE, hA, List.getD_eq_getElem?_getD]
  by_cases h : i < n0
  · rw [if_pos h, List.getElem?_append_left (by rw [List.length_map, hl]; exact h), List.getElem?_map]
    rw [List.getElem?_eq_getElem (by rw [hl]; exact h)]
    simp only [Option.getD_some, Option.map_some]
    rw [List.all_eq_true] at hb
    exact T.bel_me hag (hb _ (List.getElem_mem _))
  · rw [if_neg h, List.getElem?_append_right (by rw [List.length_map, hl]; omega), List.length_map, hl, List.getElem?_map, List.getElem?_range (by omega)]
    simp only [Option.map_some, Option.getD_some]
    congr 1; omega
theorem pcB_of [Fs] {E : Env} {pc : Pc} (h : ∀ p ∈ pc, p.1.tr E = p.2) : pcB E pc = true := by
  unfold pcB
  rw [List.all_eq_true]
  intro p hp
  rw [h p hp]; exact beq_self_eq_true _
theorem pcB_no [Fs] {E : Env} {pc : Pc} {p : T × Bool} (hp : p ∈ pc) (h : p.1.tr E = !p.2) : pcB E pc = false := by
  cases hb : pcB E pc
  · rfl
  · unfold pcB at hb
    rw [List.all_eq_true] at hb
    have := beq_iff_eq.1 (hb p hp)
    rw [h] at this
    cases hq : p.2 <;> rw [hq] at this <;> cases this
theorem T.tr_of_den [Fs] {E E' : Env} {t : T} (h : t.den E = t.den E') : t.tr E = t.tr E' := by unfold T.tr; rw [h]
theorem iter_at [Fs] {F : Nat → List Arg → List Arg} {c : Lk} {f : Nat} {args : List Arg} {i : Nat} {w : Wy} (h : pick F args 0 c.ways = some (i, w)) : iter F c (f + 1) args = bif w.go then iter F c f (args.take c.n0 ++ w.ts.map (T.me (wayE F args w))) else some (⟨i, fun _ => i⟩ :: w.ts.map (T.me (wayE F args w))) := by
  rw [iter, h]
/-- What a way's run says of what the loop tells. -/
theorem way_ok [Fs] {l : Ls} {st st' : St} {w : Wy} {k h : Nat} {X0 E E2 : Env} (hc : contig l.n w.ds = some h) (hw : wayB l st st' w (l.c.ways.take k) h = true) (hk : l.c.ways[k]? = some w) (hl : l.par.length = l.c.n0) (hb : l.par.all (·.bel l.c.n0) = true)
    (hag0 : Agree X0 E l.c.n0) (hag : Agree E E2 l.n) (hp : pcOk E2 st'.pc) (hd : ∀ d ∈ st'.k.ds, d.ok E2) (hF : E2.F = Fs.F) :
    pick Fs.F (hA l.par X0 E l.c.n0 l.c.s) 0 l.c.ways = some (k, w) ∧ w.ts.map (T.me (wayE Fs.F (hA l.par X0 E l.c.n0 l.c.s) w)) = w.ts.map (T.me E2) := by
  simp only [wayB, Bool.and_eq_true, List.all_eq_true] at hw
  obtain ⟨⟨⟨⟨w1, w2⟩, w3⟩, w4⟩, w5⟩ := hw
  have w1 := listB_eq (fun _ _ => Df.beq_eq) w1
  have hn : l.c.n0 ≤ l.n := Nat.le_add_right _ _
  have hx : ∀ i, i < l.n → (clE l.par l.c.n0 E2).x i = (argE Fs.F (hA l.par X0 E l.c.n0 l.c.s)).x i := by
    intro i hi
    rw [← hA_x (F := Fs.F) hl hb hag0 i hi]
    simp only [clE]
    by_cases h0 : i < l.c.n0
    · rw [if_pos h0, if_pos h0]
      rw [List.all_eq_true] at hb
      refine T.bel_me (hag.mono hn) ?_
      rw [List.getD_eq_getElem?_getD, List.getElem?_eq_getElem (by rw [hl]; exact h0), Option.getD_some]
      exact hb _ (List.getElem_mem _)
    · rw [if_neg h0, if_neg h0]; exact hag.x i hi
  have hdc : ∀ ds : List Df, (∀ d ∈ ds, d ∈ w.ds) → ∀ d ∈ ds, d.ok (clE l.par l.c.n0 E2) := fun ds hds d hd' => by
    have hm := hds d hd'
    refine Df.ok_clE (Nat.le_trans hn ((contig_lo hc).2 d hm)) (by rw [List.all_eq_true]; exact w2 d hm) (hd d ?_)
    rw [w1]; exact List.mem_append_left _ hm
  have ag := contig_ok (E := clE l.par l.c.n0 E2) (E0 := argE Fs.F (hA l.par X0 E l.c.n0 l.c.s)) hF hx hc (hdc w.ds fun _ h => h)
  have val : ∀ t : T, t.bel h = true → t.rok l.par l.c.n0 = true → T.me (wayE Fs.F (hA l.par X0 E l.c.n0 l.c.s) w) t = T.me E2 t := fun t h1 h2 => by
    exact (T.bel_me ag h1).symm.trans (T.rok_eq h2)
  refine ⟨?_, List.map_congr_left fun t ht => val t (w4 t ht).1 (w4 t ht).2⟩
  have hpk : pcB (wayE Fs.F (hA l.par X0 E l.c.n0 l.c.s) w) w.pc = true := by
    refine pcB_of fun p hp' => ?_
    obtain ⟨⟨h1, h2⟩, h3⟩ := w3 p hp'
    rw [T.tr_of_den (congrArg Arg.n (val p.1 h1 h2))]
    exact decB_ok hp h3
  have := pick_at (b := 0) hk hpk fun j v hj hv => ?_
  · rw [Nat.zero_add] at this; exact this
  have hm : v ∈ l.c.ways.take k := by
    have : (l.c.ways.take k)[j]? = some v := by rw [List.getElem?_take, if_pos hj]; exact hv
    exact List.mem_of_getElem? this
  obtain ⟨⟨v1, v2⟩, v3⟩ := w5 v hm
  unfold clash at v2
  split at v2
  · rename_i hc' hcc
    rw [List.any_eq_true] at v2
    obtain ⟨p, p1, p2⟩ := v2
    rw [Bool.and_eq_true] at p2
    obtain ⟨⟨pa, e1⟩, pb, e2⟩ := comS_ok (a := v.ds) (b := w.ds)
    generalize comS v.ds w.ds = cm at hcc e1 e2
    obtain ⟨hv', v4⟩ := Option.isSome_iff_exists.1 v3
    rw [e1] at v4
    obtain ⟨hc2, g1, g2, g3⟩ := contig_app (E := argE Fs.F (hA l.par X0 E l.c.n0 l.c.s)) v4
    rw [hcc] at g1; cases g1
    have ag2 := contig_ok (E := clE l.par l.c.n0 E2) (E0 := argE Fs.F (hA l.par X0 E l.c.n0 l.c.s)) hF hx hcc (hdc _ fun d hd' => by rw [e2]; exact List.mem_append_right _ hd')
    refine pcB_no p1 ?_
    have h3 : p.1.tr E2 = !p.2 := decB_ok hp p2.2
    rw [← h3, ← T.tr_of_den (T.rok_me (E := E2) (v1 p p1)).1]
    refine T.tr_of_den ?_
    have q1 : p.1.den (clE l.par l.c.n0 E2) = p.1.den (extL (argE Fs.F (hA l.par X0 E l.c.n0 l.c.s)) cm) := T.bel_den ag2 p2.1
    have q2 : p.1.den (wayE Fs.F (hA l.par X0 E l.c.n0 l.c.s) v) = p.1.den (extL (argE Fs.F (hA l.par X0 E l.c.n0 l.c.s)) cm) := by
      unfold wayE
      rw [e1]
      exact T.bel_den g3 p2.1
    rw [q2, q1]
  · cases v2
end Go.Sy
