/- Functions, each told by its own run; and what follows from what they tell. -/
import Derived.Test.YtddfbikeaipepaaPlainFreeC
namespace Go.Sy
theorem trand (E : Env) (a b : T) : (T.bin .and a b).tr E = (a.tr E && b.tr E) := by simp only [T.tr, T.den, O2.den, tb_ne]
theorem tror (E : Env) (a b : T) : (T.bin .or a b).tr E = (a.tr E || b.tr E) := by simp only [T.tr, T.den, O2.den, tb_ne]
theorem trnot (E : Env) (a : T) : (T.un .not a).tr E = !(a.tr E) := by simp only [T.tr, T.den, O1.den, tb_ne]; cases h : a.den E == 0 <;> simp_all
theorem treq (E : Env) (a b : T) : (T.bin .eq a b).tr E = (a.den E == b.den E) := by simp only [T.tr, T.den, O2.den, tb_ne]
theorem trlt (E : Env) (a b : T) : (T.bin .lt a b).tr E = ltb (a.den E) (b.den E) := by simp only [T.tr, T.den, O2.den, tb_ne]
theorem denlit (E : Env) (n : Int) : (T.lit n).den E = n := rfl
theorem den_of_tr {E : Env} {a b : T} (h : (T.bin .or a b).tr E = true) : (T.bin .or a b).den E = 1 := by
  simp only [T.tr, T.den, O2.den, tb_ne] at h ⊢
  rw [h]; rfl
/-! truths by the truths of a few terms -/
def T.ev (α : List (T × Bool)) (t : T) : Option Bool := match lookB t α with
  | some b => some b
  | none => match t with
    | .lit n => some (n != 0)
    | .un .not a => (a.ev α).map (!·)
    | .bin .and a b => (match a.ev α, b.ev α with
      | some false, _ => some false
      | _, some false => some false
      | some true, some true => some true
      | _, _ => none)
    | .bin .or a b => (match a.ev α, b.ev α with
      | some true, _ => some true
      | _, some true => some true
      | some false, some false => some false
      | _, _ => none)
    | .ite c a b => (match c.ev α with
      | some true => a.ev α
      | some false => b.ev α
      | none => none)
    | _ => none
def AllTr (E : Env) (α : List (T × Bool)) : Prop := ∀ p ∈ α, p.1.tr E = p.2
theorem lookB_mem {t : T} {b : Bool} : ∀ {α : List (T × Bool)}, lookB t α = some b → (t, b) ∈ α := by
  intro α
  induction α with
  | nil => intro h; cases h
  | cons p r ih =>
    intro h
    obtain ⟨u, c⟩ := p
    simp only [lookB] at h
    cases hb : t.beq u <;> simp only [hb, cond_true, cond_false] at h
    · exact List.mem_cons_of_mem _ (ih h)
    · cases h; rw [T.beq_eq hb]; exact List.mem_cons_self
theorem T.ev_ok {E : Env} {α : List (T × Bool)} (hα : AllTr E α) : ∀ {t : T} {b : Bool}, t.ev α = some b → t.tr E = b := by
  intro t
  induction t with
  | un o a ih =>
    intro b h
    unfold T.ev at h
    split at h
    · rename_i c hl; cases h; exact hα _ (lookB_mem hl)
    · cases o with
      | not =>
        simp only [Option.map_eq_some_iff] at h
        obtain ⟨c, h1, rfl⟩ := h
        rw [trnot, ih h1]
      | _ => cases h
  | bin o x y ihx ihy =>
    intro b h
    unfold T.ev at h
    split at h
    · rename_i c hl; cases h; exact hα _ (lookB_mem hl)
    · cases o with
      | and =>
        simp only at h
        rw [trand]
        split at h
        · rename_i h1; cases h; rw [ihx h1]; rfl
        · rename_i h1 _; cases h; rw [ihy h1, Bool.and_false]
        · rename_i h1 h2; cases h; rw [ihx h1, ihy h2]; rfl
        · cases h
      | or =>
        simp only at h
        rw [tror]
        split at h
        · rename_i h1; cases h; rw [ihx h1]; rfl
        · rename_i h1 _; cases h; rw [ihy h1, Bool.or_true]
        · rename_i h1 h2; cases h; rw [ihx h1, ihy h2]; rfl
        · cases h
      | _ => cases h
  | ite c a b' ihc iha ihb =>
    intro b h
    unfold T.ev at h
    split at h
    · rename_i q hl; cases h; exact hα _ (lookB_mem hl)
    · simp only at h
      have e : (T.ite c a b').tr E = if c.tr E = true then a.tr E else b'.tr E := by
        simp only [T.tr, T.den]
        by_cases h0 : c.den E = 0
        · simp [h0]
        · simp [h0]
      rw [e]
      split at h
      · rename_i h1; rw [ihc h1, if_pos rfl]; exact iha h
      · rename_i h1; rw [ihc h1, if_neg (by decide)]; exact ihb h
      · cases h
  | lit n =>
    intro b h
    unfold T.ev at h
    split at h
    · rename_i q hl; cases h; exact hα _ (lookB_mem hl)
    · cases h; rfl
  | _ =>
    intro b h
    unfold T.ev at h
    split at h
    · rename_i q hl; cases h; exact hα _ (lookB_mem hl)
    · cases h
def prs (a b : Nat) (keep : Nat → Bool) : Nat → List K → List (T × Bool)
  | _, [] => []
  | i, .i k :: r => bif keep i then (.bin .eq (.v (a + i) (kmin k) (kmax k)) (.v (b + i) (kmin k) (kmax k)), true) :: prs a b keep (i + 1) r else prs a b keep (i + 1) r
  | i, .b :: r => bif keep i then (.bin .eq (.v (a + i) 0 1) (.v (b + i) 0 1), true) :: prs a b keep (i + 1) r else prs a b keep (i + 1) r
theorem prs_ok {E : Env} {a b : Nat} {keep : Nat → Bool} {n : Nat} (h : ∀ i, i < n → keep i = true → E.x (a + i) = E.x (b + i)) : ∀ {ks : List K} {i : Nat}, i + ks.length ≤ n → AllTr E (prs a b keep i ks) := by
  intro ks
  induction ks with
  | nil => intro i _ p hp; cases hp
  | cons k r ih =>
    intro i hi
    simp only [List.length_cons] at hi
    have ih := ih (i := i + 1) (by omega)
    have one : ∀ lo hi' : Int, keep i = true → (T.bin .eq (.v (a + i) lo hi') (.v (b + i) lo hi')).tr E = true := fun lo hi' hk => by
      rw [treq]
      simp only [T.den, h i (by omega) hk, beq_self_eq_true]
    cases k with
    | i k =>
      simp only [prs]
      cases hk : keep i <;> simp only [cond_true, cond_false]
      · exact ih
      · intro p hp
        rcases List.mem_cons.1 hp with rfl | hp
        · exact one _ _ hk
        · exact ih p hp
    | b =>
      simp only [prs]
      cases hk : keep i <;> simp only [cond_true, cond_false]
      · exact ih
      · intro p hp
        rcases List.mem_cons.1 hp with rfl | hp
        · exact one _ _ hk
        · exact ih p hp
theorem AllTr.app {E : Env} {α β : List (T × Bool)} (h : AllTr E α) (g : AllTr E β) : AllTr E (α ++ β) := fun p hp => (List.mem_append.1 hp).elim (h p) (g p)
theorem AllTr.cons {E : Env} {t : T} {b : Bool} {β : List (T × Bool)} (h : t.tr E = b) (g : AllTr E β) : AllTr E ((t, b) :: β) := fun p hp => by
  rcases List.mem_cons.1 hp with rfl | hp
  · exact h
  · exact g p hp
theorem AllTr.nil {E : Env} : AllTr E [] := fun _ hp => nomatch hp
/-- Which way, by these. -/
theorem pick_ev {F : Nat → List Arg → List Arg} {args : List Arg} {n : Nat} {D : List Df} {bs : List T} {ws : List Wy} (h : ws.all (wyOk n D bs) = true) {α : List (T × Bool)} (hα : AllTr (extL (argE F args) D) α) {vs : List Bool} (hv : bs.map (T.ev α) = vs.map some) {b : Nat} :
    pick F args b ws = pickA (bs.zip vs) b ws := by
  rw [pick_alpha h]
  have : bs.map (T.tr (extL (argE F args) D)) = vs := by
    clear h
    induction bs generalizing vs with
    | nil => cases vs with
      | nil => rfl
      | cons _ _ => cases hv
    | cons t r ih =>
      cases vs with
      | nil => cases hv
      | cons v vs =>
        simp only [List.map_cons, List.cons.injEq] at hv ⊢
        exact ⟨T.ev_ok hα hv.1, ih hv.2⟩
  rw [this]
theorem pick_inv {F : Nat → List Arg → List Arg} {args : List Arg} : ∀ {ws : List Wy} {b j : Nat} {w : Wy}, pick F args b ws = some (j, w) → ∃ i, j = b + i ∧ ws[i]? = some w ∧ pcB (wayE F args w) w.pc = true := by
  intro ws
  induction ws with
  | nil => intro b j w h; cases h
  | cons v r ih =>
    intro b j w h
    simp only [pick] at h
    cases hb : pcB (wayE F args v) v.pc <;> simp only [hb, cond_true, cond_false] at h
    · obtain ⟨i, rfl, h2, h3⟩ := ih h
      exact ⟨i + 1, by omega, h2, h3⟩
    · cases h; exact ⟨0, rfl, rfl, hb⟩
/-- A way that doesn't fit is passed by. -/
theorem pick_skip {F : Nat → List Arg → List Arg} {args : List Arg} {w : Wy} {r : List Wy} {b : Nat} {t : T} {v : Bool} (hm : (t, v) ∈ w.pc) (ht : t.tr (wayE F args w) = !v) : pick F args b (w :: r) = pick F args (b + 1) r := by
  simp only [pick]
  have : pcB (wayE F args w) w.pc = false := by
    cases h : pcB (wayE F args w) w.pc
    · rfl
    · simp only [pcB, List.all_eq_true] at h
      have := h _ hm
      rw [ht] at this
      cases v <;> cases this
  rw [this]; rfl
/-- What a loop tells first: a way that ends. -/
theorem iter_head {F : Nat → List Arg → List Arg} {c : Lk} : ∀ {k : Nat} {l r : List Arg}, iter F c k l = some r → ∃ (j : Nat) (w : Wy) (q : List Arg), r = ⟨(j : Int), fun _ => (j : Int)⟩ :: q ∧ c.ways[j]? = some w ∧ w.go = false := by
  intro k
  induction k with
  | zero => intro l r h; cases h
  | succ k ih =>
    intro l r h
    simp only [iter] at h
    split at h
    · rename_i j w hp
      obtain ⟨i, h1, h2, _⟩ := pick_inv hp
      rw [Nat.zero_add] at h1
      subst h1
      cases hg : w.go <;> simp only [hg, cond_true, cond_false] at h
      · cases h; exact ⟨j, w, _, rfl, h2, hg⟩
      · exact ih h
    · cases h
end Go.Sy
namespace Go.Sy
def V (i : Nat) : T := .v i (-9223372036854775808) 9223372036854775807
def V0 (i : Nat) : T := .v i 0 9223372036854775807
def iOf (k : Nat) (l : List Arg) : Int := clamp 0 9223372036854775807 (l.getD k default).n
theorem way_eq {c : Lk} {i : Nat} {w : Wy} (h : c.ways[i]? = some w) : w = way c i := by rw [way, h]; rfl
theorem pc_at {E : Env} {pc : Pc} (h : pcB E pc = true) {i : Nat} {p : T × Bool} (hp : pc[i]? = some p) : p.1.tr E = p.2 := by
  simp only [pcB, List.all_eq_true] at h
  have := h p (List.mem_of_getElem? hp)
  simpa using this
theorem getD_take {l : List Arg} {k i : Nat} (h : i < k) : (l.take k).getD i default = l.getD i default := by
  rw [List.getD_eq_getElem?_getD, List.getD_eq_getElem?_getD, List.getElem?_take, if_pos h]
/-! the loop of 'are' -/
theorem v18_13 (l : List Arg) : (T.v 18 0 1).tr (wayE Fs.F l (way k2013 1)) = (clamp 0 1 (num (Fs.F 21 (insX (argE Fs.F l).x (iOf 17 l)))) != 0) := by kernel_rfl
theorem lt_13 (l : List Arg) (i : Nat) (hi : i = 1 ∨ i = 2) : (T.bin .lt (V0 17) (V0 0)).tr (wayE Fs.F l (way k2013 i)) = ltb (iOf 17 l) (nOf (argE Fs.F l).x) := by
  rw [trlt]
  rcases hi with rfl | rfl <;> kernel_rfl
theorem ts_13 (l : List Arg) : (way k2013 1).ts.map (T.me (wayE Fs.F l (way k2013 1))) = [⟨iOf 17 l + 1, fun _ => iOf 17 l + 1⟩] := by kernel_rfl
theorem are_loop (x : Nat → Arg) : ∀ (k : Nat) (l r : List Arg), 17 ≤ l.length → (∀ j, insX (argE Fs.F l).x j = insX x j) → nOf (argE Fs.F l).x = nOf x → iter Fs.F k2013 k l = some r → (r.getD 0 default).n ≠ 0 →
    ∀ j, iOf 17 l ≤ j → j < nOf x → num (Fs.F 21 (insX x j)) ≠ 0 := by
  intro k
  induction k with
  | zero => intro l r _ _ _ h; cases h
  | succ k ih =>
    intro l r hlen hins hn h hr j h1 h2
    simp only [iter] at h
    split at h
    · rename_i q w hp
      obtain ⟨i, hi, hw, hpc⟩ := pick_inv hp
      rw [Nat.zero_add] at hi
      subst hi
      have hlt : q < 3 := by
        have := (List.getElem?_eq_some_iff.1 hw).1
        have e : k2013.ways.length = 3 := by kernel_rfl
        omega
      have hw := way_eq hw
      subst hw
      have hq : q = 0 ∨ q = 1 ∨ q = 2 := by omega
      rcases hq with rfl | rfl | rfl
      · rw [show (way k2013 0).go = false by kernel_rfl, cond_false] at h
        cases h
        exact absurd rfl hr
      · rw [show (way k2013 1).go = true by kernel_rfl, cond_true, ts_13] at h
        have p0 := pc_at hpc (i := 0) (p := (.v 18 0 1, true)) (by kernel_rfl)
        have p1 := pc_at hpc (i := 1) (p := (.bin .lt (V0 17) (V0 0), true)) (by kernel_rfl)
        rw [v18_13, hins] at p0
        rw [lt_13 l 1 (.inl rfl), hn, ltb_t] at p1
        by_cases hj : j = iOf 17 l
        · subst hj
          intro h0
          rw [h0] at p0
          cases p0
        · have hN := nOf_range x
          have h17 : iOf 17 (l.take k2013.n0 ++ [⟨iOf 17 l + 1, fun _ => iOf 17 l + 1⟩]) = iOf 17 l + 1 := by
            have e : (l.take k2013.n0).length = 17 := by rw [show k2013.n0 = 17 by kernel_rfl, List.length_take]; omega
            have := getD_right (p := l.take k2013.n0) (q := [(⟨iOf 17 l + 1, fun _ => iOf 17 l + 1⟩ : Arg)]) (i := 0)
            rw [e] at this
            rw [iOf, this]
            have h0 : 0 ≤ iOf 17 l := by unfold iOf clamp; split <;> (try split) <;> omega
            exact clamp_id ⟨by show 0 ≤ iOf 17 l + 1; omega, by show iOf 17 l + 1 ≤ _; omega⟩
          have e17 : ∀ i, i < 17 → (l.take k2013.n0 ++ [(⟨iOf 17 l + 1, fun _ => iOf 17 l + 1⟩ : Arg)]).getD i default = l.getD i default := fun i hi => by
            have e : (l.take k2013.n0).length = 17 := by rw [show k2013.n0 = 17 by kernel_rfl, List.length_take]; omega
            rw [getD_left (by omega), show k2013.n0 = 17 by kernel_rfl, getD_take hi]
          refine ih _ r ?_ (fun j => ?_) ?_ h hr j (by rw [h17]; omega) h2
          · rw [List.length_append, show k2013.n0 = 17 by kernel_rfl, List.length_take]
            omega
          · rw [← hins j]; exact insX_eq (fun i _ hi => e17 i hi) j
          · rw [← hn]; show clamp _ _ (List.getD (_ : List Arg) 0 default).n = clamp _ _ (List.getD l 0 default).n; rw [e17 0 (by decide)]
      · have p0 := pc_at hpc (i := 0) (p := (.bin .lt (V0 17) (V0 0), false)) (by kernel_rfl)
        rw [lt_13 l 2 (.inr rfl), hn, ltb_f] at p0
        omega
    · cases h
/-! the loop of the two states -/
def resK : List K := stK ++ [.i .i64, .i .u32, .i .u32, .i .i64, .b]
def cAt (k : Nat) (l : List Arg) : List Arg := (parK k stK).map (T.me (argE Fs.F l))
theorem cAt_len (k : Nat) (l : List Arg) : (cAt k l).length = 17 := by kernel_rfl
theorem cAt_get (j : Nat) (hj : j < 17) : ∃ lo hi : Int, ∀ (k : Nat) (l : List Arg), (cAt k l).getD j default = ⟨clamp lo hi (l.getD (k + j) default).n, fun q => clamp lo hi ((l.getD (k + j) default).s q)⟩ := by
  have h : j = 0 ∨ j = 1 ∨ j = 2 ∨ j = 3 ∨ j = 4 ∨ j = 5 ∨ j = 6 ∨ j = 7 ∨ j = 8 ∨ j = 9 ∨ j = 10 ∨ j = 11 ∨ j = 12 ∨ j = 13 ∨ j = 14 ∨ j = 15 ∨ j = 16 := by omega
  rcases h with rfl | rfl | rfl | rfl | rfl | rfl | rfl | rfl | rfl | rfl | rfl | rfl | rfl | rfl | rfl | rfl | rfl <;> exact ⟨_, _, fun k l => rfl⟩
def D07 : List Df := (way k2107 0).ds
def bs07 : List T := k2107.ways.flatMap fun w => w.pc.map (·.1)
theorem ok07 : k2107.ways.all (wyOk 103 D07 bs07) = true := by kernel_rfl
def P07 (l : List Arg) : List Arg := Fs.F 2022 (insX (argE Fs.F l).x (iOf 68 l) ++ cAt 69 l)
def Q07 (l : List Arg) : List Arg := Fs.F 2022 (insX (argE Fs.F l).x (iOf 68 l) ++ cAt 86 l)
def E07 (l : List Arg) : Env := extL (argE Fs.F l) D07
theorem E07_eq (l : List Arg) : E07 l = setX (setX (argE Fs.F l) 103 22 fun k => ((P07 l)[k]?).getD default) 125 22 fun k => ((Q07 l)[k]?).getD default := by kernel_rfl
theorem E07_P (l : List Arg) {k : Nat} (h : k < 22) : (E07 l).x (103 + k) = (P07 l).getD k default := by
  rw [E07_eq]
  simp only [setX]
  rw [if_neg (by omega), if_pos ⟨by omega, by omega⟩, show 103 + k - 103 = k by omega, List.getD_eq_getElem?_getD]
theorem E07_Q (l : List Arg) {k : Nat} (h : k < 22) : (E07 l).x (125 + k) = (Q07 l).getD k default := by
  rw [E07_eq]
  simp only [setX]
  rw [if_pos ⟨by omega, by omega⟩, show 125 + k - 125 = k by omega, List.getD_eq_getElem?_getD]
theorem E07_l (l : List Arg) {k : Nat} (h : k < 103) : (E07 l).x k = l.getD k default := by
  rw [E07_eq]
  simp only [setX]
  rw [if_neg (by omega), if_neg (by omega)]; rfl
def keepN (i : Nat) : Bool := !(Nat.ble 9 i && Nat.ble i 14)
def lt07 : T := .bin .lt (V0 68) (V0 0)
def al07 (o : Bool) : List (T × Bool) := (lt07, true) :: (.v 124 0 1, o) :: prs 103 125 keepN 0 resK
def vs07 (o : Bool) : List Bool := bs07.map fun t => (T.ev (al07 o) t).getD false
theorem hv07 (o : Bool) : bs07.map (T.ev (al07 o)) = (vs07 o).map some := by cases o <;> kernel_rfl
theorem pk07 (o : Bool) : pickA (bs07.zip (vs07 o)) 0 k2107.ways = some (if o then 3 else 1, way k2107 (if o then 3 else 1)) := by cases o <;> kernel_rfl
theorem pick07 (l : List Arg) (o : Bool) (hl : lt07.tr (E07 l) = true) (ho : (T.v 124 0 1).tr (E07 l) = o) (hp : ∀ i, i < 22 → keepN i = true → (P07 l).getD i default = (Q07 l).getD i default) :
    pick Fs.F l 0 k2107.ways = some (if o then 3 else 1, way k2107 (if o then 3 else 1)) := by
  rw [← pk07 o]
  exact pick_ev ok07 (AllTr.cons hl (AllTr.cons ho (prs_ok (n := 22) (fun i hi hk => by show (E07 l).x _ = (E07 l).x _; rw [E07_P l hi, E07_Q l hi]; exact hp i hi hk) (by show 0 + 22 ≤ 22; omega)))) (hv07 o)
theorem lt07_tr (l : List Arg) : lt07.tr (E07 l) = ltb (iOf 68 l) (nOf (argE Fs.F l).x) := by
  rw [lt07, trlt]; kernel_rfl
theorem wy07 (l : List Arg) (i : Nat) (hi : i < 4) : wayE Fs.F l (way k2107 i) = E07 l := by
  have h : i = 0 ∨ i = 1 ∨ i = 2 ∨ i = 3 := by omega
  rcases h with rfl | rfl | rfl | rfl <;> rfl
theorem ts07_3 (l : List Arg) : (way k2107 3).ts.map (T.me (E07 l)) = ⟨iOf 68 l + 1, fun _ => iOf 68 l + 1⟩ :: (cAt 0 (P07 l) ++ cAt 0 (Q07 l)) := by kernel_rfl
def te07 : T := ((way k2107 1).ts[0]?).getD (.lit 0)
theorem ts07_1 (l : List Arg) : (way k2107 1).ts.map (T.me (E07 l)) = [T.me (E07 l) te07] := by kernel_rfl
theorem te07_4 (l : List Arg) : (way k2107 4).ts.map (T.me (wayE Fs.F l (way k2107 4))) = T.me (argE Fs.F l) (V0 68) :: (cAt 69 l ++ cAt 86 l) := by kernel_rfl
theorem te07_ev : T.ev (prs 69 86 (fun _ => true) 0 stK) te07 = some true := by kernel_rfl
def T.isTb : T → Bool
  | .bin .and _ _ | .bin .or _ _ | .un .not _ => true
  | _ => false
theorem T.isTb_ok {E : Env} {t : T} (h : t.isTb = true) (ht : t.tr E = true) : t.den E = 1 := by
  unfold T.isTb at h
  split at h <;> first | (simp only [T.tr, T.den, O2.den, O1.den, tb_ne] at ht ⊢; rw [ht]; rfl) | cases h
theorem pick_end (l : List Arg) (h : ltb (iOf 68 l) (nOf (argE Fs.F l).x) = false) : pick Fs.F l 0 k2107.ways = some (4, way k2107 4) := by
  have e : k2107.ways = [way k2107 0, way k2107 1, way k2107 2, way k2107 3, way k2107 4] := by kernel_rfl
  have s : ∀ i, i < 4 → lt07.tr (wayE Fs.F l (way k2107 i)) = !true := fun i hi => by rw [wy07 l i hi, lt07_tr, h]; rfl
  rw [e, pick_skip (w := way k2107 0) (t := lt07) (v := true) (List.mem_of_getElem? (i := 1) (by kernel_rfl)) (s 0 (by decide)), pick_skip (w := way k2107 1) (t := lt07) (v := true) (List.mem_of_getElem? (i := 6) (by kernel_rfl)) (s 1 (by decide)),
    pick_skip (w := way k2107 2) (t := lt07) (v := true) (List.mem_of_getElem? (i := 7) (by kernel_rfl)) (s 2 (by decide)), pick_skip (w := way k2107 3) (t := lt07) (v := true) (List.mem_of_getElem? (i := 17) (by kernel_rfl)) (s 3 (by decide))]
  have p : pcB (wayE Fs.F l (way k2107 4)) (way k2107 4).pc = true := by
    have e4 : (way k2107 4).pc = [(lt07, false)] := by kernel_rfl
    have t4 : lt07.tr (wayE Fs.F l (way k2107 4)) = ltb (iOf 68 l) (nOf (argE Fs.F l).x) := by rw [lt07, trlt]; kernel_rfl
    rw [e4]
    simp only [pcB, List.all_cons, List.all_nil, t4, h]; rfl
  simp only [pick, p]; rfl
end Go.Sy
namespace Go.Sy
/-- What is wanted ahead of a place of a row. -/
def Wd (x : Nat → Arg) (i : Int) : Int := if i = nOf x then 63 else ah (insX x i) (told 1014 (parA x) i)
theorem told_range (x : Nat → Arg) {i : Int} (h0 : 0 ≤ i) (h1 : i < nOf x) : 0 ≤ told 1014 (parA x) i ∧ told 1014 (parA x) i ≤ 63 :=
  rows_range (rows14 x) ⟨by decide, by decide⟩ (nOf x - 1 - i).toNat i h0 (by omega)
theorem told_Wd (x : Nat → Arg) {i : Int} (h0 : 0 ≤ i) (h1 : i < nOf x) : told 1014 (parA x) i = wk (insX x i) (Wd x (i + 1)) := by
  rw [rows14 x i h0 (by omega), Wd]
  by_cases h : i = nOf x - 1
  · rw [if_pos h, if_pos (by omega)]
  · rw [if_neg h, if_neg (by omega)]
theorem bits63 : ∀ q, q < 6 → hasB 63 q = true := by decide +kernel
theorem hasB_wk {xs : List Arg} {w : Int} {q : Nat} (hq : q < 6) (h : hasB w q = true) : hasB (wk xs w) q = true := by
  unfold wk
  split
  · exact h
  · exact bits63 q hq
/-- The two states that a loop turns. -/
structure St07 (x : Nat → Arg) (W : Int) (l : List Arg) : Prop where
  len : l.length = 103
  ins : ∀ j, insX (argE Fs.F l).x j = insX x j
  n : nOf (argE Fs.F l).x = nOf x
  sr : ∀ j, j < 17 → (j < 9 ∨ 15 ≤ j ∨ hasB W (j - 9) = true) → l.getD (69 + j) default = l.getD (86 + j) default
theorem St07.cs {x : Nat → Arg} {W : Int} {l : List Arg} (h : St07 x W l) : SR W (cAt 69 l) (cAt 86 l) := fun j hj hk => by
  obtain ⟨lo, hi, e⟩ := cAt_get j hj
  rw [e, e, h.sr j hj hk]
theorem SR.cs {W : Int} {a b : List Arg} (h : SR W a b) : SR W (cAt 0 a) (cAt 0 b) := fun j hj hk => by
  obtain ⟨lo, hi, e⟩ := cAt_get j hj
  rw [e, e, Nat.zero_add, h j hj hk]
theorem SR.all {a b : List Arg} (h : SR 63 a b) (j : Nat) (hj : j < 17) : a.getD j default = b.getD j default := by
  by_cases h1 : j < 9
  · exact h j hj (.inl h1)
  · by_cases h2 : 15 ≤ j
    · exact h j hj (.inr (.inl h2))
    · exact h j hj (.inr (.inr (bits63 _ (by omega))))
def Good (r : List Arg) : Prop := (∃ q : Arg, r = [⟨1, fun _ => 1⟩, q] ∧ q.n = 1) ∨ (∃ (z : Arg) (p q : List Arg), r = ⟨4, fun _ => 4⟩ :: z :: (p ++ q) ∧ p.length = 17 ∧ q.length = 17 ∧ ∀ j, j < 17 → p.getD j default = q.getD j default)
theorem free_loop (x : Nat → Arg) (hIs : ∀ j, 0 ≤ j → j < nOf x → num (Fs.F 21 (insX x j)) ≠ 0) : ∀ (d : Nat) (l : List Arg) (i : Int), i = nOf x - d → 0 ≤ i → St07 x (Wd x i) l → (l.getD 68 default).n = i →
    ∀ f, d < f → ∃ r, iter Fs.F k2107 f l = some r ∧ Good r := by
  have hN := nOf_range x
  intro d
  induction d with
  | zero =>
    intro l i hi _ hs h68 f hf
    obtain ⟨f, rfl⟩ : ∃ g, f = g + 1 := ⟨f - 1, by omega⟩
    have hi0 : iOf 68 l = i := by rw [iOf, h68]; exact clamp_id ⟨by omega, by omega⟩
    have hp := pick_end l (by rw [hi0, hs.n, ltb_f]; omega)
    rw [iter_at hp, te07_4, show (way k2107 4).go = false by kernel_rfl, cond_false]
    refine ⟨_, rfl, .inr ⟨_, _, _, rfl, cAt_len _ _, cAt_len _ _, ?_⟩⟩
    have : Wd x i = 63 := if_pos (by omega)
    exact (this ▸ hs.cs).all
  | succ d ih =>
    intro l i hi h0 hs h68 f hf
    obtain ⟨f, rfl⟩ : ∃ g, f = g + 1 := ⟨f - 1, by omega⟩
    have hlt : i < nOf x := by omega
    have hi0 : iOf 68 l = i := by rw [iOf, h68]; exact clamp_id ⟨h0, by omega⟩
    have hl : lt07.tr (E07 l) = true := by rw [lt07_tr, hi0, hs.n, ltb_t]; exact hlt
    have hw := told_range x h0 hlt
    have hWd : Wd x i = ah (insX x i) (told 1014 (parA x) i) := if_neg (by omega)
    have hP : P07 l = Fs.F 2022 (insX x i ++ cAt 69 l) := by rw [P07, hi0, hs.ins]
    have hQ : Q07 l = Fs.F 2022 (insX x i ++ cAt 86 l) := by rw [Q07, hi0, hs.ins]
    have next : SR (told 1014 (parA x) i) (P07 l) (Q07 l) → ∃ r, iter Fs.F k2107 f (l.take k2107.n0 ++ (⟨iOf 68 l + 1, fun _ => iOf 68 l + 1⟩ :: (cAt 0 (P07 l) ++ cAt 0 (Q07 l)))) = some r ∧ Good r := fun hsr => by
      have hn0 : k2107.n0 = 68 := by kernel_rfl
      rw [hn0, hi0]
      have htl : (l.take 68).length = 68 := by rw [List.length_take, hs.len]; rfl
      have hlo : ∀ (q : List Arg) (k : Nat), k < 68 → (l.take 68 ++ q).getD k default = l.getD k default := fun q k hk => by rw [getD_left (by omega), getD_take hk]
      have hhi : ∀ (q : List Arg) (k : Nat), (l.take 68 ++ q).getD (68 + k) default = q.getD k default := fun q k => by
        have := getD_right (p := l.take 68) (q := q) (i := k)
        rw [htl] at this; exact this
      refine ih _ (i + 1) (by omega) (by omega) ⟨?_, fun j => ?_, ?_, fun j hj hk => ?_⟩ ?_ f (by omega)
      · rw [List.length_append, htl, List.length_cons, List.length_append, cAt_len, cAt_len]
      · rw [← hs.ins j]; exact insX_eq (fun k _ hk => hlo _ k (by omega)) j
      · rw [← hs.n]
        show clamp _ _ (List.getD (_ : List Arg) 0 default).n = clamp _ _ (List.getD l 0 default).n
        rw [hlo _ 0 (by decide)]
      · have c := hsr.cs j hj (by
          rcases hk with h | h | h
          · exact .inl h
          · exact .inr (.inl h)
          · by_cases h9 : j < 9
            · exact .inl h9
            · by_cases h15 : 15 ≤ j
              · exact .inr (.inl h15)
              · rw [told_Wd x h0 hlt]
                exact .inr (.inr (hasB_wk (by omega) h)))
        rw [show 69 + j = 68 + (j + 1) by omega, show 86 + j = 68 + (17 + j + 1) by omega, hhi, hhi, List.getD_cons_succ, List.getD_cons_succ, getD_left (by rw [cAt_len]; exact hj)]
        have := getD_right (p := cAt 0 (P07 l)) (q := cAt 0 (Q07 l)) (i := j)
        rw [cAt_len] at this
        rw [this]; exact c
      · have := hhi (⟨i + 1, fun _ => i + 1⟩ :: (cAt 0 (P07 l) ++ cAt 0 (Q07 l))) 0
        rw [this]; rfl
    have go : ∀ hp : pick Fs.F l 0 k2107.ways = some (3, way k2107 3), SR (told 1014 (parA x) i) (P07 l) (Q07 l) → ∃ r, iter Fs.F k2107 (f + 1) l = some r ∧ Good r := fun hp hsr => by
      rw [iter_at hp, show (way k2107 3).go = true by kernel_rfl, cond_true, wy07 l 3 (by decide), ts07_3]
      exact next hsr
    by_cases hf : num (Fs.F 48 (insX x i)) = 0
    · have st := step_ok (insX_cells x i) (hIs i h0 hlt) hf hw (cAt_len 69 l) (cAt_len 86 l) (hWd ▸ hs.cs)
      rw [← hP, ← hQ] at st
      have ho : (T.v 124 0 1).tr (E07 l) = true := by
        have h1 : 1 ≤ ((P07 l).getD 21 default).n := st.ok
        have e : (T.v 124 0 1).tr (E07 l) = (clamp 0 1 ((P07 l).getD 21 default).n != 0) := by
          simp only [T.tr, T.den]
          rw [show (124 : Nat) = 103 + 21 from rfl, E07_P l (by decide)]
        rw [e]
        have : clamp 0 1 ((P07 l).getD 21 default).n = 1 := by unfold clamp; split <;> (try split) <;> omega
        rw [this]; rfl
      refine go (pick07 l true hl ho fun k hk hkeep => ?_) st.st
      by_cases h17 : k < 17
      · have : k < 9 ∨ 15 ≤ k := by
          unfold keepN at hkeep
          cases h9 : Nat.ble 9 k
          · left; rw [Bool.eq_false_iff, ne_eq, Nat.ble_eq] at h9; omega
          · cases h14 : Nat.ble k 14
            · right; rw [Bool.eq_false_iff, ne_eq, Nat.ble_eq] at h14; omega
            · rw [h9, h14] at hkeep; cases hkeep
        exact st.st k h17 (this.elim .inl fun h => .inr (.inl h))
      · exact st.rest k (by omega) hk
    · have h63 : Wd x i = 63 := by rw [hWd, ah, if_neg hf]
      have hcs := (h63 ▸ hs.cs).all
      have heq : cAt 69 l = cAt 86 l := list_ext (by rw [cAt_len, cAt_len]) fun j => by
        by_cases hj : j < 17
        · exact hcs j hj
        · rw [List.getD_eq_getElem?_getD, List.getD_eq_getElem?_getD, List.getElem?_eq_none (by rw [cAt_len]; omega), List.getElem?_eq_none (by rw [cAt_len]; omega)]
      have hPQ : P07 l = Q07 l := by rw [hP, hQ, heq]
      have hpk := fun o (ho : (T.v 124 0 1).tr (E07 l) = o) => pick07 l o hl ho fun k _ _ => by rw [hPQ]
      cases ho : (T.v 124 0 1).tr (E07 l)
      · have hp := hpk false ho
        simp only [Bool.false_eq_true, if_false] at hp
        rw [iter_at hp, show (way k2107 1).go = false by kernel_rfl, cond_false, wy07 l 1 (by decide), ts07_1]
        refine ⟨_, rfl, .inl ⟨_, rfl, ?_⟩⟩
        refine T.isTb_ok (by kernel_rfl) (T.ev_ok (prs_ok (n := 17) (fun k hk _ => ?_) (by show 0 + 17 ≤ 17; omega)) te07_ev)
        rw [E07_l l (by omega), E07_l l (by omega)]
        by_cases h9 : k < 9
        · exact hs.sr k hk (.inl h9)
        · by_cases h15 : 15 ≤ k
          · exact hs.sr k hk (.inr (.inl h15))
          · exact hs.sr k hk (.inr (.inr (by rw [h63]; exact bits63 _ (by omega))))
      · have hp := hpk true ho
        simp only [if_true] at hp
        exact go hp fun j _ _ => by rw [hPQ]
end Go.Sy
namespace Go.Sy
theorem F1013 (l : List Arg) : num (Fs.F 1013 l) = tb (tb (clamp 0 3 (num (Fs.F 2013 (parA (argE Fs.F l).x ++ [aC 0]))) == 0) == 0) := by kernel_rfl
theorem spec13 (l : List Arg) : Fs.F 2013 l = k2013.spec Fs.F l := okk2013 l
theorem ite_me {E : Env} {c a b : T} (h : c.den E = 0) : (T.ite c a b).me E = b.me E := by
  simp only [T.me, T.den, if_pos h]
  congr 1
  funext j
  simp only [T.row, if_pos h]
theorem are_all {x : Nat → Arg} (h : num (Fs.F 1013 (parA x)) ≠ 0) : ∀ j, 0 ≤ j → j < nOf x → num (Fs.F 21 (insX x j)) ≠ 0 := by
  have hcl : parA (argE Fs.F (parA x)).x = parA x := by have := parA_cl x []; rw [List.append_nil] at this; exact this
  rw [F1013, hcl, spec13, Lk.spec] at h
  generalize hk : (k2013.mu.den (argE Fs.F (parA x ++ [aC 0]))).toNat + 1 = k at h
  cases hit : iter Fs.F k2013 k (parA x ++ [aC 0]) with
  | none => rw [hit] at h; exact absurd rfl h
  | some r =>
    rw [hit] at h
    intro j h0 h1
    have h17 : iOf 17 (parA x ++ [aC 0]) = 0 := by
      have := getD_right (p := parA x) (q := [aC 0]) (i := 0)
      rw [parA_len] at this
      rw [iOf, this]; rfl
    refine are_loop x k (parA x ++ [aC 0]) r (by rw [List.length_append, parA_len]; show 17 ≤ 17 + 1; omega) (fun j => insX_cl x _ j) (clamp_mid (by decide)) hit ?_ j (by rw [h17]; exact h0) h1
    intro hr
    apply h
    have : num ((some r).getD []) = 0 := by
      show ((r[0]?).getD default).n = 0
      rw [getD_some]; exact hr
    rw [this]; rfl
/-! mixed flags -/
theorem F24 (l : List Arg) (q : Nat) (hq : q < 6) : ((Fs.F 24 l)[q]?).getD default =
    T.me (argE Fs.F l) (.ite (.bin .eq (.bin (.band .i64) (.bin (.shr .i64) (.v 12 (-9223372036854775808) 9223372036854775807) (.lit q)) (.lit 1)) (.lit 0)) (.v (6 + q) 0 1) (.v q 0 1)) := by
  have h : q = 0 ∨ q = 1 ∨ q = 2 ∨ q = 3 ∨ q = 4 ∨ q = 5 := by omega
  rcases h with rfl | rfl | rfl | rfl | rfl | rfl <;> (show _ = _; kernel_rfl)
theorem F24_in {l : List Arg} {m : Int} (hm : cl64 (l.getD 12 default).n = m) {q : Nat} (hq : q < 6) (h : hasB m q = true) : ((Fs.F 24 l)[q]?).getD default = T.me (argE Fs.F l) (.v q 0 1) := by
  rw [F24 l q hq]
  have hc : (T.bin .eq (.bin (.band .i64) (.bin (.shr .i64) (.v 12 (-9223372036854775808) 9223372036854775807) (.lit (q : Int))) (.lit 1)) (.lit 0)).den (argE Fs.F l) = 0 := by
    show tb (O2.den (.band .i64) (O2.den (.shr .i64) (cl64 (l.getD 12 default).n) q) 1 == 0) = 0
    rw [hm]
    unfold hasB at h
    cases hb : O2.den (.band .i64) (O2.den (.shr .i64) m q) 1 == 0
    · rfl
    · rw [hb] at h; cases h
  exact ite_me hc
/-! LiveFree -/
def nT : T := V0 0
def cond7 : List (T × Bool) := [(.v 41 0 1, true), (.bin .lt nT (.lit 21), true), (.bin .eq nT (.lit 0), false)]
def e42 (k : Int) : T := .bin .eq (.v 42 0 5) (.lit k)
def e68 (k : Int) : T := .bin .eq (.v 68 0 5) (.lit k)
theorem ev_a : T.ev [(.v 41 0 1, false)] t7 = some true := by kernel_rfl
theorem ev_b : T.ev [(.bin .lt nT (.lit 21), false)] t7 = some true := by kernel_rfl
theorem ev_c : T.ev [(.bin .eq nT (.lit 0), true)] t7 = some true := by kernel_rfl
theorem ev_0 : T.ev ((e42 0, true) :: cond7) t7 = some true := by kernel_rfl
theorem ev_1 : T.ev ((e42 1, true) :: cond7) t7 = some true := by kernel_rfl
theorem ev_3 : T.ev ((e42 3, true) :: cond7) t7 = some true := by kernel_rfl
def n42 : List (T × Bool) := (e42 0, false) :: (e42 1, false) :: (e42 3, false) :: (e42 4, true) :: cond7
theorem ev_41 : T.ev ((e68 0, false) :: (e68 1, true) :: (.v 69 0 1, true) :: n42) t7 = some true := by kernel_rfl
theorem ev_44 : T.ev ((e68 0, false) :: (e68 1, false) :: (e68 2, false) :: (prs 70 87 (fun _ => true) 0 stK ++ n42)) t7 = some true := by kernel_rfl

theorem Eq42 (x : Nat → Arg) (k : Int) : (e42 k).tr ⟨x, Fs.F⟩ = (clamp 0 5 (x 42).n == k) := by rw [e42, treq]; rfl
theorem Eq68 (x : Nat → Arg) (k : Int) : (e68 k).tr ⟨x, Fs.F⟩ = (clamp 0 5 (x 68).n == k) := by rw [e68, treq]; rfl
def dAt (i : Nat) : Df := (d7[i]?).getD (.one 0 (.lit 0))
theorem d7_0 : dAt 0 = .call 68 2107 (dAt 0).args 36 := by kernel_rfl
theorem d7_1 : dAt 1 = .call 62 24 (dAt 1).args 6 := by kernel_rfl
theorem d7_2 : dAt 2 = .call 61 1018 (dAt 2).args 1 := by kernel_rfl
theorem d7_3 : dAt 3 = .call 42 2007 (dAt 3).args 19 := by kernel_rfl
theorem d7_4 : dAt 4 = .call 41 1013 (dAt 4).args 1 := by kernel_rfl
theorem dAt_mem {i : Nat} (hi : i < 5) : dAt i ∈ d7 := by
  have h : i = 0 ∨ i = 1 ∨ i = 2 ∨ i = 3 ∨ i = 4 := by omega
  rcases h with rfl | rfl | rfl | rfl | rfl
  · exact List.mem_of_getElem? (i := 0) (by kernel_rfl)
  · exact List.mem_of_getElem? (i := 1) (by kernel_rfl)
  · exact List.mem_of_getElem? (i := 2) (by kernel_rfl)
  · exact List.mem_of_getElem? (i := 3) (by kernel_rfl)
  · exact List.mem_of_getElem? (i := 4) (by kernel_rfl)
theorem a41 (x : Nat → Arg) : (dAt 4).args.map (T.me ⟨x, Fs.F⟩) = parA x := by kernel_rfl
def atT : T := .bin .tmod (.v 17 0 255) (V0 0)
theorem a61 (x : Nat → Arg) : (dAt 2).args.map (T.me ⟨x, Fs.F⟩) = parA x ++ [T.me ⟨x, Fs.F⟩ atT] := by kernel_rfl
def lm24 (x : Nat → Arg) : List Arg := (dAt 1).args.map (T.me ⟨x, Fs.F⟩)
theorem lm24_12 (x : Nat → Arg) : ((lm24 x).getD 12 default).n = cl64 (x 61).n := by kernel_rfl
theorem lm24_s (x : Nat → Arg) (q : Nat) (hq : q < 6) : (lm24 x).getD q default = T.me ⟨x, Fs.F⟩ (.v (53 + q) 0 1) := by
  have h : q = 0 ∨ q = 1 ∨ q = 2 ∨ q = 3 ∨ q = 4 ∨ q = 5 := by omega
  rcases h with rfl | rfl | rfl | rfl | rfl | rfl <;> rfl
def l68 (x : Nat → Arg) : List Arg := (dAt 0).args.map (T.me ⟨x, Fs.F⟩)
def r68 (x : Nat → Arg) : List Arg := ((dAt 0).args.drop 17).map (T.me ⟨x, Fs.F⟩)
theorem l68_eq (x : Nat → Arg) : l68 x = parA x ++ r68 x := by kernel_rfl
theorem l68_len (x : Nat → Arg) : (l68 x).length = 103 := by kernel_rfl
theorem l68_at (x : Nat → Arg) : ((l68 x).getD 68 default).n = Int.tmod (clamp 0 255 (x 17).n) (nOf x) + 1 := by kernel_rfl
theorem l68_s (x : Nat → Arg) (j : Nat) (hj : j < 17) (h : j < 9 ∨ 15 ≤ j) : (l68 x).getD (69 + j) default = (l68 x).getD (86 + j) default := by
  have h : j = 0 ∨ j = 1 ∨ j = 2 ∨ j = 3 ∨ j = 4 ∨ j = 5 ∨ j = 6 ∨ j = 7 ∨ j = 8 ∨ j = 15 ∨ j = 16 := by omega
  rcases h with rfl | rfl | rfl | rfl | rfl | rfl | rfl | rfl | rfl | rfl | rfl <;> rfl
theorem l68_f (x : Nat → Arg) (q : Nat) (hq : q < 6) : (l68 x).getD (69 + (9 + q)) default = T.me ⟨x, Fs.F⟩ (.v (53 + q) 0 1) ∧ (l68 x).getD (86 + (9 + q)) default = T.me ⟨x, Fs.F⟩ (.v (62 + q) 0 1) := by
  have h : q = 0 ∨ q = 1 ∨ q = 2 ∨ q = 3 ∨ q = 4 ∨ q = 5 := by omega
  rcases h with rfl | rfl | rfl | rfl | rfl | rfl <;> exact ⟨rfl, rfl⟩
theorem mu07 (l : List Arg) : k2107.mu.den (argE Fs.F l) = nOf (argE Fs.F l).x - iOf 68 l := by kernel_rfl
theorem spec07 (l : List Arg) : Fs.F 2107 l = k2107.spec Fs.F l := okk2107 l
theorem spec2007 (l : List Arg) : Fs.F 2007 l = k2007.spec Fs.F l := okk2007 l
theorem ways07 : k2007.ways.length = 5 := by kernel_rfl
theorem go2 : (way k2007 2).go = true := by kernel_rfl
theorem isTb7 : t7.isTb = true := by kernel_rfl
theorem plain7 (E : Env) (hE : E.F = Fs.F) (hd : ∀ d ∈ d7, d.ok E) : t7.den E = 1 := by
  obtain ⟨x, F⟩ := E
  simp only at hE
  subst hE
  have hN := nOf_range x
  have c0 : (dAt 0).ok ⟨x, Fs.F⟩ := hd _ (dAt_mem (by decide))
  have c1 : (dAt 1).ok ⟨x, Fs.F⟩ := hd _ (dAt_mem (by decide))
  have c2 : (dAt 2).ok ⟨x, Fs.F⟩ := hd _ (dAt_mem (by decide))
  have c3 : (dAt 3).ok ⟨x, Fs.F⟩ := hd _ (dAt_mem (by decide))
  have c4 : (dAt 4).ok ⟨x, Fs.F⟩ := hd _ (dAt_mem (by decide))
  rw [d7_0] at c0; rw [d7_1] at c1; rw [d7_2] at c2; rw [d7_3] at c3; rw [d7_4] at c4
  have x41 : x 41 = ((Fs.F 1013 (parA x))[0]?).getD default := by rw [← a41]; exact c4 0 (by decide)
  have x61 : x 61 = ((Fs.F 1018 (parA x ++ [T.me ⟨x, Fs.F⟩ atT]))[0]?).getD default := by rw [← a61]; exact c2 0 (by decide)
  have x62 : ∀ q, q < 6 → x (62 + q) = ((Fs.F 24 (lm24 x))[q]?).getD default := fun q hq => c1 q hq
  have x68 : ∀ q, q < 36 → x (68 + q) = ((Fs.F 2107 (l68 x))[q]?).getD default := fun q hq => c0 q hq
  have x42 : x 42 = ((Fs.F 2007 ((dAt 3).args.map (T.me ⟨x, Fs.F⟩)))[0]?).getD default := c3 0 (by decide)
  refine T.isTb_ok isTb7 ?_
  cases h41 : (T.v 41 0 1).tr ⟨x, Fs.F⟩
  · exact T.ev_ok (AllTr.cons h41 AllTr.nil) ev_a
  cases h21 : (T.bin .lt nT (.lit 21)).tr ⟨x, Fs.F⟩
  · exact T.ev_ok (AllTr.cons h21 AllTr.nil) ev_b
  cases hz : (T.bin .eq nT (.lit 0)).tr ⟨x, Fs.F⟩
  case true => exact T.ev_ok (AllTr.cons hz AllTr.nil) ev_c
  have hc7 : AllTr ⟨x, Fs.F⟩ cond7 := AllTr.cons h41 (AllTr.cons h21 (AllTr.cons hz AllTr.nil))
  have hn0 : nOf x ≠ 0 := by
    rw [treq] at hz
    exact beq_eq_false_iff_ne.1 hz
  have hIs : ∀ j, 0 ≤ j → j < nOf x → num (Fs.F 21 (insX x j)) ≠ 0 := are_all (by
    intro h0
    have : (T.v 41 0 1).tr ⟨x, Fs.F⟩ = (clamp 0 1 (num (Fs.F 1013 (parA x))) != 0) := by simp only [T.tr, T.den, x41]; rfl
    rw [this, h0] at h41; cases h41)
  have k42 : ∀ j : Int, clamp 0 5 (x 42).n = j → (e42 j).tr ⟨x, Fs.F⟩ = true := fun j h => by rw [Eq42]; exact beq_iff_eq.2 h
  have cases42 : clamp 0 5 (x 42).n = 0 ∨ clamp 0 5 (x 42).n = 1 ∨ clamp 0 5 (x 42).n = 3 ∨ clamp 0 5 (x 42).n = 4 := by
    rw [x42, spec2007, Lk.spec]
    generalize (k2007.mu.den _).toNat + 1 = k
    cases hit : iter Fs.F k2007 k ((dAt 3).args.map (T.me ⟨x, Fs.F⟩)) with
    | none => exact .inl rfl
    | some r =>
      obtain ⟨j, w, q, rfl, hw, hg⟩ := iter_head hit
      have hj : j < 5 := by
        have := (List.getElem?_eq_some_iff.1 hw).1
        rw [ways07] at this; exact this
      have hj2 : j ≠ 2 := by
        rintro rfl
        rw [way_eq hw, go2] at hg; cases hg
      have : j = 0 ∨ j = 1 ∨ j = 3 ∨ j = 4 := by omega
      rcases this with rfl | rfl | rfl | rfl
      · exact .inl rfl
      · exact .inr (.inl rfl)
      · exact .inr (.inr (.inl rfl))
      · exact .inr (.inr (.inr rfl))
  rcases cases42 with h42 | h42 | h42 | h42
  · exact T.ev_ok (AllTr.cons (k42 0 h42) hc7) ev_0
  · exact T.ev_ok (AllTr.cons (k42 1 h42) hc7) ev_1
  · exact T.ev_ok (AllTr.cons (k42 3 h42) hc7) ev_3
  have hn42 : AllTr ⟨x, Fs.F⟩ n42 := AllTr.cons (by rw [Eq42, h42]; rfl) (AllTr.cons (by rw [Eq42, h42]; rfl) (AllTr.cons (by rw [Eq42, h42]; rfl) (AllTr.cons (k42 4 h42) hc7)))
  -- where the flags are mixed
  generalize hat : Int.tmod (clamp 0 255 (x 17).n) (nOf x) = k
  have hk0 : 0 ≤ k ∧ k < nOf x := by
    have hb : 0 ≤ clamp 0 255 (x 17).n := by unfold clamp; split <;> (try split) <;> omega
    rw [← hat, Int.tmod_eq_emod_of_nonneg hb]
    exact ⟨Int.emod_nonneg _ hn0, Int.emod_lt_of_pos _ (by omega)⟩
  have hatn : (T.me ⟨x, Fs.F⟩ atT).n = k := hat
  have h61 : (x 61).n = told 1014 (parA x) k := by
    rw [x61]
    have := behind_in (x := x) (a := T.me ⟨x, Fs.F⟩ atT) (by rw [hatn]; exact hk0.1) (by rw [hatn]; exact hk0.2)
    rw [hatn] at this; exact this
  have hw := told_range x hk0.1 hk0.2
  have hfl : ∀ q, q < 6 → hasB (told 1014 (parA x) k) q = true → T.me ⟨x, Fs.F⟩ (.v (53 + q) 0 1) = T.me ⟨x, Fs.F⟩ (.v (62 + q) 0 1) := fun q hq hb => by
    have e : x (62 + q) = T.me ⟨x, Fs.F⟩ (.v (53 + q) 0 1) := by
      rw [x62 q hq, F24_in (m := told 1014 (parA x) k) (by rw [lm24_12, cl64_cl, h61, cl64_id hw]) hq hb]
      have := lm24_s x q hq
      show (⟨clamp 0 1 ((lm24 x).getD q default).n, fun j => clamp 0 1 (((lm24 x).getD q default).s j)⟩ : Arg) = _
      rw [this]
      show (⟨clamp 0 1 (clamp 0 1 (x (53 + q)).n), fun j => clamp 0 1 (clamp 0 1 ((x (53 + q)).s j))⟩ : Arg) = ⟨clamp 0 1 (x (53 + q)).n, fun j => clamp 0 1 ((x (53 + q)).s j)⟩
      simp only [clamp_mid (show (0 : Int) ≤ 1 by decide)]
    show (⟨clamp 0 1 (x (53 + q)).n, fun j => clamp 0 1 ((x (53 + q)).s j)⟩ : Arg) = ⟨clamp 0 1 (x (62 + q)).n, fun j => clamp 0 1 ((x (62 + q)).s j)⟩
    rw [e]
    show _ = (⟨clamp 0 1 (clamp 0 1 (x (53 + q)).n), fun j => clamp 0 1 (clamp 0 1 ((x (53 + q)).s j))⟩ : Arg)
    simp only [clamp_mid (show (0 : Int) ≤ 1 by decide)]
  have hst : St07 x (Wd x (k + 1)) (l68 x) := by
    refine ⟨l68_len x, fun j => by rw [l68_eq]; exact insX_cl x _ j, by rw [l68_eq]; exact clamp_mid (by decide), fun j hj h => ?_⟩
    by_cases hp : j < 9 ∨ 15 ≤ j
    · exact l68_s x j hj hp
    · have hb : hasB (Wd x (k + 1)) (j - 9) = true := by
        rcases h with h | h | h
        · exact absurd (.inl h) hp
        · exact absurd (.inr h) hp
        · exact h
      have hq : j - 9 < 6 := by omega
      obtain ⟨f1, f2⟩ := l68_f x (j - 9) hq
      rw [show 9 + (j - 9) = j by omega] at f1 f2
      rw [f1, f2]
      refine hfl _ hq ?_
      rw [told_Wd x hk0.1 hk0.2]
      exact hasB_wk hq hb
  have h68 : ((l68 x).getD 68 default).n = k + 1 := by rw [l68_at, hat]
  obtain ⟨r, hr, hgood⟩ := free_loop x hIs (nOf x - (k + 1)).toNat (l68 x) (k + 1) (by omega) (by omega) hst h68 ((k2107.mu.den (argE Fs.F (l68 x))).toNat + 1) (by
    rw [mu07, hst.n, iOf, h68, clamp_id ⟨by omega, by omega⟩]; omega)
  have hF : Fs.F 2107 (l68 x) = r := by rw [spec07, Lk.spec, hr]; rfl
  rw [hF] at x68
  rcases hgood with ⟨q, rfl, hq⟩ | ⟨z, p, q, rfl, hp, hq, hpq⟩
  · have y68 : x 68 = ⟨1, fun _ => 1⟩ := x68 0 (by decide)
    have y69 : x 69 = q := x68 1 (by decide)
    refine T.ev_ok (AllTr.cons ?_ (AllTr.cons ?_ (AllTr.cons ?_ hn42))) ev_41
    · rw [Eq68, y68]; rfl
    · rw [Eq68, y68]; rfl
    · simp only [T.tr, T.den, y69, hq]; rfl
  · have y68 : x 68 = ⟨4, fun _ => 4⟩ := x68 0 (by decide)
    refine T.ev_ok (AllTr.cons ?_ (AllTr.cons ?_ (AllTr.cons ?_ (AllTr.app (prs_ok (n := 17) (fun j hj _ => ?_) (by show 0 + 17 ≤ 17; omega)) hn42)))) ev_44
    · rw [Eq68, y68]; rfl
    · rw [Eq68, y68]; rfl
    · rw [Eq68, y68]; rfl
    · have e1 := x68 (j + 2) (by omega)
      have e2 := x68 (17 + j + 2) (by omega)
      simp only [List.getElem?_cons_succ] at e1 e2
      rw [getD_some, getD_left (by omega)] at e1
      have := getD_right (p := p) (q := q) (i := j)
      rw [hp] at this
      rw [getD_some, this] at e2
      show x (70 + j) = x (87 + j)
      rw [show 70 + j = 68 + (j + 2) by omega, show 87 + j = 68 + (17 + j + 2) by omega, e1, e2, hpq j hj]
end Go.Sy
