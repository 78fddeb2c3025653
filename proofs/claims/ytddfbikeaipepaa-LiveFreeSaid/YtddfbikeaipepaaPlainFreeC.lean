/- Functions, each told by its own run; and what follows from what they tell. -/
import Derived.Test.YtddfbikeaipepaaPlainFreeA
import Derived.Test.YtddfbikeaipepaaPlainFreeB
namespace Go.Sy
/-! one step of two states that differ in flags alone -/
def hasB (m : Int) (j : Nat) : Bool := !(O2.den (.band .i64) (O2.den (.shr .i64) m j) 1 == 0)
def dOf (w : Int) : Nat := 63 - w.toNat
def chkD : Bool := (List.range 64).all fun w => (List.range 6).all fun q => (Nat.beq (2 ^ q &&& dOf w) 0 == hasB w q)
def chkD2 : Bool := (List.range 64).all fun w => (!(Nat.beq (63 &&& dOf w) 0) || Nat.beq (dOf w) 0)
def chkD3 : Bool := (List.range 64).all fun m => (List.range 64).all fun d => Nat.beq (m &&& d) 0 || (List.range 6).any fun q => m.testBit q && !(Nat.beq (2 ^ q &&& d) 0)
def chkD4 : Bool := (List.range 64).all fun a => (List.range 64).all fun b => (List.range 6).all fun q => (hasB (borI a b) q == (hasB a q || hasB b q)) && (hasB (bandnI a b) q == (hasB a q && !(hasB b q)))
theorem chkD_ok : chkD = true := by kernel_rfl
theorem chkD2_ok : chkD2 = true := by kernel_rfl
theorem chkD3_ok : chkD3 = true := by kernel_rfl
theorem chkD4_ok : chkD4 = true := by kernel_rfl
theorem bit_D {w : Int} (hw : 0 ≤ w ∧ w ≤ 63) {q : Nat} (hq : q < 6) : (2 ^ q &&& dOf w = 0) ↔ hasB w q = true := by
  have h := chkD_ok
  simp only [chkD, List.all_eq_true, List.mem_range] at h
  have := h w.toNat (by omega) q hq
  rw [Int.toNat_of_nonneg hw.1, beq_iff_eq] at this
  rw [← this, Nat.beq_eq]
theorem D_all {w : Int} (hw : 0 ≤ w ∧ w ≤ 63) (h : 63 &&& dOf w = 0) : dOf w = 0 := by
  have g := chkD2_ok
  simp only [chkD2, List.all_eq_true, List.mem_range] at g
  have := g w.toNat (by omega)
  rw [Int.toNat_of_nonneg hw.1, h] at this
  simpa using this
theorem mask_D {w : Int} (hw : 0 ≤ w ∧ w ≤ 63) {m : Nat} (hm : m < 64) (h : ∀ q, q < 6 → m.testBit q = true → hasB w q = true) : m &&& dOf w = 0 := by
  have g := chkD3_ok
  simp only [chkD3, List.all_eq_true, List.mem_range] at g
  have := g m hm (dOf w) (by unfold dOf; omega)
  rw [Bool.or_eq_true, List.any_eq_true] at this
  rcases this with h1 | ⟨q, h1, h2⟩
  · exact Nat.eq_of_beq_eq_true h1
  · rw [List.mem_range] at h1
    rw [Bool.and_eq_true] at h2
    have := (bit_D hw h1).2 (h q h1 h2.1)
    rw [this] at h2
    cases h2.2
theorem has_or {a b : Int} (ha : 0 ≤ a ∧ a ≤ 63) (hb : 0 ≤ b ∧ b ≤ 63) {q : Nat} (hq : q < 6) : hasB (borI a b) q = (hasB a q || hasB b q) ∧ hasB (bandnI a b) q = (hasB a q && !(hasB b q)) := by
  have h := chkD4_ok
  simp only [chkD4, List.all_eq_true, List.mem_range] at h
  have := h a.toNat (by omega) b.toNat (by omega) q hq
  rw [Int.toNat_of_nonneg ha.1, Int.toNat_of_nonneg hb.1, Bool.and_eq_true, beq_iff_eq, beq_iff_eq] at this
  exact this
def insA (x : Ab) (a b : Ab) : List Av := [⟨x, 0⟩, ⟨.top, 0⟩, ⟨a, 0⟩, ⟨.top, 0⟩, ⟨.top, 0⟩, ⟨.top, 0⟩, ⟨.top, 0⟩, ⟨.top, 0⟩, ⟨b, 0⟩, ⟨.top, 0⟩, ⟨.top, 0⟩, ⟨.top, 0⟩, ⟨.top, 0⟩, ⟨.top, 0⟩, ⟨.top, 0⟩, ⟨.top, 0⟩]
def stA : List Av := [⟨.top, 0⟩, ⟨.top, 0⟩, ⟨.top, 0⟩, ⟨.top, 0⟩, ⟨.top, 0⟩, ⟨.top, 0⟩, ⟨.top, 0⟩, ⟨.top, 0⟩, ⟨.top, 0⟩, ⟨.top, 1⟩, ⟨.top, 2⟩, ⟨.top, 4⟩, ⟨.top, 8⟩, ⟨.top, 16⟩, ⟨.top, 32⟩, ⟨.top, 0⟩, ⟨.top, 0⟩]
def clX (x : Int) : Ab := bif ltb x 0 then .low else bif ltb 53 x then .high else .lit x
def clK (a : Int) : Ab := bif a == 3 then .lit 3 else .ne3
def isNo (l : List Av) : Bool := match getA l 0 with
  | ⟨.lit n, _⟩ => n == 0
  | _ => false
def subR (m : Nat) (R : Int) : Bool := Nat.blt m 64 && (List.range 6).all fun q => !(m.testBit q) || hasB R q
def flagOk (j : Nat) (m : Nat) (R S : Int) : Bool := Nat.blt m 64 && (List.range 6).all fun q => !(m.testBit q) || hasB R q || (Nat.beq q j && !(hasB S j))
def okLit (z : Av) : Bool := match z with
  | ⟨.lit n, _⟩ => leb 1 n
  | _ => false
def stepL (l : List Av) (R S : Int) : Bool := (List.range 22).all fun i => bif Nat.beq i 21 then okLit (getA l i) else bif Nat.ble 9 i && Nat.ble i 14 then flagOk (i - 9) (getA l i).m R S else subR (getA l i).m R
def chkX (x a b : Int) : Bool := fcLs Av.fc (absG table 21 (insA (clX x) (clK a) (clK b))) fun l => bif isNo l then true else
  leb 1 x && leb x 53 && fcLs Av.fc (absG table (7500 + x.toNat) (insA (clX x) (clK a) (clK b) ++ stA)) fun l => [0, 1, 2].all fun c =>
    fcI (num (Fs.F 48 (mkI x a b c))) fun f => bif f == 0 then (fcI (num (Fs.F 20 (mkI x a b c))) fun R => fcI (num (Fs.F 17 (mkI x a b c))) fun S => stepL l R S) else true
def chkS3 (o : List Int) : Bool := o.all fun x => [0, 3].all fun a => [0, 2, 3].all fun b => chkX x a b


theorem chkS_ok : fcLs fcI ops chkS3 = true := by kernel_rfl
end Go.Sy
namespace Go.Sy
/-- Two states that are alike but for flags that aren't in a set. -/
def SR (m : Int) (a b : List Arg) : Prop := ∀ j, j < 17 → (j < 9 ∨ 15 ≤ j ∨ hasB m (j - 9) = true) → a.getD j default = b.getD j default
theorem chkX_at {n a b : Int} : chkX (opc n) (if is3 a then 3 else 0) (if is3 b then 3 else if is2 b then 2 else 0) = true := by
  have h := chkS_ok
  rw [fcLs_eq fcI_eq] at h
  simp only [chkS3, List.all_eq_true] at h
  have hr := opc_range n
  refine h _ ?_ _ ?_ _ ?_
  · unfold ops
    rw [List.mem_map]
    exact ⟨(opc n + 1).toNat, List.mem_range.2 (by omega), by simp only [Int.ofNat_eq_natCast]; omega⟩
  · cases is3 a <;> decide
  · cases is3 b <;> cases is2 b <;> decide
/-- What is known of an instruction. -/
structure InsC (xs : List Arg) : Prop where
  len : xs.length = 16
  c0 : cl64 (xs.getD 0 default).n = (xs.getD 0 default).n ∧ ∀ j, (xs.getD 0 default).s j = (xs.getD 0 default).n
  c2 : cl64 (xs.getD 2 default).n = (xs.getD 2 default).n ∧ ∀ j, (xs.getD 2 default).s j = (xs.getD 2 default).n
  c8 : cl64 (xs.getD 8 default).n = (xs.getD 8 default).n ∧ ∀ j, (xs.getD 8 default).s j = (xs.getD 8 default).n
theorem insX_cells (x : Nat → Arg) (j : Int) : InsC (insX x j) where
  len := insX_len x j
  c0 := ⟨cl64_cl _, fun _ => rfl⟩
  c2 := ⟨cl64_cl _, fun _ => rfl⟩
  c8 := ⟨cl64_cl _, fun _ => rfl⟩
theorem clX_has {a : Arg} (h : cl64 a.n = a.n) (hc : ∀ j, a.s j = a.n) : (clX (opc a.n)).hasA a := by
  have hr := opc_range a.n
  refine hasA_const ?_ hc
  unfold clX
  have ho : opc a.n = clamp (-1) 54 a.n := by rw [opc, h]
  cases h1 : ltb (opc a.n) 0
  · rw [ltb_f] at h1
    cases h2 : ltb 53 (opc a.n)
    · rw [ltb_f] at h2
      show a.n = opc a.n
      rw [ho] at h1 h2 ⊢
      unfold clamp at h1 h2 ⊢; split <;> (try split) <;> simp_all <;> omega
    · rw [ltb_t] at h2
      show 53 < cl64 a.n
      rw [h]
      rw [ho] at h2
      unfold clamp at h2; split at h2 <;> (try split at h2) <;> omega
  · rw [ltb_t] at h1
    show cl64 a.n < 0
    rw [h]
    rw [ho] at h1
    unfold clamp at h1; split at h1 <;> (try split at h1) <;> omega
theorem clK_has {a : Arg} (h : cl64 a.n = a.n) (hc : ∀ j, a.s j = a.n) (v : Int) (hv : is3 a.n = (v == 3)) : (clK v).hasA a := by
  refine hasA_const ?_ hc
  unfold clK
  rw [← hv]
  unfold is3
  cases h3 : cl64 a.n == 3
  · show cl64 a.n ≠ 3
    simpa using h3
  · show a.n = 3
    rw [← h]; simpa using h3
theorem insA_len (x a b : Ab) : (insA x a b).length = 16 := rfl
theorem ins_rel {D : Nat} {xs : List Arg} (_hc : InsC xs) {x a b : Ab} (h0 : x.hasA (xs.getD 0 default)) (h2 : a.hasA (xs.getD 2 default)) (h8 : b.hasA (xs.getD 8 default)) (i : Nat) (hi : i < 16) : (getA (insA x a b) i).rel D (xs.getD i default) (xs.getD i default) := by
  have h : i = 0 ∨ i = 1 ∨ i = 2 ∨ i = 3 ∨ i = 4 ∨ i = 5 ∨ i = 6 ∨ i = 7 ∨ i = 8 ∨ i = 9 ∨ i = 10 ∨ i = 11 ∨ i = 12 ∨ i = 13 ∨ i = 14 ∨ i = 15 := by omega
  rcases h with rfl | rfl | rfl | rfl | rfl | rfl | rfl | rfl | rfl | rfl | rfl | rfl | rfl | rfl | rfl | rfl
  · exact ⟨h0, h0, fun _ => rfl⟩
  · exact ⟨top_has _, top_has _, fun _ => rfl⟩
  · exact ⟨h2, h2, fun _ => rfl⟩
  · exact ⟨top_has _, top_has _, fun _ => rfl⟩
  · exact ⟨top_has _, top_has _, fun _ => rfl⟩
  · exact ⟨top_has _, top_has _, fun _ => rfl⟩
  · exact ⟨top_has _, top_has _, fun _ => rfl⟩
  · exact ⟨top_has _, top_has _, fun _ => rfl⟩
  · exact ⟨h8, h8, fun _ => rfl⟩
  · exact ⟨top_has _, top_has _, fun _ => rfl⟩
  · exact ⟨top_has _, top_has _, fun _ => rfl⟩
  · exact ⟨top_has _, top_has _, fun _ => rfl⟩
  · exact ⟨top_has _, top_has _, fun _ => rfl⟩
  · exact ⟨top_has _, top_has _, fun _ => rfl⟩
  · exact ⟨top_has _, top_has _, fun _ => rfl⟩
  · exact ⟨top_has _, top_has _, fun _ => rfl⟩
theorem stA_rel {w : Int} (hw : 0 ≤ w ∧ w ≤ 63) {a b : List Arg} (h : SR w a b) (i : Nat) (hi : i < 17) : (getA stA i).rel (dOf w) (a.getD i default) (b.getD i default) := by
  have hh : i = 0 ∨ i = 1 ∨ i = 2 ∨ i = 3 ∨ i = 4 ∨ i = 5 ∨ i = 6 ∨ i = 7 ∨ i = 8 ∨ i = 9 ∨ i = 10 ∨ i = 11 ∨ i = 12 ∨ i = 13 ∨ i = 14 ∨ i = 15 ∨ i = 16 := by omega
  have fl : ∀ q, q < 6 → 2 ^ q &&& dOf w = 0 → hasB w q = true := fun q hq => (bit_D hw hq).1
  rcases hh with rfl | rfl | rfl | rfl | rfl | rfl | rfl | rfl | rfl | rfl | rfl | rfl | rfl | rfl | rfl | rfl | rfl
  · exact ⟨top_has _, top_has _, fun _ => h 0 (by decide) (.inl (by decide))⟩
  · exact ⟨top_has _, top_has _, fun _ => h 1 (by decide) (.inl (by decide))⟩
  · exact ⟨top_has _, top_has _, fun _ => h 2 (by decide) (.inl (by decide))⟩
  · exact ⟨top_has _, top_has _, fun _ => h 3 (by decide) (.inl (by decide))⟩
  · exact ⟨top_has _, top_has _, fun _ => h 4 (by decide) (.inl (by decide))⟩
  · exact ⟨top_has _, top_has _, fun _ => h 5 (by decide) (.inl (by decide))⟩
  · exact ⟨top_has _, top_has _, fun _ => h 6 (by decide) (.inl (by decide))⟩
  · exact ⟨top_has _, top_has _, fun _ => h 7 (by decide) (.inl (by decide))⟩
  · exact ⟨top_has _, top_has _, fun _ => h 8 (by decide) (.inl (by decide))⟩
  · exact ⟨top_has _, top_has _, fun hm => h 9 (by decide) (.inr (.inr (fl 0 (by decide) hm)))⟩
  · exact ⟨top_has _, top_has _, fun hm => h 10 (by decide) (.inr (.inr (fl 1 (by decide) hm)))⟩
  · exact ⟨top_has _, top_has _, fun hm => h 11 (by decide) (.inr (.inr (fl 2 (by decide) hm)))⟩
  · exact ⟨top_has _, top_has _, fun hm => h 12 (by decide) (.inr (.inr (fl 3 (by decide) hm)))⟩
  · exact ⟨top_has _, top_has _, fun hm => h 13 (by decide) (.inr (.inr (fl 4 (by decide) hm)))⟩
  · exact ⟨top_has _, top_has _, fun hm => h 14 (by decide) (.inr (.inr (fl 5 (by decide) hm)))⟩
  · exact ⟨top_has _, top_has _, fun _ => h 15 (by decide) (.inr (.inl (by decide)))⟩
  · exact ⟨top_has _, top_has _, fun _ => h 16 (by decide) (.inr (.inl (by decide)))⟩
theorem swPick : ((List.range 53).all fun k => Nat.beq (lookI ((k : Int) + 1) w2022.dflt w2022.cases) (7501 + k)) = true := by kernel_rfl
theorem F2022 {l : List Arg} {k : Int} (h1 : 1 ≤ k) (h2 : k ≤ 53) (hk : cl64 (l.getD 0 default).n = k) : Fs.F 2022 l = Fs.F (7500 + k.toNat) l := by
  have e : w2022.pick l = 7500 + k.toNat := by
    show lookI (cl64 (l.getD 0 default).n) w2022.dflt w2022.cases = _
    rw [hk]
    have h := swPick
    rw [List.all_eq_true] at h
    have := Nat.eq_of_beq_eq_true (h (k - 1).toNat (List.mem_range.2 (by omega)))
    rw [show (((k - 1).toNat : Nat) : Int) + 1 = k by omega] at this
    rw [this]; omega
  have := sw2022 l
  rw [e] at this
  exact this
theorem nbeq_ne {a b : Nat} (h : a ≠ b) : Nat.beq a b = false := by
  cases hb : Nat.beq a b
  · rfl
  · exact absurd (Nat.eq_of_beq_eq_true hb) h
theorem FF : Fs.F = mkG table := by kernel_rfl
structure Step (w : Int) (p q : List Arg) : Prop where
  st : SR w p q
  rest : ∀ i, 17 ≤ i → i < 22 → p.getD i default = q.getD i default
  ok : 1 ≤ (p.getD 21 default).n
theorem getD_some (l : List Arg) (i : Nat) : (l[i]?).getD default = l.getD i default := by rw [List.getD_eq_getElem?_getD]
theorem step_ok {xs : List Arg} (hc : InsC xs) (his : num (Fs.F 21 xs) ≠ 0) (hf : num (Fs.F 48 xs) = 0) {w : Int} (hw : 0 ≤ w ∧ w ≤ 63) {a b : List Arg} (ha : a.length = 17) (hb : b.length = 17) (hs : SR (ah xs w) a b) :
    Step w (Fs.F 2022 (xs ++ a)) (Fs.F 2022 (xs ++ b)) := by
  have hW := ah_range hc.len hw
  have hx := chkX_at (n := (xs.getD 0 default).n) (a := (xs.getD 2 default).n) (b := (xs.getD 8 default).n)
  have k0 := clX_has hc.c0.1 hc.c0.2
  have k2 := clK_has hc.c2.1 hc.c2.2 (if is3 (xs.getD 2 default).n then 3 else 0) (by cases is3 (xs.getD 2 default).n <;> rfl)
  have k8 := clK_has hc.c8.1 hc.c8.2 (if is3 (xs.getD 8 default).n then 3 else if is2 (xs.getD 8 default).n then 2 else 0) (by cases is3 (xs.getD 8 default).n <;> cases is2 (xs.getD 8 default).n <;> rfl)
  unfold chkX at hx
  rw [fcLs_eq Av.fc_eq] at hx
  have hno : isNo (absG table 21 (insA (clX (opc (xs.getD 0 default).n)) (clK (if is3 (xs.getD 2 default).n then 3 else 0)) (clK (if is3 (xs.getD 8 default).n then 3 else if is2 (xs.getD 8 default).n then 2 else 0)))) = false := by
    cases hi : isNo _
    · rfl
    · exfalso
      have := absG_ok (D := 0) (fun _ => rfl) (l := table) 21 (insA (clX (opc (xs.getD 0 default).n)) (clK (if is3 (xs.getD 2 default).n then 3 else 0)) (clK (if is3 (xs.getD 8 default).n then 3 else if is2 (xs.getD 8 default).n then 2 else 0))) xs xs rfl (fun i => by
        by_cases h16 : i < 16
        · exact ins_rel hc k0 k2 k8 i h16
        · rw [getA_out (by rw [insA_len]; omega)]; exact rel_same _) 0
      rw [← FF] at this
      obtain ⟨h1, _⟩ := this
      unfold isNo at hi
      split at hi
      · rename_i n m he
        rw [he] at h1
        have : num (Fs.F 21 xs) = n := h1.1
        rw [beq_iff_eq] at hi
        exact his (by rw [this, hi])
      · cases hi
  rw [hno, cond_false] at hx
  simp only [Bool.and_eq_true, leb_t] at hx
  obtain ⟨⟨hx1, hx2⟩, hx3⟩ := hx
  have hop : cl64 (xs.getD 0 default).n = opc (xs.getD 0 default).n := by
    have hr := hx1
    rw [opc] at hx1 hx2 ⊢
    unfold clamp at hx1 hx2 ⊢; split <;> (try split) <;> simp_all <;> omega
  rw [fcLs_eq Av.fc_eq, List.all_eq_true] at hx3
  have hx4 := hx3 (if low31 (xs.getD 10 default).n == 0 then 0 else if low31 (xs.getD 10 default).n == 1 then 1 else 2) (by cases low31 (xs.getD 10 default).n == 0 <;> cases low31 (xs.getD 10 default).n == 1 <;> decide)
  have he := rp_eo (F := Fs.F) (xs := xs) (by rw [hc.len]; omega)
  have e : ∀ g, niceOf g = some 16 → Fs.F g (rp xs) = Fs.F g xs := fun g hg => (niceT g 16 hg _ _ he).symm
  change (fcI (num (Fs.F 48 (rp xs))) fun f => bif f == 0 then (fcI (num (Fs.F 20 (rp xs))) fun R => fcI (num (Fs.F 17 (rp xs))) fun S => stepL _ R S) else true) = true at hx4
  rw [fcI_eq, e 48 rfl, hf] at hx4
  simp only [beq_self_eq_true, cond_true, fcI_eq] at hx4
  rw [e 20 rfl, e 17 rfl] at hx4
  have hi := ins_ok (xs := xs) (by rw [hc.len]; omega)
  have hah : ∀ q, q < 6 → (hasB (num (Fs.F 20 xs)) q = true ∨ (hasB w q = true ∧ hasB (num (Fs.F 17 xs)) q = false)) → hasB (ah xs w) q = true := fun q hq h => by
    rw [ah, if_pos hf, (has_or hi.rr (two_set hw hi.sr).2.1 hq).1, (has_or hw hi.sr hq).2]
    rcases h with h | ⟨h, h'⟩
    · rw [h]; rfl
    · rw [h, h']; cases hasB (num (Fs.F 20 xs)) q <;> rfl
  have g0 : ∀ c : List Arg, (xs ++ c).getD 0 default = xs.getD 0 default := fun c => getD_left (by rw [hc.len]; decide)
  rw [F2022 hx1 hx2 (by rw [g0, hop]), F2022 hx1 hx2 (by rw [g0, hop])]
  have key := absG_ok (D := dOf (ah xs w)) (D_all hW) (l := table) (7500 + (opc (xs.getD 0 default).n).toNat) (insA (clX (opc (xs.getD 0 default).n)) (clK (if is3 (xs.getD 2 default).n then 3 else 0)) (clK (if is3 (xs.getD 8 default).n then 3 else if is2 (xs.getD 8 default).n then 2 else 0)) ++ stA) (xs ++ a) (xs ++ b) (by simp only [List.length_append, ha, hb]) (fun i => by
    rw [getA_app, insA_len]
    by_cases h16 : i < 16
    · rw [if_pos h16, getD_left (by rw [hc.len]; exact h16), getD_left (by rw [hc.len]; exact h16)]
      exact ins_rel hc k0 k2 k8 i h16
    · rw [if_neg h16]
      have r : ∀ c : List Arg, (xs ++ c).getD i default = c.getD (i - 16) default := fun c => by
        have := getD_right (p := xs) (q := c) (i := i - 16)
        rw [hc.len, show 16 + (i - 16) = i by omega] at this; exact this
      rw [r, r]
      by_cases h33 : i - 16 < 17
      · exact stA_rel hW hs _ h33
      · rw [getA_out (by show 17 ≤ _; omega)]
        have o : ∀ c : List Arg, c.length = 17 → c.getD (i - 16) default = default := fun c hcl => by rw [List.getD_eq_getElem?_getD, List.getElem?_eq_none (by omega)]; rfl
        rw [o a ha, o b hb]; exact rel_same _)
  rw [← FF] at key
  generalize absG table _ (_ ++ stA) = L at key hx4
  simp only [stepL, List.all_eq_true, List.mem_range] at hx4
  have mlt : ∀ i, i < 21 → (getA L i).m < 64 := fun i hi => by
    have := hx4 i (by omega)
    have h21 : Nat.beq i 21 = false := nbeq_ne (by omega)
    rw [h21, cond_false] at this
    cases hb : Nat.ble 9 i && Nat.ble i 14 <;> rw [hb] at this <;> simp only [cond_true, cond_false, flagOk, subR, Bool.and_eq_true, Nat.blt_eq] at this <;> exact this.1
  have plain : ∀ i, i < 21 → (i < 9 ∨ 15 ≤ i) → (getA L i).m &&& dOf (ah xs w) = 0 := fun i hi h => by
    have := hx4 i (by omega)
    have h21 : Nat.beq i 21 = false := nbeq_ne (by omega)
    have hb : (Nat.ble 9 i && Nat.ble i 14) = false := by
      rw [Bool.and_eq_false_iff]
      rcases h with h | h
      · exact .inl (by rw [Bool.eq_false_iff, ne_eq, Nat.ble_eq]; omega)
      · exact .inr (by rw [Bool.eq_false_iff, ne_eq, Nat.ble_eq]; omega)
    rw [h21, hb] at this
    simp only [cond_false, subR, Bool.and_eq_true, List.all_eq_true, List.mem_range, Bool.or_eq_true, Bool.not_eq_true'] at this
    refine mask_D hW (mlt i hi) fun q hq hb => hah q hq (.inl ?_)
    rcases this.2 q hq with h | h
    · rw [h] at hb; cases hb
    · exact h
  have flag : ∀ j, j < 6 → hasB w j = true → (getA L (9 + j)).m &&& dOf (ah xs w) = 0 := fun j hj hwj => by
    have := hx4 (9 + j) (by omega)
    have h21 : Nat.beq (9 + j) 21 = false := nbeq_ne (by omega)
    have hb : (Nat.ble 9 (9 + j) && Nat.ble (9 + j) 14) = true := by
      rw [Bool.and_eq_true, Nat.ble_eq, Nat.ble_eq]; omega
    rw [h21, hb, show 9 + j - 9 = j by omega] at this
    simp only [cond_false, cond_true, flagOk, Bool.and_eq_true, List.all_eq_true, List.mem_range, Bool.or_eq_true, Bool.not_eq_true'] at this
    refine mask_D hW (mlt _ (by omega)) fun q hq hb => hah q hq ?_
    rcases this.2 q hq with (h | h) | ⟨h1, h2⟩
    · rw [h] at hb; cases hb
    · exact .inl h
    · have h1 := Nat.eq_of_beq_eq_true h1
      subst h1
      exact .inr ⟨hwj, h2⟩
  have hok := hx4 21 (by decide)
  simp only [show Nat.beq 21 21 = true from rfl, cond_true] at hok
  have k21 := key 21
  rw [getD_some, getD_some] at k21
  refine ⟨fun j hj h => ?_, fun i h1 h2 => ?_, ?_⟩
  · have := key j
    rw [getD_some, getD_some] at this
    rcases h with h | h | h
    · exact this.2.2 (plain j (by omega) (.inl h))
    · exact this.2.2 (plain j (by omega) (.inr h))
    · by_cases h9 : j < 9
      · exact this.2.2 (plain j (by omega) (.inl h9))
      · by_cases h15 : 15 ≤ j
        · exact this.2.2 (plain j (by omega) (.inr h15))
        · have := flag (j - 9) (by omega) h
          rw [show 9 + (j - 9) = j by omega] at this
          have t := key j
          rw [getD_some, getD_some] at t
          exact t.2.2 this
  · by_cases h : i = 21
    · subst h
      unfold okLit at hok
      split at hok
      · rename_i n m he
        rw [he] at k21
        obtain ⟨⟨g1, g2⟩, ⟨g3, g4⟩, _⟩ := k21
        have k2 := g2 rfl
        have k4 := g4 rfl
        generalize (Fs.F _ (xs ++ a)).getD 21 default = p at g1 k2
        generalize (Fs.F _ (xs ++ b)).getD 21 default = q at g3 k4
        cases p; cases q
        simp only [Ab.has] at g1 g3 k2 k4
        subst g1; subst g3
        congr 1; funext j; rw [k2 j, k4 j]
      · cases hok
    · have := key i
      rw [getD_some, getD_some] at this
      exact this.2.2 (plain i (by omega) (.inr (by omega)))
  · unfold okLit at hok
    split at hok
    · rename_i n m he
      rw [he] at k21
      have : ((Fs.F (7500 + (opc (xs.getD 0 default).n).toNat) (xs ++ a)).getD 21 default).n = n := k21.1.1
      rw [this]; rw [leb_t] at hok; exact hok
    · cases hok
end Go.Sy
