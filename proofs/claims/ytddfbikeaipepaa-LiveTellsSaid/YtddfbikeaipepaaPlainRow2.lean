/- Functions, each told by its own run; and what follows from what they tell. -/
import Derived.Test.YtddfbikeaipepaaPlainRow1
namespace Go.Sy
/-! what the functions say of an instruction -/
def num (l : List Arg) : Int := ((l[0]?).getD default).n
def aN (n : Int) : Arg := ⟨n, fun _ => n⟩
def mkI (x a b c : Int) : List Arg := [aN x, aN 0, aN a, aN 0, aN 0, aN 0, aN 0, aN 0, aN b, aN 0, aN c]
def rp (xs : List Arg) : List Arg := mkI (opc (xs.getD 0 default).n) (if is3 (xs.getD 2 default).n then 3 else 0) (if is3 (xs.getD 8 default).n then 3 else if is2 (xs.getD 8 default).n then 2 else 0)
  (if low31 (xs.getD 10 default).n == 0 then 0 else if low31 (xs.getD 10 default).n == 1 then 1 else 2)
theorem opc_range (n : Int) : -1 ≤ opc n ∧ opc n ≤ 54 := by unfold opc clamp; split <;> (try split) <;> omega
theorem opc_opc (n : Int) : opc (opc n) = opc n := by
  have h := opc_range n
  have h2 : cl64 (opc n) = opc n := clamp_id ⟨by show (-9223372036854775808 : Int) ≤ _; omega, by show _ ≤ (9223372036854775807 : Int); omega⟩
  rw [opc, h2, clamp_id h]
theorem opc_at {n k : Int} (h0 : 0 ≤ k) (h1 : k ≤ 53) : (opc n == k) = (cl64 n == k) := by
  rw [Bool.eq_iff_iff, beq_iff_eq, beq_iff_eq]
  unfold opc clamp; split <;> (try split) <;> omega
theorem rp_eo {F : Nat → List Arg → List Arg} {xs : List Arg} (hl : xs.length ≤ 16) : Eo 16 (argE F xs) (argE F (rp xs)) := by
  refine eo_of rfl fun i => ?_
  by_cases hi : i < 16
  · refine .inr ⟨hi, fun e => ?_, fun e => ?_, fun e => ?_, fun e => ?_⟩
    · subst e; exact (opc_opc _).symm
    · subst e
      show is3 (xs.getD 2 default).n = is3 (if is3 (xs.getD 2 default).n then 3 else 0)
      cases is3 (xs.getD 2 default).n <;> rfl
    · subst e
      show is3 (xs.getD 8 default).n = is3 (if is3 (xs.getD 8 default).n then 3 else if is2 (xs.getD 8 default).n then 2 else 0) ∧ is2 (xs.getD 8 default).n = is2 (if is3 (xs.getD 8 default).n then 3 else if is2 (xs.getD 8 default).n then 2 else 0)
      cases h3 : is3 (xs.getD 8 default).n
      · cases is2 (xs.getD 8 default).n <;> exact ⟨rfl, rfl⟩
      · refine ⟨rfl, ?_⟩
        unfold is3 at h3
        unfold is2
        rw [beq_iff_eq.1 h3]; rfl
    · subst e
      show (low31 (xs.getD 10 default).n == 0) = (low31 (if low31 (xs.getD 10 default).n == 0 then 0 else if low31 (xs.getD 10 default).n == 1 then 1 else 2) == 0) ∧
        (low31 (xs.getD 10 default).n == 1) = (low31 (if low31 (xs.getD 10 default).n == 0 then 0 else if low31 (xs.getD 10 default).n == 1 then 1 else 2) == 1)
      cases h3 : low31 (xs.getD 10 default).n == 0
      · cases low31 (xs.getD 10 default).n == 1 <;> exact ⟨by decide, by decide⟩
      · simp only [ite_true]; refine ⟨by decide, ?_⟩
        rw [beq_iff_eq.1 h3]; decide
  · refine .inl ?_
    simp only [argE, List.getD_eq_getElem?_getD]
    rw [List.getElem?_eq_none (by omega), List.getElem?_eq_none (by simp [rp, mkI]; omega)]
def chkT (l : List Arg) (x : Int) : Bool :=
  fcI (num (Fs.F 19 l)) fun t => fcI (num (Fs.F 48 l)) fun f =>
  num (Fs.F 27 l) == t && (t == 0 || t == 1) && ((f == 0) == (t == 0 && !(x == 19) && !(x == 20))) && leb 0 f && leb f 1
def chkS (l : List Arg) : Bool := fcI (num (Fs.F 17 l)) fun s => num (Fs.F 16 l) == s && leb 0 s && leb s 63
def chkR (l : List Arg) : Bool := fcI (num (Fs.F 20 l)) fun r => num (Fs.F 44 l) == r && leb 0 r && leb r 63
def ops : List Int := (List.range 56).map fun x => Int.ofNat x - 1
def chkA (p : Int → Int → Int → Int → Bool) : Bool := fcLs fcI ops fun ops => ops.all fun x => [0, 3].all fun a => [0, 2, 3].all fun b => [0, 1, 2].all fun c => p x a b c
theorem chk1_ok : chkA (fun x a b c => chkT (mkI x a b c) x) = true := by kernel_rfl
theorem chk2_ok : chkA (fun x a b c => chkS (mkI x a b c)) = true := by kernel_rfl
theorem chk3_ok : chkA (fun x a b c => chkR (mkI x a b c)) = true := by kernel_rfl
theorem chkA_at {p : Int → Int → Int → Int → Bool} (h : chkA p = true) (xs : List Arg) : p (opc (xs.getD 0 default).n) (if is3 (xs.getD 2 default).n then 3 else 0)
    (if is3 (xs.getD 8 default).n then 3 else if is2 (xs.getD 8 default).n then 2 else 0) (if low31 (xs.getD 10 default).n == 0 then 0 else if low31 (xs.getD 10 default).n == 1 then 1 else 2) = true := by
  have hr := opc_range (xs.getD 0 default).n
  simp only [chkA, fcLs_eq fcI_eq, List.all_eq_true] at h
  refine h _ ?_ _ ?_ _ ?_ _ ?_
  · unfold ops
    rw [List.mem_map]
    exact ⟨(opc (xs.getD 0 default).n + 1).toNat, List.mem_range.2 (by omega), by simp only [Int.ofNat_eq_natCast]; omega⟩
  · cases is3 (xs.getD 2 default).n <;> decide
  · cases is3 (xs.getD 8 default).n <;> cases is2 (xs.getD 8 default).n <;> decide
  · cases low31 (xs.getD 10 default).n == 0 <;> cases low31 (xs.getD 10 default).n == 1 <;> decide
structure Ins (xs : List Arg) : Prop where
  t : num (Fs.F 27 xs) = num (Fs.F 19 xs)
  tb : num (Fs.F 19 xs) = 0 ∨ num (Fs.F 19 xs) = 1
  s : num (Fs.F 16 xs) = num (Fs.F 17 xs)
  sr : 0 ≤ num (Fs.F 17 xs) ∧ num (Fs.F 17 xs) ≤ 63
  r : num (Fs.F 44 xs) = num (Fs.F 20 xs)
  rr : 0 ≤ num (Fs.F 20 xs) ∧ num (Fs.F 20 xs) ≤ 63
  f : num (Fs.F 48 xs) = 0 ↔ num (Fs.F 19 xs) = 0 ∧ cl64 (xs.getD 0 default).n ≠ 19 ∧ cl64 (xs.getD 0 default).n ≠ 20
  fb : 0 ≤ num (Fs.F 48 xs) ∧ num (Fs.F 48 xs) ≤ 1
theorem ins_ok {xs : List Arg} (hl : xs.length ≤ 16) : Ins xs := by
  have he := rp_eo (F := Fs.F) hl
  have e : ∀ g, niceOf g = some 16 → Fs.F g (rp xs) = Fs.F g xs := fun g hg => (niceT g 16 hg _ _ he).symm
  have g1 := chkA_at chk1_ok xs
  have g2 := chkA_at chk2_ok xs
  have g3 := chkA_at chk3_ok xs
  simp only [chkT] at g1
  change (fcI (num (Fs.F 19 (rp xs))) fun t => fcI (num (Fs.F 48 (rp xs))) fun f => num (Fs.F 27 (rp xs)) == t && (t == 0 || t == 1) && ((f == 0) == (t == 0 && !(opc (xs.getD 0 default).n == 19) && !(opc (xs.getD 0 default).n == 20))) && leb 0 f && leb f 1) = true at g1
  change (fcI (num (Fs.F 17 (rp xs))) fun s => num (Fs.F 16 (rp xs)) == s && leb 0 s && leb s 63) = true at g2
  change (fcI (num (Fs.F 20 (rp xs))) fun r => num (Fs.F 44 (rp xs)) == r && leb 0 r && leb r 63) = true at g3
  rw [e 27 rfl, e 19 rfl, e 48 rfl, opc_at (n := (xs.getD 0 default).n) (k := 19) (by decide) (by decide), opc_at (n := (xs.getD 0 default).n) (k := 20) (by decide) (by decide), fcI_eq, fcI_eq] at g1
  rw [e 17 rfl, e 16 rfl, fcI_eq] at g2
  rw [e 20 rfl, e 44 rfl, fcI_eq] at g3
  simp only [Bool.and_eq_true, Bool.or_eq_true, beq_iff_eq, leb_t] at g1 g2 g3
  obtain ⟨⟨⟨⟨h1, h2⟩, h9⟩, h10⟩, h11⟩ := g1
  refine ⟨h1, h2, g2.1.1, ⟨g2.1.2, g2.2⟩, g3.1.1, ⟨g3.1.2, g3.2⟩, ?_, ⟨h10, h11⟩⟩
  rw [Bool.eq_iff_iff] at h9
  simpa [and_assoc] using h9
/-! sets of flags -/
def borI (a b : Int) : Int := O2.den (.bor .i64) a b
def bandnI (a b : Int) : Int := O2.den (.bandn .i64) a b
def bandI (a b : Int) : Int := O2.den (.band .i64) a b
def inS (n : Int) : Bool := leb 0 n && leb n 63
def chkB : Bool := (List.range 64).all fun a => (List.range 64).all fun b => inS (borI a b) && inS (bandnI a b) && bandI (borI a b) a == a
def chkC : Bool := (List.range 64).all fun a => borI 63 a == 63 && bandI 63 a == a
theorem chkB_ok : chkB = true := by kernel_rfl
theorem chkC_ok : chkC = true := by kernel_rfl
theorem two_set {a b : Int} (ha : 0 ≤ a ∧ a ≤ 63) (hb : 0 ≤ b ∧ b ≤ 63) : (0 ≤ borI a b ∧ borI a b ≤ 63) ∧ (0 ≤ bandnI a b ∧ bandnI a b ≤ 63) ∧ bandI (borI a b) a = a := by
  have h := chkB_ok
  simp only [chkB, List.all_eq_true, List.mem_range] at h
  have := h a.toNat (by omega) b.toNat (by omega)
  rw [Int.toNat_of_nonneg ha.1, Int.toNat_of_nonneg hb.1] at this
  simp only [inS, Bool.and_eq_true, leb_t, beq_iff_eq] at this
  exact ⟨this.1.1, this.1.2, this.2⟩
theorem one_set {a : Int} (ha : 0 ≤ a ∧ a ≤ 63) : borI 63 a = 63 ∧ bandI 63 a = a := by
  have h := chkC_ok
  simp only [chkC, List.all_eq_true, List.mem_range] at h
  have := h a.toNat (by omega)
  rw [Int.toNat_of_nonneg ha.1] at this
  simpa using this
end Go.Sy
