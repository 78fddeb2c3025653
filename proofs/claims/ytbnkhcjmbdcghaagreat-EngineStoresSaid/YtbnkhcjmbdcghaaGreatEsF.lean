/- Calls of the program, each told by its own run. -/
import Derived.Test.YtbnkhcjmbdcghaaGreatEsD
namespace Go.RvC
open Go Go.Sy Go.E3
theorem eq_tr {E : Env} {a b : T} (h : a.den E = b.den E) : (T.bin .eq a b).tr E = true := by
  simp only [T.tr, T.den, O2.den, tb_ne, h]; exact beq_self_eq_true _
theorem u32w (s : Int) : IntKind.u32.wrap s = s % 4294967296 := by simp [IntKind.wrap, IntKind.bits, IntKind.signed]
theorem sgn_eq (p : Int) (_h0 : 0 ≤ p) (_h1 : p < 4294967296) : O2.den (.shr .i32) (IntKind.i32.wrap (O2.den (.shl .u32) p 20)) 20 = (if p % 4096 < 2048 then p % 4096 else p % 4096 - 4096) := by
  have e : (2 : Int) ^ (min (Int.toNat 20) IntKind.u32.bits) = 1048576 := rfl
  have e2 : (2 : Int) ^ (min (Int.toNat 20) IntKind.i32.bits) = 1048576 := rfl
  simp only [O2.den, e, e2]
  rw [Int.fdiv_eq_ediv_of_nonneg _ (by decide)]
  simp only [IntKind.wrap, IntKind.bits, IntKind.signed]
  simp
  split <;> split <;> omega
theorem band4095 (h : Int) : O2.den (.band .i32) h 4095 = h % 4096 := by
  have e1 : (BitVec.ofInt 32 h &&& BitVec.ofInt 32 4095).toNat = (h % 4294967296).toNat % 4096 := by
    rw [BitVec.toNat_and, BitVec.toNat_ofInt, BitVec.toNat_ofInt]
    exact Nat.and_two_pow_sub_one_eq_mod (h % 4294967296).toNat 12
  simp only [O2.den]
  show IntKind.i32.wrap ((BitVec.ofInt 32 h &&& BitVec.ofInt 32 4095).toNat : Nat) = _
  rw [e1, wrap_in .i32 _ (by simp [IntKind.min, IntKind.max, IntKind.bits, IntKind.signed]; omega)]
  omega
/-- A place's term: a word. -/
def isW (E : Env) (p : T) : Prop := 0 ≤ p.den E ∧ p.den E < 4294967296
theorem wrap_w (E : Env) (t : T) : isW E (.un (.wrap .u32) t) := by
  have := wrap_range .u32 (t.den E)
  simp [IntKind.min, IntKind.max, IntKind.bits, IntKind.signed] at this
  exact ⟨this.1, by have := this.2; show IntKind.u32.wrap _ < _; omega⟩
theorem sX_den {E : Env} {p : T} (h : isW E p) : (sX p).den E = (if p.den E % 4096 < 2048 then p.den E % 4096 else p.den E % 4096 - 4096) := sgn_eq _ h.1 h.2
theorem tr_eq_iff {E : Env} {a b : T} : (T.bin .eq a b).tr E = true ↔ a.den E = b.den E := by
  simp only [T.tr, T.den, O2.den, tb_ne]; exact beq_iff_eq
theorem x1_ok {E : Env} {p : T} (h : isW E p) : (x1 p).tr E = true := by
  have hs := sX_den h
  refine eq_tr ?_
  show (sX p).den E = IntKind.i32.wrap ((sX p).den E)
  rw [wrap_in .i32 _ (by simp [IntKind.min, IntKind.max, IntKind.bits, IntKind.signed]; rw [hs]; split <;> omega)]
theorem zX_den {E : Env} {p : T} : (zX p).den E = IntKind.i32.wrap (p.den E - (sX p).den E % 4294967296) := by
  show IntKind.i32.wrap (p.den E - IntKind.u32.wrap ((sX p).den E)) = _
  rw [u32w]
theorem x2_ok {E : Env} {p : T} (h : isW E p) : (x2 p).tr E = true := by
  have hs := sX_den h
  have hp := h
  unfold isW at hp
  refine eq_tr ?_
  show O2.den (.band .i32) ((zX p).den E) 4095 = 0
  rw [band4095, zX_den]
  simp only [IntKind.wrap, IntKind.bits, IntKind.signed]
  simp
  split <;> split at hs <;> omega
theorem x3_iff {E : Env} {p : T} (h : isW E p) : (x3 p).tr E = true ↔ p.den E % 4096 = 0 := by
  have hs := sX_den h
  have hp := h
  unfold isW at hp
  rw [x3, tr_eq_iff]
  show IntKind.i32.wrap ((sX p).den E) = 0 ↔ _
  rw [wrap_in .i32 _ (by simp [IntKind.min, IntKind.max, IntKind.bits, IntKind.signed]; rw [hs]; split <;> omega), hs]
  split <;> omega
theorem x4_iff {E : Env} {p : T} (h : isW E p) : (x4 p).tr E = true ↔ (p.den E < 2048 ∨ 4294965248 ≤ p.den E) := by
  have hs := sX_den h
  have hp := h
  unfold isW at hp
  rw [x4, tr_eq_iff, zX_den]
  show IntKind.i32.wrap _ = 0 ↔ _
  simp only [IntKind.wrap, IntKind.bits, IntKind.signed]
  simp
  split <;> split at hs <;> omega
theorem pcN {E : Env} : pcOk E [] := fun _ h => nomatch h
/-- The way that a number's words lie. -/
theorem pcX_ok {E : Env} {p : T} (h : isW E p) : ∃ q : Nat, q < 3 ∧ pcOk E (pcX q p) := by
  cases h4 : (x4 p).tr E
  · cases h3 : (x3 p).tr E
    · exact ⟨2, by decide, pcOk_cons.2 ⟨x1_ok h, pcOk_cons.2 ⟨x2_ok h, pcOk_cons.2 ⟨h3, pcOk_cons.2 ⟨h4, pcN⟩⟩⟩⟩⟩
    · exact ⟨1, by decide, pcOk_cons.2 ⟨x2_ok h, pcOk_cons.2 ⟨h3, pcOk_cons.2 ⟨h4, pcN⟩⟩⟩⟩
  · exact ⟨0, by decide, pcOk_cons.2 ⟨x1_ok h, pcOk_cons.2 ⟨h4, pcN⟩⟩⟩
/-- The number that the words make is the number. -/
theorem resX_ok {E : Env} {p : T} (h : isW E p) {q : Nat} (hq : pcOk E (pcX q p)) : (resX q p).tr E = true := by
  have hs := sX_den h
  have hp := h
  unfold isW at hp
  match q with
  | 0 =>
    have h4 := (x4_iff h).1 (pcOk_cons.1 (pcOk_cons.1 hq).2).1
    refine eq_tr ?_
    show IntKind.u32.wrap ((sX p).den E) = p.den E
    rw [u32w, hs]
    split <;> omega
  | 1 =>
    have h3 := (x3_iff h).1 (pcOk_cons.1 (pcOk_cons.1 hq).2).1
    refine eq_tr ?_
    show IntKind.u32.wrap (p.den E - IntKind.u32.wrap ((sX p).den E)) = p.den E
    rw [u32w, u32w, hs]
    split <;> omega
  | _ + 2 => rfl
theorem pcOk_app {E : Env} {a b : Pc} (h : pcOk E a) (h' : pcOk E b) : pcOk E (a ++ b) := fun x hx => (List.mem_append.1 hx).elim (h x) (h' x)
/-- Words that make the same number lie the same way. -/
theorem pcX_same {E : Env} {p p' : T} (h : isW E p) (h' : isW E p') (e : p'.den E = p.den E) {q : Nat} (hq : pcOk E (pcX q p)) : pcOk E (pcX q p') := by
  have e4 : (x4 p').tr E = (x4 p).tr E := Bool.eq_iff_iff.2 (by rw [x4_iff h, x4_iff h', e])
  have e3 : (x3 p').tr E = (x3 p).tr E := Bool.eq_iff_iff.2 (by rw [x3_iff h, x3_iff h', e])
  match q with
  | 0 => exact pcOk_cons.2 ⟨x1_ok h', pcOk_cons.2 ⟨e4.trans (pcOk_cons.1 (pcOk_cons.1 hq).2).1, pcN⟩⟩
  | 1 =>
    have h3 := pcOk_cons.1 (pcOk_cons.1 hq).2
    exact pcOk_cons.2 ⟨x2_ok h', pcOk_cons.2 ⟨e3.trans h3.1, pcOk_cons.2 ⟨e4.trans (pcOk_cons.1 h3.2).1, pcN⟩⟩⟩
  | _ + 2 =>
    have h3 := pcOk_cons.1 (pcOk_cons.1 (pcOk_cons.1 hq).2).2
    exact pcOk_cons.2 ⟨x1_ok h', pcOk_cons.2 ⟨x2_ok h', pcOk_cons.2 ⟨e3.trans h3.1, pcOk_cons.2 ⟨e4.trans (pcOk_cons.1 h3.2).1, pcN⟩⟩⟩⟩
theorem mV'_den {E : Env} {q : Nat} (h : isW E mV) (hq : pcOk E (pcX q mV)) : (mV' q).den E = mV.den E := by
  have hr := resX_ok h hq
  match q with
  | 0 => exact tr_eq_iff.1 hr
  | 1 => exact tr_eq_iff.1 hr
  | _ + 2 => rfl
/-- One of the ways. -/
theorem pcS_ok {E : Env} (h : isW E mV) : ∃ q : Nat, q < 3 ∧ pcOk E (pcS q) := by
  obtain ⟨q, hq, hp⟩ := pcX_ok h
  refine ⟨q, hq, ?_⟩
  match q, hq with
  | 0, _ => exact pcOk_cons.2 ⟨eq_tr (by show mV.den E - (mV' 0).den E = 0; rw [mV'_den h hp]; exact Int.sub_self _), pcOk_cons.2 ⟨eq_tr (Int.sub_self _), pcOk_cons.2 ⟨resX_ok h hp, pcOk_app hp (pcX_same h (wrap_w E _) (mV'_den h hp) hp)⟩⟩⟩
  | 1, _ => exact pcOk_cons.2 ⟨resX_ok h hp, pcOk_app hp (pcX_same h (wrap_w E _) (mV'_den h hp) hp)⟩
  | 2, _ => exact hp
theorem resS_ok {E : Env} (_h : isW E mV) {s : Int} {q : Nat} (_hq : pcOk E (pcS q)) : (resS s q).tr E = true := rfl
end Go.RvC
