/- Calls of the program, each told by its own run. -/
import Derived.Test.YtkgdmbnihdakiaaGreatRdF
import Derived.Test.YtkgdmbnihdakiaaGreatEpD
namespace Go.RvC
open Go Go.Sy Go.E3
/-- A place's term: a word. -/
def isW (E : Env) (p : T) : Prop := 0 ≤ p.den E ∧ p.den E < 4294967296
theorem wrap_w (E : Env) (t : T) : isW E (.un (.wrap .u32) t) := by
  have := wrap_range .u32 (t.den E)
  simp [IntKind.min, IntKind.max, IntKind.bits, IntKind.signed] at this
  exact ⟨this.1, by have := this.2; show IntKind.u32.wrap _ < _; omega⟩
theorem sX_den {E : Env} {p : T} (h : isW E p) : (sX p).den E = (if p.den E % 4096 < 2048 then p.den E % 4096 else p.den E % 4096 - 4096) := sgn_eq _ h.1 h.2
theorem tr_eq_iff {E : Env} {a b : T} : (T.bin .eq a b).tr E = true ↔ a.den E = b.den E := by
  simp only [T.tr, T.den, O2.den, tb_ne]; exact beq_iff_eq
theorem x1_ok {E : Env} {p : T} (h : isW E p) : (x1 p).tr E = true := by
  have hs := sX_den h
  refine eq_tr ?_
  show (sX p).den E = IntKind.i32.wrap ((sX p).den E)
  rw [wrap_in .i32 _ (by simp [IntKind.min, IntKind.max, IntKind.bits, IntKind.signed]; rw [hs]; split <;> omega)]
theorem zX_den {E : Env} {p : T} : (zX p).den E = IntKind.i32.wrap (p.den E - (sX p).den E % 4294967296) := by
  show IntKind.i32.wrap (p.den E - IntKind.u32.wrap ((sX p).den E)) = _
  rw [u32w]
theorem x2_ok {E : Env} {p : T} (h : isW E p) : (x2 p).tr E = true := by
  have hs := sX_den h
  have hp := h
  unfold isW at hp
  refine eq_tr ?_
  show O2.den (.band .i32) ((zX p).den E) 4095 = 0
  rw [band4095, zX_den]
  simp only [IntKind.wrap, IntKind.bits, IntKind.signed]
  simp
  split <;> split at hs <;> omega
theorem x3_iff {E : Env} {p : T} (h : isW E p) : (x3 p).tr E = true ↔ p.den E % 4096 = 0 := by
  have hs := sX_den h
  have hp := h
  unfold isW at hp
  rw [x3, tr_eq_iff]
  show IntKind.i32.wrap ((sX p).den E) = 0 ↔ _
  rw [wrap_in .i32 _ (by simp [IntKind.min, IntKind.max, IntKind.bits, IntKind.signed]; rw [hs]; split <;> omega), hs]
  split <;> omega
theorem x4_iff {E : Env} {p : T} (h : isW E p) : (x4 p).tr E = true ↔ (p.den E < 2048 ∨ 4294965248 ≤ p.den E) := by
  have hs := sX_den h
  have hp := h
  unfold isW at hp
  rw [x4, tr_eq_iff, zX_den]
  show IntKind.i32.wrap _ = 0 ↔ _
  simp only [IntKind.wrap, IntKind.bits, IntKind.signed]
  simp
  split <;> split at hs <;> omega
/-- The way that a place's words lie. -/
theorem pcX_ok {E : Env} {p : T} (h : isW E p) : (pcOk E (pcX 0 p) ∧ (x4 p).tr E = true) ∨ (pcOk E (pcX 1 p) ∧ (x4 p).tr E = false ∧ (x3 p).tr E = true) ∨ (pcOk E (pcX 2 p) ∧ (x4 p).tr E = false ∧ (x3 p).tr E = false) := by
  cases h4 : (x4 p).tr E
  · cases h3 : (x3 p).tr E
    · exact .inr (.inr ⟨pcOk_cons.2 ⟨x1_ok h, pcOk_cons.2 ⟨x2_ok h, pcOk_cons.2 ⟨h3, pcOk_cons.2 ⟨h4, pcN⟩⟩⟩⟩, rfl, rfl⟩)
    · exact .inr (.inl ⟨pcOk_cons.2 ⟨x2_ok h, pcOk_cons.2 ⟨h3, pcOk_cons.2 ⟨h4, pcN⟩⟩⟩, rfl, rfl⟩)
  · exact .inl ⟨pcOk_cons.2 ⟨x1_ok h, pcOk_cons.2 ⟨h4, pcN⟩⟩, rfl⟩
/-- The place is the one that the words make. -/
theorem resX_ok {E : Env} {p : T} (h : isW E p) {q : Nat} (hq : pcOk E (pcX q p)) : (resX q p).tr E = true := by
  have hs := sX_den h
  have hp := h
  unfold isW at hp
  match q with
  | 0 =>
    have h4 := (x4_iff h).1 (pcOk_cons.1 (pcOk_cons.1 hq).2).1
    refine eq_tr ?_
    show IntKind.u32.wrap ((sX p).den E) = p.den E
    rw [u32w, hs]
    split <;> omega
  | 1 =>
    have h3 := (x3_iff h).1 (pcOk_cons.1 (pcOk_cons.1 hq).2).1
    refine eq_tr ?_
    show IntKind.u32.wrap (p.den E - IntKind.u32.wrap ((sX p).den E)) = p.den E
    rw [u32w, u32w, hs]
    split <;> omega
  | _ + 2 => rfl
theorem pcOk_app {E : Env} {a b : Pc} (h : pcOk E a) (h' : pcOk E b) : pcOk E (a ++ b) := fun x hx => (List.mem_append.1 hx).elim (h x) (h' x)
/-- The ways of two places, the one just behind the other. -/
theorem two_ok (E : Env) : ∃ q r, ways q r ∧ pcOk E (pcX q (pV 17 6)) ∧ pcOk E (pcX r (pV 17 7)) := by
  have hq : isW E (pV 17 6) := wrap_w E _
  have hr : isW E (pV 17 7) := wrap_w E _
  have hn : (pV 17 7).den E = ((pV 17 6).den E + 1) % 4294967296 := by
    show IntKind.u32.wrap (_ + 7) = (IntKind.u32.wrap (_ + 6) + 1) % 4294967296
    rw [u32w, u32w]
    omega
  have q3 := x3_iff hq
  have q4 := x4_iff hq
  have r3 := x3_iff hr
  have r4 := x4_iff hr
  have hq' := hq
  have hr' := hr
  unfold isW at hq' hr'
  rcases pcX_ok hq with ⟨a, a4⟩ | ⟨a, a4, a3⟩ | ⟨a, a4, a3⟩ <;> rcases pcX_ok hr with ⟨b, b4⟩ | ⟨b, b4, b3⟩ | ⟨b, b4, b3⟩
  · exact ⟨0, 0, by simp [ways], a, b⟩
  · have := q4.1 a4; have := r3.1 b3; have h' : ¬ _ := fun h => by rw [r4.2 h] at b4; cases b4
    omega
  · exact ⟨0, 2, by simp [ways], a, b⟩
  · have := q3.1 a3; have := r4.1 b4; have h' : ¬ _ := fun h => by rw [q4.2 h] at a4; cases a4
    omega
  · have := q3.1 a3; have := r3.1 b3
    omega
  · exact ⟨1, 2, by simp [ways], a, b⟩
  · exact ⟨2, 0, by simp [ways], a, b⟩
  · exact ⟨2, 1, by simp [ways], a, b⟩
  · exact ⟨2, 2, by simp [ways], a, b⟩
theorem mT8_ok {E : Env} {a : Int} (ha : (E.x 18).n = a) (r : 0 ≤ a ∧ a ≤ 255) {j : Nat} (h : a.tmod 8 = j) : (mT8 (((j : Int) + 1) % 8)).tr E = true := by
  refine eq_tr ?_
  show (IntKind.u8.wrap (clamp 0 255 (E.x 18).n + 1)).tmod 8 = ((j : Int) + 1) % 8
  rw [ha, clamp_id r]
  rw [Int.tmod_eq_emod_of_nonneg r.1] at h
  simp only [IntKind.wrap, IntKind.bits, IntKind.signed]
  simp
  rw [Int.tmod_eq_emod_of_nonneg (by omega)]
  omega
end Go.RvC
