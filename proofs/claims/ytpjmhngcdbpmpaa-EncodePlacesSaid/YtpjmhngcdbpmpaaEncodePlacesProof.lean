/- The Go function of 'Rows.EncodePlacesSaid' answers true at every input: distances are as short as they may be. No condition. -/
import Derived.Test.YtpjmhngcdbpmpaaRows
import Derived.WalkKit
import Derived.ProofKit
import Derived.OpenShut
import Derived.Below
import Derived.ChangeSame
import Derived.KernelRfl
import Derived.Test.YtpjmhngcdbpmpaaEncPA
namespace Go.Proofs.Ytpjmhngcdbpmpaa.encodePlaces
open Go.ChangeShapes Go.WideShapes Go.ChangeAt Go.RowKit Go.Sy
theorem own : ownKnob Try.prog.godebug = none := by kernel_rfl
section
variable {H : Type} {enc : TypeId × Value → H} {P : Program}
theorem post_of_below {f : Func} {s : ChangeSpec} {apart fresh handsOn again : Bool} {W W' : World} {args : Array Value} {v : Value} {ds gs : List (DataW H)} {before pa pv : List MemPlace}
    (hW : DataW.Whole enc P f.params.toList s.vars apart W args.toList ds gs before)
    (hres : ∀ (b : Nat) (sp : Nat → Bool) (hd : Bool), DataW.TrodAll enc P W' b sp hd f.resultTypes.toList (v.resultList f.resultTypes.size) (s.fn H (ds ++ gs)).results [])
    (hargs : ∀ sp : Nat → Bool, (∀ p ∈ before, sp p.block = true) → DataW.TrodAll enc P W' 0 sp true f.params.toList args.toList (s.fn H (ds ++ gs)).args pa)
    (hvars : ∀ sp : Nat → Bool, (∀ p ∈ before, sp p.block = true) → DataW.TrodVars enc P W' sp s.vars (s.fn H (ds ++ gs)).vars pv)
    (hps : before = pa ++ pv) (hb : Below W.heap.size W W')
    (hok : ∀ (j : Nat) (t : TypeId) (r : Value), f.resultTypes[j]? = some t → (v.resultList f.resultTypes.size)[j]? = some r → Value.okWide P W' .any 0 t r) :
    s.post enc P f apart fresh handsOn again W args v W' := by
  have hlt : ∀ p ∈ before, p.block < W.heap.size := fun p hp => hW.lt p hp
  have hold : ∀ p ∈ before, (fun b => decide (b < W.heap.size)) p.block = true := fun p hp => by simpa using hlt p hp
  refine ⟨ds, gs, before, [], pa, pv, hW, hres _ _ _, hargs _ hold, hvars _ hold, World.keptBut_mono (fun p hp => ⟨hp, ?_⟩) (hb.frame (· ∈ before)), fun _ => ?_⟩
  · rw [hps, List.mem_append] at hp
    exact Or.inr hp
  · obtain ⟨_, _, _, _, _, hz, hn⟩ := hW
    refine ⟨hok, _, _, ([] ++ pa) ++ pv, ⟨[] ++ pa, pv, trodAll_append (hargs _ (fun _ _ => rfl)) (hres _ _ _), hvars _ (fun _ _ => rfl), rfl, ?_, ?_⟩, ?_⟩
    · intro b off hp
      have hin : MemPlace.cell b off ∈ before := by rw [hps]; simpa using hp
      rw [hb.frozen (hlt _ hin)]
      exact hz b off hin
    · intro ha
      have := hn ha
      rw [hps] at this
      simpa using this
    · intro p hp _
      rw [hps]
      simpa using hp
end

theorem arN {l : List Int} {i : Nat} {lo hi x : Int} {k : IntKind} {n : Nat} (hx : l.getD i 0 = x) (h : lo ≤ x ∧ x ≤ hi) : Ar (envOf l) (fun _ => default) n (.c (.int k (.v i lo hi))) (.int k x) := by
  show Value.int k x = Value.int k (clamp lo hi (l.getD i 0))
  rw [hx, clamp_id h]
theorem pcC {E : Env} {t : Go.Sy.T} {b : Bool} {pc : Pc} (h : t.tr E = b) (hp : pcOk E pc) : pcOk E ((t, b) :: pc) := fun q hq => by
  rcases List.mem_cons.1 hq with rfl | hq
  · exact h
  · exact hp q hq
theorem pcN {E : Env} : pcOk E [] := fun _ h => nomatch h
theorem eqmF {l : List Int} {i : Nat} {o m n : Int} (hx : l.getD i 0 = o) (ro : 0 ≤ o ∧ o ≤ 255) (h : o.tmod m = n) : (Go.Sy.T.bin .eq (.bin .tmod (.v i 0 255) (.lit m)) (.lit n)).tr (envOf l) = true := by
  have e : (Go.Sy.T.bin .tmod (.v i 0 255) (.lit m)).den (envOf l) = n := by
    show (clamp 0 255 (l.getD i 0)).tmod m = n
    rw [hx, clamp_id ro]; exact h
  simp only [T.tr, T.den, O2.den, tb_ne] at e ⊢
  rw [e]; exact beq_self_eq_true n
theorem notF {l : List Int} {i : Nat} {lo hi x : Int} (hx : l.getD i 0 = x) (h : lo ≤ x ∧ x ≤ hi) (h1 : 128 ≤ lo) (h2 : hi ≤ 4294967167) : (Go.Sy.T.bin .eq (.un (.wrap .u32) (.un (.wrap .i8) (.v i lo hi))) (.v i lo hi)).tr (envOf l) = false := by
  have e : (Go.Sy.T.v i lo hi).den (envOf l) = x := by
    show clamp lo hi (l.getD i 0) = x
    rw [hx, clamp_id h]
  simp only [T.tr, T.den, O1.den, O2.den, tb_ne] at e ⊢
  rw [e]
  apply beq_eq_false_iff_ne.2
  simp [IntKind.wrap, IntKind.bits, IntKind.signed]
  omega
theorem sub1 {l : List Int} {i : Nat} {o m : Int} (hx : l.getD i 0 = o) (ro : 0 ≤ o ∧ o ≤ 255) : (Go.Sy.T.bin .sub (.bin .tmod (.v i 0 255) (.lit m)) (.lit 1)).den (envOf l) = o.tmod m - 1 := by
  show (clamp 0 255 (l.getD i 0)).tmod m - 1 = o.tmod m - 1
  rw [hx, clamp_id ro]
theorem leF {l : List Int} {i : Nat} {o m n : Int} (hx : l.getD i 0 = o) (ro : 0 ≤ o ∧ o ≤ 255) (h : n ≤ o.tmod m - 1) : (Go.Sy.T.bin .le (.lit n) (.bin .sub (.bin .tmod (.v i 0 255) (.lit m)) (.lit 1))).tr (envOf l) = true := by
  have e := sub1 (m := m) hx ro
  simp only [T.tr, T.den, O2.den, tb_ne] at e ⊢
  rw [e, leb_t]; exact h
theorem geF {l : List Int} {i : Nat} {o m n : Int} (hx : l.getD i 0 = o) (ro : 0 ≤ o ∧ o ≤ 255) (h : o.tmod m - 1 ≤ n) : (Go.Sy.T.bin .le (.bin .sub (.bin .tmod (.v i 0 255) (.lit m)) (.lit 1)) (.lit n)).tr (envOf l) = true := by
  have e := sub1 (m := m) hx ro
  simp only [T.tr, T.den, O2.den, tb_ne] at e ⊢
  rw [e, leb_t]; exact h
theorem neF {l : List Int} {i : Nat} {o m n : Int} (hx : l.getD i 0 = o) (ro : 0 ≤ o ∧ o ≤ 255) (h : o.tmod m - 1 ≠ n) : (Go.Sy.T.bin .eq (.bin .sub (.bin .tmod (.v i 0 255) (.lit m)) (.lit 1)) (.lit n)).tr (envOf l) = false := by
  have e := sub1 (m := m) hx ro
  simp only [T.tr, T.den, O2.den, tb_ne] at e ⊢
  rw [e]; exact beq_eq_false_iff_ne.2 h
theorem isF {l : List Int} {i : Nat} {lo hi x : Int} (hx : l.getD i 0 = x) (h : lo ≤ x ∧ x ≤ hi) (h1 : 0 ≤ lo ∧ hi ≤ 127 ∨ 4294967168 ≤ lo ∧ hi ≤ 4294967295) : (Go.Sy.T.bin .eq (.un (.wrap .u32) (.un (.wrap .i8) (.v i lo hi))) (.v i lo hi)).tr (envOf l) = true := by
  have e : (Go.Sy.T.v i lo hi).den (envOf l) = x := by
    show clamp lo hi (l.getD i 0) = x
    rw [hx, clamp_id h]
  simp only [T.tr, T.den, O1.den, O2.den, tb_ne] at e ⊢
  rw [e]
  apply beq_iff_eq.2
  simp [IntKind.wrap, IntKind.bits, IntKind.signed]
  omega
theorem tb {x m : Int} (h0 : 0 ≤ x) (hm : 0 < m) : 0 ≤ x.tmod m ∧ x.tmod m < m := ⟨Int.tmod_nonneg m h0, Int.tmod_lt_of_pos x hm⟩
theorem walk (a b s v : Int) (wa : (Lit.int .u8 a).wf = true) (wb : (Lit.int .u8 b).wf = true) (ws : (Lit.int .u8 s).wf = true) (wv : (Lit.int .u32 v).wf = true) (w : World) : Calls Try.prog 7 #[.int .u8 a, .int .u8 b, .int .u8 s, .int .u32 v] w fun e w' => e = .returned (.bool true) ∧ Below w.heap.size w w' := by
  have ra : 0 ≤ a ∧ a ≤ 255 := int_range wa
  have rb : 0 ≤ b ∧ b ≤ 255 := int_range wb
  have rs : 0 ≤ s ∧ s ≤ 255 := int_range ws
  have rv : 0 ≤ v ∧ v ≤ 4294967295 := int_range wv
  have hA : ∀ lo hi : Int, lo ≤ v → v ≤ hi → F2 (Ar (envOf [a, b, s, v]) (fun _ => default) 0) [.c (.int .u8 (.v 0 0 255)), .c (.int .u8 (.v 1 0 255)), .c (.int .u8 (.v 2 0 255)), .c (.int .u32 (.v 3 lo hi))] #[.int .u8 a, .int .u8 b, .int .u8 s, .int .u32 v] := fun lo hi h1 h2 =>
    F2.ofL (vs := [.int .u8 a, .int .u8 b, .int .u8 s, .int .u32 v]) ⟨arN rfl ra, arN rfl rb, arN rfl rs, arN rfl ⟨h1, h2⟩, trivial⟩
  have hZ : v = 0 → F2 (Ar (envOf [a, b, s, v]) (fun _ => default) 0) [.c (.int .u8 (.v 0 0 255)), .c (.int .u8 (.v 1 0 255)), .c (.int .u8 (.v 2 0 255)), .c (lu 0)] #[.int .u8 a, .int .u8 b, .int .u8 s, .int .u32 v] := fun h =>
    F2.ofL (vs := [.int .u8 a, .int .u8 b, .int .u8 s, .int .u32 v]) ⟨arN rfl ra, arN rfl rb, arN rfl rs, by show Value.int .u32 v = Value.int .u32 0; rw [h], trivial⟩
  have hv : v = 0 ∨ (1 ≤ v ∧ v ≤ 127) ∨ (4294967168 ≤ v ∧ v ≤ 4294967295) ∨ (128 ≤ v ∧ v ≤ 2147483647) ∨ (2147483648 ≤ v ∧ v ≤ 4294967167) := by omega
  have ta := tb ra.1 (m := 9) (by decide)
  have tB := tb rb.1 (m := 9) (by decide)
  have ts := tb rs.1 (m := 4) (by decide)
  have ha : a.tmod 9 = 0 ∨ (0 ≤ a.tmod 9 - 1 ∧ a.tmod 9 - 1 ≤ 7 ∧ a.tmod 9 - 1 ≠ 4 ∧ a.tmod 9 - 1 ≠ 5) ∨ a.tmod 9 = 5 ∨ a.tmod 9 = 6 := by omega
  have hb : b.tmod 9 = 0 ∨ b.tmod 9 = 5 ∨ (0 ≤ b.tmod 9 - 1 ∧ b.tmod 9 - 1 ≤ 7 ∧ b.tmod 9 - 1 ≠ 4) := by omega
  have hs : s.tmod 4 = 0 ∨ s.tmod 4 = 1 ∨ s.tmod 4 = 2 ∨ s.tmod 4 = 3 := by omega
  rcases ha with ha | ⟨ha1, ha2, ha3, ha4⟩ | ha | ha
  · rcases hb with hb | hb | ⟨hb1, hb2, hb3⟩
    · exact law700000 rfl (pcC (eqmF (l := [a, b, s, v]) (i := 0) rfl ra ha) (pcC (eqmF (l := [a, b, s, v]) (i := 1) rfl rb hb) pcN)) (hA _ _ rv.1 rv.2) w
    · exact law701000 rfl (pcC (eqmF (l := [a, b, s, v]) (i := 0) rfl ra ha) (pcC (eqmF (l := [a, b, s, v]) (i := 1) rfl rb hb) pcN)) (hA _ _ rv.1 rv.2) w
    · rcases hs with hs | hs | hs | hs
      · exact law702000 rfl (pcC (eqmF (l := [a, b, s, v]) (i := 0) rfl ra ha) (pcC (leF (l := [a, b, s, v]) (i := 1) rfl rb hb1) (pcC (geF (l := [a, b, s, v]) (i := 1) rfl rb hb2) (pcC (neF (l := [a, b, s, v]) (i := 1) rfl rb hb3) (pcC (eqmF (l := [a, b, s, v]) (i := 2) rfl rs hs) pcN))))) (hA _ _ rv.1 rv.2) w
      · exact law702010 rfl (pcC (eqmF (l := [a, b, s, v]) (i := 0) rfl ra ha) (pcC (leF (l := [a, b, s, v]) (i := 1) rfl rb hb1) (pcC (geF (l := [a, b, s, v]) (i := 1) rfl rb hb2) (pcC (neF (l := [a, b, s, v]) (i := 1) rfl rb hb3) (pcC (eqmF (l := [a, b, s, v]) (i := 2) rfl rs hs) pcN))))) (hA _ _ rv.1 rv.2) w
      · exact law702020 rfl (pcC (eqmF (l := [a, b, s, v]) (i := 0) rfl ra ha) (pcC (leF (l := [a, b, s, v]) (i := 1) rfl rb hb1) (pcC (geF (l := [a, b, s, v]) (i := 1) rfl rb hb2) (pcC (neF (l := [a, b, s, v]) (i := 1) rfl rb hb3) (pcC (eqmF (l := [a, b, s, v]) (i := 2) rfl rs hs) pcN))))) (hA _ _ rv.1 rv.2) w
      · exact law702030 rfl (pcC (eqmF (l := [a, b, s, v]) (i := 0) rfl ra ha) (pcC (leF (l := [a, b, s, v]) (i := 1) rfl rb hb1) (pcC (geF (l := [a, b, s, v]) (i := 1) rfl rb hb2) (pcC (neF (l := [a, b, s, v]) (i := 1) rfl rb hb3) (pcC (eqmF (l := [a, b, s, v]) (i := 2) rfl rs hs) pcN))))) (hA _ _ rv.1 rv.2) w
  · rcases hb with hb | hb | ⟨hb1, hb2, hb3⟩
    · rcases hv with hv | ⟨h1, h2⟩ | ⟨h1, h2⟩ | ⟨h1, h2⟩ | ⟨h1, h2⟩
      · exact law710000 rfl (pcC (leF (l := [a, b, s, v]) (i := 0) rfl ra ha1) (pcC (geF (l := [a, b, s, v]) (i := 0) rfl ra ha2) (pcC (neF (l := [a, b, s, v]) (i := 0) rfl ra ha3) (pcC (neF (l := [a, b, s, v]) (i := 0) rfl ra ha4) (pcC (eqmF (l := [a, b, s, v]) (i := 1) rfl rb hb) pcN))))) (hZ hv) w
      · exact law710001 rfl (pcC (leF (l := [a, b, s, v]) (i := 0) rfl ra ha1) (pcC (geF (l := [a, b, s, v]) (i := 0) rfl ra ha2) (pcC (neF (l := [a, b, s, v]) (i := 0) rfl ra ha3) (pcC (neF (l := [a, b, s, v]) (i := 0) rfl ra ha4) (pcC (eqmF (l := [a, b, s, v]) (i := 1) rfl rb hb) (pcC (isF (l := [a, b, s, v]) (i := 3) (x := v) rfl ⟨h1, h2⟩ (by decide)) pcN)))))) (hA _ _ h1 h2) w
      · exact law710002 rfl (pcC (leF (l := [a, b, s, v]) (i := 0) rfl ra ha1) (pcC (geF (l := [a, b, s, v]) (i := 0) rfl ra ha2) (pcC (neF (l := [a, b, s, v]) (i := 0) rfl ra ha3) (pcC (neF (l := [a, b, s, v]) (i := 0) rfl ra ha4) (pcC (eqmF (l := [a, b, s, v]) (i := 1) rfl rb hb) (pcC (isF (l := [a, b, s, v]) (i := 3) (x := v) rfl ⟨h1, h2⟩ (by decide)) pcN)))))) (hA _ _ h1 h2) w
      · exact law710003 rfl (pcC (leF (l := [a, b, s, v]) (i := 0) rfl ra ha1) (pcC (geF (l := [a, b, s, v]) (i := 0) rfl ra ha2) (pcC (neF (l := [a, b, s, v]) (i := 0) rfl ra ha3) (pcC (neF (l := [a, b, s, v]) (i := 0) rfl ra ha4) (pcC (eqmF (l := [a, b, s, v]) (i := 1) rfl rb hb) (pcC (notF (l := [a, b, s, v]) (i := 3) (x := v) rfl ⟨h1, h2⟩ (by decide) (by decide)) pcN)))))) (hA _ _ h1 h2) w
      · exact law710004 rfl (pcC (leF (l := [a, b, s, v]) (i := 0) rfl ra ha1) (pcC (geF (l := [a, b, s, v]) (i := 0) rfl ra ha2) (pcC (neF (l := [a, b, s, v]) (i := 0) rfl ra ha3) (pcC (neF (l := [a, b, s, v]) (i := 0) rfl ra ha4) (pcC (eqmF (l := [a, b, s, v]) (i := 1) rfl rb hb) (pcC (notF (l := [a, b, s, v]) (i := 3) (x := v) rfl ⟨h1, h2⟩ (by decide) (by decide)) pcN)))))) (hA _ _ h1 h2) w
    · rcases hv with hv | ⟨h1, h2⟩ | ⟨h1, h2⟩ | ⟨h1, h2⟩ | ⟨h1, h2⟩
      · exact law711000 rfl (pcC (leF (l := [a, b, s, v]) (i := 0) rfl ra ha1) (pcC (geF (l := [a, b, s, v]) (i := 0) rfl ra ha2) (pcC (neF (l := [a, b, s, v]) (i := 0) rfl ra ha3) (pcC (neF (l := [a, b, s, v]) (i := 0) rfl ra ha4) (pcC (eqmF (l := [a, b, s, v]) (i := 1) rfl rb hb) pcN))))) (hZ hv) w
      · exact law711001 rfl (pcC (leF (l := [a, b, s, v]) (i := 0) rfl ra ha1) (pcC (geF (l := [a, b, s, v]) (i := 0) rfl ra ha2) (pcC (neF (l := [a, b, s, v]) (i := 0) rfl ra ha3) (pcC (neF (l := [a, b, s, v]) (i := 0) rfl ra ha4) (pcC (eqmF (l := [a, b, s, v]) (i := 1) rfl rb hb) (pcC (isF (l := [a, b, s, v]) (i := 3) (x := v) rfl ⟨h1, h2⟩ (by decide)) pcN)))))) (hA _ _ h1 h2) w
      · exact law711002 rfl (pcC (leF (l := [a, b, s, v]) (i := 0) rfl ra ha1) (pcC (geF (l := [a, b, s, v]) (i := 0) rfl ra ha2) (pcC (neF (l := [a, b, s, v]) (i := 0) rfl ra ha3) (pcC (neF (l := [a, b, s, v]) (i := 0) rfl ra ha4) (pcC (eqmF (l := [a, b, s, v]) (i := 1) rfl rb hb) (pcC (isF (l := [a, b, s, v]) (i := 3) (x := v) rfl ⟨h1, h2⟩ (by decide)) pcN)))))) (hA _ _ h1 h2) w
      · exact law711003 rfl (pcC (leF (l := [a, b, s, v]) (i := 0) rfl ra ha1) (pcC (geF (l := [a, b, s, v]) (i := 0) rfl ra ha2) (pcC (neF (l := [a, b, s, v]) (i := 0) rfl ra ha3) (pcC (neF (l := [a, b, s, v]) (i := 0) rfl ra ha4) (pcC (eqmF (l := [a, b, s, v]) (i := 1) rfl rb hb) (pcC (notF (l := [a, b, s, v]) (i := 3) (x := v) rfl ⟨h1, h2⟩ (by decide) (by decide)) pcN)))))) (hA _ _ h1 h2) w
      · exact law711004 rfl (pcC (leF (l := [a, b, s, v]) (i := 0) rfl ra ha1) (pcC (geF (l := [a, b, s, v]) (i := 0) rfl ra ha2) (pcC (neF (l := [a, b, s, v]) (i := 0) rfl ra ha3) (pcC (neF (l := [a, b, s, v]) (i := 0) rfl ra ha4) (pcC (eqmF (l := [a, b, s, v]) (i := 1) rfl rb hb) (pcC (notF (l := [a, b, s, v]) (i := 3) (x := v) rfl ⟨h1, h2⟩ (by decide) (by decide)) pcN)))))) (hA _ _ h1 h2) w
    · rcases hs with hs | hs | hs | hs
      · rcases hv with hv | ⟨h1, h2⟩ | ⟨h1, h2⟩ | ⟨h1, h2⟩ | ⟨h1, h2⟩
        · exact law712000 rfl (pcC (leF (l := [a, b, s, v]) (i := 0) rfl ra ha1) (pcC (geF (l := [a, b, s, v]) (i := 0) rfl ra ha2) (pcC (neF (l := [a, b, s, v]) (i := 0) rfl ra ha3) (pcC (neF (l := [a, b, s, v]) (i := 0) rfl ra ha4) (pcC (leF (l := [a, b, s, v]) (i := 1) rfl rb hb1) (pcC (geF (l := [a, b, s, v]) (i := 1) rfl rb hb2) (pcC (neF (l := [a, b, s, v]) (i := 1) rfl rb hb3) (pcC (eqmF (l := [a, b, s, v]) (i := 2) rfl rs hs) pcN)))))))) (hZ hv) w
        · exact law712001 rfl (pcC (leF (l := [a, b, s, v]) (i := 0) rfl ra ha1) (pcC (geF (l := [a, b, s, v]) (i := 0) rfl ra ha2) (pcC (neF (l := [a, b, s, v]) (i := 0) rfl ra ha3) (pcC (neF (l := [a, b, s, v]) (i := 0) rfl ra ha4) (pcC (leF (l := [a, b, s, v]) (i := 1) rfl rb hb1) (pcC (geF (l := [a, b, s, v]) (i := 1) rfl rb hb2) (pcC (neF (l := [a, b, s, v]) (i := 1) rfl rb hb3) (pcC (eqmF (l := [a, b, s, v]) (i := 2) rfl rs hs) (pcC (isF (l := [a, b, s, v]) (i := 3) (x := v) rfl ⟨h1, h2⟩ (by decide)) pcN))))))))) (hA _ _ h1 h2) w
        · exact law712002 rfl (pcC (leF (l := [a, b, s, v]) (i := 0) rfl ra ha1) (pcC (geF (l := [a, b, s, v]) (i := 0) rfl ra ha2) (pcC (neF (l := [a, b, s, v]) (i := 0) rfl ra ha3) (pcC (neF (l := [a, b, s, v]) (i := 0) rfl ra ha4) (pcC (leF (l := [a, b, s, v]) (i := 1) rfl rb hb1) (pcC (geF (l := [a, b, s, v]) (i := 1) rfl rb hb2) (pcC (neF (l := [a, b, s, v]) (i := 1) rfl rb hb3) (pcC (eqmF (l := [a, b, s, v]) (i := 2) rfl rs hs) (pcC (isF (l := [a, b, s, v]) (i := 3) (x := v) rfl ⟨h1, h2⟩ (by decide)) pcN))))))))) (hA _ _ h1 h2) w
        · exact law712003 rfl (pcC (leF (l := [a, b, s, v]) (i := 0) rfl ra ha1) (pcC (geF (l := [a, b, s, v]) (i := 0) rfl ra ha2) (pcC (neF (l := [a, b, s, v]) (i := 0) rfl ra ha3) (pcC (neF (l := [a, b, s, v]) (i := 0) rfl ra ha4) (pcC (leF (l := [a, b, s, v]) (i := 1) rfl rb hb1) (pcC (geF (l := [a, b, s, v]) (i := 1) rfl rb hb2) (pcC (neF (l := [a, b, s, v]) (i := 1) rfl rb hb3) (pcC (eqmF (l := [a, b, s, v]) (i := 2) rfl rs hs) (pcC (notF (l := [a, b, s, v]) (i := 3) (x := v) rfl ⟨h1, h2⟩ (by decide) (by decide)) pcN))))))))) (hA _ _ h1 h2) w
        · exact law712004 rfl (pcC (leF (l := [a, b, s, v]) (i := 0) rfl ra ha1) (pcC (geF (l := [a, b, s, v]) (i := 0) rfl ra ha2) (pcC (neF (l := [a, b, s, v]) (i := 0) rfl ra ha3) (pcC (neF (l := [a, b, s, v]) (i := 0) rfl ra ha4) (pcC (leF (l := [a, b, s, v]) (i := 1) rfl rb hb1) (pcC (geF (l := [a, b, s, v]) (i := 1) rfl rb hb2) (pcC (neF (l := [a, b, s, v]) (i := 1) rfl rb hb3) (pcC (eqmF (l := [a, b, s, v]) (i := 2) rfl rs hs) (pcC (notF (l := [a, b, s, v]) (i := 3) (x := v) rfl ⟨h1, h2⟩ (by decide) (by decide)) pcN))))))))) (hA _ _ h1 h2) w
      · rcases hv with hv | ⟨h1, h2⟩ | ⟨h1, h2⟩ | ⟨h1, h2⟩ | ⟨h1, h2⟩
        · exact law712010 rfl (pcC (leF (l := [a, b, s, v]) (i := 0) rfl ra ha1) (pcC (geF (l := [a, b, s, v]) (i := 0) rfl ra ha2) (pcC (neF (l := [a, b, s, v]) (i := 0) rfl ra ha3) (pcC (neF (l := [a, b, s, v]) (i := 0) rfl ra ha4) (pcC (leF (l := [a, b, s, v]) (i := 1) rfl rb hb1) (pcC (geF (l := [a, b, s, v]) (i := 1) rfl rb hb2) (pcC (neF (l := [a, b, s, v]) (i := 1) rfl rb hb3) (pcC (eqmF (l := [a, b, s, v]) (i := 2) rfl rs hs) pcN)))))))) (hZ hv) w
        · exact law712011 rfl (pcC (leF (l := [a, b, s, v]) (i := 0) rfl ra ha1) (pcC (geF (l := [a, b, s, v]) (i := 0) rfl ra ha2) (pcC (neF (l := [a, b, s, v]) (i := 0) rfl ra ha3) (pcC (neF (l := [a, b, s, v]) (i := 0) rfl ra ha4) (pcC (leF (l := [a, b, s, v]) (i := 1) rfl rb hb1) (pcC (geF (l := [a, b, s, v]) (i := 1) rfl rb hb2) (pcC (neF (l := [a, b, s, v]) (i := 1) rfl rb hb3) (pcC (eqmF (l := [a, b, s, v]) (i := 2) rfl rs hs) (pcC (isF (l := [a, b, s, v]) (i := 3) (x := v) rfl ⟨h1, h2⟩ (by decide)) pcN))))))))) (hA _ _ h1 h2) w
        · exact law712012 rfl (pcC (leF (l := [a, b, s, v]) (i := 0) rfl ra ha1) (pcC (geF (l := [a, b, s, v]) (i := 0) rfl ra ha2) (pcC (neF (l := [a, b, s, v]) (i := 0) rfl ra ha3) (pcC (neF (l := [a, b, s, v]) (i := 0) rfl ra ha4) (pcC (leF (l := [a, b, s, v]) (i := 1) rfl rb hb1) (pcC (geF (l := [a, b, s, v]) (i := 1) rfl rb hb2) (pcC (neF (l := [a, b, s, v]) (i := 1) rfl rb hb3) (pcC (eqmF (l := [a, b, s, v]) (i := 2) rfl rs hs) (pcC (isF (l := [a, b, s, v]) (i := 3) (x := v) rfl ⟨h1, h2⟩ (by decide)) pcN))))))))) (hA _ _ h1 h2) w
        · exact law712013 rfl (pcC (leF (l := [a, b, s, v]) (i := 0) rfl ra ha1) (pcC (geF (l := [a, b, s, v]) (i := 0) rfl ra ha2) (pcC (neF (l := [a, b, s, v]) (i := 0) rfl ra ha3) (pcC (neF (l := [a, b, s, v]) (i := 0) rfl ra ha4) (pcC (leF (l := [a, b, s, v]) (i := 1) rfl rb hb1) (pcC (geF (l := [a, b, s, v]) (i := 1) rfl rb hb2) (pcC (neF (l := [a, b, s, v]) (i := 1) rfl rb hb3) (pcC (eqmF (l := [a, b, s, v]) (i := 2) rfl rs hs) (pcC (notF (l := [a, b, s, v]) (i := 3) (x := v) rfl ⟨h1, h2⟩ (by decide) (by decide)) pcN))))))))) (hA _ _ h1 h2) w
        · exact law712014 rfl (pcC (leF (l := [a, b, s, v]) (i := 0) rfl ra ha1) (pcC (geF (l := [a, b, s, v]) (i := 0) rfl ra ha2) (pcC (neF (l := [a, b, s, v]) (i := 0) rfl ra ha3) (pcC (neF (l := [a, b, s, v]) (i := 0) rfl ra ha4) (pcC (leF (l := [a, b, s, v]) (i := 1) rfl rb hb1) (pcC (geF (l := [a, b, s, v]) (i := 1) rfl rb hb2) (pcC (neF (l := [a, b, s, v]) (i := 1) rfl rb hb3) (pcC (eqmF (l := [a, b, s, v]) (i := 2) rfl rs hs) (pcC (notF (l := [a, b, s, v]) (i := 3) (x := v) rfl ⟨h1, h2⟩ (by decide) (by decide)) pcN))))))))) (hA _ _ h1 h2) w
      · rcases hv with hv | ⟨h1, h2⟩ | ⟨h1, h2⟩ | ⟨h1, h2⟩ | ⟨h1, h2⟩
        · exact law712020 rfl (pcC (leF (l := [a, b, s, v]) (i := 0) rfl ra ha1) (pcC (geF (l := [a, b, s, v]) (i := 0) rfl ra ha2) (pcC (neF (l := [a, b, s, v]) (i := 0) rfl ra ha3) (pcC (neF (l := [a, b, s, v]) (i := 0) rfl ra ha4) (pcC (leF (l := [a, b, s, v]) (i := 1) rfl rb hb1) (pcC (geF (l := [a, b, s, v]) (i := 1) rfl rb hb2) (pcC (neF (l := [a, b, s, v]) (i := 1) rfl rb hb3) (pcC (eqmF (l := [a, b, s, v]) (i := 2) rfl rs hs) pcN)))))))) (hZ hv) w
        · exact law712021 rfl (pcC (leF (l := [a, b, s, v]) (i := 0) rfl ra ha1) (pcC (geF (l := [a, b, s, v]) (i := 0) rfl ra ha2) (pcC (neF (l := [a, b, s, v]) (i := 0) rfl ra ha3) (pcC (neF (l := [a, b, s, v]) (i := 0) rfl ra ha4) (pcC (leF (l := [a, b, s, v]) (i := 1) rfl rb hb1) (pcC (geF (l := [a, b, s, v]) (i := 1) rfl rb hb2) (pcC (neF (l := [a, b, s, v]) (i := 1) rfl rb hb3) (pcC (eqmF (l := [a, b, s, v]) (i := 2) rfl rs hs) (pcC (isF (l := [a, b, s, v]) (i := 3) (x := v) rfl ⟨h1, h2⟩ (by decide)) pcN))))))))) (hA _ _ h1 h2) w
        · exact law712022 rfl (pcC (leF (l := [a, b, s, v]) (i := 0) rfl ra ha1) (pcC (geF (l := [a, b, s, v]) (i := 0) rfl ra ha2) (pcC (neF (l := [a, b, s, v]) (i := 0) rfl ra ha3) (pcC (neF (l := [a, b, s, v]) (i := 0) rfl ra ha4) (pcC (leF (l := [a, b, s, v]) (i := 1) rfl rb hb1) (pcC (geF (l := [a, b, s, v]) (i := 1) rfl rb hb2) (pcC (neF (l := [a, b, s, v]) (i := 1) rfl rb hb3) (pcC (eqmF (l := [a, b, s, v]) (i := 2) rfl rs hs) (pcC (isF (l := [a, b, s, v]) (i := 3) (x := v) rfl ⟨h1, h2⟩ (by decide)) pcN))))))))) (hA _ _ h1 h2) w
        · exact law712023 rfl (pcC (leF (l := [a, b, s, v]) (i := 0) rfl ra ha1) (pcC (geF (l := [a, b, s, v]) (i := 0) rfl ra ha2) (pcC (neF (l := [a, b, s, v]) (i := 0) rfl ra ha3) (pcC (neF (l := [a, b, s, v]) (i := 0) rfl ra ha4) (pcC (leF (l := [a, b, s, v]) (i := 1) rfl rb hb1) (pcC (geF (l := [a, b, s, v]) (i := 1) rfl rb hb2) (pcC (neF (l := [a, b, s, v]) (i := 1) rfl rb hb3) (pcC (eqmF (l := [a, b, s, v]) (i := 2) rfl rs hs) (pcC (notF (l := [a, b, s, v]) (i := 3) (x := v) rfl ⟨h1, h2⟩ (by decide) (by decide)) pcN))))))))) (hA _ _ h1 h2) w
        · exact law712024 rfl (pcC (leF (l := [a, b, s, v]) (i := 0) rfl ra ha1) (pcC (geF (l := [a, b, s, v]) (i := 0) rfl ra ha2) (pcC (neF (l := [a, b, s, v]) (i := 0) rfl ra ha3) (pcC (neF (l := [a, b, s, v]) (i := 0) rfl ra ha4) (pcC (leF (l := [a, b, s, v]) (i := 1) rfl rb hb1) (pcC (geF (l := [a, b, s, v]) (i := 1) rfl rb hb2) (pcC (neF (l := [a, b, s, v]) (i := 1) rfl rb hb3) (pcC (eqmF (l := [a, b, s, v]) (i := 2) rfl rs hs) (pcC (notF (l := [a, b, s, v]) (i := 3) (x := v) rfl ⟨h1, h2⟩ (by decide) (by decide)) pcN))))))))) (hA _ _ h1 h2) w
      · rcases hv with hv | ⟨h1, h2⟩ | ⟨h1, h2⟩ | ⟨h1, h2⟩ | ⟨h1, h2⟩
        · exact law712030 rfl (pcC (leF (l := [a, b, s, v]) (i := 0) rfl ra ha1) (pcC (geF (l := [a, b, s, v]) (i := 0) rfl ra ha2) (pcC (neF (l := [a, b, s, v]) (i := 0) rfl ra ha3) (pcC (neF (l := [a, b, s, v]) (i := 0) rfl ra ha4) (pcC (leF (l := [a, b, s, v]) (i := 1) rfl rb hb1) (pcC (geF (l := [a, b, s, v]) (i := 1) rfl rb hb2) (pcC (neF (l := [a, b, s, v]) (i := 1) rfl rb hb3) (pcC (eqmF (l := [a, b, s, v]) (i := 2) rfl rs hs) pcN)))))))) (hZ hv) w
        · exact law712031 rfl (pcC (leF (l := [a, b, s, v]) (i := 0) rfl ra ha1) (pcC (geF (l := [a, b, s, v]) (i := 0) rfl ra ha2) (pcC (neF (l := [a, b, s, v]) (i := 0) rfl ra ha3) (pcC (neF (l := [a, b, s, v]) (i := 0) rfl ra ha4) (pcC (leF (l := [a, b, s, v]) (i := 1) rfl rb hb1) (pcC (geF (l := [a, b, s, v]) (i := 1) rfl rb hb2) (pcC (neF (l := [a, b, s, v]) (i := 1) rfl rb hb3) (pcC (eqmF (l := [a, b, s, v]) (i := 2) rfl rs hs) (pcC (isF (l := [a, b, s, v]) (i := 3) (x := v) rfl ⟨h1, h2⟩ (by decide)) pcN))))))))) (hA _ _ h1 h2) w
        · exact law712032 rfl (pcC (leF (l := [a, b, s, v]) (i := 0) rfl ra ha1) (pcC (geF (l := [a, b, s, v]) (i := 0) rfl ra ha2) (pcC (neF (l := [a, b, s, v]) (i := 0) rfl ra ha3) (pcC (neF (l := [a, b, s, v]) (i := 0) rfl ra ha4) (pcC (leF (l := [a, b, s, v]) (i := 1) rfl rb hb1) (pcC (geF (l := [a, b, s, v]) (i := 1) rfl rb hb2) (pcC (neF (l := [a, b, s, v]) (i := 1) rfl rb hb3) (pcC (eqmF (l := [a, b, s, v]) (i := 2) rfl rs hs) (pcC (isF (l := [a, b, s, v]) (i := 3) (x := v) rfl ⟨h1, h2⟩ (by decide)) pcN))))))))) (hA _ _ h1 h2) w
        · exact law712033 rfl (pcC (leF (l := [a, b, s, v]) (i := 0) rfl ra ha1) (pcC (geF (l := [a, b, s, v]) (i := 0) rfl ra ha2) (pcC (neF (l := [a, b, s, v]) (i := 0) rfl ra ha3) (pcC (neF (l := [a, b, s, v]) (i := 0) rfl ra ha4) (pcC (leF (l := [a, b, s, v]) (i := 1) rfl rb hb1) (pcC (geF (l := [a, b, s, v]) (i := 1) rfl rb hb2) (pcC (neF (l := [a, b, s, v]) (i := 1) rfl rb hb3) (pcC (eqmF (l := [a, b, s, v]) (i := 2) rfl rs hs) (pcC (notF (l := [a, b, s, v]) (i := 3) (x := v) rfl ⟨h1, h2⟩ (by decide) (by decide)) pcN))))))))) (hA _ _ h1 h2) w
        · exact law712034 rfl (pcC (leF (l := [a, b, s, v]) (i := 0) rfl ra ha1) (pcC (geF (l := [a, b, s, v]) (i := 0) rfl ra ha2) (pcC (neF (l := [a, b, s, v]) (i := 0) rfl ra ha3) (pcC (neF (l := [a, b, s, v]) (i := 0) rfl ra ha4) (pcC (leF (l := [a, b, s, v]) (i := 1) rfl rb hb1) (pcC (geF (l := [a, b, s, v]) (i := 1) rfl rb hb2) (pcC (neF (l := [a, b, s, v]) (i := 1) rfl rb hb3) (pcC (eqmF (l := [a, b, s, v]) (i := 2) rfl rs hs) (pcC (notF (l := [a, b, s, v]) (i := 3) (x := v) rfl ⟨h1, h2⟩ (by decide) (by decide)) pcN))))))))) (hA _ _ h1 h2) w
  · rcases hb with hb | hb | ⟨hb1, hb2, hb3⟩
    · rcases hv with hv | ⟨h1, h2⟩ | ⟨h1, h2⟩ | ⟨h1, h2⟩ | ⟨h1, h2⟩
      · exact law720000 rfl (pcC (eqmF (l := [a, b, s, v]) (i := 0) rfl ra ha) (pcC (eqmF (l := [a, b, s, v]) (i := 1) rfl rb hb) pcN)) (hZ hv) w
      · exact law720001 rfl (pcC (eqmF (l := [a, b, s, v]) (i := 0) rfl ra ha) (pcC (eqmF (l := [a, b, s, v]) (i := 1) rfl rb hb) (pcC (isF (l := [a, b, s, v]) (i := 3) (x := v) rfl ⟨h1, h2⟩ (by decide)) pcN))) (hA _ _ h1 h2) w
      · exact law720002 rfl (pcC (eqmF (l := [a, b, s, v]) (i := 0) rfl ra ha) (pcC (eqmF (l := [a, b, s, v]) (i := 1) rfl rb hb) (pcC (isF (l := [a, b, s, v]) (i := 3) (x := v) rfl ⟨h1, h2⟩ (by decide)) pcN))) (hA _ _ h1 h2) w
      · exact law720003 rfl (pcC (eqmF (l := [a, b, s, v]) (i := 0) rfl ra ha) (pcC (eqmF (l := [a, b, s, v]) (i := 1) rfl rb hb) (pcC (notF (l := [a, b, s, v]) (i := 3) (x := v) rfl ⟨h1, h2⟩ (by decide) (by decide)) pcN))) (hA _ _ h1 h2) w
      · exact law720004 rfl (pcC (eqmF (l := [a, b, s, v]) (i := 0) rfl ra ha) (pcC (eqmF (l := [a, b, s, v]) (i := 1) rfl rb hb) (pcC (notF (l := [a, b, s, v]) (i := 3) (x := v) rfl ⟨h1, h2⟩ (by decide) (by decide)) pcN))) (hA _ _ h1 h2) w
    · rcases hv with hv | ⟨h1, h2⟩ | ⟨h1, h2⟩ | ⟨h1, h2⟩ | ⟨h1, h2⟩
      · exact law721000 rfl (pcC (eqmF (l := [a, b, s, v]) (i := 0) rfl ra ha) (pcC (eqmF (l := [a, b, s, v]) (i := 1) rfl rb hb) pcN)) (hZ hv) w
      · exact law721001 rfl (pcC (eqmF (l := [a, b, s, v]) (i := 0) rfl ra ha) (pcC (eqmF (l := [a, b, s, v]) (i := 1) rfl rb hb) (pcC (isF (l := [a, b, s, v]) (i := 3) (x := v) rfl ⟨h1, h2⟩ (by decide)) pcN))) (hA _ _ h1 h2) w
      · exact law721002 rfl (pcC (eqmF (l := [a, b, s, v]) (i := 0) rfl ra ha) (pcC (eqmF (l := [a, b, s, v]) (i := 1) rfl rb hb) (pcC (isF (l := [a, b, s, v]) (i := 3) (x := v) rfl ⟨h1, h2⟩ (by decide)) pcN))) (hA _ _ h1 h2) w
      · exact law721003 rfl (pcC (eqmF (l := [a, b, s, v]) (i := 0) rfl ra ha) (pcC (eqmF (l := [a, b, s, v]) (i := 1) rfl rb hb) (pcC (notF (l := [a, b, s, v]) (i := 3) (x := v) rfl ⟨h1, h2⟩ (by decide) (by decide)) pcN))) (hA _ _ h1 h2) w
      · exact law721004 rfl (pcC (eqmF (l := [a, b, s, v]) (i := 0) rfl ra ha) (pcC (eqmF (l := [a, b, s, v]) (i := 1) rfl rb hb) (pcC (notF (l := [a, b, s, v]) (i := 3) (x := v) rfl ⟨h1, h2⟩ (by decide) (by decide)) pcN))) (hA _ _ h1 h2) w
    · rcases hs with hs | hs | hs | hs
      · rcases hv with hv | ⟨h1, h2⟩ | ⟨h1, h2⟩ | ⟨h1, h2⟩ | ⟨h1, h2⟩
        · exact law722000 rfl (pcC (eqmF (l := [a, b, s, v]) (i := 0) rfl ra ha) (pcC (leF (l := [a, b, s, v]) (i := 1) rfl rb hb1) (pcC (geF (l := [a, b, s, v]) (i := 1) rfl rb hb2) (pcC (neF (l := [a, b, s, v]) (i := 1) rfl rb hb3) (pcC (eqmF (l := [a, b, s, v]) (i := 2) rfl rs hs) pcN))))) (hZ hv) w
        · exact law722001 rfl (pcC (eqmF (l := [a, b, s, v]) (i := 0) rfl ra ha) (pcC (leF (l := [a, b, s, v]) (i := 1) rfl rb hb1) (pcC (geF (l := [a, b, s, v]) (i := 1) rfl rb hb2) (pcC (neF (l := [a, b, s, v]) (i := 1) rfl rb hb3) (pcC (eqmF (l := [a, b, s, v]) (i := 2) rfl rs hs) (pcC (isF (l := [a, b, s, v]) (i := 3) (x := v) rfl ⟨h1, h2⟩ (by decide)) pcN)))))) (hA _ _ h1 h2) w
        · exact law722002 rfl (pcC (eqmF (l := [a, b, s, v]) (i := 0) rfl ra ha) (pcC (leF (l := [a, b, s, v]) (i := 1) rfl rb hb1) (pcC (geF (l := [a, b, s, v]) (i := 1) rfl rb hb2) (pcC (neF (l := [a, b, s, v]) (i := 1) rfl rb hb3) (pcC (eqmF (l := [a, b, s, v]) (i := 2) rfl rs hs) (pcC (isF (l := [a, b, s, v]) (i := 3) (x := v) rfl ⟨h1, h2⟩ (by decide)) pcN)))))) (hA _ _ h1 h2) w
        · exact law722003 rfl (pcC (eqmF (l := [a, b, s, v]) (i := 0) rfl ra ha) (pcC (leF (l := [a, b, s, v]) (i := 1) rfl rb hb1) (pcC (geF (l := [a, b, s, v]) (i := 1) rfl rb hb2) (pcC (neF (l := [a, b, s, v]) (i := 1) rfl rb hb3) (pcC (eqmF (l := [a, b, s, v]) (i := 2) rfl rs hs) (pcC (notF (l := [a, b, s, v]) (i := 3) (x := v) rfl ⟨h1, h2⟩ (by decide) (by decide)) pcN)))))) (hA _ _ h1 h2) w
        · exact law722004 rfl (pcC (eqmF (l := [a, b, s, v]) (i := 0) rfl ra ha) (pcC (leF (l := [a, b, s, v]) (i := 1) rfl rb hb1) (pcC (geF (l := [a, b, s, v]) (i := 1) rfl rb hb2) (pcC (neF (l := [a, b, s, v]) (i := 1) rfl rb hb3) (pcC (eqmF (l := [a, b, s, v]) (i := 2) rfl rs hs) (pcC (notF (l := [a, b, s, v]) (i := 3) (x := v) rfl ⟨h1, h2⟩ (by decide) (by decide)) pcN)))))) (hA _ _ h1 h2) w
      · rcases hv with hv | ⟨h1, h2⟩ | ⟨h1, h2⟩ | ⟨h1, h2⟩ | ⟨h1, h2⟩
        · exact law722010 rfl (pcC (eqmF (l := [a, b, s, v]) (i := 0) rfl ra ha) (pcC (leF (l := [a, b, s, v]) (i := 1) rfl rb hb1) (pcC (geF (l := [a, b, s, v]) (i := 1) rfl rb hb2) (pcC (neF (l := [a, b, s, v]) (i := 1) rfl rb hb3) (pcC (eqmF (l := [a, b, s, v]) (i := 2) rfl rs hs) pcN))))) (hZ hv) w
        · exact law722011 rfl (pcC (eqmF (l := [a, b, s, v]) (i := 0) rfl ra ha) (pcC (leF (l := [a, b, s, v]) (i := 1) rfl rb hb1) (pcC (geF (l := [a, b, s, v]) (i := 1) rfl rb hb2) (pcC (neF (l := [a, b, s, v]) (i := 1) rfl rb hb3) (pcC (eqmF (l := [a, b, s, v]) (i := 2) rfl rs hs) (pcC (isF (l := [a, b, s, v]) (i := 3) (x := v) rfl ⟨h1, h2⟩ (by decide)) pcN)))))) (hA _ _ h1 h2) w
        · exact law722012 rfl (pcC (eqmF (l := [a, b, s, v]) (i := 0) rfl ra ha) (pcC (leF (l := [a, b, s, v]) (i := 1) rfl rb hb1) (pcC (geF (l := [a, b, s, v]) (i := 1) rfl rb hb2) (pcC (neF (l := [a, b, s, v]) (i := 1) rfl rb hb3) (pcC (eqmF (l := [a, b, s, v]) (i := 2) rfl rs hs) (pcC (isF (l := [a, b, s, v]) (i := 3) (x := v) rfl ⟨h1, h2⟩ (by decide)) pcN)))))) (hA _ _ h1 h2) w
        · exact law722013 rfl (pcC (eqmF (l := [a, b, s, v]) (i := 0) rfl ra ha) (pcC (leF (l := [a, b, s, v]) (i := 1) rfl rb hb1) (pcC (geF (l := [a, b, s, v]) (i := 1) rfl rb hb2) (pcC (neF (l := [a, b, s, v]) (i := 1) rfl rb hb3) (pcC (eqmF (l := [a, b, s, v]) (i := 2) rfl rs hs) (pcC (notF (l := [a, b, s, v]) (i := 3) (x := v) rfl ⟨h1, h2⟩ (by decide) (by decide)) pcN)))))) (hA _ _ h1 h2) w
        · exact law722014 rfl (pcC (eqmF (l := [a, b, s, v]) (i := 0) rfl ra ha) (pcC (leF (l := [a, b, s, v]) (i := 1) rfl rb hb1) (pcC (geF (l := [a, b, s, v]) (i := 1) rfl rb hb2) (pcC (neF (l := [a, b, s, v]) (i := 1) rfl rb hb3) (pcC (eqmF (l := [a, b, s, v]) (i := 2) rfl rs hs) (pcC (notF (l := [a, b, s, v]) (i := 3) (x := v) rfl ⟨h1, h2⟩ (by decide) (by decide)) pcN)))))) (hA _ _ h1 h2) w
      · rcases hv with hv | ⟨h1, h2⟩ | ⟨h1, h2⟩ | ⟨h1, h2⟩ | ⟨h1, h2⟩
        · exact law722020 rfl (pcC (eqmF (l := [a, b, s, v]) (i := 0) rfl ra ha) (pcC (leF (l := [a, b, s, v]) (i := 1) rfl rb hb1) (pcC (geF (l := [a, b, s, v]) (i := 1) rfl rb hb2) (pcC (neF (l := [a, b, s, v]) (i := 1) rfl rb hb3) (pcC (eqmF (l := [a, b, s, v]) (i := 2) rfl rs hs) pcN))))) (hZ hv) w
        · exact law722021 rfl (pcC (eqmF (l := [a, b, s, v]) (i := 0) rfl ra ha) (pcC (leF (l := [a, b, s, v]) (i := 1) rfl rb hb1) (pcC (geF (l := [a, b, s, v]) (i := 1) rfl rb hb2) (pcC (neF (l := [a, b, s, v]) (i := 1) rfl rb hb3) (pcC (eqmF (l := [a, b, s, v]) (i := 2) rfl rs hs) (pcC (isF (l := [a, b, s, v]) (i := 3) (x := v) rfl ⟨h1, h2⟩ (by decide)) pcN)))))) (hA _ _ h1 h2) w
        · exact law722022 rfl (pcC (eqmF (l := [a, b, s, v]) (i := 0) rfl ra ha) (pcC (leF (l := [a, b, s, v]) (i := 1) rfl rb hb1) (pcC (geF (l := [a, b, s, v]) (i := 1) rfl rb hb2) (pcC (neF (l := [a, b, s, v]) (i := 1) rfl rb hb3) (pcC (eqmF (l := [a, b, s, v]) (i := 2) rfl rs hs) (pcC (isF (l := [a, b, s, v]) (i := 3) (x := v) rfl ⟨h1, h2⟩ (by decide)) pcN)))))) (hA _ _ h1 h2) w
        · exact law722023 rfl (pcC (eqmF (l := [a, b, s, v]) (i := 0) rfl ra ha) (pcC (leF (l := [a, b, s, v]) (i := 1) rfl rb hb1) (pcC (geF (l := [a, b, s, v]) (i := 1) rfl rb hb2) (pcC (neF (l := [a, b, s, v]) (i := 1) rfl rb hb3) (pcC (eqmF (l := [a, b, s, v]) (i := 2) rfl rs hs) (pcC (notF (l := [a, b, s, v]) (i := 3) (x := v) rfl ⟨h1, h2⟩ (by decide) (by decide)) pcN)))))) (hA _ _ h1 h2) w
        · exact law722024 rfl (pcC (eqmF (l := [a, b, s, v]) (i := 0) rfl ra ha) (pcC (leF (l := [a, b, s, v]) (i := 1) rfl rb hb1) (pcC (geF (l := [a, b, s, v]) (i := 1) rfl rb hb2) (pcC (neF (l := [a, b, s, v]) (i := 1) rfl rb hb3) (pcC (eqmF (l := [a, b, s, v]) (i := 2) rfl rs hs) (pcC (notF (l := [a, b, s, v]) (i := 3) (x := v) rfl ⟨h1, h2⟩ (by decide) (by decide)) pcN)))))) (hA _ _ h1 h2) w
      · rcases hv with hv | ⟨h1, h2⟩ | ⟨h1, h2⟩ | ⟨h1, h2⟩ | ⟨h1, h2⟩
        · exact law722030 rfl (pcC (eqmF (l := [a, b, s, v]) (i := 0) rfl ra ha) (pcC (leF (l := [a, b, s, v]) (i := 1) rfl rb hb1) (pcC (geF (l := [a, b, s, v]) (i := 1) rfl rb hb2) (pcC (neF (l := [a, b, s, v]) (i := 1) rfl rb hb3) (pcC (eqmF (l := [a, b, s, v]) (i := 2) rfl rs hs) pcN))))) (hZ hv) w
        · exact law722031 rfl (pcC (eqmF (l := [a, b, s, v]) (i := 0) rfl ra ha) (pcC (leF (l := [a, b, s, v]) (i := 1) rfl rb hb1) (pcC (geF (l := [a, b, s, v]) (i := 1) rfl rb hb2) (pcC (neF (l := [a, b, s, v]) (i := 1) rfl rb hb3) (pcC (eqmF (l := [a, b, s, v]) (i := 2) rfl rs hs) (pcC (isF (l := [a, b, s, v]) (i := 3) (x := v) rfl ⟨h1, h2⟩ (by decide)) pcN)))))) (hA _ _ h1 h2) w
        · exact law722032 rfl (pcC (eqmF (l := [a, b, s, v]) (i := 0) rfl ra ha) (pcC (leF (l := [a, b, s, v]) (i := 1) rfl rb hb1) (pcC (geF (l := [a, b, s, v]) (i := 1) rfl rb hb2) (pcC (neF (l := [a, b, s, v]) (i := 1) rfl rb hb3) (pcC (eqmF (l := [a, b, s, v]) (i := 2) rfl rs hs) (pcC (isF (l := [a, b, s, v]) (i := 3) (x := v) rfl ⟨h1, h2⟩ (by decide)) pcN)))))) (hA _ _ h1 h2) w
        · exact law722033 rfl (pcC (eqmF (l := [a, b, s, v]) (i := 0) rfl ra ha) (pcC (leF (l := [a, b, s, v]) (i := 1) rfl rb hb1) (pcC (geF (l := [a, b, s, v]) (i := 1) rfl rb hb2) (pcC (neF (l := [a, b, s, v]) (i := 1) rfl rb hb3) (pcC (eqmF (l := [a, b, s, v]) (i := 2) rfl rs hs) (pcC (notF (l := [a, b, s, v]) (i := 3) (x := v) rfl ⟨h1, h2⟩ (by decide) (by decide)) pcN)))))) (hA _ _ h1 h2) w
        · exact law722034 rfl (pcC (eqmF (l := [a, b, s, v]) (i := 0) rfl ra ha) (pcC (leF (l := [a, b, s, v]) (i := 1) rfl rb hb1) (pcC (geF (l := [a, b, s, v]) (i := 1) rfl rb hb2) (pcC (neF (l := [a, b, s, v]) (i := 1) rfl rb hb3) (pcC (eqmF (l := [a, b, s, v]) (i := 2) rfl rs hs) (pcC (notF (l := [a, b, s, v]) (i := 3) (x := v) rfl ⟨h1, h2⟩ (by decide) (by decide)) pcN)))))) (hA _ _ h1 h2) w
  · rcases hb with hb | hb | ⟨hb1, hb2, hb3⟩
    · rcases hv with hv | ⟨h1, h2⟩ | ⟨h1, h2⟩ | ⟨h1, h2⟩ | ⟨h1, h2⟩
      · exact law730000 rfl (pcC (eqmF (l := [a, b, s, v]) (i := 0) rfl ra ha) (pcC (eqmF (l := [a, b, s, v]) (i := 1) rfl rb hb) pcN)) (hZ hv) w
      · exact law730001 rfl (pcC (eqmF (l := [a, b, s, v]) (i := 0) rfl ra ha) (pcC (eqmF (l := [a, b, s, v]) (i := 1) rfl rb hb) (pcC (isF (l := [a, b, s, v]) (i := 3) (x := v) rfl ⟨h1, h2⟩ (by decide)) pcN))) (hA _ _ h1 h2) w
      · exact law730002 rfl (pcC (eqmF (l := [a, b, s, v]) (i := 0) rfl ra ha) (pcC (eqmF (l := [a, b, s, v]) (i := 1) rfl rb hb) (pcC (isF (l := [a, b, s, v]) (i := 3) (x := v) rfl ⟨h1, h2⟩ (by decide)) pcN))) (hA _ _ h1 h2) w
      · exact law730003 rfl (pcC (eqmF (l := [a, b, s, v]) (i := 0) rfl ra ha) (pcC (eqmF (l := [a, b, s, v]) (i := 1) rfl rb hb) (pcC (notF (l := [a, b, s, v]) (i := 3) (x := v) rfl ⟨h1, h2⟩ (by decide) (by decide)) pcN))) (hA _ _ h1 h2) w
      · exact law730004 rfl (pcC (eqmF (l := [a, b, s, v]) (i := 0) rfl ra ha) (pcC (eqmF (l := [a, b, s, v]) (i := 1) rfl rb hb) (pcC (notF (l := [a, b, s, v]) (i := 3) (x := v) rfl ⟨h1, h2⟩ (by decide) (by decide)) pcN))) (hA _ _ h1 h2) w
    · rcases hv with hv | ⟨h1, h2⟩ | ⟨h1, h2⟩ | ⟨h1, h2⟩ | ⟨h1, h2⟩
      · exact law731000 rfl (pcC (eqmF (l := [a, b, s, v]) (i := 0) rfl ra ha) (pcC (eqmF (l := [a, b, s, v]) (i := 1) rfl rb hb) pcN)) (hZ hv) w
      · exact law731001 rfl (pcC (eqmF (l := [a, b, s, v]) (i := 0) rfl ra ha) (pcC (eqmF (l := [a, b, s, v]) (i := 1) rfl rb hb) (pcC (isF (l := [a, b, s, v]) (i := 3) (x := v) rfl ⟨h1, h2⟩ (by decide)) pcN))) (hA _ _ h1 h2) w
      · exact law731002 rfl (pcC (eqmF (l := [a, b, s, v]) (i := 0) rfl ra ha) (pcC (eqmF (l := [a, b, s, v]) (i := 1) rfl rb hb) (pcC (isF (l := [a, b, s, v]) (i := 3) (x := v) rfl ⟨h1, h2⟩ (by decide)) pcN))) (hA _ _ h1 h2) w
      · exact law731003 rfl (pcC (eqmF (l := [a, b, s, v]) (i := 0) rfl ra ha) (pcC (eqmF (l := [a, b, s, v]) (i := 1) rfl rb hb) (pcC (notF (l := [a, b, s, v]) (i := 3) (x := v) rfl ⟨h1, h2⟩ (by decide) (by decide)) pcN))) (hA _ _ h1 h2) w
      · exact law731004 rfl (pcC (eqmF (l := [a, b, s, v]) (i := 0) rfl ra ha) (pcC (eqmF (l := [a, b, s, v]) (i := 1) rfl rb hb) (pcC (notF (l := [a, b, s, v]) (i := 3) (x := v) rfl ⟨h1, h2⟩ (by decide) (by decide)) pcN))) (hA _ _ h1 h2) w
    · rcases hs with hs | hs | hs | hs
      · rcases hv with hv | ⟨h1, h2⟩ | ⟨h1, h2⟩ | ⟨h1, h2⟩ | ⟨h1, h2⟩
        · exact law732000 rfl (pcC (eqmF (l := [a, b, s, v]) (i := 0) rfl ra ha) (pcC (leF (l := [a, b, s, v]) (i := 1) rfl rb hb1) (pcC (geF (l := [a, b, s, v]) (i := 1) rfl rb hb2) (pcC (neF (l := [a, b, s, v]) (i := 1) rfl rb hb3) (pcC (eqmF (l := [a, b, s, v]) (i := 2) rfl rs hs) pcN))))) (hZ hv) w
        · exact law732001 rfl (pcC (eqmF (l := [a, b, s, v]) (i := 0) rfl ra ha) (pcC (leF (l := [a, b, s, v]) (i := 1) rfl rb hb1) (pcC (geF (l := [a, b, s, v]) (i := 1) rfl rb hb2) (pcC (neF (l := [a, b, s, v]) (i := 1) rfl rb hb3) (pcC (eqmF (l := [a, b, s, v]) (i := 2) rfl rs hs) (pcC (isF (l := [a, b, s, v]) (i := 3) (x := v) rfl ⟨h1, h2⟩ (by decide)) pcN)))))) (hA _ _ h1 h2) w
        · exact law732002 rfl (pcC (eqmF (l := [a, b, s, v]) (i := 0) rfl ra ha) (pcC (leF (l := [a, b, s, v]) (i := 1) rfl rb hb1) (pcC (geF (l := [a, b, s, v]) (i := 1) rfl rb hb2) (pcC (neF (l := [a, b, s, v]) (i := 1) rfl rb hb3) (pcC (eqmF (l := [a, b, s, v]) (i := 2) rfl rs hs) (pcC (isF (l := [a, b, s, v]) (i := 3) (x := v) rfl ⟨h1, h2⟩ (by decide)) pcN)))))) (hA _ _ h1 h2) w
        · exact law732003 rfl (pcC (eqmF (l := [a, b, s, v]) (i := 0) rfl ra ha) (pcC (leF (l := [a, b, s, v]) (i := 1) rfl rb hb1) (pcC (geF (l := [a, b, s, v]) (i := 1) rfl rb hb2) (pcC (neF (l := [a, b, s, v]) (i := 1) rfl rb hb3) (pcC (eqmF (l := [a, b, s, v]) (i := 2) rfl rs hs) (pcC (notF (l := [a, b, s, v]) (i := 3) (x := v) rfl ⟨h1, h2⟩ (by decide) (by decide)) pcN)))))) (hA _ _ h1 h2) w
        · exact law732004 rfl (pcC (eqmF (l := [a, b, s, v]) (i := 0) rfl ra ha) (pcC (leF (l := [a, b, s, v]) (i := 1) rfl rb hb1) (pcC (geF (l := [a, b, s, v]) (i := 1) rfl rb hb2) (pcC (neF (l := [a, b, s, v]) (i := 1) rfl rb hb3) (pcC (eqmF (l := [a, b, s, v]) (i := 2) rfl rs hs) (pcC (notF (l := [a, b, s, v]) (i := 3) (x := v) rfl ⟨h1, h2⟩ (by decide) (by decide)) pcN)))))) (hA _ _ h1 h2) w
      · rcases hv with hv | ⟨h1, h2⟩ | ⟨h1, h2⟩ | ⟨h1, h2⟩ | ⟨h1, h2⟩
        · exact law732010 rfl (pcC (eqmF (l := [a, b, s, v]) (i := 0) rfl ra ha) (pcC (leF (l := [a, b, s, v]) (i := 1) rfl rb hb1) (pcC (geF (l := [a, b, s, v]) (i := 1) rfl rb hb2) (pcC (neF (l := [a, b, s, v]) (i := 1) rfl rb hb3) (pcC (eqmF (l := [a, b, s, v]) (i := 2) rfl rs hs) pcN))))) (hZ hv) w
        · exact law732011 rfl (pcC (eqmF (l := [a, b, s, v]) (i := 0) rfl ra ha) (pcC (leF (l := [a, b, s, v]) (i := 1) rfl rb hb1) (pcC (geF (l := [a, b, s, v]) (i := 1) rfl rb hb2) (pcC (neF (l := [a, b, s, v]) (i := 1) rfl rb hb3) (pcC (eqmF (l := [a, b, s, v]) (i := 2) rfl rs hs) (pcC (isF (l := [a, b, s, v]) (i := 3) (x := v) rfl ⟨h1, h2⟩ (by decide)) pcN)))))) (hA _ _ h1 h2) w
        · exact law732012 rfl (pcC (eqmF (l := [a, b, s, v]) (i := 0) rfl ra ha) (pcC (leF (l := [a, b, s, v]) (i := 1) rfl rb hb1) (pcC (geF (l := [a, b, s, v]) (i := 1) rfl rb hb2) (pcC (neF (l := [a, b, s, v]) (i := 1) rfl rb hb3) (pcC (eqmF (l := [a, b, s, v]) (i := 2) rfl rs hs) (pcC (isF (l := [a, b, s, v]) (i := 3) (x := v) rfl ⟨h1, h2⟩ (by decide)) pcN)))))) (hA _ _ h1 h2) w
        · exact law732013 rfl (pcC (eqmF (l := [a, b, s, v]) (i := 0) rfl ra ha) (pcC (leF (l := [a, b, s, v]) (i := 1) rfl rb hb1) (pcC (geF (l := [a, b, s, v]) (i := 1) rfl rb hb2) (pcC (neF (l := [a, b, s, v]) (i := 1) rfl rb hb3) (pcC (eqmF (l := [a, b, s, v]) (i := 2) rfl rs hs) (pcC (notF (l := [a, b, s, v]) (i := 3) (x := v) rfl ⟨h1, h2⟩ (by decide) (by decide)) pcN)))))) (hA _ _ h1 h2) w
        · exact law732014 rfl (pcC (eqmF (l := [a, b, s, v]) (i := 0) rfl ra ha) (pcC (leF (l := [a, b, s, v]) (i := 1) rfl rb hb1) (pcC (geF (l := [a, b, s, v]) (i := 1) rfl rb hb2) (pcC (neF (l := [a, b, s, v]) (i := 1) rfl rb hb3) (pcC (eqmF (l := [a, b, s, v]) (i := 2) rfl rs hs) (pcC (notF (l := [a, b, s, v]) (i := 3) (x := v) rfl ⟨h1, h2⟩ (by decide) (by decide)) pcN)))))) (hA _ _ h1 h2) w
      · rcases hv with hv | ⟨h1, h2⟩ | ⟨h1, h2⟩ | ⟨h1, h2⟩ | ⟨h1, h2⟩
        · exact law732020 rfl (pcC (eqmF (l := [a, b, s, v]) (i := 0) rfl ra ha) (pcC (leF (l := [a, b, s, v]) (i := 1) rfl rb hb1) (pcC (geF (l := [a, b, s, v]) (i := 1) rfl rb hb2) (pcC (neF (l := [a, b, s, v]) (i := 1) rfl rb hb3) (pcC (eqmF (l := [a, b, s, v]) (i := 2) rfl rs hs) pcN))))) (hZ hv) w
        · exact law732021 rfl (pcC (eqmF (l := [a, b, s, v]) (i := 0) rfl ra ha) (pcC (leF (l := [a, b, s, v]) (i := 1) rfl rb hb1) (pcC (geF (l := [a, b, s, v]) (i := 1) rfl rb hb2) (pcC (neF (l := [a, b, s, v]) (i := 1) rfl rb hb3) (pcC (eqmF (l := [a, b, s, v]) (i := 2) rfl rs hs) (pcC (isF (l := [a, b, s, v]) (i := 3) (x := v) rfl ⟨h1, h2⟩ (by decide)) pcN)))))) (hA _ _ h1 h2) w
        · exact law732022 rfl (pcC (eqmF (l := [a, b, s, v]) (i := 0) rfl ra ha) (pcC (leF (l := [a, b, s, v]) (i := 1) rfl rb hb1) (pcC (geF (l := [a, b, s, v]) (i := 1) rfl rb hb2) (pcC (neF (l := [a, b, s, v]) (i := 1) rfl rb hb3) (pcC (eqmF (l := [a, b, s, v]) (i := 2) rfl rs hs) (pcC (isF (l := [a, b, s, v]) (i := 3) (x := v) rfl ⟨h1, h2⟩ (by decide)) pcN)))))) (hA _ _ h1 h2) w
        · exact law732023 rfl (pcC (eqmF (l := [a, b, s, v]) (i := 0) rfl ra ha) (pcC (leF (l := [a, b, s, v]) (i := 1) rfl rb hb1) (pcC (geF (l := [a, b, s, v]) (i := 1) rfl rb hb2) (pcC (neF (l := [a, b, s, v]) (i := 1) rfl rb hb3) (pcC (eqmF (l := [a, b, s, v]) (i := 2) rfl rs hs) (pcC (notF (l := [a, b, s, v]) (i := 3) (x := v) rfl ⟨h1, h2⟩ (by decide) (by decide)) pcN)))))) (hA _ _ h1 h2) w
        · exact law732024 rfl (pcC (eqmF (l := [a, b, s, v]) (i := 0) rfl ra ha) (pcC (leF (l := [a, b, s, v]) (i := 1) rfl rb hb1) (pcC (geF (l := [a, b, s, v]) (i := 1) rfl rb hb2) (pcC (neF (l := [a, b, s, v]) (i := 1) rfl rb hb3) (pcC (eqmF (l := [a, b, s, v]) (i := 2) rfl rs hs) (pcC (notF (l := [a, b, s, v]) (i := 3) (x := v) rfl ⟨h1, h2⟩ (by decide) (by decide)) pcN)))))) (hA _ _ h1 h2) w
      · rcases hv with hv | ⟨h1, h2⟩ | ⟨h1, h2⟩ | ⟨h1, h2⟩ | ⟨h1, h2⟩
        · exact law732030 rfl (pcC (eqmF (l := [a, b, s, v]) (i := 0) rfl ra ha) (pcC (leF (l := [a, b, s, v]) (i := 1) rfl rb hb1) (pcC (geF (l := [a, b, s, v]) (i := 1) rfl rb hb2) (pcC (neF (l := [a, b, s, v]) (i := 1) rfl rb hb3) (pcC (eqmF (l := [a, b, s, v]) (i := 2) rfl rs hs) pcN))))) (hZ hv) w
        · exact law732031 rfl (pcC (eqmF (l := [a, b, s, v]) (i := 0) rfl ra ha) (pcC (leF (l := [a, b, s, v]) (i := 1) rfl rb hb1) (pcC (geF (l := [a, b, s, v]) (i := 1) rfl rb hb2) (pcC (neF (l := [a, b, s, v]) (i := 1) rfl rb hb3) (pcC (eqmF (l := [a, b, s, v]) (i := 2) rfl rs hs) (pcC (isF (l := [a, b, s, v]) (i := 3) (x := v) rfl ⟨h1, h2⟩ (by decide)) pcN)))))) (hA _ _ h1 h2) w
        · exact law732032 rfl (pcC (eqmF (l := [a, b, s, v]) (i := 0) rfl ra ha) (pcC (leF (l := [a, b, s, v]) (i := 1) rfl rb hb1) (pcC (geF (l := [a, b, s, v]) (i := 1) rfl rb hb2) (pcC (neF (l := [a, b, s, v]) (i := 1) rfl rb hb3) (pcC (eqmF (l := [a, b, s, v]) (i := 2) rfl rs hs) (pcC (isF (l := [a, b, s, v]) (i := 3) (x := v) rfl ⟨h1, h2⟩ (by decide)) pcN)))))) (hA _ _ h1 h2) w
        · exact law732033 rfl (pcC (eqmF (l := [a, b, s, v]) (i := 0) rfl ra ha) (pcC (leF (l := [a, b, s, v]) (i := 1) rfl rb hb1) (pcC (geF (l := [a, b, s, v]) (i := 1) rfl rb hb2) (pcC (neF (l := [a, b, s, v]) (i := 1) rfl rb hb3) (pcC (eqmF (l := [a, b, s, v]) (i := 2) rfl rs hs) (pcC (notF (l := [a, b, s, v]) (i := 3) (x := v) rfl ⟨h1, h2⟩ (by decide) (by decide)) pcN)))))) (hA _ _ h1 h2) w
        · exact law732034 rfl (pcC (eqmF (l := [a, b, s, v]) (i := 0) rfl ra ha) (pcC (leF (l := [a, b, s, v]) (i := 1) rfl rb hb1) (pcC (geF (l := [a, b, s, v]) (i := 1) rfl rb hb2) (pcC (neF (l := [a, b, s, v]) (i := 1) rfl rb hb3) (pcC (eqmF (l := [a, b, s, v]) (i := 2) rfl rs hs) (pcC (notF (l := [a, b, s, v]) (i := 3) (x := v) rfl ⟨h1, h2⟩ (by decide) (by decide)) pcN)))))) (hA _ _ h1 h2) w

set_option maxRecDepth 100000 in
theorem lifted (os : Os) (started : os.Started) (H : Type) (enc : TypeId × Value → H) :
    ReturnsInHanded {} Try.checked os 7 .any (Rows.encodePlacesSpec.pre6 enc Try.prog Try.f7 Rows.encodePlacesRow.domain false) (Rows.encodePlacesSpec.post enc Try.prog Try.f7 false true false false) := by
  refine returnsInHanded_of_change (C := Try.checked) own started (by kernel_rfl) Try.func7
    (ChangeSpec.witness6 (enc := enc) (C := Try.checked) false ⟨#[], #[.int .u8 0, .int .u8 0, .int .u8 0, .int .u32 0], []⟩ 8 (by kernel_rfl) (by kernel_rfl) (by kernel_rfl) (by kernel_rfl)) ?_
  intro W base args ds gs before hval0 hW hcnd _
  have hval : ∀ (j : Nat) t v, Try.f7.params[j]? = some t → args[j]? = some v → Value.okWide Try.prog W .any base t v := hval0
  have hW' := hW
  obtain ⟨p, q, hA0, hV, rfl, hfz, hnd⟩ := hW
  have hA : DataW.TrodAll enc Try.prog W 0 (fun _ => true) true Try.f7.params.toList args.toList ds p := hA0
  rw [Try.params7] at hA hval
  obtain ⟨v0, vs0, d0, ds0, p0, q0, hargs, rfl, rfl, h0, r0⟩ := trodAll_cons hA
  obtain ⟨v1, vs1, d1, ds1, p1, q1, rfl, rfl, rfl, h1, r1⟩ := trodAll_cons r0
  obtain ⟨v2, vs2, d2, ds2, p2, q2, rfl, rfl, rfl, h2, r2⟩ := trodAll_cons r1
  obtain ⟨v3, vs3, d3, ds3, p3, q3, rfl, rfl, rfl, h3, r3⟩ := trodAll_cons r2
  obtain ⟨rfl, rfl, rfl⟩ := trodAll_nil r3
  obtain rfl : args = #[v0, v1, v2, v3] := by cases args; simp_all
  obtain ⟨rfl, rfl⟩ := trodVars_none hV
  obtain ⟨a, rfl, rfl, rfl, wa⟩ := open_int Try.underlying5 (hval 0 5 v0 rfl rfl) h0
  obtain ⟨b, rfl, rfl, rfl, wb⟩ := open_int Try.underlying5 (hval 1 5 v1 rfl rfl) h1
  obtain ⟨s, rfl, rfl, rfl, ws⟩ := open_int Try.underlying5 (hval 2 5 v2 rfl rfl) h2
  obtain ⟨v, rfl, rfl, rfl, wv⟩ := open_int Try.underlying22 (hval 3 22 v3 rfl rfl) h3
  clear hA0 hval0
  simp only [List.append_nil] at hW'
  refine (walk a b s v wa wb ws wv W).mono fun e W' ⟨he, hg⟩ => ?_
  subst he
  exact ⟨_, rfl, post_of_below (pa := []) (pv := []) hW' (fun _ _ _ => (trodAll_cons_mk (shut_bool Try.underlying4 _) trodAll_mk0)) (fun _ _ => (trodAll_cons_mk (shut_int Try.underlying5 wa) (trodAll_cons_mk (shut_int Try.underlying5 wb) (trodAll_cons_mk (shut_int Try.underlying5 ws) (trodAll_cons_mk (shut_int Try.underlying22 wv) trodAll_mk0))))) (fun _ _ => rfl) rfl
    hg (ok_one (by kernel_rfl) rfl (okWide_bool_mk Try.underlying4 _))⟩

theorem over : Rows.encodePlacesRow.holds Try.pinned (OpenSpec.ofChange Rows.encodePlacesSpec) :=
  OpenClaim.holds_of_wide 7 Try.f7 rfl rfl rfl rfl rfl rfl rfl ⟨rfl, rfl, rfl, rfl, rfl⟩ rfl rfl rfl rfl rfl (by kernel_rfl) Try.func7 (by kernel_rfl)
    (of_decide_eq_true (by kernel_rfl)) (by unfold Func.isWrapper; first | (rw [if_pos (by decide +kernel)]; kernel_rfl) | (rw [if_neg (by decide +kernel)]; exact ⟨rfl, rfl⟩))
    (fun os started H enc _ => lifted os started H enc)
theorem proved : Rows.EncodePlacesSaid :=
  over
#print axioms proved
end Go.Proofs.Ytpjmhngcdbpmpaa.encodePlaces
