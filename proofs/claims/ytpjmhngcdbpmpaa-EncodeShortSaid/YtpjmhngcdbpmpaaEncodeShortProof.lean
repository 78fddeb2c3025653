/- The Go function of 'Rows.EncodeShortSaid' answers true at every input: numbers that fit into a byte are written as one, where there is such a way. No condition. -/
import Derived.Test.YtpjmhngcdbpmpaaRows
import Derived.WalkKit
import Derived.ProofKit
import Derived.OpenShut
import Derived.Below
import Derived.ChangeSame
import Derived.KernelRfl
import Derived.Test.YtpjmhngcdbpmpaaEncSA
namespace Go.Proofs.Ytpjmhngcdbpmpaa.encodeShort
open Go.ChangeShapes Go.WideShapes Go.ChangeAt Go.RowKit Go.Sy
theorem own : ownKnob Try.prog.godebug = none := by kernel_rfl
section
variable {H : Type} {enc : TypeId × Value → H} {P : Program}
theorem post_of_below {f : Func} {s : ChangeSpec} {apart fresh handsOn again : Bool} {W W' : World} {args : Array Value} {v : Value} {ds gs : List (DataW H)} {before pa pv : List MemPlace}
    (hW : DataW.Whole enc P f.params.toList s.vars apart W args.toList ds gs before)
    (hres : ∀ (b : Nat) (sp : Nat → Bool) (hd : Bool), DataW.TrodAll enc P W' b sp hd f.resultTypes.toList (v.resultList f.resultTypes.size) (s.fn H (ds ++ gs)).results [])
    (hargs : ∀ sp : Nat → Bool, (∀ p ∈ before, sp p.block = true) → DataW.TrodAll enc P W' 0 sp true f.params.toList args.toList (s.fn H (ds ++ gs)).args pa)
    (hvars : ∀ sp : Nat → Bool, (∀ p ∈ before, sp p.block = true) → DataW.TrodVars enc P W' sp s.vars (s.fn H (ds ++ gs)).vars pv)
    (hps : before = pa ++ pv) (hb : Below W.heap.size W W')
    (hok : ∀ (j : Nat) (t : TypeId) (r : Value), f.resultTypes[j]? = some t → (v.resultList f.resultTypes.size)[j]? = some r → Value.okWide P W' .any 0 t r) :
    s.post enc P f apart fresh handsOn again W args v W' := by
  have hlt : ∀ p ∈ before, p.block < W.heap.size := fun p hp => hW.lt p hp
  have hold : ∀ p ∈ before, (fun b => decide (b < W.heap.size)) p.block = true := fun p hp => by simpa using hlt p hp
  refine ⟨ds, gs, before, [], pa, pv, hW, hres _ _ _, hargs _ hold, hvars _ hold, World.keptBut_mono (fun p hp => ⟨hp, ?_⟩) (hb.frame (· ∈ before)), fun _ => ?_⟩
  · rw [hps, List.mem_append] at hp
    exact Or.inr hp
  · obtain ⟨_, _, _, _, _, hz, hn⟩ := hW
    refine ⟨hok, _, _, ([] ++ pa) ++ pv, ⟨[] ++ pa, pv, trodAll_append (hargs _ (fun _ _ => rfl)) (hres _ _ _), hvars _ (fun _ _ => rfl), rfl, ?_, ?_⟩, ?_⟩
    · intro b off hp
      have hin : MemPlace.cell b off ∈ before := by rw [hps]; simpa using hp
      rw [hb.frozen (hlt _ hin)]
      exact hz b off hin
    · intro ha
      have := hn ha
      rw [hps] at this
      simpa using this
    · intro p hp _
      rw [hps]
      simpa using hp
end

theorem arN {l : List Int} {i : Nat} {lo hi x : Int} {k : IntKind} {n : Nat} (hx : l.getD i 0 = x) (h : lo ≤ x ∧ x ≤ hi) : Ar (envOf l) (fun _ => default) n (.c (.int k (.v i lo hi))) (.int k x) := by
  show Value.int k x = Value.int k (clamp lo hi (l.getD i 0))
  rw [hx, clamp_id h]
theorem pcC {E : Env} {t : Go.Sy.T} {b : Bool} {pc : Pc} (h : t.tr E = b) (hp : pcOk E pc) : pcOk E ((t, b) :: pc) := fun q hq => by
  rcases List.mem_cons.1 hq with rfl | hq
  · exact h
  · exact hp q hq
theorem pcN {E : Env} : pcOk E [] := fun _ h => nomatch h
theorem eqmF {l : List Int} {i : Nat} {o m n : Int} (hx : l.getD i 0 = o) (ro : 0 ≤ o ∧ o ≤ 255) (h : o.tmod m = n) : (Go.Sy.T.bin .eq (.bin .tmod (.v i 0 255) (.lit m)) (.lit n)).tr (envOf l) = true := by
  have e : (Go.Sy.T.bin .tmod (.v i 0 255) (.lit m)).den (envOf l) = n := by
    show (clamp 0 255 (l.getD i 0)).tmod m = n
    rw [hx, clamp_id ro]; exact h
  simp only [T.tr, T.den, O2.den, tb_ne] at e ⊢
  rw [e]; exact beq_self_eq_true n
theorem notF {l : List Int} {i : Nat} {lo hi x : Int} (hx : l.getD i 0 = x) (h : lo ≤ x ∧ x ≤ hi) (h1 : 128 ≤ lo) (h2 : hi ≤ 4294967167) : (Go.Sy.T.bin .eq (.un (.wrap .u32) (.un (.wrap .i8) (.v i lo hi))) (.v i lo hi)).tr (envOf l) = false := by
  have e : (Go.Sy.T.v i lo hi).den (envOf l) = x := by
    show clamp lo hi (l.getD i 0) = x
    rw [hx, clamp_id h]
  simp only [T.tr, T.den, O1.den, O2.den, tb_ne] at e ⊢
  rw [e]
  apply beq_eq_false_iff_ne.2
  simp [IntKind.wrap, IntKind.bits, IntKind.signed]
  omega
theorem all16 (x : Int) (h0 : 0 ≤ x) : x.tmod 16 = 0 ∨ x.tmod 16 = 1 ∨ x.tmod 16 = 2 ∨ x.tmod 16 = 3 ∨ x.tmod 16 = 4 ∨ x.tmod 16 = 5 ∨ x.tmod 16 = 6 ∨ x.tmod 16 = 7 ∨ x.tmod 16 = 8 ∨ x.tmod 16 = 9 ∨ x.tmod 16 = 10 ∨ x.tmod 16 = 11 ∨ x.tmod 16 = 12 ∨ x.tmod 16 = 13 ∨ x.tmod 16 = 14 ∨ x.tmod 16 = 15 := by
  have h1 := Int.tmod_lt_of_pos x (b := 16) (by decide)
  have h2 := Int.tmod_nonneg (16 : Int) h0
  omega
theorem m8 {a c d : Int} (h0 : 0 ≤ a) (h : a.tmod 16 = c) (hd : c % 8 = d) : a.tmod 8 = d := by
  rw [Int.tmod_eq_emod_of_nonneg h0] at h ⊢
  omega
theorem walk (a b v : Int) (wa : (Lit.int .u8 a).wf = true) (wb : (Lit.int .u8 b).wf = true) (wv : (Lit.int .u32 v).wf = true) (w : World) : Calls Try.prog 6 #[.int .u8 a, .int .u8 b, .int .u32 v] w fun e w' => e = .returned (.bool true) ∧ Below w.heap.size w w' := by
  have ra : 0 ≤ a ∧ a ≤ 255 := int_range wa
  have rb : 0 ≤ b ∧ b ≤ 255 := int_range wb
  have rv : 0 ≤ v ∧ v ≤ 4294967295 := int_range wv
  have hA : ∀ lo hi : Int, lo ≤ v → v ≤ hi → F2 (Ar (envOf [a, b, v]) (fun _ => default) 0) [.c (.int .u8 (.v 0 0 255)), .c (.int .u8 (.v 1 0 255)), .c (.int .u32 (.v 2 lo hi))] #[.int .u8 a, .int .u8 b, .int .u32 v] := fun lo hi h1 h2 =>
    F2.ofL (vs := [.int .u8 a, .int .u8 b, .int .u32 v]) ⟨arN rfl ra, arN rfl rb, arN rfl ⟨h1, h2⟩, trivial⟩
  have hv : (0 ≤ v ∧ v ≤ 127) ∨ (4294967168 ≤ v ∧ v ≤ 4294967295) ∨ (128 ≤ v ∧ v ≤ 2147483647) ∨ (2147483648 ≤ v ∧ v ≤ 4294967167) := by omega
  rcases all16 a ra.1 with h | h | h | h | h | h | h | h | h | h | h | h | h | h | h | h
  · rcases hv with ⟨h1, h2⟩ | ⟨h1, h2⟩ | ⟨h1, h2⟩ | ⟨h1, h2⟩
    · exact law60000 rfl (pcC (eqmF (l := [a, b, v]) (i := 0) (m := 8) (n := 0) rfl ra (m8 (c := 0) (d := 0) ra.1 h (by decide))) (pcC (eqmF (l := [a, b, v]) (i := 0) rfl ra h) pcN)) (hA _ _ h1 h2) w
    · exact law60001 rfl (pcC (eqmF (l := [a, b, v]) (i := 0) (m := 8) (n := 0) rfl ra (m8 (c := 0) (d := 0) ra.1 h (by decide))) (pcC (eqmF (l := [a, b, v]) (i := 0) rfl ra h) pcN)) (hA _ _ h1 h2) w
    · exact law60002 rfl (pcC (eqmF (l := [a, b, v]) (i := 0) (m := 8) (n := 0) rfl ra (m8 (c := 0) (d := 0) ra.1 h (by decide))) (pcC (eqmF (l := [a, b, v]) (i := 0) rfl ra h) (pcC (notF (l := [a, b, v]) (i := 2) (x := v) rfl ⟨h1, h2⟩ (by decide) (by decide)) pcN))) (hA _ _ h1 h2) w
    · exact law60003 rfl (pcC (eqmF (l := [a, b, v]) (i := 0) (m := 8) (n := 0) rfl ra (m8 (c := 0) (d := 0) ra.1 h (by decide))) (pcC (eqmF (l := [a, b, v]) (i := 0) rfl ra h) (pcC (notF (l := [a, b, v]) (i := 2) (x := v) rfl ⟨h1, h2⟩ (by decide) (by decide)) pcN))) (hA _ _ h1 h2) w
  · rcases hv with ⟨h1, h2⟩ | ⟨h1, h2⟩ | ⟨h1, h2⟩ | ⟨h1, h2⟩
    · exact law60010 rfl (pcC (eqmF (l := [a, b, v]) (i := 0) (m := 8) (n := 1) rfl ra (m8 (c := 1) (d := 1) ra.1 h (by decide))) (pcC (eqmF (l := [a, b, v]) (i := 0) rfl ra h) pcN)) (hA _ _ h1 h2) w
    · exact law60011 rfl (pcC (eqmF (l := [a, b, v]) (i := 0) (m := 8) (n := 1) rfl ra (m8 (c := 1) (d := 1) ra.1 h (by decide))) (pcC (eqmF (l := [a, b, v]) (i := 0) rfl ra h) pcN)) (hA _ _ h1 h2) w
    · exact law60012 rfl (pcC (eqmF (l := [a, b, v]) (i := 0) (m := 8) (n := 1) rfl ra (m8 (c := 1) (d := 1) ra.1 h (by decide))) (pcC (eqmF (l := [a, b, v]) (i := 0) rfl ra h) (pcC (notF (l := [a, b, v]) (i := 2) (x := v) rfl ⟨h1, h2⟩ (by decide) (by decide)) pcN))) (hA _ _ h1 h2) w
    · exact law60013 rfl (pcC (eqmF (l := [a, b, v]) (i := 0) (m := 8) (n := 1) rfl ra (m8 (c := 1) (d := 1) ra.1 h (by decide))) (pcC (eqmF (l := [a, b, v]) (i := 0) rfl ra h) (pcC (notF (l := [a, b, v]) (i := 2) (x := v) rfl ⟨h1, h2⟩ (by decide) (by decide)) pcN))) (hA _ _ h1 h2) w
  · rcases hv with ⟨h1, h2⟩ | ⟨h1, h2⟩ | ⟨h1, h2⟩ | ⟨h1, h2⟩
    · exact law60020 rfl (pcC (eqmF (l := [a, b, v]) (i := 0) (m := 8) (n := 2) rfl ra (m8 (c := 2) (d := 2) ra.1 h (by decide))) (pcC (eqmF (l := [a, b, v]) (i := 0) rfl ra h) pcN)) (hA _ _ h1 h2) w
    · exact law60021 rfl (pcC (eqmF (l := [a, b, v]) (i := 0) (m := 8) (n := 2) rfl ra (m8 (c := 2) (d := 2) ra.1 h (by decide))) (pcC (eqmF (l := [a, b, v]) (i := 0) rfl ra h) pcN)) (hA _ _ h1 h2) w
    · exact law60022 rfl (pcC (eqmF (l := [a, b, v]) (i := 0) (m := 8) (n := 2) rfl ra (m8 (c := 2) (d := 2) ra.1 h (by decide))) (pcC (eqmF (l := [a, b, v]) (i := 0) rfl ra h) (pcC (notF (l := [a, b, v]) (i := 2) (x := v) rfl ⟨h1, h2⟩ (by decide) (by decide)) pcN))) (hA _ _ h1 h2) w
    · exact law60023 rfl (pcC (eqmF (l := [a, b, v]) (i := 0) (m := 8) (n := 2) rfl ra (m8 (c := 2) (d := 2) ra.1 h (by decide))) (pcC (eqmF (l := [a, b, v]) (i := 0) rfl ra h) (pcC (notF (l := [a, b, v]) (i := 2) (x := v) rfl ⟨h1, h2⟩ (by decide) (by decide)) pcN))) (hA _ _ h1 h2) w
  · rcases hv with ⟨h1, h2⟩ | ⟨h1, h2⟩ | ⟨h1, h2⟩ | ⟨h1, h2⟩
    · exact law60030 rfl (pcC (eqmF (l := [a, b, v]) (i := 0) (m := 8) (n := 3) rfl ra (m8 (c := 3) (d := 3) ra.1 h (by decide))) (pcC (eqmF (l := [a, b, v]) (i := 0) rfl ra h) pcN)) (hA _ _ h1 h2) w
    · exact law60031 rfl (pcC (eqmF (l := [a, b, v]) (i := 0) (m := 8) (n := 3) rfl ra (m8 (c := 3) (d := 3) ra.1 h (by decide))) (pcC (eqmF (l := [a, b, v]) (i := 0) rfl ra h) pcN)) (hA _ _ h1 h2) w
    · exact law60032 rfl (pcC (eqmF (l := [a, b, v]) (i := 0) (m := 8) (n := 3) rfl ra (m8 (c := 3) (d := 3) ra.1 h (by decide))) (pcC (eqmF (l := [a, b, v]) (i := 0) rfl ra h) (pcC (notF (l := [a, b, v]) (i := 2) (x := v) rfl ⟨h1, h2⟩ (by decide) (by decide)) pcN))) (hA _ _ h1 h2) w
    · exact law60033 rfl (pcC (eqmF (l := [a, b, v]) (i := 0) (m := 8) (n := 3) rfl ra (m8 (c := 3) (d := 3) ra.1 h (by decide))) (pcC (eqmF (l := [a, b, v]) (i := 0) rfl ra h) (pcC (notF (l := [a, b, v]) (i := 2) (x := v) rfl ⟨h1, h2⟩ (by decide) (by decide)) pcN))) (hA _ _ h1 h2) w
  · rcases hv with ⟨h1, h2⟩ | ⟨h1, h2⟩ | ⟨h1, h2⟩ | ⟨h1, h2⟩
    · exact law60040 rfl (pcC (eqmF (l := [a, b, v]) (i := 0) (m := 8) (n := 4) rfl ra (m8 (c := 4) (d := 4) ra.1 h (by decide))) (pcC (eqmF (l := [a, b, v]) (i := 0) rfl ra h) pcN)) (hA _ _ h1 h2) w
    · exact law60041 rfl (pcC (eqmF (l := [a, b, v]) (i := 0) (m := 8) (n := 4) rfl ra (m8 (c := 4) (d := 4) ra.1 h (by decide))) (pcC (eqmF (l := [a, b, v]) (i := 0) rfl ra h) pcN)) (hA _ _ h1 h2) w
    · exact law60042 rfl (pcC (eqmF (l := [a, b, v]) (i := 0) (m := 8) (n := 4) rfl ra (m8 (c := 4) (d := 4) ra.1 h (by decide))) (pcC (eqmF (l := [a, b, v]) (i := 0) rfl ra h) (pcC (notF (l := [a, b, v]) (i := 2) (x := v) rfl ⟨h1, h2⟩ (by decide) (by decide)) pcN))) (hA _ _ h1 h2) w
    · exact law60043 rfl (pcC (eqmF (l := [a, b, v]) (i := 0) (m := 8) (n := 4) rfl ra (m8 (c := 4) (d := 4) ra.1 h (by decide))) (pcC (eqmF (l := [a, b, v]) (i := 0) rfl ra h) (pcC (notF (l := [a, b, v]) (i := 2) (x := v) rfl ⟨h1, h2⟩ (by decide) (by decide)) pcN))) (hA _ _ h1 h2) w
  · rcases hv with ⟨h1, h2⟩ | ⟨h1, h2⟩ | ⟨h1, h2⟩ | ⟨h1, h2⟩
    · exact law60050 rfl (pcC (eqmF (l := [a, b, v]) (i := 0) (m := 8) (n := 5) rfl ra (m8 (c := 5) (d := 5) ra.1 h (by decide))) (pcC (eqmF (l := [a, b, v]) (i := 0) rfl ra h) pcN)) (hA _ _ h1 h2) w
    · exact law60051 rfl (pcC (eqmF (l := [a, b, v]) (i := 0) (m := 8) (n := 5) rfl ra (m8 (c := 5) (d := 5) ra.1 h (by decide))) (pcC (eqmF (l := [a, b, v]) (i := 0) rfl ra h) pcN)) (hA _ _ h1 h2) w
    · exact law60052 rfl (pcC (eqmF (l := [a, b, v]) (i := 0) (m := 8) (n := 5) rfl ra (m8 (c := 5) (d := 5) ra.1 h (by decide))) (pcC (eqmF (l := [a, b, v]) (i := 0) rfl ra h) (pcC (notF (l := [a, b, v]) (i := 2) (x := v) rfl ⟨h1, h2⟩ (by decide) (by decide)) pcN))) (hA _ _ h1 h2) w
    · exact law60053 rfl (pcC (eqmF (l := [a, b, v]) (i := 0) (m := 8) (n := 5) rfl ra (m8 (c := 5) (d := 5) ra.1 h (by decide))) (pcC (eqmF (l := [a, b, v]) (i := 0) rfl ra h) (pcC (notF (l := [a, b, v]) (i := 2) (x := v) rfl ⟨h1, h2⟩ (by decide) (by decide)) pcN))) (hA _ _ h1 h2) w
  · rcases hv with ⟨h1, h2⟩ | ⟨h1, h2⟩ | ⟨h1, h2⟩ | ⟨h1, h2⟩
    · exact law60060 rfl (pcC (eqmF (l := [a, b, v]) (i := 0) (m := 8) (n := 6) rfl ra (m8 (c := 6) (d := 6) ra.1 h (by decide))) (pcC (eqmF (l := [a, b, v]) (i := 0) rfl ra h) pcN)) (hA _ _ h1 h2) w
    · exact law60061 rfl (pcC (eqmF (l := [a, b, v]) (i := 0) (m := 8) (n := 6) rfl ra (m8 (c := 6) (d := 6) ra.1 h (by decide))) (pcC (eqmF (l := [a, b, v]) (i := 0) rfl ra h) pcN)) (hA _ _ h1 h2) w
    · exact law60062 rfl (pcC (eqmF (l := [a, b, v]) (i := 0) (m := 8) (n := 6) rfl ra (m8 (c := 6) (d := 6) ra.1 h (by decide))) (pcC (eqmF (l := [a, b, v]) (i := 0) rfl ra h) (pcC (notF (l := [a, b, v]) (i := 2) (x := v) rfl ⟨h1, h2⟩ (by decide) (by decide)) pcN))) (hA _ _ h1 h2) w
    · exact law60063 rfl (pcC (eqmF (l := [a, b, v]) (i := 0) (m := 8) (n := 6) rfl ra (m8 (c := 6) (d := 6) ra.1 h (by decide))) (pcC (eqmF (l := [a, b, v]) (i := 0) rfl ra h) (pcC (notF (l := [a, b, v]) (i := 2) (x := v) rfl ⟨h1, h2⟩ (by decide) (by decide)) pcN))) (hA _ _ h1 h2) w
  · rcases hv with ⟨h1, h2⟩ | ⟨h1, h2⟩ | ⟨h1, h2⟩ | ⟨h1, h2⟩
    · exact law60070 rfl (pcC (eqmF (l := [a, b, v]) (i := 0) (m := 8) (n := 7) rfl ra (m8 (c := 7) (d := 7) ra.1 h (by decide))) (pcC (eqmF (l := [a, b, v]) (i := 0) rfl ra h) pcN)) (hA _ _ h1 h2) w
    · exact law60071 rfl (pcC (eqmF (l := [a, b, v]) (i := 0) (m := 8) (n := 7) rfl ra (m8 (c := 7) (d := 7) ra.1 h (by decide))) (pcC (eqmF (l := [a, b, v]) (i := 0) rfl ra h) pcN)) (hA _ _ h1 h2) w
    · exact law60072 rfl (pcC (eqmF (l := [a, b, v]) (i := 0) (m := 8) (n := 7) rfl ra (m8 (c := 7) (d := 7) ra.1 h (by decide))) (pcC (eqmF (l := [a, b, v]) (i := 0) rfl ra h) (pcC (notF (l := [a, b, v]) (i := 2) (x := v) rfl ⟨h1, h2⟩ (by decide) (by decide)) pcN))) (hA _ _ h1 h2) w
    · exact law60073 rfl (pcC (eqmF (l := [a, b, v]) (i := 0) (m := 8) (n := 7) rfl ra (m8 (c := 7) (d := 7) ra.1 h (by decide))) (pcC (eqmF (l := [a, b, v]) (i := 0) rfl ra h) (pcC (notF (l := [a, b, v]) (i := 2) (x := v) rfl ⟨h1, h2⟩ (by decide) (by decide)) pcN))) (hA _ _ h1 h2) w
  · rcases hv with ⟨h1, h2⟩ | ⟨h1, h2⟩ | ⟨h1, h2⟩ | ⟨h1, h2⟩
    · exact law60080 rfl (pcC (eqmF (l := [a, b, v]) (i := 0) (m := 8) (n := 0) rfl ra (m8 (c := 8) (d := 0) ra.1 h (by decide))) (pcC (eqmF (l := [a, b, v]) (i := 0) rfl ra h) pcN)) (hA _ _ h1 h2) w
    · exact law60081 rfl (pcC (eqmF (l := [a, b, v]) (i := 0) (m := 8) (n := 0) rfl ra (m8 (c := 8) (d := 0) ra.1 h (by decide))) (pcC (eqmF (l := [a, b, v]) (i := 0) rfl ra h) pcN)) (hA _ _ h1 h2) w
    · exact law60082 rfl (pcC (eqmF (l := [a, b, v]) (i := 0) (m := 8) (n := 0) rfl ra (m8 (c := 8) (d := 0) ra.1 h (by decide))) (pcC (eqmF (l := [a, b, v]) (i := 0) rfl ra h) (pcC (notF (l := [a, b, v]) (i := 2) (x := v) rfl ⟨h1, h2⟩ (by decide) (by decide)) pcN))) (hA _ _ h1 h2) w
    · exact law60083 rfl (pcC (eqmF (l := [a, b, v]) (i := 0) (m := 8) (n := 0) rfl ra (m8 (c := 8) (d := 0) ra.1 h (by decide))) (pcC (eqmF (l := [a, b, v]) (i := 0) rfl ra h) (pcC (notF (l := [a, b, v]) (i := 2) (x := v) rfl ⟨h1, h2⟩ (by decide) (by decide)) pcN))) (hA _ _ h1 h2) w
  · rcases hv with ⟨h1, h2⟩ | ⟨h1, h2⟩ | ⟨h1, h2⟩ | ⟨h1, h2⟩
    · exact law60090 rfl (pcC (eqmF (l := [a, b, v]) (i := 0) (m := 8) (n := 1) rfl ra (m8 (c := 9) (d := 1) ra.1 h (by decide))) (pcC (eqmF (l := [a, b, v]) (i := 0) rfl ra h) pcN)) (hA _ _ h1 h2) w
    · exact law60091 rfl (pcC (eqmF (l := [a, b, v]) (i := 0) (m := 8) (n := 1) rfl ra (m8 (c := 9) (d := 1) ra.1 h (by decide))) (pcC (eqmF (l := [a, b, v]) (i := 0) rfl ra h) pcN)) (hA _ _ h1 h2) w
    · exact law60092 rfl (pcC (eqmF (l := [a, b, v]) (i := 0) (m := 8) (n := 1) rfl ra (m8 (c := 9) (d := 1) ra.1 h (by decide))) (pcC (eqmF (l := [a, b, v]) (i := 0) rfl ra h) (pcC (notF (l := [a, b, v]) (i := 2) (x := v) rfl ⟨h1, h2⟩ (by decide) (by decide)) pcN))) (hA _ _ h1 h2) w
    · exact law60093 rfl (pcC (eqmF (l := [a, b, v]) (i := 0) (m := 8) (n := 1) rfl ra (m8 (c := 9) (d := 1) ra.1 h (by decide))) (pcC (eqmF (l := [a, b, v]) (i := 0) rfl ra h) (pcC (notF (l := [a, b, v]) (i := 2) (x := v) rfl ⟨h1, h2⟩ (by decide) (by decide)) pcN))) (hA _ _ h1 h2) w
  · rcases hv with ⟨h1, h2⟩ | ⟨h1, h2⟩ | ⟨h1, h2⟩ | ⟨h1, h2⟩
    · exact law60100 rfl (pcC (eqmF (l := [a, b, v]) (i := 0) (m := 8) (n := 2) rfl ra (m8 (c := 10) (d := 2) ra.1 h (by decide))) (pcC (eqmF (l := [a, b, v]) (i := 0) rfl ra h) pcN)) (hA _ _ h1 h2) w
    · exact law60101 rfl (pcC (eqmF (l := [a, b, v]) (i := 0) (m := 8) (n := 2) rfl ra (m8 (c := 10) (d := 2) ra.1 h (by decide))) (pcC (eqmF (l := [a, b, v]) (i := 0) rfl ra h) pcN)) (hA _ _ h1 h2) w
    · exact law60102 rfl (pcC (eqmF (l := [a, b, v]) (i := 0) (m := 8) (n := 2) rfl ra (m8 (c := 10) (d := 2) ra.1 h (by decide))) (pcC (eqmF (l := [a, b, v]) (i := 0) rfl ra h) (pcC (notF (l := [a, b, v]) (i := 2) (x := v) rfl ⟨h1, h2⟩ (by decide) (by decide)) pcN))) (hA _ _ h1 h2) w
    · exact law60103 rfl (pcC (eqmF (l := [a, b, v]) (i := 0) (m := 8) (n := 2) rfl ra (m8 (c := 10) (d := 2) ra.1 h (by decide))) (pcC (eqmF (l := [a, b, v]) (i := 0) rfl ra h) (pcC (notF (l := [a, b, v]) (i := 2) (x := v) rfl ⟨h1, h2⟩ (by decide) (by decide)) pcN))) (hA _ _ h1 h2) w
  · rcases hv with ⟨h1, h2⟩ | ⟨h1, h2⟩ | ⟨h1, h2⟩ | ⟨h1, h2⟩
    · exact law60110 rfl (pcC (eqmF (l := [a, b, v]) (i := 0) (m := 8) (n := 3) rfl ra (m8 (c := 11) (d := 3) ra.1 h (by decide))) (pcC (eqmF (l := [a, b, v]) (i := 0) rfl ra h) pcN)) (hA _ _ h1 h2) w
    · exact law60111 rfl (pcC (eqmF (l := [a, b, v]) (i := 0) (m := 8) (n := 3) rfl ra (m8 (c := 11) (d := 3) ra.1 h (by decide))) (pcC (eqmF (l := [a, b, v]) (i := 0) rfl ra h) pcN)) (hA _ _ h1 h2) w
    · exact law60112 rfl (pcC (eqmF (l := [a, b, v]) (i := 0) (m := 8) (n := 3) rfl ra (m8 (c := 11) (d := 3) ra.1 h (by decide))) (pcC (eqmF (l := [a, b, v]) (i := 0) rfl ra h) (pcC (notF (l := [a, b, v]) (i := 2) (x := v) rfl ⟨h1, h2⟩ (by decide) (by decide)) pcN))) (hA _ _ h1 h2) w
    · exact law60113 rfl (pcC (eqmF (l := [a, b, v]) (i := 0) (m := 8) (n := 3) rfl ra (m8 (c := 11) (d := 3) ra.1 h (by decide))) (pcC (eqmF (l := [a, b, v]) (i := 0) rfl ra h) (pcC (notF (l := [a, b, v]) (i := 2) (x := v) rfl ⟨h1, h2⟩ (by decide) (by decide)) pcN))) (hA _ _ h1 h2) w
  · rcases hv with ⟨h1, h2⟩ | ⟨h1, h2⟩ | ⟨h1, h2⟩ | ⟨h1, h2⟩
    · exact law60120 rfl (pcC (eqmF (l := [a, b, v]) (i := 0) (m := 8) (n := 4) rfl ra (m8 (c := 12) (d := 4) ra.1 h (by decide))) (pcC (eqmF (l := [a, b, v]) (i := 0) rfl ra h) pcN)) (hA _ _ h1 h2) w
    · exact law60121 rfl (pcC (eqmF (l := [a, b, v]) (i := 0) (m := 8) (n := 4) rfl ra (m8 (c := 12) (d := 4) ra.1 h (by decide))) (pcC (eqmF (l := [a, b, v]) (i := 0) rfl ra h) pcN)) (hA _ _ h1 h2) w
    · exact law60122 rfl (pcC (eqmF (l := [a, b, v]) (i := 0) (m := 8) (n := 4) rfl ra (m8 (c := 12) (d := 4) ra.1 h (by decide))) (pcC (eqmF (l := [a, b, v]) (i := 0) rfl ra h) (pcC (notF (l := [a, b, v]) (i := 2) (x := v) rfl ⟨h1, h2⟩ (by decide) (by decide)) pcN))) (hA _ _ h1 h2) w
    · exact law60123 rfl (pcC (eqmF (l := [a, b, v]) (i := 0) (m := 8) (n := 4) rfl ra (m8 (c := 12) (d := 4) ra.1 h (by decide))) (pcC (eqmF (l := [a, b, v]) (i := 0) rfl ra h) (pcC (notF (l := [a, b, v]) (i := 2) (x := v) rfl ⟨h1, h2⟩ (by decide) (by decide)) pcN))) (hA _ _ h1 h2) w
  · rcases hv with ⟨h1, h2⟩ | ⟨h1, h2⟩ | ⟨h1, h2⟩ | ⟨h1, h2⟩
    · exact law60130 rfl (pcC (eqmF (l := [a, b, v]) (i := 0) (m := 8) (n := 5) rfl ra (m8 (c := 13) (d := 5) ra.1 h (by decide))) (pcC (eqmF (l := [a, b, v]) (i := 0) rfl ra h) pcN)) (hA _ _ h1 h2) w
    · exact law60131 rfl (pcC (eqmF (l := [a, b, v]) (i := 0) (m := 8) (n := 5) rfl ra (m8 (c := 13) (d := 5) ra.1 h (by decide))) (pcC (eqmF (l := [a, b, v]) (i := 0) rfl ra h) pcN)) (hA _ _ h1 h2) w
    · exact law60132 rfl (pcC (eqmF (l := [a, b, v]) (i := 0) (m := 8) (n := 5) rfl ra (m8 (c := 13) (d := 5) ra.1 h (by decide))) (pcC (eqmF (l := [a, b, v]) (i := 0) rfl ra h) (pcC (notF (l := [a, b, v]) (i := 2) (x := v) rfl ⟨h1, h2⟩ (by decide) (by decide)) pcN))) (hA _ _ h1 h2) w
    · exact law60133 rfl (pcC (eqmF (l := [a, b, v]) (i := 0) (m := 8) (n := 5) rfl ra (m8 (c := 13) (d := 5) ra.1 h (by decide))) (pcC (eqmF (l := [a, b, v]) (i := 0) rfl ra h) (pcC (notF (l := [a, b, v]) (i := 2) (x := v) rfl ⟨h1, h2⟩ (by decide) (by decide)) pcN))) (hA _ _ h1 h2) w
  · rcases hv with ⟨h1, h2⟩ | ⟨h1, h2⟩ | ⟨h1, h2⟩ | ⟨h1, h2⟩
    · exact law60140 rfl (pcC (eqmF (l := [a, b, v]) (i := 0) (m := 8) (n := 6) rfl ra (m8 (c := 14) (d := 6) ra.1 h (by decide))) (pcC (eqmF (l := [a, b, v]) (i := 0) rfl ra h) pcN)) (hA _ _ h1 h2) w
    · exact law60141 rfl (pcC (eqmF (l := [a, b, v]) (i := 0) (m := 8) (n := 6) rfl ra (m8 (c := 14) (d := 6) ra.1 h (by decide))) (pcC (eqmF (l := [a, b, v]) (i := 0) rfl ra h) pcN)) (hA _ _ h1 h2) w
    · exact law60142 rfl (pcC (eqmF (l := [a, b, v]) (i := 0) (m := 8) (n := 6) rfl ra (m8 (c := 14) (d := 6) ra.1 h (by decide))) (pcC (eqmF (l := [a, b, v]) (i := 0) rfl ra h) (pcC (notF (l := [a, b, v]) (i := 2) (x := v) rfl ⟨h1, h2⟩ (by decide) (by decide)) pcN))) (hA _ _ h1 h2) w
    · exact law60143 rfl (pcC (eqmF (l := [a, b, v]) (i := 0) (m := 8) (n := 6) rfl ra (m8 (c := 14) (d := 6) ra.1 h (by decide))) (pcC (eqmF (l := [a, b, v]) (i := 0) rfl ra h) (pcC (notF (l := [a, b, v]) (i := 2) (x := v) rfl ⟨h1, h2⟩ (by decide) (by decide)) pcN))) (hA _ _ h1 h2) w
  · rcases hv with ⟨h1, h2⟩ | ⟨h1, h2⟩ | ⟨h1, h2⟩ | ⟨h1, h2⟩
    · exact law60150 rfl (pcC (eqmF (l := [a, b, v]) (i := 0) (m := 8) (n := 7) rfl ra (m8 (c := 15) (d := 7) ra.1 h (by decide))) (pcC (eqmF (l := [a, b, v]) (i := 0) rfl ra h) pcN)) (hA _ _ h1 h2) w
    · exact law60151 rfl (pcC (eqmF (l := [a, b, v]) (i := 0) (m := 8) (n := 7) rfl ra (m8 (c := 15) (d := 7) ra.1 h (by decide))) (pcC (eqmF (l := [a, b, v]) (i := 0) rfl ra h) pcN)) (hA _ _ h1 h2) w
    · exact law60152 rfl (pcC (eqmF (l := [a, b, v]) (i := 0) (m := 8) (n := 7) rfl ra (m8 (c := 15) (d := 7) ra.1 h (by decide))) (pcC (eqmF (l := [a, b, v]) (i := 0) rfl ra h) (pcC (notF (l := [a, b, v]) (i := 2) (x := v) rfl ⟨h1, h2⟩ (by decide) (by decide)) pcN))) (hA _ _ h1 h2) w
    · exact law60153 rfl (pcC (eqmF (l := [a, b, v]) (i := 0) (m := 8) (n := 7) rfl ra (m8 (c := 15) (d := 7) ra.1 h (by decide))) (pcC (eqmF (l := [a, b, v]) (i := 0) rfl ra h) (pcC (notF (l := [a, b, v]) (i := 2) (x := v) rfl ⟨h1, h2⟩ (by decide) (by decide)) pcN))) (hA _ _ h1 h2) w

set_option maxRecDepth 100000 in
theorem lifted (os : Os) (started : os.Started) (H : Type) (enc : TypeId × Value → H) :
    ReturnsInHanded {} Try.checked os 6 .any (Rows.encodeShortSpec.pre6 enc Try.prog Try.f6 Rows.encodeShortRow.domain false) (Rows.encodeShortSpec.post enc Try.prog Try.f6 false true false false) := by
  refine returnsInHanded_of_change (C := Try.checked) own started (by kernel_rfl) Try.func6
    (ChangeSpec.witness6 (enc := enc) (C := Try.checked) false ⟨#[], #[.int .u8 0, .int .u8 0, .int .u32 0], []⟩ 8 (by kernel_rfl) (by kernel_rfl) (by kernel_rfl) (by kernel_rfl)) ?_
  intro W base args ds gs before hval0 hW hcnd _
  have hval : ∀ (j : Nat) t v, Try.f6.params[j]? = some t → args[j]? = some v → Value.okWide Try.prog W .any base t v := hval0
  have hW' := hW
  obtain ⟨p, q, hA0, hV, rfl, hfz, hnd⟩ := hW
  have hA : DataW.TrodAll enc Try.prog W 0 (fun _ => true) true Try.f6.params.toList args.toList ds p := hA0
  rw [Try.params6] at hA hval
  obtain ⟨v0, vs0, d0, ds0, p0, q0, hargs, rfl, rfl, h0, r0⟩ := trodAll_cons hA
  obtain ⟨v1, vs1, d1, ds1, p1, q1, rfl, rfl, rfl, h1, r1⟩ := trodAll_cons r0
  obtain ⟨v2, vs2, d2, ds2, p2, q2, rfl, rfl, rfl, h2, r2⟩ := trodAll_cons r1
  obtain ⟨rfl, rfl, rfl⟩ := trodAll_nil r2
  obtain rfl : args = #[v0, v1, v2] := by cases args; simp_all
  obtain ⟨rfl, rfl⟩ := trodVars_none hV
  obtain ⟨a, rfl, rfl, rfl, wa⟩ := open_int Try.underlying5 (hval 0 5 v0 rfl rfl) h0
  obtain ⟨b, rfl, rfl, rfl, wb⟩ := open_int Try.underlying5 (hval 1 5 v1 rfl rfl) h1
  obtain ⟨v, rfl, rfl, rfl, wv⟩ := open_int Try.underlying22 (hval 2 22 v2 rfl rfl) h2
  clear hA0 hval0
  simp only [List.append_nil] at hW'
  refine (walk a b v wa wb wv W).mono fun e W' ⟨he, hg⟩ => ?_
  subst he
  exact ⟨_, rfl, post_of_below (pa := []) (pv := []) hW' (fun _ _ _ => (trodAll_cons_mk (shut_bool Try.underlying4 _) trodAll_mk0)) (fun _ _ => (trodAll_cons_mk (shut_int Try.underlying5 wa) (trodAll_cons_mk (shut_int Try.underlying5 wb) (trodAll_cons_mk (shut_int Try.underlying22 wv) trodAll_mk0)))) (fun _ _ => rfl) rfl
    hg (ok_one (by kernel_rfl) rfl (okWide_bool_mk Try.underlying4 _))⟩

theorem over : Rows.encodeShortRow.holds Try.pinned (OpenSpec.ofChange Rows.encodeShortSpec) :=
  OpenClaim.holds_of_wide 6 Try.f6 rfl rfl rfl rfl rfl rfl rfl ⟨rfl, rfl, rfl, rfl, rfl⟩ rfl rfl rfl rfl rfl (by kernel_rfl) Try.func6 (by kernel_rfl)
    (of_decide_eq_true (by kernel_rfl)) (by unfold Func.isWrapper; first | (rw [if_pos (by decide +kernel)]; kernel_rfl) | (rw [if_neg (by decide +kernel)]; exact ⟨rfl, rfl⟩))
    (fun os started H enc _ => lifted os started H enc)
theorem proved : Rows.EncodeShortSaid :=
  over
#print axioms proved
end Go.Proofs.Ytpjmhngcdbpmpaa.encodeShort
