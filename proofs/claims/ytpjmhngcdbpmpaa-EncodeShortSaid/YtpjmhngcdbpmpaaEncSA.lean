/- Functions, each told by its own run; and what follows from what they tell. -/
import Derived.KernelRfl
import Derived.Test.YtpjmhngcdbpmpaaEncSC1
import Derived.Test.YtpjmhngcdbpmpaaEncSC2
import Derived.Test.YtpjmhngcdbpmpaaEncSC3
import Derived.Test.YtpjmhngcdbpmpaaEncSC4
import Derived.Test.YtpjmhngcdbpmpaaEncSC5
import Derived.Test.YtpjmhngcdbpmpaaEncSC6
import Derived.Test.YtpjmhngcdbpmpaaEncSC7
import Derived.Test.YtpjmhngcdbpmpaaEncSC8
import Derived.Test.YtpjmhngcdbpmpaaEncSC9
import Derived.Test.YtpjmhngcdbpmpaaEncSC10
import Derived.Test.YtpjmhngcdbpmpaaEncSC11
import Derived.Test.YtpjmhngcdbpmpaaEncSC12
namespace Go.Sy
theorem F6 (xs : List Arg) : Fs.F 6 xs = [⟨1, fun _ => 1⟩] := by kernel_rfl
theorem at_eq {k : Nat} {c : Te} (h : table[k]? = some c) : table.take k ++ c :: table.drop (k + 1) = table := by
  obtain ⟨hk, e⟩ := List.getElem?_eq_some_iff.1 h
  rw [← e, ← List.drop_eq_getElem_cons hk, List.take_append_drop]
theorem F_eq : Fs.F = mkG table := by kernel_rfl
theorem F_at {k : Nat} {c : Te} (h : table[k]? = some c) : Fs.F = mkG (table.take k ++ c :: table.drop (k + 1)) := by rw [at_eq h]; exact F_eq
theorem ok_at {k : Nat} {c : Te} (h : table[k]? = some c) : okG (table.take k ++ c :: table.drop (k + 1)) = true := by rw [at_eq h]; exact okT
theorem pf_at {P : Program} {cf : Cf} (hcf : CfOk P cf) {fuel : Nat} {c : Pf} {ds : List Df} {ls : List T} (h : chkPf P cf fuel c ds ls = true) (k : Nat) (hk : table[k]? = some (.card ⟨c.g, c.n, ds, ls⟩)) : PfOk P c := cardG_ok hcf h _ _ (F_at hk) (ok_at hk)
theorem mf_at {P : Program} {cf : Cf} (hcf : CfOk P cf) {fuel : Nat} {c : Mf} {ds : List Df} {ls : List T} (h : chkMf P cf fuel c ds ls = true) (k : Nat) (hk : table[k]? = some (.card ⟨c.id, c.n, ds, ls⟩)) : MfOk P c := cardMG_ok hcf h _ _ (F_at hk) (ok_at hk)
theorem ok9001 : MfOk Go.Proofs.Try.prog p9001 := mf_at (cfL_ok (P := Go.Proofs.Try.prog) (l := []) (lm := []) (ll := []) trivial trivial trivial) chk9001 109 (by kernel_rfl)
theorem ok9002 : MfOk Go.Proofs.Try.prog p9002 := mf_at (cfL_ok (P := Go.Proofs.Try.prog) (l := []) (lm := []) (ll := []) trivial trivial trivial) chk9002 108 (by kernel_rfl)
theorem ok9011 : MfOk Go.Proofs.Try.prog p9011 := mf_at (cfL_ok (P := Go.Proofs.Try.prog) (l := []) (lm := []) (ll := []) trivial trivial trivial) chk9011 107 (by kernel_rfl)
theorem ok9012 : MfOk Go.Proofs.Try.prog p9012 := mf_at (cfL_ok (P := Go.Proofs.Try.prog) (l := []) (lm := []) (ll := []) trivial trivial trivial) chk9012 106 (by kernel_rfl)
theorem ok9013 : MfOk Go.Proofs.Try.prog p9013 := mf_at (cfL_ok (P := Go.Proofs.Try.prog) (l := []) (lm := []) (ll := []) trivial trivial trivial) chk9013 105 (by kernel_rfl)
theorem ok9014 : MfOk Go.Proofs.Try.prog p9014 := mf_at (cfL_ok (P := Go.Proofs.Try.prog) (l := []) (lm := []) (ll := []) trivial trivial trivial) chk9014 104 (by kernel_rfl)
theorem F8 (xs : List Arg) : Fs.F 8 xs = [⟨1, fun _ => 1⟩] := by kernel_rfl
theorem plain8 (E : Env) (_ : E.F = Fs.F) (_ : ∀ d ∈ d8, d.ok E) : t8.den E = 1 := rfl
theorem ok8 : PfOk Go.Proofs.Try.prog p8 := by
  have h := law_okF (cfL_ok (P := Go.Proofs.Try.prog) (l := []) (lm := [p9001, p9002, p9011, p9012, p9013, p9014]) (ll := []) trivial ⟨ok9001, ok9002, ok9011, ok9012, ok9013, ok9014, trivial⟩ trivial) chk8 rfl rfl rfl F8 plain8
  exact true_ok h.1 fun w => h.2 (E := ⟨fun _ => default, Fs.F⟩) rfl (ρ := fun _ => default) (N := 0) (args := #[]) (fun _ h => nomatch h) F2.nil w
theorem ok1030 : MfOk Go.Proofs.Try.prog p1030 := mf_at (cfL_ok (P := Go.Proofs.Try.prog) (l := []) (lm := []) (ll := []) trivial trivial trivial) chk1030 102 (by kernel_rfl)
theorem ok2030 : MfOk Go.Proofs.Try.prog p2030 := mf_at (cfL_ok (P := Go.Proofs.Try.prog) (l := []) (lm := []) (ll := []) trivial trivial trivial) chk2030 101 (by kernel_rfl)
theorem ok1040 : MfOk Go.Proofs.Try.prog p1040 := mf_at (cfL_ok (P := Go.Proofs.Try.prog) (l := []) (lm := []) (ll := []) trivial trivial trivial) chk1040 100 (by kernel_rfl)
theorem ok2040 : MfOk Go.Proofs.Try.prog p2040 := mf_at (cfL_ok (P := Go.Proofs.Try.prog) (l := []) (lm := []) (ll := []) trivial trivial trivial) chk2040 99 (by kernel_rfl)
theorem ok1050 : MfOk Go.Proofs.Try.prog p1050 := mf_at (cfL_ok (P := Go.Proofs.Try.prog) (l := []) (lm := []) (ll := []) trivial trivial trivial) chk1050 98 (by kernel_rfl)
theorem ok2050 : MfOk Go.Proofs.Try.prog p2050 := mf_at (cfL_ok (P := Go.Proofs.Try.prog) (l := []) (lm := []) (ll := []) trivial trivial trivial) chk2050 97 (by kernel_rfl)
theorem ok1060 : MfOk Go.Proofs.Try.prog p1060 := mf_at (cfL_ok (P := Go.Proofs.Try.prog) (l := []) (lm := []) (ll := []) trivial trivial trivial) chk1060 96 (by kernel_rfl)
theorem ok2060 : MfOk Go.Proofs.Try.prog p2060 := mf_at (cfL_ok (P := Go.Proofs.Try.prog) (l := []) (lm := []) (ll := []) trivial trivial trivial) chk2060 95 (by kernel_rfl)
theorem ok1070 : MfOk Go.Proofs.Try.prog p1070 := mf_at (cfL_ok (P := Go.Proofs.Try.prog) (l := []) (lm := []) (ll := []) trivial trivial trivial) chk1070 94 (by kernel_rfl)
theorem ok2070 : MfOk Go.Proofs.Try.prog p2070 := mf_at (cfL_ok (P := Go.Proofs.Try.prog) (l := []) (lm := []) (ll := []) trivial trivial trivial) chk2070 93 (by kernel_rfl)
theorem ok1080 : MfOk Go.Proofs.Try.prog p1080 := mf_at (cfL_ok (P := Go.Proofs.Try.prog) (l := []) (lm := []) (ll := []) trivial trivial trivial) chk1080 92 (by kernel_rfl)
theorem ok2080 : MfOk Go.Proofs.Try.prog p2080 := mf_at (cfL_ok (P := Go.Proofs.Try.prog) (l := []) (lm := []) (ll := []) trivial trivial trivial) chk2080 91 (by kernel_rfl)
theorem ok1090 : MfOk Go.Proofs.Try.prog p1090 := mf_at (cfL_ok (P := Go.Proofs.Try.prog) (l := []) (lm := []) (ll := []) trivial trivial trivial) chk1090 90 (by kernel_rfl)
theorem ok2090 : MfOk Go.Proofs.Try.prog p2090 := mf_at (cfL_ok (P := Go.Proofs.Try.prog) (l := []) (lm := []) (ll := []) trivial trivial trivial) chk2090 89 (by kernel_rfl)
theorem ok1100 : MfOk Go.Proofs.Try.prog p1100 := mf_at (cfL_ok (P := Go.Proofs.Try.prog) (l := []) (lm := []) (ll := []) trivial trivial trivial) chk1100 88 (by kernel_rfl)
theorem ok2100 : MfOk Go.Proofs.Try.prog p2100 := mf_at (cfL_ok (P := Go.Proofs.Try.prog) (l := []) (lm := []) (ll := []) trivial trivial trivial) chk2100 87 (by kernel_rfl)
theorem ok3280 : MfOk Go.Proofs.Try.prog p3280 := mf_at (cfL_ok (P := Go.Proofs.Try.prog) (l := []) (lm := []) (ll := []) trivial trivial trivial) chk3280 86 (by kernel_rfl)
theorem ok3320 : MfOk Go.Proofs.Try.prog p3320 := mf_at (cfL_ok (P := Go.Proofs.Try.prog) (l := []) (lm := []) (ll := []) trivial trivial trivial) chk3320 85 (by kernel_rfl)
theorem ok4000 : MfOk Go.Proofs.Try.prog p4000 := mf_at (cfL_ok (P := Go.Proofs.Try.prog) (l := []) (lm := []) (ll := []) trivial trivial trivial) chk4000 84 (by kernel_rfl)
theorem ok4010 : MfOk Go.Proofs.Try.prog p4010 := mf_at (cfL_ok (P := Go.Proofs.Try.prog) (l := []) (lm := []) (ll := []) trivial trivial trivial) chk4010 83 (by kernel_rfl)
theorem ok4020 : MfOk Go.Proofs.Try.prog p4020 := mf_at (cfL_ok (P := Go.Proofs.Try.prog) (l := []) (lm := []) (ll := []) trivial trivial trivial) chk4020 82 (by kernel_rfl)
theorem ok4030 : MfOk Go.Proofs.Try.prog p4030 := mf_at (cfL_ok (P := Go.Proofs.Try.prog) (l := []) (lm := []) (ll := []) trivial trivial trivial) chk4030 81 (by kernel_rfl)
theorem ok4040 : MfOk Go.Proofs.Try.prog p4040 := mf_at (cfL_ok (P := Go.Proofs.Try.prog) (l := []) (lm := []) (ll := []) trivial trivial trivial) chk4040 80 (by kernel_rfl)
theorem ok4050 : MfOk Go.Proofs.Try.prog p4050 := mf_at (cfL_ok (P := Go.Proofs.Try.prog) (l := []) (lm := []) (ll := []) trivial trivial trivial) chk4050 79 (by kernel_rfl)
theorem ok4060 : MfOk Go.Proofs.Try.prog p4060 := mf_at (cfL_ok (P := Go.Proofs.Try.prog) (l := []) (lm := []) (ll := []) trivial trivial trivial) chk4060 78 (by kernel_rfl)
theorem ok4070 : MfOk Go.Proofs.Try.prog p4070 := mf_at (cfL_ok (P := Go.Proofs.Try.prog) (l := []) (lm := []) (ll := []) trivial trivial trivial) chk4070 77 (by kernel_rfl)
theorem ok4080 : MfOk Go.Proofs.Try.prog p4080 := mf_at (cfL_ok (P := Go.Proofs.Try.prog) (l := []) (lm := []) (ll := []) trivial trivial trivial) chk4080 76 (by kernel_rfl)
theorem ok4090 : MfOk Go.Proofs.Try.prog p4090 := mf_at (cfL_ok (P := Go.Proofs.Try.prog) (l := []) (lm := []) (ll := []) trivial trivial trivial) chk4090 75 (by kernel_rfl)
theorem ok4100 : MfOk Go.Proofs.Try.prog p4100 := mf_at (cfL_ok (P := Go.Proofs.Try.prog) (l := []) (lm := []) (ll := []) trivial trivial trivial) chk4100 74 (by kernel_rfl)
theorem ok4110 : MfOk Go.Proofs.Try.prog p4110 := mf_at (cfL_ok (P := Go.Proofs.Try.prog) (l := []) (lm := []) (ll := []) trivial trivial trivial) chk4110 73 (by kernel_rfl)
theorem ok4120 : MfOk Go.Proofs.Try.prog p4120 := mf_at (cfL_ok (P := Go.Proofs.Try.prog) (l := []) (lm := []) (ll := []) trivial trivial trivial) chk4120 72 (by kernel_rfl)
theorem ok4130 : MfOk Go.Proofs.Try.prog p4130 := mf_at (cfL_ok (P := Go.Proofs.Try.prog) (l := []) (lm := []) (ll := []) trivial trivial trivial) chk4130 71 (by kernel_rfl)
theorem ok4140 : MfOk Go.Proofs.Try.prog p4140 := mf_at (cfL_ok (P := Go.Proofs.Try.prog) (l := []) (lm := []) (ll := []) trivial trivial trivial) chk4140 70 (by kernel_rfl)
theorem ok4150 : MfOk Go.Proofs.Try.prog p4150 := mf_at (cfL_ok (P := Go.Proofs.Try.prog) (l := []) (lm := []) (ll := []) trivial trivial trivial) chk4150 69 (by kernel_rfl)
theorem ok1031 : MfOk Go.Proofs.Try.prog p1031 := mf_at (cfL_ok (P := Go.Proofs.Try.prog) (l := []) (lm := []) (ll := []) trivial trivial trivial) chk1031 68 (by kernel_rfl)
theorem ok2031 : MfOk Go.Proofs.Try.prog p2031 := mf_at (cfL_ok (P := Go.Proofs.Try.prog) (l := []) (lm := []) (ll := []) trivial trivial trivial) chk2031 67 (by kernel_rfl)
theorem ok1041 : MfOk Go.Proofs.Try.prog p1041 := mf_at (cfL_ok (P := Go.Proofs.Try.prog) (l := []) (lm := []) (ll := []) trivial trivial trivial) chk1041 66 (by kernel_rfl)
theorem ok2041 : MfOk Go.Proofs.Try.prog p2041 := mf_at (cfL_ok (P := Go.Proofs.Try.prog) (l := []) (lm := []) (ll := []) trivial trivial trivial) chk2041 65 (by kernel_rfl)
theorem ok1051 : MfOk Go.Proofs.Try.prog p1051 := mf_at (cfL_ok (P := Go.Proofs.Try.prog) (l := []) (lm := []) (ll := []) trivial trivial trivial) chk1051 64 (by kernel_rfl)
theorem ok2051 : MfOk Go.Proofs.Try.prog p2051 := mf_at (cfL_ok (P := Go.Proofs.Try.prog) (l := []) (lm := []) (ll := []) trivial trivial trivial) chk2051 63 (by kernel_rfl)
theorem ok1061 : MfOk Go.Proofs.Try.prog p1061 := mf_at (cfL_ok (P := Go.Proofs.Try.prog) (l := []) (lm := []) (ll := []) trivial trivial trivial) chk1061 62 (by kernel_rfl)
theorem ok2061 : MfOk Go.Proofs.Try.prog p2061 := mf_at (cfL_ok (P := Go.Proofs.Try.prog) (l := []) (lm := []) (ll := []) trivial trivial trivial) chk2061 61 (by kernel_rfl)
theorem ok1071 : MfOk Go.Proofs.Try.prog p1071 := mf_at (cfL_ok (P := Go.Proofs.Try.prog) (l := []) (lm := []) (ll := []) trivial trivial trivial) chk1071 60 (by kernel_rfl)
theorem ok2071 : MfOk Go.Proofs.Try.prog p2071 := mf_at (cfL_ok (P := Go.Proofs.Try.prog) (l := []) (lm := []) (ll := []) trivial trivial trivial) chk2071 59 (by kernel_rfl)
theorem ok1081 : MfOk Go.Proofs.Try.prog p1081 := mf_at (cfL_ok (P := Go.Proofs.Try.prog) (l := []) (lm := []) (ll := []) trivial trivial trivial) chk1081 58 (by kernel_rfl)
theorem ok2081 : MfOk Go.Proofs.Try.prog p2081 := mf_at (cfL_ok (P := Go.Proofs.Try.prog) (l := []) (lm := []) (ll := []) trivial trivial trivial) chk2081 57 (by kernel_rfl)
theorem ok1091 : MfOk Go.Proofs.Try.prog p1091 := mf_at (cfL_ok (P := Go.Proofs.Try.prog) (l := []) (lm := []) (ll := []) trivial trivial trivial) chk1091 56 (by kernel_rfl)
theorem ok2091 : MfOk Go.Proofs.Try.prog p2091 := mf_at (cfL_ok (P := Go.Proofs.Try.prog) (l := []) (lm := []) (ll := []) trivial trivial trivial) chk2091 55 (by kernel_rfl)
theorem ok1101 : MfOk Go.Proofs.Try.prog p1101 := mf_at (cfL_ok (P := Go.Proofs.Try.prog) (l := []) (lm := []) (ll := []) trivial trivial trivial) chk1101 54 (by kernel_rfl)
theorem ok2101 : MfOk Go.Proofs.Try.prog p2101 := mf_at (cfL_ok (P := Go.Proofs.Try.prog) (l := []) (lm := []) (ll := []) trivial trivial trivial) chk2101 53 (by kernel_rfl)
theorem ok3281 : MfOk Go.Proofs.Try.prog p3281 := mf_at (cfL_ok (P := Go.Proofs.Try.prog) (l := []) (lm := []) (ll := []) trivial trivial trivial) chk3281 52 (by kernel_rfl)
theorem ok3321 : MfOk Go.Proofs.Try.prog p3321 := mf_at (cfL_ok (P := Go.Proofs.Try.prog) (l := []) (lm := []) (ll := []) trivial trivial trivial) chk3321 51 (by kernel_rfl)
theorem ok4001 : MfOk Go.Proofs.Try.prog p4001 := mf_at (cfL_ok (P := Go.Proofs.Try.prog) (l := []) (lm := []) (ll := []) trivial trivial trivial) chk4001 50 (by kernel_rfl)
theorem ok4011 : MfOk Go.Proofs.Try.prog p4011 := mf_at (cfL_ok (P := Go.Proofs.Try.prog) (l := []) (lm := []) (ll := []) trivial trivial trivial) chk4011 49 (by kernel_rfl)
theorem ok4021 : MfOk Go.Proofs.Try.prog p4021 := mf_at (cfL_ok (P := Go.Proofs.Try.prog) (l := []) (lm := []) (ll := []) trivial trivial trivial) chk4021 48 (by kernel_rfl)
theorem ok4031 : MfOk Go.Proofs.Try.prog p4031 := mf_at (cfL_ok (P := Go.Proofs.Try.prog) (l := []) (lm := []) (ll := []) trivial trivial trivial) chk4031 47 (by kernel_rfl)
theorem ok4041 : MfOk Go.Proofs.Try.prog p4041 := mf_at (cfL_ok (P := Go.Proofs.Try.prog) (l := []) (lm := []) (ll := []) trivial trivial trivial) chk4041 46 (by kernel_rfl)
theorem ok4051 : MfOk Go.Proofs.Try.prog p4051 := mf_at (cfL_ok (P := Go.Proofs.Try.prog) (l := []) (lm := []) (ll := []) trivial trivial trivial) chk4051 45 (by kernel_rfl)
theorem ok4061 : MfOk Go.Proofs.Try.prog p4061 := mf_at (cfL_ok (P := Go.Proofs.Try.prog) (l := []) (lm := []) (ll := []) trivial trivial trivial) chk4061 44 (by kernel_rfl)
theorem ok4071 : MfOk Go.Proofs.Try.prog p4071 := mf_at (cfL_ok (P := Go.Proofs.Try.prog) (l := []) (lm := []) (ll := []) trivial trivial trivial) chk4071 43 (by kernel_rfl)
theorem ok4081 : MfOk Go.Proofs.Try.prog p4081 := mf_at (cfL_ok (P := Go.Proofs.Try.prog) (l := []) (lm := []) (ll := []) trivial trivial trivial) chk4081 42 (by kernel_rfl)
theorem ok4091 : MfOk Go.Proofs.Try.prog p4091 := mf_at (cfL_ok (P := Go.Proofs.Try.prog) (l := []) (lm := []) (ll := []) trivial trivial trivial) chk4091 41 (by kernel_rfl)
theorem ok4101 : MfOk Go.Proofs.Try.prog p4101 := mf_at (cfL_ok (P := Go.Proofs.Try.prog) (l := []) (lm := []) (ll := []) trivial trivial trivial) chk4101 40 (by kernel_rfl)
theorem ok4111 : MfOk Go.Proofs.Try.prog p4111 := mf_at (cfL_ok (P := Go.Proofs.Try.prog) (l := []) (lm := []) (ll := []) trivial trivial trivial) chk4111 39 (by kernel_rfl)
theorem ok4121 : MfOk Go.Proofs.Try.prog p4121 := mf_at (cfL_ok (P := Go.Proofs.Try.prog) (l := []) (lm := []) (ll := []) trivial trivial trivial) chk4121 38 (by kernel_rfl)
theorem ok4131 : MfOk Go.Proofs.Try.prog p4131 := mf_at (cfL_ok (P := Go.Proofs.Try.prog) (l := []) (lm := []) (ll := []) trivial trivial trivial) chk4131 37 (by kernel_rfl)
theorem ok4141 : MfOk Go.Proofs.Try.prog p4141 := mf_at (cfL_ok (P := Go.Proofs.Try.prog) (l := []) (lm := []) (ll := []) trivial trivial trivial) chk4141 36 (by kernel_rfl)
theorem ok4151 : MfOk Go.Proofs.Try.prog p4151 := mf_at (cfL_ok (P := Go.Proofs.Try.prog) (l := []) (lm := []) (ll := []) trivial trivial trivial) chk4151 35 (by kernel_rfl)
theorem ok1032 : MfOk Go.Proofs.Try.prog p1032 := mf_at (cfL_ok (P := Go.Proofs.Try.prog) (l := []) (lm := []) (ll := []) trivial trivial trivial) chk1032 34 (by kernel_rfl)
theorem ok2032 : MfOk Go.Proofs.Try.prog p2032 := mf_at (cfL_ok (P := Go.Proofs.Try.prog) (l := []) (lm := []) (ll := []) trivial trivial trivial) chk2032 33 (by kernel_rfl)
theorem ok1042 : MfOk Go.Proofs.Try.prog p1042 := mf_at (cfL_ok (P := Go.Proofs.Try.prog) (l := []) (lm := []) (ll := []) trivial trivial trivial) chk1042 32 (by kernel_rfl)
theorem ok2042 : MfOk Go.Proofs.Try.prog p2042 := mf_at (cfL_ok (P := Go.Proofs.Try.prog) (l := []) (lm := []) (ll := []) trivial trivial trivial) chk2042 31 (by kernel_rfl)
theorem ok1052 : MfOk Go.Proofs.Try.prog p1052 := mf_at (cfL_ok (P := Go.Proofs.Try.prog) (l := []) (lm := []) (ll := []) trivial trivial trivial) chk1052 30 (by kernel_rfl)
theorem ok2052 : MfOk Go.Proofs.Try.prog p2052 := mf_at (cfL_ok (P := Go.Proofs.Try.prog) (l := []) (lm := []) (ll := []) trivial trivial trivial) chk2052 29 (by kernel_rfl)
theorem ok1062 : MfOk Go.Proofs.Try.prog p1062 := mf_at (cfL_ok (P := Go.Proofs.Try.prog) (l := []) (lm := []) (ll := []) trivial trivial trivial) chk1062 28 (by kernel_rfl)
theorem ok2062 : MfOk Go.Proofs.Try.prog p2062 := mf_at (cfL_ok (P := Go.Proofs.Try.prog) (l := []) (lm := []) (ll := []) trivial trivial trivial) chk2062 27 (by kernel_rfl)
theorem ok1072 : MfOk Go.Proofs.Try.prog p1072 := mf_at (cfL_ok (P := Go.Proofs.Try.prog) (l := []) (lm := []) (ll := []) trivial trivial trivial) chk1072 26 (by kernel_rfl)
theorem ok2072 : MfOk Go.Proofs.Try.prog p2072 := mf_at (cfL_ok (P := Go.Proofs.Try.prog) (l := []) (lm := []) (ll := []) trivial trivial trivial) chk2072 25 (by kernel_rfl)
theorem ok1082 : MfOk Go.Proofs.Try.prog p1082 := mf_at (cfL_ok (P := Go.Proofs.Try.prog) (l := []) (lm := []) (ll := []) trivial trivial trivial) chk1082 24 (by kernel_rfl)
theorem ok2082 : MfOk Go.Proofs.Try.prog p2082 := mf_at (cfL_ok (P := Go.Proofs.Try.prog) (l := []) (lm := []) (ll := []) trivial trivial trivial) chk2082 23 (by kernel_rfl)
theorem ok1092 : MfOk Go.Proofs.Try.prog p1092 := mf_at (cfL_ok (P := Go.Proofs.Try.prog) (l := []) (lm := []) (ll := []) trivial trivial trivial) chk1092 22 (by kernel_rfl)
theorem ok2092 : MfOk Go.Proofs.Try.prog p2092 := mf_at (cfL_ok (P := Go.Proofs.Try.prog) (l := []) (lm := []) (ll := []) trivial trivial trivial) chk2092 21 (by kernel_rfl)
theorem ok1102 : MfOk Go.Proofs.Try.prog p1102 := mf_at (cfL_ok (P := Go.Proofs.Try.prog) (l := []) (lm := []) (ll := []) trivial trivial trivial) chk1102 20 (by kernel_rfl)
theorem ok2102 : MfOk Go.Proofs.Try.prog p2102 := mf_at (cfL_ok (P := Go.Proofs.Try.prog) (l := []) (lm := []) (ll := []) trivial trivial trivial) chk2102 19 (by kernel_rfl)
theorem ok3282 : MfOk Go.Proofs.Try.prog p3282 := mf_at (cfL_ok (P := Go.Proofs.Try.prog) (l := []) (lm := []) (ll := []) trivial trivial trivial) chk3282 18 (by kernel_rfl)
theorem ok3322 : MfOk Go.Proofs.Try.prog p3322 := mf_at (cfL_ok (P := Go.Proofs.Try.prog) (l := []) (lm := []) (ll := []) trivial trivial trivial) chk3322 17 (by kernel_rfl)
theorem ok4002 : MfOk Go.Proofs.Try.prog p4002 := mf_at (cfL_ok (P := Go.Proofs.Try.prog) (l := []) (lm := []) (ll := []) trivial trivial trivial) chk4002 16 (by kernel_rfl)
theorem ok4012 : MfOk Go.Proofs.Try.prog p4012 := mf_at (cfL_ok (P := Go.Proofs.Try.prog) (l := []) (lm := []) (ll := []) trivial trivial trivial) chk4012 15 (by kernel_rfl)
theorem ok4022 : MfOk Go.Proofs.Try.prog p4022 := mf_at (cfL_ok (P := Go.Proofs.Try.prog) (l := []) (lm := []) (ll := []) trivial trivial trivial) chk4022 14 (by kernel_rfl)
theorem ok4032 : MfOk Go.Proofs.Try.prog p4032 := mf_at (cfL_ok (P := Go.Proofs.Try.prog) (l := []) (lm := []) (ll := []) trivial trivial trivial) chk4032 13 (by kernel_rfl)
theorem ok4042 : MfOk Go.Proofs.Try.prog p4042 := mf_at (cfL_ok (P := Go.Proofs.Try.prog) (l := []) (lm := []) (ll := []) trivial trivial trivial) chk4042 12 (by kernel_rfl)
theorem ok4052 : MfOk Go.Proofs.Try.prog p4052 := mf_at (cfL_ok (P := Go.Proofs.Try.prog) (l := []) (lm := []) (ll := []) trivial trivial trivial) chk4052 11 (by kernel_rfl)
theorem ok4062 : MfOk Go.Proofs.Try.prog p4062 := mf_at (cfL_ok (P := Go.Proofs.Try.prog) (l := []) (lm := []) (ll := []) trivial trivial trivial) chk4062 10 (by kernel_rfl)
theorem ok4072 : MfOk Go.Proofs.Try.prog p4072 := mf_at (cfL_ok (P := Go.Proofs.Try.prog) (l := []) (lm := []) (ll := []) trivial trivial trivial) chk4072 9 (by kernel_rfl)
theorem ok4082 : MfOk Go.Proofs.Try.prog p4082 := mf_at (cfL_ok (P := Go.Proofs.Try.prog) (l := []) (lm := []) (ll := []) trivial trivial trivial) chk4082 8 (by kernel_rfl)
theorem ok4092 : MfOk Go.Proofs.Try.prog p4092 := mf_at (cfL_ok (P := Go.Proofs.Try.prog) (l := []) (lm := []) (ll := []) trivial trivial trivial) chk4092 7 (by kernel_rfl)
theorem ok4102 : MfOk Go.Proofs.Try.prog p4102 := mf_at (cfL_ok (P := Go.Proofs.Try.prog) (l := []) (lm := []) (ll := []) trivial trivial trivial) chk4102 6 (by kernel_rfl)
theorem ok4112 : MfOk Go.Proofs.Try.prog p4112 := mf_at (cfL_ok (P := Go.Proofs.Try.prog) (l := []) (lm := []) (ll := []) trivial trivial trivial) chk4112 5 (by kernel_rfl)
theorem ok4122 : MfOk Go.Proofs.Try.prog p4122 := mf_at (cfL_ok (P := Go.Proofs.Try.prog) (l := []) (lm := []) (ll := []) trivial trivial trivial) chk4122 4 (by kernel_rfl)
theorem ok4132 : MfOk Go.Proofs.Try.prog p4132 := mf_at (cfL_ok (P := Go.Proofs.Try.prog) (l := []) (lm := []) (ll := []) trivial trivial trivial) chk4132 3 (by kernel_rfl)
theorem ok4142 : MfOk Go.Proofs.Try.prog p4142 := mf_at (cfL_ok (P := Go.Proofs.Try.prog) (l := []) (lm := []) (ll := []) trivial trivial trivial) chk4142 2 (by kernel_rfl)
theorem ok4152 : MfOk Go.Proofs.Try.prog p4152 := mf_at (cfL_ok (P := Go.Proofs.Try.prog) (l := []) (lm := []) (ll := []) trivial trivial trivial) chk4152 1 (by kernel_rfl)
theorem plain60000 (E : Env) (_ : E.F = Fs.F) (_ : ∀ d ∈ d60000, d.ok E) : t60000.den E = 1 := rfl
theorem law60000 {E : Env} (hE : E.F = Fs.F) {ρ : Nat → Rb} {N : Nat} {args : Array Value} (hp : pcOk E q60000.pre) (ha : F2 (Ar E ρ N) q60000.args args) (w : World) : Calls Go.Proofs.Try.prog 6 args w fun e w' => e = .returned (.bool true) ∧ RowKit.Below w.heap.size w w' :=
  (law_okF (c := q60000) (cfL_ok (P := Go.Proofs.Try.prog) (l := [p8]) (lm := [p1030, p2030, p3280, p3320, p4000]) (ll := []) ⟨ok8, trivial⟩ ⟨ok1030, ok2030, ok3280, ok3320, ok4000, trivial⟩ trivial) chk60000 rfl rfl rfl F6 plain60000).2 hE hp ha w
theorem plain60001 (E : Env) (_ : E.F = Fs.F) (_ : ∀ d ∈ d60001, d.ok E) : t60001.den E = 1 := rfl
theorem law60001 {E : Env} (hE : E.F = Fs.F) {ρ : Nat → Rb} {N : Nat} {args : Array Value} (hp : pcOk E q60001.pre) (ha : F2 (Ar E ρ N) q60001.args args) (w : World) : Calls Go.Proofs.Try.prog 6 args w fun e w' => e = .returned (.bool true) ∧ RowKit.Below w.heap.size w w' :=
  (law_okF (c := q60001) (cfL_ok (P := Go.Proofs.Try.prog) (l := [p8]) (lm := [p1031, p2031, p3281, p3321, p4001]) (ll := []) ⟨ok8, trivial⟩ ⟨ok1031, ok2031, ok3281, ok3321, ok4001, trivial⟩ trivial) chk60001 rfl rfl rfl F6 plain60001).2 hE hp ha w
theorem plain60002 (E : Env) (_ : E.F = Fs.F) (_ : ∀ d ∈ d60002, d.ok E) : t60002.den E = 1 := rfl
theorem law60002 {E : Env} (hE : E.F = Fs.F) {ρ : Nat → Rb} {N : Nat} {args : Array Value} (hp : pcOk E q60002.pre) (ha : F2 (Ar E ρ N) q60002.args args) (w : World) : Calls Go.Proofs.Try.prog 6 args w fun e w' => e = .returned (.bool true) ∧ RowKit.Below w.heap.size w w' :=
  (law_okF (c := q60002) (cfL_ok (P := Go.Proofs.Try.prog) (l := [p8]) (lm := [p1032, p2032, p3282, p3322, p4002]) (ll := []) ⟨ok8, trivial⟩ ⟨ok1032, ok2032, ok3282, ok3322, ok4002, trivial⟩ trivial) chk60002 rfl rfl rfl F6 plain60002).2 hE hp ha w
theorem plain60003 (E : Env) (_ : E.F = Fs.F) (_ : ∀ d ∈ d60003, d.ok E) : t60003.den E = 1 := rfl
theorem law60003 {E : Env} (hE : E.F = Fs.F) {ρ : Nat → Rb} {N : Nat} {args : Array Value} (hp : pcOk E q60003.pre) (ha : F2 (Ar E ρ N) q60003.args args) (w : World) : Calls Go.Proofs.Try.prog 6 args w fun e w' => e = .returned (.bool true) ∧ RowKit.Below w.heap.size w w' :=
  (law_okF (c := q60003) (cfL_ok (P := Go.Proofs.Try.prog) (l := [p8]) (lm := [p1032, p2032, p3282, p3322, p4002]) (ll := []) ⟨ok8, trivial⟩ ⟨ok1032, ok2032, ok3282, ok3322, ok4002, trivial⟩ trivial) chk60003 rfl rfl rfl F6 plain60003).2 hE hp ha w
theorem plain60010 (E : Env) (_ : E.F = Fs.F) (_ : ∀ d ∈ d60010, d.ok E) : t60010.den E = 1 := rfl
theorem law60010 {E : Env} (hE : E.F = Fs.F) {ρ : Nat → Rb} {N : Nat} {args : Array Value} (hp : pcOk E q60010.pre) (ha : F2 (Ar E ρ N) q60010.args args) (w : World) : Calls Go.Proofs.Try.prog 6 args w fun e w' => e = .returned (.bool true) ∧ RowKit.Below w.heap.size w w' :=
  (law_okF (c := q60010) (cfL_ok (P := Go.Proofs.Try.prog) (l := [p8]) (lm := [p1040, p2040, p3280, p3320, p4010]) (ll := []) ⟨ok8, trivial⟩ ⟨ok1040, ok2040, ok3280, ok3320, ok4010, trivial⟩ trivial) chk60010 rfl rfl rfl F6 plain60010).2 hE hp ha w
theorem plain60011 (E : Env) (_ : E.F = Fs.F) (_ : ∀ d ∈ d60011, d.ok E) : t60011.den E = 1 := rfl
theorem law60011 {E : Env} (hE : E.F = Fs.F) {ρ : Nat → Rb} {N : Nat} {args : Array Value} (hp : pcOk E q60011.pre) (ha : F2 (Ar E ρ N) q60011.args args) (w : World) : Calls Go.Proofs.Try.prog 6 args w fun e w' => e = .returned (.bool true) ∧ RowKit.Below w.heap.size w w' :=
  (law_okF (c := q60011) (cfL_ok (P := Go.Proofs.Try.prog) (l := [p8]) (lm := [p1041, p2041, p3281, p3321, p4011]) (ll := []) ⟨ok8, trivial⟩ ⟨ok1041, ok2041, ok3281, ok3321, ok4011, trivial⟩ trivial) chk60011 rfl rfl rfl F6 plain60011).2 hE hp ha w
theorem plain60012 (E : Env) (_ : E.F = Fs.F) (_ : ∀ d ∈ d60012, d.ok E) : t60012.den E = 1 := rfl
theorem law60012 {E : Env} (hE : E.F = Fs.F) {ρ : Nat → Rb} {N : Nat} {args : Array Value} (hp : pcOk E q60012.pre) (ha : F2 (Ar E ρ N) q60012.args args) (w : World) : Calls Go.Proofs.Try.prog 6 args w fun e w' => e = .returned (.bool true) ∧ RowKit.Below w.heap.size w w' :=
  (law_okF (c := q60012) (cfL_ok (P := Go.Proofs.Try.prog) (l := [p8]) (lm := [p1042, p2042, p3282, p3322, p4012]) (ll := []) ⟨ok8, trivial⟩ ⟨ok1042, ok2042, ok3282, ok3322, ok4012, trivial⟩ trivial) chk60012 rfl rfl rfl F6 plain60012).2 hE hp ha w
theorem plain60013 (E : Env) (_ : E.F = Fs.F) (_ : ∀ d ∈ d60013, d.ok E) : t60013.den E = 1 := rfl
theorem law60013 {E : Env} (hE : E.F = Fs.F) {ρ : Nat → Rb} {N : Nat} {args : Array Value} (hp : pcOk E q60013.pre) (ha : F2 (Ar E ρ N) q60013.args args) (w : World) : Calls Go.Proofs.Try.prog 6 args w fun e w' => e = .returned (.bool true) ∧ RowKit.Below w.heap.size w w' :=
  (law_okF (c := q60013) (cfL_ok (P := Go.Proofs.Try.prog) (l := [p8]) (lm := [p1042, p2042, p3282, p3322, p4012]) (ll := []) ⟨ok8, trivial⟩ ⟨ok1042, ok2042, ok3282, ok3322, ok4012, trivial⟩ trivial) chk60013 rfl rfl rfl F6 plain60013).2 hE hp ha w
theorem plain60020 (E : Env) (_ : E.F = Fs.F) (_ : ∀ d ∈ d60020, d.ok E) : t60020.den E = 1 := rfl
theorem law60020 {E : Env} (hE : E.F = Fs.F) {ρ : Nat → Rb} {N : Nat} {args : Array Value} (hp : pcOk E q60020.pre) (ha : F2 (Ar E ρ N) q60020.args args) (w : World) : Calls Go.Proofs.Try.prog 6 args w fun e w' => e = .returned (.bool true) ∧ RowKit.Below w.heap.size w w' :=
  (law_okF (c := q60020) (cfL_ok (P := Go.Proofs.Try.prog) (l := [p8]) (lm := [p1050, p2050, p3280, p3320, p4020]) (ll := []) ⟨ok8, trivial⟩ ⟨ok1050, ok2050, ok3280, ok3320, ok4020, trivial⟩ trivial) chk60020 rfl rfl rfl F6 plain60020).2 hE hp ha w
theorem plain60021 (E : Env) (_ : E.F = Fs.F) (_ : ∀ d ∈ d60021, d.ok E) : t60021.den E = 1 := rfl
theorem law60021 {E : Env} (hE : E.F = Fs.F) {ρ : Nat → Rb} {N : Nat} {args : Array Value} (hp : pcOk E q60021.pre) (ha : F2 (Ar E ρ N) q60021.args args) (w : World) : Calls Go.Proofs.Try.prog 6 args w fun e w' => e = .returned (.bool true) ∧ RowKit.Below w.heap.size w w' :=
  (law_okF (c := q60021) (cfL_ok (P := Go.Proofs.Try.prog) (l := [p8]) (lm := [p1051, p2051, p3281, p3321, p4021]) (ll := []) ⟨ok8, trivial⟩ ⟨ok1051, ok2051, ok3281, ok3321, ok4021, trivial⟩ trivial) chk60021 rfl rfl rfl F6 plain60021).2 hE hp ha w
theorem plain60022 (E : Env) (_ : E.F = Fs.F) (_ : ∀ d ∈ d60022, d.ok E) : t60022.den E = 1 := rfl
theorem law60022 {E : Env} (hE : E.F = Fs.F) {ρ : Nat → Rb} {N : Nat} {args : Array Value} (hp : pcOk E q60022.pre) (ha : F2 (Ar E ρ N) q60022.args args) (w : World) : Calls Go.Proofs.Try.prog 6 args w fun e w' => e = .returned (.bool true) ∧ RowKit.Below w.heap.size w w' :=
  (law_okF (c := q60022) (cfL_ok (P := Go.Proofs.Try.prog) (l := [p8]) (lm := [p1052, p2052, p3282, p3322, p4022]) (ll := []) ⟨ok8, trivial⟩ ⟨ok1052, ok2052, ok3282, ok3322, ok4022, trivial⟩ trivial) chk60022 rfl rfl rfl F6 plain60022).2 hE hp ha w
theorem plain60023 (E : Env) (_ : E.F = Fs.F) (_ : ∀ d ∈ d60023, d.ok E) : t60023.den E = 1 := rfl
theorem law60023 {E : Env} (hE : E.F = Fs.F) {ρ : Nat → Rb} {N : Nat} {args : Array Value} (hp : pcOk E q60023.pre) (ha : F2 (Ar E ρ N) q60023.args args) (w : World) : Calls Go.Proofs.Try.prog 6 args w fun e w' => e = .returned (.bool true) ∧ RowKit.Below w.heap.size w w' :=
  (law_okF (c := q60023) (cfL_ok (P := Go.Proofs.Try.prog) (l := [p8]) (lm := [p1052, p2052, p3282, p3322, p4022]) (ll := []) ⟨ok8, trivial⟩ ⟨ok1052, ok2052, ok3282, ok3322, ok4022, trivial⟩ trivial) chk60023 rfl rfl rfl F6 plain60023).2 hE hp ha w
theorem plain60030 (E : Env) (_ : E.F = Fs.F) (_ : ∀ d ∈ d60030, d.ok E) : t60030.den E = 1 := rfl
theorem law60030 {E : Env} (hE : E.F = Fs.F) {ρ : Nat → Rb} {N : Nat} {args : Array Value} (hp : pcOk E q60030.pre) (ha : F2 (Ar E ρ N) q60030.args args) (w : World) : Calls Go.Proofs.Try.prog 6 args w fun e w' => e = .returned (.bool true) ∧ RowKit.Below w.heap.size w w' :=
  (law_okF (c := q60030) (cfL_ok (P := Go.Proofs.Try.prog) (l := [p8]) (lm := [p1060, p2060, p3280, p3320, p4030]) (ll := []) ⟨ok8, trivial⟩ ⟨ok1060, ok2060, ok3280, ok3320, ok4030, trivial⟩ trivial) chk60030 rfl rfl rfl F6 plain60030).2 hE hp ha w
theorem plain60031 (E : Env) (_ : E.F = Fs.F) (_ : ∀ d ∈ d60031, d.ok E) : t60031.den E = 1 := rfl
theorem law60031 {E : Env} (hE : E.F = Fs.F) {ρ : Nat → Rb} {N : Nat} {args : Array Value} (hp : pcOk E q60031.pre) (ha : F2 (Ar E ρ N) q60031.args args) (w : World) : Calls Go.Proofs.Try.prog 6 args w fun e w' => e = .returned (.bool true) ∧ RowKit.Below w.heap.size w w' :=
  (law_okF (c := q60031) (cfL_ok (P := Go.Proofs.Try.prog) (l := [p8]) (lm := [p1061, p2061, p3281, p3321, p4031]) (ll := []) ⟨ok8, trivial⟩ ⟨ok1061, ok2061, ok3281, ok3321, ok4031, trivial⟩ trivial) chk60031 rfl rfl rfl F6 plain60031).2 hE hp ha w
theorem plain60032 (E : Env) (_ : E.F = Fs.F) (_ : ∀ d ∈ d60032, d.ok E) : t60032.den E = 1 := rfl
theorem law60032 {E : Env} (hE : E.F = Fs.F) {ρ : Nat → Rb} {N : Nat} {args : Array Value} (hp : pcOk E q60032.pre) (ha : F2 (Ar E ρ N) q60032.args args) (w : World) : Calls Go.Proofs.Try.prog 6 args w fun e w' => e = .returned (.bool true) ∧ RowKit.Below w.heap.size w w' :=
  (law_okF (c := q60032) (cfL_ok (P := Go.Proofs.Try.prog) (l := [p8]) (lm := [p1062, p2062, p3282, p3322, p4032]) (ll := []) ⟨ok8, trivial⟩ ⟨ok1062, ok2062, ok3282, ok3322, ok4032, trivial⟩ trivial) chk60032 rfl rfl rfl F6 plain60032).2 hE hp ha w
theorem plain60033 (E : Env) (_ : E.F = Fs.F) (_ : ∀ d ∈ d60033, d.ok E) : t60033.den E = 1 := rfl
theorem law60033 {E : Env} (hE : E.F = Fs.F) {ρ : Nat → Rb} {N : Nat} {args : Array Value} (hp : pcOk E q60033.pre) (ha : F2 (Ar E ρ N) q60033.args args) (w : World) : Calls Go.Proofs.Try.prog 6 args w fun e w' => e = .returned (.bool true) ∧ RowKit.Below w.heap.size w w' :=
  (law_okF (c := q60033) (cfL_ok (P := Go.Proofs.Try.prog) (l := [p8]) (lm := [p1062, p2062, p3282, p3322, p4032]) (ll := []) ⟨ok8, trivial⟩ ⟨ok1062, ok2062, ok3282, ok3322, ok4032, trivial⟩ trivial) chk60033 rfl rfl rfl F6 plain60033).2 hE hp ha w
theorem plain60040 (E : Env) (_ : E.F = Fs.F) (_ : ∀ d ∈ d60040, d.ok E) : t60040.den E = 1 := rfl
theorem law60040 {E : Env} (hE : E.F = Fs.F) {ρ : Nat → Rb} {N : Nat} {args : Array Value} (hp : pcOk E q60040.pre) (ha : F2 (Ar E ρ N) q60040.args args) (w : World) : Calls Go.Proofs.Try.prog 6 args w fun e w' => e = .returned (.bool true) ∧ RowKit.Below w.heap.size w w' :=
  (law_okF (c := q60040) (cfL_ok (P := Go.Proofs.Try.prog) (l := [p8]) (lm := [p1070, p2070, p3280, p3320, p4040]) (ll := []) ⟨ok8, trivial⟩ ⟨ok1070, ok2070, ok3280, ok3320, ok4040, trivial⟩ trivial) chk60040 rfl rfl rfl F6 plain60040).2 hE hp ha w
theorem plain60041 (E : Env) (_ : E.F = Fs.F) (_ : ∀ d ∈ d60041, d.ok E) : t60041.den E = 1 := rfl
theorem law60041 {E : Env} (hE : E.F = Fs.F) {ρ : Nat → Rb} {N : Nat} {args : Array Value} (hp : pcOk E q60041.pre) (ha : F2 (Ar E ρ N) q60041.args args) (w : World) : Calls Go.Proofs.Try.prog 6 args w fun e w' => e = .returned (.bool true) ∧ RowKit.Below w.heap.size w w' :=
  (law_okF (c := q60041) (cfL_ok (P := Go.Proofs.Try.prog) (l := [p8]) (lm := [p1071, p2071, p3281, p3321, p4041]) (ll := []) ⟨ok8, trivial⟩ ⟨ok1071, ok2071, ok3281, ok3321, ok4041, trivial⟩ trivial) chk60041 rfl rfl rfl F6 plain60041).2 hE hp ha w
theorem plain60042 (E : Env) (_ : E.F = Fs.F) (_ : ∀ d ∈ d60042, d.ok E) : t60042.den E = 1 := rfl
theorem law60042 {E : Env} (hE : E.F = Fs.F) {ρ : Nat → Rb} {N : Nat} {args : Array Value} (hp : pcOk E q60042.pre) (ha : F2 (Ar E ρ N) q60042.args args) (w : World) : Calls Go.Proofs.Try.prog 6 args w fun e w' => e = .returned (.bool true) ∧ RowKit.Below w.heap.size w w' :=
  (law_okF (c := q60042) (cfL_ok (P := Go.Proofs.Try.prog) (l := [p8]) (lm := [p1072, p2072, p3282, p3322, p4042]) (ll := []) ⟨ok8, trivial⟩ ⟨ok1072, ok2072, ok3282, ok3322, ok4042, trivial⟩ trivial) chk60042 rfl rfl rfl F6 plain60042).2 hE hp ha w
theorem plain60043 (E : Env) (_ : E.F = Fs.F) (_ : ∀ d ∈ d60043, d.ok E) : t60043.den E = 1 := rfl
theorem law60043 {E : Env} (hE : E.F = Fs.F) {ρ : Nat → Rb} {N : Nat} {args : Array Value} (hp : pcOk E q60043.pre) (ha : F2 (Ar E ρ N) q60043.args args) (w : World) : Calls Go.Proofs.Try.prog 6 args w fun e w' => e = .returned (.bool true) ∧ RowKit.Below w.heap.size w w' :=
  (law_okF (c := q60043) (cfL_ok (P := Go.Proofs.Try.prog) (l := [p8]) (lm := [p1072, p2072, p3282, p3322, p4042]) (ll := []) ⟨ok8, trivial⟩ ⟨ok1072, ok2072, ok3282, ok3322, ok4042, trivial⟩ trivial) chk60043 rfl rfl rfl F6 plain60043).2 hE hp ha w
theorem plain60050 (E : Env) (_ : E.F = Fs.F) (_ : ∀ d ∈ d60050, d.ok E) : t60050.den E = 1 := rfl
theorem law60050 {E : Env} (hE : E.F = Fs.F) {ρ : Nat → Rb} {N : Nat} {args : Array Value} (hp : pcOk E q60050.pre) (ha : F2 (Ar E ρ N) q60050.args args) (w : World) : Calls Go.Proofs.Try.prog 6 args w fun e w' => e = .returned (.bool true) ∧ RowKit.Below w.heap.size w w' :=
  (law_okF (c := q60050) (cfL_ok (P := Go.Proofs.Try.prog) (l := [p8]) (lm := [p1080, p2080, p3280, p3320, p4050]) (ll := []) ⟨ok8, trivial⟩ ⟨ok1080, ok2080, ok3280, ok3320, ok4050, trivial⟩ trivial) chk60050 rfl rfl rfl F6 plain60050).2 hE hp ha w
theorem plain60051 (E : Env) (_ : E.F = Fs.F) (_ : ∀ d ∈ d60051, d.ok E) : t60051.den E = 1 := rfl
theorem law60051 {E : Env} (hE : E.F = Fs.F) {ρ : Nat → Rb} {N : Nat} {args : Array Value} (hp : pcOk E q60051.pre) (ha : F2 (Ar E ρ N) q60051.args args) (w : World) : Calls Go.Proofs.Try.prog 6 args w fun e w' => e = .returned (.bool true) ∧ RowKit.Below w.heap.size w w' :=
  (law_okF (c := q60051) (cfL_ok (P := Go.Proofs.Try.prog) (l := [p8]) (lm := [p1081, p2081, p3281, p3321, p4051]) (ll := []) ⟨ok8, trivial⟩ ⟨ok1081, ok2081, ok3281, ok3321, ok4051, trivial⟩ trivial) chk60051 rfl rfl rfl F6 plain60051).2 hE hp ha w
theorem plain60052 (E : Env) (_ : E.F = Fs.F) (_ : ∀ d ∈ d60052, d.ok E) : t60052.den E = 1 := rfl
theorem law60052 {E : Env} (hE : E.F = Fs.F) {ρ : Nat → Rb} {N : Nat} {args : Array Value} (hp : pcOk E q60052.pre) (ha : F2 (Ar E ρ N) q60052.args args) (w : World) : Calls Go.Proofs.Try.prog 6 args w fun e w' => e = .returned (.bool true) ∧ RowKit.Below w.heap.size w w' :=
  (law_okF (c := q60052) (cfL_ok (P := Go.Proofs.Try.prog) (l := [p8]) (lm := [p1082, p2082, p3282, p3322, p4052]) (ll := []) ⟨ok8, trivial⟩ ⟨ok1082, ok2082, ok3282, ok3322, ok4052, trivial⟩ trivial) chk60052 rfl rfl rfl F6 plain60052).2 hE hp ha w
theorem plain60053 (E : Env) (_ : E.F = Fs.F) (_ : ∀ d ∈ d60053, d.ok E) : t60053.den E = 1 := rfl
theorem law60053 {E : Env} (hE : E.F = Fs.F) {ρ : Nat → Rb} {N : Nat} {args : Array Value} (hp : pcOk E q60053.pre) (ha : F2 (Ar E ρ N) q60053.args args) (w : World) : Calls Go.Proofs.Try.prog 6 args w fun e w' => e = .returned (.bool true) ∧ RowKit.Below w.heap.size w w' :=
  (law_okF (c := q60053) (cfL_ok (P := Go.Proofs.Try.prog) (l := [p8]) (lm := [p1082, p2082, p3282, p3322, p4052]) (ll := []) ⟨ok8, trivial⟩ ⟨ok1082, ok2082, ok3282, ok3322, ok4052, trivial⟩ trivial) chk60053 rfl rfl rfl F6 plain60053).2 hE hp ha w
theorem plain60060 (E : Env) (_ : E.F = Fs.F) (_ : ∀ d ∈ d60060, d.ok E) : t60060.den E = 1 := rfl
theorem law60060 {E : Env} (hE : E.F = Fs.F) {ρ : Nat → Rb} {N : Nat} {args : Array Value} (hp : pcOk E q60060.pre) (ha : F2 (Ar E ρ N) q60060.args args) (w : World) : Calls Go.Proofs.Try.prog 6 args w fun e w' => e = .returned (.bool true) ∧ RowKit.Below w.heap.size w w' :=
  (law_okF (c := q60060) (cfL_ok (P := Go.Proofs.Try.prog) (l := [p8]) (lm := [p1090, p2090, p3280, p3320, p4060]) (ll := []) ⟨ok8, trivial⟩ ⟨ok1090, ok2090, ok3280, ok3320, ok4060, trivial⟩ trivial) chk60060 rfl rfl rfl F6 plain60060).2 hE hp ha w
theorem plain60061 (E : Env) (_ : E.F = Fs.F) (_ : ∀ d ∈ d60061, d.ok E) : t60061.den E = 1 := rfl
theorem law60061 {E : Env} (hE : E.F = Fs.F) {ρ : Nat → Rb} {N : Nat} {args : Array Value} (hp : pcOk E q60061.pre) (ha : F2 (Ar E ρ N) q60061.args args) (w : World) : Calls Go.Proofs.Try.prog 6 args w fun e w' => e = .returned (.bool true) ∧ RowKit.Below w.heap.size w w' :=
  (law_okF (c := q60061) (cfL_ok (P := Go.Proofs.Try.prog) (l := [p8]) (lm := [p1091, p2091, p3281, p3321, p4061]) (ll := []) ⟨ok8, trivial⟩ ⟨ok1091, ok2091, ok3281, ok3321, ok4061, trivial⟩ trivial) chk60061 rfl rfl rfl F6 plain60061).2 hE hp ha w
theorem plain60062 (E : Env) (_ : E.F = Fs.F) (_ : ∀ d ∈ d60062, d.ok E) : t60062.den E = 1 := rfl
theorem law60062 {E : Env} (hE : E.F = Fs.F) {ρ : Nat → Rb} {N : Nat} {args : Array Value} (hp : pcOk E q60062.pre) (ha : F2 (Ar E ρ N) q60062.args args) (w : World) : Calls Go.Proofs.Try.prog 6 args w fun e w' => e = .returned (.bool true) ∧ RowKit.Below w.heap.size w w' :=
  (law_okF (c := q60062) (cfL_ok (P := Go.Proofs.Try.prog) (l := [p8]) (lm := [p1092, p2092, p3282, p3322, p4062]) (ll := []) ⟨ok8, trivial⟩ ⟨ok1092, ok2092, ok3282, ok3322, ok4062, trivial⟩ trivial) chk60062 rfl rfl rfl F6 plain60062).2 hE hp ha w
theorem plain60063 (E : Env) (_ : E.F = Fs.F) (_ : ∀ d ∈ d60063, d.ok E) : t60063.den E = 1 := rfl
theorem law60063 {E : Env} (hE : E.F = Fs.F) {ρ : Nat → Rb} {N : Nat} {args : Array Value} (hp : pcOk E q60063.pre) (ha : F2 (Ar E ρ N) q60063.args args) (w : World) : Calls Go.Proofs.Try.prog 6 args w fun e w' => e = .returned (.bool true) ∧ RowKit.Below w.heap.size w w' :=
  (law_okF (c := q60063) (cfL_ok (P := Go.Proofs.Try.prog) (l := [p8]) (lm := [p1092, p2092, p3282, p3322, p4062]) (ll := []) ⟨ok8, trivial⟩ ⟨ok1092, ok2092, ok3282, ok3322, ok4062, trivial⟩ trivial) chk60063 rfl rfl rfl F6 plain60063).2 hE hp ha w
theorem plain60070 (E : Env) (_ : E.F = Fs.F) (_ : ∀ d ∈ d60070, d.ok E) : t60070.den E = 1 := rfl
theorem law60070 {E : Env} (hE : E.F = Fs.F) {ρ : Nat → Rb} {N : Nat} {args : Array Value} (hp : pcOk E q60070.pre) (ha : F2 (Ar E ρ N) q60070.args args) (w : World) : Calls Go.Proofs.Try.prog 6 args w fun e w' => e = .returned (.bool true) ∧ RowKit.Below w.heap.size w w' :=
  (law_okF (c := q60070) (cfL_ok (P := Go.Proofs.Try.prog) (l := [p8]) (lm := [p1100, p2100, p3280, p3320, p4070]) (ll := []) ⟨ok8, trivial⟩ ⟨ok1100, ok2100, ok3280, ok3320, ok4070, trivial⟩ trivial) chk60070 rfl rfl rfl F6 plain60070).2 hE hp ha w
theorem plain60071 (E : Env) (_ : E.F = Fs.F) (_ : ∀ d ∈ d60071, d.ok E) : t60071.den E = 1 := rfl
theorem law60071 {E : Env} (hE : E.F = Fs.F) {ρ : Nat → Rb} {N : Nat} {args : Array Value} (hp : pcOk E q60071.pre) (ha : F2 (Ar E ρ N) q60071.args args) (w : World) : Calls Go.Proofs.Try.prog 6 args w fun e w' => e = .returned (.bool true) ∧ RowKit.Below w.heap.size w w' :=
  (law_okF (c := q60071) (cfL_ok (P := Go.Proofs.Try.prog) (l := [p8]) (lm := [p1101, p2101, p3281, p3321, p4071]) (ll := []) ⟨ok8, trivial⟩ ⟨ok1101, ok2101, ok3281, ok3321, ok4071, trivial⟩ trivial) chk60071 rfl rfl rfl F6 plain60071).2 hE hp ha w
theorem plain60072 (E : Env) (_ : E.F = Fs.F) (_ : ∀ d ∈ d60072, d.ok E) : t60072.den E = 1 := rfl
theorem law60072 {E : Env} (hE : E.F = Fs.F) {ρ : Nat → Rb} {N : Nat} {args : Array Value} (hp : pcOk E q60072.pre) (ha : F2 (Ar E ρ N) q60072.args args) (w : World) : Calls Go.Proofs.Try.prog 6 args w fun e w' => e = .returned (.bool true) ∧ RowKit.Below w.heap.size w w' :=
  (law_okF (c := q60072) (cfL_ok (P := Go.Proofs.Try.prog) (l := [p8]) (lm := [p1102, p2102, p3282, p3322, p4072]) (ll := []) ⟨ok8, trivial⟩ ⟨ok1102, ok2102, ok3282, ok3322, ok4072, trivial⟩ trivial) chk60072 rfl rfl rfl F6 plain60072).2 hE hp ha w
theorem plain60073 (E : Env) (_ : E.F = Fs.F) (_ : ∀ d ∈ d60073, d.ok E) : t60073.den E = 1 := rfl
theorem law60073 {E : Env} (hE : E.F = Fs.F) {ρ : Nat → Rb} {N : Nat} {args : Array Value} (hp : pcOk E q60073.pre) (ha : F2 (Ar E ρ N) q60073.args args) (w : World) : Calls Go.Proofs.Try.prog 6 args w fun e w' => e = .returned (.bool true) ∧ RowKit.Below w.heap.size w w' :=
  (law_okF (c := q60073) (cfL_ok (P := Go.Proofs.Try.prog) (l := [p8]) (lm := [p1102, p2102, p3282, p3322, p4072]) (ll := []) ⟨ok8, trivial⟩ ⟨ok1102, ok2102, ok3282, ok3322, ok4072, trivial⟩ trivial) chk60073 rfl rfl rfl F6 plain60073).2 hE hp ha w
theorem plain60080 (E : Env) (_ : E.F = Fs.F) (_ : ∀ d ∈ d60080, d.ok E) : t60080.den E = 1 := rfl
theorem law60080 {E : Env} (hE : E.F = Fs.F) {ρ : Nat → Rb} {N : Nat} {args : Array Value} (hp : pcOk E q60080.pre) (ha : F2 (Ar E ρ N) q60080.args args) (w : World) : Calls Go.Proofs.Try.prog 6 args w fun e w' => e = .returned (.bool true) ∧ RowKit.Below w.heap.size w w' :=
  (law_okF (c := q60080) (cfL_ok (P := Go.Proofs.Try.prog) (l := [p8]) (lm := [p1030, p2030, p3280, p3320, p4080]) (ll := []) ⟨ok8, trivial⟩ ⟨ok1030, ok2030, ok3280, ok3320, ok4080, trivial⟩ trivial) chk60080 rfl rfl rfl F6 plain60080).2 hE hp ha w
theorem plain60081 (E : Env) (_ : E.F = Fs.F) (_ : ∀ d ∈ d60081, d.ok E) : t60081.den E = 1 := rfl
theorem law60081 {E : Env} (hE : E.F = Fs.F) {ρ : Nat → Rb} {N : Nat} {args : Array Value} (hp : pcOk E q60081.pre) (ha : F2 (Ar E ρ N) q60081.args args) (w : World) : Calls Go.Proofs.Try.prog 6 args w fun e w' => e = .returned (.bool true) ∧ RowKit.Below w.heap.size w w' :=
  (law_okF (c := q60081) (cfL_ok (P := Go.Proofs.Try.prog) (l := [p8]) (lm := [p1031, p2031, p3281, p3321, p4081]) (ll := []) ⟨ok8, trivial⟩ ⟨ok1031, ok2031, ok3281, ok3321, ok4081, trivial⟩ trivial) chk60081 rfl rfl rfl F6 plain60081).2 hE hp ha w
theorem plain60082 (E : Env) (_ : E.F = Fs.F) (_ : ∀ d ∈ d60082, d.ok E) : t60082.den E = 1 := rfl
theorem law60082 {E : Env} (hE : E.F = Fs.F) {ρ : Nat → Rb} {N : Nat} {args : Array Value} (hp : pcOk E q60082.pre) (ha : F2 (Ar E ρ N) q60082.args args) (w : World) : Calls Go.Proofs.Try.prog 6 args w fun e w' => e = .returned (.bool true) ∧ RowKit.Below w.heap.size w w' :=
  (law_okF (c := q60082) (cfL_ok (P := Go.Proofs.Try.prog) (l := [p8]) (lm := [p1032, p2032, p3282, p3322, p4082]) (ll := []) ⟨ok8, trivial⟩ ⟨ok1032, ok2032, ok3282, ok3322, ok4082, trivial⟩ trivial) chk60082 rfl rfl rfl F6 plain60082).2 hE hp ha w
theorem plain60083 (E : Env) (_ : E.F = Fs.F) (_ : ∀ d ∈ d60083, d.ok E) : t60083.den E = 1 := rfl
theorem law60083 {E : Env} (hE : E.F = Fs.F) {ρ : Nat → Rb} {N : Nat} {args : Array Value} (hp : pcOk E q60083.pre) (ha : F2 (Ar E ρ N) q60083.args args) (w : World) : Calls Go.Proofs.Try.prog 6 args w fun e w' => e = .returned (.bool true) ∧ RowKit.Below w.heap.size w w' :=
  (law_okF (c := q60083) (cfL_ok (P := Go.Proofs.Try.prog) (l := [p8]) (lm := [p1032, p2032, p3282, p3322, p4082]) (ll := []) ⟨ok8, trivial⟩ ⟨ok1032, ok2032, ok3282, ok3322, ok4082, trivial⟩ trivial) chk60083 rfl rfl rfl F6 plain60083).2 hE hp ha w
theorem plain60090 (E : Env) (_ : E.F = Fs.F) (_ : ∀ d ∈ d60090, d.ok E) : t60090.den E = 1 := rfl
theorem law60090 {E : Env} (hE : E.F = Fs.F) {ρ : Nat → Rb} {N : Nat} {args : Array Value} (hp : pcOk E q60090.pre) (ha : F2 (Ar E ρ N) q60090.args args) (w : World) : Calls Go.Proofs.Try.prog 6 args w fun e w' => e = .returned (.bool true) ∧ RowKit.Below w.heap.size w w' :=
  (law_okF (c := q60090) (cfL_ok (P := Go.Proofs.Try.prog) (l := [p8]) (lm := [p1040, p2040, p3280, p3320, p4090]) (ll := []) ⟨ok8, trivial⟩ ⟨ok1040, ok2040, ok3280, ok3320, ok4090, trivial⟩ trivial) chk60090 rfl rfl rfl F6 plain60090).2 hE hp ha w
theorem plain60091 (E : Env) (_ : E.F = Fs.F) (_ : ∀ d ∈ d60091, d.ok E) : t60091.den E = 1 := rfl
theorem law60091 {E : Env} (hE : E.F = Fs.F) {ρ : Nat → Rb} {N : Nat} {args : Array Value} (hp : pcOk E q60091.pre) (ha : F2 (Ar E ρ N) q60091.args args) (w : World) : Calls Go.Proofs.Try.prog 6 args w fun e w' => e = .returned (.bool true) ∧ RowKit.Below w.heap.size w w' :=
  (law_okF (c := q60091) (cfL_ok (P := Go.Proofs.Try.prog) (l := [p8]) (lm := [p1041, p2041, p3281, p3321, p4091]) (ll := []) ⟨ok8, trivial⟩ ⟨ok1041, ok2041, ok3281, ok3321, ok4091, trivial⟩ trivial) chk60091 rfl rfl rfl F6 plain60091).2 hE hp ha w
theorem plain60092 (E : Env) (_ : E.F = Fs.F) (_ : ∀ d ∈ d60092, d.ok E) : t60092.den E = 1 := rfl
theorem law60092 {E : Env} (hE : E.F = Fs.F) {ρ : Nat → Rb} {N : Nat} {args : Array Value} (hp : pcOk E q60092.pre) (ha : F2 (Ar E ρ N) q60092.args args) (w : World) : Calls Go.Proofs.Try.prog 6 args w fun e w' => e = .returned (.bool true) ∧ RowKit.Below w.heap.size w w' :=
  (law_okF (c := q60092) (cfL_ok (P := Go.Proofs.Try.prog) (l := [p8]) (lm := [p1042, p2042, p3282, p3322, p4092]) (ll := []) ⟨ok8, trivial⟩ ⟨ok1042, ok2042, ok3282, ok3322, ok4092, trivial⟩ trivial) chk60092 rfl rfl rfl F6 plain60092).2 hE hp ha w
theorem plain60093 (E : Env) (_ : E.F = Fs.F) (_ : ∀ d ∈ d60093, d.ok E) : t60093.den E = 1 := rfl
theorem law60093 {E : Env} (hE : E.F = Fs.F) {ρ : Nat → Rb} {N : Nat} {args : Array Value} (hp : pcOk E q60093.pre) (ha : F2 (Ar E ρ N) q60093.args args) (w : World) : Calls Go.Proofs.Try.prog 6 args w fun e w' => e = .returned (.bool true) ∧ RowKit.Below w.heap.size w w' :=
  (law_okF (c := q60093) (cfL_ok (P := Go.Proofs.Try.prog) (l := [p8]) (lm := [p1042, p2042, p3282, p3322, p4092]) (ll := []) ⟨ok8, trivial⟩ ⟨ok1042, ok2042, ok3282, ok3322, ok4092, trivial⟩ trivial) chk60093 rfl rfl rfl F6 plain60093).2 hE hp ha w
theorem plain60100 (E : Env) (_ : E.F = Fs.F) (_ : ∀ d ∈ d60100, d.ok E) : t60100.den E = 1 := rfl
theorem law60100 {E : Env} (hE : E.F = Fs.F) {ρ : Nat → Rb} {N : Nat} {args : Array Value} (hp : pcOk E q60100.pre) (ha : F2 (Ar E ρ N) q60100.args args) (w : World) : Calls Go.Proofs.Try.prog 6 args w fun e w' => e = .returned (.bool true) ∧ RowKit.Below w.heap.size w w' :=
  (law_okF (c := q60100) (cfL_ok (P := Go.Proofs.Try.prog) (l := [p8]) (lm := [p1050, p2050, p3280, p3320, p4100]) (ll := []) ⟨ok8, trivial⟩ ⟨ok1050, ok2050, ok3280, ok3320, ok4100, trivial⟩ trivial) chk60100 rfl rfl rfl F6 plain60100).2 hE hp ha w
theorem plain60101 (E : Env) (_ : E.F = Fs.F) (_ : ∀ d ∈ d60101, d.ok E) : t60101.den E = 1 := rfl
theorem law60101 {E : Env} (hE : E.F = Fs.F) {ρ : Nat → Rb} {N : Nat} {args : Array Value} (hp : pcOk E q60101.pre) (ha : F2 (Ar E ρ N) q60101.args args) (w : World) : Calls Go.Proofs.Try.prog 6 args w fun e w' => e = .returned (.bool true) ∧ RowKit.Below w.heap.size w w' :=
  (law_okF (c := q60101) (cfL_ok (P := Go.Proofs.Try.prog) (l := [p8]) (lm := [p1051, p2051, p3281, p3321, p4101]) (ll := []) ⟨ok8, trivial⟩ ⟨ok1051, ok2051, ok3281, ok3321, ok4101, trivial⟩ trivial) chk60101 rfl rfl rfl F6 plain60101).2 hE hp ha w
theorem plain60102 (E : Env) (_ : E.F = Fs.F) (_ : ∀ d ∈ d60102, d.ok E) : t60102.den E = 1 := rfl
theorem law60102 {E : Env} (hE : E.F = Fs.F) {ρ : Nat → Rb} {N : Nat} {args : Array Value} (hp : pcOk E q60102.pre) (ha : F2 (Ar E ρ N) q60102.args args) (w : World) : Calls Go.Proofs.Try.prog 6 args w fun e w' => e = .returned (.bool true) ∧ RowKit.Below w.heap.size w w' :=
  (law_okF (c := q60102) (cfL_ok (P := Go.Proofs.Try.prog) (l := [p8]) (lm := [p1052, p2052, p3282, p3322, p4102]) (ll := []) ⟨ok8, trivial⟩ ⟨ok1052, ok2052, ok3282, ok3322, ok4102, trivial⟩ trivial) chk60102 rfl rfl rfl F6 plain60102).2 hE hp ha w
theorem plain60103 (E : Env) (_ : E.F = Fs.F) (_ : ∀ d ∈ d60103, d.ok E) : t60103.den E = 1 := rfl
theorem law60103 {E : Env} (hE : E.F = Fs.F) {ρ : Nat → Rb} {N : Nat} {args : Array Value} (hp : pcOk E q60103.pre) (ha : F2 (Ar E ρ N) q60103.args args) (w : World) : Calls Go.Proofs.Try.prog 6 args w fun e w' => e = .returned (.bool true) ∧ RowKit.Below w.heap.size w w' :=
  (law_okF (c := q60103) (cfL_ok (P := Go.Proofs.Try.prog) (l := [p8]) (lm := [p1052, p2052, p3282, p3322, p4102]) (ll := []) ⟨ok8, trivial⟩ ⟨ok1052, ok2052, ok3282, ok3322, ok4102, trivial⟩ trivial) chk60103 rfl rfl rfl F6 plain60103).2 hE hp ha w
theorem plain60110 (E : Env) (_ : E.F = Fs.F) (_ : ∀ d ∈ d60110, d.ok E) : t60110.den E = 1 := rfl
theorem law60110 {E : Env} (hE : E.F = Fs.F) {ρ : Nat → Rb} {N : Nat} {args : Array Value} (hp : pcOk E q60110.pre) (ha : F2 (Ar E ρ N) q60110.args args) (w : World) : Calls Go.Proofs.Try.prog 6 args w fun e w' => e = .returned (.bool true) ∧ RowKit.Below w.heap.size w w' :=
  (law_okF (c := q60110) (cfL_ok (P := Go.Proofs.Try.prog) (l := [p8]) (lm := [p1060, p2060, p3280, p3320, p4110]) (ll := []) ⟨ok8, trivial⟩ ⟨ok1060, ok2060, ok3280, ok3320, ok4110, trivial⟩ trivial) chk60110 rfl rfl rfl F6 plain60110).2 hE hp ha w
theorem plain60111 (E : Env) (_ : E.F = Fs.F) (_ : ∀ d ∈ d60111, d.ok E) : t60111.den E = 1 := rfl
theorem law60111 {E : Env} (hE : E.F = Fs.F) {ρ : Nat → Rb} {N : Nat} {args : Array Value} (hp : pcOk E q60111.pre) (ha : F2 (Ar E ρ N) q60111.args args) (w : World) : Calls Go.Proofs.Try.prog 6 args w fun e w' => e = .returned (.bool true) ∧ RowKit.Below w.heap.size w w' :=
  (law_okF (c := q60111) (cfL_ok (P := Go.Proofs.Try.prog) (l := [p8]) (lm := [p1061, p2061, p3281, p3321, p4111]) (ll := []) ⟨ok8, trivial⟩ ⟨ok1061, ok2061, ok3281, ok3321, ok4111, trivial⟩ trivial) chk60111 rfl rfl rfl F6 plain60111).2 hE hp ha w
theorem plain60112 (E : Env) (_ : E.F = Fs.F) (_ : ∀ d ∈ d60112, d.ok E) : t60112.den E = 1 := rfl
theorem law60112 {E : Env} (hE : E.F = Fs.F) {ρ : Nat → Rb} {N : Nat} {args : Array Value} (hp : pcOk E q60112.pre) (ha : F2 (Ar E ρ N) q60112.args args) (w : World) : Calls Go.Proofs.Try.prog 6 args w fun e w' => e = .returned (.bool true) ∧ RowKit.Below w.heap.size w w' :=
  (law_okF (c := q60112) (cfL_ok (P := Go.Proofs.Try.prog) (l := [p8]) (lm := [p1062, p2062, p3282, p3322, p4112]) (ll := []) ⟨ok8, trivial⟩ ⟨ok1062, ok2062, ok3282, ok3322, ok4112, trivial⟩ trivial) chk60112 rfl rfl rfl F6 plain60112).2 hE hp ha w
theorem plain60113 (E : Env) (_ : E.F = Fs.F) (_ : ∀ d ∈ d60113, d.ok E) : t60113.den E = 1 := rfl
theorem law60113 {E : Env} (hE : E.F = Fs.F) {ρ : Nat → Rb} {N : Nat} {args : Array Value} (hp : pcOk E q60113.pre) (ha : F2 (Ar E ρ N) q60113.args args) (w : World) : Calls Go.Proofs.Try.prog 6 args w fun e w' => e = .returned (.bool true) ∧ RowKit.Below w.heap.size w w' :=
  (law_okF (c := q60113) (cfL_ok (P := Go.Proofs.Try.prog) (l := [p8]) (lm := [p1062, p2062, p3282, p3322, p4112]) (ll := []) ⟨ok8, trivial⟩ ⟨ok1062, ok2062, ok3282, ok3322, ok4112, trivial⟩ trivial) chk60113 rfl rfl rfl F6 plain60113).2 hE hp ha w
theorem plain60120 (E : Env) (_ : E.F = Fs.F) (_ : ∀ d ∈ d60120, d.ok E) : t60120.den E = 1 := rfl
theorem law60120 {E : Env} (hE : E.F = Fs.F) {ρ : Nat → Rb} {N : Nat} {args : Array Value} (hp : pcOk E q60120.pre) (ha : F2 (Ar E ρ N) q60120.args args) (w : World) : Calls Go.Proofs.Try.prog 6 args w fun e w' => e = .returned (.bool true) ∧ RowKit.Below w.heap.size w w' :=
  (law_okF (c := q60120) (cfL_ok (P := Go.Proofs.Try.prog) (l := [p8]) (lm := [p1070, p2070, p3280, p3320, p4120]) (ll := []) ⟨ok8, trivial⟩ ⟨ok1070, ok2070, ok3280, ok3320, ok4120, trivial⟩ trivial) chk60120 rfl rfl rfl F6 plain60120).2 hE hp ha w
theorem plain60121 (E : Env) (_ : E.F = Fs.F) (_ : ∀ d ∈ d60121, d.ok E) : t60121.den E = 1 := rfl
theorem law60121 {E : Env} (hE : E.F = Fs.F) {ρ : Nat → Rb} {N : Nat} {args : Array Value} (hp : pcOk E q60121.pre) (ha : F2 (Ar E ρ N) q60121.args args) (w : World) : Calls Go.Proofs.Try.prog 6 args w fun e w' => e = .returned (.bool true) ∧ RowKit.Below w.heap.size w w' :=
  (law_okF (c := q60121) (cfL_ok (P := Go.Proofs.Try.prog) (l := [p8]) (lm := [p1071, p2071, p3281, p3321, p4121]) (ll := []) ⟨ok8, trivial⟩ ⟨ok1071, ok2071, ok3281, ok3321, ok4121, trivial⟩ trivial) chk60121 rfl rfl rfl F6 plain60121).2 hE hp ha w
theorem plain60122 (E : Env) (_ : E.F = Fs.F) (_ : ∀ d ∈ d60122, d.ok E) : t60122.den E = 1 := rfl
theorem law60122 {E : Env} (hE : E.F = Fs.F) {ρ : Nat → Rb} {N : Nat} {args : Array Value} (hp : pcOk E q60122.pre) (ha : F2 (Ar E ρ N) q60122.args args) (w : World) : Calls Go.Proofs.Try.prog 6 args w fun e w' => e = .returned (.bool true) ∧ RowKit.Below w.heap.size w w' :=
  (law_okF (c := q60122) (cfL_ok (P := Go.Proofs.Try.prog) (l := [p8]) (lm := [p1072, p2072, p3282, p3322, p4122]) (ll := []) ⟨ok8, trivial⟩ ⟨ok1072, ok2072, ok3282, ok3322, ok4122, trivial⟩ trivial) chk60122 rfl rfl rfl F6 plain60122).2 hE hp ha w
theorem plain60123 (E : Env) (_ : E.F = Fs.F) (_ : ∀ d ∈ d60123, d.ok E) : t60123.den E = 1 := rfl
theorem law60123 {E : Env} (hE : E.F = Fs.F) {ρ : Nat → Rb} {N : Nat} {args : Array Value} (hp : pcOk E q60123.pre) (ha : F2 (Ar E ρ N) q60123.args args) (w : World) : Calls Go.Proofs.Try.prog 6 args w fun e w' => e = .returned (.bool true) ∧ RowKit.Below w.heap.size w w' :=
  (law_okF (c := q60123) (cfL_ok (P := Go.Proofs.Try.prog) (l := [p8]) (lm := [p1072, p2072, p3282, p3322, p4122]) (ll := []) ⟨ok8, trivial⟩ ⟨ok1072, ok2072, ok3282, ok3322, ok4122, trivial⟩ trivial) chk60123 rfl rfl rfl F6 plain60123).2 hE hp ha w
theorem plain60130 (E : Env) (_ : E.F = Fs.F) (_ : ∀ d ∈ d60130, d.ok E) : t60130.den E = 1 := rfl
theorem law60130 {E : Env} (hE : E.F = Fs.F) {ρ : Nat → Rb} {N : Nat} {args : Array Value} (hp : pcOk E q60130.pre) (ha : F2 (Ar E ρ N) q60130.args args) (w : World) : Calls Go.Proofs.Try.prog 6 args w fun e w' => e = .returned (.bool true) ∧ RowKit.Below w.heap.size w w' :=
  (law_okF (c := q60130) (cfL_ok (P := Go.Proofs.Try.prog) (l := [p8]) (lm := [p1080, p2080, p3280, p3320, p4130]) (ll := []) ⟨ok8, trivial⟩ ⟨ok1080, ok2080, ok3280, ok3320, ok4130, trivial⟩ trivial) chk60130 rfl rfl rfl F6 plain60130).2 hE hp ha w
theorem plain60131 (E : Env) (_ : E.F = Fs.F) (_ : ∀ d ∈ d60131, d.ok E) : t60131.den E = 1 := rfl
theorem law60131 {E : Env} (hE : E.F = Fs.F) {ρ : Nat → Rb} {N : Nat} {args : Array Value} (hp : pcOk E q60131.pre) (ha : F2 (Ar E ρ N) q60131.args args) (w : World) : Calls Go.Proofs.Try.prog 6 args w fun e w' => e = .returned (.bool true) ∧ RowKit.Below w.heap.size w w' :=
  (law_okF (c := q60131) (cfL_ok (P := Go.Proofs.Try.prog) (l := [p8]) (lm := [p1081, p2081, p3281, p3321, p4131]) (ll := []) ⟨ok8, trivial⟩ ⟨ok1081, ok2081, ok3281, ok3321, ok4131, trivial⟩ trivial) chk60131 rfl rfl rfl F6 plain60131).2 hE hp ha w
theorem plain60132 (E : Env) (_ : E.F = Fs.F) (_ : ∀ d ∈ d60132, d.ok E) : t60132.den E = 1 := rfl
theorem law60132 {E : Env} (hE : E.F = Fs.F) {ρ : Nat → Rb} {N : Nat} {args : Array Value} (hp : pcOk E q60132.pre) (ha : F2 (Ar E ρ N) q60132.args args) (w : World) : Calls Go.Proofs.Try.prog 6 args w fun e w' => e = .returned (.bool true) ∧ RowKit.Below w.heap.size w w' :=
  (law_okF (c := q60132) (cfL_ok (P := Go.Proofs.Try.prog) (l := [p8]) (lm := [p1082, p2082, p3282, p3322, p4132]) (ll := []) ⟨ok8, trivial⟩ ⟨ok1082, ok2082, ok3282, ok3322, ok4132, trivial⟩ trivial) chk60132 rfl rfl rfl F6 plain60132).2 hE hp ha w
theorem plain60133 (E : Env) (_ : E.F = Fs.F) (_ : ∀ d ∈ d60133, d.ok E) : t60133.den E = 1 := rfl
theorem law60133 {E : Env} (hE : E.F = Fs.F) {ρ : Nat → Rb} {N : Nat} {args : Array Value} (hp : pcOk E q60133.pre) (ha : F2 (Ar E ρ N) q60133.args args) (w : World) : Calls Go.Proofs.Try.prog 6 args w fun e w' => e = .returned (.bool true) ∧ RowKit.Below w.heap.size w w' :=
  (law_okF (c := q60133) (cfL_ok (P := Go.Proofs.Try.prog) (l := [p8]) (lm := [p1082, p2082, p3282, p3322, p4132]) (ll := []) ⟨ok8, trivial⟩ ⟨ok1082, ok2082, ok3282, ok3322, ok4132, trivial⟩ trivial) chk60133 rfl rfl rfl F6 plain60133).2 hE hp ha w
theorem plain60140 (E : Env) (_ : E.F = Fs.F) (_ : ∀ d ∈ d60140, d.ok E) : t60140.den E = 1 := rfl
theorem law60140 {E : Env} (hE : E.F = Fs.F) {ρ : Nat → Rb} {N : Nat} {args : Array Value} (hp : pcOk E q60140.pre) (ha : F2 (Ar E ρ N) q60140.args args) (w : World) : Calls Go.Proofs.Try.prog 6 args w fun e w' => e = .returned (.bool true) ∧ RowKit.Below w.heap.size w w' :=
  (law_okF (c := q60140) (cfL_ok (P := Go.Proofs.Try.prog) (l := [p8]) (lm := [p1090, p2090, p3280, p3320, p4140]) (ll := []) ⟨ok8, trivial⟩ ⟨ok1090, ok2090, ok3280, ok3320, ok4140, trivial⟩ trivial) chk60140 rfl rfl rfl F6 plain60140).2 hE hp ha w
theorem plain60141 (E : Env) (_ : E.F = Fs.F) (_ : ∀ d ∈ d60141, d.ok E) : t60141.den E = 1 := rfl
theorem law60141 {E : Env} (hE : E.F = Fs.F) {ρ : Nat → Rb} {N : Nat} {args : Array Value} (hp : pcOk E q60141.pre) (ha : F2 (Ar E ρ N) q60141.args args) (w : World) : Calls Go.Proofs.Try.prog 6 args w fun e w' => e = .returned (.bool true) ∧ RowKit.Below w.heap.size w w' :=
  (law_okF (c := q60141) (cfL_ok (P := Go.Proofs.Try.prog) (l := [p8]) (lm := [p1091, p2091, p3281, p3321, p4141]) (ll := []) ⟨ok8, trivial⟩ ⟨ok1091, ok2091, ok3281, ok3321, ok4141, trivial⟩ trivial) chk60141 rfl rfl rfl F6 plain60141).2 hE hp ha w
theorem plain60142 (E : Env) (_ : E.F = Fs.F) (_ : ∀ d ∈ d60142, d.ok E) : t60142.den E = 1 := rfl
theorem law60142 {E : Env} (hE : E.F = Fs.F) {ρ : Nat → Rb} {N : Nat} {args : Array Value} (hp : pcOk E q60142.pre) (ha : F2 (Ar E ρ N) q60142.args args) (w : World) : Calls Go.Proofs.Try.prog 6 args w fun e w' => e = .returned (.bool true) ∧ RowKit.Below w.heap.size w w' :=
  (law_okF (c := q60142) (cfL_ok (P := Go.Proofs.Try.prog) (l := [p8]) (lm := [p1092, p2092, p3282, p3322, p4142]) (ll := []) ⟨ok8, trivial⟩ ⟨ok1092, ok2092, ok3282, ok3322, ok4142, trivial⟩ trivial) chk60142 rfl rfl rfl F6 plain60142).2 hE hp ha w
theorem plain60143 (E : Env) (_ : E.F = Fs.F) (_ : ∀ d ∈ d60143, d.ok E) : t60143.den E = 1 := rfl
theorem law60143 {E : Env} (hE : E.F = Fs.F) {ρ : Nat → Rb} {N : Nat} {args : Array Value} (hp : pcOk E q60143.pre) (ha : F2 (Ar E ρ N) q60143.args args) (w : World) : Calls Go.Proofs.Try.prog 6 args w fun e w' => e = .returned (.bool true) ∧ RowKit.Below w.heap.size w w' :=
  (law_okF (c := q60143) (cfL_ok (P := Go.Proofs.Try.prog) (l := [p8]) (lm := [p1092, p2092, p3282, p3322, p4142]) (ll := []) ⟨ok8, trivial⟩ ⟨ok1092, ok2092, ok3282, ok3322, ok4142, trivial⟩ trivial) chk60143 rfl rfl rfl F6 plain60143).2 hE hp ha w
theorem plain60150 (E : Env) (_ : E.F = Fs.F) (_ : ∀ d ∈ d60150, d.ok E) : t60150.den E = 1 := rfl
theorem law60150 {E : Env} (hE : E.F = Fs.F) {ρ : Nat → Rb} {N : Nat} {args : Array Value} (hp : pcOk E q60150.pre) (ha : F2 (Ar E ρ N) q60150.args args) (w : World) : Calls Go.Proofs.Try.prog 6 args w fun e w' => e = .returned (.bool true) ∧ RowKit.Below w.heap.size w w' :=
  (law_okF (c := q60150) (cfL_ok (P := Go.Proofs.Try.prog) (l := [p8]) (lm := [p1100, p2100, p3280, p3320, p4150]) (ll := []) ⟨ok8, trivial⟩ ⟨ok1100, ok2100, ok3280, ok3320, ok4150, trivial⟩ trivial) chk60150 rfl rfl rfl F6 plain60150).2 hE hp ha w
theorem plain60151 (E : Env) (_ : E.F = Fs.F) (_ : ∀ d ∈ d60151, d.ok E) : t60151.den E = 1 := rfl
theorem law60151 {E : Env} (hE : E.F = Fs.F) {ρ : Nat → Rb} {N : Nat} {args : Array Value} (hp : pcOk E q60151.pre) (ha : F2 (Ar E ρ N) q60151.args args) (w : World) : Calls Go.Proofs.Try.prog 6 args w fun e w' => e = .returned (.bool true) ∧ RowKit.Below w.heap.size w w' :=
  (law_okF (c := q60151) (cfL_ok (P := Go.Proofs.Try.prog) (l := [p8]) (lm := [p1101, p2101, p3281, p3321, p4151]) (ll := []) ⟨ok8, trivial⟩ ⟨ok1101, ok2101, ok3281, ok3321, ok4151, trivial⟩ trivial) chk60151 rfl rfl rfl F6 plain60151).2 hE hp ha w
theorem plain60152 (E : Env) (_ : E.F = Fs.F) (_ : ∀ d ∈ d60152, d.ok E) : t60152.den E = 1 := rfl
theorem law60152 {E : Env} (hE : E.F = Fs.F) {ρ : Nat → Rb} {N : Nat} {args : Array Value} (hp : pcOk E q60152.pre) (ha : F2 (Ar E ρ N) q60152.args args) (w : World) : Calls Go.Proofs.Try.prog 6 args w fun e w' => e = .returned (.bool true) ∧ RowKit.Below w.heap.size w w' :=
  (law_okF (c := q60152) (cfL_ok (P := Go.Proofs.Try.prog) (l := [p8]) (lm := [p1102, p2102, p3282, p3322, p4152]) (ll := []) ⟨ok8, trivial⟩ ⟨ok1102, ok2102, ok3282, ok3322, ok4152, trivial⟩ trivial) chk60152 rfl rfl rfl F6 plain60152).2 hE hp ha w
theorem plain60153 (E : Env) (_ : E.F = Fs.F) (_ : ∀ d ∈ d60153, d.ok E) : t60153.den E = 1 := rfl
theorem law60153 {E : Env} (hE : E.F = Fs.F) {ρ : Nat → Rb} {N : Nat} {args : Array Value} (hp : pcOk E q60153.pre) (ha : F2 (Ar E ρ N) q60153.args args) (w : World) : Calls Go.Proofs.Try.prog 6 args w fun e w' => e = .returned (.bool true) ∧ RowKit.Below w.heap.size w w' :=
  (law_okF (c := q60153) (cfL_ok (P := Go.Proofs.Try.prog) (l := [p8]) (lm := [p1102, p2102, p3282, p3322, p4152]) (ll := []) ⟨ok8, trivial⟩ ⟨ok1102, ok2102, ok3282, ok3322, ok4152, trivial⟩ trivial) chk60153 rfl rfl rfl F6 plain60153).2 hE hp ha w
end Go.Sy
