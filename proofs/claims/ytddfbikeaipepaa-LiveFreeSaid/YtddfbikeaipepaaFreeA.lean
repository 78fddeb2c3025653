/- Functions, each told by its own run; and what follows from what they tell. -/
import Derived.KernelRfl
import Derived.Test.YtddfbikeaipepaaFreeC0
import Derived.Test.YtddfbikeaipepaaFreeC1
import Derived.Test.YtddfbikeaipepaaFreeC2
import Derived.Test.YtddfbikeaipepaaFreeC3
import Derived.Test.YtddfbikeaipepaaFreeC4
import Derived.Test.YtddfbikeaipepaaFreeC5
import Derived.Test.YtddfbikeaipepaaFreeC6
import Derived.Test.YtddfbikeaipepaaFreeC7
import Derived.Test.YtddfbikeaipepaaFreeC8
import Derived.Test.YtddfbikeaipepaaFreeD
namespace Go.Sy
theorem ok75 : PfOk Go.Proofs.Try.prog p75 := pf_at (cfL_ok (P := Go.Proofs.Try.prog) (l := []) (lm := []) (ll := []) trivial trivial trivial) chk75 107 (by kernel_rfl)
theorem ok32 : PfOk Go.Proofs.Try.prog p32 := pf_at (cfL_ok (P := Go.Proofs.Try.prog) (l := []) (lm := []) (ll := []) trivial trivial trivial) chk32 106 (by kernel_rfl)
theorem ok27 : PfOk Go.Proofs.Try.prog p27 := pf_at (cfL_ok (P := Go.Proofs.Try.prog) (l := []) (lm := []) (ll := []) trivial trivial trivial) chk27 105 (by kernel_rfl)
theorem ok72 : PfOk Go.Proofs.Try.prog p72 := pf_at (cfL_ok (P := Go.Proofs.Try.prog) (l := [p75]) (lm := []) (ll := []) ⟨ok75, trivial⟩ trivial trivial) chk72 104 (by kernel_rfl)
theorem ok31 : PfOk Go.Proofs.Try.prog p31 := pf_at (cfL_ok (P := Go.Proofs.Try.prog) (l := [p75]) (lm := []) (ll := []) ⟨ok75, trivial⟩ trivial trivial) chk31 103 (by kernel_rfl)
theorem ok44 : PfOk Go.Proofs.Try.prog p44 := pf_at (cfL_ok (P := Go.Proofs.Try.prog) (l := [p72]) (lm := []) (ll := []) ⟨ok72, trivial⟩ trivial trivial) chk44 102 (by kernel_rfl)
theorem ok30 : PfOk Go.Proofs.Try.prog p30 := pf_at (cfL_ok (P := Go.Proofs.Try.prog) (l := [p31]) (lm := []) (ll := []) ⟨ok31, trivial⟩ trivial trivial) chk30 101 (by kernel_rfl)
theorem ok16 : PfOk Go.Proofs.Try.prog p16 := pf_at (cfL_ok (P := Go.Proofs.Try.prog) (l := [p32, p31, p30]) (lm := []) (ll := []) ⟨ok32, ok31, ok30, trivial⟩ trivial trivial) chk16 100 (by kernel_rfl)
theorem ok48 : PfOk Go.Proofs.Try.prog p48 := pf_at (cfL_ok (P := Go.Proofs.Try.prog) (l := [p27]) (lm := []) (ll := []) ⟨ok27, trivial⟩ trivial trivial) chk48 99 (by kernel_rfl)
theorem ok29 : PfOk Go.Proofs.Try.prog p29 := pf_at (cfL_ok (P := Go.Proofs.Try.prog) (l := [p48, p44, p16]) (lm := []) (ll := []) ⟨ok48, ok44, ok16, trivial⟩ trivial trivial) chk29 98 (by kernel_rfl)
theorem F12 (xs : List Arg) : Fs.F 12 xs = [⟨1, fun _ => 1⟩] := by kernel_rfl
theorem plain12 (E : Env) (hE : E.F = Fs.F) (hd : ∀ d ∈ d12, d.ok E) : t12.den E = 1 := by
  have h : contig 0 d12 = some 8 := by kernel_rfl
  have hb : t12.bel 8 = true := by kernel_rfl
  have hv : t12.den (extL ⟨fun _ => default, Fs.F⟩ d12) = 1 := by kernel_rfl
  exact (den_ext (E0 := ⟨fun _ => default, Fs.F⟩) h hb hE (fun i hi => absurd hi (Nat.not_lt_zero i)) hd).trans hv
theorem ok12 : PfOk Go.Proofs.Try.prog p12 := by
  have h := law_okF (cfL_ok (P := Go.Proofs.Try.prog) (l := [p27, p29, p16]) (lm := []) (ll := []) ⟨ok27, ok29, ok16, trivial⟩ trivial trivial) chk12 rfl rfl rfl F12 plain12
  exact true_ok h.1 fun w => h.2 (E := ⟨fun _ => default, Fs.F⟩) rfl (ρ := fun _ => default) (N := 0) (args := #[]) (fun _ h => nomatch h) F2.nil w
theorem ok19 : PfOk Go.Proofs.Try.prog p19 := pf_at (cfL_ok (P := Go.Proofs.Try.prog) (l := []) (lm := []) (ll := []) trivial trivial trivial) chk19 96 (by kernel_rfl)
theorem ok50 : PfOk Go.Proofs.Try.prog p50 := pf_at (cfL_ok (P := Go.Proofs.Try.prog) (l := []) (lm := []) (ll := []) trivial trivial trivial) chk50 95 (by kernel_rfl)
theorem ok34 : PfOk Go.Proofs.Try.prog p34 := pf_at (cfL_ok (P := Go.Proofs.Try.prog) (l := [p50]) (lm := []) (ll := []) ⟨ok50, trivial⟩ trivial trivial) chk34 94 (by kernel_rfl)
theorem ok20 : PfOk Go.Proofs.Try.prog p20 := pf_at (cfL_ok (P := Go.Proofs.Try.prog) (l := [p34]) (lm := []) (ll := []) ⟨ok34, trivial⟩ trivial trivial) chk20 93 (by kernel_rfl)
theorem ok33 : PfOk Go.Proofs.Try.prog p33 := pf_at (cfL_ok (P := Go.Proofs.Try.prog) (l := [p50]) (lm := []) (ll := []) ⟨ok50, trivial⟩ trivial trivial) chk33 92 (by kernel_rfl)
theorem ok17 : PfOk Go.Proofs.Try.prog p17 := pf_at (cfL_ok (P := Go.Proofs.Try.prog) (l := [p33]) (lm := []) (ll := []) ⟨ok33, trivial⟩ trivial trivial) chk17 91 (by kernel_rfl)
theorem ok52 : PfOk Go.Proofs.Try.prog p52 := pf_at (cfL_ok (P := Go.Proofs.Try.prog) (l := []) (lm := []) (ll := []) trivial trivial trivial) chk52 90 (by kernel_rfl)
theorem ok53 : PfOk Go.Proofs.Try.prog p53 := pf_at (cfL_ok (P := Go.Proofs.Try.prog) (l := []) (lm := []) (ll := []) trivial trivial trivial) chk53 89 (by kernel_rfl)
theorem ok54 : PfOk Go.Proofs.Try.prog p54 := pf_at (cfL_ok (P := Go.Proofs.Try.prog) (l := []) (lm := []) (ll := []) trivial trivial trivial) chk54 88 (by kernel_rfl)
theorem ok51 : PfOk Go.Proofs.Try.prog p51 := pf_at (cfL_ok (P := Go.Proofs.Try.prog) (l := [p52, p54]) (lm := []) (ll := []) ⟨ok52, ok54, trivial⟩ trivial trivial) chk51 87 (by kernel_rfl)
theorem ok55 : PfOk Go.Proofs.Try.prog p55 := pf_at (cfL_ok (P := Go.Proofs.Try.prog) (l := [p53]) (lm := []) (ll := []) ⟨ok53, trivial⟩ trivial trivial) chk55 86 (by kernel_rfl)
theorem ok56 : PfOk Go.Proofs.Try.prog p56 := pf_at (cfL_ok (P := Go.Proofs.Try.prog) (l := []) (lm := []) (ll := []) trivial trivial trivial) chk56 85 (by kernel_rfl)
theorem ok35 : PfOk Go.Proofs.Try.prog p35 := pf_at (cfL_ok (P := Go.Proofs.Try.prog) (l := [p51, p52, p53, p54, p55, p56]) (lm := []) (ll := []) ⟨ok51, ok52, ok53, ok54, ok55, ok56, trivial⟩ trivial trivial) chk35 84 (by kernel_rfl)
theorem ok21 : PfOk Go.Proofs.Try.prog p21 := pf_at (cfL_ok (P := Go.Proofs.Try.prog) (l := [p35]) (lm := []) (ll := []) ⟨ok35, trivial⟩ trivial trivial) chk21 83 (by kernel_rfl)
theorem ok1013 : MfOk Go.Proofs.Try.prog p1013 := mf_at (cfL_ok (P := Go.Proofs.Try.prog) (l := [p21]) (lm := []) (ll := [s2013]) ⟨ok21, trivial⟩ trivial ⟨okk2013, trivial⟩) chk1013 81 (by kernel_rfl)
theorem ok1014 : MfOk Go.Proofs.Try.prog p1014 := mf_at (cfL_ok (P := Go.Proofs.Try.prog) (l := [p27, p29]) (lm := []) (ll := [s2014]) ⟨ok27, ok29, trivial⟩ trivial ⟨okk2014, trivial⟩) chk1014 79 (by kernel_rfl)
theorem ok1018 : MfOk Go.Proofs.Try.prog p1018 := mf_at (cfL_ok (P := Go.Proofs.Try.prog) (l := []) (lm := [p1014]) (ll := []) trivial ⟨ok1014, trivial⟩ trivial) chk1018 78 (by kernel_rfl)
theorem ok93 : PfOk Go.Proofs.Try.prog p93 := pf_at (cfL_ok (P := Go.Proofs.Try.prog) (l := []) (lm := []) (ll := []) trivial trivial trivial) chk93 77 (by kernel_rfl)
theorem ok80 : PfOk Go.Proofs.Try.prog p80 := pf_at (cfL_ok (P := Go.Proofs.Try.prog) (l := []) (lm := []) (ll := []) trivial trivial trivial) chk80 76 (by kernel_rfl)
theorem ok83 : PfOk Go.Proofs.Try.prog p83 := pf_at (cfL_ok (P := Go.Proofs.Try.prog) (l := []) (lm := []) (ll := []) trivial trivial trivial) chk83 75 (by kernel_rfl)
theorem ok84 : PfOk Go.Proofs.Try.prog p84 := pf_at (cfL_ok (P := Go.Proofs.Try.prog) (l := []) (lm := []) (ll := []) trivial trivial trivial) chk84 74 (by kernel_rfl)
theorem ok85 : PfOk Go.Proofs.Try.prog p85 := pf_at (cfL_ok (P := Go.Proofs.Try.prog) (l := []) (lm := []) (ll := []) trivial trivial trivial) chk85 73 (by kernel_rfl)
theorem ok2068 : MfOk Go.Proofs.Try.prog p2068 := mf_at (cfL_ok (P := Go.Proofs.Try.prog) (l := []) (lm := []) (ll := []) trivial trivial trivial) chk2068 72 (by kernel_rfl)
theorem ok2168 : MfOk Go.Proofs.Try.prog p2168 := mf_at (cfL_ok (P := Go.Proofs.Try.prog) (l := []) (lm := []) (ll := []) trivial trivial trivial) chk2168 71 (by kernel_rfl)
theorem ok2268 : MfOk Go.Proofs.Try.prog p2268 := mf_at (cfL_ok (P := Go.Proofs.Try.prog) (l := []) (lm := []) (ll := []) trivial trivial trivial) chk2268 70 (by kernel_rfl)
theorem ok2092 : MfOk Go.Proofs.Try.prog p2092 := mf_at (cfL_ok (P := Go.Proofs.Try.prog) (l := []) (lm := []) (ll := []) trivial trivial trivial) chk2092 69 (by kernel_rfl)
theorem ok2095 : MfOk Go.Proofs.Try.prog p2095 := mf_at (cfL_ok (P := Go.Proofs.Try.prog) (l := []) (lm := []) (ll := []) trivial trivial trivial) chk2095 68 (by kernel_rfl)
theorem ok2192 : MfOk Go.Proofs.Try.prog p2192 := mf_at (cfL_ok (P := Go.Proofs.Try.prog) (l := []) (lm := []) (ll := []) trivial trivial trivial) chk2192 67 (by kernel_rfl)
theorem ok2195 : MfOk Go.Proofs.Try.prog p2195 := mf_at (cfL_ok (P := Go.Proofs.Try.prog) (l := []) (lm := []) (ll := []) trivial trivial trivial) chk2195 66 (by kernel_rfl)
theorem ok4077 : MfOk Go.Proofs.Try.prog p4077 := mf_at (cfL_ok (P := Go.Proofs.Try.prog) (l := []) (lm := [p2092]) (ll := []) trivial ⟨ok2092, trivial⟩ trivial) chk4077 65 (by kernel_rfl)
theorem ok4079 : MfOk Go.Proofs.Try.prog p4079 := mf_at (cfL_ok (P := Go.Proofs.Try.prog) (l := []) (lm := [p2095]) (ll := []) trivial ⟨ok2095, trivial⟩ trivial) chk4079 64 (by kernel_rfl)
theorem ok3077 : MfOk Go.Proofs.Try.prog p3077 := mf_at (cfL_ok (P := Go.Proofs.Try.prog) (l := []) (lm := [p2092]) (ll := []) trivial ⟨ok2092, trivial⟩ trivial) chk3077 63 (by kernel_rfl)
theorem ok3079 : MfOk Go.Proofs.Try.prog p3079 := mf_at (cfL_ok (P := Go.Proofs.Try.prog) (l := []) (lm := [p2095]) (ll := []) trivial ⟨ok2095, trivial⟩ trivial) chk3079 62 (by kernel_rfl)
theorem ok3177 : MfOk Go.Proofs.Try.prog p3177 := mf_at (cfL_ok (P := Go.Proofs.Try.prog) (l := []) (lm := [p2192]) (ll := []) trivial ⟨ok2192, trivial⟩ trivial) chk3177 61 (by kernel_rfl)
theorem ok3179 : MfOk Go.Proofs.Try.prog p3179 := mf_at (cfL_ok (P := Go.Proofs.Try.prog) (l := []) (lm := [p2195]) (ll := []) trivial ⟨ok2195, trivial⟩ trivial) chk3179 60 (by kernel_rfl)
theorem ok3076 : MfOk Go.Proofs.Try.prog p3076 := mf_at (cfL_ok (P := Go.Proofs.Try.prog) (l := []) (lm := [p2068]) (ll := []) trivial ⟨ok2068, trivial⟩ trivial) chk3076 59 (by kernel_rfl)
theorem ok7501 : MfOk Go.Proofs.Try.prog p7501 := mf_at (cfL_ok (P := Go.Proofs.Try.prog) (l := [p80, p83, p84, p85, p93]) (lm := [p4077, p4079, p3077, p3177, p3079, p3179, p3076, p2068, p2168, p2268]) (ll := []) ⟨ok80, ok83, ok84, ok85, ok93, trivial⟩ ⟨ok4077, ok4079, ok3077, ok3177, ok3079, ok3179, ok3076, ok2068, ok2168, ok2268, trivial⟩ trivial) chk7501 58 (by kernel_rfl)
theorem ok7502 : MfOk Go.Proofs.Try.prog p7502 := mf_at (cfL_ok (P := Go.Proofs.Try.prog) (l := [p80, p83, p84, p85, p93]) (lm := [p4077, p4079, p3077, p3177, p3079, p3179, p3076, p2068, p2168, p2268]) (ll := []) ⟨ok80, ok83, ok84, ok85, ok93, trivial⟩ ⟨ok4077, ok4079, ok3077, ok3177, ok3079, ok3179, ok3076, ok2068, ok2168, ok2268, trivial⟩ trivial) chk7502 57 (by kernel_rfl)
theorem ok7503 : MfOk Go.Proofs.Try.prog p7503 := mf_at (cfL_ok (P := Go.Proofs.Try.prog) (l := [p80, p83, p84, p85, p93]) (lm := [p4077, p4079, p3077, p3177, p3079, p3179, p3076, p2068, p2168, p2268]) (ll := []) ⟨ok80, ok83, ok84, ok85, ok93, trivial⟩ ⟨ok4077, ok4079, ok3077, ok3177, ok3079, ok3179, ok3076, ok2068, ok2168, ok2268, trivial⟩ trivial) chk7503 56 (by kernel_rfl)
theorem ok7504 : MfOk Go.Proofs.Try.prog p7504 := mf_at (cfL_ok (P := Go.Proofs.Try.prog) (l := [p80, p83, p84, p85, p93]) (lm := [p4077, p4079, p3077, p3177, p3079, p3179, p3076, p2068, p2168, p2268]) (ll := []) ⟨ok80, ok83, ok84, ok85, ok93, trivial⟩ ⟨ok4077, ok4079, ok3077, ok3177, ok3079, ok3179, ok3076, ok2068, ok2168, ok2268, trivial⟩ trivial) chk7504 55 (by kernel_rfl)
theorem ok7505 : MfOk Go.Proofs.Try.prog p7505 := mf_at (cfL_ok (P := Go.Proofs.Try.prog) (l := [p80, p83, p84, p85, p93]) (lm := [p4077, p4079, p3077, p3177, p3079, p3179, p3076, p2068, p2168, p2268]) (ll := []) ⟨ok80, ok83, ok84, ok85, ok93, trivial⟩ ⟨ok4077, ok4079, ok3077, ok3177, ok3079, ok3179, ok3076, ok2068, ok2168, ok2268, trivial⟩ trivial) chk7505 54 (by kernel_rfl)
theorem ok7506 : MfOk Go.Proofs.Try.prog p7506 := mf_at (cfL_ok (P := Go.Proofs.Try.prog) (l := [p80, p83, p84, p85, p93]) (lm := [p4077, p4079, p3077, p3177, p3079, p3179, p3076, p2068, p2168, p2268]) (ll := []) ⟨ok80, ok83, ok84, ok85, ok93, trivial⟩ ⟨ok4077, ok4079, ok3077, ok3177, ok3079, ok3179, ok3076, ok2068, ok2168, ok2268, trivial⟩ trivial) chk7506 53 (by kernel_rfl)
theorem ok7507 : MfOk Go.Proofs.Try.prog p7507 := mf_at (cfL_ok (P := Go.Proofs.Try.prog) (l := [p80, p83, p84, p85, p93]) (lm := [p4077, p4079, p3077, p3177, p3079, p3179, p3076, p2068, p2168, p2268]) (ll := []) ⟨ok80, ok83, ok84, ok85, ok93, trivial⟩ ⟨ok4077, ok4079, ok3077, ok3177, ok3079, ok3179, ok3076, ok2068, ok2168, ok2268, trivial⟩ trivial) chk7507 52 (by kernel_rfl)
theorem ok7508 : MfOk Go.Proofs.Try.prog p7508 := mf_at (cfL_ok (P := Go.Proofs.Try.prog) (l := [p80, p83, p84, p85, p93]) (lm := [p4077, p4079, p3077, p3177, p3079, p3179, p3076, p2068, p2168, p2268]) (ll := []) ⟨ok80, ok83, ok84, ok85, ok93, trivial⟩ ⟨ok4077, ok4079, ok3077, ok3177, ok3079, ok3179, ok3076, ok2068, ok2168, ok2268, trivial⟩ trivial) chk7508 51 (by kernel_rfl)
theorem ok7509 : MfOk Go.Proofs.Try.prog p7509 := mf_at (cfL_ok (P := Go.Proofs.Try.prog) (l := [p80, p83, p84, p85, p93]) (lm := [p4077, p4079, p3077, p3177, p3079, p3179, p3076, p2068, p2168, p2268]) (ll := []) ⟨ok80, ok83, ok84, ok85, ok93, trivial⟩ ⟨ok4077, ok4079, ok3077, ok3177, ok3079, ok3179, ok3076, ok2068, ok2168, ok2268, trivial⟩ trivial) chk7509 50 (by kernel_rfl)
theorem ok7510 : MfOk Go.Proofs.Try.prog p7510 := mf_at (cfL_ok (P := Go.Proofs.Try.prog) (l := [p80, p83, p84, p85, p93]) (lm := [p4077, p4079, p3077, p3177, p3079, p3179, p3076, p2068, p2168, p2268]) (ll := []) ⟨ok80, ok83, ok84, ok85, ok93, trivial⟩ ⟨ok4077, ok4079, ok3077, ok3177, ok3079, ok3179, ok3076, ok2068, ok2168, ok2268, trivial⟩ trivial) chk7510 49 (by kernel_rfl)
theorem ok7511 : MfOk Go.Proofs.Try.prog p7511 := mf_at (cfL_ok (P := Go.Proofs.Try.prog) (l := [p80, p83, p84, p85, p93]) (lm := [p4077, p4079, p3077, p3177, p3079, p3179, p3076, p2068, p2168, p2268]) (ll := []) ⟨ok80, ok83, ok84, ok85, ok93, trivial⟩ ⟨ok4077, ok4079, ok3077, ok3177, ok3079, ok3179, ok3076, ok2068, ok2168, ok2268, trivial⟩ trivial) chk7511 48 (by kernel_rfl)
theorem ok7512 : MfOk Go.Proofs.Try.prog p7512 := mf_at (cfL_ok (P := Go.Proofs.Try.prog) (l := [p80, p83, p84, p85, p93]) (lm := [p4077, p4079, p3077, p3177, p3079, p3179, p3076, p2068, p2168, p2268]) (ll := []) ⟨ok80, ok83, ok84, ok85, ok93, trivial⟩ ⟨ok4077, ok4079, ok3077, ok3177, ok3079, ok3179, ok3076, ok2068, ok2168, ok2268, trivial⟩ trivial) chk7512 47 (by kernel_rfl)
theorem ok7513 : MfOk Go.Proofs.Try.prog p7513 := mf_at (cfL_ok (P := Go.Proofs.Try.prog) (l := [p80, p83, p84, p85, p93]) (lm := [p4077, p4079, p3077, p3177, p3079, p3179, p3076, p2068, p2168, p2268]) (ll := []) ⟨ok80, ok83, ok84, ok85, ok93, trivial⟩ ⟨ok4077, ok4079, ok3077, ok3177, ok3079, ok3179, ok3076, ok2068, ok2168, ok2268, trivial⟩ trivial) chk7513 46 (by kernel_rfl)
theorem ok7514 : MfOk Go.Proofs.Try.prog p7514 := mf_at (cfL_ok (P := Go.Proofs.Try.prog) (l := [p80, p83, p84, p85, p93]) (lm := [p4077, p4079, p3077, p3177, p3079, p3179, p3076, p2068, p2168, p2268]) (ll := []) ⟨ok80, ok83, ok84, ok85, ok93, trivial⟩ ⟨ok4077, ok4079, ok3077, ok3177, ok3079, ok3179, ok3076, ok2068, ok2168, ok2268, trivial⟩ trivial) chk7514 45 (by kernel_rfl)
theorem ok7515 : MfOk Go.Proofs.Try.prog p7515 := mf_at (cfL_ok (P := Go.Proofs.Try.prog) (l := [p80, p83, p84, p85, p93]) (lm := [p4077, p4079, p3077, p3177, p3079, p3179, p3076, p2068, p2168, p2268]) (ll := []) ⟨ok80, ok83, ok84, ok85, ok93, trivial⟩ ⟨ok4077, ok4079, ok3077, ok3177, ok3079, ok3179, ok3076, ok2068, ok2168, ok2268, trivial⟩ trivial) chk7515 44 (by kernel_rfl)
theorem ok7516 : MfOk Go.Proofs.Try.prog p7516 := mf_at (cfL_ok (P := Go.Proofs.Try.prog) (l := [p80, p83, p84, p85, p93]) (lm := [p4077, p4079, p3077, p3177, p3079, p3179, p3076, p2068, p2168, p2268]) (ll := []) ⟨ok80, ok83, ok84, ok85, ok93, trivial⟩ ⟨ok4077, ok4079, ok3077, ok3177, ok3079, ok3179, ok3076, ok2068, ok2168, ok2268, trivial⟩ trivial) chk7516 43 (by kernel_rfl)
theorem ok7517 : MfOk Go.Proofs.Try.prog p7517 := mf_at (cfL_ok (P := Go.Proofs.Try.prog) (l := [p80, p83, p84, p85, p93]) (lm := [p4077, p4079, p3077, p3177, p3079, p3179, p3076, p2068, p2168, p2268]) (ll := []) ⟨ok80, ok83, ok84, ok85, ok93, trivial⟩ ⟨ok4077, ok4079, ok3077, ok3177, ok3079, ok3179, ok3076, ok2068, ok2168, ok2268, trivial⟩ trivial) chk7517 42 (by kernel_rfl)
theorem ok7518 : MfOk Go.Proofs.Try.prog p7518 := mf_at (cfL_ok (P := Go.Proofs.Try.prog) (l := [p80, p83, p84, p85, p93]) (lm := [p4077, p4079, p3077, p3177, p3079, p3179, p3076, p2068, p2168, p2268]) (ll := []) ⟨ok80, ok83, ok84, ok85, ok93, trivial⟩ ⟨ok4077, ok4079, ok3077, ok3177, ok3079, ok3179, ok3076, ok2068, ok2168, ok2268, trivial⟩ trivial) chk7518 41 (by kernel_rfl)
theorem ok7519 : MfOk Go.Proofs.Try.prog p7519 := mf_at (cfL_ok (P := Go.Proofs.Try.prog) (l := [p80, p83, p84, p85, p93]) (lm := [p4077, p4079, p3077, p3177, p3079, p3179, p3076, p2068, p2168, p2268]) (ll := []) ⟨ok80, ok83, ok84, ok85, ok93, trivial⟩ ⟨ok4077, ok4079, ok3077, ok3177, ok3079, ok3179, ok3076, ok2068, ok2168, ok2268, trivial⟩ trivial) chk7519 40 (by kernel_rfl)
theorem ok7520 : MfOk Go.Proofs.Try.prog p7520 := mf_at (cfL_ok (P := Go.Proofs.Try.prog) (l := [p80, p83, p84, p85, p93]) (lm := [p4077, p4079, p3077, p3177, p3079, p3179, p3076, p2068, p2168, p2268]) (ll := []) ⟨ok80, ok83, ok84, ok85, ok93, trivial⟩ ⟨ok4077, ok4079, ok3077, ok3177, ok3079, ok3179, ok3076, ok2068, ok2168, ok2268, trivial⟩ trivial) chk7520 39 (by kernel_rfl)
theorem ok7521 : MfOk Go.Proofs.Try.prog p7521 := mf_at (cfL_ok (P := Go.Proofs.Try.prog) (l := [p80, p83, p84, p85, p93]) (lm := [p4077, p4079, p3077, p3177, p3079, p3179, p3076, p2068, p2168, p2268]) (ll := []) ⟨ok80, ok83, ok84, ok85, ok93, trivial⟩ ⟨ok4077, ok4079, ok3077, ok3177, ok3079, ok3179, ok3076, ok2068, ok2168, ok2268, trivial⟩ trivial) chk7521 38 (by kernel_rfl)
theorem ok7522 : MfOk Go.Proofs.Try.prog p7522 := mf_at (cfL_ok (P := Go.Proofs.Try.prog) (l := [p80, p83, p84, p85, p93]) (lm := [p4077, p4079, p3077, p3177, p3079, p3179, p3076, p2068, p2168, p2268]) (ll := []) ⟨ok80, ok83, ok84, ok85, ok93, trivial⟩ ⟨ok4077, ok4079, ok3077, ok3177, ok3079, ok3179, ok3076, ok2068, ok2168, ok2268, trivial⟩ trivial) chk7522 37 (by kernel_rfl)
theorem ok7523 : MfOk Go.Proofs.Try.prog p7523 := mf_at (cfL_ok (P := Go.Proofs.Try.prog) (l := [p80, p83, p84, p85, p93]) (lm := [p4077, p4079, p3077, p3177, p3079, p3179, p3076, p2068, p2168, p2268]) (ll := []) ⟨ok80, ok83, ok84, ok85, ok93, trivial⟩ ⟨ok4077, ok4079, ok3077, ok3177, ok3079, ok3179, ok3076, ok2068, ok2168, ok2268, trivial⟩ trivial) chk7523 36 (by kernel_rfl)
theorem ok7524 : MfOk Go.Proofs.Try.prog p7524 := mf_at (cfL_ok (P := Go.Proofs.Try.prog) (l := [p80, p83, p84, p85, p93]) (lm := [p4077, p4079, p3077, p3177, p3079, p3179, p3076, p2068, p2168, p2268]) (ll := []) ⟨ok80, ok83, ok84, ok85, ok93, trivial⟩ ⟨ok4077, ok4079, ok3077, ok3177, ok3079, ok3179, ok3076, ok2068, ok2168, ok2268, trivial⟩ trivial) chk7524 35 (by kernel_rfl)
theorem ok7525 : MfOk Go.Proofs.Try.prog p7525 := mf_at (cfL_ok (P := Go.Proofs.Try.prog) (l := [p80, p83, p84, p85, p93]) (lm := [p4077, p4079, p3077, p3177, p3079, p3179, p3076, p2068, p2168, p2268]) (ll := []) ⟨ok80, ok83, ok84, ok85, ok93, trivial⟩ ⟨ok4077, ok4079, ok3077, ok3177, ok3079, ok3179, ok3076, ok2068, ok2168, ok2268, trivial⟩ trivial) chk7525 34 (by kernel_rfl)
theorem ok7526 : MfOk Go.Proofs.Try.prog p7526 := mf_at (cfL_ok (P := Go.Proofs.Try.prog) (l := [p80, p83, p84, p85, p93]) (lm := [p4077, p4079, p3077, p3177, p3079, p3179, p3076, p2068, p2168, p2268]) (ll := []) ⟨ok80, ok83, ok84, ok85, ok93, trivial⟩ ⟨ok4077, ok4079, ok3077, ok3177, ok3079, ok3179, ok3076, ok2068, ok2168, ok2268, trivial⟩ trivial) chk7526 33 (by kernel_rfl)
theorem ok7527 : MfOk Go.Proofs.Try.prog p7527 := mf_at (cfL_ok (P := Go.Proofs.Try.prog) (l := [p80, p83, p84, p85, p93]) (lm := [p4077, p4079, p3077, p3177, p3079, p3179, p3076, p2068, p2168, p2268]) (ll := []) ⟨ok80, ok83, ok84, ok85, ok93, trivial⟩ ⟨ok4077, ok4079, ok3077, ok3177, ok3079, ok3179, ok3076, ok2068, ok2168, ok2268, trivial⟩ trivial) chk7527 32 (by kernel_rfl)
theorem ok7528 : MfOk Go.Proofs.Try.prog p7528 := mf_at (cfL_ok (P := Go.Proofs.Try.prog) (l := [p80, p83, p84, p85, p93]) (lm := [p4077, p4079, p3077, p3177, p3079, p3179, p3076, p2068, p2168, p2268]) (ll := []) ⟨ok80, ok83, ok84, ok85, ok93, trivial⟩ ⟨ok4077, ok4079, ok3077, ok3177, ok3079, ok3179, ok3076, ok2068, ok2168, ok2268, trivial⟩ trivial) chk7528 31 (by kernel_rfl)
theorem ok7529 : MfOk Go.Proofs.Try.prog p7529 := mf_at (cfL_ok (P := Go.Proofs.Try.prog) (l := [p80, p83, p84, p85, p93]) (lm := [p4077, p4079, p3077, p3177, p3079, p3179, p3076, p2068, p2168, p2268]) (ll := []) ⟨ok80, ok83, ok84, ok85, ok93, trivial⟩ ⟨ok4077, ok4079, ok3077, ok3177, ok3079, ok3179, ok3076, ok2068, ok2168, ok2268, trivial⟩ trivial) chk7529 30 (by kernel_rfl)
theorem ok7530 : MfOk Go.Proofs.Try.prog p7530 := mf_at (cfL_ok (P := Go.Proofs.Try.prog) (l := [p80, p83, p84, p85, p93]) (lm := [p4077, p4079, p3077, p3177, p3079, p3179, p3076, p2068, p2168, p2268]) (ll := []) ⟨ok80, ok83, ok84, ok85, ok93, trivial⟩ ⟨ok4077, ok4079, ok3077, ok3177, ok3079, ok3179, ok3076, ok2068, ok2168, ok2268, trivial⟩ trivial) chk7530 29 (by kernel_rfl)
theorem ok7531 : MfOk Go.Proofs.Try.prog p7531 := mf_at (cfL_ok (P := Go.Proofs.Try.prog) (l := [p80, p83, p84, p85, p93]) (lm := [p4077, p4079, p3077, p3177, p3079, p3179, p3076, p2068, p2168, p2268]) (ll := []) ⟨ok80, ok83, ok84, ok85, ok93, trivial⟩ ⟨ok4077, ok4079, ok3077, ok3177, ok3079, ok3179, ok3076, ok2068, ok2168, ok2268, trivial⟩ trivial) chk7531 28 (by kernel_rfl)
theorem ok7532 : MfOk Go.Proofs.Try.prog p7532 := mf_at (cfL_ok (P := Go.Proofs.Try.prog) (l := [p80, p83, p84, p85, p93]) (lm := [p4077, p4079, p3077, p3177, p3079, p3179, p3076, p2068, p2168, p2268]) (ll := []) ⟨ok80, ok83, ok84, ok85, ok93, trivial⟩ ⟨ok4077, ok4079, ok3077, ok3177, ok3079, ok3179, ok3076, ok2068, ok2168, ok2268, trivial⟩ trivial) chk7532 27 (by kernel_rfl)
theorem ok7533 : MfOk Go.Proofs.Try.prog p7533 := mf_at (cfL_ok (P := Go.Proofs.Try.prog) (l := [p80, p83, p84, p85, p93]) (lm := [p4077, p4079, p3077, p3177, p3079, p3179, p3076, p2068, p2168, p2268]) (ll := []) ⟨ok80, ok83, ok84, ok85, ok93, trivial⟩ ⟨ok4077, ok4079, ok3077, ok3177, ok3079, ok3179, ok3076, ok2068, ok2168, ok2268, trivial⟩ trivial) chk7533 26 (by kernel_rfl)
theorem ok7534 : MfOk Go.Proofs.Try.prog p7534 := mf_at (cfL_ok (P := Go.Proofs.Try.prog) (l := [p80, p83, p84, p85, p93]) (lm := [p4077, p4079, p3077, p3177, p3079, p3179, p3076, p2068, p2168, p2268]) (ll := []) ⟨ok80, ok83, ok84, ok85, ok93, trivial⟩ ⟨ok4077, ok4079, ok3077, ok3177, ok3079, ok3179, ok3076, ok2068, ok2168, ok2268, trivial⟩ trivial) chk7534 25 (by kernel_rfl)
theorem ok7535 : MfOk Go.Proofs.Try.prog p7535 := mf_at (cfL_ok (P := Go.Proofs.Try.prog) (l := [p80, p83, p84, p85, p93]) (lm := [p4077, p4079, p3077, p3177, p3079, p3179, p3076, p2068, p2168, p2268]) (ll := []) ⟨ok80, ok83, ok84, ok85, ok93, trivial⟩ ⟨ok4077, ok4079, ok3077, ok3177, ok3079, ok3179, ok3076, ok2068, ok2168, ok2268, trivial⟩ trivial) chk7535 24 (by kernel_rfl)
theorem ok7536 : MfOk Go.Proofs.Try.prog p7536 := mf_at (cfL_ok (P := Go.Proofs.Try.prog) (l := [p80, p83, p84, p85, p93]) (lm := [p4077, p4079, p3077, p3177, p3079, p3179, p3076, p2068, p2168, p2268]) (ll := []) ⟨ok80, ok83, ok84, ok85, ok93, trivial⟩ ⟨ok4077, ok4079, ok3077, ok3177, ok3079, ok3179, ok3076, ok2068, ok2168, ok2268, trivial⟩ trivial) chk7536 23 (by kernel_rfl)
theorem ok7537 : MfOk Go.Proofs.Try.prog p7537 := mf_at (cfL_ok (P := Go.Proofs.Try.prog) (l := [p80, p83, p84, p85, p93]) (lm := [p4077, p4079, p3077, p3177, p3079, p3179, p3076, p2068, p2168, p2268]) (ll := []) ⟨ok80, ok83, ok84, ok85, ok93, trivial⟩ ⟨ok4077, ok4079, ok3077, ok3177, ok3079, ok3179, ok3076, ok2068, ok2168, ok2268, trivial⟩ trivial) chk7537 22 (by kernel_rfl)
theorem ok7538 : MfOk Go.Proofs.Try.prog p7538 := mf_at (cfL_ok (P := Go.Proofs.Try.prog) (l := [p80, p83, p84, p85, p93]) (lm := [p4077, p4079, p3077, p3177, p3079, p3179, p3076, p2068, p2168, p2268]) (ll := []) ⟨ok80, ok83, ok84, ok85, ok93, trivial⟩ ⟨ok4077, ok4079, ok3077, ok3177, ok3079, ok3179, ok3076, ok2068, ok2168, ok2268, trivial⟩ trivial) chk7538 21 (by kernel_rfl)
theorem ok7539 : MfOk Go.Proofs.Try.prog p7539 := mf_at (cfL_ok (P := Go.Proofs.Try.prog) (l := [p80, p83, p84, p85, p93]) (lm := [p4077, p4079, p3077, p3177, p3079, p3179, p3076, p2068, p2168, p2268]) (ll := []) ⟨ok80, ok83, ok84, ok85, ok93, trivial⟩ ⟨ok4077, ok4079, ok3077, ok3177, ok3079, ok3179, ok3076, ok2068, ok2168, ok2268, trivial⟩ trivial) chk7539 20 (by kernel_rfl)
theorem ok7540 : MfOk Go.Proofs.Try.prog p7540 := mf_at (cfL_ok (P := Go.Proofs.Try.prog) (l := [p80, p83, p84, p85, p93]) (lm := [p4077, p4079, p3077, p3177, p3079, p3179, p3076, p2068, p2168, p2268]) (ll := []) ⟨ok80, ok83, ok84, ok85, ok93, trivial⟩ ⟨ok4077, ok4079, ok3077, ok3177, ok3079, ok3179, ok3076, ok2068, ok2168, ok2268, trivial⟩ trivial) chk7540 19 (by kernel_rfl)
theorem ok7541 : MfOk Go.Proofs.Try.prog p7541 := mf_at (cfL_ok (P := Go.Proofs.Try.prog) (l := [p80, p83, p84, p85, p93]) (lm := [p4077, p4079, p3077, p3177, p3079, p3179, p3076, p2068, p2168, p2268]) (ll := []) ⟨ok80, ok83, ok84, ok85, ok93, trivial⟩ ⟨ok4077, ok4079, ok3077, ok3177, ok3079, ok3179, ok3076, ok2068, ok2168, ok2268, trivial⟩ trivial) chk7541 18 (by kernel_rfl)
theorem ok7542 : MfOk Go.Proofs.Try.prog p7542 := mf_at (cfL_ok (P := Go.Proofs.Try.prog) (l := [p80, p83, p84, p85, p93]) (lm := [p4077, p4079, p3077, p3177, p3079, p3179, p3076, p2068, p2168, p2268]) (ll := []) ⟨ok80, ok83, ok84, ok85, ok93, trivial⟩ ⟨ok4077, ok4079, ok3077, ok3177, ok3079, ok3179, ok3076, ok2068, ok2168, ok2268, trivial⟩ trivial) chk7542 17 (by kernel_rfl)
theorem ok7543 : MfOk Go.Proofs.Try.prog p7543 := mf_at (cfL_ok (P := Go.Proofs.Try.prog) (l := [p80, p83, p84, p85, p93]) (lm := [p4077, p4079, p3077, p3177, p3079, p3179, p3076, p2068, p2168, p2268]) (ll := []) ⟨ok80, ok83, ok84, ok85, ok93, trivial⟩ ⟨ok4077, ok4079, ok3077, ok3177, ok3079, ok3179, ok3076, ok2068, ok2168, ok2268, trivial⟩ trivial) chk7543 16 (by kernel_rfl)
theorem ok7544 : MfOk Go.Proofs.Try.prog p7544 := mf_at (cfL_ok (P := Go.Proofs.Try.prog) (l := [p80, p83, p84, p85, p93]) (lm := [p4077, p4079, p3077, p3177, p3079, p3179, p3076, p2068, p2168, p2268]) (ll := []) ⟨ok80, ok83, ok84, ok85, ok93, trivial⟩ ⟨ok4077, ok4079, ok3077, ok3177, ok3079, ok3179, ok3076, ok2068, ok2168, ok2268, trivial⟩ trivial) chk7544 15 (by kernel_rfl)
theorem ok7545 : MfOk Go.Proofs.Try.prog p7545 := mf_at (cfL_ok (P := Go.Proofs.Try.prog) (l := [p80, p83, p84, p85, p93]) (lm := [p4077, p4079, p3077, p3177, p3079, p3179, p3076, p2068, p2168, p2268]) (ll := []) ⟨ok80, ok83, ok84, ok85, ok93, trivial⟩ ⟨ok4077, ok4079, ok3077, ok3177, ok3079, ok3179, ok3076, ok2068, ok2168, ok2268, trivial⟩ trivial) chk7545 14 (by kernel_rfl)
theorem ok7546 : MfOk Go.Proofs.Try.prog p7546 := mf_at (cfL_ok (P := Go.Proofs.Try.prog) (l := [p80, p83, p84, p85, p93]) (lm := [p4077, p4079, p3077, p3177, p3079, p3179, p3076, p2068, p2168, p2268]) (ll := []) ⟨ok80, ok83, ok84, ok85, ok93, trivial⟩ ⟨ok4077, ok4079, ok3077, ok3177, ok3079, ok3179, ok3076, ok2068, ok2168, ok2268, trivial⟩ trivial) chk7546 13 (by kernel_rfl)
theorem ok7547 : MfOk Go.Proofs.Try.prog p7547 := mf_at (cfL_ok (P := Go.Proofs.Try.prog) (l := [p80, p83, p84, p85, p93]) (lm := [p4077, p4079, p3077, p3177, p3079, p3179, p3076, p2068, p2168, p2268]) (ll := []) ⟨ok80, ok83, ok84, ok85, ok93, trivial⟩ ⟨ok4077, ok4079, ok3077, ok3177, ok3079, ok3179, ok3076, ok2068, ok2168, ok2268, trivial⟩ trivial) chk7547 12 (by kernel_rfl)
theorem ok7548 : MfOk Go.Proofs.Try.prog p7548 := mf_at (cfL_ok (P := Go.Proofs.Try.prog) (l := [p80, p83, p84, p85, p93]) (lm := [p4077, p4079, p3077, p3177, p3079, p3179, p3076, p2068, p2168, p2268]) (ll := []) ⟨ok80, ok83, ok84, ok85, ok93, trivial⟩ ⟨ok4077, ok4079, ok3077, ok3177, ok3079, ok3179, ok3076, ok2068, ok2168, ok2268, trivial⟩ trivial) chk7548 11 (by kernel_rfl)
theorem ok7549 : MfOk Go.Proofs.Try.prog p7549 := mf_at (cfL_ok (P := Go.Proofs.Try.prog) (l := [p80, p83, p84, p85, p93]) (lm := [p4077, p4079, p3077, p3177, p3079, p3179, p3076, p2068, p2168, p2268]) (ll := []) ⟨ok80, ok83, ok84, ok85, ok93, trivial⟩ ⟨ok4077, ok4079, ok3077, ok3177, ok3079, ok3179, ok3076, ok2068, ok2168, ok2268, trivial⟩ trivial) chk7549 10 (by kernel_rfl)
theorem ok7550 : MfOk Go.Proofs.Try.prog p7550 := mf_at (cfL_ok (P := Go.Proofs.Try.prog) (l := [p80, p83, p84, p85, p93]) (lm := [p4077, p4079, p3077, p3177, p3079, p3179, p3076, p2068, p2168, p2268]) (ll := []) ⟨ok80, ok83, ok84, ok85, ok93, trivial⟩ ⟨ok4077, ok4079, ok3077, ok3177, ok3079, ok3179, ok3076, ok2068, ok2168, ok2268, trivial⟩ trivial) chk7550 9 (by kernel_rfl)
theorem ok7551 : MfOk Go.Proofs.Try.prog p7551 := mf_at (cfL_ok (P := Go.Proofs.Try.prog) (l := [p80, p83, p84, p85, p93]) (lm := [p4077, p4079, p3077, p3177, p3079, p3179, p3076, p2068, p2168, p2268]) (ll := []) ⟨ok80, ok83, ok84, ok85, ok93, trivial⟩ ⟨ok4077, ok4079, ok3077, ok3177, ok3079, ok3179, ok3076, ok2068, ok2168, ok2268, trivial⟩ trivial) chk7551 8 (by kernel_rfl)
theorem ok7552 : MfOk Go.Proofs.Try.prog p7552 := mf_at (cfL_ok (P := Go.Proofs.Try.prog) (l := [p80, p83, p84, p85, p93]) (lm := [p4077, p4079, p3077, p3177, p3079, p3179, p3076, p2068, p2168, p2268]) (ll := []) ⟨ok80, ok83, ok84, ok85, ok93, trivial⟩ ⟨ok4077, ok4079, ok3077, ok3177, ok3079, ok3179, ok3076, ok2068, ok2168, ok2268, trivial⟩ trivial) chk7552 7 (by kernel_rfl)
theorem ok7553 : MfOk Go.Proofs.Try.prog p7553 := mf_at (cfL_ok (P := Go.Proofs.Try.prog) (l := [p80, p83, p84, p85, p93]) (lm := [p4077, p4079, p3077, p3177, p3079, p3179, p3076, p2068, p2168, p2268]) (ll := []) ⟨ok80, ok83, ok84, ok85, ok93, trivial⟩ ⟨ok4077, ok4079, ok3077, ok3177, ok3079, ok3179, ok3076, ok2068, ok2168, ok2268, trivial⟩ trivial) chk7553 6 (by kernel_rfl)
theorem ok7554 : MfOk Go.Proofs.Try.prog p7554 := mf_at (cfL_ok (P := Go.Proofs.Try.prog) (l := [p80, p83, p84, p85, p93]) (lm := [p4077, p4079, p3077, p3177, p3079, p3179, p3076, p2068, p2168, p2268]) (ll := []) ⟨ok80, ok83, ok84, ok85, ok93, trivial⟩ ⟨ok4077, ok4079, ok3077, ok3177, ok3079, ok3179, ok3076, ok2068, ok2168, ok2268, trivial⟩ trivial) chk7554 5 (by kernel_rfl)
theorem ok2022 : MfOk Go.Proofs.Try.prog p2022 := by
  refine mf_sw (sw := w2022) rfl sw2022 (by decide) (pre := [.c (.pta 0 16448 (.lit 0) 0 (.lit 0)), .agg (symK 16 stK)]) (post := []) (r := symK 1 (insnK.drop 1)) rfl (fun k g h => ?_) ok7554
  rcases List.mem_cons.1 h with e | h
  · cases e; exact ok7501
  rcases List.mem_cons.1 h with e | h
  · cases e; exact ok7502
  rcases List.mem_cons.1 h with e | h
  · cases e; exact ok7503
  rcases List.mem_cons.1 h with e | h
  · cases e; exact ok7504
  rcases List.mem_cons.1 h with e | h
  · cases e; exact ok7505
  rcases List.mem_cons.1 h with e | h
  · cases e; exact ok7506
  rcases List.mem_cons.1 h with e | h
  · cases e; exact ok7507
  rcases List.mem_cons.1 h with e | h
  · cases e; exact ok7508
  rcases List.mem_cons.1 h with e | h
  · cases e; exact ok7509
  rcases List.mem_cons.1 h with e | h
  · cases e; exact ok7510
  rcases List.mem_cons.1 h with e | h
  · cases e; exact ok7511
  rcases List.mem_cons.1 h with e | h
  · cases e; exact ok7512
  rcases List.mem_cons.1 h with e | h
  · cases e; exact ok7513
  rcases List.mem_cons.1 h with e | h
  · cases e; exact ok7514
  rcases List.mem_cons.1 h with e | h
  · cases e; exact ok7515
  rcases List.mem_cons.1 h with e | h
  · cases e; exact ok7516
  rcases List.mem_cons.1 h with e | h
  · cases e; exact ok7517
  rcases List.mem_cons.1 h with e | h
  · cases e; exact ok7518
  rcases List.mem_cons.1 h with e | h
  · cases e; exact ok7519
  rcases List.mem_cons.1 h with e | h
  · cases e; exact ok7520
  rcases List.mem_cons.1 h with e | h
  · cases e; exact ok7521
  rcases List.mem_cons.1 h with e | h
  · cases e; exact ok7522
  rcases List.mem_cons.1 h with e | h
  · cases e; exact ok7523
  rcases List.mem_cons.1 h with e | h
  · cases e; exact ok7524
  rcases List.mem_cons.1 h with e | h
  · cases e; exact ok7525
  rcases List.mem_cons.1 h with e | h
  · cases e; exact ok7526
  rcases List.mem_cons.1 h with e | h
  · cases e; exact ok7527
  rcases List.mem_cons.1 h with e | h
  · cases e; exact ok7528
  rcases List.mem_cons.1 h with e | h
  · cases e; exact ok7529
  rcases List.mem_cons.1 h with e | h
  · cases e; exact ok7530
  rcases List.mem_cons.1 h with e | h
  · cases e; exact ok7531
  rcases List.mem_cons.1 h with e | h
  · cases e; exact ok7532
  rcases List.mem_cons.1 h with e | h
  · cases e; exact ok7533
  rcases List.mem_cons.1 h with e | h
  · cases e; exact ok7534
  rcases List.mem_cons.1 h with e | h
  · cases e; exact ok7535
  rcases List.mem_cons.1 h with e | h
  · cases e; exact ok7536
  rcases List.mem_cons.1 h with e | h
  · cases e; exact ok7537
  rcases List.mem_cons.1 h with e | h
  · cases e; exact ok7538
  rcases List.mem_cons.1 h with e | h
  · cases e; exact ok7539
  rcases List.mem_cons.1 h with e | h
  · cases e; exact ok7540
  rcases List.mem_cons.1 h with e | h
  · cases e; exact ok7541
  rcases List.mem_cons.1 h with e | h
  · cases e; exact ok7542
  rcases List.mem_cons.1 h with e | h
  · cases e; exact ok7543
  rcases List.mem_cons.1 h with e | h
  · cases e; exact ok7544
  rcases List.mem_cons.1 h with e | h
  · cases e; exact ok7545
  rcases List.mem_cons.1 h with e | h
  · cases e; exact ok7546
  rcases List.mem_cons.1 h with e | h
  · cases e; exact ok7547
  rcases List.mem_cons.1 h with e | h
  · cases e; exact ok7548
  rcases List.mem_cons.1 h with e | h
  · cases e; exact ok7549
  rcases List.mem_cons.1 h with e | h
  · cases e; exact ok7550
  rcases List.mem_cons.1 h with e | h
  · cases e; exact ok7551
  rcases List.mem_cons.1 h with e | h
  · cases e; exact ok7552
  rcases List.mem_cons.1 h with e | h
  · cases e; exact ok7553
  cases h
theorem ok24 : PfOk Go.Proofs.Try.prog p24 := pf_at (cfL_ok (P := Go.Proofs.Try.prog) (l := []) (lm := []) (ll := []) trivial trivial trivial) chk24 3 (by kernel_rfl)
end Go.Sy
