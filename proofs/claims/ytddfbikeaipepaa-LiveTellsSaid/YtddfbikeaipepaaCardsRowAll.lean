/- Functions, each told by its own run; and what follows from what they tell. -/
import Derived.KernelRfl
import Derived.Test.YtddfbikeaipepaaCardsRow35
namespace Go.Sy
theorem chk75 : chkPf Go.Proofs.Try.prog (cfL [] [] []) 60 p75 d75 l75 = true := by kernel_rfl
theorem ok75 : PfOk Go.Proofs.Try.prog p75 := cardG_ok (cfL_ok (P := Go.Proofs.Try.prog) (l := []) (lm := []) (ll := []) trivial trivial trivial) chk75 (table.take 35) (table.drop 36) rfl okT
theorem chk32 : chkPf Go.Proofs.Try.prog (cfL [] [] []) 60 p32 d32 l32 = true := by kernel_rfl
theorem ok32 : PfOk Go.Proofs.Try.prog p32 := cardG_ok (cfL_ok (P := Go.Proofs.Try.prog) (l := []) (lm := []) (ll := []) trivial trivial trivial) chk32 (table.take 34) (table.drop 35) rfl okT
theorem chk27 : chkPf Go.Proofs.Try.prog (cfL [] [] []) 60 p27 d27 l27 = true := by kernel_rfl
theorem ok27 : PfOk Go.Proofs.Try.prog p27 := cardG_ok (cfL_ok (P := Go.Proofs.Try.prog) (l := []) (lm := []) (ll := []) trivial trivial trivial) chk27 (table.take 33) (table.drop 34) rfl okT
theorem chk72 : chkPf Go.Proofs.Try.prog (cfL [p75] [] []) 60 p72 d72 l72 = true := by kernel_rfl
theorem ok72 : PfOk Go.Proofs.Try.prog p72 := cardG_ok (cfL_ok (P := Go.Proofs.Try.prog) (l := [p75]) (lm := []) (ll := []) ⟨ok75, trivial⟩ trivial trivial) chk72 (table.take 32) (table.drop 33) rfl okT
theorem chk31 : chkPf Go.Proofs.Try.prog (cfL [p75] [] []) 60 p31 d31 l31 = true := by kernel_rfl
theorem ok31 : PfOk Go.Proofs.Try.prog p31 := cardG_ok (cfL_ok (P := Go.Proofs.Try.prog) (l := [p75]) (lm := []) (ll := []) ⟨ok75, trivial⟩ trivial trivial) chk31 (table.take 31) (table.drop 32) rfl okT
theorem chk44 : chkPf Go.Proofs.Try.prog (cfL [p72] [] []) 60 p44 d44 l44 = true := by kernel_rfl
theorem ok44 : PfOk Go.Proofs.Try.prog p44 := cardG_ok (cfL_ok (P := Go.Proofs.Try.prog) (l := [p72]) (lm := []) (ll := []) ⟨ok72, trivial⟩ trivial trivial) chk44 (table.take 30) (table.drop 31) rfl okT
theorem chk30 : chkPf Go.Proofs.Try.prog (cfL [p31] [] []) 60 p30 d30 l30 = true := by kernel_rfl
theorem ok30 : PfOk Go.Proofs.Try.prog p30 := cardG_ok (cfL_ok (P := Go.Proofs.Try.prog) (l := [p31]) (lm := []) (ll := []) ⟨ok31, trivial⟩ trivial trivial) chk30 (table.take 29) (table.drop 30) rfl okT
theorem chk16 : chkPf Go.Proofs.Try.prog (cfL [p32, p31, p30] [] []) 60 p16 d16 l16 = true := by kernel_rfl
theorem ok16 : PfOk Go.Proofs.Try.prog p16 := cardG_ok (cfL_ok (P := Go.Proofs.Try.prog) (l := [p32, p31, p30]) (lm := []) (ll := []) ⟨ok32, ok31, ok30, trivial⟩ trivial trivial) chk16 (table.take 28) (table.drop 29) rfl okT
theorem chk48 : chkPf Go.Proofs.Try.prog (cfL [p27] [] []) 60 p48 d48 l48 = true := by kernel_rfl
theorem ok48 : PfOk Go.Proofs.Try.prog p48 := cardG_ok (cfL_ok (P := Go.Proofs.Try.prog) (l := [p27]) (lm := []) (ll := []) ⟨ok27, trivial⟩ trivial trivial) chk48 (table.take 27) (table.drop 28) rfl okT
theorem chk29 : chkPf Go.Proofs.Try.prog (cfL [p48, p44, p16] [] []) 60 p29 d29 l29 = true := by kernel_rfl
theorem ok29 : PfOk Go.Proofs.Try.prog p29 := cardG_ok (cfL_ok (P := Go.Proofs.Try.prog) (l := [p48, p44, p16]) (lm := []) (ll := []) ⟨ok48, ok44, ok16, trivial⟩ trivial trivial) chk29 (table.take 26) (table.drop 27) rfl okT
theorem chk12 : chkPf Go.Proofs.Try.prog (cfL [p27, p29, p16] [] []) 60 q12 d12 l12 = true := by kernel_rfl
theorem F12 (xs : List Arg) : Fs.F 12 xs = [⟨1, fun _ => 1⟩] := rfl
theorem plain12 (E : Env) (hE : E.F = Fs.F) (hd : ∀ d ∈ d12, d.ok E) : t12.den E = 1 := by
  have h : contig 0 d12 = some 8 := by kernel_rfl
  have hb : t12.bel 8 = true := by kernel_rfl
  have hv : t12.den (extL ⟨fun _ => default, Fs.F⟩ d12) = 1 := by kernel_rfl
  exact (den_ext (E0 := ⟨fun _ => default, Fs.F⟩) h hb hE (fun i hi => absurd hi (Nat.not_lt_zero i)) hd).trans hv
theorem ok12 : PfOk Go.Proofs.Try.prog p12 := by
  have h := law_okF (cfL_ok (P := Go.Proofs.Try.prog) (l := [p27, p29, p16]) (lm := []) (ll := []) ⟨ok27, ok29, ok16, trivial⟩ trivial trivial) chk12 rfl rfl rfl F12 plain12
  exact true_ok h.1 fun w => h.2 (E := ⟨fun _ => default, Fs.F⟩) rfl (ρ := fun _ => default) (N := 0) (args := #[]) (fun _ h => nomatch h) F2.nil w
theorem chk19 : chkPf Go.Proofs.Try.prog (cfL [] [] []) 60 p19 d19 l19 = true := by kernel_rfl
theorem ok19 : PfOk Go.Proofs.Try.prog p19 := cardG_ok (cfL_ok (P := Go.Proofs.Try.prog) (l := []) (lm := []) (ll := []) trivial trivial trivial) chk19 (table.take 24) (table.drop 25) rfl okT
theorem chk50 : chkPf Go.Proofs.Try.prog (cfL [] [] []) 60 p50 d50 l50 = true := by kernel_rfl
theorem ok50 : PfOk Go.Proofs.Try.prog p50 := cardG_ok (cfL_ok (P := Go.Proofs.Try.prog) (l := []) (lm := []) (ll := []) trivial trivial trivial) chk50 (table.take 23) (table.drop 24) rfl okT
theorem chk34 : chkPf Go.Proofs.Try.prog (cfL [p50] [] []) 60 p34 d34 l34 = true := by kernel_rfl
theorem ok34 : PfOk Go.Proofs.Try.prog p34 := cardG_ok (cfL_ok (P := Go.Proofs.Try.prog) (l := [p50]) (lm := []) (ll := []) ⟨ok50, trivial⟩ trivial trivial) chk34 (table.take 22) (table.drop 23) rfl okT
theorem chk20 : chkPf Go.Proofs.Try.prog (cfL [p34] [] []) 60 p20 d20 l20 = true := by kernel_rfl
theorem ok20 : PfOk Go.Proofs.Try.prog p20 := cardG_ok (cfL_ok (P := Go.Proofs.Try.prog) (l := [p34]) (lm := []) (ll := []) ⟨ok34, trivial⟩ trivial trivial) chk20 (table.take 21) (table.drop 22) rfl okT
theorem chk33 : chkPf Go.Proofs.Try.prog (cfL [p50] [] []) 60 p33 d33 l33 = true := by kernel_rfl
theorem ok33 : PfOk Go.Proofs.Try.prog p33 := cardG_ok (cfL_ok (P := Go.Proofs.Try.prog) (l := [p50]) (lm := []) (ll := []) ⟨ok50, trivial⟩ trivial trivial) chk33 (table.take 20) (table.drop 21) rfl okT
theorem chk17 : chkPf Go.Proofs.Try.prog (cfL [p33] [] []) 60 p17 d17 l17 = true := by kernel_rfl
theorem ok17 : PfOk Go.Proofs.Try.prog p17 := cardG_ok (cfL_ok (P := Go.Proofs.Try.prog) (l := [p33]) (lm := []) (ll := []) ⟨ok33, trivial⟩ trivial trivial) chk17 (table.take 19) (table.drop 20) rfl okT
theorem chk52 : chkPf Go.Proofs.Try.prog (cfL [] [] []) 60 p52 d52 l52 = true := by kernel_rfl
theorem ok52 : PfOk Go.Proofs.Try.prog p52 := cardG_ok (cfL_ok (P := Go.Proofs.Try.prog) (l := []) (lm := []) (ll := []) trivial trivial trivial) chk52 (table.take 18) (table.drop 19) rfl okT
theorem chk53 : chkPf Go.Proofs.Try.prog (cfL [] [] []) 60 p53 d53 l53 = true := by kernel_rfl
theorem ok53 : PfOk Go.Proofs.Try.prog p53 := cardG_ok (cfL_ok (P := Go.Proofs.Try.prog) (l := []) (lm := []) (ll := []) trivial trivial trivial) chk53 (table.take 17) (table.drop 18) rfl okT
theorem chk54 : chkPf Go.Proofs.Try.prog (cfL [] [] []) 60 p54 d54 l54 = true := by kernel_rfl
theorem ok54 : PfOk Go.Proofs.Try.prog p54 := cardG_ok (cfL_ok (P := Go.Proofs.Try.prog) (l := []) (lm := []) (ll := []) trivial trivial trivial) chk54 (table.take 16) (table.drop 17) rfl okT
theorem chk51 : chkPf Go.Proofs.Try.prog (cfL [p52, p54] [] []) 60 p51 d51 l51 = true := by kernel_rfl
theorem ok51 : PfOk Go.Proofs.Try.prog p51 := cardG_ok (cfL_ok (P := Go.Proofs.Try.prog) (l := [p52, p54]) (lm := []) (ll := []) ⟨ok52, ok54, trivial⟩ trivial trivial) chk51 (table.take 15) (table.drop 16) rfl okT
theorem chk55 : chkPf Go.Proofs.Try.prog (cfL [p53] [] []) 60 p55 d55 l55 = true := by kernel_rfl
theorem ok55 : PfOk Go.Proofs.Try.prog p55 := cardG_ok (cfL_ok (P := Go.Proofs.Try.prog) (l := [p53]) (lm := []) (ll := []) ⟨ok53, trivial⟩ trivial trivial) chk55 (table.take 14) (table.drop 15) rfl okT
theorem chk56 : chkPf Go.Proofs.Try.prog (cfL [] [] []) 60 p56 d56 l56 = true := by kernel_rfl
theorem ok56 : PfOk Go.Proofs.Try.prog p56 := cardG_ok (cfL_ok (P := Go.Proofs.Try.prog) (l := []) (lm := []) (ll := []) trivial trivial trivial) chk56 (table.take 13) (table.drop 14) rfl okT
theorem ok35 : PfOk Go.Proofs.Try.prog p35 := cardG_ok (cfL_ok (P := Go.Proofs.Try.prog) (l := [p51, p52, p53, p54, p55, p56]) (lm := []) (ll := []) ⟨ok51, ok52, ok53, ok54, ok55, ok56, trivial⟩ trivial trivial) chk35 (table.take 12) (table.drop 13) rfl okT
theorem chk21 : chkPf Go.Proofs.Try.prog (cfL [p35] [] []) 60 p21 d21 l21 = true := by kernel_rfl
theorem ok21 : PfOk Go.Proofs.Try.prog p21 := cardG_ok (cfL_ok (P := Go.Proofs.Try.prog) (l := [p35]) (lm := []) (ll := []) ⟨ok35, trivial⟩ trivial trivial) chk21 (table.take 11) (table.drop 12) rfl okT
theorem okk2013 (args : List Arg) : Fs.F k2013.id args = k2013.spec Fs.F args := loop_ok k2013 (table.take 10) (table.drop 11) rfl okT args
theorem chk1013 : chkMf Go.Proofs.Try.prog (cfL [p21] [] [s2013]) 60 p1013 d1013 l1013 = true := by kernel_rfl
theorem ok1013 : MfOk Go.Proofs.Try.prog p1013 := cardMG_ok (cfL_ok (P := Go.Proofs.Try.prog) (l := [p21]) (lm := []) (ll := [s2013]) ⟨ok21, trivial⟩ trivial ⟨okk2013, trivial⟩) chk1013 (table.take 9) (table.drop 10) rfl okT
theorem okk2014 (args : List Arg) : Fs.F k2014.id args = k2014.spec Fs.F args := loop_ok k2014 (table.take 8) (table.drop 9) rfl okT args
theorem chk1014 : chkMf Go.Proofs.Try.prog (cfL [p27, p29] [] [s2014]) 60 p1014 d1014 l1014 = true := by kernel_rfl
theorem ok1014 : MfOk Go.Proofs.Try.prog p1014 := cardMG_ok (cfL_ok (P := Go.Proofs.Try.prog) (l := [p27, p29]) (lm := []) (ll := [s2014]) ⟨ok27, ok29, trivial⟩ trivial ⟨okk2014, trivial⟩) chk1014 (table.take 7) (table.drop 8) rfl okT
theorem okk2015 (args : List Arg) : Fs.F k2015.id args = k2015.spec Fs.F args := loop_ok k2015 (table.take 6) (table.drop 7) rfl okT args
theorem chk1015 : chkMf Go.Proofs.Try.prog (cfL [p19, p17, p20] [] [s2015]) 60 p1015 d1015 l1015 = true := by kernel_rfl
theorem ok1015 : MfOk Go.Proofs.Try.prog p1015 := cardMG_ok (cfL_ok (P := Go.Proofs.Try.prog) (l := [p19, p17, p20]) (lm := []) (ll := [s2015]) ⟨ok19, ok17, ok20, trivial⟩ trivial ⟨okk2015, trivial⟩) chk1015 (table.take 5) (table.drop 6) rfl okT
theorem chk1018 : chkMf Go.Proofs.Try.prog (cfL [] [p1014] []) 60 p1018 d1018 l1018 = true := by kernel_rfl
theorem ok1018 : MfOk Go.Proofs.Try.prog p1018 := cardMG_ok (cfL_ok (P := Go.Proofs.Try.prog) (l := []) (lm := [p1014]) (ll := []) trivial ⟨ok1014, trivial⟩ trivial) chk1018 (table.take 4) (table.drop 5) rfl okT
theorem okk2004 (args : List Arg) : Fs.F k2004.id args = k2004.spec Fs.F args := loop_ok k2004 (table.take 3) (table.drop 4) rfl okT args
theorem chk4 : chkMf Go.Proofs.Try.prog (cfL [p12, p19, p20] [p1013, p1014] [s2004]) 60 q4 d4 l4 = true := by kernel_rfl
theorem F4 (xs : List Arg) : Fs.F 4 xs = [⟨1, fun _ => 1⟩] := rfl
theorem okk2003 (args : List Arg) : Fs.F k2003.id args = k2003.spec Fs.F args := loop_ok k2003 (table.take 1) (table.drop 2) rfl okT args
theorem chk3 : chkMf Go.Proofs.Try.prog (cfL [p12, p16, p17] [p1013, p1014, p1015, p1018] [s2003]) 60 q3 d3 l3 = true := by kernel_rfl
theorem F3 (xs : List Arg) : Fs.F 3 xs = [⟨1, fun _ => 1⟩] := rfl
end Go.Sy
