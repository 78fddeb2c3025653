/- Functions, each told by its own run; and what follows from what they tell. -/
import Derived.KernelRfl
import Derived.Test.YtddfbikeaipepaaSureC0
import Derived.Test.YtddfbikeaipepaaSureC1
import Derived.Test.YtddfbikeaipepaaSureC2
import Derived.Test.YtddfbikeaipepaaSureC3
import Derived.Test.YtddfbikeaipepaaSureC4
import Derived.Test.YtddfbikeaipepaaSureC5
import Derived.Test.YtddfbikeaipepaaSureC6
import Derived.Test.YtddfbikeaipepaaSureC7
import Derived.Test.YtddfbikeaipepaaSureP
namespace Go.Sy
theorem F6 (xs : List Arg) : Fs.F 6 xs = [⟨1, fun _ => 1⟩] := by kernel_rfl
def argsAt (ds : List Df) (i : Nat) : List T := match ds[i]? with
  | some d => d.args
  | none => []
def loAt (ds : List Df) (i : Nat) : Nat := match ds[i]? with
  | some d => d.lo
  | none => 0
def compsOf (S : List Nat) (ds : List Df) (l : List T) : List Nat := (List.range l.length).filter fun k => match l[k]? with
  | some u => u.avo (taint S ds)
  | none => false
theorem at_eq {k : Nat} {c : Te} (h : table[k]? = some c) : table.take k ++ c :: table.drop (k + 1) = table := by
  obtain ⟨hk, e⟩ := List.getElem?_eq_some_iff.1 h
  rw [← e, ← List.drop_eq_getElem_cons hk, List.take_append_drop]
theorem F_eq : Fs.F = mkG table := by kernel_rfl
theorem F_at {k : Nat} {c : Te} (h : table[k]? = some c) : Fs.F = mkG (table.take k ++ c :: table.drop (k + 1)) := by rw [at_eq h]; exact F_eq
theorem ok_at {k : Nat} {c : Te} (h : table[k]? = some c) : okG (table.take k ++ c :: table.drop (k + 1)) = true := by rw [at_eq h]; exact okT
theorem pf_at {P : Program} {cf : Cf} (hcf : CfOk P cf) {fuel : Nat} {c : Pf} {ds : List Df} {ls : List T} (h : chkPf P cf fuel c ds ls = true) (k : Nat) (hk : table[k]? = some (.card ⟨c.g, c.n, ds, ls⟩)) : PfOk P c := cardG_ok hcf h _ _ (F_at hk) (ok_at hk)
theorem mf_at {P : Program} {cf : Cf} (hcf : CfOk P cf) {fuel : Nat} {c : Mf} {ds : List Df} {ls : List T} (h : chkMf P cf fuel c ds ls = true) (k : Nat) (hk : table[k]? = some (.card ⟨c.id, c.n, ds, ls⟩)) : MfOk P c := cardMG_ok hcf h _ _ (F_at hk) (ok_at hk)
theorem ok75 : PfOk Go.Proofs.Try.prog p75 := pf_at (cfL_ok (P := Go.Proofs.Try.prog) (l := []) (lm := []) (ll := []) trivial trivial trivial) chk75 212 (by kernel_rfl)
theorem ok32 : PfOk Go.Proofs.Try.prog p32 := pf_at (cfL_ok (P := Go.Proofs.Try.prog) (l := []) (lm := []) (ll := []) trivial trivial trivial) chk32 211 (by kernel_rfl)
theorem ok27 : PfOk Go.Proofs.Try.prog p27 := pf_at (cfL_ok (P := Go.Proofs.Try.prog) (l := []) (lm := []) (ll := []) trivial trivial trivial) chk27 210 (by kernel_rfl)
theorem ok72 : PfOk Go.Proofs.Try.prog p72 := pf_at (cfL_ok (P := Go.Proofs.Try.prog) (l := [p75]) (lm := []) (ll := []) ⟨ok75, trivial⟩ trivial trivial) chk72 209 (by kernel_rfl)
theorem ok31 : PfOk Go.Proofs.Try.prog p31 := pf_at (cfL_ok (P := Go.Proofs.Try.prog) (l := [p75]) (lm := []) (ll := []) ⟨ok75, trivial⟩ trivial trivial) chk31 208 (by kernel_rfl)
theorem ok44 : PfOk Go.Proofs.Try.prog p44 := pf_at (cfL_ok (P := Go.Proofs.Try.prog) (l := [p72]) (lm := []) (ll := []) ⟨ok72, trivial⟩ trivial trivial) chk44 207 (by kernel_rfl)
theorem ok30 : PfOk Go.Proofs.Try.prog p30 := pf_at (cfL_ok (P := Go.Proofs.Try.prog) (l := [p31]) (lm := []) (ll := []) ⟨ok31, trivial⟩ trivial trivial) chk30 206 (by kernel_rfl)
theorem ok16 : PfOk Go.Proofs.Try.prog p16 := pf_at (cfL_ok (P := Go.Proofs.Try.prog) (l := [p32, p31, p30]) (lm := []) (ll := []) ⟨ok32, ok31, ok30, trivial⟩ trivial trivial) chk16 205 (by kernel_rfl)
theorem ok48 : PfOk Go.Proofs.Try.prog p48 := pf_at (cfL_ok (P := Go.Proofs.Try.prog) (l := [p27]) (lm := []) (ll := []) ⟨ok27, trivial⟩ trivial trivial) chk48 204 (by kernel_rfl)
theorem ok29 : PfOk Go.Proofs.Try.prog p29 := pf_at (cfL_ok (P := Go.Proofs.Try.prog) (l := [p48, p44, p16]) (lm := []) (ll := []) ⟨ok48, ok44, ok16, trivial⟩ trivial trivial) chk29 203 (by kernel_rfl)
theorem F12 (xs : List Arg) : Fs.F 12 xs = [⟨1, fun _ => 1⟩] := by kernel_rfl
theorem plain12 (E : Env) (hE : E.F = Fs.F) (hd : ∀ d ∈ d12, d.ok E) : t12.den E = 1 := by
  have h : contig 0 d12 = some 8 := by kernel_rfl
  have hb : t12.bel 8 = true := by kernel_rfl
  have hv : t12.den (extL ⟨fun _ => default, Fs.F⟩ d12) = 1 := by kernel_rfl
  exact (den_ext (E0 := ⟨fun _ => default, Fs.F⟩) h hb hE (fun i hi => absurd hi (Nat.not_lt_zero i)) hd).trans hv
theorem ok12 : PfOk Go.Proofs.Try.prog p12 := by
  have h := law_okF (cfL_ok (P := Go.Proofs.Try.prog) (l := [p27, p29, p16]) (lm := []) (ll := []) ⟨ok27, ok29, ok16, trivial⟩ trivial trivial) chk12 rfl rfl rfl F12 plain12
  exact true_ok h.1 fun w => h.2 (E := ⟨fun _ => default, Fs.F⟩) rfl (ρ := fun _ => default) (N := 0) (args := #[]) (fun _ h => nomatch h) F2.nil w
theorem ok52 : PfOk Go.Proofs.Try.prog p52 := pf_at (cfL_ok (P := Go.Proofs.Try.prog) (l := []) (lm := []) (ll := []) trivial trivial trivial) chk52 201 (by kernel_rfl)
theorem ok53 : PfOk Go.Proofs.Try.prog p53 := pf_at (cfL_ok (P := Go.Proofs.Try.prog) (l := []) (lm := []) (ll := []) trivial trivial trivial) chk53 200 (by kernel_rfl)
theorem ok54 : PfOk Go.Proofs.Try.prog p54 := pf_at (cfL_ok (P := Go.Proofs.Try.prog) (l := []) (lm := []) (ll := []) trivial trivial trivial) chk54 199 (by kernel_rfl)
theorem ok51 : PfOk Go.Proofs.Try.prog p51 := pf_at (cfL_ok (P := Go.Proofs.Try.prog) (l := [p52, p54]) (lm := []) (ll := []) ⟨ok52, ok54, trivial⟩ trivial trivial) chk51 198 (by kernel_rfl)
theorem ok55 : PfOk Go.Proofs.Try.prog p55 := pf_at (cfL_ok (P := Go.Proofs.Try.prog) (l := [p53]) (lm := []) (ll := []) ⟨ok53, trivial⟩ trivial trivial) chk55 197 (by kernel_rfl)
theorem ok56 : PfOk Go.Proofs.Try.prog p56 := pf_at (cfL_ok (P := Go.Proofs.Try.prog) (l := []) (lm := []) (ll := []) trivial trivial trivial) chk56 196 (by kernel_rfl)
theorem ok35 : PfOk Go.Proofs.Try.prog p35 := pf_at (cfL_ok (P := Go.Proofs.Try.prog) (l := [p51, p52, p53, p54, p55, p56]) (lm := []) (ll := []) ⟨ok51, ok52, ok53, ok54, ok55, ok56, trivial⟩ trivial trivial) chk35 195 (by kernel_rfl)
theorem ok21 : PfOk Go.Proofs.Try.prog p21 := pf_at (cfL_ok (P := Go.Proofs.Try.prog) (l := [p35]) (lm := []) (ll := []) ⟨ok35, trivial⟩ trivial trivial) chk21 194 (by kernel_rfl)
theorem ok93 : PfOk Go.Proofs.Try.prog p93 := pf_at (cfL_ok (P := Go.Proofs.Try.prog) (l := []) (lm := []) (ll := []) trivial trivial trivial) chk93 193 (by kernel_rfl)
theorem ok80 : PfOk Go.Proofs.Try.prog p80 := pf_at (cfL_ok (P := Go.Proofs.Try.prog) (l := []) (lm := []) (ll := []) trivial trivial trivial) chk80 192 (by kernel_rfl)
theorem ok83 : PfOk Go.Proofs.Try.prog p83 := pf_at (cfL_ok (P := Go.Proofs.Try.prog) (l := []) (lm := []) (ll := []) trivial trivial trivial) chk83 191 (by kernel_rfl)
theorem ok84 : PfOk Go.Proofs.Try.prog p84 := pf_at (cfL_ok (P := Go.Proofs.Try.prog) (l := []) (lm := []) (ll := []) trivial trivial trivial) chk84 190 (by kernel_rfl)
theorem ok85 : PfOk Go.Proofs.Try.prog p85 := pf_at (cfL_ok (P := Go.Proofs.Try.prog) (l := []) (lm := []) (ll := []) trivial trivial trivial) chk85 189 (by kernel_rfl)
theorem ok76 : PfOk Go.Proofs.Try.prog p76 := pf_at (cfL_ok (P := Go.Proofs.Try.prog) (l := []) (lm := []) (ll := []) trivial trivial trivial) chk76 188 (by kernel_rfl)
theorem ok1077 : MfOk Go.Proofs.Try.prog p1077 := mf_at (cfL_ok (P := Go.Proofs.Try.prog) (l := []) (lm := []) (ll := []) trivial trivial trivial) chk1077 187 (by kernel_rfl)
theorem ok1079 : MfOk Go.Proofs.Try.prog p1079 := mf_at (cfL_ok (P := Go.Proofs.Try.prog) (l := []) (lm := []) (ll := []) trivial trivial trivial) chk1079 186 (by kernel_rfl)
theorem ok1177 : MfOk Go.Proofs.Try.prog p1177 := mf_at (cfL_ok (P := Go.Proofs.Try.prog) (l := []) (lm := []) (ll := []) trivial trivial trivial) chk1177 185 (by kernel_rfl)
theorem ok1179 : MfOk Go.Proofs.Try.prog p1179 := mf_at (cfL_ok (P := Go.Proofs.Try.prog) (l := []) (lm := []) (ll := []) trivial trivial trivial) chk1179 184 (by kernel_rfl)
theorem ok1279 : MfOk Go.Proofs.Try.prog p1279 := mf_at (cfL_ok (P := Go.Proofs.Try.prog) (l := []) (lm := []) (ll := []) trivial trivial trivial) chk1279 183 (by kernel_rfl)
theorem ok1379 : MfOk Go.Proofs.Try.prog p1379 := mf_at (cfL_ok (P := Go.Proofs.Try.prog) (l := []) (lm := []) (ll := []) trivial trivial trivial) chk1379 182 (by kernel_rfl)
theorem ok1479 : MfOk Go.Proofs.Try.prog p1479 := mf_at (cfL_ok (P := Go.Proofs.Try.prog) (l := []) (lm := []) (ll := []) trivial trivial trivial) chk1479 181 (by kernel_rfl)
theorem ok7001 : MfOk Go.Proofs.Try.prog p7001 := mf_at (cfL_ok (P := Go.Proofs.Try.prog) (l := [p80, p83, p84, p85, p93, p76]) (lm := [p1077, p1177, p1079, p1179, p1279, p1379, p1479]) (ll := []) ⟨ok80, ok83, ok84, ok85, ok93, ok76, trivial⟩ ⟨ok1077, ok1177, ok1079, ok1179, ok1279, ok1379, ok1479, trivial⟩ trivial) chk7001 180 (by kernel_rfl)
theorem ok7002 : MfOk Go.Proofs.Try.prog p7002 := mf_at (cfL_ok (P := Go.Proofs.Try.prog) (l := [p80, p83, p84, p85, p93, p76]) (lm := [p1077, p1177, p1079, p1179, p1279, p1379, p1479]) (ll := []) ⟨ok80, ok83, ok84, ok85, ok93, ok76, trivial⟩ ⟨ok1077, ok1177, ok1079, ok1179, ok1279, ok1379, ok1479, trivial⟩ trivial) chk7002 179 (by kernel_rfl)
theorem ok7003 : MfOk Go.Proofs.Try.prog p7003 := mf_at (cfL_ok (P := Go.Proofs.Try.prog) (l := [p80, p83, p84, p85, p93, p76]) (lm := [p1077, p1177, p1079, p1179, p1279, p1379, p1479]) (ll := []) ⟨ok80, ok83, ok84, ok85, ok93, ok76, trivial⟩ ⟨ok1077, ok1177, ok1079, ok1179, ok1279, ok1379, ok1479, trivial⟩ trivial) chk7003 178 (by kernel_rfl)
theorem ok7004 : MfOk Go.Proofs.Try.prog p7004 := mf_at (cfL_ok (P := Go.Proofs.Try.prog) (l := [p80, p83, p84, p85, p93, p76]) (lm := [p1077, p1177, p1079, p1179, p1279, p1379, p1479]) (ll := []) ⟨ok80, ok83, ok84, ok85, ok93, ok76, trivial⟩ ⟨ok1077, ok1177, ok1079, ok1179, ok1279, ok1379, ok1479, trivial⟩ trivial) chk7004 177 (by kernel_rfl)
theorem ok7005 : MfOk Go.Proofs.Try.prog p7005 := mf_at (cfL_ok (P := Go.Proofs.Try.prog) (l := [p80, p83, p84, p85, p93, p76]) (lm := [p1077, p1177, p1079, p1179, p1279, p1379, p1479]) (ll := []) ⟨ok80, ok83, ok84, ok85, ok93, ok76, trivial⟩ ⟨ok1077, ok1177, ok1079, ok1179, ok1279, ok1379, ok1479, trivial⟩ trivial) chk7005 176 (by kernel_rfl)
theorem ok7006 : MfOk Go.Proofs.Try.prog p7006 := mf_at (cfL_ok (P := Go.Proofs.Try.prog) (l := [p80, p83, p84, p85, p93, p76]) (lm := [p1077, p1177, p1079, p1179, p1279, p1379, p1479]) (ll := []) ⟨ok80, ok83, ok84, ok85, ok93, ok76, trivial⟩ ⟨ok1077, ok1177, ok1079, ok1179, ok1279, ok1379, ok1479, trivial⟩ trivial) chk7006 175 (by kernel_rfl)
theorem ok7007 : MfOk Go.Proofs.Try.prog p7007 := mf_at (cfL_ok (P := Go.Proofs.Try.prog) (l := [p80, p83, p84, p85, p93, p76]) (lm := [p1077, p1177, p1079, p1179, p1279, p1379, p1479]) (ll := []) ⟨ok80, ok83, ok84, ok85, ok93, ok76, trivial⟩ ⟨ok1077, ok1177, ok1079, ok1179, ok1279, ok1379, ok1479, trivial⟩ trivial) chk7007 174 (by kernel_rfl)
theorem ok7008 : MfOk Go.Proofs.Try.prog p7008 := mf_at (cfL_ok (P := Go.Proofs.Try.prog) (l := [p80, p83, p84, p85, p93, p76]) (lm := [p1077, p1177, p1079, p1179, p1279, p1379, p1479]) (ll := []) ⟨ok80, ok83, ok84, ok85, ok93, ok76, trivial⟩ ⟨ok1077, ok1177, ok1079, ok1179, ok1279, ok1379, ok1479, trivial⟩ trivial) chk7008 173 (by kernel_rfl)
theorem ok7009 : MfOk Go.Proofs.Try.prog p7009 := mf_at (cfL_ok (P := Go.Proofs.Try.prog) (l := [p80, p83, p84, p85, p93, p76]) (lm := [p1077, p1177, p1079, p1179, p1279, p1379, p1479]) (ll := []) ⟨ok80, ok83, ok84, ok85, ok93, ok76, trivial⟩ ⟨ok1077, ok1177, ok1079, ok1179, ok1279, ok1379, ok1479, trivial⟩ trivial) chk7009 172 (by kernel_rfl)
theorem ok7010 : MfOk Go.Proofs.Try.prog p7010 := mf_at (cfL_ok (P := Go.Proofs.Try.prog) (l := [p80, p83, p84, p85, p93, p76]) (lm := [p1077, p1177, p1079, p1179, p1279, p1379, p1479]) (ll := []) ⟨ok80, ok83, ok84, ok85, ok93, ok76, trivial⟩ ⟨ok1077, ok1177, ok1079, ok1179, ok1279, ok1379, ok1479, trivial⟩ trivial) chk7010 171 (by kernel_rfl)
theorem ok7011 : MfOk Go.Proofs.Try.prog p7011 := mf_at (cfL_ok (P := Go.Proofs.Try.prog) (l := [p80, p83, p84, p85, p93, p76]) (lm := [p1077, p1177, p1079, p1179, p1279, p1379, p1479]) (ll := []) ⟨ok80, ok83, ok84, ok85, ok93, ok76, trivial⟩ ⟨ok1077, ok1177, ok1079, ok1179, ok1279, ok1379, ok1479, trivial⟩ trivial) chk7011 170 (by kernel_rfl)
theorem ok7012 : MfOk Go.Proofs.Try.prog p7012 := mf_at (cfL_ok (P := Go.Proofs.Try.prog) (l := [p80, p83, p84, p85, p93, p76]) (lm := [p1077, p1177, p1079, p1179, p1279, p1379, p1479]) (ll := []) ⟨ok80, ok83, ok84, ok85, ok93, ok76, trivial⟩ ⟨ok1077, ok1177, ok1079, ok1179, ok1279, ok1379, ok1479, trivial⟩ trivial) chk7012 169 (by kernel_rfl)
theorem ok7013 : MfOk Go.Proofs.Try.prog p7013 := mf_at (cfL_ok (P := Go.Proofs.Try.prog) (l := [p80, p83, p84, p85, p93, p76]) (lm := [p1077, p1177, p1079, p1179, p1279, p1379, p1479]) (ll := []) ⟨ok80, ok83, ok84, ok85, ok93, ok76, trivial⟩ ⟨ok1077, ok1177, ok1079, ok1179, ok1279, ok1379, ok1479, trivial⟩ trivial) chk7013 168 (by kernel_rfl)
theorem ok7014 : MfOk Go.Proofs.Try.prog p7014 := mf_at (cfL_ok (P := Go.Proofs.Try.prog) (l := [p80, p83, p84, p85, p93, p76]) (lm := [p1077, p1177, p1079, p1179, p1279, p1379, p1479]) (ll := []) ⟨ok80, ok83, ok84, ok85, ok93, ok76, trivial⟩ ⟨ok1077, ok1177, ok1079, ok1179, ok1279, ok1379, ok1479, trivial⟩ trivial) chk7014 167 (by kernel_rfl)
theorem ok7015 : MfOk Go.Proofs.Try.prog p7015 := mf_at (cfL_ok (P := Go.Proofs.Try.prog) (l := [p80, p83, p84, p85, p93, p76]) (lm := [p1077, p1177, p1079, p1179, p1279, p1379, p1479]) (ll := []) ⟨ok80, ok83, ok84, ok85, ok93, ok76, trivial⟩ ⟨ok1077, ok1177, ok1079, ok1179, ok1279, ok1379, ok1479, trivial⟩ trivial) chk7015 166 (by kernel_rfl)
theorem ok7016 : MfOk Go.Proofs.Try.prog p7016 := mf_at (cfL_ok (P := Go.Proofs.Try.prog) (l := [p80, p83, p84, p85, p93, p76]) (lm := [p1077, p1177, p1079, p1179, p1279, p1379, p1479]) (ll := []) ⟨ok80, ok83, ok84, ok85, ok93, ok76, trivial⟩ ⟨ok1077, ok1177, ok1079, ok1179, ok1279, ok1379, ok1479, trivial⟩ trivial) chk7016 165 (by kernel_rfl)
theorem ok7017 : MfOk Go.Proofs.Try.prog p7017 := mf_at (cfL_ok (P := Go.Proofs.Try.prog) (l := [p80, p83, p84, p85, p93, p76]) (lm := [p1077, p1177, p1079, p1179, p1279, p1379, p1479]) (ll := []) ⟨ok80, ok83, ok84, ok85, ok93, ok76, trivial⟩ ⟨ok1077, ok1177, ok1079, ok1179, ok1279, ok1379, ok1479, trivial⟩ trivial) chk7017 164 (by kernel_rfl)
theorem ok7018 : MfOk Go.Proofs.Try.prog p7018 := mf_at (cfL_ok (P := Go.Proofs.Try.prog) (l := [p80, p83, p84, p85, p93, p76]) (lm := [p1077, p1177, p1079, p1179, p1279, p1379, p1479]) (ll := []) ⟨ok80, ok83, ok84, ok85, ok93, ok76, trivial⟩ ⟨ok1077, ok1177, ok1079, ok1179, ok1279, ok1379, ok1479, trivial⟩ trivial) chk7018 163 (by kernel_rfl)
theorem ok7019 : MfOk Go.Proofs.Try.prog p7019 := mf_at (cfL_ok (P := Go.Proofs.Try.prog) (l := [p80, p83, p84, p85, p93, p76]) (lm := [p1077, p1177, p1079, p1179, p1279, p1379, p1479]) (ll := []) ⟨ok80, ok83, ok84, ok85, ok93, ok76, trivial⟩ ⟨ok1077, ok1177, ok1079, ok1179, ok1279, ok1379, ok1479, trivial⟩ trivial) chk7019 162 (by kernel_rfl)
theorem ok7020 : MfOk Go.Proofs.Try.prog p7020 := mf_at (cfL_ok (P := Go.Proofs.Try.prog) (l := [p80, p83, p84, p85, p93, p76]) (lm := [p1077, p1177, p1079, p1179, p1279, p1379, p1479]) (ll := []) ⟨ok80, ok83, ok84, ok85, ok93, ok76, trivial⟩ ⟨ok1077, ok1177, ok1079, ok1179, ok1279, ok1379, ok1479, trivial⟩ trivial) chk7020 161 (by kernel_rfl)
theorem ok7021 : MfOk Go.Proofs.Try.prog p7021 := mf_at (cfL_ok (P := Go.Proofs.Try.prog) (l := [p80, p83, p84, p85, p93, p76]) (lm := [p1077, p1177, p1079, p1179, p1279, p1379, p1479]) (ll := []) ⟨ok80, ok83, ok84, ok85, ok93, ok76, trivial⟩ ⟨ok1077, ok1177, ok1079, ok1179, ok1279, ok1379, ok1479, trivial⟩ trivial) chk7021 160 (by kernel_rfl)
theorem ok7022 : MfOk Go.Proofs.Try.prog p7022 := mf_at (cfL_ok (P := Go.Proofs.Try.prog) (l := [p80, p83, p84, p85, p93, p76]) (lm := [p1077, p1177, p1079, p1179, p1279, p1379, p1479]) (ll := []) ⟨ok80, ok83, ok84, ok85, ok93, ok76, trivial⟩ ⟨ok1077, ok1177, ok1079, ok1179, ok1279, ok1379, ok1479, trivial⟩ trivial) chk7022 159 (by kernel_rfl)
theorem ok7023 : MfOk Go.Proofs.Try.prog p7023 := mf_at (cfL_ok (P := Go.Proofs.Try.prog) (l := [p80, p83, p84, p85, p93, p76]) (lm := [p1077, p1177, p1079, p1179, p1279, p1379, p1479]) (ll := []) ⟨ok80, ok83, ok84, ok85, ok93, ok76, trivial⟩ ⟨ok1077, ok1177, ok1079, ok1179, ok1279, ok1379, ok1479, trivial⟩ trivial) chk7023 158 (by kernel_rfl)
theorem ok7024 : MfOk Go.Proofs.Try.prog p7024 := mf_at (cfL_ok (P := Go.Proofs.Try.prog) (l := [p80, p83, p84, p85, p93, p76]) (lm := [p1077, p1177, p1079, p1179, p1279, p1379, p1479]) (ll := []) ⟨ok80, ok83, ok84, ok85, ok93, ok76, trivial⟩ ⟨ok1077, ok1177, ok1079, ok1179, ok1279, ok1379, ok1479, trivial⟩ trivial) chk7024 157 (by kernel_rfl)
theorem ok7025 : MfOk Go.Proofs.Try.prog p7025 := mf_at (cfL_ok (P := Go.Proofs.Try.prog) (l := [p80, p83, p84, p85, p93, p76]) (lm := [p1077, p1177, p1079, p1179, p1279, p1379, p1479]) (ll := []) ⟨ok80, ok83, ok84, ok85, ok93, ok76, trivial⟩ ⟨ok1077, ok1177, ok1079, ok1179, ok1279, ok1379, ok1479, trivial⟩ trivial) chk7025 156 (by kernel_rfl)
theorem ok7027 : MfOk Go.Proofs.Try.prog p7027 := mf_at (cfL_ok (P := Go.Proofs.Try.prog) (l := [p80, p83, p84, p85, p93, p76]) (lm := [p1077, p1177, p1079, p1179, p1279, p1379, p1479]) (ll := []) ⟨ok80, ok83, ok84, ok85, ok93, ok76, trivial⟩ ⟨ok1077, ok1177, ok1079, ok1179, ok1279, ok1379, ok1479, trivial⟩ trivial) chk7027 155 (by kernel_rfl)
theorem ok7032 : MfOk Go.Proofs.Try.prog p7032 := mf_at (cfL_ok (P := Go.Proofs.Try.prog) (l := [p80, p83, p84, p85, p93, p76]) (lm := [p1077, p1177, p1079, p1179, p1279, p1379, p1479]) (ll := []) ⟨ok80, ok83, ok84, ok85, ok93, ok76, trivial⟩ ⟨ok1077, ok1177, ok1079, ok1179, ok1279, ok1379, ok1479, trivial⟩ trivial) chk7032 154 (by kernel_rfl)
theorem ok7033 : MfOk Go.Proofs.Try.prog p7033 := mf_at (cfL_ok (P := Go.Proofs.Try.prog) (l := [p80, p83, p84, p85, p93, p76]) (lm := [p1077, p1177, p1079, p1179, p1279, p1379, p1479]) (ll := []) ⟨ok80, ok83, ok84, ok85, ok93, ok76, trivial⟩ ⟨ok1077, ok1177, ok1079, ok1179, ok1279, ok1379, ok1479, trivial⟩ trivial) chk7033 153 (by kernel_rfl)
theorem ok7034 : MfOk Go.Proofs.Try.prog p7034 := mf_at (cfL_ok (P := Go.Proofs.Try.prog) (l := [p80, p83, p84, p85, p93, p76]) (lm := [p1077, p1177, p1079, p1179, p1279, p1379, p1479]) (ll := []) ⟨ok80, ok83, ok84, ok85, ok93, ok76, trivial⟩ ⟨ok1077, ok1177, ok1079, ok1179, ok1279, ok1379, ok1479, trivial⟩ trivial) chk7034 152 (by kernel_rfl)
theorem ok7035 : MfOk Go.Proofs.Try.prog p7035 := mf_at (cfL_ok (P := Go.Proofs.Try.prog) (l := [p80, p83, p84, p85, p93, p76]) (lm := [p1077, p1177, p1079, p1179, p1279, p1379, p1479]) (ll := []) ⟨ok80, ok83, ok84, ok85, ok93, ok76, trivial⟩ ⟨ok1077, ok1177, ok1079, ok1179, ok1279, ok1379, ok1479, trivial⟩ trivial) chk7035 151 (by kernel_rfl)
theorem ok7036 : MfOk Go.Proofs.Try.prog p7036 := mf_at (cfL_ok (P := Go.Proofs.Try.prog) (l := [p80, p83, p84, p85, p93, p76]) (lm := [p1077, p1177, p1079, p1179, p1279, p1379, p1479]) (ll := []) ⟨ok80, ok83, ok84, ok85, ok93, ok76, trivial⟩ ⟨ok1077, ok1177, ok1079, ok1179, ok1279, ok1379, ok1479, trivial⟩ trivial) chk7036 150 (by kernel_rfl)
theorem ok7037 : MfOk Go.Proofs.Try.prog p7037 := mf_at (cfL_ok (P := Go.Proofs.Try.prog) (l := [p80, p83, p84, p85, p93, p76]) (lm := [p1077, p1177, p1079, p1179, p1279, p1379, p1479]) (ll := []) ⟨ok80, ok83, ok84, ok85, ok93, ok76, trivial⟩ ⟨ok1077, ok1177, ok1079, ok1179, ok1279, ok1379, ok1479, trivial⟩ trivial) chk7037 149 (by kernel_rfl)
theorem ok7038 : MfOk Go.Proofs.Try.prog p7038 := mf_at (cfL_ok (P := Go.Proofs.Try.prog) (l := [p80, p83, p84, p85, p93, p76]) (lm := [p1077, p1177, p1079, p1179, p1279, p1379, p1479]) (ll := []) ⟨ok80, ok83, ok84, ok85, ok93, ok76, trivial⟩ ⟨ok1077, ok1177, ok1079, ok1179, ok1279, ok1379, ok1479, trivial⟩ trivial) chk7038 148 (by kernel_rfl)
theorem ok7039 : MfOk Go.Proofs.Try.prog p7039 := mf_at (cfL_ok (P := Go.Proofs.Try.prog) (l := [p80, p83, p84, p85, p93, p76]) (lm := [p1077, p1177, p1079, p1179, p1279, p1379, p1479]) (ll := []) ⟨ok80, ok83, ok84, ok85, ok93, ok76, trivial⟩ ⟨ok1077, ok1177, ok1079, ok1179, ok1279, ok1379, ok1479, trivial⟩ trivial) chk7039 147 (by kernel_rfl)
theorem ok7040 : MfOk Go.Proofs.Try.prog p7040 := mf_at (cfL_ok (P := Go.Proofs.Try.prog) (l := [p80, p83, p84, p85, p93, p76]) (lm := [p1077, p1177, p1079, p1179, p1279, p1379, p1479]) (ll := []) ⟨ok80, ok83, ok84, ok85, ok93, ok76, trivial⟩ ⟨ok1077, ok1177, ok1079, ok1179, ok1279, ok1379, ok1479, trivial⟩ trivial) chk7040 146 (by kernel_rfl)
theorem ok7043 : MfOk Go.Proofs.Try.prog p7043 := mf_at (cfL_ok (P := Go.Proofs.Try.prog) (l := [p80, p83, p84, p85, p93, p76]) (lm := [p1077, p1177, p1079, p1179, p1279, p1379, p1479]) (ll := []) ⟨ok80, ok83, ok84, ok85, ok93, ok76, trivial⟩ ⟨ok1077, ok1177, ok1079, ok1179, ok1279, ok1379, ok1479, trivial⟩ trivial) chk7043 145 (by kernel_rfl)
theorem ok7044 : MfOk Go.Proofs.Try.prog p7044 := mf_at (cfL_ok (P := Go.Proofs.Try.prog) (l := [p80, p83, p84, p85, p93, p76]) (lm := [p1077, p1177, p1079, p1179, p1279, p1379, p1479]) (ll := []) ⟨ok80, ok83, ok84, ok85, ok93, ok76, trivial⟩ ⟨ok1077, ok1177, ok1079, ok1179, ok1279, ok1379, ok1479, trivial⟩ trivial) chk7044 144 (by kernel_rfl)
theorem ok7051 : MfOk Go.Proofs.Try.prog p7051 := mf_at (cfL_ok (P := Go.Proofs.Try.prog) (l := [p80, p83, p84, p85, p93, p76]) (lm := [p1077, p1177, p1079, p1179, p1279, p1379, p1479]) (ll := []) ⟨ok80, ok83, ok84, ok85, ok93, ok76, trivial⟩ ⟨ok1077, ok1177, ok1079, ok1179, ok1279, ok1379, ok1479, trivial⟩ trivial) chk7051 143 (by kernel_rfl)
theorem ok7052 : MfOk Go.Proofs.Try.prog p7052 := mf_at (cfL_ok (P := Go.Proofs.Try.prog) (l := [p80, p83, p84, p85, p93, p76]) (lm := [p1077, p1177, p1079, p1179, p1279, p1379, p1479]) (ll := []) ⟨ok80, ok83, ok84, ok85, ok93, ok76, trivial⟩ ⟨ok1077, ok1177, ok1079, ok1179, ok1279, ok1379, ok1479, trivial⟩ trivial) chk7052 142 (by kernel_rfl)
theorem ok7026 : MfOk Go.Proofs.Try.prog p7026 := mf_at (cfL_ok (P := Go.Proofs.Try.prog) (l := [p80, p83, p84, p85, p93, p76]) (lm := [p1077, p1177, p1079, p1179, p1279, p1379, p1479]) (ll := []) ⟨ok80, ok83, ok84, ok85, ok93, ok76, trivial⟩ ⟨ok1077, ok1177, ok1079, ok1179, ok1279, ok1379, ok1479, trivial⟩ trivial) chk7026 141 (by kernel_rfl)
theorem ok7121 : MfOk Go.Proofs.Try.prog p7121 := mf_at (cfL_ok (P := Go.Proofs.Try.prog) (l := [p80, p83, p84, p85, p93, p76]) (lm := [p1077, p1177, p1079, p1179, p1279, p1379, p1479]) (ll := []) ⟨ok80, ok83, ok84, ok85, ok93, ok76, trivial⟩ ⟨ok1077, ok1177, ok1079, ok1179, ok1279, ok1379, ok1479, trivial⟩ trivial) chk7121 140 (by kernel_rfl)
theorem ok7221 : MfOk Go.Proofs.Try.prog p7221 := mf_at (cfL_ok (P := Go.Proofs.Try.prog) (l := [p80, p83, p84, p85, p93, p76]) (lm := [p1077, p1177, p1079, p1179, p1279, p1379, p1479]) (ll := []) ⟨ok80, ok83, ok84, ok85, ok93, ok76, trivial⟩ ⟨ok1077, ok1177, ok1079, ok1179, ok1279, ok1379, ok1479, trivial⟩ trivial) chk7221 139 (by kernel_rfl)
theorem ok7122 : MfOk Go.Proofs.Try.prog p7122 := mf_at (cfL_ok (P := Go.Proofs.Try.prog) (l := [p80, p83, p84, p85, p93, p76]) (lm := [p1077, p1177, p1079, p1179, p1279, p1379, p1479]) (ll := []) ⟨ok80, ok83, ok84, ok85, ok93, ok76, trivial⟩ ⟨ok1077, ok1177, ok1079, ok1179, ok1279, ok1379, ok1479, trivial⟩ trivial) chk7122 138 (by kernel_rfl)
theorem ok7222 : MfOk Go.Proofs.Try.prog p7222 := mf_at (cfL_ok (P := Go.Proofs.Try.prog) (l := [p80, p83, p84, p85, p93, p76]) (lm := [p1077, p1177, p1079, p1179, p1279, p1379, p1479]) (ll := []) ⟨ok80, ok83, ok84, ok85, ok93, ok76, trivial⟩ ⟨ok1077, ok1177, ok1079, ok1179, ok1279, ok1379, ok1479, trivial⟩ trivial) chk7222 137 (by kernel_rfl)
theorem ok7123 : MfOk Go.Proofs.Try.prog p7123 := mf_at (cfL_ok (P := Go.Proofs.Try.prog) (l := [p80, p83, p84, p85, p93, p76]) (lm := [p1077, p1177, p1079, p1179, p1279, p1379, p1479]) (ll := []) ⟨ok80, ok83, ok84, ok85, ok93, ok76, trivial⟩ ⟨ok1077, ok1177, ok1079, ok1179, ok1279, ok1379, ok1479, trivial⟩ trivial) chk7123 136 (by kernel_rfl)
theorem ok7223 : MfOk Go.Proofs.Try.prog p7223 := mf_at (cfL_ok (P := Go.Proofs.Try.prog) (l := [p80, p83, p84, p85, p93, p76]) (lm := [p1077, p1177, p1079, p1179, p1279, p1379, p1479]) (ll := []) ⟨ok80, ok83, ok84, ok85, ok93, ok76, trivial⟩ ⟨ok1077, ok1177, ok1079, ok1179, ok1279, ok1379, ok1479, trivial⟩ trivial) chk7223 135 (by kernel_rfl)
theorem ok7124 : MfOk Go.Proofs.Try.prog p7124 := mf_at (cfL_ok (P := Go.Proofs.Try.prog) (l := [p80, p83, p84, p85, p93, p76]) (lm := [p1077, p1177, p1079, p1179, p1279, p1379, p1479]) (ll := []) ⟨ok80, ok83, ok84, ok85, ok93, ok76, trivial⟩ ⟨ok1077, ok1177, ok1079, ok1179, ok1279, ok1379, ok1479, trivial⟩ trivial) chk7124 134 (by kernel_rfl)
theorem ok7224 : MfOk Go.Proofs.Try.prog p7224 := mf_at (cfL_ok (P := Go.Proofs.Try.prog) (l := [p80, p83, p84, p85, p93, p76]) (lm := [p1077, p1177, p1079, p1179, p1279, p1379, p1479]) (ll := []) ⟨ok80, ok83, ok84, ok85, ok93, ok76, trivial⟩ ⟨ok1077, ok1177, ok1079, ok1179, ok1279, ok1379, ok1479, trivial⟩ trivial) chk7224 133 (by kernel_rfl)
theorem ok7125 : MfOk Go.Proofs.Try.prog p7125 := mf_at (cfL_ok (P := Go.Proofs.Try.prog) (l := [p80, p83, p84, p85, p93, p76]) (lm := [p1077, p1177, p1079, p1179, p1279, p1379, p1479]) (ll := []) ⟨ok80, ok83, ok84, ok85, ok93, ok76, trivial⟩ ⟨ok1077, ok1177, ok1079, ok1179, ok1279, ok1379, ok1479, trivial⟩ trivial) chk7125 132 (by kernel_rfl)
theorem ok7225 : MfOk Go.Proofs.Try.prog p7225 := mf_at (cfL_ok (P := Go.Proofs.Try.prog) (l := [p80, p83, p84, p85, p93, p76]) (lm := [p1077, p1177, p1079, p1179, p1279, p1379, p1479]) (ll := []) ⟨ok80, ok83, ok84, ok85, ok93, ok76, trivial⟩ ⟨ok1077, ok1177, ok1079, ok1179, ok1279, ok1379, ok1479, trivial⟩ trivial) chk7225 131 (by kernel_rfl)
theorem ok8001 : MfOk Go.Proofs.Try.prog p8001 := mf_at (cfL_ok (P := Go.Proofs.Try.prog) (l := [p75, p32]) (lm := []) (ll := []) ⟨ok75, ok32, trivial⟩ trivial trivial) chk8001 130 (by kernel_rfl)
theorem ok9001 : MfOk Go.Proofs.Try.prog p9001 := mf_at (cfL_ok (P := Go.Proofs.Try.prog) (l := []) (lm := []) (ll := []) trivial trivial trivial) chk9001 129 (by kernel_rfl)
theorem ok5001 : MfOk Go.Proofs.Try.prog p5001 := mf_at (cfL_ok (P := Go.Proofs.Try.prog) (l := []) (lm := []) (ll := []) trivial trivial trivial) chk5001 128 (by kernel_rfl)
theorem ok8002 : MfOk Go.Proofs.Try.prog p8002 := mf_at (cfL_ok (P := Go.Proofs.Try.prog) (l := [p75, p32]) (lm := []) (ll := []) ⟨ok75, ok32, trivial⟩ trivial trivial) chk8002 127 (by kernel_rfl)
theorem ok9002 : MfOk Go.Proofs.Try.prog p9002 := mf_at (cfL_ok (P := Go.Proofs.Try.prog) (l := []) (lm := []) (ll := []) trivial trivial trivial) chk9002 126 (by kernel_rfl)
theorem ok5002 : MfOk Go.Proofs.Try.prog p5002 := mf_at (cfL_ok (P := Go.Proofs.Try.prog) (l := []) (lm := []) (ll := []) trivial trivial trivial) chk5002 125 (by kernel_rfl)
theorem ok8003 : MfOk Go.Proofs.Try.prog p8003 := mf_at (cfL_ok (P := Go.Proofs.Try.prog) (l := [p75, p32]) (lm := []) (ll := []) ⟨ok75, ok32, trivial⟩ trivial trivial) chk8003 124 (by kernel_rfl)
theorem ok9003 : MfOk Go.Proofs.Try.prog p9003 := mf_at (cfL_ok (P := Go.Proofs.Try.prog) (l := []) (lm := []) (ll := []) trivial trivial trivial) chk9003 123 (by kernel_rfl)
theorem ok5003 : MfOk Go.Proofs.Try.prog p5003 := mf_at (cfL_ok (P := Go.Proofs.Try.prog) (l := []) (lm := []) (ll := []) trivial trivial trivial) chk5003 122 (by kernel_rfl)
theorem ok8004 : MfOk Go.Proofs.Try.prog p8004 := mf_at (cfL_ok (P := Go.Proofs.Try.prog) (l := [p75, p32]) (lm := []) (ll := []) ⟨ok75, ok32, trivial⟩ trivial trivial) chk8004 121 (by kernel_rfl)
theorem ok9004 : MfOk Go.Proofs.Try.prog p9004 := mf_at (cfL_ok (P := Go.Proofs.Try.prog) (l := []) (lm := []) (ll := []) trivial trivial trivial) chk9004 120 (by kernel_rfl)
theorem ok5004 : MfOk Go.Proofs.Try.prog p5004 := mf_at (cfL_ok (P := Go.Proofs.Try.prog) (l := []) (lm := []) (ll := []) trivial trivial trivial) chk5004 119 (by kernel_rfl)
theorem ok8005 : MfOk Go.Proofs.Try.prog p8005 := mf_at (cfL_ok (P := Go.Proofs.Try.prog) (l := [p75, p32]) (lm := []) (ll := []) ⟨ok75, ok32, trivial⟩ trivial trivial) chk8005 118 (by kernel_rfl)
theorem ok9005 : MfOk Go.Proofs.Try.prog p9005 := mf_at (cfL_ok (P := Go.Proofs.Try.prog) (l := []) (lm := []) (ll := []) trivial trivial trivial) chk9005 117 (by kernel_rfl)
theorem ok5005 : MfOk Go.Proofs.Try.prog p5005 := mf_at (cfL_ok (P := Go.Proofs.Try.prog) (l := []) (lm := []) (ll := []) trivial trivial trivial) chk5005 116 (by kernel_rfl)
theorem ok8006 : MfOk Go.Proofs.Try.prog p8006 := mf_at (cfL_ok (P := Go.Proofs.Try.prog) (l := [p75, p32]) (lm := []) (ll := []) ⟨ok75, ok32, trivial⟩ trivial trivial) chk8006 115 (by kernel_rfl)
theorem ok9006 : MfOk Go.Proofs.Try.prog p9006 := mf_at (cfL_ok (P := Go.Proofs.Try.prog) (l := []) (lm := []) (ll := []) trivial trivial trivial) chk9006 114 (by kernel_rfl)
theorem ok5006 : MfOk Go.Proofs.Try.prog p5006 := mf_at (cfL_ok (P := Go.Proofs.Try.prog) (l := []) (lm := []) (ll := []) trivial trivial trivial) chk5006 113 (by kernel_rfl)
theorem ok8007 : MfOk Go.Proofs.Try.prog p8007 := mf_at (cfL_ok (P := Go.Proofs.Try.prog) (l := [p75, p32]) (lm := []) (ll := []) ⟨ok75, ok32, trivial⟩ trivial trivial) chk8007 112 (by kernel_rfl)
theorem ok9007 : MfOk Go.Proofs.Try.prog p9007 := mf_at (cfL_ok (P := Go.Proofs.Try.prog) (l := []) (lm := []) (ll := []) trivial trivial trivial) chk9007 111 (by kernel_rfl)
theorem ok5007 : MfOk Go.Proofs.Try.prog p5007 := mf_at (cfL_ok (P := Go.Proofs.Try.prog) (l := []) (lm := []) (ll := []) trivial trivial trivial) chk5007 110 (by kernel_rfl)
theorem ok8008 : MfOk Go.Proofs.Try.prog p8008 := mf_at (cfL_ok (P := Go.Proofs.Try.prog) (l := [p75, p32]) (lm := []) (ll := []) ⟨ok75, ok32, trivial⟩ trivial trivial) chk8008 109 (by kernel_rfl)
theorem ok9008 : MfOk Go.Proofs.Try.prog p9008 := mf_at (cfL_ok (P := Go.Proofs.Try.prog) (l := []) (lm := []) (ll := []) trivial trivial trivial) chk9008 108 (by kernel_rfl)
theorem ok5008 : MfOk Go.Proofs.Try.prog p5008 := mf_at (cfL_ok (P := Go.Proofs.Try.prog) (l := []) (lm := []) (ll := []) trivial trivial trivial) chk5008 107 (by kernel_rfl)
theorem ok8009 : MfOk Go.Proofs.Try.prog p8009 := mf_at (cfL_ok (P := Go.Proofs.Try.prog) (l := [p75, p32]) (lm := []) (ll := []) ⟨ok75, ok32, trivial⟩ trivial trivial) chk8009 106 (by kernel_rfl)
theorem ok9009 : MfOk Go.Proofs.Try.prog p9009 := mf_at (cfL_ok (P := Go.Proofs.Try.prog) (l := []) (lm := []) (ll := []) trivial trivial trivial) chk9009 105 (by kernel_rfl)
theorem ok5009 : MfOk Go.Proofs.Try.prog p5009 := mf_at (cfL_ok (P := Go.Proofs.Try.prog) (l := []) (lm := []) (ll := []) trivial trivial trivial) chk5009 104 (by kernel_rfl)
theorem ok8010 : MfOk Go.Proofs.Try.prog p8010 := mf_at (cfL_ok (P := Go.Proofs.Try.prog) (l := [p75, p32]) (lm := []) (ll := []) ⟨ok75, ok32, trivial⟩ trivial trivial) chk8010 103 (by kernel_rfl)
theorem ok9010 : MfOk Go.Proofs.Try.prog p9010 := mf_at (cfL_ok (P := Go.Proofs.Try.prog) (l := []) (lm := []) (ll := []) trivial trivial trivial) chk9010 102 (by kernel_rfl)
theorem ok5010 : MfOk Go.Proofs.Try.prog p5010 := mf_at (cfL_ok (P := Go.Proofs.Try.prog) (l := []) (lm := []) (ll := []) trivial trivial trivial) chk5010 101 (by kernel_rfl)
theorem ok8011 : MfOk Go.Proofs.Try.prog p8011 := mf_at (cfL_ok (P := Go.Proofs.Try.prog) (l := [p75, p32]) (lm := []) (ll := []) ⟨ok75, ok32, trivial⟩ trivial trivial) chk8011 100 (by kernel_rfl)
theorem ok9011 : MfOk Go.Proofs.Try.prog p9011 := mf_at (cfL_ok (P := Go.Proofs.Try.prog) (l := []) (lm := []) (ll := []) trivial trivial trivial) chk9011 99 (by kernel_rfl)
theorem ok5011 : MfOk Go.Proofs.Try.prog p5011 := mf_at (cfL_ok (P := Go.Proofs.Try.prog) (l := []) (lm := []) (ll := []) trivial trivial trivial) chk5011 98 (by kernel_rfl)
theorem ok8012 : MfOk Go.Proofs.Try.prog p8012 := mf_at (cfL_ok (P := Go.Proofs.Try.prog) (l := [p75, p32]) (lm := []) (ll := []) ⟨ok75, ok32, trivial⟩ trivial trivial) chk8012 97 (by kernel_rfl)
theorem ok9012 : MfOk Go.Proofs.Try.prog p9012 := mf_at (cfL_ok (P := Go.Proofs.Try.prog) (l := []) (lm := []) (ll := []) trivial trivial trivial) chk9012 96 (by kernel_rfl)
theorem ok5012 : MfOk Go.Proofs.Try.prog p5012 := mf_at (cfL_ok (P := Go.Proofs.Try.prog) (l := []) (lm := []) (ll := []) trivial trivial trivial) chk5012 95 (by kernel_rfl)
theorem ok8013 : MfOk Go.Proofs.Try.prog p8013 := mf_at (cfL_ok (P := Go.Proofs.Try.prog) (l := [p75, p32]) (lm := []) (ll := []) ⟨ok75, ok32, trivial⟩ trivial trivial) chk8013 94 (by kernel_rfl)
theorem ok9013 : MfOk Go.Proofs.Try.prog p9013 := mf_at (cfL_ok (P := Go.Proofs.Try.prog) (l := []) (lm := []) (ll := []) trivial trivial trivial) chk9013 93 (by kernel_rfl)
theorem ok5013 : MfOk Go.Proofs.Try.prog p5013 := mf_at (cfL_ok (P := Go.Proofs.Try.prog) (l := []) (lm := []) (ll := []) trivial trivial trivial) chk5013 92 (by kernel_rfl)
theorem ok8014 : MfOk Go.Proofs.Try.prog p8014 := mf_at (cfL_ok (P := Go.Proofs.Try.prog) (l := [p75, p32]) (lm := []) (ll := []) ⟨ok75, ok32, trivial⟩ trivial trivial) chk8014 91 (by kernel_rfl)
theorem ok9014 : MfOk Go.Proofs.Try.prog p9014 := mf_at (cfL_ok (P := Go.Proofs.Try.prog) (l := []) (lm := []) (ll := []) trivial trivial trivial) chk9014 90 (by kernel_rfl)
theorem ok5014 : MfOk Go.Proofs.Try.prog p5014 := mf_at (cfL_ok (P := Go.Proofs.Try.prog) (l := []) (lm := []) (ll := []) trivial trivial trivial) chk5014 89 (by kernel_rfl)
theorem ok8015 : MfOk Go.Proofs.Try.prog p8015 := mf_at (cfL_ok (P := Go.Proofs.Try.prog) (l := [p75, p32]) (lm := []) (ll := []) ⟨ok75, ok32, trivial⟩ trivial trivial) chk8015 88 (by kernel_rfl)
theorem ok9015 : MfOk Go.Proofs.Try.prog p9015 := mf_at (cfL_ok (P := Go.Proofs.Try.prog) (l := []) (lm := []) (ll := []) trivial trivial trivial) chk9015 87 (by kernel_rfl)
theorem ok5015 : MfOk Go.Proofs.Try.prog p5015 := mf_at (cfL_ok (P := Go.Proofs.Try.prog) (l := []) (lm := []) (ll := []) trivial trivial trivial) chk5015 86 (by kernel_rfl)
theorem ok8016 : MfOk Go.Proofs.Try.prog p8016 := mf_at (cfL_ok (P := Go.Proofs.Try.prog) (l := [p75, p32]) (lm := []) (ll := []) ⟨ok75, ok32, trivial⟩ trivial trivial) chk8016 85 (by kernel_rfl)
theorem ok9016 : MfOk Go.Proofs.Try.prog p9016 := mf_at (cfL_ok (P := Go.Proofs.Try.prog) (l := []) (lm := []) (ll := []) trivial trivial trivial) chk9016 84 (by kernel_rfl)
theorem ok5016 : MfOk Go.Proofs.Try.prog p5016 := mf_at (cfL_ok (P := Go.Proofs.Try.prog) (l := []) (lm := []) (ll := []) trivial trivial trivial) chk5016 83 (by kernel_rfl)
theorem ok8017 : MfOk Go.Proofs.Try.prog p8017 := mf_at (cfL_ok (P := Go.Proofs.Try.prog) (l := [p75, p32]) (lm := []) (ll := []) ⟨ok75, ok32, trivial⟩ trivial trivial) chk8017 82 (by kernel_rfl)
theorem ok9017 : MfOk Go.Proofs.Try.prog p9017 := mf_at (cfL_ok (P := Go.Proofs.Try.prog) (l := []) (lm := []) (ll := []) trivial trivial trivial) chk9017 81 (by kernel_rfl)
theorem ok5017 : MfOk Go.Proofs.Try.prog p5017 := mf_at (cfL_ok (P := Go.Proofs.Try.prog) (l := []) (lm := []) (ll := []) trivial trivial trivial) chk5017 80 (by kernel_rfl)
theorem ok8018 : MfOk Go.Proofs.Try.prog p8018 := mf_at (cfL_ok (P := Go.Proofs.Try.prog) (l := [p75, p32]) (lm := []) (ll := []) ⟨ok75, ok32, trivial⟩ trivial trivial) chk8018 79 (by kernel_rfl)
theorem ok9018 : MfOk Go.Proofs.Try.prog p9018 := mf_at (cfL_ok (P := Go.Proofs.Try.prog) (l := []) (lm := []) (ll := []) trivial trivial trivial) chk9018 78 (by kernel_rfl)
theorem ok5018 : MfOk Go.Proofs.Try.prog p5018 := mf_at (cfL_ok (P := Go.Proofs.Try.prog) (l := []) (lm := []) (ll := []) trivial trivial trivial) chk5018 77 (by kernel_rfl)
theorem ok8019 : MfOk Go.Proofs.Try.prog p8019 := mf_at (cfL_ok (P := Go.Proofs.Try.prog) (l := [p75, p32]) (lm := []) (ll := []) ⟨ok75, ok32, trivial⟩ trivial trivial) chk8019 76 (by kernel_rfl)
theorem ok9019 : MfOk Go.Proofs.Try.prog p9019 := mf_at (cfL_ok (P := Go.Proofs.Try.prog) (l := []) (lm := []) (ll := []) trivial trivial trivial) chk9019 75 (by kernel_rfl)
theorem ok5019 : MfOk Go.Proofs.Try.prog p5019 := mf_at (cfL_ok (P := Go.Proofs.Try.prog) (l := []) (lm := []) (ll := []) trivial trivial trivial) chk5019 74 (by kernel_rfl)
theorem ok8020 : MfOk Go.Proofs.Try.prog p8020 := mf_at (cfL_ok (P := Go.Proofs.Try.prog) (l := [p75, p32]) (lm := []) (ll := []) ⟨ok75, ok32, trivial⟩ trivial trivial) chk8020 73 (by kernel_rfl)
theorem ok9020 : MfOk Go.Proofs.Try.prog p9020 := mf_at (cfL_ok (P := Go.Proofs.Try.prog) (l := []) (lm := []) (ll := []) trivial trivial trivial) chk9020 72 (by kernel_rfl)
theorem ok5020 : MfOk Go.Proofs.Try.prog p5020 := mf_at (cfL_ok (P := Go.Proofs.Try.prog) (l := []) (lm := []) (ll := []) trivial trivial trivial) chk5020 71 (by kernel_rfl)
theorem ok9021 : MfOk Go.Proofs.Try.prog p9021 := mf_at (cfL_ok (P := Go.Proofs.Try.prog) (l := []) (lm := []) (ll := []) trivial trivial trivial) chk9021 70 (by kernel_rfl)
theorem ok5021 : MfOk Go.Proofs.Try.prog p5021 := mf_at (cfL_ok (P := Go.Proofs.Try.prog) (l := []) (lm := []) (ll := []) trivial trivial trivial) chk5021 69 (by kernel_rfl)
theorem ok9022 : MfOk Go.Proofs.Try.prog p9022 := mf_at (cfL_ok (P := Go.Proofs.Try.prog) (l := []) (lm := []) (ll := []) trivial trivial trivial) chk9022 68 (by kernel_rfl)
theorem ok5022 : MfOk Go.Proofs.Try.prog p5022 := mf_at (cfL_ok (P := Go.Proofs.Try.prog) (l := []) (lm := []) (ll := []) trivial trivial trivial) chk5022 67 (by kernel_rfl)
theorem ok9023 : MfOk Go.Proofs.Try.prog p9023 := mf_at (cfL_ok (P := Go.Proofs.Try.prog) (l := []) (lm := []) (ll := []) trivial trivial trivial) chk9023 66 (by kernel_rfl)
theorem ok5023 : MfOk Go.Proofs.Try.prog p5023 := mf_at (cfL_ok (P := Go.Proofs.Try.prog) (l := []) (lm := []) (ll := []) trivial trivial trivial) chk5023 65 (by kernel_rfl)
theorem ok9024 : MfOk Go.Proofs.Try.prog p9024 := mf_at (cfL_ok (P := Go.Proofs.Try.prog) (l := []) (lm := []) (ll := []) trivial trivial trivial) chk9024 64 (by kernel_rfl)
theorem ok5024 : MfOk Go.Proofs.Try.prog p5024 := mf_at (cfL_ok (P := Go.Proofs.Try.prog) (l := []) (lm := []) (ll := []) trivial trivial trivial) chk5024 63 (by kernel_rfl)
theorem ok9025 : MfOk Go.Proofs.Try.prog p9025 := mf_at (cfL_ok (P := Go.Proofs.Try.prog) (l := []) (lm := []) (ll := []) trivial trivial trivial) chk9025 62 (by kernel_rfl)
theorem ok5025 : MfOk Go.Proofs.Try.prog p5025 := mf_at (cfL_ok (P := Go.Proofs.Try.prog) (l := []) (lm := []) (ll := []) trivial trivial trivial) chk5025 61 (by kernel_rfl)
theorem ok8027 : MfOk Go.Proofs.Try.prog p8027 := mf_at (cfL_ok (P := Go.Proofs.Try.prog) (l := [p75, p32]) (lm := []) (ll := []) ⟨ok75, ok32, trivial⟩ trivial trivial) chk8027 60 (by kernel_rfl)
theorem ok9027 : MfOk Go.Proofs.Try.prog p9027 := mf_at (cfL_ok (P := Go.Proofs.Try.prog) (l := []) (lm := []) (ll := []) trivial trivial trivial) chk9027 59 (by kernel_rfl)
theorem ok5027 : MfOk Go.Proofs.Try.prog p5027 := mf_at (cfL_ok (P := Go.Proofs.Try.prog) (l := []) (lm := []) (ll := []) trivial trivial trivial) chk5027 58 (by kernel_rfl)
theorem ok8032 : MfOk Go.Proofs.Try.prog p8032 := mf_at (cfL_ok (P := Go.Proofs.Try.prog) (l := [p75, p32]) (lm := []) (ll := []) ⟨ok75, ok32, trivial⟩ trivial trivial) chk8032 57 (by kernel_rfl)
theorem ok9032 : MfOk Go.Proofs.Try.prog p9032 := mf_at (cfL_ok (P := Go.Proofs.Try.prog) (l := []) (lm := []) (ll := []) trivial trivial trivial) chk9032 56 (by kernel_rfl)
theorem ok5032 : MfOk Go.Proofs.Try.prog p5032 := mf_at (cfL_ok (P := Go.Proofs.Try.prog) (l := []) (lm := []) (ll := []) trivial trivial trivial) chk5032 55 (by kernel_rfl)
theorem ok8033 : MfOk Go.Proofs.Try.prog p8033 := mf_at (cfL_ok (P := Go.Proofs.Try.prog) (l := [p75, p32]) (lm := []) (ll := []) ⟨ok75, ok32, trivial⟩ trivial trivial) chk8033 54 (by kernel_rfl)
theorem ok9033 : MfOk Go.Proofs.Try.prog p9033 := mf_at (cfL_ok (P := Go.Proofs.Try.prog) (l := []) (lm := []) (ll := []) trivial trivial trivial) chk9033 53 (by kernel_rfl)
theorem ok5033 : MfOk Go.Proofs.Try.prog p5033 := mf_at (cfL_ok (P := Go.Proofs.Try.prog) (l := []) (lm := []) (ll := []) trivial trivial trivial) chk5033 52 (by kernel_rfl)
theorem ok8034 : MfOk Go.Proofs.Try.prog p8034 := mf_at (cfL_ok (P := Go.Proofs.Try.prog) (l := [p75, p32]) (lm := []) (ll := []) ⟨ok75, ok32, trivial⟩ trivial trivial) chk8034 51 (by kernel_rfl)
theorem ok9034 : MfOk Go.Proofs.Try.prog p9034 := mf_at (cfL_ok (P := Go.Proofs.Try.prog) (l := []) (lm := []) (ll := []) trivial trivial trivial) chk9034 50 (by kernel_rfl)
theorem ok5034 : MfOk Go.Proofs.Try.prog p5034 := mf_at (cfL_ok (P := Go.Proofs.Try.prog) (l := []) (lm := []) (ll := []) trivial trivial trivial) chk5034 49 (by kernel_rfl)
theorem ok8035 : MfOk Go.Proofs.Try.prog p8035 := mf_at (cfL_ok (P := Go.Proofs.Try.prog) (l := [p75, p32]) (lm := []) (ll := []) ⟨ok75, ok32, trivial⟩ trivial trivial) chk8035 48 (by kernel_rfl)
theorem ok9035 : MfOk Go.Proofs.Try.prog p9035 := mf_at (cfL_ok (P := Go.Proofs.Try.prog) (l := []) (lm := []) (ll := []) trivial trivial trivial) chk9035 47 (by kernel_rfl)
theorem ok5035 : MfOk Go.Proofs.Try.prog p5035 := mf_at (cfL_ok (P := Go.Proofs.Try.prog) (l := []) (lm := []) (ll := []) trivial trivial trivial) chk5035 46 (by kernel_rfl)
theorem ok8036 : MfOk Go.Proofs.Try.prog p8036 := mf_at (cfL_ok (P := Go.Proofs.Try.prog) (l := [p75, p32]) (lm := []) (ll := []) ⟨ok75, ok32, trivial⟩ trivial trivial) chk8036 45 (by kernel_rfl)
theorem ok9036 : MfOk Go.Proofs.Try.prog p9036 := mf_at (cfL_ok (P := Go.Proofs.Try.prog) (l := []) (lm := []) (ll := []) trivial trivial trivial) chk9036 44 (by kernel_rfl)
theorem ok5036 : MfOk Go.Proofs.Try.prog p5036 := mf_at (cfL_ok (P := Go.Proofs.Try.prog) (l := []) (lm := []) (ll := []) trivial trivial trivial) chk5036 43 (by kernel_rfl)
theorem ok8037 : MfOk Go.Proofs.Try.prog p8037 := mf_at (cfL_ok (P := Go.Proofs.Try.prog) (l := [p75, p32]) (lm := []) (ll := []) ⟨ok75, ok32, trivial⟩ trivial trivial) chk8037 42 (by kernel_rfl)
theorem ok9037 : MfOk Go.Proofs.Try.prog p9037 := mf_at (cfL_ok (P := Go.Proofs.Try.prog) (l := []) (lm := []) (ll := []) trivial trivial trivial) chk9037 41 (by kernel_rfl)
theorem ok5037 : MfOk Go.Proofs.Try.prog p5037 := mf_at (cfL_ok (P := Go.Proofs.Try.prog) (l := []) (lm := []) (ll := []) trivial trivial trivial) chk5037 40 (by kernel_rfl)
theorem ok8038 : MfOk Go.Proofs.Try.prog p8038 := mf_at (cfL_ok (P := Go.Proofs.Try.prog) (l := [p75, p32]) (lm := []) (ll := []) ⟨ok75, ok32, trivial⟩ trivial trivial) chk8038 39 (by kernel_rfl)
theorem ok9038 : MfOk Go.Proofs.Try.prog p9038 := mf_at (cfL_ok (P := Go.Proofs.Try.prog) (l := []) (lm := []) (ll := []) trivial trivial trivial) chk9038 38 (by kernel_rfl)
theorem ok5038 : MfOk Go.Proofs.Try.prog p5038 := mf_at (cfL_ok (P := Go.Proofs.Try.prog) (l := []) (lm := []) (ll := []) trivial trivial trivial) chk5038 37 (by kernel_rfl)
theorem ok8039 : MfOk Go.Proofs.Try.prog p8039 := mf_at (cfL_ok (P := Go.Proofs.Try.prog) (l := [p75, p32]) (lm := []) (ll := []) ⟨ok75, ok32, trivial⟩ trivial trivial) chk8039 36 (by kernel_rfl)
theorem ok9039 : MfOk Go.Proofs.Try.prog p9039 := mf_at (cfL_ok (P := Go.Proofs.Try.prog) (l := []) (lm := []) (ll := []) trivial trivial trivial) chk9039 35 (by kernel_rfl)
theorem ok5039 : MfOk Go.Proofs.Try.prog p5039 := mf_at (cfL_ok (P := Go.Proofs.Try.prog) (l := []) (lm := []) (ll := []) trivial trivial trivial) chk5039 34 (by kernel_rfl)
theorem ok8040 : MfOk Go.Proofs.Try.prog p8040 := mf_at (cfL_ok (P := Go.Proofs.Try.prog) (l := [p75, p32]) (lm := []) (ll := []) ⟨ok75, ok32, trivial⟩ trivial trivial) chk8040 33 (by kernel_rfl)
theorem ok9040 : MfOk Go.Proofs.Try.prog p9040 := mf_at (cfL_ok (P := Go.Proofs.Try.prog) (l := []) (lm := []) (ll := []) trivial trivial trivial) chk9040 32 (by kernel_rfl)
theorem ok5040 : MfOk Go.Proofs.Try.prog p5040 := mf_at (cfL_ok (P := Go.Proofs.Try.prog) (l := []) (lm := []) (ll := []) trivial trivial trivial) chk5040 31 (by kernel_rfl)
theorem ok8043 : MfOk Go.Proofs.Try.prog p8043 := mf_at (cfL_ok (P := Go.Proofs.Try.prog) (l := [p75, p32]) (lm := []) (ll := []) ⟨ok75, ok32, trivial⟩ trivial trivial) chk8043 30 (by kernel_rfl)
theorem ok9043 : MfOk Go.Proofs.Try.prog p9043 := mf_at (cfL_ok (P := Go.Proofs.Try.prog) (l := []) (lm := []) (ll := []) trivial trivial trivial) chk9043 29 (by kernel_rfl)
theorem ok5043 : MfOk Go.Proofs.Try.prog p5043 := mf_at (cfL_ok (P := Go.Proofs.Try.prog) (l := []) (lm := []) (ll := []) trivial trivial trivial) chk5043 28 (by kernel_rfl)
theorem ok8044 : MfOk Go.Proofs.Try.prog p8044 := mf_at (cfL_ok (P := Go.Proofs.Try.prog) (l := [p75, p32]) (lm := []) (ll := []) ⟨ok75, ok32, trivial⟩ trivial trivial) chk8044 27 (by kernel_rfl)
theorem ok9044 : MfOk Go.Proofs.Try.prog p9044 := mf_at (cfL_ok (P := Go.Proofs.Try.prog) (l := []) (lm := []) (ll := []) trivial trivial trivial) chk9044 26 (by kernel_rfl)
theorem ok5044 : MfOk Go.Proofs.Try.prog p5044 := mf_at (cfL_ok (P := Go.Proofs.Try.prog) (l := []) (lm := []) (ll := []) trivial trivial trivial) chk5044 25 (by kernel_rfl)
theorem ok8051 : MfOk Go.Proofs.Try.prog p8051 := mf_at (cfL_ok (P := Go.Proofs.Try.prog) (l := [p75, p32]) (lm := []) (ll := []) ⟨ok75, ok32, trivial⟩ trivial trivial) chk8051 24 (by kernel_rfl)
theorem ok9051 : MfOk Go.Proofs.Try.prog p9051 := mf_at (cfL_ok (P := Go.Proofs.Try.prog) (l := []) (lm := []) (ll := []) trivial trivial trivial) chk9051 23 (by kernel_rfl)
theorem ok5051 : MfOk Go.Proofs.Try.prog p5051 := mf_at (cfL_ok (P := Go.Proofs.Try.prog) (l := []) (lm := []) (ll := []) trivial trivial trivial) chk5051 22 (by kernel_rfl)
theorem ok8052 : MfOk Go.Proofs.Try.prog p8052 := mf_at (cfL_ok (P := Go.Proofs.Try.prog) (l := [p75, p32]) (lm := []) (ll := []) ⟨ok75, ok32, trivial⟩ trivial trivial) chk8052 21 (by kernel_rfl)
theorem ok9052 : MfOk Go.Proofs.Try.prog p9052 := mf_at (cfL_ok (P := Go.Proofs.Try.prog) (l := []) (lm := []) (ll := []) trivial trivial trivial) chk9052 20 (by kernel_rfl)
theorem ok5052 : MfOk Go.Proofs.Try.prog p5052 := mf_at (cfL_ok (P := Go.Proofs.Try.prog) (l := []) (lm := []) (ll := []) trivial trivial trivial) chk5052 19 (by kernel_rfl)
theorem ok8026 : MfOk Go.Proofs.Try.prog p8026 := mf_at (cfL_ok (P := Go.Proofs.Try.prog) (l := [p75, p32]) (lm := []) (ll := []) ⟨ok75, ok32, trivial⟩ trivial trivial) chk8026 18 (by kernel_rfl)
theorem ok9026 : MfOk Go.Proofs.Try.prog p9026 := mf_at (cfL_ok (P := Go.Proofs.Try.prog) (l := []) (lm := []) (ll := []) trivial trivial trivial) chk9026 17 (by kernel_rfl)
theorem ok5026 : MfOk Go.Proofs.Try.prog p5026 := mf_at (cfL_ok (P := Go.Proofs.Try.prog) (l := []) (lm := []) (ll := []) trivial trivial trivial) chk5026 16 (by kernel_rfl)
theorem ok8021 : MfOk Go.Proofs.Try.prog p8021 := mf_at (cfL_ok (P := Go.Proofs.Try.prog) (l := [p75, p32]) (lm := []) (ll := []) ⟨ok75, ok32, trivial⟩ trivial trivial) chk8021 15 (by kernel_rfl)
theorem ok8121 : MfOk Go.Proofs.Try.prog p8121 := mf_at (cfL_ok (P := Go.Proofs.Try.prog) (l := [p75, p32]) (lm := []) (ll := []) ⟨ok75, ok32, trivial⟩ trivial trivial) chk8121 14 (by kernel_rfl)
theorem ok8221 : MfOk Go.Proofs.Try.prog p8221 := mf_at (cfL_ok (P := Go.Proofs.Try.prog) (l := [p75, p32]) (lm := []) (ll := []) ⟨ok75, ok32, trivial⟩ trivial trivial) chk8221 13 (by kernel_rfl)
theorem ok8022 : MfOk Go.Proofs.Try.prog p8022 := mf_at (cfL_ok (P := Go.Proofs.Try.prog) (l := [p75, p32]) (lm := []) (ll := []) ⟨ok75, ok32, trivial⟩ trivial trivial) chk8022 12 (by kernel_rfl)
theorem ok8122 : MfOk Go.Proofs.Try.prog p8122 := mf_at (cfL_ok (P := Go.Proofs.Try.prog) (l := [p75, p32]) (lm := []) (ll := []) ⟨ok75, ok32, trivial⟩ trivial trivial) chk8122 11 (by kernel_rfl)
theorem ok8222 : MfOk Go.Proofs.Try.prog p8222 := mf_at (cfL_ok (P := Go.Proofs.Try.prog) (l := [p75, p32]) (lm := []) (ll := []) ⟨ok75, ok32, trivial⟩ trivial trivial) chk8222 10 (by kernel_rfl)
theorem ok8023 : MfOk Go.Proofs.Try.prog p8023 := mf_at (cfL_ok (P := Go.Proofs.Try.prog) (l := [p75, p32]) (lm := []) (ll := []) ⟨ok75, ok32, trivial⟩ trivial trivial) chk8023 9 (by kernel_rfl)
theorem ok8123 : MfOk Go.Proofs.Try.prog p8123 := mf_at (cfL_ok (P := Go.Proofs.Try.prog) (l := [p75, p32]) (lm := []) (ll := []) ⟨ok75, ok32, trivial⟩ trivial trivial) chk8123 8 (by kernel_rfl)
theorem ok8223 : MfOk Go.Proofs.Try.prog p8223 := mf_at (cfL_ok (P := Go.Proofs.Try.prog) (l := [p75, p32]) (lm := []) (ll := []) ⟨ok75, ok32, trivial⟩ trivial trivial) chk8223 7 (by kernel_rfl)
theorem ok8024 : MfOk Go.Proofs.Try.prog p8024 := mf_at (cfL_ok (P := Go.Proofs.Try.prog) (l := [p75, p32]) (lm := []) (ll := []) ⟨ok75, ok32, trivial⟩ trivial trivial) chk8024 6 (by kernel_rfl)
theorem ok8124 : MfOk Go.Proofs.Try.prog p8124 := mf_at (cfL_ok (P := Go.Proofs.Try.prog) (l := [p75, p32]) (lm := []) (ll := []) ⟨ok75, ok32, trivial⟩ trivial trivial) chk8124 5 (by kernel_rfl)
theorem ok8224 : MfOk Go.Proofs.Try.prog p8224 := mf_at (cfL_ok (P := Go.Proofs.Try.prog) (l := [p75, p32]) (lm := []) (ll := []) ⟨ok75, ok32, trivial⟩ trivial trivial) chk8224 4 (by kernel_rfl)
theorem ok8025 : MfOk Go.Proofs.Try.prog p8025 := mf_at (cfL_ok (P := Go.Proofs.Try.prog) (l := [p75, p32]) (lm := []) (ll := []) ⟨ok75, ok32, trivial⟩ trivial trivial) chk8025 3 (by kernel_rfl)
theorem ok8125 : MfOk Go.Proofs.Try.prog p8125 := mf_at (cfL_ok (P := Go.Proofs.Try.prog) (l := [p75, p32]) (lm := []) (ll := []) ⟨ok75, ok32, trivial⟩ trivial trivial) chk8125 2 (by kernel_rfl)
theorem ok8225 : MfOk Go.Proofs.Try.prog p8225 := mf_at (cfL_ok (P := Go.Proofs.Try.prog) (l := [p75, p32]) (lm := []) (ll := []) ⟨ok75, ok32, trivial⟩ trivial trivial) chk8225 1 (by kernel_rfl)
theorem plain6000 (E : Env) (_ : E.F = Fs.F) (_ : ∀ d ∈ d6000, d.ok E) : t6000.den E = 1 := rfl
theorem law6000 {E : Env} (hE : E.F = Fs.F) {ρ : Nat → Rb} {N : Nat} {args : Array Value} (hp : pcOk E q6000.pre) (ha : F2 (Ar E ρ N) q6000.args args) (w : World) : Calls Go.Proofs.Try.prog 6 args w fun e w' => e = .returned (.bool true) ∧ RowKit.Below w.heap.size w w' :=
  (law_okF (c := q6000) (cfL_ok (P := Go.Proofs.Try.prog) (l := [p12, p75, p32]) (lm := []) (ll := []) ⟨ok12, ok75, ok32, trivial⟩ trivial trivial) chk6000 rfl rfl rfl F6 plain6000).2 hE hp ha w
theorem plain6001 (E : Env) (_ : E.F = Fs.F) (_ : ∀ d ∈ d6001, d.ok E) : t6001.den E = 1 := rfl
theorem law6001 {E : Env} (hE : E.F = Fs.F) {ρ : Nat → Rb} {N : Nat} {args : Array Value} (hp : pcOk E q6001.pre) (ha : F2 (Ar E ρ N) q6001.args args) (w : World) : Calls Go.Proofs.Try.prog 6 args w fun e w' => e = .returned (.bool true) ∧ RowKit.Below w.heap.size w w' :=
  (law_okF (c := q6001) (cfL_ok (P := Go.Proofs.Try.prog) (l := [p12, p21]) (lm := [p5001, p7001, p9001, p8001]) (ll := []) ⟨ok12, ok21, trivial⟩ ⟨ok5001, ok7001, ok9001, ok8001, trivial⟩ trivial) chk6001 rfl rfl rfl F6 plain6001).2 hE hp ha w
theorem plain6002 (E : Env) (_ : E.F = Fs.F) (_ : ∀ d ∈ d6002, d.ok E) : t6002.den E = 1 := rfl
theorem law6002 {E : Env} (hE : E.F = Fs.F) {ρ : Nat → Rb} {N : Nat} {args : Array Value} (hp : pcOk E q6002.pre) (ha : F2 (Ar E ρ N) q6002.args args) (w : World) : Calls Go.Proofs.Try.prog 6 args w fun e w' => e = .returned (.bool true) ∧ RowKit.Below w.heap.size w w' :=
  (law_okF (c := q6002) (cfL_ok (P := Go.Proofs.Try.prog) (l := [p12, p21]) (lm := [p5002, p7002, p9002, p8002]) (ll := []) ⟨ok12, ok21, trivial⟩ ⟨ok5002, ok7002, ok9002, ok8002, trivial⟩ trivial) chk6002 rfl rfl rfl F6 plain6002).2 hE hp ha w
theorem plain6003 (E : Env) (hE : E.F = Fs.F) (hd : ∀ d ∈ d6003, d.ok E) : t6003.den E = 1 :=
  sure_plain2 (c := ⟨7003, 35, d7003, l7003⟩) (ok_at (k := 178) (by kernel_rfl)) (F_at (k := 178) (by kernel_rfl)) (ds := d6003) (a := loAt d6003 1) (b := loAt d6003 0) (cnt := 22) (xs := argsAt d6003 1) (ys := argsAt d6003 0)
    (List.mem_of_getElem? (i := 0) (by kernel_rfl)) (List.mem_of_getElem? (i := 1) (by kernel_rfl)) [25, 26, 27, 28, 29, 30] (compsOf [25, 26, 27, 28, 29, 30] d7003 l7003) (by kernel_rfl) E hE hd
theorem law6003 {E : Env} (hE : E.F = Fs.F) {ρ : Nat → Rb} {N : Nat} {args : Array Value} (hp : pcOk E q6003.pre) (ha : F2 (Ar E ρ N) q6003.args args) (w : World) : Calls Go.Proofs.Try.prog 6 args w fun e w' => e = .returned (.bool true) ∧ RowKit.Below w.heap.size w w' :=
  (law_okF (c := q6003) (cfL_ok (P := Go.Proofs.Try.prog) (l := [p12, p21]) (lm := [p5003, p7003, p9003, p8003]) (ll := []) ⟨ok12, ok21, trivial⟩ ⟨ok5003, ok7003, ok9003, ok8003, trivial⟩ trivial) chk6003 rfl rfl rfl F6 plain6003).2 hE hp ha w
theorem plain6004 (E : Env) (hE : E.F = Fs.F) (hd : ∀ d ∈ d6004, d.ok E) : t6004.den E = 1 :=
  sure_plain2 (c := ⟨7004, 35, d7004, l7004⟩) (ok_at (k := 177) (by kernel_rfl)) (F_at (k := 177) (by kernel_rfl)) (ds := d6004) (a := loAt d6004 1) (b := loAt d6004 0) (cnt := 22) (xs := argsAt d6004 1) (ys := argsAt d6004 0)
    (List.mem_of_getElem? (i := 0) (by kernel_rfl)) (List.mem_of_getElem? (i := 1) (by kernel_rfl)) [25, 26, 27, 28, 29, 30] (compsOf [25, 26, 27, 28, 29, 30] d7004 l7004) (by kernel_rfl) E hE hd
theorem law6004 {E : Env} (hE : E.F = Fs.F) {ρ : Nat → Rb} {N : Nat} {args : Array Value} (hp : pcOk E q6004.pre) (ha : F2 (Ar E ρ N) q6004.args args) (w : World) : Calls Go.Proofs.Try.prog 6 args w fun e w' => e = .returned (.bool true) ∧ RowKit.Below w.heap.size w w' :=
  (law_okF (c := q6004) (cfL_ok (P := Go.Proofs.Try.prog) (l := [p12, p21]) (lm := [p5004, p7004, p9004, p8004]) (ll := []) ⟨ok12, ok21, trivial⟩ ⟨ok5004, ok7004, ok9004, ok8004, trivial⟩ trivial) chk6004 rfl rfl rfl F6 plain6004).2 hE hp ha w
theorem plain6005 (E : Env) (_ : E.F = Fs.F) (_ : ∀ d ∈ d6005, d.ok E) : t6005.den E = 1 := rfl
theorem law6005 {E : Env} (hE : E.F = Fs.F) {ρ : Nat → Rb} {N : Nat} {args : Array Value} (hp : pcOk E q6005.pre) (ha : F2 (Ar E ρ N) q6005.args args) (w : World) : Calls Go.Proofs.Try.prog 6 args w fun e w' => e = .returned (.bool true) ∧ RowKit.Below w.heap.size w w' :=
  (law_okF (c := q6005) (cfL_ok (P := Go.Proofs.Try.prog) (l := [p12, p21]) (lm := [p5005, p7005, p9005, p8005]) (ll := []) ⟨ok12, ok21, trivial⟩ ⟨ok5005, ok7005, ok9005, ok8005, trivial⟩ trivial) chk6005 rfl rfl rfl F6 plain6005).2 hE hp ha w
theorem plain6006 (E : Env) (_ : E.F = Fs.F) (_ : ∀ d ∈ d6006, d.ok E) : t6006.den E = 1 := rfl
theorem law6006 {E : Env} (hE : E.F = Fs.F) {ρ : Nat → Rb} {N : Nat} {args : Array Value} (hp : pcOk E q6006.pre) (ha : F2 (Ar E ρ N) q6006.args args) (w : World) : Calls Go.Proofs.Try.prog 6 args w fun e w' => e = .returned (.bool true) ∧ RowKit.Below w.heap.size w w' :=
  (law_okF (c := q6006) (cfL_ok (P := Go.Proofs.Try.prog) (l := [p12, p21]) (lm := [p5006, p7006, p9006, p8006]) (ll := []) ⟨ok12, ok21, trivial⟩ ⟨ok5006, ok7006, ok9006, ok8006, trivial⟩ trivial) chk6006 rfl rfl rfl F6 plain6006).2 hE hp ha w
theorem plain6007 (E : Env) (hE : E.F = Fs.F) (hd : ∀ d ∈ d6007, d.ok E) : t6007.den E = 1 :=
  sure_plain2 (c := ⟨7007, 35, d7007, l7007⟩) (ok_at (k := 174) (by kernel_rfl)) (F_at (k := 174) (by kernel_rfl)) (ds := d6007) (a := loAt d6007 1) (b := loAt d6007 0) (cnt := 22) (xs := argsAt d6007 1) (ys := argsAt d6007 0)
    (List.mem_of_getElem? (i := 0) (by kernel_rfl)) (List.mem_of_getElem? (i := 1) (by kernel_rfl)) [25, 26, 27, 28, 29, 30] (compsOf [25, 26, 27, 28, 29, 30] d7007 l7007) (by kernel_rfl) E hE hd
theorem law6007 {E : Env} (hE : E.F = Fs.F) {ρ : Nat → Rb} {N : Nat} {args : Array Value} (hp : pcOk E q6007.pre) (ha : F2 (Ar E ρ N) q6007.args args) (w : World) : Calls Go.Proofs.Try.prog 6 args w fun e w' => e = .returned (.bool true) ∧ RowKit.Below w.heap.size w w' :=
  (law_okF (c := q6007) (cfL_ok (P := Go.Proofs.Try.prog) (l := [p12, p21]) (lm := [p5007, p7007, p9007, p8007]) (ll := []) ⟨ok12, ok21, trivial⟩ ⟨ok5007, ok7007, ok9007, ok8007, trivial⟩ trivial) chk6007 rfl rfl rfl F6 plain6007).2 hE hp ha w
theorem plain6008 (E : Env) (hE : E.F = Fs.F) (hd : ∀ d ∈ d6008, d.ok E) : t6008.den E = 1 :=
  sure_plain2 (c := ⟨7008, 35, d7008, l7008⟩) (ok_at (k := 173) (by kernel_rfl)) (F_at (k := 173) (by kernel_rfl)) (ds := d6008) (a := loAt d6008 1) (b := loAt d6008 0) (cnt := 22) (xs := argsAt d6008 1) (ys := argsAt d6008 0)
    (List.mem_of_getElem? (i := 0) (by kernel_rfl)) (List.mem_of_getElem? (i := 1) (by kernel_rfl)) [25, 26, 27, 28, 29, 30] (compsOf [25, 26, 27, 28, 29, 30] d7008 l7008) (by kernel_rfl) E hE hd
theorem law6008 {E : Env} (hE : E.F = Fs.F) {ρ : Nat → Rb} {N : Nat} {args : Array Value} (hp : pcOk E q6008.pre) (ha : F2 (Ar E ρ N) q6008.args args) (w : World) : Calls Go.Proofs.Try.prog 6 args w fun e w' => e = .returned (.bool true) ∧ RowKit.Below w.heap.size w w' :=
  (law_okF (c := q6008) (cfL_ok (P := Go.Proofs.Try.prog) (l := [p12, p21]) (lm := [p5008, p7008, p9008, p8008]) (ll := []) ⟨ok12, ok21, trivial⟩ ⟨ok5008, ok7008, ok9008, ok8008, trivial⟩ trivial) chk6008 rfl rfl rfl F6 plain6008).2 hE hp ha w
theorem plain6009 (E : Env) (hE : E.F = Fs.F) (hd : ∀ d ∈ d6009, d.ok E) : t6009.den E = 1 :=
  sure_plain2 (c := ⟨7009, 35, d7009, l7009⟩) (ok_at (k := 172) (by kernel_rfl)) (F_at (k := 172) (by kernel_rfl)) (ds := d6009) (a := loAt d6009 1) (b := loAt d6009 0) (cnt := 22) (xs := argsAt d6009 1) (ys := argsAt d6009 0)
    (List.mem_of_getElem? (i := 0) (by kernel_rfl)) (List.mem_of_getElem? (i := 1) (by kernel_rfl)) [25, 26, 27, 28, 29, 30] (compsOf [25, 26, 27, 28, 29, 30] d7009 l7009) (by kernel_rfl) E hE hd
theorem law6009 {E : Env} (hE : E.F = Fs.F) {ρ : Nat → Rb} {N : Nat} {args : Array Value} (hp : pcOk E q6009.pre) (ha : F2 (Ar E ρ N) q6009.args args) (w : World) : Calls Go.Proofs.Try.prog 6 args w fun e w' => e = .returned (.bool true) ∧ RowKit.Below w.heap.size w w' :=
  (law_okF (c := q6009) (cfL_ok (P := Go.Proofs.Try.prog) (l := [p12, p21]) (lm := [p5009, p7009, p9009, p8009]) (ll := []) ⟨ok12, ok21, trivial⟩ ⟨ok5009, ok7009, ok9009, ok8009, trivial⟩ trivial) chk6009 rfl rfl rfl F6 plain6009).2 hE hp ha w
theorem plain6010 (E : Env) (hE : E.F = Fs.F) (hd : ∀ d ∈ d6010, d.ok E) : t6010.den E = 1 :=
  sure_plain2 (c := ⟨7010, 35, d7010, l7010⟩) (ok_at (k := 171) (by kernel_rfl)) (F_at (k := 171) (by kernel_rfl)) (ds := d6010) (a := loAt d6010 1) (b := loAt d6010 0) (cnt := 22) (xs := argsAt d6010 1) (ys := argsAt d6010 0)
    (List.mem_of_getElem? (i := 0) (by kernel_rfl)) (List.mem_of_getElem? (i := 1) (by kernel_rfl)) [25, 26, 27, 28, 29, 30] (compsOf [25, 26, 27, 28, 29, 30] d7010 l7010) (by kernel_rfl) E hE hd
theorem law6010 {E : Env} (hE : E.F = Fs.F) {ρ : Nat → Rb} {N : Nat} {args : Array Value} (hp : pcOk E q6010.pre) (ha : F2 (Ar E ρ N) q6010.args args) (w : World) : Calls Go.Proofs.Try.prog 6 args w fun e w' => e = .returned (.bool true) ∧ RowKit.Below w.heap.size w w' :=
  (law_okF (c := q6010) (cfL_ok (P := Go.Proofs.Try.prog) (l := [p12, p21]) (lm := [p5010, p7010, p9010, p8010]) (ll := []) ⟨ok12, ok21, trivial⟩ ⟨ok5010, ok7010, ok9010, ok8010, trivial⟩ trivial) chk6010 rfl rfl rfl F6 plain6010).2 hE hp ha w
theorem plain6011 (E : Env) (hE : E.F = Fs.F) (hd : ∀ d ∈ d6011, d.ok E) : t6011.den E = 1 :=
  sure_plain2 (c := ⟨7011, 35, d7011, l7011⟩) (ok_at (k := 170) (by kernel_rfl)) (F_at (k := 170) (by kernel_rfl)) (ds := d6011) (a := loAt d6011 1) (b := loAt d6011 0) (cnt := 22) (xs := argsAt d6011 1) (ys := argsAt d6011 0)
    (List.mem_of_getElem? (i := 0) (by kernel_rfl)) (List.mem_of_getElem? (i := 1) (by kernel_rfl)) [25, 26, 27, 28, 29, 30] (compsOf [25, 26, 27, 28, 29, 30] d7011 l7011) (by kernel_rfl) E hE hd
theorem law6011 {E : Env} (hE : E.F = Fs.F) {ρ : Nat → Rb} {N : Nat} {args : Array Value} (hp : pcOk E q6011.pre) (ha : F2 (Ar E ρ N) q6011.args args) (w : World) : Calls Go.Proofs.Try.prog 6 args w fun e w' => e = .returned (.bool true) ∧ RowKit.Below w.heap.size w w' :=
  (law_okF (c := q6011) (cfL_ok (P := Go.Proofs.Try.prog) (l := [p12, p21]) (lm := [p5011, p7011, p9011, p8011]) (ll := []) ⟨ok12, ok21, trivial⟩ ⟨ok5011, ok7011, ok9011, ok8011, trivial⟩ trivial) chk6011 rfl rfl rfl F6 plain6011).2 hE hp ha w
theorem plain6012 (E : Env) (hE : E.F = Fs.F) (hd : ∀ d ∈ d6012, d.ok E) : t6012.den E = 1 :=
  sure_plain2 (c := ⟨7012, 35, d7012, l7012⟩) (ok_at (k := 169) (by kernel_rfl)) (F_at (k := 169) (by kernel_rfl)) (ds := d6012) (a := loAt d6012 1) (b := loAt d6012 0) (cnt := 22) (xs := argsAt d6012 1) (ys := argsAt d6012 0)
    (List.mem_of_getElem? (i := 0) (by kernel_rfl)) (List.mem_of_getElem? (i := 1) (by kernel_rfl)) [25, 26, 27, 28, 29, 30] (compsOf [25, 26, 27, 28, 29, 30] d7012 l7012) (by kernel_rfl) E hE hd
theorem law6012 {E : Env} (hE : E.F = Fs.F) {ρ : Nat → Rb} {N : Nat} {args : Array Value} (hp : pcOk E q6012.pre) (ha : F2 (Ar E ρ N) q6012.args args) (w : World) : Calls Go.Proofs.Try.prog 6 args w fun e w' => e = .returned (.bool true) ∧ RowKit.Below w.heap.size w w' :=
  (law_okF (c := q6012) (cfL_ok (P := Go.Proofs.Try.prog) (l := [p12, p21]) (lm := [p5012, p7012, p9012, p8012]) (ll := []) ⟨ok12, ok21, trivial⟩ ⟨ok5012, ok7012, ok9012, ok8012, trivial⟩ trivial) chk6012 rfl rfl rfl F6 plain6012).2 hE hp ha w
theorem plain6013 (E : Env) (hE : E.F = Fs.F) (hd : ∀ d ∈ d6013, d.ok E) : t6013.den E = 1 :=
  sure_plain2 (c := ⟨7013, 35, d7013, l7013⟩) (ok_at (k := 168) (by kernel_rfl)) (F_at (k := 168) (by kernel_rfl)) (ds := d6013) (a := loAt d6013 1) (b := loAt d6013 0) (cnt := 22) (xs := argsAt d6013 1) (ys := argsAt d6013 0)
    (List.mem_of_getElem? (i := 0) (by kernel_rfl)) (List.mem_of_getElem? (i := 1) (by kernel_rfl)) [25, 26, 27, 28, 29, 30] (compsOf [25, 26, 27, 28, 29, 30] d7013 l7013) (by kernel_rfl) E hE hd
theorem law6013 {E : Env} (hE : E.F = Fs.F) {ρ : Nat → Rb} {N : Nat} {args : Array Value} (hp : pcOk E q6013.pre) (ha : F2 (Ar E ρ N) q6013.args args) (w : World) : Calls Go.Proofs.Try.prog 6 args w fun e w' => e = .returned (.bool true) ∧ RowKit.Below w.heap.size w w' :=
  (law_okF (c := q6013) (cfL_ok (P := Go.Proofs.Try.prog) (l := [p12, p21]) (lm := [p5013, p7013, p9013, p8013]) (ll := []) ⟨ok12, ok21, trivial⟩ ⟨ok5013, ok7013, ok9013, ok8013, trivial⟩ trivial) chk6013 rfl rfl rfl F6 plain6013).2 hE hp ha w
theorem plain6014 (E : Env) (_ : E.F = Fs.F) (_ : ∀ d ∈ d6014, d.ok E) : t6014.den E = 1 := rfl
theorem law6014 {E : Env} (hE : E.F = Fs.F) {ρ : Nat → Rb} {N : Nat} {args : Array Value} (hp : pcOk E q6014.pre) (ha : F2 (Ar E ρ N) q6014.args args) (w : World) : Calls Go.Proofs.Try.prog 6 args w fun e w' => e = .returned (.bool true) ∧ RowKit.Below w.heap.size w w' :=
  (law_okF (c := q6014) (cfL_ok (P := Go.Proofs.Try.prog) (l := [p12, p21]) (lm := [p5014, p7014, p9014, p8014]) (ll := []) ⟨ok12, ok21, trivial⟩ ⟨ok5014, ok7014, ok9014, ok8014, trivial⟩ trivial) chk6014 rfl rfl rfl F6 plain6014).2 hE hp ha w
theorem plain6015 (E : Env) (hE : E.F = Fs.F) (hd : ∀ d ∈ d6015, d.ok E) : t6015.den E = 1 :=
  sure_plain2 (c := ⟨7015, 35, d7015, l7015⟩) (ok_at (k := 166) (by kernel_rfl)) (F_at (k := 166) (by kernel_rfl)) (ds := d6015) (a := loAt d6015 1) (b := loAt d6015 0) (cnt := 22) (xs := argsAt d6015 1) (ys := argsAt d6015 0)
    (List.mem_of_getElem? (i := 0) (by kernel_rfl)) (List.mem_of_getElem? (i := 1) (by kernel_rfl)) [25, 26, 27, 28, 29, 30] (compsOf [25, 26, 27, 28, 29, 30] d7015 l7015) (by kernel_rfl) E hE hd
theorem law6015 {E : Env} (hE : E.F = Fs.F) {ρ : Nat → Rb} {N : Nat} {args : Array Value} (hp : pcOk E q6015.pre) (ha : F2 (Ar E ρ N) q6015.args args) (w : World) : Calls Go.Proofs.Try.prog 6 args w fun e w' => e = .returned (.bool true) ∧ RowKit.Below w.heap.size w w' :=
  (law_okF (c := q6015) (cfL_ok (P := Go.Proofs.Try.prog) (l := [p12, p21]) (lm := [p5015, p7015, p9015, p8015]) (ll := []) ⟨ok12, ok21, trivial⟩ ⟨ok5015, ok7015, ok9015, ok8015, trivial⟩ trivial) chk6015 rfl rfl rfl F6 plain6015).2 hE hp ha w
theorem plain6016 (E : Env) (_ : E.F = Fs.F) (_ : ∀ d ∈ d6016, d.ok E) : t6016.den E = 1 := rfl
theorem law6016 {E : Env} (hE : E.F = Fs.F) {ρ : Nat → Rb} {N : Nat} {args : Array Value} (hp : pcOk E q6016.pre) (ha : F2 (Ar E ρ N) q6016.args args) (w : World) : Calls Go.Proofs.Try.prog 6 args w fun e w' => e = .returned (.bool true) ∧ RowKit.Below w.heap.size w w' :=
  (law_okF (c := q6016) (cfL_ok (P := Go.Proofs.Try.prog) (l := [p12, p21]) (lm := [p5016, p7016, p9016, p8016]) (ll := []) ⟨ok12, ok21, trivial⟩ ⟨ok5016, ok7016, ok9016, ok8016, trivial⟩ trivial) chk6016 rfl rfl rfl F6 plain6016).2 hE hp ha w
theorem plain6017 (E : Env) (_ : E.F = Fs.F) (_ : ∀ d ∈ d6017, d.ok E) : t6017.den E = 1 := rfl
theorem law6017 {E : Env} (hE : E.F = Fs.F) {ρ : Nat → Rb} {N : Nat} {args : Array Value} (hp : pcOk E q6017.pre) (ha : F2 (Ar E ρ N) q6017.args args) (w : World) : Calls Go.Proofs.Try.prog 6 args w fun e w' => e = .returned (.bool true) ∧ RowKit.Below w.heap.size w w' :=
  (law_okF (c := q6017) (cfL_ok (P := Go.Proofs.Try.prog) (l := [p12, p21]) (lm := [p5017, p7017, p9017, p8017]) (ll := []) ⟨ok12, ok21, trivial⟩ ⟨ok5017, ok7017, ok9017, ok8017, trivial⟩ trivial) chk6017 rfl rfl rfl F6 plain6017).2 hE hp ha w
theorem plain6018 (E : Env) (_ : E.F = Fs.F) (_ : ∀ d ∈ d6018, d.ok E) : t6018.den E = 1 := rfl
theorem law6018 {E : Env} (hE : E.F = Fs.F) {ρ : Nat → Rb} {N : Nat} {args : Array Value} (hp : pcOk E q6018.pre) (ha : F2 (Ar E ρ N) q6018.args args) (w : World) : Calls Go.Proofs.Try.prog 6 args w fun e w' => e = .returned (.bool true) ∧ RowKit.Below w.heap.size w w' :=
  (law_okF (c := q6018) (cfL_ok (P := Go.Proofs.Try.prog) (l := [p12, p21]) (lm := [p5018, p7018, p9018, p8018]) (ll := []) ⟨ok12, ok21, trivial⟩ ⟨ok5018, ok7018, ok9018, ok8018, trivial⟩ trivial) chk6018 rfl rfl rfl F6 plain6018).2 hE hp ha w
theorem plain6019 (E : Env) (_ : E.F = Fs.F) (_ : ∀ d ∈ d6019, d.ok E) : t6019.den E = 1 := rfl
theorem law6019 {E : Env} (hE : E.F = Fs.F) {ρ : Nat → Rb} {N : Nat} {args : Array Value} (hp : pcOk E q6019.pre) (ha : F2 (Ar E ρ N) q6019.args args) (w : World) : Calls Go.Proofs.Try.prog 6 args w fun e w' => e = .returned (.bool true) ∧ RowKit.Below w.heap.size w w' :=
  (law_okF (c := q6019) (cfL_ok (P := Go.Proofs.Try.prog) (l := [p12, p21]) (lm := [p5019, p7019, p9019, p8019]) (ll := []) ⟨ok12, ok21, trivial⟩ ⟨ok5019, ok7019, ok9019, ok8019, trivial⟩ trivial) chk6019 rfl rfl rfl F6 plain6019).2 hE hp ha w
theorem plain6020 (E : Env) (_ : E.F = Fs.F) (_ : ∀ d ∈ d6020, d.ok E) : t6020.den E = 1 := rfl
theorem law6020 {E : Env} (hE : E.F = Fs.F) {ρ : Nat → Rb} {N : Nat} {args : Array Value} (hp : pcOk E q6020.pre) (ha : F2 (Ar E ρ N) q6020.args args) (w : World) : Calls Go.Proofs.Try.prog 6 args w fun e w' => e = .returned (.bool true) ∧ RowKit.Below w.heap.size w w' :=
  (law_okF (c := q6020) (cfL_ok (P := Go.Proofs.Try.prog) (l := [p12, p21]) (lm := [p5020, p7020, p9020, p8020]) (ll := []) ⟨ok12, ok21, trivial⟩ ⟨ok5020, ok7020, ok9020, ok8020, trivial⟩ trivial) chk6020 rfl rfl rfl F6 plain6020).2 hE hp ha w
theorem plain6026 (E : Env) (_ : E.F = Fs.F) (_ : ∀ d ∈ d6026, d.ok E) : t6026.den E = 1 := rfl
theorem law6026 {E : Env} (hE : E.F = Fs.F) {ρ : Nat → Rb} {N : Nat} {args : Array Value} (hp : pcOk E q6026.pre) (ha : F2 (Ar E ρ N) q6026.args args) (w : World) : Calls Go.Proofs.Try.prog 6 args w fun e w' => e = .returned (.bool true) ∧ RowKit.Below w.heap.size w w' :=
  (law_okF (c := q6026) (cfL_ok (P := Go.Proofs.Try.prog) (l := [p12]) (lm := [p5026, p7026, p8026, p9026]) (ll := []) ⟨ok12, trivial⟩ ⟨ok5026, ok7026, ok8026, ok9026, trivial⟩ trivial) chk6026 rfl rfl rfl F6 plain6026).2 hE hp ha w
theorem plain6027 (E : Env) (_ : E.F = Fs.F) (_ : ∀ d ∈ d6027, d.ok E) : t6027.den E = 1 := rfl
theorem law6027 {E : Env} (hE : E.F = Fs.F) {ρ : Nat → Rb} {N : Nat} {args : Array Value} (hp : pcOk E q6027.pre) (ha : F2 (Ar E ρ N) q6027.args args) (w : World) : Calls Go.Proofs.Try.prog 6 args w fun e w' => e = .returned (.bool true) ∧ RowKit.Below w.heap.size w w' :=
  (law_okF (c := q6027) (cfL_ok (P := Go.Proofs.Try.prog) (l := [p12, p21]) (lm := [p5027, p7027, p9027, p8027]) (ll := []) ⟨ok12, ok21, trivial⟩ ⟨ok5027, ok7027, ok9027, ok8027, trivial⟩ trivial) chk6027 rfl rfl rfl F6 plain6027).2 hE hp ha w
theorem plain6028 (E : Env) (_ : E.F = Fs.F) (_ : ∀ d ∈ d6028, d.ok E) : t6028.den E = 1 := rfl
theorem law6028 {E : Env} (hE : E.F = Fs.F) {ρ : Nat → Rb} {N : Nat} {args : Array Value} (hp : pcOk E q6028.pre) (ha : F2 (Ar E ρ N) q6028.args args) (w : World) : Calls Go.Proofs.Try.prog 6 args w fun e w' => e = .returned (.bool true) ∧ RowKit.Below w.heap.size w w' :=
  (law_okF (c := q6028) (cfL_ok (P := Go.Proofs.Try.prog) (l := [p12, p21]) (lm := []) (ll := []) ⟨ok12, ok21, trivial⟩ trivial trivial) chk6028 rfl rfl rfl F6 plain6028).2 hE hp ha w
theorem plain6029 (E : Env) (_ : E.F = Fs.F) (_ : ∀ d ∈ d6029, d.ok E) : t6029.den E = 1 := rfl
theorem law6029 {E : Env} (hE : E.F = Fs.F) {ρ : Nat → Rb} {N : Nat} {args : Array Value} (hp : pcOk E q6029.pre) (ha : F2 (Ar E ρ N) q6029.args args) (w : World) : Calls Go.Proofs.Try.prog 6 args w fun e w' => e = .returned (.bool true) ∧ RowKit.Below w.heap.size w w' :=
  (law_okF (c := q6029) (cfL_ok (P := Go.Proofs.Try.prog) (l := [p12, p21]) (lm := []) (ll := []) ⟨ok12, ok21, trivial⟩ trivial trivial) chk6029 rfl rfl rfl F6 plain6029).2 hE hp ha w
theorem plain6030 (E : Env) (_ : E.F = Fs.F) (_ : ∀ d ∈ d6030, d.ok E) : t6030.den E = 1 := rfl
theorem law6030 {E : Env} (hE : E.F = Fs.F) {ρ : Nat → Rb} {N : Nat} {args : Array Value} (hp : pcOk E q6030.pre) (ha : F2 (Ar E ρ N) q6030.args args) (w : World) : Calls Go.Proofs.Try.prog 6 args w fun e w' => e = .returned (.bool true) ∧ RowKit.Below w.heap.size w w' :=
  (law_okF (c := q6030) (cfL_ok (P := Go.Proofs.Try.prog) (l := [p12, p21]) (lm := []) (ll := []) ⟨ok12, ok21, trivial⟩ trivial trivial) chk6030 rfl rfl rfl F6 plain6030).2 hE hp ha w
theorem plain6031 (E : Env) (_ : E.F = Fs.F) (_ : ∀ d ∈ d6031, d.ok E) : t6031.den E = 1 := rfl
theorem law6031 {E : Env} (hE : E.F = Fs.F) {ρ : Nat → Rb} {N : Nat} {args : Array Value} (hp : pcOk E q6031.pre) (ha : F2 (Ar E ρ N) q6031.args args) (w : World) : Calls Go.Proofs.Try.prog 6 args w fun e w' => e = .returned (.bool true) ∧ RowKit.Below w.heap.size w w' :=
  (law_okF (c := q6031) (cfL_ok (P := Go.Proofs.Try.prog) (l := [p12, p21]) (lm := []) (ll := []) ⟨ok12, ok21, trivial⟩ trivial trivial) chk6031 rfl rfl rfl F6 plain6031).2 hE hp ha w
theorem plain6032 (E : Env) (_ : E.F = Fs.F) (_ : ∀ d ∈ d6032, d.ok E) : t6032.den E = 1 := rfl
theorem law6032 {E : Env} (hE : E.F = Fs.F) {ρ : Nat → Rb} {N : Nat} {args : Array Value} (hp : pcOk E q6032.pre) (ha : F2 (Ar E ρ N) q6032.args args) (w : World) : Calls Go.Proofs.Try.prog 6 args w fun e w' => e = .returned (.bool true) ∧ RowKit.Below w.heap.size w w' :=
  (law_okF (c := q6032) (cfL_ok (P := Go.Proofs.Try.prog) (l := [p12, p21]) (lm := [p5032, p7032, p9032, p8032]) (ll := []) ⟨ok12, ok21, trivial⟩ ⟨ok5032, ok7032, ok9032, ok8032, trivial⟩ trivial) chk6032 rfl rfl rfl F6 plain6032).2 hE hp ha w
theorem plain6033 (E : Env) (_ : E.F = Fs.F) (_ : ∀ d ∈ d6033, d.ok E) : t6033.den E = 1 := rfl
theorem law6033 {E : Env} (hE : E.F = Fs.F) {ρ : Nat → Rb} {N : Nat} {args : Array Value} (hp : pcOk E q6033.pre) (ha : F2 (Ar E ρ N) q6033.args args) (w : World) : Calls Go.Proofs.Try.prog 6 args w fun e w' => e = .returned (.bool true) ∧ RowKit.Below w.heap.size w w' :=
  (law_okF (c := q6033) (cfL_ok (P := Go.Proofs.Try.prog) (l := [p12, p21]) (lm := [p5033, p7033, p9033, p8033]) (ll := []) ⟨ok12, ok21, trivial⟩ ⟨ok5033, ok7033, ok9033, ok8033, trivial⟩ trivial) chk6033 rfl rfl rfl F6 plain6033).2 hE hp ha w
theorem plain6034 (E : Env) (_ : E.F = Fs.F) (_ : ∀ d ∈ d6034, d.ok E) : t6034.den E = 1 := rfl
theorem law6034 {E : Env} (hE : E.F = Fs.F) {ρ : Nat → Rb} {N : Nat} {args : Array Value} (hp : pcOk E q6034.pre) (ha : F2 (Ar E ρ N) q6034.args args) (w : World) : Calls Go.Proofs.Try.prog 6 args w fun e w' => e = .returned (.bool true) ∧ RowKit.Below w.heap.size w w' :=
  (law_okF (c := q6034) (cfL_ok (P := Go.Proofs.Try.prog) (l := [p12, p21]) (lm := [p5034, p7034, p9034, p8034]) (ll := []) ⟨ok12, ok21, trivial⟩ ⟨ok5034, ok7034, ok9034, ok8034, trivial⟩ trivial) chk6034 rfl rfl rfl F6 plain6034).2 hE hp ha w
theorem plain6035 (E : Env) (_ : E.F = Fs.F) (_ : ∀ d ∈ d6035, d.ok E) : t6035.den E = 1 := rfl
theorem law6035 {E : Env} (hE : E.F = Fs.F) {ρ : Nat → Rb} {N : Nat} {args : Array Value} (hp : pcOk E q6035.pre) (ha : F2 (Ar E ρ N) q6035.args args) (w : World) : Calls Go.Proofs.Try.prog 6 args w fun e w' => e = .returned (.bool true) ∧ RowKit.Below w.heap.size w w' :=
  (law_okF (c := q6035) (cfL_ok (P := Go.Proofs.Try.prog) (l := [p12, p21]) (lm := [p5035, p7035, p9035, p8035]) (ll := []) ⟨ok12, ok21, trivial⟩ ⟨ok5035, ok7035, ok9035, ok8035, trivial⟩ trivial) chk6035 rfl rfl rfl F6 plain6035).2 hE hp ha w
theorem plain6036 (E : Env) (_ : E.F = Fs.F) (_ : ∀ d ∈ d6036, d.ok E) : t6036.den E = 1 := rfl
theorem law6036 {E : Env} (hE : E.F = Fs.F) {ρ : Nat → Rb} {N : Nat} {args : Array Value} (hp : pcOk E q6036.pre) (ha : F2 (Ar E ρ N) q6036.args args) (w : World) : Calls Go.Proofs.Try.prog 6 args w fun e w' => e = .returned (.bool true) ∧ RowKit.Below w.heap.size w w' :=
  (law_okF (c := q6036) (cfL_ok (P := Go.Proofs.Try.prog) (l := [p12, p21]) (lm := [p5036, p7036, p9036, p8036]) (ll := []) ⟨ok12, ok21, trivial⟩ ⟨ok5036, ok7036, ok9036, ok8036, trivial⟩ trivial) chk6036 rfl rfl rfl F6 plain6036).2 hE hp ha w
theorem plain6037 (E : Env) (_ : E.F = Fs.F) (_ : ∀ d ∈ d6037, d.ok E) : t6037.den E = 1 := rfl
theorem law6037 {E : Env} (hE : E.F = Fs.F) {ρ : Nat → Rb} {N : Nat} {args : Array Value} (hp : pcOk E q6037.pre) (ha : F2 (Ar E ρ N) q6037.args args) (w : World) : Calls Go.Proofs.Try.prog 6 args w fun e w' => e = .returned (.bool true) ∧ RowKit.Below w.heap.size w w' :=
  (law_okF (c := q6037) (cfL_ok (P := Go.Proofs.Try.prog) (l := [p12, p21]) (lm := [p5037, p7037, p9037, p8037]) (ll := []) ⟨ok12, ok21, trivial⟩ ⟨ok5037, ok7037, ok9037, ok8037, trivial⟩ trivial) chk6037 rfl rfl rfl F6 plain6037).2 hE hp ha w
theorem plain6038 (E : Env) (_ : E.F = Fs.F) (_ : ∀ d ∈ d6038, d.ok E) : t6038.den E = 1 := rfl
theorem law6038 {E : Env} (hE : E.F = Fs.F) {ρ : Nat → Rb} {N : Nat} {args : Array Value} (hp : pcOk E q6038.pre) (ha : F2 (Ar E ρ N) q6038.args args) (w : World) : Calls Go.Proofs.Try.prog 6 args w fun e w' => e = .returned (.bool true) ∧ RowKit.Below w.heap.size w w' :=
  (law_okF (c := q6038) (cfL_ok (P := Go.Proofs.Try.prog) (l := [p12, p21]) (lm := [p5038, p7038, p9038, p8038]) (ll := []) ⟨ok12, ok21, trivial⟩ ⟨ok5038, ok7038, ok9038, ok8038, trivial⟩ trivial) chk6038 rfl rfl rfl F6 plain6038).2 hE hp ha w
theorem plain6039 (E : Env) (_ : E.F = Fs.F) (_ : ∀ d ∈ d6039, d.ok E) : t6039.den E = 1 := rfl
theorem law6039 {E : Env} (hE : E.F = Fs.F) {ρ : Nat → Rb} {N : Nat} {args : Array Value} (hp : pcOk E q6039.pre) (ha : F2 (Ar E ρ N) q6039.args args) (w : World) : Calls Go.Proofs.Try.prog 6 args w fun e w' => e = .returned (.bool true) ∧ RowKit.Below w.heap.size w w' :=
  (law_okF (c := q6039) (cfL_ok (P := Go.Proofs.Try.prog) (l := [p12, p21]) (lm := [p5039, p7039, p9039, p8039]) (ll := []) ⟨ok12, ok21, trivial⟩ ⟨ok5039, ok7039, ok9039, ok8039, trivial⟩ trivial) chk6039 rfl rfl rfl F6 plain6039).2 hE hp ha w
theorem plain6040 (E : Env) (_ : E.F = Fs.F) (_ : ∀ d ∈ d6040, d.ok E) : t6040.den E = 1 := rfl
theorem law6040 {E : Env} (hE : E.F = Fs.F) {ρ : Nat → Rb} {N : Nat} {args : Array Value} (hp : pcOk E q6040.pre) (ha : F2 (Ar E ρ N) q6040.args args) (w : World) : Calls Go.Proofs.Try.prog 6 args w fun e w' => e = .returned (.bool true) ∧ RowKit.Below w.heap.size w w' :=
  (law_okF (c := q6040) (cfL_ok (P := Go.Proofs.Try.prog) (l := [p12, p21]) (lm := [p5040, p7040, p9040, p8040]) (ll := []) ⟨ok12, ok21, trivial⟩ ⟨ok5040, ok7040, ok9040, ok8040, trivial⟩ trivial) chk6040 rfl rfl rfl F6 plain6040).2 hE hp ha w
theorem plain6041 (E : Env) (_ : E.F = Fs.F) (_ : ∀ d ∈ d6041, d.ok E) : t6041.den E = 1 := rfl
theorem law6041 {E : Env} (hE : E.F = Fs.F) {ρ : Nat → Rb} {N : Nat} {args : Array Value} (hp : pcOk E q6041.pre) (ha : F2 (Ar E ρ N) q6041.args args) (w : World) : Calls Go.Proofs.Try.prog 6 args w fun e w' => e = .returned (.bool true) ∧ RowKit.Below w.heap.size w w' :=
  (law_okF (c := q6041) (cfL_ok (P := Go.Proofs.Try.prog) (l := [p12, p21]) (lm := []) (ll := []) ⟨ok12, ok21, trivial⟩ trivial trivial) chk6041 rfl rfl rfl F6 plain6041).2 hE hp ha w
theorem plain6042 (E : Env) (_ : E.F = Fs.F) (_ : ∀ d ∈ d6042, d.ok E) : t6042.den E = 1 := rfl
theorem law6042 {E : Env} (hE : E.F = Fs.F) {ρ : Nat → Rb} {N : Nat} {args : Array Value} (hp : pcOk E q6042.pre) (ha : F2 (Ar E ρ N) q6042.args args) (w : World) : Calls Go.Proofs.Try.prog 6 args w fun e w' => e = .returned (.bool true) ∧ RowKit.Below w.heap.size w w' :=
  (law_okF (c := q6042) (cfL_ok (P := Go.Proofs.Try.prog) (l := [p12, p21]) (lm := []) (ll := []) ⟨ok12, ok21, trivial⟩ trivial trivial) chk6042 rfl rfl rfl F6 plain6042).2 hE hp ha w
theorem plain6043 (E : Env) (_ : E.F = Fs.F) (_ : ∀ d ∈ d6043, d.ok E) : t6043.den E = 1 := rfl
theorem law6043 {E : Env} (hE : E.F = Fs.F) {ρ : Nat → Rb} {N : Nat} {args : Array Value} (hp : pcOk E q6043.pre) (ha : F2 (Ar E ρ N) q6043.args args) (w : World) : Calls Go.Proofs.Try.prog 6 args w fun e w' => e = .returned (.bool true) ∧ RowKit.Below w.heap.size w w' :=
  (law_okF (c := q6043) (cfL_ok (P := Go.Proofs.Try.prog) (l := [p12, p21]) (lm := [p5043, p7043, p9043, p8043]) (ll := []) ⟨ok12, ok21, trivial⟩ ⟨ok5043, ok7043, ok9043, ok8043, trivial⟩ trivial) chk6043 rfl rfl rfl F6 plain6043).2 hE hp ha w
theorem plain6044 (E : Env) (_ : E.F = Fs.F) (_ : ∀ d ∈ d6044, d.ok E) : t6044.den E = 1 := rfl
theorem law6044 {E : Env} (hE : E.F = Fs.F) {ρ : Nat → Rb} {N : Nat} {args : Array Value} (hp : pcOk E q6044.pre) (ha : F2 (Ar E ρ N) q6044.args args) (w : World) : Calls Go.Proofs.Try.prog 6 args w fun e w' => e = .returned (.bool true) ∧ RowKit.Below w.heap.size w w' :=
  (law_okF (c := q6044) (cfL_ok (P := Go.Proofs.Try.prog) (l := [p12, p21]) (lm := [p5044, p7044, p9044, p8044]) (ll := []) ⟨ok12, ok21, trivial⟩ ⟨ok5044, ok7044, ok9044, ok8044, trivial⟩ trivial) chk6044 rfl rfl rfl F6 plain6044).2 hE hp ha w
theorem plain6045 (E : Env) (_ : E.F = Fs.F) (_ : ∀ d ∈ d6045, d.ok E) : t6045.den E = 1 := rfl
theorem law6045 {E : Env} (hE : E.F = Fs.F) {ρ : Nat → Rb} {N : Nat} {args : Array Value} (hp : pcOk E q6045.pre) (ha : F2 (Ar E ρ N) q6045.args args) (w : World) : Calls Go.Proofs.Try.prog 6 args w fun e w' => e = .returned (.bool true) ∧ RowKit.Below w.heap.size w w' :=
  (law_okF (c := q6045) (cfL_ok (P := Go.Proofs.Try.prog) (l := [p12, p75, p32]) (lm := []) (ll := []) ⟨ok12, ok75, ok32, trivial⟩ trivial trivial) chk6045 rfl rfl rfl F6 plain6045).2 hE hp ha w
theorem plain6046 (E : Env) (_ : E.F = Fs.F) (_ : ∀ d ∈ d6046, d.ok E) : t6046.den E = 1 := rfl
theorem law6046 {E : Env} (hE : E.F = Fs.F) {ρ : Nat → Rb} {N : Nat} {args : Array Value} (hp : pcOk E q6046.pre) (ha : F2 (Ar E ρ N) q6046.args args) (w : World) : Calls Go.Proofs.Try.prog 6 args w fun e w' => e = .returned (.bool true) ∧ RowKit.Below w.heap.size w w' :=
  (law_okF (c := q6046) (cfL_ok (P := Go.Proofs.Try.prog) (l := [p12, p75, p32]) (lm := []) (ll := []) ⟨ok12, ok75, ok32, trivial⟩ trivial trivial) chk6046 rfl rfl rfl F6 plain6046).2 hE hp ha w
theorem plain6047 (E : Env) (_ : E.F = Fs.F) (_ : ∀ d ∈ d6047, d.ok E) : t6047.den E = 1 := rfl
theorem law6047 {E : Env} (hE : E.F = Fs.F) {ρ : Nat → Rb} {N : Nat} {args : Array Value} (hp : pcOk E q6047.pre) (ha : F2 (Ar E ρ N) q6047.args args) (w : World) : Calls Go.Proofs.Try.prog 6 args w fun e w' => e = .returned (.bool true) ∧ RowKit.Below w.heap.size w w' :=
  (law_okF (c := q6047) (cfL_ok (P := Go.Proofs.Try.prog) (l := [p12, p75, p32]) (lm := []) (ll := []) ⟨ok12, ok75, ok32, trivial⟩ trivial trivial) chk6047 rfl rfl rfl F6 plain6047).2 hE hp ha w
theorem plain6048 (E : Env) (_ : E.F = Fs.F) (_ : ∀ d ∈ d6048, d.ok E) : t6048.den E = 1 := rfl
theorem law6048 {E : Env} (hE : E.F = Fs.F) {ρ : Nat → Rb} {N : Nat} {args : Array Value} (hp : pcOk E q6048.pre) (ha : F2 (Ar E ρ N) q6048.args args) (w : World) : Calls Go.Proofs.Try.prog 6 args w fun e w' => e = .returned (.bool true) ∧ RowKit.Below w.heap.size w w' :=
  (law_okF (c := q6048) (cfL_ok (P := Go.Proofs.Try.prog) (l := [p12, p75, p32]) (lm := []) (ll := []) ⟨ok12, ok75, ok32, trivial⟩ trivial trivial) chk6048 rfl rfl rfl F6 plain6048).2 hE hp ha w
theorem plain6049 (E : Env) (_ : E.F = Fs.F) (_ : ∀ d ∈ d6049, d.ok E) : t6049.den E = 1 := rfl
theorem law6049 {E : Env} (hE : E.F = Fs.F) {ρ : Nat → Rb} {N : Nat} {args : Array Value} (hp : pcOk E q6049.pre) (ha : F2 (Ar E ρ N) q6049.args args) (w : World) : Calls Go.Proofs.Try.prog 6 args w fun e w' => e = .returned (.bool true) ∧ RowKit.Below w.heap.size w w' :=
  (law_okF (c := q6049) (cfL_ok (P := Go.Proofs.Try.prog) (l := [p12, p75, p32]) (lm := []) (ll := []) ⟨ok12, ok75, ok32, trivial⟩ trivial trivial) chk6049 rfl rfl rfl F6 plain6049).2 hE hp ha w
theorem plain6050 (E : Env) (_ : E.F = Fs.F) (_ : ∀ d ∈ d6050, d.ok E) : t6050.den E = 1 := rfl
theorem law6050 {E : Env} (hE : E.F = Fs.F) {ρ : Nat → Rb} {N : Nat} {args : Array Value} (hp : pcOk E q6050.pre) (ha : F2 (Ar E ρ N) q6050.args args) (w : World) : Calls Go.Proofs.Try.prog 6 args w fun e w' => e = .returned (.bool true) ∧ RowKit.Below w.heap.size w w' :=
  (law_okF (c := q6050) (cfL_ok (P := Go.Proofs.Try.prog) (l := [p12, p75, p32]) (lm := []) (ll := []) ⟨ok12, ok75, ok32, trivial⟩ trivial trivial) chk6050 rfl rfl rfl F6 plain6050).2 hE hp ha w
theorem plain6051 (E : Env) (_ : E.F = Fs.F) (_ : ∀ d ∈ d6051, d.ok E) : t6051.den E = 1 := rfl
theorem law6051 {E : Env} (hE : E.F = Fs.F) {ρ : Nat → Rb} {N : Nat} {args : Array Value} (hp : pcOk E q6051.pre) (ha : F2 (Ar E ρ N) q6051.args args) (w : World) : Calls Go.Proofs.Try.prog 6 args w fun e w' => e = .returned (.bool true) ∧ RowKit.Below w.heap.size w w' :=
  (law_okF (c := q6051) (cfL_ok (P := Go.Proofs.Try.prog) (l := [p12, p21]) (lm := [p5051, p7051, p9051, p8051]) (ll := []) ⟨ok12, ok21, trivial⟩ ⟨ok5051, ok7051, ok9051, ok8051, trivial⟩ trivial) chk6051 rfl rfl rfl F6 plain6051).2 hE hp ha w
theorem plain6052 (E : Env) (_ : E.F = Fs.F) (_ : ∀ d ∈ d6052, d.ok E) : t6052.den E = 1 := rfl
theorem law6052 {E : Env} (hE : E.F = Fs.F) {ρ : Nat → Rb} {N : Nat} {args : Array Value} (hp : pcOk E q6052.pre) (ha : F2 (Ar E ρ N) q6052.args args) (w : World) : Calls Go.Proofs.Try.prog 6 args w fun e w' => e = .returned (.bool true) ∧ RowKit.Below w.heap.size w w' :=
  (law_okF (c := q6052) (cfL_ok (P := Go.Proofs.Try.prog) (l := [p12, p21]) (lm := [p5052, p7052, p9052, p8052]) (ll := []) ⟨ok12, ok21, trivial⟩ ⟨ok5052, ok7052, ok9052, ok8052, trivial⟩ trivial) chk6052 rfl rfl rfl F6 plain6052).2 hE hp ha w
theorem plain6053 (E : Env) (_ : E.F = Fs.F) (_ : ∀ d ∈ d6053, d.ok E) : t6053.den E = 1 := rfl
theorem law6053 {E : Env} (hE : E.F = Fs.F) {ρ : Nat → Rb} {N : Nat} {args : Array Value} (hp : pcOk E q6053.pre) (ha : F2 (Ar E ρ N) q6053.args args) (w : World) : Calls Go.Proofs.Try.prog 6 args w fun e w' => e = .returned (.bool true) ∧ RowKit.Below w.heap.size w w' :=
  (law_okF (c := q6053) (cfL_ok (P := Go.Proofs.Try.prog) (l := [p12, p75, p32]) (lm := []) (ll := []) ⟨ok12, ok75, ok32, trivial⟩ trivial trivial) chk6053 rfl rfl rfl F6 plain6053).2 hE hp ha w
theorem plain1006021 (E : Env) (_ : E.F = Fs.F) (_ : ∀ d ∈ d1006021, d.ok E) : t1006021.den E = 1 := rfl
theorem law1006021 {E : Env} (hE : E.F = Fs.F) {ρ : Nat → Rb} {N : Nat} {args : Array Value} (hp : pcOk E q1006021.pre) (ha : F2 (Ar E ρ N) q1006021.args args) (w : World) : Calls Go.Proofs.Try.prog 6 args w fun e w' => e = .returned (.bool true) ∧ RowKit.Below w.heap.size w w' :=
  (law_okF (c := q1006021) (cfL_ok (P := Go.Proofs.Try.prog) (l := [p12, p21]) (lm := [p5021, p7021, p9021, p8021]) (ll := []) ⟨ok12, ok21, trivial⟩ ⟨ok5021, ok7021, ok9021, ok8021, trivial⟩ trivial) chk1006021 rfl rfl rfl F6 plain1006021).2 hE hp ha w
theorem plain1006121 (E : Env) (_ : E.F = Fs.F) (_ : ∀ d ∈ d1006121, d.ok E) : t1006121.den E = 1 := rfl
theorem law1006121 {E : Env} (hE : E.F = Fs.F) {ρ : Nat → Rb} {N : Nat} {args : Array Value} (hp : pcOk E q1006121.pre) (ha : F2 (Ar E ρ N) q1006121.args args) (w : World) : Calls Go.Proofs.Try.prog 6 args w fun e w' => e = .returned (.bool true) ∧ RowKit.Below w.heap.size w w' :=
  (law_okF (c := q1006121) (cfL_ok (P := Go.Proofs.Try.prog) (l := [p12, p21]) (lm := [p5021, p7121, p9021, p8121]) (ll := []) ⟨ok12, ok21, trivial⟩ ⟨ok5021, ok7121, ok9021, ok8121, trivial⟩ trivial) chk1006121 rfl rfl rfl F6 plain1006121).2 hE hp ha w
theorem plain1006221 (E : Env) (_ : E.F = Fs.F) (_ : ∀ d ∈ d1006221, d.ok E) : t1006221.den E = 1 := rfl
theorem law1006221 {E : Env} (hE : E.F = Fs.F) {ρ : Nat → Rb} {N : Nat} {args : Array Value} (hp : pcOk E q1006221.pre) (ha : F2 (Ar E ρ N) q1006221.args args) (w : World) : Calls Go.Proofs.Try.prog 6 args w fun e w' => e = .returned (.bool true) ∧ RowKit.Below w.heap.size w w' :=
  (law_okF (c := q1006221) (cfL_ok (P := Go.Proofs.Try.prog) (l := [p12, p21]) (lm := [p5021, p7221, p9021, p8221]) (ll := []) ⟨ok12, ok21, trivial⟩ ⟨ok5021, ok7221, ok9021, ok8221, trivial⟩ trivial) chk1006221 rfl rfl rfl F6 plain1006221).2 hE hp ha w
theorem plain1006022 (E : Env) (_ : E.F = Fs.F) (_ : ∀ d ∈ d1006022, d.ok E) : t1006022.den E = 1 := rfl
theorem law1006022 {E : Env} (hE : E.F = Fs.F) {ρ : Nat → Rb} {N : Nat} {args : Array Value} (hp : pcOk E q1006022.pre) (ha : F2 (Ar E ρ N) q1006022.args args) (w : World) : Calls Go.Proofs.Try.prog 6 args w fun e w' => e = .returned (.bool true) ∧ RowKit.Below w.heap.size w w' :=
  (law_okF (c := q1006022) (cfL_ok (P := Go.Proofs.Try.prog) (l := [p12, p21]) (lm := [p5022, p7022, p9022, p8022]) (ll := []) ⟨ok12, ok21, trivial⟩ ⟨ok5022, ok7022, ok9022, ok8022, trivial⟩ trivial) chk1006022 rfl rfl rfl F6 plain1006022).2 hE hp ha w
theorem plain1006122 (E : Env) (_ : E.F = Fs.F) (_ : ∀ d ∈ d1006122, d.ok E) : t1006122.den E = 1 := rfl
theorem law1006122 {E : Env} (hE : E.F = Fs.F) {ρ : Nat → Rb} {N : Nat} {args : Array Value} (hp : pcOk E q1006122.pre) (ha : F2 (Ar E ρ N) q1006122.args args) (w : World) : Calls Go.Proofs.Try.prog 6 args w fun e w' => e = .returned (.bool true) ∧ RowKit.Below w.heap.size w w' :=
  (law_okF (c := q1006122) (cfL_ok (P := Go.Proofs.Try.prog) (l := [p12, p21]) (lm := [p5022, p7122, p9022, p8122]) (ll := []) ⟨ok12, ok21, trivial⟩ ⟨ok5022, ok7122, ok9022, ok8122, trivial⟩ trivial) chk1006122 rfl rfl rfl F6 plain1006122).2 hE hp ha w
theorem plain1006222 (E : Env) (_ : E.F = Fs.F) (_ : ∀ d ∈ d1006222, d.ok E) : t1006222.den E = 1 := rfl
theorem law1006222 {E : Env} (hE : E.F = Fs.F) {ρ : Nat → Rb} {N : Nat} {args : Array Value} (hp : pcOk E q1006222.pre) (ha : F2 (Ar E ρ N) q1006222.args args) (w : World) : Calls Go.Proofs.Try.prog 6 args w fun e w' => e = .returned (.bool true) ∧ RowKit.Below w.heap.size w w' :=
  (law_okF (c := q1006222) (cfL_ok (P := Go.Proofs.Try.prog) (l := [p12, p21]) (lm := [p5022, p7222, p9022, p8222]) (ll := []) ⟨ok12, ok21, trivial⟩ ⟨ok5022, ok7222, ok9022, ok8222, trivial⟩ trivial) chk1006222 rfl rfl rfl F6 plain1006222).2 hE hp ha w
theorem plain1006023 (E : Env) (_ : E.F = Fs.F) (_ : ∀ d ∈ d1006023, d.ok E) : t1006023.den E = 1 := rfl
theorem law1006023 {E : Env} (hE : E.F = Fs.F) {ρ : Nat → Rb} {N : Nat} {args : Array Value} (hp : pcOk E q1006023.pre) (ha : F2 (Ar E ρ N) q1006023.args args) (w : World) : Calls Go.Proofs.Try.prog 6 args w fun e w' => e = .returned (.bool true) ∧ RowKit.Below w.heap.size w w' :=
  (law_okF (c := q1006023) (cfL_ok (P := Go.Proofs.Try.prog) (l := [p12, p21]) (lm := [p5023, p7023, p9023, p8023]) (ll := []) ⟨ok12, ok21, trivial⟩ ⟨ok5023, ok7023, ok9023, ok8023, trivial⟩ trivial) chk1006023 rfl rfl rfl F6 plain1006023).2 hE hp ha w
theorem plain1006123 (E : Env) (_ : E.F = Fs.F) (_ : ∀ d ∈ d1006123, d.ok E) : t1006123.den E = 1 := rfl
theorem law1006123 {E : Env} (hE : E.F = Fs.F) {ρ : Nat → Rb} {N : Nat} {args : Array Value} (hp : pcOk E q1006123.pre) (ha : F2 (Ar E ρ N) q1006123.args args) (w : World) : Calls Go.Proofs.Try.prog 6 args w fun e w' => e = .returned (.bool true) ∧ RowKit.Below w.heap.size w w' :=
  (law_okF (c := q1006123) (cfL_ok (P := Go.Proofs.Try.prog) (l := [p12, p21]) (lm := [p5023, p7123, p9023, p8123]) (ll := []) ⟨ok12, ok21, trivial⟩ ⟨ok5023, ok7123, ok9023, ok8123, trivial⟩ trivial) chk1006123 rfl rfl rfl F6 plain1006123).2 hE hp ha w
theorem plain1006223 (E : Env) (_ : E.F = Fs.F) (_ : ∀ d ∈ d1006223, d.ok E) : t1006223.den E = 1 := rfl
theorem law1006223 {E : Env} (hE : E.F = Fs.F) {ρ : Nat → Rb} {N : Nat} {args : Array Value} (hp : pcOk E q1006223.pre) (ha : F2 (Ar E ρ N) q1006223.args args) (w : World) : Calls Go.Proofs.Try.prog 6 args w fun e w' => e = .returned (.bool true) ∧ RowKit.Below w.heap.size w w' :=
  (law_okF (c := q1006223) (cfL_ok (P := Go.Proofs.Try.prog) (l := [p12, p21]) (lm := [p5023, p7223, p9023, p8223]) (ll := []) ⟨ok12, ok21, trivial⟩ ⟨ok5023, ok7223, ok9023, ok8223, trivial⟩ trivial) chk1006223 rfl rfl rfl F6 plain1006223).2 hE hp ha w
theorem plain1006024 (E : Env) (_ : E.F = Fs.F) (_ : ∀ d ∈ d1006024, d.ok E) : t1006024.den E = 1 := rfl
theorem law1006024 {E : Env} (hE : E.F = Fs.F) {ρ : Nat → Rb} {N : Nat} {args : Array Value} (hp : pcOk E q1006024.pre) (ha : F2 (Ar E ρ N) q1006024.args args) (w : World) : Calls Go.Proofs.Try.prog 6 args w fun e w' => e = .returned (.bool true) ∧ RowKit.Below w.heap.size w w' :=
  (law_okF (c := q1006024) (cfL_ok (P := Go.Proofs.Try.prog) (l := [p12, p21]) (lm := [p5024, p7024, p9024, p8024]) (ll := []) ⟨ok12, ok21, trivial⟩ ⟨ok5024, ok7024, ok9024, ok8024, trivial⟩ trivial) chk1006024 rfl rfl rfl F6 plain1006024).2 hE hp ha w
theorem plain1006124 (E : Env) (_ : E.F = Fs.F) (_ : ∀ d ∈ d1006124, d.ok E) : t1006124.den E = 1 := rfl
theorem law1006124 {E : Env} (hE : E.F = Fs.F) {ρ : Nat → Rb} {N : Nat} {args : Array Value} (hp : pcOk E q1006124.pre) (ha : F2 (Ar E ρ N) q1006124.args args) (w : World) : Calls Go.Proofs.Try.prog 6 args w fun e w' => e = .returned (.bool true) ∧ RowKit.Below w.heap.size w w' :=
  (law_okF (c := q1006124) (cfL_ok (P := Go.Proofs.Try.prog) (l := [p12, p21]) (lm := [p5024, p7124, p9024, p8124]) (ll := []) ⟨ok12, ok21, trivial⟩ ⟨ok5024, ok7124, ok9024, ok8124, trivial⟩ trivial) chk1006124 rfl rfl rfl F6 plain1006124).2 hE hp ha w
theorem plain1006224 (E : Env) (_ : E.F = Fs.F) (_ : ∀ d ∈ d1006224, d.ok E) : t1006224.den E = 1 := rfl
theorem law1006224 {E : Env} (hE : E.F = Fs.F) {ρ : Nat → Rb} {N : Nat} {args : Array Value} (hp : pcOk E q1006224.pre) (ha : F2 (Ar E ρ N) q1006224.args args) (w : World) : Calls Go.Proofs.Try.prog 6 args w fun e w' => e = .returned (.bool true) ∧ RowKit.Below w.heap.size w w' :=
  (law_okF (c := q1006224) (cfL_ok (P := Go.Proofs.Try.prog) (l := [p12, p21]) (lm := [p5024, p7224, p9024, p8224]) (ll := []) ⟨ok12, ok21, trivial⟩ ⟨ok5024, ok7224, ok9024, ok8224, trivial⟩ trivial) chk1006224 rfl rfl rfl F6 plain1006224).2 hE hp ha w
theorem plain1006025 (E : Env) (_ : E.F = Fs.F) (_ : ∀ d ∈ d1006025, d.ok E) : t1006025.den E = 1 := rfl
theorem law1006025 {E : Env} (hE : E.F = Fs.F) {ρ : Nat → Rb} {N : Nat} {args : Array Value} (hp : pcOk E q1006025.pre) (ha : F2 (Ar E ρ N) q1006025.args args) (w : World) : Calls Go.Proofs.Try.prog 6 args w fun e w' => e = .returned (.bool true) ∧ RowKit.Below w.heap.size w w' :=
  (law_okF (c := q1006025) (cfL_ok (P := Go.Proofs.Try.prog) (l := [p12, p21]) (lm := [p5025, p7025, p9025, p8025]) (ll := []) ⟨ok12, ok21, trivial⟩ ⟨ok5025, ok7025, ok9025, ok8025, trivial⟩ trivial) chk1006025 rfl rfl rfl F6 plain1006025).2 hE hp ha w
theorem plain1006125 (E : Env) (_ : E.F = Fs.F) (_ : ∀ d ∈ d1006125, d.ok E) : t1006125.den E = 1 := rfl
theorem law1006125 {E : Env} (hE : E.F = Fs.F) {ρ : Nat → Rb} {N : Nat} {args : Array Value} (hp : pcOk E q1006125.pre) (ha : F2 (Ar E ρ N) q1006125.args args) (w : World) : Calls Go.Proofs.Try.prog 6 args w fun e w' => e = .returned (.bool true) ∧ RowKit.Below w.heap.size w w' :=
  (law_okF (c := q1006125) (cfL_ok (P := Go.Proofs.Try.prog) (l := [p12, p21]) (lm := [p5025, p7125, p9025, p8125]) (ll := []) ⟨ok12, ok21, trivial⟩ ⟨ok5025, ok7125, ok9025, ok8125, trivial⟩ trivial) chk1006125 rfl rfl rfl F6 plain1006125).2 hE hp ha w
theorem plain1006225 (E : Env) (_ : E.F = Fs.F) (_ : ∀ d ∈ d1006225, d.ok E) : t1006225.den E = 1 := rfl
theorem law1006225 {E : Env} (hE : E.F = Fs.F) {ρ : Nat → Rb} {N : Nat} {args : Array Value} (hp : pcOk E q1006225.pre) (ha : F2 (Ar E ρ N) q1006225.args args) (w : World) : Calls Go.Proofs.Try.prog 6 args w fun e w' => e = .returned (.bool true) ∧ RowKit.Below w.heap.size w w' :=
  (law_okF (c := q1006225) (cfL_ok (P := Go.Proofs.Try.prog) (l := [p12, p21]) (lm := [p5025, p7225, p9025, p8225]) (ll := []) ⟨ok12, ok21, trivial⟩ ⟨ok5025, ok7225, ok9025, ok8225, trivial⟩ trivial) chk1006225 rfl rfl rfl F6 plain1006225).2 hE hp ha w
theorem plain6100 (E : Env) (_ : E.F = Fs.F) (_ : ∀ d ∈ d6100, d.ok E) : t6100.den E = 1 := rfl
theorem law6100 {E : Env} (hE : E.F = Fs.F) {ρ : Nat → Rb} {N : Nat} {args : Array Value} (hp : pcOk E q6100.pre) (ha : F2 (Ar E ρ N) q6100.args args) (w : World) : Calls Go.Proofs.Try.prog 6 args w fun e w' => e = .returned (.bool true) ∧ RowKit.Below w.heap.size w w' :=
  (law_okF (c := q6100) (cfL_ok (P := Go.Proofs.Try.prog) (l := [p12, p75, p32]) (lm := []) (ll := []) ⟨ok12, ok75, ok32, trivial⟩ trivial trivial) chk6100 rfl rfl rfl F6 plain6100).2 hE hp ha w
theorem plain6101 (E : Env) (_ : E.F = Fs.F) (_ : ∀ d ∈ d6101, d.ok E) : t6101.den E = 1 := rfl
theorem law6101 {E : Env} (hE : E.F = Fs.F) {ρ : Nat → Rb} {N : Nat} {args : Array Value} (hp : pcOk E q6101.pre) (ha : F2 (Ar E ρ N) q6101.args args) (w : World) : Calls Go.Proofs.Try.prog 6 args w fun e w' => e = .returned (.bool true) ∧ RowKit.Below w.heap.size w w' :=
  (law_okF (c := q6101) (cfL_ok (P := Go.Proofs.Try.prog) (l := [p12, p75, p32]) (lm := []) (ll := []) ⟨ok12, ok75, ok32, trivial⟩ trivial trivial) chk6101 rfl rfl rfl F6 plain6101).2 hE hp ha w
end Go.Sy
