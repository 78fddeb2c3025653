/- Functions, each told by its own run; and what follows from what they tell. -/
import Derived.KernelRfl
import Derived.Test.YtlmlikonkfnfaaaLowQC1
import Derived.Test.YtlmlikonkfnfaaaLowQC2
import Derived.Test.YtlmlikonkfnfaaaLowQC3
import Derived.Test.YtlmlikonkfnfaaaLowQC4
namespace Go.Sy
theorem F3 (xs : List Arg) : Fs.F 3 xs = [⟨1, fun _ => 1⟩] := by kernel_rfl
theorem at_eq {k : Nat} {c : Te} (h : table[k]? = some c) : table.take k ++ c :: table.drop (k + 1) = table := by
  obtain ⟨hk, e⟩ := List.getElem?_eq_some_iff.1 h
  rw [← e, ← List.drop_eq_getElem_cons hk, List.take_append_drop]
theorem F_eq : Fs.F = mkG table := by kernel_rfl
theorem F_at {k : Nat} {c : Te} (h : table[k]? = some c) : Fs.F = mkG (table.take k ++ c :: table.drop (k + 1)) := by rw [at_eq h]; exact F_eq
theorem ok_at {k : Nat} {c : Te} (h : table[k]? = some c) : okG (table.take k ++ c :: table.drop (k + 1)) = true := by rw [at_eq h]; exact okT
theorem pf_at {P : Program} {cf : Cf} (hcf : CfOk P cf) {fuel : Nat} {c : Pf} {ds : List Df} {ls : List T} (h : chkPf P cf fuel c ds ls = true) (k : Nat) (hk : table[k]? = some (.card ⟨c.g, c.n, ds, ls⟩)) : PfOk P c := cardG_ok hcf h _ _ (F_at hk) (ok_at hk)
theorem mf_at {P : Program} {cf : Cf} (hcf : CfOk P cf) {fuel : Nat} {c : Mf} {ds : List Df} {ls : List T} (h : chkMf P cf fuel c ds ls = true) (k : Nat) (hk : table[k]? = some (.card ⟨c.id, c.n, ds, ls⟩)) : MfOk P c := cardMG_ok hcf h _ _ (F_at hk) (ok_at hk)
theorem ok19 : PfOk Go.Proofs.Try.prog p19 := pf_at (cfL_ok (P := Go.Proofs.Try.prog) (l := []) (lm := []) (ll := []) trivial trivial trivial) chk19 33 (by kernel_rfl)
theorem ok88 : PfOk Go.Proofs.Try.prog p88 := pf_at (cfL_ok (P := Go.Proofs.Try.prog) (l := []) (lm := []) (ll := []) trivial trivial trivial) chk88 32 (by kernel_rfl)
theorem ok27 : PfOk Go.Proofs.Try.prog p27 := pf_at (cfL_ok (P := Go.Proofs.Try.prog) (l := []) (lm := []) (ll := []) trivial trivial trivial) chk27 31 (by kernel_rfl)
theorem ok87 : PfOk Go.Proofs.Try.prog p87 := pf_at (cfL_ok (P := Go.Proofs.Try.prog) (l := []) (lm := []) (ll := []) trivial trivial trivial) chk87 30 (by kernel_rfl)
theorem ok1003 : MfOk Go.Proofs.Try.prog p1003 := mf_at (cfL_ok (P := Go.Proofs.Try.prog) (l := [p19]) (lm := []) (ll := []) ⟨ok19, trivial⟩ trivial trivial) chk1003 29 (by kernel_rfl)
theorem ok1008 : MfOk Go.Proofs.Try.prog p1008 := mf_at (cfL_ok (P := Go.Proofs.Try.prog) (l := [p19]) (lm := []) (ll := []) ⟨ok19, trivial⟩ trivial trivial) chk1008 28 (by kernel_rfl)
theorem ok1009 : MfOk Go.Proofs.Try.prog p1009 := mf_at (cfL_ok (P := Go.Proofs.Try.prog) (l := [p19]) (lm := []) (ll := []) ⟨ok19, trivial⟩ trivial trivial) chk1009 27 (by kernel_rfl)
theorem ok1005 : MfOk Go.Proofs.Try.prog p1005 := mf_at (cfL_ok (P := Go.Proofs.Try.prog) (l := [p19]) (lm := []) (ll := []) ⟨ok19, trivial⟩ trivial trivial) chk1005 26 (by kernel_rfl)
theorem ok1010 : MfOk Go.Proofs.Try.prog p1010 := mf_at (cfL_ok (P := Go.Proofs.Try.prog) (l := [p19]) (lm := []) (ll := []) ⟨ok19, trivial⟩ trivial trivial) chk1010 25 (by kernel_rfl)
theorem ok1001 : MfOk Go.Proofs.Try.prog p1001 := mf_at (cfL_ok (P := Go.Proofs.Try.prog) (l := [p19]) (lm := []) (ll := []) ⟨ok19, trivial⟩ trivial trivial) chk1001 24 (by kernel_rfl)
theorem ok7003 : MfOk Go.Proofs.Try.prog p7003 := mf_at (cfL_ok (P := Go.Proofs.Try.prog) (l := [p88, p27]) (lm := [p1003]) (ll := []) ⟨ok88, ok27, trivial⟩ ⟨ok1003, trivial⟩ trivial) chk7003 23 (by kernel_rfl)
theorem ok7008 : MfOk Go.Proofs.Try.prog p7008 := mf_at (cfL_ok (P := Go.Proofs.Try.prog) (l := [p88, p27]) (lm := [p1008]) (ll := []) ⟨ok88, ok27, trivial⟩ ⟨ok1008, trivial⟩ trivial) chk7008 22 (by kernel_rfl)
theorem ok7009 : MfOk Go.Proofs.Try.prog p7009 := mf_at (cfL_ok (P := Go.Proofs.Try.prog) (l := [p88, p27]) (lm := [p1009]) (ll := []) ⟨ok88, ok27, trivial⟩ ⟨ok1009, trivial⟩ trivial) chk7009 21 (by kernel_rfl)
theorem ok7005 : MfOk Go.Proofs.Try.prog p7005 := mf_at (cfL_ok (P := Go.Proofs.Try.prog) (l := [p88, p27]) (lm := [p1005]) (ll := []) ⟨ok88, ok27, trivial⟩ ⟨ok1005, trivial⟩ trivial) chk7005 20 (by kernel_rfl)
theorem ok7010 : MfOk Go.Proofs.Try.prog p7010 := mf_at (cfL_ok (P := Go.Proofs.Try.prog) (l := [p88, p27]) (lm := [p1010]) (ll := []) ⟨ok88, ok27, trivial⟩ ⟨ok1010, trivial⟩ trivial) chk7010 19 (by kernel_rfl)
theorem ok7001 : MfOk Go.Proofs.Try.prog p7001 := mf_at (cfL_ok (P := Go.Proofs.Try.prog) (l := [p88, p27]) (lm := [p1001]) (ll := []) ⟨ok88, ok27, trivial⟩ ⟨ok1001, trivial⟩ trivial) chk7001 18 (by kernel_rfl)
theorem ok49 : PfOk Go.Proofs.Try.prog p49 := pf_at (cfL_ok (P := Go.Proofs.Try.prog) (l := []) (lm := []) (ll := []) trivial trivial trivial) chk49 17 (by kernel_rfl)
theorem ok86 : PfOk Go.Proofs.Try.prog p86 := pf_at (cfL_ok (P := Go.Proofs.Try.prog) (l := [p88]) (lm := []) (ll := []) ⟨ok88, trivial⟩ trivial trivial) chk86 16 (by kernel_rfl)
theorem ok56 : PfOk Go.Proofs.Try.prog p56 := pf_at (cfL_ok (P := Go.Proofs.Try.prog) (l := [p88]) (lm := []) (ll := []) ⟨ok88, trivial⟩ trivial trivial) chk56 15 (by kernel_rfl)
theorem ok72 : PfOk Go.Proofs.Try.prog p72 := pf_at (cfL_ok (P := Go.Proofs.Try.prog) (l := [p86]) (lm := []) (ll := []) ⟨ok86, trivial⟩ trivial trivial) chk72 14 (by kernel_rfl)
theorem ok26 : PfOk Go.Proofs.Try.prog p26 := pf_at (cfL_ok (P := Go.Proofs.Try.prog) (l := [p56]) (lm := []) (ll := []) ⟨ok56, trivial⟩ trivial trivial) chk26 13 (by kernel_rfl)
theorem ok73 : PfOk Go.Proofs.Try.prog p73 := pf_at (cfL_ok (P := Go.Proofs.Try.prog) (l := [p87, p88, p26]) (lm := []) (ll := []) ⟨ok87, ok88, ok26, trivial⟩ trivial trivial) chk73 12 (by kernel_rfl)
theorem ok71 : PfOk Go.Proofs.Try.prog p71 := pf_at (cfL_ok (P := Go.Proofs.Try.prog) (l := [p49]) (lm := []) (ll := []) ⟨ok49, trivial⟩ trivial trivial) chk71 11 (by kernel_rfl)
theorem ok50 : PfOk Go.Proofs.Try.prog p50 := pf_at (cfL_ok (P := Go.Proofs.Try.prog) (l := [p71, p72, p73]) (lm := []) (ll := []) ⟨ok71, ok72, ok73, trivial⟩ trivial trivial) chk50 10 (by kernel_rfl)
theorem F5 (xs : List Arg) : Fs.F 5 xs = [⟨1, fun _ => 1⟩] := by kernel_rfl
theorem plain5 (E : Env) (_ : E.F = Fs.F) (_ : ∀ d ∈ d5, d.ok E) : t5.den E = 1 := rfl
theorem ok5 : PfOk Go.Proofs.Try.prog p5 := by
  have h := law_okF (cfL_ok (P := Go.Proofs.Try.prog) (l := [p88, p27, p19, p49, p50]) (lm := [p1003, p7003]) (ll := []) ⟨ok88, ok27, ok19, ok49, ok50, trivial⟩ ⟨ok1003, ok7003, trivial⟩ trivial) chk5 rfl rfl rfl F5 plain5
  exact true_ok h.1 fun w => h.2 (E := ⟨fun _ => default, Fs.F⟩) rfl (ρ := fun _ => default) (N := 0) (args := #[]) (fun _ h => nomatch h) F2.nil w
theorem ok89 : PfOk Go.Proofs.Try.prog p89 := pf_at (cfL_ok (P := Go.Proofs.Try.prog) (l := []) (lm := []) (ll := []) trivial trivial trivial) chk89 8 (by kernel_rfl)
theorem ok80 : PfOk Go.Proofs.Try.prog p80 := pf_at (cfL_ok (P := Go.Proofs.Try.prog) (l := []) (lm := []) (ll := []) trivial trivial trivial) chk80 7 (by kernel_rfl)
theorem ok83 : PfOk Go.Proofs.Try.prog p83 := pf_at (cfL_ok (P := Go.Proofs.Try.prog) (l := []) (lm := []) (ll := []) trivial trivial trivial) chk83 6 (by kernel_rfl)
theorem ok9003 : MfOk Go.Proofs.Try.prog p9003 := mf_at (cfL_ok (P := Go.Proofs.Try.prog) (l := [p89, p80, p83]) (lm := []) (ll := []) ⟨ok89, ok80, ok83, trivial⟩ trivial trivial) chk9003 5 (by kernel_rfl)
theorem ok9008 : MfOk Go.Proofs.Try.prog p9008 := mf_at (cfL_ok (P := Go.Proofs.Try.prog) (l := [p89, p80, p83]) (lm := []) (ll := []) ⟨ok89, ok80, ok83, trivial⟩ trivial trivial) chk9008 4 (by kernel_rfl)
theorem ok9009 : MfOk Go.Proofs.Try.prog p9009 := mf_at (cfL_ok (P := Go.Proofs.Try.prog) (l := [p89, p80, p83]) (lm := []) (ll := []) ⟨ok89, ok80, ok83, trivial⟩ trivial trivial) chk9009 3 (by kernel_rfl)
theorem ok9005 : MfOk Go.Proofs.Try.prog p9005 := mf_at (cfL_ok (P := Go.Proofs.Try.prog) (l := [p89, p80, p83]) (lm := []) (ll := []) ⟨ok89, ok80, ok83, trivial⟩ trivial trivial) chk9005 2 (by kernel_rfl)
theorem ok9010 : MfOk Go.Proofs.Try.prog p9010 := mf_at (cfL_ok (P := Go.Proofs.Try.prog) (l := [p89, p80, p83]) (lm := []) (ll := []) ⟨ok89, ok80, ok83, trivial⟩ trivial trivial) chk9010 1 (by kernel_rfl)
theorem plain3000 (E : Env) (_ : E.F = Fs.F) (_ : ∀ d ∈ d3000, d.ok E) : t3000.den E = 1 := rfl
theorem law3000 {E : Env} (hE : E.F = Fs.F) {ρ : Nat → Rb} {N : Nat} {args : Array Value} (hp : pcOk E q3000.pre) (ha : F2 (Ar E ρ N) q3000.args args) (w : World) : Calls Go.Proofs.Try.prog 3 args w fun e w' => e = .returned (.bool true) ∧ RowKit.Below w.heap.size w w' :=
  (law_okF (c := q3000) (cfL_ok (P := Go.Proofs.Try.prog) (l := [p5]) (lm := [p7003, p9003]) (ll := []) ⟨ok5, trivial⟩ ⟨ok7003, ok9003, trivial⟩ trivial) chk3000 rfl rfl rfl F3 plain3000).2 hE hp ha w
theorem plain3001 (E : Env) (_ : E.F = Fs.F) (_ : ∀ d ∈ d3001, d.ok E) : t3001.den E = 1 := rfl
theorem law3001 {E : Env} (hE : E.F = Fs.F) {ρ : Nat → Rb} {N : Nat} {args : Array Value} (hp : pcOk E q3001.pre) (ha : F2 (Ar E ρ N) q3001.args args) (w : World) : Calls Go.Proofs.Try.prog 3 args w fun e w' => e = .returned (.bool true) ∧ RowKit.Below w.heap.size w w' :=
  (law_okF (c := q3001) (cfL_ok (P := Go.Proofs.Try.prog) (l := [p5]) (lm := [p7008, p9008]) (ll := []) ⟨ok5, trivial⟩ ⟨ok7008, ok9008, trivial⟩ trivial) chk3001 rfl rfl rfl F3 plain3001).2 hE hp ha w
theorem plain3002 (E : Env) (_ : E.F = Fs.F) (_ : ∀ d ∈ d3002, d.ok E) : t3002.den E = 1 := rfl
theorem law3002 {E : Env} (hE : E.F = Fs.F) {ρ : Nat → Rb} {N : Nat} {args : Array Value} (hp : pcOk E q3002.pre) (ha : F2 (Ar E ρ N) q3002.args args) (w : World) : Calls Go.Proofs.Try.prog 3 args w fun e w' => e = .returned (.bool true) ∧ RowKit.Below w.heap.size w w' :=
  (law_okF (c := q3002) (cfL_ok (P := Go.Proofs.Try.prog) (l := [p5]) (lm := [p7009, p9009]) (ll := []) ⟨ok5, trivial⟩ ⟨ok7009, ok9009, trivial⟩ trivial) chk3002 rfl rfl rfl F3 plain3002).2 hE hp ha w
theorem plain3003 (E : Env) (_ : E.F = Fs.F) (_ : ∀ d ∈ d3003, d.ok E) : t3003.den E = 1 := rfl
theorem law3003 {E : Env} (hE : E.F = Fs.F) {ρ : Nat → Rb} {N : Nat} {args : Array Value} (hp : pcOk E q3003.pre) (ha : F2 (Ar E ρ N) q3003.args args) (w : World) : Calls Go.Proofs.Try.prog 3 args w fun e w' => e = .returned (.bool true) ∧ RowKit.Below w.heap.size w w' :=
  (law_okF (c := q3003) (cfL_ok (P := Go.Proofs.Try.prog) (l := [p5]) (lm := [p7005, p9005]) (ll := []) ⟨ok5, trivial⟩ ⟨ok7005, ok9005, trivial⟩ trivial) chk3003 rfl rfl rfl F3 plain3003).2 hE hp ha w
theorem plain3004 (E : Env) (_ : E.F = Fs.F) (_ : ∀ d ∈ d3004, d.ok E) : t3004.den E = 1 := rfl
theorem law3004 {E : Env} (hE : E.F = Fs.F) {ρ : Nat → Rb} {N : Nat} {args : Array Value} (hp : pcOk E q3004.pre) (ha : F2 (Ar E ρ N) q3004.args args) (w : World) : Calls Go.Proofs.Try.prog 3 args w fun e w' => e = .returned (.bool true) ∧ RowKit.Below w.heap.size w w' :=
  (law_okF (c := q3004) (cfL_ok (P := Go.Proofs.Try.prog) (l := [p5]) (lm := [p7010, p9010]) (ll := []) ⟨ok5, trivial⟩ ⟨ok7010, ok9010, trivial⟩ trivial) chk3004 rfl rfl rfl F3 plain3004).2 hE hp ha w
theorem plain3005 (E : Env) (_ : E.F = Fs.F) (_ : ∀ d ∈ d3005, d.ok E) : t3005.den E = 1 := rfl
theorem law3005 {E : Env} (hE : E.F = Fs.F) {ρ : Nat → Rb} {N : Nat} {args : Array Value} (hp : pcOk E q3005.pre) (ha : F2 (Ar E ρ N) q3005.args args) (w : World) : Calls Go.Proofs.Try.prog 3 args w fun e w' => e = .returned (.bool true) ∧ RowKit.Below w.heap.size w w' :=
  (law_okF (c := q3005) (cfL_ok (P := Go.Proofs.Try.prog) (l := [p5]) (lm := [p7001]) (ll := []) ⟨ok5, trivial⟩ ⟨ok7001, trivial⟩ trivial) chk3005 rfl rfl rfl F3 plain3005).2 hE hp ha w
end Go.Sy
