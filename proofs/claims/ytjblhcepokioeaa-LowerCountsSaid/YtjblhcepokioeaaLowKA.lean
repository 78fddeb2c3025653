/- Functions, each told by its own run; and what follows from what they tell. -/
import Derived.KernelRfl
import Derived.Test.YtjblhcepokioeaaLowKC1
import Derived.Test.YtjblhcepokioeaaLowKC2
import Derived.Test.YtjblhcepokioeaaLowKC3
import Derived.Test.YtjblhcepokioeaaLowKC4
import Derived.Test.YtjblhcepokioeaaLowKC5
namespace Go.Sy
theorem F4000 (xs : List Arg) : Fs.F 4000 xs = [⟨1, fun _ => 1⟩] := by kernel_rfl
theorem F4001 (xs : List Arg) : Fs.F 4001 xs = [⟨1, fun _ => 1⟩] := by kernel_rfl
theorem F4002 (xs : List Arg) : Fs.F 4002 xs = [⟨1, fun _ => 1⟩] := by kernel_rfl
theorem F4003 (xs : List Arg) : Fs.F 4003 xs = [⟨1, fun _ => 1⟩] := by kernel_rfl
theorem F4004 (xs : List Arg) : Fs.F 4004 xs = [⟨1, fun _ => 1⟩] := by kernel_rfl
theorem F4005 (xs : List Arg) : Fs.F 4005 xs = [⟨1, fun _ => 1⟩] := by kernel_rfl
theorem F4006 (xs : List Arg) : Fs.F 4006 xs = [⟨1, fun _ => 1⟩] := by kernel_rfl
theorem F4007 (xs : List Arg) : Fs.F 4007 xs = [⟨1, fun _ => 1⟩] := by kernel_rfl
theorem F4008 (xs : List Arg) : Fs.F 4008 xs = [⟨1, fun _ => 1⟩] := by kernel_rfl
theorem F4099 (xs : List Arg) : Fs.F 4099 xs = [⟨1, fun _ => 1⟩] := by kernel_rfl
theorem at_eq {k : Nat} {c : Te} (h : table[k]? = some c) : table.take k ++ c :: table.drop (k + 1) = table := by
  obtain ⟨hk, e⟩ := List.getElem?_eq_some_iff.1 h
  rw [← e, ← List.drop_eq_getElem_cons hk, List.take_append_drop]
theorem F_eq : Fs.F = mkG table := by kernel_rfl
theorem F_at {k : Nat} {c : Te} (h : table[k]? = some c) : Fs.F = mkG (table.take k ++ c :: table.drop (k + 1)) := by rw [at_eq h]; exact F_eq
theorem ok_at {k : Nat} {c : Te} (h : table[k]? = some c) : okG (table.take k ++ c :: table.drop (k + 1)) = true := by rw [at_eq h]; exact okT
theorem pf_at {P : Program} {cf : Cf} (hcf : CfOk P cf) {fuel : Nat} {c : Pf} {ds : List Df} {ls : List T} (h : chkPf P cf fuel c ds ls = true) (k : Nat) (hk : table[k]? = some (.card ⟨c.g, c.n, ds, ls⟩)) : PfOk P c := cardG_ok hcf h _ _ (F_at hk) (ok_at hk)
theorem mf_at {P : Program} {cf : Cf} (hcf : CfOk P cf) {fuel : Nat} {c : Mf} {ds : List Df} {ls : List T} (h : chkMf P cf fuel c ds ls = true) (k : Nat) (hk : table[k]? = some (.card ⟨c.id, c.n, ds, ls⟩)) : MfOk P c := cardMG_ok hcf h _ _ (F_at hk) (ok_at hk)
theorem ok19 : PfOk Go.Proofs.Try.prog p19 := pf_at (cfL_ok (P := Go.Proofs.Try.prog) (l := []) (lm := []) (ll := []) trivial trivial trivial) chk19 28 (by kernel_rfl)
theorem ok88 : PfOk Go.Proofs.Try.prog p88 := pf_at (cfL_ok (P := Go.Proofs.Try.prog) (l := []) (lm := []) (ll := []) trivial trivial trivial) chk88 27 (by kernel_rfl)
theorem ok27 : PfOk Go.Proofs.Try.prog p27 := pf_at (cfL_ok (P := Go.Proofs.Try.prog) (l := []) (lm := []) (ll := []) trivial trivial trivial) chk27 26 (by kernel_rfl)
theorem ok87 : PfOk Go.Proofs.Try.prog p87 := pf_at (cfL_ok (P := Go.Proofs.Try.prog) (l := []) (lm := []) (ll := []) trivial trivial trivial) chk87 25 (by kernel_rfl)
theorem ok1003 : MfOk Go.Proofs.Try.prog p1003 := mf_at (cfL_ok (P := Go.Proofs.Try.prog) (l := [p19]) (lm := []) (ll := []) ⟨ok19, trivial⟩ trivial trivial) chk1003 24 (by kernel_rfl)
theorem ok1001 : MfOk Go.Proofs.Try.prog p1001 := mf_at (cfL_ok (P := Go.Proofs.Try.prog) (l := [p19]) (lm := []) (ll := []) ⟨ok19, trivial⟩ trivial trivial) chk1001 23 (by kernel_rfl)
theorem ok7003 : MfOk Go.Proofs.Try.prog p7003 := mf_at (cfL_ok (P := Go.Proofs.Try.prog) (l := [p88, p27]) (lm := [p1003]) (ll := []) ⟨ok88, ok27, trivial⟩ ⟨ok1003, trivial⟩ trivial) chk7003 22 (by kernel_rfl)
theorem ok49 : PfOk Go.Proofs.Try.prog p49 := pf_at (cfL_ok (P := Go.Proofs.Try.prog) (l := []) (lm := []) (ll := []) trivial trivial trivial) chk49 21 (by kernel_rfl)
theorem ok86 : PfOk Go.Proofs.Try.prog p86 := pf_at (cfL_ok (P := Go.Proofs.Try.prog) (l := [p88]) (lm := []) (ll := []) ⟨ok88, trivial⟩ trivial trivial) chk86 20 (by kernel_rfl)
theorem ok56 : PfOk Go.Proofs.Try.prog p56 := pf_at (cfL_ok (P := Go.Proofs.Try.prog) (l := [p88]) (lm := []) (ll := []) ⟨ok88, trivial⟩ trivial trivial) chk56 19 (by kernel_rfl)
theorem ok72 : PfOk Go.Proofs.Try.prog p72 := pf_at (cfL_ok (P := Go.Proofs.Try.prog) (l := [p86]) (lm := []) (ll := []) ⟨ok86, trivial⟩ trivial trivial) chk72 18 (by kernel_rfl)
theorem ok26 : PfOk Go.Proofs.Try.prog p26 := pf_at (cfL_ok (P := Go.Proofs.Try.prog) (l := [p56]) (lm := []) (ll := []) ⟨ok56, trivial⟩ trivial trivial) chk26 17 (by kernel_rfl)
theorem ok73 : PfOk Go.Proofs.Try.prog p73 := pf_at (cfL_ok (P := Go.Proofs.Try.prog) (l := [p87, p88, p26]) (lm := []) (ll := []) ⟨ok87, ok88, ok26, trivial⟩ trivial trivial) chk73 16 (by kernel_rfl)
theorem ok71 : PfOk Go.Proofs.Try.prog p71 := pf_at (cfL_ok (P := Go.Proofs.Try.prog) (l := [p49]) (lm := []) (ll := []) ⟨ok49, trivial⟩ trivial trivial) chk71 15 (by kernel_rfl)
theorem ok50 : PfOk Go.Proofs.Try.prog p50 := pf_at (cfL_ok (P := Go.Proofs.Try.prog) (l := [p71, p72, p73]) (lm := []) (ll := []) ⟨ok71, ok72, ok73, trivial⟩ trivial trivial) chk50 14 (by kernel_rfl)
theorem F5 (xs : List Arg) : Fs.F 5 xs = [⟨1, fun _ => 1⟩] := by kernel_rfl
theorem plain5 (E : Env) (_ : E.F = Fs.F) (_ : ∀ d ∈ d5, d.ok E) : t5.den E = 1 := rfl
theorem ok5 : PfOk Go.Proofs.Try.prog p5 := by
  have h := law_okF (cfL_ok (P := Go.Proofs.Try.prog) (l := [p88, p27, p19, p49, p50]) (lm := [p1003, p7003]) (ll := []) ⟨ok88, ok27, ok19, ok49, ok50, trivial⟩ ⟨ok1003, ok7003, trivial⟩ trivial) chk5 rfl rfl rfl F5 plain5
  exact true_ok h.1 fun w => h.2 (E := ⟨fun _ => default, Fs.F⟩) rfl (ρ := fun _ => default) (N := 0) (args := #[]) (fun _ h => nomatch h) F2.nil w
theorem ok7201 : MfOk Go.Proofs.Try.prog p7201 := mf_at (cfL_ok (P := Go.Proofs.Try.prog) (l := [p88, p27]) (lm := [p1001]) (ll := []) ⟨ok88, ok27, trivial⟩ ⟨ok1001, trivial⟩ trivial) chk7201 12 (by kernel_rfl)
theorem ok4901 : MfOk Go.Proofs.Try.prog p4901 := mf_at (cfL_ok (P := Go.Proofs.Try.prog) (l := []) (lm := []) (ll := []) trivial trivial trivial) chk4901 11 (by kernel_rfl)
theorem ok5001 : MfOk Go.Proofs.Try.prog p5001 := mf_at (cfL_ok (P := Go.Proofs.Try.prog) (l := [p87, p88]) (lm := []) (ll := []) ⟨ok87, ok88, trivial⟩ trivial trivial) chk5001 10 (by kernel_rfl)
theorem plain4000 (E : Env) (_ : E.F = Fs.F) (_ : ∀ d ∈ d4000, d.ok E) : t4000.den E = 1 := rfl
theorem law4000 (E : Env) (ρ : Nat → Rb) (args : Array Value) (w : World) (hE : E.F = Fs.F) (hp : pcOk E q4000.pre) (ha : F2 (Ar E ρ q4000.blks.length) q4000.args args) (hb : InB E ρ q4000.blks w) : Calls Go.Proofs.Try.prog 4 args w fun e w' => e = .returned (.bool true) ∧ RowKit.Below w.heap.size w w' :=
  (law_okM (c := q4000) (cfL_ok (P := Go.Proofs.Try.prog) (l := [p5]) (lm := [p7201, p4901, p5001]) (ll := []) ⟨ok5, trivial⟩ ⟨ok7201, ok4901, ok5001, trivial⟩ trivial) chk4000 (lo := 0) (hi := 1) rfl (by decide) (by decide) rfl rfl F4000 plain4000).2 E ρ args w hE hp ha hb
theorem plain4001 (E : Env) (_ : E.F = Fs.F) (_ : ∀ d ∈ d4001, d.ok E) : t4001.den E = 1 := rfl
theorem law4001 (E : Env) (ρ : Nat → Rb) (args : Array Value) (w : World) (hE : E.F = Fs.F) (hp : pcOk E q4001.pre) (ha : F2 (Ar E ρ q4001.blks.length) q4001.args args) (hb : InB E ρ q4001.blks w) : Calls Go.Proofs.Try.prog 4 args w fun e w' => e = .returned (.bool true) ∧ RowKit.Below w.heap.size w w' :=
  (law_okM (c := q4001) (cfL_ok (P := Go.Proofs.Try.prog) (l := [p5]) (lm := [p7201, p4901, p5001]) (ll := []) ⟨ok5, trivial⟩ ⟨ok7201, ok4901, ok5001, trivial⟩ trivial) chk4001 (lo := 0) (hi := 1) rfl (by decide) (by decide) rfl rfl F4001 plain4001).2 E ρ args w hE hp ha hb
theorem plain4002 (E : Env) (_ : E.F = Fs.F) (_ : ∀ d ∈ d4002, d.ok E) : t4002.den E = 1 := rfl
theorem law4002 (E : Env) (ρ : Nat → Rb) (args : Array Value) (w : World) (hE : E.F = Fs.F) (hp : pcOk E q4002.pre) (ha : F2 (Ar E ρ q4002.blks.length) q4002.args args) (hb : InB E ρ q4002.blks w) : Calls Go.Proofs.Try.prog 4 args w fun e w' => e = .returned (.bool true) ∧ RowKit.Below w.heap.size w w' :=
  (law_okM (c := q4002) (cfL_ok (P := Go.Proofs.Try.prog) (l := [p5]) (lm := [p7201, p4901, p5001]) (ll := []) ⟨ok5, trivial⟩ ⟨ok7201, ok4901, ok5001, trivial⟩ trivial) chk4002 (lo := 0) (hi := 1) rfl (by decide) (by decide) rfl rfl F4002 plain4002).2 E ρ args w hE hp ha hb
theorem plain4003 (E : Env) (_ : E.F = Fs.F) (_ : ∀ d ∈ d4003, d.ok E) : t4003.den E = 1 := rfl
theorem law4003 (E : Env) (ρ : Nat → Rb) (args : Array Value) (w : World) (hE : E.F = Fs.F) (hp : pcOk E q4003.pre) (ha : F2 (Ar E ρ q4003.blks.length) q4003.args args) (hb : InB E ρ q4003.blks w) : Calls Go.Proofs.Try.prog 4 args w fun e w' => e = .returned (.bool true) ∧ RowKit.Below w.heap.size w w' :=
  (law_okM (c := q4003) (cfL_ok (P := Go.Proofs.Try.prog) (l := [p5]) (lm := [p7201, p4901, p5001]) (ll := []) ⟨ok5, trivial⟩ ⟨ok7201, ok4901, ok5001, trivial⟩ trivial) chk4003 (lo := 0) (hi := 1) rfl (by decide) (by decide) rfl rfl F4003 plain4003).2 E ρ args w hE hp ha hb
theorem plain4004 (E : Env) (_ : E.F = Fs.F) (_ : ∀ d ∈ d4004, d.ok E) : t4004.den E = 1 := rfl
theorem law4004 (E : Env) (ρ : Nat → Rb) (args : Array Value) (w : World) (hE : E.F = Fs.F) (hp : pcOk E q4004.pre) (ha : F2 (Ar E ρ q4004.blks.length) q4004.args args) (hb : InB E ρ q4004.blks w) : Calls Go.Proofs.Try.prog 4 args w fun e w' => e = .returned (.bool true) ∧ RowKit.Below w.heap.size w w' :=
  (law_okM (c := q4004) (cfL_ok (P := Go.Proofs.Try.prog) (l := [p5]) (lm := [p7201, p4901, p5001]) (ll := []) ⟨ok5, trivial⟩ ⟨ok7201, ok4901, ok5001, trivial⟩ trivial) chk4004 (lo := 0) (hi := 1) rfl (by decide) (by decide) rfl rfl F4004 plain4004).2 E ρ args w hE hp ha hb
theorem plain4005 (E : Env) (_ : E.F = Fs.F) (_ : ∀ d ∈ d4005, d.ok E) : t4005.den E = 1 := rfl
theorem law4005 (E : Env) (ρ : Nat → Rb) (args : Array Value) (w : World) (hE : E.F = Fs.F) (hp : pcOk E q4005.pre) (ha : F2 (Ar E ρ q4005.blks.length) q4005.args args) (hb : InB E ρ q4005.blks w) : Calls Go.Proofs.Try.prog 4 args w fun e w' => e = .returned (.bool true) ∧ RowKit.Below w.heap.size w w' :=
  (law_okM (c := q4005) (cfL_ok (P := Go.Proofs.Try.prog) (l := [p5]) (lm := [p7201, p4901, p5001]) (ll := []) ⟨ok5, trivial⟩ ⟨ok7201, ok4901, ok5001, trivial⟩ trivial) chk4005 (lo := 0) (hi := 1) rfl (by decide) (by decide) rfl rfl F4005 plain4005).2 E ρ args w hE hp ha hb
theorem plain4006 (E : Env) (_ : E.F = Fs.F) (_ : ∀ d ∈ d4006, d.ok E) : t4006.den E = 1 := rfl
theorem law4006 (E : Env) (ρ : Nat → Rb) (args : Array Value) (w : World) (hE : E.F = Fs.F) (hp : pcOk E q4006.pre) (ha : F2 (Ar E ρ q4006.blks.length) q4006.args args) (hb : InB E ρ q4006.blks w) : Calls Go.Proofs.Try.prog 4 args w fun e w' => e = .returned (.bool true) ∧ RowKit.Below w.heap.size w w' :=
  (law_okM (c := q4006) (cfL_ok (P := Go.Proofs.Try.prog) (l := [p5]) (lm := [p7201, p4901, p5001]) (ll := []) ⟨ok5, trivial⟩ ⟨ok7201, ok4901, ok5001, trivial⟩ trivial) chk4006 (lo := 0) (hi := 1) rfl (by decide) (by decide) rfl rfl F4006 plain4006).2 E ρ args w hE hp ha hb
theorem plain4007 (E : Env) (_ : E.F = Fs.F) (_ : ∀ d ∈ d4007, d.ok E) : t4007.den E = 1 := rfl
theorem law4007 (E : Env) (ρ : Nat → Rb) (args : Array Value) (w : World) (hE : E.F = Fs.F) (hp : pcOk E q4007.pre) (ha : F2 (Ar E ρ q4007.blks.length) q4007.args args) (hb : InB E ρ q4007.blks w) : Calls Go.Proofs.Try.prog 4 args w fun e w' => e = .returned (.bool true) ∧ RowKit.Below w.heap.size w w' :=
  (law_okM (c := q4007) (cfL_ok (P := Go.Proofs.Try.prog) (l := [p5]) (lm := [p7201, p4901, p5001]) (ll := []) ⟨ok5, trivial⟩ ⟨ok7201, ok4901, ok5001, trivial⟩ trivial) chk4007 (lo := 0) (hi := 1) rfl (by decide) (by decide) rfl rfl F4007 plain4007).2 E ρ args w hE hp ha hb
theorem plain4008 (E : Env) (_ : E.F = Fs.F) (_ : ∀ d ∈ d4008, d.ok E) : t4008.den E = 1 := rfl
theorem law4008 (E : Env) (ρ : Nat → Rb) (args : Array Value) (w : World) (hE : E.F = Fs.F) (hp : pcOk E q4008.pre) (ha : F2 (Ar E ρ q4008.blks.length) q4008.args args) (hb : InB E ρ q4008.blks w) : Calls Go.Proofs.Try.prog 4 args w fun e w' => e = .returned (.bool true) ∧ RowKit.Below w.heap.size w w' :=
  (law_okM (c := q4008) (cfL_ok (P := Go.Proofs.Try.prog) (l := [p5]) (lm := [p7201, p4901, p5001]) (ll := []) ⟨ok5, trivial⟩ ⟨ok7201, ok4901, ok5001, trivial⟩ trivial) chk4008 (lo := 0) (hi := 1) rfl (by decide) (by decide) rfl rfl F4008 plain4008).2 E ρ args w hE hp ha hb
theorem plain4099 (E : Env) (_ : E.F = Fs.F) (_ : ∀ d ∈ d4099, d.ok E) : t4099.den E = 1 := rfl
theorem law4099 (E : Env) (ρ : Nat → Rb) (args : Array Value) (w : World) (hE : E.F = Fs.F) (hp : pcOk E q4099.pre) (ha : F2 (Ar E ρ q4099.blks.length) q4099.args args) (hb : InB E ρ q4099.blks w) : Calls Go.Proofs.Try.prog 4 args w fun e w' => e = .returned (.bool true) ∧ RowKit.Below w.heap.size w w' :=
  (law_okM (c := q4099) (cfL_ok (P := Go.Proofs.Try.prog) (l := [p5]) (lm := []) (ll := []) ⟨ok5, trivial⟩ trivial trivial) chk4099 (lo := 0) (hi := 1) rfl (by decide) (by decide) rfl rfl F4099 plain4099).2 E ρ args w hE hp ha hb
end Go.Sy
