/- Functions, each told by its own run; and what follows from what they tell. -/
import Derived.KernelRfl
import Derived.Test.YtpjmhngcdbpmpaaEncPC1
import Derived.Test.YtpjmhngcdbpmpaaEncPC2
import Derived.Test.YtpjmhngcdbpmpaaEncPC3
import Derived.Test.YtpjmhngcdbpmpaaEncPC4
import Derived.Test.YtpjmhngcdbpmpaaEncPC5
import Derived.Test.YtpjmhngcdbpmpaaEncPC6
namespace Go.Sy
theorem F7 (xs : List Arg) : Fs.F 7 xs = [⟨1, fun _ => 1⟩] := by kernel_rfl
theorem at_eq {k : Nat} {c : Te} (h : table[k]? = some c) : table.take k ++ c :: table.drop (k + 1) = table := by
  obtain ⟨hk, e⟩ := List.getElem?_eq_some_iff.1 h
  rw [← e, ← List.drop_eq_getElem_cons hk, List.take_append_drop]
theorem F_eq : Fs.F = mkG table := by kernel_rfl
theorem F_at {k : Nat} {c : Te} (h : table[k]? = some c) : Fs.F = mkG (table.take k ++ c :: table.drop (k + 1)) := by rw [at_eq h]; exact F_eq
theorem ok_at {k : Nat} {c : Te} (h : table[k]? = some c) : okG (table.take k ++ c :: table.drop (k + 1)) = true := by rw [at_eq h]; exact okT
theorem pf_at {P : Program} {cf : Cf} (hcf : CfOk P cf) {fuel : Nat} {c : Pf} {ds : List Df} {ls : List T} (h : chkPf P cf fuel c ds ls = true) (k : Nat) (hk : table[k]? = some (.card ⟨c.g, c.n, ds, ls⟩)) : PfOk P c := cardG_ok hcf h _ _ (F_at hk) (ok_at hk)
theorem mf_at {P : Program} {cf : Cf} (hcf : CfOk P cf) {fuel : Nat} {c : Mf} {ds : List Df} {ls : List T} (h : chkMf P cf fuel c ds ls = true) (k : Nat) (hk : table[k]? = some (.card ⟨c.id, c.n, ds, ls⟩)) : MfOk P c := cardMG_ok hcf h _ _ (F_at hk) (ok_at hk)
theorem ok9001 : MfOk Go.Proofs.Try.prog p9001 := mf_at (cfL_ok (P := Go.Proofs.Try.prog) (l := []) (lm := []) (ll := []) trivial trivial trivial) chk9001 57 (by kernel_rfl)
theorem ok9002 : MfOk Go.Proofs.Try.prog p9002 := mf_at (cfL_ok (P := Go.Proofs.Try.prog) (l := []) (lm := []) (ll := []) trivial trivial trivial) chk9002 56 (by kernel_rfl)
theorem ok9011 : MfOk Go.Proofs.Try.prog p9011 := mf_at (cfL_ok (P := Go.Proofs.Try.prog) (l := []) (lm := []) (ll := []) trivial trivial trivial) chk9011 55 (by kernel_rfl)
theorem ok9012 : MfOk Go.Proofs.Try.prog p9012 := mf_at (cfL_ok (P := Go.Proofs.Try.prog) (l := []) (lm := []) (ll := []) trivial trivial trivial) chk9012 54 (by kernel_rfl)
theorem ok9013 : MfOk Go.Proofs.Try.prog p9013 := mf_at (cfL_ok (P := Go.Proofs.Try.prog) (l := []) (lm := []) (ll := []) trivial trivial trivial) chk9013 53 (by kernel_rfl)
theorem ok9014 : MfOk Go.Proofs.Try.prog p9014 := mf_at (cfL_ok (P := Go.Proofs.Try.prog) (l := []) (lm := []) (ll := []) trivial trivial trivial) chk9014 52 (by kernel_rfl)
theorem F8 (xs : List Arg) : Fs.F 8 xs = [⟨1, fun _ => 1⟩] := by kernel_rfl
theorem plain8 (E : Env) (_ : E.F = Fs.F) (_ : ∀ d ∈ d8, d.ok E) : t8.den E = 1 := rfl
theorem ok8 : PfOk Go.Proofs.Try.prog p8 := by
  have h := law_okF (cfL_ok (P := Go.Proofs.Try.prog) (l := []) (lm := [p9001, p9002, p9011, p9012, p9013, p9014]) (ll := []) trivial ⟨ok9001, ok9002, ok9011, ok9012, ok9013, ok9014, trivial⟩ trivial) chk8 rfl rfl rfl F8 plain8
  exact true_ok h.1 fun w => h.2 (E := ⟨fun _ => default, Fs.F⟩) rfl (ρ := fun _ => default) (N := 0) (args := #[]) (fun _ h => nomatch h) F2.nil w
theorem ok100003 : MfOk Go.Proofs.Try.prog p100003 := mf_at (cfL_ok (P := Go.Proofs.Try.prog) (l := []) (lm := []) (ll := []) trivial trivial trivial) chk100003 50 (by kernel_rfl)
theorem ok101003 : MfOk Go.Proofs.Try.prog p101003 := mf_at (cfL_ok (P := Go.Proofs.Try.prog) (l := []) (lm := []) (ll := []) trivial trivial trivial) chk101003 49 (by kernel_rfl)
theorem ok101013 : MfOk Go.Proofs.Try.prog p101013 := mf_at (cfL_ok (P := Go.Proofs.Try.prog) (l := []) (lm := []) (ll := []) trivial trivial trivial) chk101013 48 (by kernel_rfl)
theorem ok101023 : MfOk Go.Proofs.Try.prog p101023 := mf_at (cfL_ok (P := Go.Proofs.Try.prog) (l := []) (lm := []) (ll := []) trivial trivial trivial) chk101023 47 (by kernel_rfl)
theorem ok101033 : MfOk Go.Proofs.Try.prog p101033 := mf_at (cfL_ok (P := Go.Proofs.Try.prog) (l := []) (lm := []) (ll := []) trivial trivial trivial) chk101033 46 (by kernel_rfl)
theorem ok110000 : MfOk Go.Proofs.Try.prog p110000 := mf_at (cfL_ok (P := Go.Proofs.Try.prog) (l := []) (lm := []) (ll := []) trivial trivial trivial) chk110000 45 (by kernel_rfl)
theorem ok110001 : MfOk Go.Proofs.Try.prog p110001 := mf_at (cfL_ok (P := Go.Proofs.Try.prog) (l := []) (lm := []) (ll := []) trivial trivial trivial) chk110001 44 (by kernel_rfl)
theorem ok110002 : MfOk Go.Proofs.Try.prog p110002 := mf_at (cfL_ok (P := Go.Proofs.Try.prog) (l := []) (lm := []) (ll := []) trivial trivial trivial) chk110002 43 (by kernel_rfl)
theorem ok111000 : MfOk Go.Proofs.Try.prog p111000 := mf_at (cfL_ok (P := Go.Proofs.Try.prog) (l := []) (lm := []) (ll := []) trivial trivial trivial) chk111000 42 (by kernel_rfl)
theorem ok111001 : MfOk Go.Proofs.Try.prog p111001 := mf_at (cfL_ok (P := Go.Proofs.Try.prog) (l := []) (lm := []) (ll := []) trivial trivial trivial) chk111001 41 (by kernel_rfl)
theorem ok111002 : MfOk Go.Proofs.Try.prog p111002 := mf_at (cfL_ok (P := Go.Proofs.Try.prog) (l := []) (lm := []) (ll := []) trivial trivial trivial) chk111002 40 (by kernel_rfl)
theorem ok111010 : MfOk Go.Proofs.Try.prog p111010 := mf_at (cfL_ok (P := Go.Proofs.Try.prog) (l := []) (lm := []) (ll := []) trivial trivial trivial) chk111010 39 (by kernel_rfl)
theorem ok111011 : MfOk Go.Proofs.Try.prog p111011 := mf_at (cfL_ok (P := Go.Proofs.Try.prog) (l := []) (lm := []) (ll := []) trivial trivial trivial) chk111011 38 (by kernel_rfl)
theorem ok111012 : MfOk Go.Proofs.Try.prog p111012 := mf_at (cfL_ok (P := Go.Proofs.Try.prog) (l := []) (lm := []) (ll := []) trivial trivial trivial) chk111012 37 (by kernel_rfl)
theorem ok111020 : MfOk Go.Proofs.Try.prog p111020 := mf_at (cfL_ok (P := Go.Proofs.Try.prog) (l := []) (lm := []) (ll := []) trivial trivial trivial) chk111020 36 (by kernel_rfl)
theorem ok111021 : MfOk Go.Proofs.Try.prog p111021 := mf_at (cfL_ok (P := Go.Proofs.Try.prog) (l := []) (lm := []) (ll := []) trivial trivial trivial) chk111021 35 (by kernel_rfl)
theorem ok111022 : MfOk Go.Proofs.Try.prog p111022 := mf_at (cfL_ok (P := Go.Proofs.Try.prog) (l := []) (lm := []) (ll := []) trivial trivial trivial) chk111022 34 (by kernel_rfl)
theorem ok111030 : MfOk Go.Proofs.Try.prog p111030 := mf_at (cfL_ok (P := Go.Proofs.Try.prog) (l := []) (lm := []) (ll := []) trivial trivial trivial) chk111030 33 (by kernel_rfl)
theorem ok111031 : MfOk Go.Proofs.Try.prog p111031 := mf_at (cfL_ok (P := Go.Proofs.Try.prog) (l := []) (lm := []) (ll := []) trivial trivial trivial) chk111031 32 (by kernel_rfl)
theorem ok111032 : MfOk Go.Proofs.Try.prog p111032 := mf_at (cfL_ok (P := Go.Proofs.Try.prog) (l := []) (lm := []) (ll := []) trivial trivial trivial) chk111032 31 (by kernel_rfl)
theorem ok120000 : MfOk Go.Proofs.Try.prog p120000 := mf_at (cfL_ok (P := Go.Proofs.Try.prog) (l := []) (lm := []) (ll := []) trivial trivial trivial) chk120000 30 (by kernel_rfl)
theorem ok120001 : MfOk Go.Proofs.Try.prog p120001 := mf_at (cfL_ok (P := Go.Proofs.Try.prog) (l := []) (lm := []) (ll := []) trivial trivial trivial) chk120001 29 (by kernel_rfl)
theorem ok120002 : MfOk Go.Proofs.Try.prog p120002 := mf_at (cfL_ok (P := Go.Proofs.Try.prog) (l := []) (lm := []) (ll := []) trivial trivial trivial) chk120002 28 (by kernel_rfl)
theorem ok121000 : MfOk Go.Proofs.Try.prog p121000 := mf_at (cfL_ok (P := Go.Proofs.Try.prog) (l := []) (lm := []) (ll := []) trivial trivial trivial) chk121000 27 (by kernel_rfl)
theorem ok121001 : MfOk Go.Proofs.Try.prog p121001 := mf_at (cfL_ok (P := Go.Proofs.Try.prog) (l := []) (lm := []) (ll := []) trivial trivial trivial) chk121001 26 (by kernel_rfl)
theorem ok121002 : MfOk Go.Proofs.Try.prog p121002 := mf_at (cfL_ok (P := Go.Proofs.Try.prog) (l := []) (lm := []) (ll := []) trivial trivial trivial) chk121002 25 (by kernel_rfl)
theorem ok121010 : MfOk Go.Proofs.Try.prog p121010 := mf_at (cfL_ok (P := Go.Proofs.Try.prog) (l := []) (lm := []) (ll := []) trivial trivial trivial) chk121010 24 (by kernel_rfl)
theorem ok121011 : MfOk Go.Proofs.Try.prog p121011 := mf_at (cfL_ok (P := Go.Proofs.Try.prog) (l := []) (lm := []) (ll := []) trivial trivial trivial) chk121011 23 (by kernel_rfl)
theorem ok121012 : MfOk Go.Proofs.Try.prog p121012 := mf_at (cfL_ok (P := Go.Proofs.Try.prog) (l := []) (lm := []) (ll := []) trivial trivial trivial) chk121012 22 (by kernel_rfl)
theorem ok121020 : MfOk Go.Proofs.Try.prog p121020 := mf_at (cfL_ok (P := Go.Proofs.Try.prog) (l := []) (lm := []) (ll := []) trivial trivial trivial) chk121020 21 (by kernel_rfl)
theorem ok121021 : MfOk Go.Proofs.Try.prog p121021 := mf_at (cfL_ok (P := Go.Proofs.Try.prog) (l := []) (lm := []) (ll := []) trivial trivial trivial) chk121021 20 (by kernel_rfl)
theorem ok121022 : MfOk Go.Proofs.Try.prog p121022 := mf_at (cfL_ok (P := Go.Proofs.Try.prog) (l := []) (lm := []) (ll := []) trivial trivial trivial) chk121022 19 (by kernel_rfl)
theorem ok121030 : MfOk Go.Proofs.Try.prog p121030 := mf_at (cfL_ok (P := Go.Proofs.Try.prog) (l := []) (lm := []) (ll := []) trivial trivial trivial) chk121030 18 (by kernel_rfl)
theorem ok121031 : MfOk Go.Proofs.Try.prog p121031 := mf_at (cfL_ok (P := Go.Proofs.Try.prog) (l := []) (lm := []) (ll := []) trivial trivial trivial) chk121031 17 (by kernel_rfl)
theorem ok121032 : MfOk Go.Proofs.Try.prog p121032 := mf_at (cfL_ok (P := Go.Proofs.Try.prog) (l := []) (lm := []) (ll := []) trivial trivial trivial) chk121032 16 (by kernel_rfl)
theorem ok130000 : MfOk Go.Proofs.Try.prog p130000 := mf_at (cfL_ok (P := Go.Proofs.Try.prog) (l := []) (lm := []) (ll := []) trivial trivial trivial) chk130000 15 (by kernel_rfl)
theorem ok130001 : MfOk Go.Proofs.Try.prog p130001 := mf_at (cfL_ok (P := Go.Proofs.Try.prog) (l := []) (lm := []) (ll := []) trivial trivial trivial) chk130001 14 (by kernel_rfl)
theorem ok130002 : MfOk Go.Proofs.Try.prog p130002 := mf_at (cfL_ok (P := Go.Proofs.Try.prog) (l := []) (lm := []) (ll := []) trivial trivial trivial) chk130002 13 (by kernel_rfl)
theorem ok131000 : MfOk Go.Proofs.Try.prog p131000 := mf_at (cfL_ok (P := Go.Proofs.Try.prog) (l := []) (lm := []) (ll := []) trivial trivial trivial) chk131000 12 (by kernel_rfl)
theorem ok131001 : MfOk Go.Proofs.Try.prog p131001 := mf_at (cfL_ok (P := Go.Proofs.Try.prog) (l := []) (lm := []) (ll := []) trivial trivial trivial) chk131001 11 (by kernel_rfl)
theorem ok131002 : MfOk Go.Proofs.Try.prog p131002 := mf_at (cfL_ok (P := Go.Proofs.Try.prog) (l := []) (lm := []) (ll := []) trivial trivial trivial) chk131002 10 (by kernel_rfl)
theorem ok131010 : MfOk Go.Proofs.Try.prog p131010 := mf_at (cfL_ok (P := Go.Proofs.Try.prog) (l := []) (lm := []) (ll := []) trivial trivial trivial) chk131010 9 (by kernel_rfl)
theorem ok131011 : MfOk Go.Proofs.Try.prog p131011 := mf_at (cfL_ok (P := Go.Proofs.Try.prog) (l := []) (lm := []) (ll := []) trivial trivial trivial) chk131011 8 (by kernel_rfl)
theorem ok131012 : MfOk Go.Proofs.Try.prog p131012 := mf_at (cfL_ok (P := Go.Proofs.Try.prog) (l := []) (lm := []) (ll := []) trivial trivial trivial) chk131012 7 (by kernel_rfl)
theorem ok131020 : MfOk Go.Proofs.Try.prog p131020 := mf_at (cfL_ok (P := Go.Proofs.Try.prog) (l := []) (lm := []) (ll := []) trivial trivial trivial) chk131020 6 (by kernel_rfl)
theorem ok131021 : MfOk Go.Proofs.Try.prog p131021 := mf_at (cfL_ok (P := Go.Proofs.Try.prog) (l := []) (lm := []) (ll := []) trivial trivial trivial) chk131021 5 (by kernel_rfl)
theorem ok131022 : MfOk Go.Proofs.Try.prog p131022 := mf_at (cfL_ok (P := Go.Proofs.Try.prog) (l := []) (lm := []) (ll := []) trivial trivial trivial) chk131022 4 (by kernel_rfl)
theorem ok131030 : MfOk Go.Proofs.Try.prog p131030 := mf_at (cfL_ok (P := Go.Proofs.Try.prog) (l := []) (lm := []) (ll := []) trivial trivial trivial) chk131030 3 (by kernel_rfl)
theorem ok131031 : MfOk Go.Proofs.Try.prog p131031 := mf_at (cfL_ok (P := Go.Proofs.Try.prog) (l := []) (lm := []) (ll := []) trivial trivial trivial) chk131031 2 (by kernel_rfl)
theorem ok131032 : MfOk Go.Proofs.Try.prog p131032 := mf_at (cfL_ok (P := Go.Proofs.Try.prog) (l := []) (lm := []) (ll := []) trivial trivial trivial) chk131032 1 (by kernel_rfl)
theorem plain700000 (E : Env) (_ : E.F = Fs.F) (_ : ∀ d ∈ d700000, d.ok E) : t700000.den E = 1 := rfl
theorem law700000 {E : Env} (hE : E.F = Fs.F) {ρ : Nat → Rb} {N : Nat} {args : Array Value} (hp : pcOk E q700000.pre) (ha : F2 (Ar E ρ N) q700000.args args) (w : World) : Calls Go.Proofs.Try.prog 7 args w fun e w' => e = .returned (.bool true) ∧ RowKit.Below w.heap.size w w' :=
  (law_okF (c := q700000) (cfL_ok (P := Go.Proofs.Try.prog) (l := [p8]) (lm := [p100003]) (ll := []) ⟨ok8, trivial⟩ ⟨ok100003, trivial⟩ trivial) chk700000 rfl rfl rfl F7 plain700000).2 hE hp ha w
theorem plain701000 (E : Env) (_ : E.F = Fs.F) (_ : ∀ d ∈ d701000, d.ok E) : t701000.den E = 1 := rfl
theorem law701000 {E : Env} (hE : E.F = Fs.F) {ρ : Nat → Rb} {N : Nat} {args : Array Value} (hp : pcOk E q701000.pre) (ha : F2 (Ar E ρ N) q701000.args args) (w : World) : Calls Go.Proofs.Try.prog 7 args w fun e w' => e = .returned (.bool true) ∧ RowKit.Below w.heap.size w w' :=
  (law_okF (c := q701000) (cfL_ok (P := Go.Proofs.Try.prog) (l := [p8]) (lm := [p100003]) (ll := []) ⟨ok8, trivial⟩ ⟨ok100003, trivial⟩ trivial) chk701000 rfl rfl rfl F7 plain701000).2 hE hp ha w
theorem plain702000 (E : Env) (_ : E.F = Fs.F) (_ : ∀ d ∈ d702000, d.ok E) : t702000.den E = 1 := rfl
theorem law702000 {E : Env} (hE : E.F = Fs.F) {ρ : Nat → Rb} {N : Nat} {args : Array Value} (hp : pcOk E q702000.pre) (ha : F2 (Ar E ρ N) q702000.args args) (w : World) : Calls Go.Proofs.Try.prog 7 args w fun e w' => e = .returned (.bool true) ∧ RowKit.Below w.heap.size w w' :=
  (law_okF (c := q702000) (cfL_ok (P := Go.Proofs.Try.prog) (l := [p8]) (lm := [p101003]) (ll := []) ⟨ok8, trivial⟩ ⟨ok101003, trivial⟩ trivial) chk702000 rfl rfl rfl F7 plain702000).2 hE hp ha w
theorem plain702010 (E : Env) (_ : E.F = Fs.F) (_ : ∀ d ∈ d702010, d.ok E) : t702010.den E = 1 := rfl
theorem law702010 {E : Env} (hE : E.F = Fs.F) {ρ : Nat → Rb} {N : Nat} {args : Array Value} (hp : pcOk E q702010.pre) (ha : F2 (Ar E ρ N) q702010.args args) (w : World) : Calls Go.Proofs.Try.prog 7 args w fun e w' => e = .returned (.bool true) ∧ RowKit.Below w.heap.size w w' :=
  (law_okF (c := q702010) (cfL_ok (P := Go.Proofs.Try.prog) (l := [p8]) (lm := [p101013]) (ll := []) ⟨ok8, trivial⟩ ⟨ok101013, trivial⟩ trivial) chk702010 rfl rfl rfl F7 plain702010).2 hE hp ha w
theorem plain702020 (E : Env) (_ : E.F = Fs.F) (_ : ∀ d ∈ d702020, d.ok E) : t702020.den E = 1 := rfl
theorem law702020 {E : Env} (hE : E.F = Fs.F) {ρ : Nat → Rb} {N : Nat} {args : Array Value} (hp : pcOk E q702020.pre) (ha : F2 (Ar E ρ N) q702020.args args) (w : World) : Calls Go.Proofs.Try.prog 7 args w fun e w' => e = .returned (.bool true) ∧ RowKit.Below w.heap.size w w' :=
  (law_okF (c := q702020) (cfL_ok (P := Go.Proofs.Try.prog) (l := [p8]) (lm := [p101023]) (ll := []) ⟨ok8, trivial⟩ ⟨ok101023, trivial⟩ trivial) chk702020 rfl rfl rfl F7 plain702020).2 hE hp ha w
theorem plain702030 (E : Env) (_ : E.F = Fs.F) (_ : ∀ d ∈ d702030, d.ok E) : t702030.den E = 1 := rfl
theorem law702030 {E : Env} (hE : E.F = Fs.F) {ρ : Nat → Rb} {N : Nat} {args : Array Value} (hp : pcOk E q702030.pre) (ha : F2 (Ar E ρ N) q702030.args args) (w : World) : Calls Go.Proofs.Try.prog 7 args w fun e w' => e = .returned (.bool true) ∧ RowKit.Below w.heap.size w w' :=
  (law_okF (c := q702030) (cfL_ok (P := Go.Proofs.Try.prog) (l := [p8]) (lm := [p101033]) (ll := []) ⟨ok8, trivial⟩ ⟨ok101033, trivial⟩ trivial) chk702030 rfl rfl rfl F7 plain702030).2 hE hp ha w
theorem plain710000 (E : Env) (_ : E.F = Fs.F) (_ : ∀ d ∈ d710000, d.ok E) : t710000.den E = 1 := rfl
theorem law710000 {E : Env} (hE : E.F = Fs.F) {ρ : Nat → Rb} {N : Nat} {args : Array Value} (hp : pcOk E q710000.pre) (ha : F2 (Ar E ρ N) q710000.args args) (w : World) : Calls Go.Proofs.Try.prog 7 args w fun e w' => e = .returned (.bool true) ∧ RowKit.Below w.heap.size w w' :=
  (law_okF (c := q710000) (cfL_ok (P := Go.Proofs.Try.prog) (l := [p8]) (lm := [p110000]) (ll := []) ⟨ok8, trivial⟩ ⟨ok110000, trivial⟩ trivial) chk710000 rfl rfl rfl F7 plain710000).2 hE hp ha w
theorem plain710001 (E : Env) (_ : E.F = Fs.F) (_ : ∀ d ∈ d710001, d.ok E) : t710001.den E = 1 := rfl
theorem law710001 {E : Env} (hE : E.F = Fs.F) {ρ : Nat → Rb} {N : Nat} {args : Array Value} (hp : pcOk E q710001.pre) (ha : F2 (Ar E ρ N) q710001.args args) (w : World) : Calls Go.Proofs.Try.prog 7 args w fun e w' => e = .returned (.bool true) ∧ RowKit.Below w.heap.size w w' :=
  (law_okF (c := q710001) (cfL_ok (P := Go.Proofs.Try.prog) (l := [p8]) (lm := [p110001]) (ll := []) ⟨ok8, trivial⟩ ⟨ok110001, trivial⟩ trivial) chk710001 rfl rfl rfl F7 plain710001).2 hE hp ha w
theorem plain710002 (E : Env) (_ : E.F = Fs.F) (_ : ∀ d ∈ d710002, d.ok E) : t710002.den E = 1 := rfl
theorem law710002 {E : Env} (hE : E.F = Fs.F) {ρ : Nat → Rb} {N : Nat} {args : Array Value} (hp : pcOk E q710002.pre) (ha : F2 (Ar E ρ N) q710002.args args) (w : World) : Calls Go.Proofs.Try.prog 7 args w fun e w' => e = .returned (.bool true) ∧ RowKit.Below w.heap.size w w' :=
  (law_okF (c := q710002) (cfL_ok (P := Go.Proofs.Try.prog) (l := [p8]) (lm := [p110001]) (ll := []) ⟨ok8, trivial⟩ ⟨ok110001, trivial⟩ trivial) chk710002 rfl rfl rfl F7 plain710002).2 hE hp ha w
theorem plain710003 (E : Env) (_ : E.F = Fs.F) (_ : ∀ d ∈ d710003, d.ok E) : t710003.den E = 1 := rfl
theorem law710003 {E : Env} (hE : E.F = Fs.F) {ρ : Nat → Rb} {N : Nat} {args : Array Value} (hp : pcOk E q710003.pre) (ha : F2 (Ar E ρ N) q710003.args args) (w : World) : Calls Go.Proofs.Try.prog 7 args w fun e w' => e = .returned (.bool true) ∧ RowKit.Below w.heap.size w w' :=
  (law_okF (c := q710003) (cfL_ok (P := Go.Proofs.Try.prog) (l := [p8]) (lm := [p110002]) (ll := []) ⟨ok8, trivial⟩ ⟨ok110002, trivial⟩ trivial) chk710003 rfl rfl rfl F7 plain710003).2 hE hp ha w
theorem plain710004 (E : Env) (_ : E.F = Fs.F) (_ : ∀ d ∈ d710004, d.ok E) : t710004.den E = 1 := rfl
theorem law710004 {E : Env} (hE : E.F = Fs.F) {ρ : Nat → Rb} {N : Nat} {args : Array Value} (hp : pcOk E q710004.pre) (ha : F2 (Ar E ρ N) q710004.args args) (w : World) : Calls Go.Proofs.Try.prog 7 args w fun e w' => e = .returned (.bool true) ∧ RowKit.Below w.heap.size w w' :=
  (law_okF (c := q710004) (cfL_ok (P := Go.Proofs.Try.prog) (l := [p8]) (lm := [p110002]) (ll := []) ⟨ok8, trivial⟩ ⟨ok110002, trivial⟩ trivial) chk710004 rfl rfl rfl F7 plain710004).2 hE hp ha w
theorem plain711000 (E : Env) (_ : E.F = Fs.F) (_ : ∀ d ∈ d711000, d.ok E) : t711000.den E = 1 := rfl
theorem law711000 {E : Env} (hE : E.F = Fs.F) {ρ : Nat → Rb} {N : Nat} {args : Array Value} (hp : pcOk E q711000.pre) (ha : F2 (Ar E ρ N) q711000.args args) (w : World) : Calls Go.Proofs.Try.prog 7 args w fun e w' => e = .returned (.bool true) ∧ RowKit.Below w.heap.size w w' :=
  (law_okF (c := q711000) (cfL_ok (P := Go.Proofs.Try.prog) (l := [p8]) (lm := [p110000]) (ll := []) ⟨ok8, trivial⟩ ⟨ok110000, trivial⟩ trivial) chk711000 rfl rfl rfl F7 plain711000).2 hE hp ha w
theorem plain711001 (E : Env) (_ : E.F = Fs.F) (_ : ∀ d ∈ d711001, d.ok E) : t711001.den E = 1 := rfl
theorem law711001 {E : Env} (hE : E.F = Fs.F) {ρ : Nat → Rb} {N : Nat} {args : Array Value} (hp : pcOk E q711001.pre) (ha : F2 (Ar E ρ N) q711001.args args) (w : World) : Calls Go.Proofs.Try.prog 7 args w fun e w' => e = .returned (.bool true) ∧ RowKit.Below w.heap.size w w' :=
  (law_okF (c := q711001) (cfL_ok (P := Go.Proofs.Try.prog) (l := [p8]) (lm := [p110001]) (ll := []) ⟨ok8, trivial⟩ ⟨ok110001, trivial⟩ trivial) chk711001 rfl rfl rfl F7 plain711001).2 hE hp ha w
theorem plain711002 (E : Env) (_ : E.F = Fs.F) (_ : ∀ d ∈ d711002, d.ok E) : t711002.den E = 1 := rfl
theorem law711002 {E : Env} (hE : E.F = Fs.F) {ρ : Nat → Rb} {N : Nat} {args : Array Value} (hp : pcOk E q711002.pre) (ha : F2 (Ar E ρ N) q711002.args args) (w : World) : Calls Go.Proofs.Try.prog 7 args w fun e w' => e = .returned (.bool true) ∧ RowKit.Below w.heap.size w w' :=
  (law_okF (c := q711002) (cfL_ok (P := Go.Proofs.Try.prog) (l := [p8]) (lm := [p110001]) (ll := []) ⟨ok8, trivial⟩ ⟨ok110001, trivial⟩ trivial) chk711002 rfl rfl rfl F7 plain711002).2 hE hp ha w
theorem plain711003 (E : Env) (_ : E.F = Fs.F) (_ : ∀ d ∈ d711003, d.ok E) : t711003.den E = 1 := rfl
theorem law711003 {E : Env} (hE : E.F = Fs.F) {ρ : Nat → Rb} {N : Nat} {args : Array Value} (hp : pcOk E q711003.pre) (ha : F2 (Ar E ρ N) q711003.args args) (w : World) : Calls Go.Proofs.Try.prog 7 args w fun e w' => e = .returned (.bool true) ∧ RowKit.Below w.heap.size w w' :=
  (law_okF (c := q711003) (cfL_ok (P := Go.Proofs.Try.prog) (l := [p8]) (lm := [p110002]) (ll := []) ⟨ok8, trivial⟩ ⟨ok110002, trivial⟩ trivial) chk711003 rfl rfl rfl F7 plain711003).2 hE hp ha w
theorem plain711004 (E : Env) (_ : E.F = Fs.F) (_ : ∀ d ∈ d711004, d.ok E) : t711004.den E = 1 := rfl
theorem law711004 {E : Env} (hE : E.F = Fs.F) {ρ : Nat → Rb} {N : Nat} {args : Array Value} (hp : pcOk E q711004.pre) (ha : F2 (Ar E ρ N) q711004.args args) (w : World) : Calls Go.Proofs.Try.prog 7 args w fun e w' => e = .returned (.bool true) ∧ RowKit.Below w.heap.size w w' :=
  (law_okF (c := q711004) (cfL_ok (P := Go.Proofs.Try.prog) (l := [p8]) (lm := [p110002]) (ll := []) ⟨ok8, trivial⟩ ⟨ok110002, trivial⟩ trivial) chk711004 rfl rfl rfl F7 plain711004).2 hE hp ha w
theorem plain712000 (E : Env) (_ : E.F = Fs.F) (_ : ∀ d ∈ d712000, d.ok E) : t712000.den E = 1 := rfl
theorem law712000 {E : Env} (hE : E.F = Fs.F) {ρ : Nat → Rb} {N : Nat} {args : Array Value} (hp : pcOk E q712000.pre) (ha : F2 (Ar E ρ N) q712000.args args) (w : World) : Calls Go.Proofs.Try.prog 7 args w fun e w' => e = .returned (.bool true) ∧ RowKit.Below w.heap.size w w' :=
  (law_okF (c := q712000) (cfL_ok (P := Go.Proofs.Try.prog) (l := [p8]) (lm := [p111000]) (ll := []) ⟨ok8, trivial⟩ ⟨ok111000, trivial⟩ trivial) chk712000 rfl rfl rfl F7 plain712000).2 hE hp ha w
theorem plain712001 (E : Env) (_ : E.F = Fs.F) (_ : ∀ d ∈ d712001, d.ok E) : t712001.den E = 1 := rfl
theorem law712001 {E : Env} (hE : E.F = Fs.F) {ρ : Nat → Rb} {N : Nat} {args : Array Value} (hp : pcOk E q712001.pre) (ha : F2 (Ar E ρ N) q712001.args args) (w : World) : Calls Go.Proofs.Try.prog 7 args w fun e w' => e = .returned (.bool true) ∧ RowKit.Below w.heap.size w w' :=
  (law_okF (c := q712001) (cfL_ok (P := Go.Proofs.Try.prog) (l := [p8]) (lm := [p111001]) (ll := []) ⟨ok8, trivial⟩ ⟨ok111001, trivial⟩ trivial) chk712001 rfl rfl rfl F7 plain712001).2 hE hp ha w
theorem plain712002 (E : Env) (_ : E.F = Fs.F) (_ : ∀ d ∈ d712002, d.ok E) : t712002.den E = 1 := rfl
theorem law712002 {E : Env} (hE : E.F = Fs.F) {ρ : Nat → Rb} {N : Nat} {args : Array Value} (hp : pcOk E q712002.pre) (ha : F2 (Ar E ρ N) q712002.args args) (w : World) : Calls Go.Proofs.Try.prog 7 args w fun e w' => e = .returned (.bool true) ∧ RowKit.Below w.heap.size w w' :=
  (law_okF (c := q712002) (cfL_ok (P := Go.Proofs.Try.prog) (l := [p8]) (lm := [p111001]) (ll := []) ⟨ok8, trivial⟩ ⟨ok111001, trivial⟩ trivial) chk712002 rfl rfl rfl F7 plain712002).2 hE hp ha w
theorem plain712003 (E : Env) (_ : E.F = Fs.F) (_ : ∀ d ∈ d712003, d.ok E) : t712003.den E = 1 := rfl
theorem law712003 {E : Env} (hE : E.F = Fs.F) {ρ : Nat → Rb} {N : Nat} {args : Array Value} (hp : pcOk E q712003.pre) (ha : F2 (Ar E ρ N) q712003.args args) (w : World) : Calls Go.Proofs.Try.prog 7 args w fun e w' => e = .returned (.bool true) ∧ RowKit.Below w.heap.size w w' :=
  (law_okF (c := q712003) (cfL_ok (P := Go.Proofs.Try.prog) (l := [p8]) (lm := [p111002]) (ll := []) ⟨ok8, trivial⟩ ⟨ok111002, trivial⟩ trivial) chk712003 rfl rfl rfl F7 plain712003).2 hE hp ha w
theorem plain712004 (E : Env) (_ : E.F = Fs.F) (_ : ∀ d ∈ d712004, d.ok E) : t712004.den E = 1 := rfl
theorem law712004 {E : Env} (hE : E.F = Fs.F) {ρ : Nat → Rb} {N : Nat} {args : Array Value} (hp : pcOk E q712004.pre) (ha : F2 (Ar E ρ N) q712004.args args) (w : World) : Calls Go.Proofs.Try.prog 7 args w fun e w' => e = .returned (.bool true) ∧ RowKit.Below w.heap.size w w' :=
  (law_okF (c := q712004) (cfL_ok (P := Go.Proofs.Try.prog) (l := [p8]) (lm := [p111002]) (ll := []) ⟨ok8, trivial⟩ ⟨ok111002, trivial⟩ trivial) chk712004 rfl rfl rfl F7 plain712004).2 hE hp ha w
theorem plain712010 (E : Env) (_ : E.F = Fs.F) (_ : ∀ d ∈ d712010, d.ok E) : t712010.den E = 1 := rfl
theorem law712010 {E : Env} (hE : E.F = Fs.F) {ρ : Nat → Rb} {N : Nat} {args : Array Value} (hp : pcOk E q712010.pre) (ha : F2 (Ar E ρ N) q712010.args args) (w : World) : Calls Go.Proofs.Try.prog 7 args w fun e w' => e = .returned (.bool true) ∧ RowKit.Below w.heap.size w w' :=
  (law_okF (c := q712010) (cfL_ok (P := Go.Proofs.Try.prog) (l := [p8]) (lm := [p111010]) (ll := []) ⟨ok8, trivial⟩ ⟨ok111010, trivial⟩ trivial) chk712010 rfl rfl rfl F7 plain712010).2 hE hp ha w
theorem plain712011 (E : Env) (_ : E.F = Fs.F) (_ : ∀ d ∈ d712011, d.ok E) : t712011.den E = 1 := rfl
theorem law712011 {E : Env} (hE : E.F = Fs.F) {ρ : Nat → Rb} {N : Nat} {args : Array Value} (hp : pcOk E q712011.pre) (ha : F2 (Ar E ρ N) q712011.args args) (w : World) : Calls Go.Proofs.Try.prog 7 args w fun e w' => e = .returned (.bool true) ∧ RowKit.Below w.heap.size w w' :=
  (law_okF (c := q712011) (cfL_ok (P := Go.Proofs.Try.prog) (l := [p8]) (lm := [p111011]) (ll := []) ⟨ok8, trivial⟩ ⟨ok111011, trivial⟩ trivial) chk712011 rfl rfl rfl F7 plain712011).2 hE hp ha w
theorem plain712012 (E : Env) (_ : E.F = Fs.F) (_ : ∀ d ∈ d712012, d.ok E) : t712012.den E = 1 := rfl
theorem law712012 {E : Env} (hE : E.F = Fs.F) {ρ : Nat → Rb} {N : Nat} {args : Array Value} (hp : pcOk E q712012.pre) (ha : F2 (Ar E ρ N) q712012.args args) (w : World) : Calls Go.Proofs.Try.prog 7 args w fun e w' => e = .returned (.bool true) ∧ RowKit.Below w.heap.size w w' :=
  (law_okF (c := q712012) (cfL_ok (P := Go.Proofs.Try.prog) (l := [p8]) (lm := [p111011]) (ll := []) ⟨ok8, trivial⟩ ⟨ok111011, trivial⟩ trivial) chk712012 rfl rfl rfl F7 plain712012).2 hE hp ha w
theorem plain712013 (E : Env) (_ : E.F = Fs.F) (_ : ∀ d ∈ d712013, d.ok E) : t712013.den E = 1 := rfl
theorem law712013 {E : Env} (hE : E.F = Fs.F) {ρ : Nat → Rb} {N : Nat} {args : Array Value} (hp : pcOk E q712013.pre) (ha : F2 (Ar E ρ N) q712013.args args) (w : World) : Calls Go.Proofs.Try.prog 7 args w fun e w' => e = .returned (.bool true) ∧ RowKit.Below w.heap.size w w' :=
  (law_okF (c := q712013) (cfL_ok (P := Go.Proofs.Try.prog) (l := [p8]) (lm := [p111012]) (ll := []) ⟨ok8, trivial⟩ ⟨ok111012, trivial⟩ trivial) chk712013 rfl rfl rfl F7 plain712013).2 hE hp ha w
theorem plain712014 (E : Env) (_ : E.F = Fs.F) (_ : ∀ d ∈ d712014, d.ok E) : t712014.den E = 1 := rfl
theorem law712014 {E : Env} (hE : E.F = Fs.F) {ρ : Nat → Rb} {N : Nat} {args : Array Value} (hp : pcOk E q712014.pre) (ha : F2 (Ar E ρ N) q712014.args args) (w : World) : Calls Go.Proofs.Try.prog 7 args w fun e w' => e = .returned (.bool true) ∧ RowKit.Below w.heap.size w w' :=
  (law_okF (c := q712014) (cfL_ok (P := Go.Proofs.Try.prog) (l := [p8]) (lm := [p111012]) (ll := []) ⟨ok8, trivial⟩ ⟨ok111012, trivial⟩ trivial) chk712014 rfl rfl rfl F7 plain712014).2 hE hp ha w
theorem plain712020 (E : Env) (_ : E.F = Fs.F) (_ : ∀ d ∈ d712020, d.ok E) : t712020.den E = 1 := rfl
theorem law712020 {E : Env} (hE : E.F = Fs.F) {ρ : Nat → Rb} {N : Nat} {args : Array Value} (hp : pcOk E q712020.pre) (ha : F2 (Ar E ρ N) q712020.args args) (w : World) : Calls Go.Proofs.Try.prog 7 args w fun e w' => e = .returned (.bool true) ∧ RowKit.Below w.heap.size w w' :=
  (law_okF (c := q712020) (cfL_ok (P := Go.Proofs.Try.prog) (l := [p8]) (lm := [p111020]) (ll := []) ⟨ok8, trivial⟩ ⟨ok111020, trivial⟩ trivial) chk712020 rfl rfl rfl F7 plain712020).2 hE hp ha w
theorem plain712021 (E : Env) (_ : E.F = Fs.F) (_ : ∀ d ∈ d712021, d.ok E) : t712021.den E = 1 := rfl
theorem law712021 {E : Env} (hE : E.F = Fs.F) {ρ : Nat → Rb} {N : Nat} {args : Array Value} (hp : pcOk E q712021.pre) (ha : F2 (Ar E ρ N) q712021.args args) (w : World) : Calls Go.Proofs.Try.prog 7 args w fun e w' => e = .returned (.bool true) ∧ RowKit.Below w.heap.size w w' :=
  (law_okF (c := q712021) (cfL_ok (P := Go.Proofs.Try.prog) (l := [p8]) (lm := [p111021]) (ll := []) ⟨ok8, trivial⟩ ⟨ok111021, trivial⟩ trivial) chk712021 rfl rfl rfl F7 plain712021).2 hE hp ha w
theorem plain712022 (E : Env) (_ : E.F = Fs.F) (_ : ∀ d ∈ d712022, d.ok E) : t712022.den E = 1 := rfl
theorem law712022 {E : Env} (hE : E.F = Fs.F) {ρ : Nat → Rb} {N : Nat} {args : Array Value} (hp : pcOk E q712022.pre) (ha : F2 (Ar E ρ N) q712022.args args) (w : World) : Calls Go.Proofs.Try.prog 7 args w fun e w' => e = .returned (.bool true) ∧ RowKit.Below w.heap.size w w' :=
  (law_okF (c := q712022) (cfL_ok (P := Go.Proofs.Try.prog) (l := [p8]) (lm := [p111021]) (ll := []) ⟨ok8, trivial⟩ ⟨ok111021, trivial⟩ trivial) chk712022 rfl rfl rfl F7 plain712022).2 hE hp ha w
theorem plain712023 (E : Env) (_ : E.F = Fs.F) (_ : ∀ d ∈ d712023, d.ok E) : t712023.den E = 1 := rfl
theorem law712023 {E : Env} (hE : E.F = Fs.F) {ρ : Nat → Rb} {N : Nat} {args : Array Value} (hp : pcOk E q712023.pre) (ha : F2 (Ar E ρ N) q712023.args args) (w : World) : Calls Go.Proofs.Try.prog 7 args w fun e w' => e = .returned (.bool true) ∧ RowKit.Below w.heap.size w w' :=
  (law_okF (c := q712023) (cfL_ok (P := Go.Proofs.Try.prog) (l := [p8]) (lm := [p111022]) (ll := []) ⟨ok8, trivial⟩ ⟨ok111022, trivial⟩ trivial) chk712023 rfl rfl rfl F7 plain712023).2 hE hp ha w
theorem plain712024 (E : Env) (_ : E.F = Fs.F) (_ : ∀ d ∈ d712024, d.ok E) : t712024.den E = 1 := rfl
theorem law712024 {E : Env} (hE : E.F = Fs.F) {ρ : Nat → Rb} {N : Nat} {args : Array Value} (hp : pcOk E q712024.pre) (ha : F2 (Ar E ρ N) q712024.args args) (w : World) : Calls Go.Proofs.Try.prog 7 args w fun e w' => e = .returned (.bool true) ∧ RowKit.Below w.heap.size w w' :=
  (law_okF (c := q712024) (cfL_ok (P := Go.Proofs.Try.prog) (l := [p8]) (lm := [p111022]) (ll := []) ⟨ok8, trivial⟩ ⟨ok111022, trivial⟩ trivial) chk712024 rfl rfl rfl F7 plain712024).2 hE hp ha w
theorem plain712030 (E : Env) (_ : E.F = Fs.F) (_ : ∀ d ∈ d712030, d.ok E) : t712030.den E = 1 := rfl
theorem law712030 {E : Env} (hE : E.F = Fs.F) {ρ : Nat → Rb} {N : Nat} {args : Array Value} (hp : pcOk E q712030.pre) (ha : F2 (Ar E ρ N) q712030.args args) (w : World) : Calls Go.Proofs.Try.prog 7 args w fun e w' => e = .returned (.bool true) ∧ RowKit.Below w.heap.size w w' :=
  (law_okF (c := q712030) (cfL_ok (P := Go.Proofs.Try.prog) (l := [p8]) (lm := [p111030]) (ll := []) ⟨ok8, trivial⟩ ⟨ok111030, trivial⟩ trivial) chk712030 rfl rfl rfl F7 plain712030).2 hE hp ha w
theorem plain712031 (E : Env) (_ : E.F = Fs.F) (_ : ∀ d ∈ d712031, d.ok E) : t712031.den E = 1 := rfl
theorem law712031 {E : Env} (hE : E.F = Fs.F) {ρ : Nat → Rb} {N : Nat} {args : Array Value} (hp : pcOk E q712031.pre) (ha : F2 (Ar E ρ N) q712031.args args) (w : World) : Calls Go.Proofs.Try.prog 7 args w fun e w' => e = .returned (.bool true) ∧ RowKit.Below w.heap.size w w' :=
  (law_okF (c := q712031) (cfL_ok (P := Go.Proofs.Try.prog) (l := [p8]) (lm := [p111031]) (ll := []) ⟨ok8, trivial⟩ ⟨ok111031, trivial⟩ trivial) chk712031 rfl rfl rfl F7 plain712031).2 hE hp ha w
theorem plain712032 (E : Env) (_ : E.F = Fs.F) (_ : ∀ d ∈ d712032, d.ok E) : t712032.den E = 1 := rfl
theorem law712032 {E : Env} (hE : E.F = Fs.F) {ρ : Nat → Rb} {N : Nat} {args : Array Value} (hp : pcOk E q712032.pre) (ha : F2 (Ar E ρ N) q712032.args args) (w : World) : Calls Go.Proofs.Try.prog 7 args w fun e w' => e = .returned (.bool true) ∧ RowKit.Below w.heap.size w w' :=
  (law_okF (c := q712032) (cfL_ok (P := Go.Proofs.Try.prog) (l := [p8]) (lm := [p111031]) (ll := []) ⟨ok8, trivial⟩ ⟨ok111031, trivial⟩ trivial) chk712032 rfl rfl rfl F7 plain712032).2 hE hp ha w
theorem plain712033 (E : Env) (_ : E.F = Fs.F) (_ : ∀ d ∈ d712033, d.ok E) : t712033.den E = 1 := rfl
theorem law712033 {E : Env} (hE : E.F = Fs.F) {ρ : Nat → Rb} {N : Nat} {args : Array Value} (hp : pcOk E q712033.pre) (ha : F2 (Ar E ρ N) q712033.args args) (w : World) : Calls Go.Proofs.Try.prog 7 args w fun e w' => e = .returned (.bool true) ∧ RowKit.Below w.heap.size w w' :=
  (law_okF (c := q712033) (cfL_ok (P := Go.Proofs.Try.prog) (l := [p8]) (lm := [p111032]) (ll := []) ⟨ok8, trivial⟩ ⟨ok111032, trivial⟩ trivial) chk712033 rfl rfl rfl F7 plain712033).2 hE hp ha w
theorem plain712034 (E : Env) (_ : E.F = Fs.F) (_ : ∀ d ∈ d712034, d.ok E) : t712034.den E = 1 := rfl
theorem law712034 {E : Env} (hE : E.F = Fs.F) {ρ : Nat → Rb} {N : Nat} {args : Array Value} (hp : pcOk E q712034.pre) (ha : F2 (Ar E ρ N) q712034.args args) (w : World) : Calls Go.Proofs.Try.prog 7 args w fun e w' => e = .returned (.bool true) ∧ RowKit.Below w.heap.size w w' :=
  (law_okF (c := q712034) (cfL_ok (P := Go.Proofs.Try.prog) (l := [p8]) (lm := [p111032]) (ll := []) ⟨ok8, trivial⟩ ⟨ok111032, trivial⟩ trivial) chk712034 rfl rfl rfl F7 plain712034).2 hE hp ha w
theorem plain720000 (E : Env) (_ : E.F = Fs.F) (_ : ∀ d ∈ d720000, d.ok E) : t720000.den E = 1 := rfl
theorem law720000 {E : Env} (hE : E.F = Fs.F) {ρ : Nat → Rb} {N : Nat} {args : Array Value} (hp : pcOk E q720000.pre) (ha : F2 (Ar E ρ N) q720000.args args) (w : World) : Calls Go.Proofs.Try.prog 7 args w fun e w' => e = .returned (.bool true) ∧ RowKit.Below w.heap.size w w' :=
  (law_okF (c := q720000) (cfL_ok (P := Go.Proofs.Try.prog) (l := [p8]) (lm := [p120000]) (ll := []) ⟨ok8, trivial⟩ ⟨ok120000, trivial⟩ trivial) chk720000 rfl rfl rfl F7 plain720000).2 hE hp ha w
theorem plain720001 (E : Env) (_ : E.F = Fs.F) (_ : ∀ d ∈ d720001, d.ok E) : t720001.den E = 1 := rfl
theorem law720001 {E : Env} (hE : E.F = Fs.F) {ρ : Nat → Rb} {N : Nat} {args : Array Value} (hp : pcOk E q720001.pre) (ha : F2 (Ar E ρ N) q720001.args args) (w : World) : Calls Go.Proofs.Try.prog 7 args w fun e w' => e = .returned (.bool true) ∧ RowKit.Below w.heap.size w w' :=
  (law_okF (c := q720001) (cfL_ok (P := Go.Proofs.Try.prog) (l := [p8]) (lm := [p120001]) (ll := []) ⟨ok8, trivial⟩ ⟨ok120001, trivial⟩ trivial) chk720001 rfl rfl rfl F7 plain720001).2 hE hp ha w
theorem plain720002 (E : Env) (_ : E.F = Fs.F) (_ : ∀ d ∈ d720002, d.ok E) : t720002.den E = 1 := rfl
theorem law720002 {E : Env} (hE : E.F = Fs.F) {ρ : Nat → Rb} {N : Nat} {args : Array Value} (hp : pcOk E q720002.pre) (ha : F2 (Ar E ρ N) q720002.args args) (w : World) : Calls Go.Proofs.Try.prog 7 args w fun e w' => e = .returned (.bool true) ∧ RowKit.Below w.heap.size w w' :=
  (law_okF (c := q720002) (cfL_ok (P := Go.Proofs.Try.prog) (l := [p8]) (lm := [p120001]) (ll := []) ⟨ok8, trivial⟩ ⟨ok120001, trivial⟩ trivial) chk720002 rfl rfl rfl F7 plain720002).2 hE hp ha w
theorem plain720003 (E : Env) (_ : E.F = Fs.F) (_ : ∀ d ∈ d720003, d.ok E) : t720003.den E = 1 := rfl
theorem law720003 {E : Env} (hE : E.F = Fs.F) {ρ : Nat → Rb} {N : Nat} {args : Array Value} (hp : pcOk E q720003.pre) (ha : F2 (Ar E ρ N) q720003.args args) (w : World) : Calls Go.Proofs.Try.prog 7 args w fun e w' => e = .returned (.bool true) ∧ RowKit.Below w.heap.size w w' :=
  (law_okF (c := q720003) (cfL_ok (P := Go.Proofs.Try.prog) (l := [p8]) (lm := [p120002]) (ll := []) ⟨ok8, trivial⟩ ⟨ok120002, trivial⟩ trivial) chk720003 rfl rfl rfl F7 plain720003).2 hE hp ha w
theorem plain720004 (E : Env) (_ : E.F = Fs.F) (_ : ∀ d ∈ d720004, d.ok E) : t720004.den E = 1 := rfl
theorem law720004 {E : Env} (hE : E.F = Fs.F) {ρ : Nat → Rb} {N : Nat} {args : Array Value} (hp : pcOk E q720004.pre) (ha : F2 (Ar E ρ N) q720004.args args) (w : World) : Calls Go.Proofs.Try.prog 7 args w fun e w' => e = .returned (.bool true) ∧ RowKit.Below w.heap.size w w' :=
  (law_okF (c := q720004) (cfL_ok (P := Go.Proofs.Try.prog) (l := [p8]) (lm := [p120002]) (ll := []) ⟨ok8, trivial⟩ ⟨ok120002, trivial⟩ trivial) chk720004 rfl rfl rfl F7 plain720004).2 hE hp ha w
theorem plain721000 (E : Env) (_ : E.F = Fs.F) (_ : ∀ d ∈ d721000, d.ok E) : t721000.den E = 1 := rfl
theorem law721000 {E : Env} (hE : E.F = Fs.F) {ρ : Nat → Rb} {N : Nat} {args : Array Value} (hp : pcOk E q721000.pre) (ha : F2 (Ar E ρ N) q721000.args args) (w : World) : Calls Go.Proofs.Try.prog 7 args w fun e w' => e = .returned (.bool true) ∧ RowKit.Below w.heap.size w w' :=
  (law_okF (c := q721000) (cfL_ok (P := Go.Proofs.Try.prog) (l := [p8]) (lm := [p120000]) (ll := []) ⟨ok8, trivial⟩ ⟨ok120000, trivial⟩ trivial) chk721000 rfl rfl rfl F7 plain721000).2 hE hp ha w
theorem plain721001 (E : Env) (_ : E.F = Fs.F) (_ : ∀ d ∈ d721001, d.ok E) : t721001.den E = 1 := rfl
theorem law721001 {E : Env} (hE : E.F = Fs.F) {ρ : Nat → Rb} {N : Nat} {args : Array Value} (hp : pcOk E q721001.pre) (ha : F2 (Ar E ρ N) q721001.args args) (w : World) : Calls Go.Proofs.Try.prog 7 args w fun e w' => e = .returned (.bool true) ∧ RowKit.Below w.heap.size w w' :=
  (law_okF (c := q721001) (cfL_ok (P := Go.Proofs.Try.prog) (l := [p8]) (lm := [p120001]) (ll := []) ⟨ok8, trivial⟩ ⟨ok120001, trivial⟩ trivial) chk721001 rfl rfl rfl F7 plain721001).2 hE hp ha w
theorem plain721002 (E : Env) (_ : E.F = Fs.F) (_ : ∀ d ∈ d721002, d.ok E) : t721002.den E = 1 := rfl
theorem law721002 {E : Env} (hE : E.F = Fs.F) {ρ : Nat → Rb} {N : Nat} {args : Array Value} (hp : pcOk E q721002.pre) (ha : F2 (Ar E ρ N) q721002.args args) (w : World) : Calls Go.Proofs.Try.prog 7 args w fun e w' => e = .returned (.bool true) ∧ RowKit.Below w.heap.size w w' :=
  (law_okF (c := q721002) (cfL_ok (P := Go.Proofs.Try.prog) (l := [p8]) (lm := [p120001]) (ll := []) ⟨ok8, trivial⟩ ⟨ok120001, trivial⟩ trivial) chk721002 rfl rfl rfl F7 plain721002).2 hE hp ha w
theorem plain721003 (E : Env) (_ : E.F = Fs.F) (_ : ∀ d ∈ d721003, d.ok E) : t721003.den E = 1 := rfl
theorem law721003 {E : Env} (hE : E.F = Fs.F) {ρ : Nat → Rb} {N : Nat} {args : Array Value} (hp : pcOk E q721003.pre) (ha : F2 (Ar E ρ N) q721003.args args) (w : World) : Calls Go.Proofs.Try.prog 7 args w fun e w' => e = .returned (.bool true) ∧ RowKit.Below w.heap.size w w' :=
  (law_okF (c := q721003) (cfL_ok (P := Go.Proofs.Try.prog) (l := [p8]) (lm := [p120002]) (ll := []) ⟨ok8, trivial⟩ ⟨ok120002, trivial⟩ trivial) chk721003 rfl rfl rfl F7 plain721003).2 hE hp ha w
theorem plain721004 (E : Env) (_ : E.F = Fs.F) (_ : ∀ d ∈ d721004, d.ok E) : t721004.den E = 1 := rfl
theorem law721004 {E : Env} (hE : E.F = Fs.F) {ρ : Nat → Rb} {N : Nat} {args : Array Value} (hp : pcOk E q721004.pre) (ha : F2 (Ar E ρ N) q721004.args args) (w : World) : Calls Go.Proofs.Try.prog 7 args w fun e w' => e = .returned (.bool true) ∧ RowKit.Below w.heap.size w w' :=
  (law_okF (c := q721004) (cfL_ok (P := Go.Proofs.Try.prog) (l := [p8]) (lm := [p120002]) (ll := []) ⟨ok8, trivial⟩ ⟨ok120002, trivial⟩ trivial) chk721004 rfl rfl rfl F7 plain721004).2 hE hp ha w
theorem plain722000 (E : Env) (_ : E.F = Fs.F) (_ : ∀ d ∈ d722000, d.ok E) : t722000.den E = 1 := rfl
theorem law722000 {E : Env} (hE : E.F = Fs.F) {ρ : Nat → Rb} {N : Nat} {args : Array Value} (hp : pcOk E q722000.pre) (ha : F2 (Ar E ρ N) q722000.args args) (w : World) : Calls Go.Proofs.Try.prog 7 args w fun e w' => e = .returned (.bool true) ∧ RowKit.Below w.heap.size w w' :=
  (law_okF (c := q722000) (cfL_ok (P := Go.Proofs.Try.prog) (l := [p8]) (lm := [p121000]) (ll := []) ⟨ok8, trivial⟩ ⟨ok121000, trivial⟩ trivial) chk722000 rfl rfl rfl F7 plain722000).2 hE hp ha w
theorem plain722001 (E : Env) (_ : E.F = Fs.F) (_ : ∀ d ∈ d722001, d.ok E) : t722001.den E = 1 := rfl
theorem law722001 {E : Env} (hE : E.F = Fs.F) {ρ : Nat → Rb} {N : Nat} {args : Array Value} (hp : pcOk E q722001.pre) (ha : F2 (Ar E ρ N) q722001.args args) (w : World) : Calls Go.Proofs.Try.prog 7 args w fun e w' => e = .returned (.bool true) ∧ RowKit.Below w.heap.size w w' :=
  (law_okF (c := q722001) (cfL_ok (P := Go.Proofs.Try.prog) (l := [p8]) (lm := [p121001]) (ll := []) ⟨ok8, trivial⟩ ⟨ok121001, trivial⟩ trivial) chk722001 rfl rfl rfl F7 plain722001).2 hE hp ha w
theorem plain722002 (E : Env) (_ : E.F = Fs.F) (_ : ∀ d ∈ d722002, d.ok E) : t722002.den E = 1 := rfl
theorem law722002 {E : Env} (hE : E.F = Fs.F) {ρ : Nat → Rb} {N : Nat} {args : Array Value} (hp : pcOk E q722002.pre) (ha : F2 (Ar E ρ N) q722002.args args) (w : World) : Calls Go.Proofs.Try.prog 7 args w fun e w' => e = .returned (.bool true) ∧ RowKit.Below w.heap.size w w' :=
  (law_okF (c := q722002) (cfL_ok (P := Go.Proofs.Try.prog) (l := [p8]) (lm := [p121001]) (ll := []) ⟨ok8, trivial⟩ ⟨ok121001, trivial⟩ trivial) chk722002 rfl rfl rfl F7 plain722002).2 hE hp ha w
theorem plain722003 (E : Env) (_ : E.F = Fs.F) (_ : ∀ d ∈ d722003, d.ok E) : t722003.den E = 1 := rfl
theorem law722003 {E : Env} (hE : E.F = Fs.F) {ρ : Nat → Rb} {N : Nat} {args : Array Value} (hp : pcOk E q722003.pre) (ha : F2 (Ar E ρ N) q722003.args args) (w : World) : Calls Go.Proofs.Try.prog 7 args w fun e w' => e = .returned (.bool true) ∧ RowKit.Below w.heap.size w w' :=
  (law_okF (c := q722003) (cfL_ok (P := Go.Proofs.Try.prog) (l := [p8]) (lm := [p121002]) (ll := []) ⟨ok8, trivial⟩ ⟨ok121002, trivial⟩ trivial) chk722003 rfl rfl rfl F7 plain722003).2 hE hp ha w
theorem plain722004 (E : Env) (_ : E.F = Fs.F) (_ : ∀ d ∈ d722004, d.ok E) : t722004.den E = 1 := rfl
theorem law722004 {E : Env} (hE : E.F = Fs.F) {ρ : Nat → Rb} {N : Nat} {args : Array Value} (hp : pcOk E q722004.pre) (ha : F2 (Ar E ρ N) q722004.args args) (w : World) : Calls Go.Proofs.Try.prog 7 args w fun e w' => e = .returned (.bool true) ∧ RowKit.Below w.heap.size w w' :=
  (law_okF (c := q722004) (cfL_ok (P := Go.Proofs.Try.prog) (l := [p8]) (lm := [p121002]) (ll := []) ⟨ok8, trivial⟩ ⟨ok121002, trivial⟩ trivial) chk722004 rfl rfl rfl F7 plain722004).2 hE hp ha w
theorem plain722010 (E : Env) (_ : E.F = Fs.F) (_ : ∀ d ∈ d722010, d.ok E) : t722010.den E = 1 := rfl
theorem law722010 {E : Env} (hE : E.F = Fs.F) {ρ : Nat → Rb} {N : Nat} {args : Array Value} (hp : pcOk E q722010.pre) (ha : F2 (Ar E ρ N) q722010.args args) (w : World) : Calls Go.Proofs.Try.prog 7 args w fun e w' => e = .returned (.bool true) ∧ RowKit.Below w.heap.size w w' :=
  (law_okF (c := q722010) (cfL_ok (P := Go.Proofs.Try.prog) (l := [p8]) (lm := [p121010]) (ll := []) ⟨ok8, trivial⟩ ⟨ok121010, trivial⟩ trivial) chk722010 rfl rfl rfl F7 plain722010).2 hE hp ha w
theorem plain722011 (E : Env) (_ : E.F = Fs.F) (_ : ∀ d ∈ d722011, d.ok E) : t722011.den E = 1 := rfl
theorem law722011 {E : Env} (hE : E.F = Fs.F) {ρ : Nat → Rb} {N : Nat} {args : Array Value} (hp : pcOk E q722011.pre) (ha : F2 (Ar E ρ N) q722011.args args) (w : World) : Calls Go.Proofs.Try.prog 7 args w fun e w' => e = .returned (.bool true) ∧ RowKit.Below w.heap.size w w' :=
  (law_okF (c := q722011) (cfL_ok (P := Go.Proofs.Try.prog) (l := [p8]) (lm := [p121011]) (ll := []) ⟨ok8, trivial⟩ ⟨ok121011, trivial⟩ trivial) chk722011 rfl rfl rfl F7 plain722011).2 hE hp ha w
theorem plain722012 (E : Env) (_ : E.F = Fs.F) (_ : ∀ d ∈ d722012, d.ok E) : t722012.den E = 1 := rfl
theorem law722012 {E : Env} (hE : E.F = Fs.F) {ρ : Nat → Rb} {N : Nat} {args : Array Value} (hp : pcOk E q722012.pre) (ha : F2 (Ar E ρ N) q722012.args args) (w : World) : Calls Go.Proofs.Try.prog 7 args w fun e w' => e = .returned (.bool true) ∧ RowKit.Below w.heap.size w w' :=
  (law_okF (c := q722012) (cfL_ok (P := Go.Proofs.Try.prog) (l := [p8]) (lm := [p121011]) (ll := []) ⟨ok8, trivial⟩ ⟨ok121011, trivial⟩ trivial) chk722012 rfl rfl rfl F7 plain722012).2 hE hp ha w
theorem plain722013 (E : Env) (_ : E.F = Fs.F) (_ : ∀ d ∈ d722013, d.ok E) : t722013.den E = 1 := rfl
theorem law722013 {E : Env} (hE : E.F = Fs.F) {ρ : Nat → Rb} {N : Nat} {args : Array Value} (hp : pcOk E q722013.pre) (ha : F2 (Ar E ρ N) q722013.args args) (w : World) : Calls Go.Proofs.Try.prog 7 args w fun e w' => e = .returned (.bool true) ∧ RowKit.Below w.heap.size w w' :=
  (law_okF (c := q722013) (cfL_ok (P := Go.Proofs.Try.prog) (l := [p8]) (lm := [p121012]) (ll := []) ⟨ok8, trivial⟩ ⟨ok121012, trivial⟩ trivial) chk722013 rfl rfl rfl F7 plain722013).2 hE hp ha w
theorem plain722014 (E : Env) (_ : E.F = Fs.F) (_ : ∀ d ∈ d722014, d.ok E) : t722014.den E = 1 := rfl
theorem law722014 {E : Env} (hE : E.F = Fs.F) {ρ : Nat → Rb} {N : Nat} {args : Array Value} (hp : pcOk E q722014.pre) (ha : F2 (Ar E ρ N) q722014.args args) (w : World) : Calls Go.Proofs.Try.prog 7 args w fun e w' => e = .returned (.bool true) ∧ RowKit.Below w.heap.size w w' :=
  (law_okF (c := q722014) (cfL_ok (P := Go.Proofs.Try.prog) (l := [p8]) (lm := [p121012]) (ll := []) ⟨ok8, trivial⟩ ⟨ok121012, trivial⟩ trivial) chk722014 rfl rfl rfl F7 plain722014).2 hE hp ha w
theorem plain722020 (E : Env) (_ : E.F = Fs.F) (_ : ∀ d ∈ d722020, d.ok E) : t722020.den E = 1 := rfl
theorem law722020 {E : Env} (hE : E.F = Fs.F) {ρ : Nat → Rb} {N : Nat} {args : Array Value} (hp : pcOk E q722020.pre) (ha : F2 (Ar E ρ N) q722020.args args) (w : World) : Calls Go.Proofs.Try.prog 7 args w fun e w' => e = .returned (.bool true) ∧ RowKit.Below w.heap.size w w' :=
  (law_okF (c := q722020) (cfL_ok (P := Go.Proofs.Try.prog) (l := [p8]) (lm := [p121020]) (ll := []) ⟨ok8, trivial⟩ ⟨ok121020, trivial⟩ trivial) chk722020 rfl rfl rfl F7 plain722020).2 hE hp ha w
theorem plain722021 (E : Env) (_ : E.F = Fs.F) (_ : ∀ d ∈ d722021, d.ok E) : t722021.den E = 1 := rfl
theorem law722021 {E : Env} (hE : E.F = Fs.F) {ρ : Nat → Rb} {N : Nat} {args : Array Value} (hp : pcOk E q722021.pre) (ha : F2 (Ar E ρ N) q722021.args args) (w : World) : Calls Go.Proofs.Try.prog 7 args w fun e w' => e = .returned (.bool true) ∧ RowKit.Below w.heap.size w w' :=
  (law_okF (c := q722021) (cfL_ok (P := Go.Proofs.Try.prog) (l := [p8]) (lm := [p121021]) (ll := []) ⟨ok8, trivial⟩ ⟨ok121021, trivial⟩ trivial) chk722021 rfl rfl rfl F7 plain722021).2 hE hp ha w
theorem plain722022 (E : Env) (_ : E.F = Fs.F) (_ : ∀ d ∈ d722022, d.ok E) : t722022.den E = 1 := rfl
theorem law722022 {E : Env} (hE : E.F = Fs.F) {ρ : Nat → Rb} {N : Nat} {args : Array Value} (hp : pcOk E q722022.pre) (ha : F2 (Ar E ρ N) q722022.args args) (w : World) : Calls Go.Proofs.Try.prog 7 args w fun e w' => e = .returned (.bool true) ∧ RowKit.Below w.heap.size w w' :=
  (law_okF (c := q722022) (cfL_ok (P := Go.Proofs.Try.prog) (l := [p8]) (lm := [p121021]) (ll := []) ⟨ok8, trivial⟩ ⟨ok121021, trivial⟩ trivial) chk722022 rfl rfl rfl F7 plain722022).2 hE hp ha w
theorem plain722023 (E : Env) (_ : E.F = Fs.F) (_ : ∀ d ∈ d722023, d.ok E) : t722023.den E = 1 := rfl
theorem law722023 {E : Env} (hE : E.F = Fs.F) {ρ : Nat → Rb} {N : Nat} {args : Array Value} (hp : pcOk E q722023.pre) (ha : F2 (Ar E ρ N) q722023.args args) (w : World) : Calls Go.Proofs.Try.prog 7 args w fun e w' => e = .returned (.bool true) ∧ RowKit.Below w.heap.size w w' :=
  (law_okF (c := q722023) (cfL_ok (P := Go.Proofs.Try.prog) (l := [p8]) (lm := [p121022]) (ll := []) ⟨ok8, trivial⟩ ⟨ok121022, trivial⟩ trivial) chk722023 rfl rfl rfl F7 plain722023).2 hE hp ha w
theorem plain722024 (E : Env) (_ : E.F = Fs.F) (_ : ∀ d ∈ d722024, d.ok E) : t722024.den E = 1 := rfl
theorem law722024 {E : Env} (hE : E.F = Fs.F) {ρ : Nat → Rb} {N : Nat} {args : Array Value} (hp : pcOk E q722024.pre) (ha : F2 (Ar E ρ N) q722024.args args) (w : World) : Calls Go.Proofs.Try.prog 7 args w fun e w' => e = .returned (.bool true) ∧ RowKit.Below w.heap.size w w' :=
  (law_okF (c := q722024) (cfL_ok (P := Go.Proofs.Try.prog) (l := [p8]) (lm := [p121022]) (ll := []) ⟨ok8, trivial⟩ ⟨ok121022, trivial⟩ trivial) chk722024 rfl rfl rfl F7 plain722024).2 hE hp ha w
theorem plain722030 (E : Env) (_ : E.F = Fs.F) (_ : ∀ d ∈ d722030, d.ok E) : t722030.den E = 1 := rfl
theorem law722030 {E : Env} (hE : E.F = Fs.F) {ρ : Nat → Rb} {N : Nat} {args : Array Value} (hp : pcOk E q722030.pre) (ha : F2 (Ar E ρ N) q722030.args args) (w : World) : Calls Go.Proofs.Try.prog 7 args w fun e w' => e = .returned (.bool true) ∧ RowKit.Below w.heap.size w w' :=
  (law_okF (c := q722030) (cfL_ok (P := Go.Proofs.Try.prog) (l := [p8]) (lm := [p121030]) (ll := []) ⟨ok8, trivial⟩ ⟨ok121030, trivial⟩ trivial) chk722030 rfl rfl rfl F7 plain722030).2 hE hp ha w
theorem plain722031 (E : Env) (_ : E.F = Fs.F) (_ : ∀ d ∈ d722031, d.ok E) : t722031.den E = 1 := rfl
theorem law722031 {E : Env} (hE : E.F = Fs.F) {ρ : Nat → Rb} {N : Nat} {args : Array Value} (hp : pcOk E q722031.pre) (ha : F2 (Ar E ρ N) q722031.args args) (w : World) : Calls Go.Proofs.Try.prog 7 args w fun e w' => e = .returned (.bool true) ∧ RowKit.Below w.heap.size w w' :=
  (law_okF (c := q722031) (cfL_ok (P := Go.Proofs.Try.prog) (l := [p8]) (lm := [p121031]) (ll := []) ⟨ok8, trivial⟩ ⟨ok121031, trivial⟩ trivial) chk722031 rfl rfl rfl F7 plain722031).2 hE hp ha w
theorem plain722032 (E : Env) (_ : E.F = Fs.F) (_ : ∀ d ∈ d722032, d.ok E) : t722032.den E = 1 := rfl
theorem law722032 {E : Env} (hE : E.F = Fs.F) {ρ : Nat → Rb} {N : Nat} {args : Array Value} (hp : pcOk E q722032.pre) (ha : F2 (Ar E ρ N) q722032.args args) (w : World) : Calls Go.Proofs.Try.prog 7 args w fun e w' => e = .returned (.bool true) ∧ RowKit.Below w.heap.size w w' :=
  (law_okF (c := q722032) (cfL_ok (P := Go.Proofs.Try.prog) (l := [p8]) (lm := [p121031]) (ll := []) ⟨ok8, trivial⟩ ⟨ok121031, trivial⟩ trivial) chk722032 rfl rfl rfl F7 plain722032).2 hE hp ha w
theorem plain722033 (E : Env) (_ : E.F = Fs.F) (_ : ∀ d ∈ d722033, d.ok E) : t722033.den E = 1 := rfl
theorem law722033 {E : Env} (hE : E.F = Fs.F) {ρ : Nat → Rb} {N : Nat} {args : Array Value} (hp : pcOk E q722033.pre) (ha : F2 (Ar E ρ N) q722033.args args) (w : World) : Calls Go.Proofs.Try.prog 7 args w fun e w' => e = .returned (.bool true) ∧ RowKit.Below w.heap.size w w' :=
  (law_okF (c := q722033) (cfL_ok (P := Go.Proofs.Try.prog) (l := [p8]) (lm := [p121032]) (ll := []) ⟨ok8, trivial⟩ ⟨ok121032, trivial⟩ trivial) chk722033 rfl rfl rfl F7 plain722033).2 hE hp ha w
theorem plain722034 (E : Env) (_ : E.F = Fs.F) (_ : ∀ d ∈ d722034, d.ok E) : t722034.den E = 1 := rfl
theorem law722034 {E : Env} (hE : E.F = Fs.F) {ρ : Nat → Rb} {N : Nat} {args : Array Value} (hp : pcOk E q722034.pre) (ha : F2 (Ar E ρ N) q722034.args args) (w : World) : Calls Go.Proofs.Try.prog 7 args w fun e w' => e = .returned (.bool true) ∧ RowKit.Below w.heap.size w w' :=
  (law_okF (c := q722034) (cfL_ok (P := Go.Proofs.Try.prog) (l := [p8]) (lm := [p121032]) (ll := []) ⟨ok8, trivial⟩ ⟨ok121032, trivial⟩ trivial) chk722034 rfl rfl rfl F7 plain722034).2 hE hp ha w
theorem plain730000 (E : Env) (_ : E.F = Fs.F) (_ : ∀ d ∈ d730000, d.ok E) : t730000.den E = 1 := rfl
theorem law730000 {E : Env} (hE : E.F = Fs.F) {ρ : Nat → Rb} {N : Nat} {args : Array Value} (hp : pcOk E q730000.pre) (ha : F2 (Ar E ρ N) q730000.args args) (w : World) : Calls Go.Proofs.Try.prog 7 args w fun e w' => e = .returned (.bool true) ∧ RowKit.Below w.heap.size w w' :=
  (law_okF (c := q730000) (cfL_ok (P := Go.Proofs.Try.prog) (l := [p8]) (lm := [p130000]) (ll := []) ⟨ok8, trivial⟩ ⟨ok130000, trivial⟩ trivial) chk730000 rfl rfl rfl F7 plain730000).2 hE hp ha w
theorem plain730001 (E : Env) (_ : E.F = Fs.F) (_ : ∀ d ∈ d730001, d.ok E) : t730001.den E = 1 := rfl
theorem law730001 {E : Env} (hE : E.F = Fs.F) {ρ : Nat → Rb} {N : Nat} {args : Array Value} (hp : pcOk E q730001.pre) (ha : F2 (Ar E ρ N) q730001.args args) (w : World) : Calls Go.Proofs.Try.prog 7 args w fun e w' => e = .returned (.bool true) ∧ RowKit.Below w.heap.size w w' :=
  (law_okF (c := q730001) (cfL_ok (P := Go.Proofs.Try.prog) (l := [p8]) (lm := [p130001]) (ll := []) ⟨ok8, trivial⟩ ⟨ok130001, trivial⟩ trivial) chk730001 rfl rfl rfl F7 plain730001).2 hE hp ha w
theorem plain730002 (E : Env) (_ : E.F = Fs.F) (_ : ∀ d ∈ d730002, d.ok E) : t730002.den E = 1 := rfl
theorem law730002 {E : Env} (hE : E.F = Fs.F) {ρ : Nat → Rb} {N : Nat} {args : Array Value} (hp : pcOk E q730002.pre) (ha : F2 (Ar E ρ N) q730002.args args) (w : World) : Calls Go.Proofs.Try.prog 7 args w fun e w' => e = .returned (.bool true) ∧ RowKit.Below w.heap.size w w' :=
  (law_okF (c := q730002) (cfL_ok (P := Go.Proofs.Try.prog) (l := [p8]) (lm := [p130001]) (ll := []) ⟨ok8, trivial⟩ ⟨ok130001, trivial⟩ trivial) chk730002 rfl rfl rfl F7 plain730002).2 hE hp ha w
theorem plain730003 (E : Env) (_ : E.F = Fs.F) (_ : ∀ d ∈ d730003, d.ok E) : t730003.den E = 1 := rfl
theorem law730003 {E : Env} (hE : E.F = Fs.F) {ρ : Nat → Rb} {N : Nat} {args : Array Value} (hp : pcOk E q730003.pre) (ha : F2 (Ar E ρ N) q730003.args args) (w : World) : Calls Go.Proofs.Try.prog 7 args w fun e w' => e = .returned (.bool true) ∧ RowKit.Below w.heap.size w w' :=
  (law_okF (c := q730003) (cfL_ok (P := Go.Proofs.Try.prog) (l := [p8]) (lm := [p130002]) (ll := []) ⟨ok8, trivial⟩ ⟨ok130002, trivial⟩ trivial) chk730003 rfl rfl rfl F7 plain730003).2 hE hp ha w
theorem plain730004 (E : Env) (_ : E.F = Fs.F) (_ : ∀ d ∈ d730004, d.ok E) : t730004.den E = 1 := rfl
theorem law730004 {E : Env} (hE : E.F = Fs.F) {ρ : Nat → Rb} {N : Nat} {args : Array Value} (hp : pcOk E q730004.pre) (ha : F2 (Ar E ρ N) q730004.args args) (w : World) : Calls Go.Proofs.Try.prog 7 args w fun e w' => e = .returned (.bool true) ∧ RowKit.Below w.heap.size w w' :=
  (law_okF (c := q730004) (cfL_ok (P := Go.Proofs.Try.prog) (l := [p8]) (lm := [p130002]) (ll := []) ⟨ok8, trivial⟩ ⟨ok130002, trivial⟩ trivial) chk730004 rfl rfl rfl F7 plain730004).2 hE hp ha w
theorem plain731000 (E : Env) (_ : E.F = Fs.F) (_ : ∀ d ∈ d731000, d.ok E) : t731000.den E = 1 := rfl
theorem law731000 {E : Env} (hE : E.F = Fs.F) {ρ : Nat → Rb} {N : Nat} {args : Array Value} (hp : pcOk E q731000.pre) (ha : F2 (Ar E ρ N) q731000.args args) (w : World) : Calls Go.Proofs.Try.prog 7 args w fun e w' => e = .returned (.bool true) ∧ RowKit.Below w.heap.size w w' :=
  (law_okF (c := q731000) (cfL_ok (P := Go.Proofs.Try.prog) (l := [p8]) (lm := [p130000]) (ll := []) ⟨ok8, trivial⟩ ⟨ok130000, trivial⟩ trivial) chk731000 rfl rfl rfl F7 plain731000).2 hE hp ha w
theorem plain731001 (E : Env) (_ : E.F = Fs.F) (_ : ∀ d ∈ d731001, d.ok E) : t731001.den E = 1 := rfl
theorem law731001 {E : Env} (hE : E.F = Fs.F) {ρ : Nat → Rb} {N : Nat} {args : Array Value} (hp : pcOk E q731001.pre) (ha : F2 (Ar E ρ N) q731001.args args) (w : World) : Calls Go.Proofs.Try.prog 7 args w fun e w' => e = .returned (.bool true) ∧ RowKit.Below w.heap.size w w' :=
  (law_okF (c := q731001) (cfL_ok (P := Go.Proofs.Try.prog) (l := [p8]) (lm := [p130001]) (ll := []) ⟨ok8, trivial⟩ ⟨ok130001, trivial⟩ trivial) chk731001 rfl rfl rfl F7 plain731001).2 hE hp ha w
theorem plain731002 (E : Env) (_ : E.F = Fs.F) (_ : ∀ d ∈ d731002, d.ok E) : t731002.den E = 1 := rfl
theorem law731002 {E : Env} (hE : E.F = Fs.F) {ρ : Nat → Rb} {N : Nat} {args : Array Value} (hp : pcOk E q731002.pre) (ha : F2 (Ar E ρ N) q731002.args args) (w : World) : Calls Go.Proofs.Try.prog 7 args w fun e w' => e = .returned (.bool true) ∧ RowKit.Below w.heap.size w w' :=
  (law_okF (c := q731002) (cfL_ok (P := Go.Proofs.Try.prog) (l := [p8]) (lm := [p130001]) (ll := []) ⟨ok8, trivial⟩ ⟨ok130001, trivial⟩ trivial) chk731002 rfl rfl rfl F7 plain731002).2 hE hp ha w
theorem plain731003 (E : Env) (_ : E.F = Fs.F) (_ : ∀ d ∈ d731003, d.ok E) : t731003.den E = 1 := rfl
theorem law731003 {E : Env} (hE : E.F = Fs.F) {ρ : Nat → Rb} {N : Nat} {args : Array Value} (hp : pcOk E q731003.pre) (ha : F2 (Ar E ρ N) q731003.args args) (w : World) : Calls Go.Proofs.Try.prog 7 args w fun e w' => e = .returned (.bool true) ∧ RowKit.Below w.heap.size w w' :=
  (law_okF (c := q731003) (cfL_ok (P := Go.Proofs.Try.prog) (l := [p8]) (lm := [p130002]) (ll := []) ⟨ok8, trivial⟩ ⟨ok130002, trivial⟩ trivial) chk731003 rfl rfl rfl F7 plain731003).2 hE hp ha w
theorem plain731004 (E : Env) (_ : E.F = Fs.F) (_ : ∀ d ∈ d731004, d.ok E) : t731004.den E = 1 := rfl
theorem law731004 {E : Env} (hE : E.F = Fs.F) {ρ : Nat → Rb} {N : Nat} {args : Array Value} (hp : pcOk E q731004.pre) (ha : F2 (Ar E ρ N) q731004.args args) (w : World) : Calls Go.Proofs.Try.prog 7 args w fun e w' => e = .returned (.bool true) ∧ RowKit.Below w.heap.size w w' :=
  (law_okF (c := q731004) (cfL_ok (P := Go.Proofs.Try.prog) (l := [p8]) (lm := [p130002]) (ll := []) ⟨ok8, trivial⟩ ⟨ok130002, trivial⟩ trivial) chk731004 rfl rfl rfl F7 plain731004).2 hE hp ha w
theorem plain732000 (E : Env) (_ : E.F = Fs.F) (_ : ∀ d ∈ d732000, d.ok E) : t732000.den E = 1 := rfl
theorem law732000 {E : Env} (hE : E.F = Fs.F) {ρ : Nat → Rb} {N : Nat} {args : Array Value} (hp : pcOk E q732000.pre) (ha : F2 (Ar E ρ N) q732000.args args) (w : World) : Calls Go.Proofs.Try.prog 7 args w fun e w' => e = .returned (.bool true) ∧ RowKit.Below w.heap.size w w' :=
  (law_okF (c := q732000) (cfL_ok (P := Go.Proofs.Try.prog) (l := [p8]) (lm := [p131000]) (ll := []) ⟨ok8, trivial⟩ ⟨ok131000, trivial⟩ trivial) chk732000 rfl rfl rfl F7 plain732000).2 hE hp ha w
theorem plain732001 (E : Env) (_ : E.F = Fs.F) (_ : ∀ d ∈ d732001, d.ok E) : t732001.den E = 1 := rfl
theorem law732001 {E : Env} (hE : E.F = Fs.F) {ρ : Nat → Rb} {N : Nat} {args : Array Value} (hp : pcOk E q732001.pre) (ha : F2 (Ar E ρ N) q732001.args args) (w : World) : Calls Go.Proofs.Try.prog 7 args w fun e w' => e = .returned (.bool true) ∧ RowKit.Below w.heap.size w w' :=
  (law_okF (c := q732001) (cfL_ok (P := Go.Proofs.Try.prog) (l := [p8]) (lm := [p131001]) (ll := []) ⟨ok8, trivial⟩ ⟨ok131001, trivial⟩ trivial) chk732001 rfl rfl rfl F7 plain732001).2 hE hp ha w
theorem plain732002 (E : Env) (_ : E.F = Fs.F) (_ : ∀ d ∈ d732002, d.ok E) : t732002.den E = 1 := rfl
theorem law732002 {E : Env} (hE : E.F = Fs.F) {ρ : Nat → Rb} {N : Nat} {args : Array Value} (hp : pcOk E q732002.pre) (ha : F2 (Ar E ρ N) q732002.args args) (w : World) : Calls Go.Proofs.Try.prog 7 args w fun e w' => e = .returned (.bool true) ∧ RowKit.Below w.heap.size w w' :=
  (law_okF (c := q732002) (cfL_ok (P := Go.Proofs.Try.prog) (l := [p8]) (lm := [p131001]) (ll := []) ⟨ok8, trivial⟩ ⟨ok131001, trivial⟩ trivial) chk732002 rfl rfl rfl F7 plain732002).2 hE hp ha w
theorem plain732003 (E : Env) (_ : E.F = Fs.F) (_ : ∀ d ∈ d732003, d.ok E) : t732003.den E = 1 := rfl
theorem law732003 {E : Env} (hE : E.F = Fs.F) {ρ : Nat → Rb} {N : Nat} {args : Array Value} (hp : pcOk E q732003.pre) (ha : F2 (Ar E ρ N) q732003.args args) (w : World) : Calls Go.Proofs.Try.prog 7 args w fun e w' => e = .returned (.bool true) ∧ RowKit.Below w.heap.size w w' :=
  (law_okF (c := q732003) (cfL_ok (P := Go.Proofs.Try.prog) (l := [p8]) (lm := [p131002]) (ll := []) ⟨ok8, trivial⟩ ⟨ok131002, trivial⟩ trivial) chk732003 rfl rfl rfl F7 plain732003).2 hE hp ha w
theorem plain732004 (E : Env) (_ : E.F = Fs.F) (_ : ∀ d ∈ d732004, d.ok E) : t732004.den E = 1 := rfl
theorem law732004 {E : Env} (hE : E.F = Fs.F) {ρ : Nat → Rb} {N : Nat} {args : Array Value} (hp : pcOk E q732004.pre) (ha : F2 (Ar E ρ N) q732004.args args) (w : World) : Calls Go.Proofs.Try.prog 7 args w fun e w' => e = .returned (.bool true) ∧ RowKit.Below w.heap.size w w' :=
  (law_okF (c := q732004) (cfL_ok (P := Go.Proofs.Try.prog) (l := [p8]) (lm := [p131002]) (ll := []) ⟨ok8, trivial⟩ ⟨ok131002, trivial⟩ trivial) chk732004 rfl rfl rfl F7 plain732004).2 hE hp ha w
theorem plain732010 (E : Env) (_ : E.F = Fs.F) (_ : ∀ d ∈ d732010, d.ok E) : t732010.den E = 1 := rfl
theorem law732010 {E : Env} (hE : E.F = Fs.F) {ρ : Nat → Rb} {N : Nat} {args : Array Value} (hp : pcOk E q732010.pre) (ha : F2 (Ar E ρ N) q732010.args args) (w : World) : Calls Go.Proofs.Try.prog 7 args w fun e w' => e = .returned (.bool true) ∧ RowKit.Below w.heap.size w w' :=
  (law_okF (c := q732010) (cfL_ok (P := Go.Proofs.Try.prog) (l := [p8]) (lm := [p131010]) (ll := []) ⟨ok8, trivial⟩ ⟨ok131010, trivial⟩ trivial) chk732010 rfl rfl rfl F7 plain732010).2 hE hp ha w
theorem plain732011 (E : Env) (_ : E.F = Fs.F) (_ : ∀ d ∈ d732011, d.ok E) : t732011.den E = 1 := rfl
theorem law732011 {E : Env} (hE : E.F = Fs.F) {ρ : Nat → Rb} {N : Nat} {args : Array Value} (hp : pcOk E q732011.pre) (ha : F2 (Ar E ρ N) q732011.args args) (w : World) : Calls Go.Proofs.Try.prog 7 args w fun e w' => e = .returned (.bool true) ∧ RowKit.Below w.heap.size w w' :=
  (law_okF (c := q732011) (cfL_ok (P := Go.Proofs.Try.prog) (l := [p8]) (lm := [p131011]) (ll := []) ⟨ok8, trivial⟩ ⟨ok131011, trivial⟩ trivial) chk732011 rfl rfl rfl F7 plain732011).2 hE hp ha w
theorem plain732012 (E : Env) (_ : E.F = Fs.F) (_ : ∀ d ∈ d732012, d.ok E) : t732012.den E = 1 := rfl
theorem law732012 {E : Env} (hE : E.F = Fs.F) {ρ : Nat → Rb} {N : Nat} {args : Array Value} (hp : pcOk E q732012.pre) (ha : F2 (Ar E ρ N) q732012.args args) (w : World) : Calls Go.Proofs.Try.prog 7 args w fun e w' => e = .returned (.bool true) ∧ RowKit.Below w.heap.size w w' :=
  (law_okF (c := q732012) (cfL_ok (P := Go.Proofs.Try.prog) (l := [p8]) (lm := [p131011]) (ll := []) ⟨ok8, trivial⟩ ⟨ok131011, trivial⟩ trivial) chk732012 rfl rfl rfl F7 plain732012).2 hE hp ha w
theorem plain732013 (E : Env) (_ : E.F = Fs.F) (_ : ∀ d ∈ d732013, d.ok E) : t732013.den E = 1 := rfl
theorem law732013 {E : Env} (hE : E.F = Fs.F) {ρ : Nat → Rb} {N : Nat} {args : Array Value} (hp : pcOk E q732013.pre) (ha : F2 (Ar E ρ N) q732013.args args) (w : World) : Calls Go.Proofs.Try.prog 7 args w fun e w' => e = .returned (.bool true) ∧ RowKit.Below w.heap.size w w' :=
  (law_okF (c := q732013) (cfL_ok (P := Go.Proofs.Try.prog) (l := [p8]) (lm := [p131012]) (ll := []) ⟨ok8, trivial⟩ ⟨ok131012, trivial⟩ trivial) chk732013 rfl rfl rfl F7 plain732013).2 hE hp ha w
theorem plain732014 (E : Env) (_ : E.F = Fs.F) (_ : ∀ d ∈ d732014, d.ok E) : t732014.den E = 1 := rfl
theorem law732014 {E : Env} (hE : E.F = Fs.F) {ρ : Nat → Rb} {N : Nat} {args : Array Value} (hp : pcOk E q732014.pre) (ha : F2 (Ar E ρ N) q732014.args args) (w : World) : Calls Go.Proofs.Try.prog 7 args w fun e w' => e = .returned (.bool true) ∧ RowKit.Below w.heap.size w w' :=
  (law_okF (c := q732014) (cfL_ok (P := Go.Proofs.Try.prog) (l := [p8]) (lm := [p131012]) (ll := []) ⟨ok8, trivial⟩ ⟨ok131012, trivial⟩ trivial) chk732014 rfl rfl rfl F7 plain732014).2 hE hp ha w
theorem plain732020 (E : Env) (_ : E.F = Fs.F) (_ : ∀ d ∈ d732020, d.ok E) : t732020.den E = 1 := rfl
theorem law732020 {E : Env} (hE : E.F = Fs.F) {ρ : Nat → Rb} {N : Nat} {args : Array Value} (hp : pcOk E q732020.pre) (ha : F2 (Ar E ρ N) q732020.args args) (w : World) : Calls Go.Proofs.Try.prog 7 args w fun e w' => e = .returned (.bool true) ∧ RowKit.Below w.heap.size w w' :=
  (law_okF (c := q732020) (cfL_ok (P := Go.Proofs.Try.prog) (l := [p8]) (lm := [p131020]) (ll := []) ⟨ok8, trivial⟩ ⟨ok131020, trivial⟩ trivial) chk732020 rfl rfl rfl F7 plain732020).2 hE hp ha w
theorem plain732021 (E : Env) (_ : E.F = Fs.F) (_ : ∀ d ∈ d732021, d.ok E) : t732021.den E = 1 := rfl
theorem law732021 {E : Env} (hE : E.F = Fs.F) {ρ : Nat → Rb} {N : Nat} {args : Array Value} (hp : pcOk E q732021.pre) (ha : F2 (Ar E ρ N) q732021.args args) (w : World) : Calls Go.Proofs.Try.prog 7 args w fun e w' => e = .returned (.bool true) ∧ RowKit.Below w.heap.size w w' :=
  (law_okF (c := q732021) (cfL_ok (P := Go.Proofs.Try.prog) (l := [p8]) (lm := [p131021]) (ll := []) ⟨ok8, trivial⟩ ⟨ok131021, trivial⟩ trivial) chk732021 rfl rfl rfl F7 plain732021).2 hE hp ha w
theorem plain732022 (E : Env) (_ : E.F = Fs.F) (_ : ∀ d ∈ d732022, d.ok E) : t732022.den E = 1 := rfl
theorem law732022 {E : Env} (hE : E.F = Fs.F) {ρ : Nat → Rb} {N : Nat} {args : Array Value} (hp : pcOk E q732022.pre) (ha : F2 (Ar E ρ N) q732022.args args) (w : World) : Calls Go.Proofs.Try.prog 7 args w fun e w' => e = .returned (.bool true) ∧ RowKit.Below w.heap.size w w' :=
  (law_okF (c := q732022) (cfL_ok (P := Go.Proofs.Try.prog) (l := [p8]) (lm := [p131021]) (ll := []) ⟨ok8, trivial⟩ ⟨ok131021, trivial⟩ trivial) chk732022 rfl rfl rfl F7 plain732022).2 hE hp ha w
theorem plain732023 (E : Env) (_ : E.F = Fs.F) (_ : ∀ d ∈ d732023, d.ok E) : t732023.den E = 1 := rfl
theorem law732023 {E : Env} (hE : E.F = Fs.F) {ρ : Nat → Rb} {N : Nat} {args : Array Value} (hp : pcOk E q732023.pre) (ha : F2 (Ar E ρ N) q732023.args args) (w : World) : Calls Go.Proofs.Try.prog 7 args w fun e w' => e = .returned (.bool true) ∧ RowKit.Below w.heap.size w w' :=
  (law_okF (c := q732023) (cfL_ok (P := Go.Proofs.Try.prog) (l := [p8]) (lm := [p131022]) (ll := []) ⟨ok8, trivial⟩ ⟨ok131022, trivial⟩ trivial) chk732023 rfl rfl rfl F7 plain732023).2 hE hp ha w
theorem plain732024 (E : Env) (_ : E.F = Fs.F) (_ : ∀ d ∈ d732024, d.ok E) : t732024.den E = 1 := rfl
theorem law732024 {E : Env} (hE : E.F = Fs.F) {ρ : Nat → Rb} {N : Nat} {args : Array Value} (hp : pcOk E q732024.pre) (ha : F2 (Ar E ρ N) q732024.args args) (w : World) : Calls Go.Proofs.Try.prog 7 args w fun e w' => e = .returned (.bool true) ∧ RowKit.Below w.heap.size w w' :=
  (law_okF (c := q732024) (cfL_ok (P := Go.Proofs.Try.prog) (l := [p8]) (lm := [p131022]) (ll := []) ⟨ok8, trivial⟩ ⟨ok131022, trivial⟩ trivial) chk732024 rfl rfl rfl F7 plain732024).2 hE hp ha w
theorem plain732030 (E : Env) (_ : E.F = Fs.F) (_ : ∀ d ∈ d732030, d.ok E) : t732030.den E = 1 := rfl
theorem law732030 {E : Env} (hE : E.F = Fs.F) {ρ : Nat → Rb} {N : Nat} {args : Array Value} (hp : pcOk E q732030.pre) (ha : F2 (Ar E ρ N) q732030.args args) (w : World) : Calls Go.Proofs.Try.prog 7 args w fun e w' => e = .returned (.bool true) ∧ RowKit.Below w.heap.size w w' :=
  (law_okF (c := q732030) (cfL_ok (P := Go.Proofs.Try.prog) (l := [p8]) (lm := [p131030]) (ll := []) ⟨ok8, trivial⟩ ⟨ok131030, trivial⟩ trivial) chk732030 rfl rfl rfl F7 plain732030).2 hE hp ha w
theorem plain732031 (E : Env) (_ : E.F = Fs.F) (_ : ∀ d ∈ d732031, d.ok E) : t732031.den E = 1 := rfl
theorem law732031 {E : Env} (hE : E.F = Fs.F) {ρ : Nat → Rb} {N : Nat} {args : Array Value} (hp : pcOk E q732031.pre) (ha : F2 (Ar E ρ N) q732031.args args) (w : World) : Calls Go.Proofs.Try.prog 7 args w fun e w' => e = .returned (.bool true) ∧ RowKit.Below w.heap.size w w' :=
  (law_okF (c := q732031) (cfL_ok (P := Go.Proofs.Try.prog) (l := [p8]) (lm := [p131031]) (ll := []) ⟨ok8, trivial⟩ ⟨ok131031, trivial⟩ trivial) chk732031 rfl rfl rfl F7 plain732031).2 hE hp ha w
theorem plain732032 (E : Env) (_ : E.F = Fs.F) (_ : ∀ d ∈ d732032, d.ok E) : t732032.den E = 1 := rfl
theorem law732032 {E : Env} (hE : E.F = Fs.F) {ρ : Nat → Rb} {N : Nat} {args : Array Value} (hp : pcOk E q732032.pre) (ha : F2 (Ar E ρ N) q732032.args args) (w : World) : Calls Go.Proofs.Try.prog 7 args w fun e w' => e = .returned (.bool true) ∧ RowKit.Below w.heap.size w w' :=
  (law_okF (c := q732032) (cfL_ok (P := Go.Proofs.Try.prog) (l := [p8]) (lm := [p131031]) (ll := []) ⟨ok8, trivial⟩ ⟨ok131031, trivial⟩ trivial) chk732032 rfl rfl rfl F7 plain732032).2 hE hp ha w
theorem plain732033 (E : Env) (_ : E.F = Fs.F) (_ : ∀ d ∈ d732033, d.ok E) : t732033.den E = 1 := rfl
theorem law732033 {E : Env} (hE : E.F = Fs.F) {ρ : Nat → Rb} {N : Nat} {args : Array Value} (hp : pcOk E q732033.pre) (ha : F2 (Ar E ρ N) q732033.args args) (w : World) : Calls Go.Proofs.Try.prog 7 args w fun e w' => e = .returned (.bool true) ∧ RowKit.Below w.heap.size w w' :=
  (law_okF (c := q732033) (cfL_ok (P := Go.Proofs.Try.prog) (l := [p8]) (lm := [p131032]) (ll := []) ⟨ok8, trivial⟩ ⟨ok131032, trivial⟩ trivial) chk732033 rfl rfl rfl F7 plain732033).2 hE hp ha w
theorem plain732034 (E : Env) (_ : E.F = Fs.F) (_ : ∀ d ∈ d732034, d.ok E) : t732034.den E = 1 := rfl
theorem law732034 {E : Env} (hE : E.F = Fs.F) {ρ : Nat → Rb} {N : Nat} {args : Array Value} (hp : pcOk E q732034.pre) (ha : F2 (Ar E ρ N) q732034.args args) (w : World) : Calls Go.Proofs.Try.prog 7 args w fun e w' => e = .returned (.bool true) ∧ RowKit.Below w.heap.size w w' :=
  (law_okF (c := q732034) (cfL_ok (P := Go.Proofs.Try.prog) (l := [p8]) (lm := [p131032]) (ll := []) ⟨ok8, trivial⟩ ⟨ok131032, trivial⟩ trivial) chk732034 rfl rfl rfl F7 plain732034).2 hE hp ha w
end Go.Sy
