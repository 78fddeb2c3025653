/- Functions, each told by its own run; and what follows from what they tell. -/
import Derived.KernelRfl
import Derived.Test.YtddfbikeaipepaaSureD
namespace Go.Sy
theorem chk6008 : chkPf Go.Proofs.Try.prog (cfL [p12, p21] [p5008, p7008, p9008, p8008] []) 60 q6008 d6008 l6008 = true := by kernel_rfl
theorem chk1006124 : chkPf Go.Proofs.Try.prog (cfL [p12, p21] [p5024, p7124, p9024, p8124] []) 60 q1006124 d1006124 l1006124 = true := by kernel_rfl
theorem chk1006224 : chkPf Go.Proofs.Try.prog (cfL [p12, p21] [p5024, p7224, p9024, p8224] []) 60 q1006224 d1006224 l1006224 = true := by kernel_rfl
theorem chk7004 : chkMf Go.Proofs.Try.prog (cfL [p80, p83, p84, p85, p93, p76] [p1077, p1177, p1079, p1179, p1279, p1379, p1479] []) 60 p7004 d7004 l7004 = true := by kernel_rfl
theorem chk7024 : chkMf Go.Proofs.Try.prog (cfL [p80, p83, p84, p85, p93, p76] [p1077, p1177, p1079, p1179, p1279, p1379, p1479] []) 60 p7024 d7024 l7024 = true := by kernel_rfl
theorem chk7122 : chkMf Go.Proofs.Try.prog (cfL [p80, p83, p84, p85, p93, p76] [p1077, p1177, p1079, p1179, p1279, p1379, p1479] []) 60 p7122 d7122 l7122 = true := by kernel_rfl
theorem chk6016 : chkPf Go.Proofs.Try.prog (cfL [p12, p21] [p5016, p7016, p9016, p8016] []) 60 q6016 d6016 l6016 = true := by kernel_rfl
theorem chk6020 : chkPf Go.Proofs.Try.prog (cfL [p12, p21] [p5020, p7020, p9020, p8020] []) 60 q6020 d6020 l6020 = true := by kernel_rfl
theorem chk6044 : chkPf Go.Proofs.Try.prog (cfL [p12, p21] [p5044, p7044, p9044, p8044] []) 60 q6044 d6044 l6044 = true := by kernel_rfl
theorem chk7011 : chkMf Go.Proofs.Try.prog (cfL [p80, p83, p84, p85, p93, p76] [p1077, p1177, p1079, p1179, p1279, p1379, p1479] []) 60 p7011 d7011 l7011 = true := by kernel_rfl
theorem chk6037 : chkPf Go.Proofs.Try.prog (cfL [p12, p21] [p5037, p7037, p9037, p8037] []) 60 q6037 d6037 l6037 = true := by kernel_rfl
theorem chk6036 : chkPf Go.Proofs.Try.prog (cfL [p12, p21] [p5036, p7036, p9036, p8036] []) 60 q6036 d6036 l6036 = true := by kernel_rfl
theorem chk6049 : chkPf Go.Proofs.Try.prog (cfL [p12, p75, p32] [] []) 60 q6049 d6049 l6049 = true := by kernel_rfl
theorem chk7033 : chkMf Go.Proofs.Try.prog (cfL [p80, p83, p84, p85, p93, p76] [p1077, p1177, p1079, p1179, p1279, p1379, p1479] []) 60 p7033 d7033 l7033 = true := by kernel_rfl
theorem chk7032 : chkMf Go.Proofs.Try.prog (cfL [p80, p83, p84, p85, p93, p76] [p1077, p1177, p1079, p1179, p1279, p1379, p1479] []) 60 p7032 d7032 l7032 = true := by kernel_rfl
theorem chk6006 : chkPf Go.Proofs.Try.prog (cfL [p12, p21] [p5006, p7006, p9006, p8006] []) 60 q6006 d6006 l6006 = true := by kernel_rfl
theorem chk6042 : chkPf Go.Proofs.Try.prog (cfL [p12, p21] [] []) 60 q6042 d6042 l6042 = true := by kernel_rfl
theorem chk44 : chkPf Go.Proofs.Try.prog (cfL [p72] [] []) 60 p44 d44 l44 = true := by kernel_rfl
theorem chk53 : chkPf Go.Proofs.Try.prog (cfL [] [] []) 60 p53 d53 l53 = true := by kernel_rfl
theorem chk83 : chkPf Go.Proofs.Try.prog (cfL [] [] []) 60 p83 d83 l83 = true := by kernel_rfl
theorem chk1179 : chkMf Go.Proofs.Try.prog (cfL [] [] []) 60 p1179 d1179 l1179 = true := by kernel_rfl
theorem chk8002 : chkMf Go.Proofs.Try.prog (cfL [p75, p32] [] []) 60 p8002 d8002 l8002 = true := by kernel_rfl
theorem chk9004 : chkMf Go.Proofs.Try.prog (cfL [] [] []) 60 p9004 d9004 l9004 = true := by kernel_rfl
theorem chk5006 : chkMf Go.Proofs.Try.prog (cfL [] [] []) 60 p5006 d5006 l5006 = true := by kernel_rfl
theorem chk8009 : chkMf Go.Proofs.Try.prog (cfL [p75, p32] [] []) 60 p8009 d8009 l8009 = true := by kernel_rfl
theorem chk9011 : chkMf Go.Proofs.Try.prog (cfL [] [] []) 60 p9011 d9011 l9011 = true := by kernel_rfl
theorem chk5013 : chkMf Go.Proofs.Try.prog (cfL [] [] []) 60 p5013 d5013 l5013 = true := by kernel_rfl
theorem chk8016 : chkMf Go.Proofs.Try.prog (cfL [p75, p32] [] []) 60 p8016 d8016 l8016 = true := by kernel_rfl
theorem chk9018 : chkMf Go.Proofs.Try.prog (cfL [] [] []) 60 p9018 d9018 l9018 = true := by kernel_rfl
theorem chk5020 : chkMf Go.Proofs.Try.prog (cfL [] [] []) 60 p5020 d5020 l5020 = true := by kernel_rfl
theorem chk9024 : chkMf Go.Proofs.Try.prog (cfL [] [] []) 60 p9024 d9024 l9024 = true := by kernel_rfl
theorem chk8032 : chkMf Go.Proofs.Try.prog (cfL [p75, p32] [] []) 60 p8032 d8032 l8032 = true := by kernel_rfl
theorem chk9034 : chkMf Go.Proofs.Try.prog (cfL [] [] []) 60 p9034 d9034 l9034 = true := by kernel_rfl
theorem chk5036 : chkMf Go.Proofs.Try.prog (cfL [] [] []) 60 p5036 d5036 l5036 = true := by kernel_rfl
theorem chk8039 : chkMf Go.Proofs.Try.prog (cfL [p75, p32] [] []) 60 p8039 d8039 l8039 = true := by kernel_rfl
theorem chk9043 : chkMf Go.Proofs.Try.prog (cfL [] [] []) 60 p9043 d9043 l9043 = true := by kernel_rfl
theorem chk5051 : chkMf Go.Proofs.Try.prog (cfL [] [] []) 60 p5051 d5051 l5051 = true := by kernel_rfl
theorem chk8021 : chkMf Go.Proofs.Try.prog (cfL [p75, p32] [] []) 60 p8021 d8021 l8021 = true := by kernel_rfl
theorem chk8123 : chkMf Go.Proofs.Try.prog (cfL [p75, p32] [] []) 60 p8123 d8123 l8123 = true := by kernel_rfl
theorem chk8225 : chkMf Go.Proofs.Try.prog (cfL [p75, p32] [] []) 60 p8225 d8225 l8225 = true := by kernel_rfl
end Go.Sy
