/- Functions, each told by its own run; and what follows from what they tell. -/
import Derived.KernelRfl
import Derived.Test.YtddfbikeaipepaaSureD
namespace Go.Sy
theorem chk6003 : chkPf Go.Proofs.Try.prog (cfL [p12, p21] [p5003, p7003, p9003, p8003] []) 60 q6003 d6003 l6003 = true := by kernel_rfl
theorem chk6026 : chkPf Go.Proofs.Try.prog (cfL [p12] [p5026, p7026, p8026, p9026] []) 60 q6026 d6026 l6026 = true := by kernel_rfl
theorem chk7013 : chkMf Go.Proofs.Try.prog (cfL [p80, p83, p84, p85, p93, p76] [p1077, p1177, p1079, p1179, p1279, p1379, p1479] []) 60 p7013 d7013 l7013 = true := by kernel_rfl
theorem chk7012 : chkMf Go.Proofs.Try.prog (cfL [p80, p83, p84, p85, p93, p76] [p1077, p1177, p1079, p1179, p1279, p1379, p1479] []) 60 p7012 d7012 l7012 = true := by kernel_rfl
theorem chk7021 : chkMf Go.Proofs.Try.prog (cfL [p80, p83, p84, p85, p93, p76] [p1077, p1177, p1079, p1179, p1279, p1379, p1479] []) 60 p7021 d7021 l7021 = true := by kernel_rfl
theorem chk1006221 : chkPf Go.Proofs.Try.prog (cfL [p12, p21] [p5021, p7221, p9021, p8221] []) 60 q1006221 d1006221 l1006221 = true := by kernel_rfl
theorem chk7125 : chkMf Go.Proofs.Try.prog (cfL [p80, p83, p84, p85, p93, p76] [p1077, p1177, p1079, p1179, p1279, p1379, p1479] []) 60 p7125 d7125 l7125 = true := by kernel_rfl
theorem chk7224 : chkMf Go.Proofs.Try.prog (cfL [p80, p83, p84, p85, p93, p76] [p1077, p1177, p1079, p1179, p1279, p1379, p1479] []) 60 p7224 d7224 l7224 = true := by kernel_rfl
theorem chk7222 : chkMf Go.Proofs.Try.prog (cfL [p80, p83, p84, p85, p93, p76] [p1077, p1177, p1079, p1179, p1279, p1379, p1479] []) 60 p7222 d7222 l7222 = true := by kernel_rfl
theorem chk1006023 : chkPf Go.Proofs.Try.prog (cfL [p12, p21] [p5023, p7023, p9023, p8023] []) 60 q1006023 d1006023 l1006023 = true := by kernel_rfl
theorem chk6032 : chkPf Go.Proofs.Try.prog (cfL [p12, p21] [p5032, p7032, p9032, p8032] []) 60 q6032 d6032 l6032 = true := by kernel_rfl
theorem chk7020 : chkMf Go.Proofs.Try.prog (cfL [p80, p83, p84, p85, p93, p76] [p1077, p1177, p1079, p1179, p1279, p1379, p1479] []) 60 p7020 d7020 l7020 = true := by kernel_rfl
theorem chk6048 : chkPf Go.Proofs.Try.prog (cfL [p12, p75, p32] [] []) 60 q6048 d6048 l6048 = true := by kernel_rfl
theorem chk7036 : chkMf Go.Proofs.Try.prog (cfL [p80, p83, p84, p85, p93, p76] [p1077, p1177, p1079, p1179, p1279, p1379, p1479] []) 60 p7036 d7036 l7036 = true := by kernel_rfl
theorem chk6100 : chkPf Go.Proofs.Try.prog (cfL [p12, p75, p32] [] []) 60 q6100 d6100 l6100 = true := by kernel_rfl
theorem chk6031 : chkPf Go.Proofs.Try.prog (cfL [p12, p21] [] []) 60 q6031 d6031 l6031 = true := by kernel_rfl
theorem chk32 : chkPf Go.Proofs.Try.prog (cfL [] [] []) 60 p32 d32 l32 = true := by kernel_rfl
theorem chk48 : chkPf Go.Proofs.Try.prog (cfL [p27] [] []) 60 p48 d48 l48 = true := by kernel_rfl
theorem chk55 : chkPf Go.Proofs.Try.prog (cfL [p53] [] []) 60 p55 d55 l55 = true := by kernel_rfl
theorem chk76 : chkPf Go.Proofs.Try.prog (cfL [] [] []) 60 p76 d76 l76 = true := by kernel_rfl
theorem chk1479 : chkMf Go.Proofs.Try.prog (cfL [] [] []) 60 p1479 d1479 l1479 = true := by kernel_rfl
theorem chk8003 : chkMf Go.Proofs.Try.prog (cfL [p75, p32] [] []) 60 p8003 d8003 l8003 = true := by kernel_rfl
theorem chk9005 : chkMf Go.Proofs.Try.prog (cfL [] [] []) 60 p9005 d9005 l9005 = true := by kernel_rfl
theorem chk5007 : chkMf Go.Proofs.Try.prog (cfL [] [] []) 60 p5007 d5007 l5007 = true := by kernel_rfl
theorem chk8010 : chkMf Go.Proofs.Try.prog (cfL [p75, p32] [] []) 60 p8010 d8010 l8010 = true := by kernel_rfl
theorem chk9012 : chkMf Go.Proofs.Try.prog (cfL [] [] []) 60 p9012 d9012 l9012 = true := by kernel_rfl
theorem chk5014 : chkMf Go.Proofs.Try.prog (cfL [] [] []) 60 p5014 d5014 l5014 = true := by kernel_rfl
theorem chk8017 : chkMf Go.Proofs.Try.prog (cfL [p75, p32] [] []) 60 p8017 d8017 l8017 = true := by kernel_rfl
theorem chk9019 : chkMf Go.Proofs.Try.prog (cfL [] [] []) 60 p9019 d9019 l9019 = true := by kernel_rfl
theorem chk9022 : chkMf Go.Proofs.Try.prog (cfL [] [] []) 60 p9022 d9022 l9022 = true := by kernel_rfl
theorem chk5025 : chkMf Go.Proofs.Try.prog (cfL [] [] []) 60 p5025 d5025 l5025 = true := by kernel_rfl
theorem chk8033 : chkMf Go.Proofs.Try.prog (cfL [p75, p32] [] []) 60 p8033 d8033 l8033 = true := by kernel_rfl
theorem chk9035 : chkMf Go.Proofs.Try.prog (cfL [] [] []) 60 p9035 d9035 l9035 = true := by kernel_rfl
theorem chk5037 : chkMf Go.Proofs.Try.prog (cfL [] [] []) 60 p5037 d5037 l5037 = true := by kernel_rfl
theorem chk8040 : chkMf Go.Proofs.Try.prog (cfL [p75, p32] [] []) 60 p8040 d8040 l8040 = true := by kernel_rfl
theorem chk9044 : chkMf Go.Proofs.Try.prog (cfL [] [] []) 60 p9044 d9044 l9044 = true := by kernel_rfl
theorem chk5052 : chkMf Go.Proofs.Try.prog (cfL [] [] []) 60 p5052 d5052 l5052 = true := by kernel_rfl
theorem chk8022 : chkMf Go.Proofs.Try.prog (cfL [p75, p32] [] []) 60 p8022 d8022 l8022 = true := by kernel_rfl
theorem chk8124 : chkMf Go.Proofs.Try.prog (cfL [p75, p32] [] []) 60 p8124 d8124 l8124 = true := by kernel_rfl
end Go.Sy
