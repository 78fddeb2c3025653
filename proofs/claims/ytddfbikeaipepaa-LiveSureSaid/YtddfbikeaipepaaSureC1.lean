/- Functions, each told by its own run; and what follows from what they tell. -/
import Derived.KernelRfl
import Derived.Test.YtddfbikeaipepaaSureD
namespace Go.Sy
theorem chk6009 : chkPf Go.Proofs.Try.prog (cfL [p12, p21] [p5009, p7009, p9009, p8009] []) 60 q6009 d6009 l6009 = true := by kernel_rfl
theorem chk1006123 : chkPf Go.Proofs.Try.prog (cfL [p12, p21] [p5023, p7123, p9023, p8123] []) 60 q1006123 d1006123 l1006123 = true := by kernel_rfl
theorem chk1006223 : chkPf Go.Proofs.Try.prog (cfL [p12, p21] [p5023, p7223, p9023, p8223] []) 60 q1006223 d1006223 l1006223 = true := by kernel_rfl
theorem chk7003 : chkMf Go.Proofs.Try.prog (cfL [p80, p83, p84, p85, p93, p76] [p1077, p1177, p1079, p1179, p1279, p1379, p1479] []) 60 p7003 d7003 l7003 = true := by kernel_rfl
theorem chk1006121 : chkPf Go.Proofs.Try.prog (cfL [p12, p21] [p5021, p7121, p9021, p8121] []) 60 q1006121 d1006121 l1006121 = true := by kernel_rfl
theorem chk7124 : chkMf Go.Proofs.Try.prog (cfL [p80, p83, p84, p85, p93, p76] [p1077, p1177, p1079, p1179, p1279, p1379, p1479] []) 60 p7124 d7124 l7124 = true := by kernel_rfl
theorem chk6018 : chkPf Go.Proofs.Try.prog (cfL [p12, p21] [p5018, p7018, p9018, p8018] []) 60 q6018 d6018 l6018 = true := by kernel_rfl
theorem chk1006022 : chkPf Go.Proofs.Try.prog (cfL [p12, p21] [p5022, p7022, p9022, p8022] []) 60 q1006022 d1006022 l1006022 = true := by kernel_rfl
theorem chk6019 : chkPf Go.Proofs.Try.prog (cfL [p12, p21] [p5019, p7019, p9019, p8019] []) 60 q6019 d6019 l6019 = true := by kernel_rfl
theorem chk7035 : chkMf Go.Proofs.Try.prog (cfL [p80, p83, p84, p85, p93, p76] [p1077, p1177, p1079, p1179, p1279, p1379, p1479] []) 60 p7035 d7035 l7035 = true := by kernel_rfl
theorem chk7027 : chkMf Go.Proofs.Try.prog (cfL [p80, p83, p84, p85, p93, p76] [p1077, p1177, p1079, p1179, p1279, p1379, p1479] []) 60 p7027 d7027 l7027 = true := by kernel_rfl
theorem chk7034 : chkMf Go.Proofs.Try.prog (cfL [p80, p83, p84, p85, p93, p76] [p1077, p1177, p1079, p1179, p1279, p1379, p1479] []) 60 p7034 d7034 l7034 = true := by kernel_rfl
theorem chk6046 : chkPf Go.Proofs.Try.prog (cfL [p12, p75, p32] [] []) 60 q6046 d6046 l6046 = true := by kernel_rfl
theorem chk7037 : chkMf Go.Proofs.Try.prog (cfL [p80, p83, p84, p85, p93, p76] [p1077, p1177, p1079, p1179, p1279, p1379, p1479] []) 60 p7037 d7037 l7037 = true := by kernel_rfl
theorem chk6000 : chkPf Go.Proofs.Try.prog (cfL [p12, p75, p32] [] []) 60 q6000 d6000 l6000 = true := by kernel_rfl
theorem chk7051 : chkMf Go.Proofs.Try.prog (cfL [p80, p83, p84, p85, p93, p76] [p1077, p1177, p1079, p1179, p1279, p1379, p1479] []) 60 p7051 d7051 l7051 = true := by kernel_rfl
theorem chk6028 : chkPf Go.Proofs.Try.prog (cfL [p12, p21] [] []) 60 q6028 d6028 l6028 = true := by kernel_rfl
theorem chk30 : chkPf Go.Proofs.Try.prog (cfL [p31] [] []) 60 p30 d30 l30 = true := by kernel_rfl
theorem chk54 : chkPf Go.Proofs.Try.prog (cfL [] [] []) 60 p54 d54 l54 = true := by kernel_rfl
theorem chk84 : chkPf Go.Proofs.Try.prog (cfL [] [] []) 60 p84 d84 l84 = true := by kernel_rfl
theorem chk1279 : chkMf Go.Proofs.Try.prog (cfL [] [] []) 60 p1279 d1279 l1279 = true := by kernel_rfl
theorem chk9002 : chkMf Go.Proofs.Try.prog (cfL [] [] []) 60 p9002 d9002 l9002 = true := by kernel_rfl
theorem chk5004 : chkMf Go.Proofs.Try.prog (cfL [] [] []) 60 p5004 d5004 l5004 = true := by kernel_rfl
theorem chk8007 : chkMf Go.Proofs.Try.prog (cfL [p75, p32] [] []) 60 p8007 d8007 l8007 = true := by kernel_rfl
theorem chk9009 : chkMf Go.Proofs.Try.prog (cfL [] [] []) 60 p9009 d9009 l9009 = true := by kernel_rfl
theorem chk5011 : chkMf Go.Proofs.Try.prog (cfL [] [] []) 60 p5011 d5011 l5011 = true := by kernel_rfl
theorem chk8014 : chkMf Go.Proofs.Try.prog (cfL [p75, p32] [] []) 60 p8014 d8014 l8014 = true := by kernel_rfl
theorem chk9016 : chkMf Go.Proofs.Try.prog (cfL [] [] []) 60 p9016 d9016 l9016 = true := by kernel_rfl
theorem chk5018 : chkMf Go.Proofs.Try.prog (cfL [] [] []) 60 p5018 d5018 l5018 = true := by kernel_rfl
theorem chk9021 : chkMf Go.Proofs.Try.prog (cfL [] [] []) 60 p9021 d9021 l9021 = true := by kernel_rfl
theorem chk5024 : chkMf Go.Proofs.Try.prog (cfL [] [] []) 60 p5024 d5024 l5024 = true := by kernel_rfl
theorem chk9032 : chkMf Go.Proofs.Try.prog (cfL [] [] []) 60 p9032 d9032 l9032 = true := by kernel_rfl
theorem chk5034 : chkMf Go.Proofs.Try.prog (cfL [] [] []) 60 p5034 d5034 l5034 = true := by kernel_rfl
theorem chk8037 : chkMf Go.Proofs.Try.prog (cfL [p75, p32] [] []) 60 p8037 d8037 l8037 = true := by kernel_rfl
theorem chk9039 : chkMf Go.Proofs.Try.prog (cfL [] [] []) 60 p9039 d9039 l9039 = true := by kernel_rfl
theorem chk5043 : chkMf Go.Proofs.Try.prog (cfL [] [] []) 60 p5043 d5043 l5043 = true := by kernel_rfl
theorem chk8052 : chkMf Go.Proofs.Try.prog (cfL [p75, p32] [] []) 60 p8052 d8052 l8052 = true := by kernel_rfl
theorem chk8121 : chkMf Go.Proofs.Try.prog (cfL [p75, p32] [] []) 60 p8121 d8121 l8121 = true := by kernel_rfl
theorem chk8223 : chkMf Go.Proofs.Try.prog (cfL [p75, p32] [] []) 60 p8223 d8223 l8223 = true := by kernel_rfl
end Go.Sy
