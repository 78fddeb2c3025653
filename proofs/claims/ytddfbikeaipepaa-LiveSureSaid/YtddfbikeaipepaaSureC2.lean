/- Functions, each told by its own run; and what follows from what they tell. -/
import Derived.KernelRfl
import Derived.Test.YtddfbikeaipepaaSureD
namespace Go.Sy
theorem chk6004 : chkPf Go.Proofs.Try.prog (cfL [p12, p21] [p5004, p7004, p9004, p8004] []) 60 q6004 d6004 l6004 = true := by kernel_rfl
theorem chk1006125 : chkPf Go.Proofs.Try.prog (cfL [p12, p21] [p5025, p7125, p9025, p8125] []) 60 q1006125 d1006125 l1006125 = true := by kernel_rfl
theorem chk7015 : chkMf Go.Proofs.Try.prog (cfL [p80, p83, p84, p85, p93, p76] [p1077, p1177, p1079, p1179, p1279, p1379, p1479] []) 60 p7015 d7015 l7015 = true := by kernel_rfl
theorem chk7009 : chkMf Go.Proofs.Try.prog (cfL [p80, p83, p84, p85, p93, p76] [p1077, p1177, p1079, p1179, p1279, p1379, p1479] []) 60 p7009 d7009 l7009 = true := by kernel_rfl
theorem chk7008 : chkMf Go.Proofs.Try.prog (cfL [p80, p83, p84, p85, p93, p76] [p1077, p1177, p1079, p1179, p1279, p1379, p1479] []) 60 p7008 d7008 l7008 = true := by kernel_rfl
theorem chk7121 : chkMf Go.Proofs.Try.prog (cfL [p80, p83, p84, p85, p93, p76] [p1077, p1177, p1079, p1179, p1279, p1379, p1479] []) 60 p7121 d7121 l7121 = true := by kernel_rfl
theorem chk7223 : chkMf Go.Proofs.Try.prog (cfL [p80, p83, p84, p85, p93, p76] [p1077, p1177, p1079, p1179, p1279, p1379, p1479] []) 60 p7223 d7223 l7223 = true := by kernel_rfl
theorem chk1006025 : chkPf Go.Proofs.Try.prog (cfL [p12, p21] [p5025, p7025, p9025, p8025] []) 60 q1006025 d1006025 l1006025 = true := by kernel_rfl
theorem chk7018 : chkMf Go.Proofs.Try.prog (cfL [p80, p83, p84, p85, p93, p76] [p1077, p1177, p1079, p1179, p1279, p1379, p1479] []) 60 p7018 d7018 l7018 = true := by kernel_rfl
theorem chk6033 : chkPf Go.Proofs.Try.prog (cfL [p12, p21] [p5033, p7033, p9033, p8033] []) 60 q6033 d6033 l6033 = true := by kernel_rfl
theorem chk6039 : chkPf Go.Proofs.Try.prog (cfL [p12, p21] [p5039, p7039, p9039, p8039] []) 60 q6039 d6039 l6039 = true := by kernel_rfl
theorem chk6040 : chkPf Go.Proofs.Try.prog (cfL [p12, p21] [p5040, p7040, p9040, p8040] []) 60 q6040 d6040 l6040 = true := by kernel_rfl
theorem chk7026 : chkMf Go.Proofs.Try.prog (cfL [p80, p83, p84, p85, p93, p76] [p1077, p1177, p1079, p1179, p1279, p1379, p1479] []) 60 p7026 d7026 l7026 = true := by kernel_rfl
theorem chk7019 : chkMf Go.Proofs.Try.prog (cfL [p80, p83, p84, p85, p93, p76] [p1077, p1177, p1079, p1179, p1279, p1379, p1479] []) 60 p7019 d7019 l7019 = true := by kernel_rfl
theorem chk6101 : chkPf Go.Proofs.Try.prog (cfL [p12, p75, p32] [] []) 60 q6101 d6101 l6101 = true := by kernel_rfl
theorem chk7052 : chkMf Go.Proofs.Try.prog (cfL [p80, p83, p84, p85, p93, p76] [p1077, p1177, p1079, p1179, p1279, p1379, p1479] []) 60 p7052 d7052 l7052 = true := by kernel_rfl
theorem chk75 : chkPf Go.Proofs.Try.prog (cfL [] [] []) 60 p75 d75 l75 = true := by kernel_rfl
theorem chk16 : chkPf Go.Proofs.Try.prog (cfL [p32, p31, p30] [] []) 60 p16 d16 l16 = true := by kernel_rfl
theorem chk51 : chkPf Go.Proofs.Try.prog (cfL [p52, p54] [] []) 60 p51 d51 l51 = true := by kernel_rfl
theorem chk85 : chkPf Go.Proofs.Try.prog (cfL [] [] []) 60 p85 d85 l85 = true := by kernel_rfl
theorem chk1379 : chkMf Go.Proofs.Try.prog (cfL [] [] []) 60 p1379 d1379 l1379 = true := by kernel_rfl
theorem chk5002 : chkMf Go.Proofs.Try.prog (cfL [] [] []) 60 p5002 d5002 l5002 = true := by kernel_rfl
theorem chk8005 : chkMf Go.Proofs.Try.prog (cfL [p75, p32] [] []) 60 p8005 d8005 l8005 = true := by kernel_rfl
theorem chk9007 : chkMf Go.Proofs.Try.prog (cfL [] [] []) 60 p9007 d9007 l9007 = true := by kernel_rfl
theorem chk5009 : chkMf Go.Proofs.Try.prog (cfL [] [] []) 60 p5009 d5009 l5009 = true := by kernel_rfl
theorem chk8012 : chkMf Go.Proofs.Try.prog (cfL [p75, p32] [] []) 60 p8012 d8012 l8012 = true := by kernel_rfl
theorem chk9014 : chkMf Go.Proofs.Try.prog (cfL [] [] []) 60 p9014 d9014 l9014 = true := by kernel_rfl
theorem chk5016 : chkMf Go.Proofs.Try.prog (cfL [] [] []) 60 p5016 d5016 l5016 = true := by kernel_rfl
theorem chk8019 : chkMf Go.Proofs.Try.prog (cfL [p75, p32] [] []) 60 p8019 d8019 l8019 = true := by kernel_rfl
theorem chk5021 : chkMf Go.Proofs.Try.prog (cfL [] [] []) 60 p5021 d5021 l5021 = true := by kernel_rfl
theorem chk9025 : chkMf Go.Proofs.Try.prog (cfL [] [] []) 60 p9025 d9025 l9025 = true := by kernel_rfl
theorem chk5032 : chkMf Go.Proofs.Try.prog (cfL [] [] []) 60 p5032 d5032 l5032 = true := by kernel_rfl
theorem chk8035 : chkMf Go.Proofs.Try.prog (cfL [p75, p32] [] []) 60 p8035 d8035 l8035 = true := by kernel_rfl
theorem chk9037 : chkMf Go.Proofs.Try.prog (cfL [] [] []) 60 p9037 d9037 l9037 = true := by kernel_rfl
theorem chk5039 : chkMf Go.Proofs.Try.prog (cfL [] [] []) 60 p5039 d5039 l5039 = true := by kernel_rfl
theorem chk8044 : chkMf Go.Proofs.Try.prog (cfL [p75, p32] [] []) 60 p8044 d8044 l8044 = true := by kernel_rfl
theorem chk9052 : chkMf Go.Proofs.Try.prog (cfL [] [] []) 60 p9052 d9052 l9052 = true := by kernel_rfl
theorem chk8221 : chkMf Go.Proofs.Try.prog (cfL [p75, p32] [] []) 60 p8221 d8221 l8221 = true := by kernel_rfl
theorem chk8024 : chkMf Go.Proofs.Try.prog (cfL [p75, p32] [] []) 60 p8024 d8024 l8024 = true := by kernel_rfl
end Go.Sy
