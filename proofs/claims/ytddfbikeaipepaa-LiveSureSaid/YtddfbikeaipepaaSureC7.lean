/- Functions, each told by its own run; and what follows from what they tell. -/
import Derived.KernelRfl
import Derived.Test.YtddfbikeaipepaaSureD
namespace Go.Sy
theorem chk6010 : chkPf Go.Proofs.Try.prog (cfL [p12, p21] [p5010, p7010, p9010, p8010] []) 60 q6010 d6010 l6010 = true := by kernel_rfl
theorem chk6015 : chkPf Go.Proofs.Try.prog (cfL [p12, p21] [p5015, p7015, p9015, p8015] []) 60 q6015 d6015 l6015 = true := by kernel_rfl
theorem chk7005 : chkMf Go.Proofs.Try.prog (cfL [p80, p83, p84, p85, p93, p76] [p1077, p1177, p1079, p1179, p1279, p1379, p1479] []) 60 p7005 d7005 l7005 = true := by kernel_rfl
theorem chk7022 : chkMf Go.Proofs.Try.prog (cfL [p80, p83, p84, p85, p93, p76] [p1077, p1177, p1079, p1179, p1279, p1379, p1479] []) 60 p7022 d7022 l7022 = true := by kernel_rfl
theorem chk7007 : chkMf Go.Proofs.Try.prog (cfL [p80, p83, p84, p85, p93, p76] [p1077, p1177, p1079, p1179, p1279, p1379, p1479] []) 60 p7007 d7007 l7007 = true := by kernel_rfl
theorem chk6017 : chkPf Go.Proofs.Try.prog (cfL [p12, p21] [p5017, p7017, p9017, p8017] []) 60 q6017 d6017 l6017 = true := by kernel_rfl
theorem chk1006222 : chkPf Go.Proofs.Try.prog (cfL [p12, p21] [p5022, p7222, p9022, p8222] []) 60 q1006222 d1006222 l1006222 = true := by kernel_rfl
theorem chk6034 : chkPf Go.Proofs.Try.prog (cfL [p12, p21] [p5034, p7034, p9034, p8034] []) 60 q6034 d6034 l6034 = true := by kernel_rfl
theorem chk6002 : chkPf Go.Proofs.Try.prog (cfL [p12, p21] [p5002, p7002, p9002, p8002] []) 60 q6002 d6002 l6002 = true := by kernel_rfl
theorem chk6051 : chkPf Go.Proofs.Try.prog (cfL [p12, p21] [p5051, p7051, p9051, p8051] []) 60 q6051 d6051 l6051 = true := by kernel_rfl
theorem chk6014 : chkPf Go.Proofs.Try.prog (cfL [p12, p21] [p5014, p7014, p9014, p8014] []) 60 q6014 d6014 l6014 = true := by kernel_rfl
theorem chk6045 : chkPf Go.Proofs.Try.prog (cfL [p12, p75, p32] [] []) 60 q6045 d6045 l6045 = true := by kernel_rfl
theorem chk7001 : chkMf Go.Proofs.Try.prog (cfL [p80, p83, p84, p85, p93, p76] [p1077, p1177, p1079, p1179, p1279, p1379, p1479] []) 60 p7001 d7001 l7001 = true := by kernel_rfl
theorem chk7016 : chkMf Go.Proofs.Try.prog (cfL [p80, p83, p84, p85, p93, p76] [p1077, p1177, p1079, p1179, p1279, p1379, p1479] []) 60 p7016 d7016 l7016 = true := by kernel_rfl
theorem chk7040 : chkMf Go.Proofs.Try.prog (cfL [p80, p83, p84, p85, p93, p76] [p1077, p1177, p1079, p1179, p1279, p1379, p1479] []) 60 p7040 d7040 l7040 = true := by kernel_rfl
theorem chk7044 : chkMf Go.Proofs.Try.prog (cfL [p80, p83, p84, p85, p93, p76] [p1077, p1177, p1079, p1179, p1279, p1379, p1479] []) 60 p7044 d7044 l7044 = true := by kernel_rfl
theorem chk6041 : chkPf Go.Proofs.Try.prog (cfL [p12, p21] [] []) 60 q6041 d6041 l6041 = true := by kernel_rfl
theorem chk31 : chkPf Go.Proofs.Try.prog (cfL [p75] [] []) 60 p31 d31 l31 = true := by kernel_rfl
theorem chk52 : chkPf Go.Proofs.Try.prog (cfL [] [] []) 60 p52 d52 l52 = true := by kernel_rfl
theorem chk80 : chkPf Go.Proofs.Try.prog (cfL [] [] []) 60 p80 d80 l80 = true := by kernel_rfl
theorem chk1177 : chkMf Go.Proofs.Try.prog (cfL [] [] []) 60 p1177 d1177 l1177 = true := by kernel_rfl
theorem chk5001 : chkMf Go.Proofs.Try.prog (cfL [] [] []) 60 p5001 d5001 l5001 = true := by kernel_rfl
theorem chk8004 : chkMf Go.Proofs.Try.prog (cfL [p75, p32] [] []) 60 p8004 d8004 l8004 = true := by kernel_rfl
theorem chk9006 : chkMf Go.Proofs.Try.prog (cfL [] [] []) 60 p9006 d9006 l9006 = true := by kernel_rfl
theorem chk5008 : chkMf Go.Proofs.Try.prog (cfL [] [] []) 60 p5008 d5008 l5008 = true := by kernel_rfl
theorem chk8011 : chkMf Go.Proofs.Try.prog (cfL [p75, p32] [] []) 60 p8011 d8011 l8011 = true := by kernel_rfl
theorem chk9013 : chkMf Go.Proofs.Try.prog (cfL [] [] []) 60 p9013 d9013 l9013 = true := by kernel_rfl
theorem chk5015 : chkMf Go.Proofs.Try.prog (cfL [] [] []) 60 p5015 d5015 l5015 = true := by kernel_rfl
theorem chk8018 : chkMf Go.Proofs.Try.prog (cfL [p75, p32] [] []) 60 p8018 d8018 l8018 = true := by kernel_rfl
theorem chk9020 : chkMf Go.Proofs.Try.prog (cfL [] [] []) 60 p9020 d9020 l9020 = true := by kernel_rfl
theorem chk5023 : chkMf Go.Proofs.Try.prog (cfL [] [] []) 60 p5023 d5023 l5023 = true := by kernel_rfl
theorem chk5027 : chkMf Go.Proofs.Try.prog (cfL [] [] []) 60 p5027 d5027 l5027 = true := by kernel_rfl
theorem chk8034 : chkMf Go.Proofs.Try.prog (cfL [p75, p32] [] []) 60 p8034 d8034 l8034 = true := by kernel_rfl
theorem chk9036 : chkMf Go.Proofs.Try.prog (cfL [] [] []) 60 p9036 d9036 l9036 = true := by kernel_rfl
theorem chk5038 : chkMf Go.Proofs.Try.prog (cfL [] [] []) 60 p5038 d5038 l5038 = true := by kernel_rfl
theorem chk8043 : chkMf Go.Proofs.Try.prog (cfL [p75, p32] [] []) 60 p8043 d8043 l8043 = true := by kernel_rfl
theorem chk9051 : chkMf Go.Proofs.Try.prog (cfL [] [] []) 60 p9051 d9051 l9051 = true := by kernel_rfl
theorem chk5026 : chkMf Go.Proofs.Try.prog (cfL [] [] []) 60 p5026 d5026 l5026 = true := by kernel_rfl
theorem chk8023 : chkMf Go.Proofs.Try.prog (cfL [p75, p32] [] []) 60 p8023 d8023 l8023 = true := by kernel_rfl
theorem chk8125 : chkMf Go.Proofs.Try.prog (cfL [p75, p32] [] []) 60 p8125 d8125 l8125 = true := by kernel_rfl
end Go.Sy
