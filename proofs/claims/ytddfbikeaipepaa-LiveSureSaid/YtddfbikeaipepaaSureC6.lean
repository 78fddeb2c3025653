/- Functions, each told by its own run; and what follows from what they tell. -/
import Derived.KernelRfl
import Derived.Test.YtddfbikeaipepaaSureD
namespace Go.Sy
theorem chk6011 : chkPf Go.Proofs.Try.prog (cfL [p12, p21] [p5011, p7011, p9011, p8011] []) 60 q6011 d6011 l6011 = true := by kernel_rfl
theorem chk6013 : chkPf Go.Proofs.Try.prog (cfL [p12, p21] [p5013, p7013, p9013, p8013] []) 60 q6013 d6013 l6013 = true := by kernel_rfl
theorem chk1006225 : chkPf Go.Proofs.Try.prog (cfL [p12, p21] [p5025, p7225, p9025, p8225] []) 60 q1006225 d1006225 l1006225 = true := by kernel_rfl
theorem chk7014 : chkMf Go.Proofs.Try.prog (cfL [p80, p83, p84, p85, p93, p76] [p1077, p1177, p1079, p1179, p1279, p1379, p1479] []) 60 p7014 d7014 l7014 = true := by kernel_rfl
theorem chk7025 : chkMf Go.Proofs.Try.prog (cfL [p80, p83, p84, p85, p93, p76] [p1077, p1177, p1079, p1179, p1279, p1379, p1479] []) 60 p7025 d7025 l7025 = true := by kernel_rfl
theorem chk7221 : chkMf Go.Proofs.Try.prog (cfL [p80, p83, p84, p85, p93, p76] [p1077, p1177, p1079, p1179, p1279, p1379, p1479] []) 60 p7221 d7221 l7221 = true := by kernel_rfl
theorem chk1006024 : chkPf Go.Proofs.Try.prog (cfL [p12, p21] [p5024, p7024, p9024, p8024] []) 60 q1006024 d1006024 l1006024 = true := by kernel_rfl
theorem chk1006021 : chkPf Go.Proofs.Try.prog (cfL [p12, p21] [p5021, p7021, p9021, p8021] []) 60 q1006021 d1006021 l1006021 = true := by kernel_rfl
theorem chk7010 : chkMf Go.Proofs.Try.prog (cfL [p80, p83, p84, p85, p93, p76] [p1077, p1177, p1079, p1179, p1279, p1379, p1479] []) 60 p7010 d7010 l7010 = true := by kernel_rfl
theorem chk6043 : chkPf Go.Proofs.Try.prog (cfL [p12, p21] [p5043, p7043, p9043, p8043] []) 60 q6043 d6043 l6043 = true := by kernel_rfl
theorem chk6027 : chkPf Go.Proofs.Try.prog (cfL [p12, p21] [p5027, p7027, p9027, p8027] []) 60 q6027 d6027 l6027 = true := by kernel_rfl
theorem chk6053 : chkPf Go.Proofs.Try.prog (cfL [p12, p75, p32] [] []) 60 q6053 d6053 l6053 = true := by kernel_rfl
theorem chk6047 : chkPf Go.Proofs.Try.prog (cfL [p12, p75, p32] [] []) 60 q6047 d6047 l6047 = true := by kernel_rfl
theorem chk93 : chkPf Go.Proofs.Try.prog (cfL [] [] []) 60 p93 d93 l93 = true := by kernel_rfl
theorem chk7039 : chkMf Go.Proofs.Try.prog (cfL [p80, p83, p84, p85, p93, p76] [p1077, p1177, p1079, p1179, p1279, p1379, p1479] []) 60 p7039 d7039 l7039 = true := by kernel_rfl
theorem chk6005 : chkPf Go.Proofs.Try.prog (cfL [p12, p21] [p5005, p7005, p9005, p8005] []) 60 q6005 d6005 l6005 = true := by kernel_rfl
theorem chk6030 : chkPf Go.Proofs.Try.prog (cfL [p12, p21] [] []) 60 q6030 d6030 l6030 = true := by kernel_rfl
theorem chk27 : chkPf Go.Proofs.Try.prog (cfL [] [] []) 60 p27 d27 l27 = true := by kernel_rfl
theorem chk29 : chkPf Go.Proofs.Try.prog (cfL [p48, p44, p16] [] []) 60 p29 d29 l29 = true := by kernel_rfl
theorem chk56 : chkPf Go.Proofs.Try.prog (cfL [] [] []) 60 p56 d56 l56 = true := by kernel_rfl
theorem chk1077 : chkMf Go.Proofs.Try.prog (cfL [] [] []) 60 p1077 d1077 l1077 = true := by kernel_rfl
theorem chk8001 : chkMf Go.Proofs.Try.prog (cfL [p75, p32] [] []) 60 p8001 d8001 l8001 = true := by kernel_rfl
theorem chk9003 : chkMf Go.Proofs.Try.prog (cfL [] [] []) 60 p9003 d9003 l9003 = true := by kernel_rfl
theorem chk5005 : chkMf Go.Proofs.Try.prog (cfL [] [] []) 60 p5005 d5005 l5005 = true := by kernel_rfl
theorem chk8008 : chkMf Go.Proofs.Try.prog (cfL [p75, p32] [] []) 60 p8008 d8008 l8008 = true := by kernel_rfl
theorem chk9010 : chkMf Go.Proofs.Try.prog (cfL [] [] []) 60 p9010 d9010 l9010 = true := by kernel_rfl
theorem chk5012 : chkMf Go.Proofs.Try.prog (cfL [] [] []) 60 p5012 d5012 l5012 = true := by kernel_rfl
theorem chk8015 : chkMf Go.Proofs.Try.prog (cfL [p75, p32] [] []) 60 p8015 d8015 l8015 = true := by kernel_rfl
theorem chk9017 : chkMf Go.Proofs.Try.prog (cfL [] [] []) 60 p9017 d9017 l9017 = true := by kernel_rfl
theorem chk5019 : chkMf Go.Proofs.Try.prog (cfL [] [] []) 60 p5019 d5019 l5019 = true := by kernel_rfl
theorem chk5022 : chkMf Go.Proofs.Try.prog (cfL [] [] []) 60 p5022 d5022 l5022 = true := by kernel_rfl
theorem chk8027 : chkMf Go.Proofs.Try.prog (cfL [p75, p32] [] []) 60 p8027 d8027 l8027 = true := by kernel_rfl
theorem chk9033 : chkMf Go.Proofs.Try.prog (cfL [] [] []) 60 p9033 d9033 l9033 = true := by kernel_rfl
theorem chk5035 : chkMf Go.Proofs.Try.prog (cfL [] [] []) 60 p5035 d5035 l5035 = true := by kernel_rfl
theorem chk8038 : chkMf Go.Proofs.Try.prog (cfL [p75, p32] [] []) 60 p8038 d8038 l8038 = true := by kernel_rfl
theorem chk9040 : chkMf Go.Proofs.Try.prog (cfL [] [] []) 60 p9040 d9040 l9040 = true := by kernel_rfl
theorem chk5044 : chkMf Go.Proofs.Try.prog (cfL [] [] []) 60 p5044 d5044 l5044 = true := by kernel_rfl
theorem chk8026 : chkMf Go.Proofs.Try.prog (cfL [p75, p32] [] []) 60 p8026 d8026 l8026 = true := by kernel_rfl
theorem chk8122 : chkMf Go.Proofs.Try.prog (cfL [p75, p32] [] []) 60 p8122 d8122 l8122 = true := by kernel_rfl
theorem chk8224 : chkMf Go.Proofs.Try.prog (cfL [p75, p32] [] []) 60 p8224 d8224 l8224 = true := by kernel_rfl
end Go.Sy
