/- Functions, each told by its own run; and what follows from what they tell. -/
import Derived.KernelRfl
import Derived.Test.YtddfbikeaipepaaSureD
namespace Go.Sy
theorem chk6007 : chkPf Go.Proofs.Try.prog (cfL [p12, p21] [p5007, p7007, p9007, p8007] []) 60 q6007 d6007 l6007 = true := by kernel_rfl
theorem chk6012 : chkPf Go.Proofs.Try.prog (cfL [p12, p21] [p5012, p7012, p9012, p8012] []) 60 q6012 d6012 l6012 = true := by kernel_rfl
theorem chk7006 : chkMf Go.Proofs.Try.prog (cfL [p80, p83, p84, p85, p93, p76] [p1077, p1177, p1079, p1179, p1279, p1379, p1479] []) 60 p7006 d7006 l7006 = true := by kernel_rfl
theorem chk7023 : chkMf Go.Proofs.Try.prog (cfL [p80, p83, p84, p85, p93, p76] [p1077, p1177, p1079, p1179, p1279, p1379, p1479] []) 60 p7023 d7023 l7023 = true := by kernel_rfl
theorem chk1006122 : chkPf Go.Proofs.Try.prog (cfL [p12, p21] [p5022, p7122, p9022, p8122] []) 60 q1006122 d1006122 l1006122 = true := by kernel_rfl
theorem chk7123 : chkMf Go.Proofs.Try.prog (cfL [p80, p83, p84, p85, p93, p76] [p1077, p1177, p1079, p1179, p1279, p1379, p1479] []) 60 p7123 d7123 l7123 = true := by kernel_rfl
theorem chk7225 : chkMf Go.Proofs.Try.prog (cfL [p80, p83, p84, p85, p93, p76] [p1077, p1177, p1079, p1179, p1279, p1379, p1479] []) 60 p7225 d7225 l7225 = true := by kernel_rfl
theorem chk6035 : chkPf Go.Proofs.Try.prog (cfL [p12, p21] [p5035, p7035, p9035, p8035] []) 60 q6035 d6035 l6035 = true := by kernel_rfl
theorem chk6001 : chkPf Go.Proofs.Try.prog (cfL [p12, p21] [p5001, p7001, p9001, p8001] []) 60 q6001 d6001 l6001 = true := by kernel_rfl
theorem chk6052 : chkPf Go.Proofs.Try.prog (cfL [p12, p21] [p5052, p7052, p9052, p8052] []) 60 q6052 d6052 l6052 = true := by kernel_rfl
theorem chk6038 : chkPf Go.Proofs.Try.prog (cfL [p12, p21] [p5038, p7038, p9038, p8038] []) 60 q6038 d6038 l6038 = true := by kernel_rfl
theorem chk6050 : chkPf Go.Proofs.Try.prog (cfL [p12, p75, p32] [] []) 60 q6050 d6050 l6050 = true := by kernel_rfl
theorem chk7002 : chkMf Go.Proofs.Try.prog (cfL [p80, p83, p84, p85, p93, p76] [p1077, p1177, p1079, p1179, p1279, p1379, p1479] []) 60 p7002 d7002 l7002 = true := by kernel_rfl
theorem chk7017 : chkMf Go.Proofs.Try.prog (cfL [p80, p83, p84, p85, p93, p76] [p1077, p1177, p1079, p1179, p1279, p1379, p1479] []) 60 p7017 d7017 l7017 = true := by kernel_rfl
theorem chk7038 : chkMf Go.Proofs.Try.prog (cfL [p80, p83, p84, p85, p93, p76] [p1077, p1177, p1079, p1179, p1279, p1379, p1479] []) 60 p7038 d7038 l7038 = true := by kernel_rfl
theorem chk7043 : chkMf Go.Proofs.Try.prog (cfL [p80, p83, p84, p85, p93, p76] [p1077, p1177, p1079, p1179, p1279, p1379, p1479] []) 60 p7043 d7043 l7043 = true := by kernel_rfl
theorem chk6029 : chkPf Go.Proofs.Try.prog (cfL [p12, p21] [] []) 60 q6029 d6029 l6029 = true := by kernel_rfl
theorem chk72 : chkPf Go.Proofs.Try.prog (cfL [p75] [] []) 60 p72 d72 l72 = true := by kernel_rfl
theorem chk12 : chkPf Go.Proofs.Try.prog (cfL [p27, p29, p16] [] []) 60 q12 d12 l12 = true := by kernel_rfl
theorem chk21 : chkPf Go.Proofs.Try.prog (cfL [p35] [] []) 60 p21 d21 l21 = true := by kernel_rfl
theorem chk1079 : chkMf Go.Proofs.Try.prog (cfL [] [] []) 60 p1079 d1079 l1079 = true := by kernel_rfl
theorem chk9001 : chkMf Go.Proofs.Try.prog (cfL [] [] []) 60 p9001 d9001 l9001 = true := by kernel_rfl
theorem chk5003 : chkMf Go.Proofs.Try.prog (cfL [] [] []) 60 p5003 d5003 l5003 = true := by kernel_rfl
theorem chk8006 : chkMf Go.Proofs.Try.prog (cfL [p75, p32] [] []) 60 p8006 d8006 l8006 = true := by kernel_rfl
theorem chk9008 : chkMf Go.Proofs.Try.prog (cfL [] [] []) 60 p9008 d9008 l9008 = true := by kernel_rfl
theorem chk5010 : chkMf Go.Proofs.Try.prog (cfL [] [] []) 60 p5010 d5010 l5010 = true := by kernel_rfl
theorem chk8013 : chkMf Go.Proofs.Try.prog (cfL [p75, p32] [] []) 60 p8013 d8013 l8013 = true := by kernel_rfl
theorem chk9015 : chkMf Go.Proofs.Try.prog (cfL [] [] []) 60 p9015 d9015 l9015 = true := by kernel_rfl
theorem chk5017 : chkMf Go.Proofs.Try.prog (cfL [] [] []) 60 p5017 d5017 l5017 = true := by kernel_rfl
theorem chk8020 : chkMf Go.Proofs.Try.prog (cfL [p75, p32] [] []) 60 p8020 d8020 l8020 = true := by kernel_rfl
theorem chk9023 : chkMf Go.Proofs.Try.prog (cfL [] [] []) 60 p9023 d9023 l9023 = true := by kernel_rfl
theorem chk9027 : chkMf Go.Proofs.Try.prog (cfL [] [] []) 60 p9027 d9027 l9027 = true := by kernel_rfl
theorem chk5033 : chkMf Go.Proofs.Try.prog (cfL [] [] []) 60 p5033 d5033 l5033 = true := by kernel_rfl
theorem chk8036 : chkMf Go.Proofs.Try.prog (cfL [p75, p32] [] []) 60 p8036 d8036 l8036 = true := by kernel_rfl
theorem chk9038 : chkMf Go.Proofs.Try.prog (cfL [] [] []) 60 p9038 d9038 l9038 = true := by kernel_rfl
theorem chk5040 : chkMf Go.Proofs.Try.prog (cfL [] [] []) 60 p5040 d5040 l5040 = true := by kernel_rfl
theorem chk8051 : chkMf Go.Proofs.Try.prog (cfL [p75, p32] [] []) 60 p8051 d8051 l8051 = true := by kernel_rfl
theorem chk9026 : chkMf Go.Proofs.Try.prog (cfL [] [] []) 60 p9026 d9026 l9026 = true := by kernel_rfl
theorem chk8222 : chkMf Go.Proofs.Try.prog (cfL [p75, p32] [] []) 60 p8222 d8222 l8222 = true := by kernel_rfl
theorem chk8025 : chkMf Go.Proofs.Try.prog (cfL [p75, p32] [] []) 60 p8025 d8025 l8025 = true := by kernel_rfl
end Go.Sy
