/- The kinds that the law's arguments are read as. -/
import Derived.Test.YthpdlgamicmhaaaGreatKShape
import Derived.Test.YthpdlgamicmhaaaGreatPRx0
namespace Go.Proofs.YthpdlgamicmhaaaGreat.PR
open Go.RowKit Go.Proofs.YthpdlgamicmhaaaGreatW.PrintWords Go.Proofs.YthpdlgamicmhaaaGreatW.PrintLast Go.Proofs.YthpdlgamicmhaaaGreatW.PrintMore Go.Proofs.YthpdlgamicmhaaaGreat.KS
set_option linter.unusedVariables false
theorem ks9 : KShape Tryz.prog 9 Kd.string okStr := ks_str Tryz.underlying9 (by kernel_rfl)
theorem ks3 : KShape Tryz.prog 3 (Kd.int .i64) (okInt .i64) := ks_int Tryz.underlying3 (by kernel_rfl)
theorem ks4 : KShape Tryz.prog 4 Kd.bool okBool := ks_bool Tryz.underlying4 (by kernel_rfl)
def ok62 (x : S62) : Prop := (okP okStr (okP (okInt .i64) (okP (okInt .i64) (okP okBool (okP okBool okBool))))) (x.f0, x.f1, x.f2, x.f3, x.f4, x.f5)
theorem ks62 : KShape Tryz.prog 62 k62 ok62 := ks_struct (g := fun a => ⟨a.1, a.2.1, a.2.2.1, a.2.2.2.1, a.2.2.2.2.1, a.2.2.2.2.2⟩) Tryz.underlying62 (by kernel_rfl) (fun _ => rfl) (kfc rfl ks9 (kfc rfl ks3 (kfc rfl ks3 (kfc rfl ks4 (kfc rfl ks4 (kfo rfl ks4))))))
theorem ks41 : KShape Tryz.prog 41 (Kd.slice 62 k62) (okList ok62) := ks_slice Tryz.underlying41 (by kernel_rfl) (by kernel_rfl) ks62
def ok109 (x : S109) : Prop := (okP okStr (okP (okInt .i64) (okP (okInt .i64) (okP (okInt .i64) (okP (okInt .i64) (okP (okInt .i64) (okP (okInt .i64) (okInt .i64)))))))) (x.f0, x.f1, x.f2, x.f3, x.f4, x.f5, x.f6, x.f7)
theorem ks109 : KShape Tryz.prog 109 k109 ok109 := ks_struct (g := fun a => ⟨a.1, a.2.1, a.2.2.1, a.2.2.2.1, a.2.2.2.2.1, a.2.2.2.2.2.1, a.2.2.2.2.2.2.1, a.2.2.2.2.2.2.2⟩) Tryz.underlying109 (by kernel_rfl) (fun _ => rfl) (kfc rfl ks9 (kfc rfl ks3 (kfc rfl ks3 (kfc rfl ks3 (kfc rfl ks3 (kfc rfl ks3 (kfc rfl ks3 (kfo rfl ks3))))))))
theorem ks42 : KShape Tryz.prog 42 (Kd.slice 109 k109) (okList ok109) := ks_slice Tryz.underlying42 (by kernel_rfl) (by kernel_rfl) ks109
def ok111 (x : S111) : Prop := (okP okStr (okInt .i64)) (x.f0, x.f1)
theorem ks111 : KShape Tryz.prog 111 k111 ok111 := ks_struct (g := fun a => ⟨a.1, a.2⟩) Tryz.underlying111 (by kernel_rfl) (fun _ => rfl) (kfc rfl ks9 (kfo rfl ks3))
theorem ks43 : KShape Tryz.prog 43 (Kd.slice 111 k111) (okList ok111) := ks_slice Tryz.underlying43 (by kernel_rfl) (by kernel_rfl) ks111
def ok113 (x : S113) : Prop := (okP okStr (okP (okInt .i64) (okP (okInt .i64) okBool))) (x.f0, x.f1, x.f2, x.f3)
theorem ks113 : KShape Tryz.prog 113 k113 ok113 := ks_struct (g := fun a => ⟨a.1, a.2.1, a.2.2.1, a.2.2.2⟩) Tryz.underlying113 (by kernel_rfl) (fun _ => rfl) (kfc rfl ks9 (kfc rfl ks3 (kfc rfl ks3 (kfo rfl ks4))))
theorem ks44 : KShape Tryz.prog 44 (Kd.slice 113 k113) (okList ok113) := ks_slice Tryz.underlying44 (by kernel_rfl) (by kernel_rfl) ks113
def ok115 (x : S115) : Prop := okStr (x.f0)
theorem ks115 : KShape Tryz.prog 115 k115 ok115 := ks_struct (g := fun a => ⟨a⟩) Tryz.underlying115 (by kernel_rfl) (fun _ => rfl) (kfo rfl ks9)
theorem ks45 : KShape Tryz.prog 45 (Kd.slice 115 k115) (okList ok115) := ks_slice Tryz.underlying45 (by kernel_rfl) (by kernel_rfl) ks115
def ok117 (x : S117) : Prop := (okP okStr (okInt .i64)) (x.f0, x.f1)
theorem ks117 : KShape Tryz.prog 117 k117 ok117 := ks_struct (g := fun a => ⟨a.1, a.2⟩) Tryz.underlying117 (by kernel_rfl) (fun _ => rfl) (kfc rfl ks9 (kfo rfl ks3))
theorem ks46 : KShape Tryz.prog 46 (Kd.slice 117 k117) (okList ok117) := ks_slice Tryz.underlying46 (by kernel_rfl) (by kernel_rfl) ks117
def ok119 (x : S119) : Prop := (okP okStr (okP (okInt .i64) (okP (okInt .i64) okBool))) (x.f0, x.f1, x.f2, x.f3)
theorem ks119 : KShape Tryz.prog 119 k119 ok119 := ks_struct (g := fun a => ⟨a.1, a.2.1, a.2.2.1, a.2.2.2⟩) Tryz.underlying119 (by kernel_rfl) (fun _ => rfl) (kfc rfl ks9 (kfc rfl ks3 (kfc rfl ks3 (kfo rfl ks4))))
theorem ks47 : KShape Tryz.prog 47 (Kd.slice 119 k119) (okList ok119) := ks_slice Tryz.underlying47 (by kernel_rfl) (by kernel_rfl) ks119
def ok60 (x : S60) : Prop := (okP okStr (okP okBool (okP okBool (okP (okInt .i64) (okP (okInt .i64) (okInt .i64)))))) (x.f0, x.f1, x.f2, x.f3, x.f4, x.f5)
theorem ks60 : KShape Tryz.prog 60 k60 ok60 := ks_struct (g := fun a => ⟨a.1, a.2.1, a.2.2.1, a.2.2.2.1, a.2.2.2.2.1, a.2.2.2.2.2⟩) Tryz.underlying60 (by kernel_rfl) (fun _ => rfl) (kfc rfl ks9 (kfc rfl ks4 (kfc rfl ks4 (kfc rfl ks3 (kfc rfl ks3 (kfo rfl ks3))))))
theorem ks48 : KShape Tryz.prog 48 (Kd.slice 60 k60) (okList ok60) := ks_slice Tryz.underlying48 (by kernel_rfl) (by kernel_rfl) ks60
def ok64 (x : S64) : Prop := (okP (okInt .i64) (okP (okInt .i64) (okInt .i64))) (x.f0, x.f1, x.f2)
theorem ks64 : KShape Tryz.prog 64 k64 ok64 := ks_struct (g := fun a => ⟨a.1, a.2.1, a.2.2⟩) Tryz.underlying64 (by kernel_rfl) (fun _ => rfl) (kfc rfl ks3 (kfc rfl ks3 (kfo rfl ks3)))
theorem ks28 : KShape Tryz.prog 28 (Kd.slice 64 k64) (okList ok64) := ks_slice Tryz.underlying28 (by kernel_rfl) (by kernel_rfl) ks64
def ok50 (x : S50) : Prop := (okP (okInt .i64) (okInt .i64)) (x.f0, x.f1)
theorem ks50 : KShape Tryz.prog 50 k50 ok50 := ks_struct (g := fun a => ⟨a.1, a.2⟩) Tryz.underlying50 (by kernel_rfl) (fun _ => rfl) (kfc rfl ks3 (kfo rfl ks3))
def ok52 (x : S52) : Prop := (okP okStr (okP (okList ok62) (okP (okList ok109) (okP (okList ok111) (okP (okList ok113) (okP (okList ok115) (okP (okList ok117) (okP (okList ok119) (okP (okList ok60) (okP (okList ok64) (okP (okInt .i64) ok50))))))))))) (x.f0, x.f1, x.f2, x.f3, x.f4, x.f5, x.f6, x.f7, x.f8, x.f9, x.f10, x.f11)
theorem ks52 : KShape Tryz.prog 52 k52 ok52 := ks_struct (g := fun a => ⟨a.1, a.2.1, a.2.2.1, a.2.2.2.1, a.2.2.2.2.1, a.2.2.2.2.2.1, a.2.2.2.2.2.2.1, a.2.2.2.2.2.2.2.1, a.2.2.2.2.2.2.2.2.1, a.2.2.2.2.2.2.2.2.2.1, a.2.2.2.2.2.2.2.2.2.2.1, a.2.2.2.2.2.2.2.2.2.2.2⟩) Tryz.underlying52 (by kernel_rfl) (fun _ => rfl) (kfc rfl ks9 (kfc rfl ks41 (kfc rfl ks42 (kfc rfl ks43 (kfc rfl ks44 (kfc rfl ks45 (kfc rfl ks46 (kfc rfl ks47 (kfc rfl ks48 (kfc rfl ks28 (kfc rfl ks3 (kfo rfl ks50))))))))))))
theorem ks24 : KShape Tryz.prog 24 (Kd.slice 52 k52) (okList ok52) := ks_slice Tryz.underlying24 (by kernel_rfl) (by kernel_rfl) ks52
def ok69 (x : S69) : Prop := (okP (okInt .i64) (okP (okInt .i64) (okInt .i64))) (x.f0, x.f1, x.f2)
theorem ks69 : KShape Tryz.prog 69 k69 ok69 := ks_struct (g := fun a => ⟨a.1, a.2.1, a.2.2⟩) Tryz.underlying69 (by kernel_rfl) (fun _ => rfl) (kfc rfl ks3 (kfc rfl ks3 (kfo rfl ks3)))
theorem ks65 : KShape Tryz.prog 65 (Kd.slice 69 k69) (okList ok69) := ks_slice Tryz.underlying65 (by kernel_rfl) (by kernel_rfl) ks69
def ok67 (x : S67) : Prop := (okP okStr (okP (okInt .i64) (okList ok69))) (x.f0, x.f1, x.f2)
theorem ks67 : KShape Tryz.prog 67 k67 ok67 := ks_struct (g := fun a => ⟨a.1, a.2.1, a.2.2⟩) Tryz.underlying67 (by kernel_rfl) (fun _ => rfl) (kfc rfl ks9 (kfc rfl ks3 (kfo rfl ks65)))
theorem ks25 : KShape Tryz.prog 25 (Kd.slice 67 k67) (okList ok67) := ks_slice Tryz.underlying25 (by kernel_rfl) (by kernel_rfl) ks67
def ok71 (x : S71) : Prop := (okP (okInt .i64) (okInt .i64)) (x.f0, x.f1)
theorem ks71 : KShape Tryz.prog 71 k71 ok71 := ks_struct (g := fun a => ⟨a.1, a.2⟩) Tryz.underlying71 (by kernel_rfl) (fun _ => rfl) (kfc rfl ks3 (kfo rfl ks3))
theorem ks72 : KShape Tryz.prog 72 (Kd.slice 71 k71) (okList ok71) := ks_slice Tryz.underlying72 (by kernel_rfl) (by kernel_rfl) ks71
def ok74 (x : S74) : Prop := (okP ok71 (okList ok71)) (x.f0, x.f1)
theorem ks74 : KShape Tryz.prog 74 k74 ok74 := ks_struct (g := fun a => ⟨a.1, a.2⟩) Tryz.underlying74 (by kernel_rfl) (fun _ => rfl) (kfc rfl ks71 (kfo rfl ks72))
theorem ks26 : KShape Tryz.prog 26 (Kd.slice 74 k74) (okList ok74) := ks_slice Tryz.underlying26 (by kernel_rfl) (by kernel_rfl) ks74
def ok77 (x : S77) : Prop := (okP okStr (okP (okInt .i64) (okInt .i64))) (x.f0, x.f1, x.f2)
theorem ks77 : KShape Tryz.prog 77 k77 ok77 := ks_struct (g := fun a => ⟨a.1, a.2.1, a.2.2⟩) Tryz.underlying77 (by kernel_rfl) (fun _ => rfl) (kfc rfl ks9 (kfc rfl ks3 (kfo rfl ks3)))
theorem ks27 : KShape Tryz.prog 27 (Kd.slice 77 k77) (okList ok77) := ks_slice Tryz.underlying27 (by kernel_rfl) (by kernel_rfl) ks77
def ok30 (x : S30) : Prop := (okP okStr (okP (okList ok52) (okP (okList ok67) (okP (okInt .i64) (okP (okList ok74) (okP (okList ok77) (okList ok64))))))) (x.f0, x.f1, x.f2, x.f3, x.f4, x.f5, x.f6)
theorem ks30 : KShape Tryz.prog 30 k30 ok30 := ks_struct (g := fun a => ⟨a.1, a.2.1, a.2.2.1, a.2.2.2.1, a.2.2.2.2.1, a.2.2.2.2.2.1, a.2.2.2.2.2.2⟩) Tryz.underlying30 (by kernel_rfl) (fun _ => rfl) (kfc rfl ks9 (kfc rfl ks24 (kfc rfl ks25 (kfc rfl ks3 (kfc rfl ks26 (kfc rfl ks27 (kfo rfl ks28)))))))
end Go.Proofs.YthpdlgamicmhaaaGreat.PR
