/- The types that the laws' parameters meet. -/
import Derived.Test.YtbddgmikbpggeaaProg
import Derived.Test.YtbddgmikbpggeaaShape
namespace Go.Proofs.Ytbddgmikbpggeaa
open Go.RowKit

abbrev D3 := Int
abbrev R3 : Rep D3 := intR .i64
theorem shape3 : Shape Try.prog 3 R3 1 := shape_int Try.underlying3 (by kernel_rfl)

abbrev D5 := Nat
abbrev R5 : Rep D5 := natR .u8 256
theorem shape5 : Shape Try.prog 5 R5 1 := shape_nat 256 (fun n h => by have := bounds_u8 h; omega) Try.underlying5 (by kernel_rfl)

abbrev D9 := ByteArray
abbrev R9 : Rep D9 := strR
theorem shape9 : Shape Try.prog 9 R9 1 := shape_str Try.underlying9 (by kernel_rfl)

abbrev D22 := List D5
abbrev R22 : Rep D22 := sliceR 1 R5
theorem shape22 : Shape Try.prog 22 R22 1 := shape_slice Try.underlying22 (by kernel_rfl) shape5 (by omega)

abbrev D23 := Nat
abbrev R23 : Rep D23 := natR .u64 18446744073709551616
theorem shape23 : Shape Try.prog 23 R23 1 := shape_nat 18446744073709551616 (fun n h => by have := bounds_u64 h; omega) Try.underlying23 (by kernel_rfl)

abbrev D24 := Nat
abbrev R24 : Rep D24 := natR .u32 4294967296
theorem shape24 : Shape Try.prog 24 R24 1 := shape_nat 4294967296 (fun n h => by have := bounds_u32 h; omega) Try.underlying24 (by kernel_rfl)

abbrev D37 := Int
abbrev R37 : Rep D37 := intR .i64
theorem shape37 : Shape Try.prog 37 R37 1 := shape_int Try.underlying37 (by kernel_rfl)

abbrev D44 := List D23
abbrev R44 : Rep D44 := sliceR 1 R23
theorem shape44 : Shape Try.prog 44 R44 1 := shape_slice Try.underlying44 (by kernel_rfl) shape23 (by omega)

abbrev D45 := List D9
abbrev R45 : Rep D45 := sliceR 1 R9
theorem shape45 : Shape Try.prog 45 R45 1 := shape_slice Try.underlying45 (by kernel_rfl) shape9 (by omega)

abbrev D46 := List D24
abbrev R46 : Rep D46 := sliceR 1 R24
theorem shape46 : Shape Try.prog 46 R46 1 := shape_slice Try.underlying46 (by kernel_rfl) shape24 (by omega)

/- struct {Kind 3 @0, N 3 @1, Most 23 @2} -/
abbrev D61 := D3 × (D3 × (D23 × (Unit)))
abbrev R61 : Rep D61 := pairR R3 (pairR R3 (pairR R23 (unitR)))
theorem shape61 : Shape Try.prog 61 R61 3 := shape_struct Try.underlying61 (by kernel_rfl) (flds_cons (sz := 1) (s2 := 2) (by rfl) shape3 (flds_cons (sz := 1) (s2 := 1) (by rfl) shape3 (flds_cons (sz := 1) (s2 := 0) (by rfl) shape23 (flds_nil _ _))))

abbrev D57 := List D61
abbrev R57 : Rep D57 := sliceR 3 R61
theorem shape57 : Shape Try.prog 57 R57 1 := shape_slice Try.underlying57 (by kernel_rfl) shape61 (by omega)

abbrev D69 := List D3
abbrev R69 : Rep D69 := sliceR 1 R3
theorem shape69 : Shape Try.prog 69 R69 1 := shape_slice Try.underlying69 (by kernel_rfl) shape3 (by omega)

/- struct {Kind 3 @0, Part 3 @1, Tick 3 @2, K 3 @3, Words 46 @4} -/
abbrev D75 := D3 × (D3 × (D3 × (D3 × (D46 × (Unit)))))
abbrev R75 : Rep D75 := pairR R3 (pairR R3 (pairR R3 (pairR R3 (pairR R46 (unitR)))))
theorem shape75 : Shape Try.prog 75 R75 5 := shape_struct Try.underlying75 (by kernel_rfl) (flds_cons (sz := 1) (s2 := 4) (by rfl) shape3 (flds_cons (sz := 1) (s2 := 3) (by rfl) shape3 (flds_cons (sz := 1) (s2 := 2) (by rfl) shape3 (flds_cons (sz := 1) (s2 := 1) (by rfl) shape3 (flds_cons (sz := 1) (s2 := 0) (by rfl) shape46 (flds_nil _ _))))))

abbrev D70 := List D75
abbrev R70 : Rep D70 := sliceR 5 R75
theorem shape70 : Shape Try.prog 70 R70 1 := shape_slice Try.underlying70 (by kernel_rfl) shape75 (by omega)

/- struct {Tick 3 @0, Part 3 @1, Kind 3 @2, Proc 3 @3, Object 3 @4, E 37 @5, Words 46 @6} -/
abbrev D95 := D3 × (D3 × (D3 × (D3 × (D3 × (D37 × (D46 × (Unit)))))))
abbrev R95 : Rep D95 := pairR R3 (pairR R3 (pairR R3 (pairR R3 (pairR R3 (pairR R37 (pairR R46 (unitR)))))))
theorem shape95 : Shape Try.prog 95 R95 7 := shape_struct Try.underlying95 (by kernel_rfl) (flds_cons (sz := 1) (s2 := 6) (by rfl) shape3 (flds_cons (sz := 1) (s2 := 5) (by rfl) shape3 (flds_cons (sz := 1) (s2 := 4) (by rfl) shape3 (flds_cons (sz := 1) (s2 := 3) (by rfl) shape3 (flds_cons (sz := 1) (s2 := 2) (by rfl) shape3 (flds_cons (sz := 1) (s2 := 1) (by rfl) shape37 (flds_cons (sz := 1) (s2 := 0) (by rfl) shape46 (flds_nil _ _))))))))

abbrev D91 := List D95
abbrev R91 : Rep D91 := sliceR 7 R95
theorem shape91 : Shape Try.prog 91 R91 1 := shape_slice Try.underlying91 (by kernel_rfl) shape95 (by omega)

abbrev D92 := Nat
abbrev R92 : Rep D92 := natR .u16 65536
theorem shape92 : Shape Try.prog 92 R92 1 := shape_nat 65536 (fun n h => by have := bounds_u16 h; omega) Try.underlying92 (by kernel_rfl)

end Go.Proofs.Ytbddgmikbpggeaa
