/- Written by a program (pe.py): functions of the program as Lean functions, and that each call answers as they do. -/
import Derived.Test.YthpdlgamicmhaaaGreatPRx0
import Derived.Test.YthpdlgamicmhaaaGreatPRx14
import Derived.Test.YthpdlgamicmhaaaGreatPRx16
import Derived.Test.YthpdlgamicmhaaaGreatPRx17
import Derived.Test.YthpdlgamicmhaaaGreatPRx18
namespace Go.Proofs.YthpdlgamicmhaaaGreat.PR
open Go.RowKit Go.Proofs.YthpdlgamicmhaaaGreatW.PrintWords Go.Proofs.YthpdlgamicmhaaaGreatW.PrintLast Go.Proofs.YthpdlgamicmhaaaGreatW.PrintMore
attribute [local go_sem] max2_int min2_int max_two min_two max_three min_three max_four min_four   -- for this text's walks alone
set_option linter.unusedVariables false
set_option linter.unusedSimpArgs false

/-! ### book_Task_67__68: function 67 at book_Partition_Names_2 -/
def book_Task_67__68.f (l : List (S109)) : Option (List ByteArray) := if l.length < 8796093022208 then (mapO (fun x => book_Partition_Names_2.f (x.f0) (x.f1) (x.f2) (x.f3) (x.f4) (x.f5) (x.f6) (x.f7)) l) else none
set_option maxHeartbeats 4000000 in
set_option maxRecDepth 100000 in
theorem book_Task_67__68.calls (A0 : Option Addr) (c0 : Nat) (l : List (S109)) (r : List ByteArray) (w : World) (hr0 : Kd.C k109 w A0 l.length l) (hc0 : l.length ≤ c0) (h : book_Task_67__68.f l = some r) :
  Calls Tryz.prog 67 #[.slice A0 l.length c0, .func (.func 68) #[] #[]] w fun e w' => ∃ v0_ : Value, e = .returned (v0_) ∧ Kd.R Kd.string 9 w' w.heap.size (fun _ => True) v0_ r ∧ Below w.heap.size w w' := by
 unfold book_Task_67__68.f at h
 obtain ⟨hL, h2⟩ := if_some h
 clear h
 have HL := Aside0.mk hL
 have HR0 := Aside0.mk hr0
 have H0 : Aside0 (∃ m', mapO (fun x => book_Partition_Names_2.f (x.f0) (x.f1) (x.f2) (x.f3) (x.f4) (x.f5) (x.f6) (x.f7)) (l.drop 0) = some m' ∧ r = [] ++ m') := ⟨⟨r, by simpa using h2, rfl⟩⟩
 have hL2 : l.length ≤ 140737488351232 := by omega
 clear hr0 h2 hL
 go_enter Tryz.func67, Tryz.ntmps67
 go_wp2
 go_loopw [5, 10] (fun v5 v10 wr => ∃ (j : Nat) (m : List ByteArray), v10 = .int .i64 (j : Int) ∧ j ≤ l.length ∧ Aside0 (m.length = j) ∧ Aside0 (∃ m', mapO (fun x => book_Partition_Names_2.f (x.f0) (x.f1) (x.f2) (x.f3) (x.f4) (x.f5) (x.f6) (x.f7)) (l.drop j) = some m' ∧ r = m ++ m') ∧ Aside0 (Kd.R Kd.string 9 wr w.heap.size (fun _ => True) v5 m) ∧ Aside0 (Below w.heap.size w wr)) (fun _ v10 _ => l.length - (intOf v10).toNat)
 case atStart => exact ⟨0, [], rfl, Nat.zero_le _, ⟨rfl⟩, H0, ⟨Kd.R_nil _ _ _ _ _⟩, ⟨Below.refl _ _⟩⟩
 case round =>
  clear H0
  obtain ⟨j, m, rfl, hj, HM, HA, HO, HB⟩ := hrel
  by_cases hlt : j < l.length
  ·
   have p7 : (0 : Int) ≤ (j : Int) := by omega
   have q7 : (j : Int) < (l.length : Int) := by omega
   obtain ⟨m1, ha1, ha2⟩ := HA.out
   obtain ⟨b, m2, hb1, hb2, hb3⟩ := mapO_cons hlt ha1
   have HB1 := Aside0.mk hb1
   have HA2 : Aside0 (∃ m', mapO (fun x => book_Partition_Names_2.f (x.f0) (x.f1) (x.f2) (x.f3) (x.f4) (x.f5) (x.f6) (x.f7)) (l.drop (j + 1)) = some m' ∧ r = (m ++ [b]) ++ m') := ⟨⟨m2, hb2, by rw [ha2, hb3]; simp⟩⟩
   clear hb1 hb2 hb3 ha1 ha2 HA
   obtain ⟨ad7, e7, hx7_0, hx7_1, hx7_2, hx7_3, hx7_4, hx7_5, hx7_6, hx7_7⟩ := at_T109 HR0.out (j : Int) p7 q7
   cases e7
   replace hx7_0 := (HB.out.cell (World.block_lt_of_cell? w _ hx7_0)).trans hx7_0
   replace hx7_1 := (HB.out.cell (World.block_lt_of_cell? w _ hx7_1)).trans hx7_1
   replace hx7_2 := (HB.out.cell (World.block_lt_of_cell? w _ hx7_2)).trans hx7_2
   replace hx7_3 := (HB.out.cell (World.block_lt_of_cell? w _ hx7_3)).trans hx7_3
   replace hx7_4 := (HB.out.cell (World.block_lt_of_cell? w _ hx7_4)).trans hx7_4
   replace hx7_5 := (HB.out.cell (World.block_lt_of_cell? w _ hx7_5)).trans hx7_5
   replace hx7_6 := (HB.out.cell (World.block_lt_of_cell? w _ hx7_6)).trans hx7_6
   replace hx7_7 := (HB.out.cell (World.block_lt_of_cell? w _ hx7_7)).trans hx7_7
   have EX : Aside0 (rd_T109 l (j : Int) = l[j]) := ⟨by show l.getD _ _ = _; rw [Int.toNat_natCast, List.getD_eq_getElem?_getD, List.getElem?_eq_getElem hlt, Option.getD_some]⟩
   clear p7 q7
   generalize rd_T109 l (j : Int) = x at *
   have HC : Aside0 (book_Partition_Names_2.f (x.f0) (x.f1) (x.f2) (x.f3) (x.f4) (x.f5) (x.f6) (x.f7) = some b) := ⟨by rw [EX.out]; exact HB1.out⟩
   clear HB1 EX
   simp only [Int.toNat_natCast] at *
   have HB9 := Aside0.mk (below_alloc HB.out (.cells #[.string (x.f0), .int .i64 (x.f1), .int .i64 (x.f2), .int .i64 (x.f3), .int .i64 (x.f4), .int .i64 (x.f5), .int .i64 (x.f6), .int .i64 (x.f7)] 109))
   have HO9 := Aside0.mk (Kd.R_alloc HO.out (.cells #[.string (x.f0), .int .i64 (x.f1), .int .i64 (x.f2), .int .i64 (x.f3), .int .i64 (x.f4), .int .i64 (x.f5), .int .i64 (x.f6), .int .i64 (x.f7)] 109))
   go_wp2_with fail
   refine (book_Partition_Names_2.calls (x.f0) (x.f1) (x.f2) (x.f3) (x.f4) (x.f5) (x.f6) (x.f7) b _ HC.out).mono ?_
   rintro e w9 ⟨rfl, hb⟩
   have HB10 := Aside0.mk (below_step HB9.out hb)
   have HO10 := Aside0.mk (Kd.R_below HO9.out hb)
   clear hb HB HB9 HO HO9
   go_wp2_with (at_builtin; refine Kd.R_append Kd.string (w0 := w) w.heap.size rfl (.tmp 14) (.tmp 18) 36 9 (.string ⟨#[]⟩) 16 rfl Tryz.underlying36 info9 rfl (by decide) (by omega) _ m b [.string b] (fun _ => True) (fun _ => False) rfl rfl ?aP (fun _ hk => hk.elim) ?aF ?aO ?aB ?aS ?aL ?_; (case aP => exact rfl); (case aB => exact HB10.out); (case aF => exact (fun _ _ => trivial)); (case aO => exact HO10.out); (case aS => exact below_size HB10.out); (case aL => have := HL.out; have := HM.out; omega); intro v11 w11 ho11 hb11 hg hat; have HO11 := Aside0.mk ho11; have HB11 := Aside0.mk hb11; clear ho11 hb11 hg hat)
   go_roundw
   case rel => exact ⟨j + 1, m ++ [b], by go_num, by omega, ⟨by have := HM.out; simp; omega⟩, HA2, HO11, HB11⟩
   case measure => simp [intOf]; omega
  ·
   obtain rfl : j = l.length := by omega
   have hr : m = r := by
    obtain ⟨m1, ha1, ha2⟩ := HA.out
    rw [List.drop_length] at ha1
    simp [mapO] at ha1
    rw [ha2, ha1]; simp
   subst hr
   go_wp2
   go_ret
   exact ⟨_, rfl, HO.out, HB.out⟩

/-! ### book_Lock_69__70: function 69 at book_Partition_Names_3 -/
def book_Lock_69__70.f (l : List (S111)) : Option (List ByteArray) := if l.length < 8796093022208 then (mapO (fun x => book_Partition_Names_3.f (x.f0) (x.f1)) l) else none
set_option maxHeartbeats 4000000 in
set_option maxRecDepth 100000 in
theorem book_Lock_69__70.calls (A0 : Option Addr) (c0 : Nat) (l : List (S111)) (r : List ByteArray) (w : World) (hr0 : Kd.C k111 w A0 l.length l) (hc0 : l.length ≤ c0) (h : book_Lock_69__70.f l = some r) :
  Calls Tryz.prog 69 #[.slice A0 l.length c0, .func (.func 70) #[] #[]] w fun e w' => ∃ v0_ : Value, e = .returned (v0_) ∧ Kd.R Kd.string 9 w' w.heap.size (fun _ => True) v0_ r ∧ Below w.heap.size w w' := by
 unfold book_Lock_69__70.f at h
 obtain ⟨hL, h2⟩ := if_some h
 clear h
 have HL := Aside0.mk hL
 have HR0 := Aside0.mk hr0
 have H0 : Aside0 (∃ m', mapO (fun x => book_Partition_Names_3.f (x.f0) (x.f1)) (l.drop 0) = some m' ∧ r = [] ++ m') := ⟨⟨r, by simpa using h2, rfl⟩⟩
 have hL2 : l.length ≤ 140737488351232 := by omega
 clear hr0 h2 hL
 go_enter Tryz.func69, Tryz.ntmps69
 go_wp2
 go_loopw [5, 10] (fun v5 v10 wr => ∃ (j : Nat) (m : List ByteArray), v10 = .int .i64 (j : Int) ∧ j ≤ l.length ∧ Aside0 (m.length = j) ∧ Aside0 (∃ m', mapO (fun x => book_Partition_Names_3.f (x.f0) (x.f1)) (l.drop j) = some m' ∧ r = m ++ m') ∧ Aside0 (Kd.R Kd.string 9 wr w.heap.size (fun _ => True) v5 m) ∧ Aside0 (Below w.heap.size w wr)) (fun _ v10 _ => l.length - (intOf v10).toNat)
 case atStart => exact ⟨0, [], rfl, Nat.zero_le _, ⟨rfl⟩, H0, ⟨Kd.R_nil _ _ _ _ _⟩, ⟨Below.refl _ _⟩⟩
 case round =>
  clear H0
  obtain ⟨j, m, rfl, hj, HM, HA, HO, HB⟩ := hrel
  by_cases hlt : j < l.length
  ·
   have p7 : (0 : Int) ≤ (j : Int) := by omega
   have q7 : (j : Int) < (l.length : Int) := by omega
   obtain ⟨m1, ha1, ha2⟩ := HA.out
   obtain ⟨b, m2, hb1, hb2, hb3⟩ := mapO_cons hlt ha1
   have HB1 := Aside0.mk hb1
   have HA2 : Aside0 (∃ m', mapO (fun x => book_Partition_Names_3.f (x.f0) (x.f1)) (l.drop (j + 1)) = some m' ∧ r = (m ++ [b]) ++ m') := ⟨⟨m2, hb2, by rw [ha2, hb3]; simp⟩⟩
   clear hb1 hb2 hb3 ha1 ha2 HA
   obtain ⟨ad7, e7, hx7_0, hx7_1⟩ := at_T111 HR0.out (j : Int) p7 q7
   cases e7
   replace hx7_0 := (HB.out.cell (World.block_lt_of_cell? w _ hx7_0)).trans hx7_0
   replace hx7_1 := (HB.out.cell (World.block_lt_of_cell? w _ hx7_1)).trans hx7_1
   have EX : Aside0 (rd_T111 l (j : Int) = l[j]) := ⟨by show l.getD _ _ = _; rw [Int.toNat_natCast, List.getD_eq_getElem?_getD, List.getElem?_eq_getElem hlt, Option.getD_some]⟩
   clear p7 q7
   generalize rd_T111 l (j : Int) = x at *
   have HC : Aside0 (book_Partition_Names_3.f (x.f0) (x.f1) = some b) := ⟨by rw [EX.out]; exact HB1.out⟩
   clear HB1 EX
   simp only [Int.toNat_natCast] at *
   have HB9 := Aside0.mk (below_alloc HB.out (.cells #[.string (x.f0), .int .i64 (x.f1)] 111))
   have HO9 := Aside0.mk (Kd.R_alloc HO.out (.cells #[.string (x.f0), .int .i64 (x.f1)] 111))
   go_wp2_with fail
   refine (book_Partition_Names_3.calls (x.f0) (x.f1) b _ HC.out).mono ?_
   rintro e w9 ⟨rfl, hb⟩
   have HB10 := Aside0.mk (below_step HB9.out hb)
   have HO10 := Aside0.mk (Kd.R_below HO9.out hb)
   clear hb HB HB9 HO HO9
   go_wp2_with (at_builtin; refine Kd.R_append Kd.string (w0 := w) w.heap.size rfl (.tmp 14) (.tmp 18) 36 9 (.string ⟨#[]⟩) 16 rfl Tryz.underlying36 info9 rfl (by decide) (by omega) _ m b [.string b] (fun _ => True) (fun _ => False) rfl rfl ?aP (fun _ hk => hk.elim) ?aF ?aO ?aB ?aS ?aL ?_; (case aP => exact rfl); (case aB => exact HB10.out); (case aF => exact (fun _ _ => trivial)); (case aO => exact HO10.out); (case aS => exact below_size HB10.out); (case aL => have := HL.out; have := HM.out; omega); intro v11 w11 ho11 hb11 hg hat; have HO11 := Aside0.mk ho11; have HB11 := Aside0.mk hb11; clear ho11 hb11 hg hat)
   go_roundw
   case rel => exact ⟨j + 1, m ++ [b], by go_num, by omega, ⟨by have := HM.out; simp; omega⟩, HA2, HO11, HB11⟩
   case measure => simp [intOf]; omega
  ·
   obtain rfl : j = l.length := by omega
   have hr : m = r := by
    obtain ⟨m1, ha1, ha2⟩ := HA.out
    rw [List.drop_length] at ha1
    simp [mapO] at ha1
    rw [ha2, ha1]; simp
   subst hr
   go_wp2
   go_ret
   exact ⟨_, rfl, HO.out, HB.out⟩

/-! ### book_Sema_71__72: function 71 at book_Partition_Names_4 -/
def book_Sema_71__72.f (l : List (S113)) : Option (List ByteArray) := if l.length < 8796093022208 then (mapO (fun x => book_Partition_Names_4.f (x.f0) (x.f1) (x.f2) (x.f3)) l) else none
set_option maxHeartbeats 4000000 in
set_option maxRecDepth 100000 in
theorem book_Sema_71__72.calls (A0 : Option Addr) (c0 : Nat) (l : List (S113)) (r : List ByteArray) (w : World) (hr0 : Kd.C k113 w A0 l.length l) (hc0 : l.length ≤ c0) (h : book_Sema_71__72.f l = some r) :
  Calls Tryz.prog 71 #[.slice A0 l.length c0, .func (.func 72) #[] #[]] w fun e w' => ∃ v0_ : Value, e = .returned (v0_) ∧ Kd.R Kd.string 9 w' w.heap.size (fun _ => True) v0_ r ∧ Below w.heap.size w w' := by
 unfold book_Sema_71__72.f at h
 obtain ⟨hL, h2⟩ := if_some h
 clear h
 have HL := Aside0.mk hL
 have HR0 := Aside0.mk hr0
 have H0 : Aside0 (∃ m', mapO (fun x => book_Partition_Names_4.f (x.f0) (x.f1) (x.f2) (x.f3)) (l.drop 0) = some m' ∧ r = [] ++ m') := ⟨⟨r, by simpa using h2, rfl⟩⟩
 have hL2 : l.length ≤ 140737488351232 := by omega
 clear hr0 h2 hL
 go_enter Tryz.func71, Tryz.ntmps71
 go_wp2
 go_loopw [5, 10] (fun v5 v10 wr => ∃ (j : Nat) (m : List ByteArray), v10 = .int .i64 (j : Int) ∧ j ≤ l.length ∧ Aside0 (m.length = j) ∧ Aside0 (∃ m', mapO (fun x => book_Partition_Names_4.f (x.f0) (x.f1) (x.f2) (x.f3)) (l.drop j) = some m' ∧ r = m ++ m') ∧ Aside0 (Kd.R Kd.string 9 wr w.heap.size (fun _ => True) v5 m) ∧ Aside0 (Below w.heap.size w wr)) (fun _ v10 _ => l.length - (intOf v10).toNat)
 case atStart => exact ⟨0, [], rfl, Nat.zero_le _, ⟨rfl⟩, H0, ⟨Kd.R_nil _ _ _ _ _⟩, ⟨Below.refl _ _⟩⟩
 case round =>
  clear H0
  obtain ⟨j, m, rfl, hj, HM, HA, HO, HB⟩ := hrel
  by_cases hlt : j < l.length
  ·
   have p7 : (0 : Int) ≤ (j : Int) := by omega
   have q7 : (j : Int) < (l.length : Int) := by omega
   obtain ⟨m1, ha1, ha2⟩ := HA.out
   obtain ⟨b, m2, hb1, hb2, hb3⟩ := mapO_cons hlt ha1
   have HB1 := Aside0.mk hb1
   have HA2 : Aside0 (∃ m', mapO (fun x => book_Partition_Names_4.f (x.f0) (x.f1) (x.f2) (x.f3)) (l.drop (j + 1)) = some m' ∧ r = (m ++ [b]) ++ m') := ⟨⟨m2, hb2, by rw [ha2, hb3]; simp⟩⟩
   clear hb1 hb2 hb3 ha1 ha2 HA
   obtain ⟨ad7, e7, hx7_0, hx7_1, hx7_2, hx7_3⟩ := at_T113 HR0.out (j : Int) p7 q7
   cases e7
   replace hx7_0 := (HB.out.cell (World.block_lt_of_cell? w _ hx7_0)).trans hx7_0
   replace hx7_1 := (HB.out.cell (World.block_lt_of_cell? w _ hx7_1)).trans hx7_1
   replace hx7_2 := (HB.out.cell (World.block_lt_of_cell? w _ hx7_2)).trans hx7_2
   replace hx7_3 := (HB.out.cell (World.block_lt_of_cell? w _ hx7_3)).trans hx7_3
   have EX : Aside0 (rd_T113 l (j : Int) = l[j]) := ⟨by show l.getD _ _ = _; rw [Int.toNat_natCast, List.getD_eq_getElem?_getD, List.getElem?_eq_getElem hlt, Option.getD_some]⟩
   clear p7 q7
   generalize rd_T113 l (j : Int) = x at *
   have HC : Aside0 (book_Partition_Names_4.f (x.f0) (x.f1) (x.f2) (x.f3) = some b) := ⟨by rw [EX.out]; exact HB1.out⟩
   clear HB1 EX
   simp only [Int.toNat_natCast] at *
   have HB9 := Aside0.mk (below_alloc HB.out (.cells #[.string (x.f0), .int .i64 (x.f1), .int .i64 (x.f2), .bool (x.f3)] 113))
   have HO9 := Aside0.mk (Kd.R_alloc HO.out (.cells #[.string (x.f0), .int .i64 (x.f1), .int .i64 (x.f2), .bool (x.f3)] 113))
   go_wp2_with fail
   refine (book_Partition_Names_4.calls (x.f0) (x.f1) (x.f2) (x.f3) b _ HC.out).mono ?_
   rintro e w9 ⟨rfl, hb⟩
   have HB10 := Aside0.mk (below_step HB9.out hb)
   have HO10 := Aside0.mk (Kd.R_below HO9.out hb)
   clear hb HB HB9 HO HO9
   go_wp2_with (at_builtin; refine Kd.R_append Kd.string (w0 := w) w.heap.size rfl (.tmp 14) (.tmp 18) 36 9 (.string ⟨#[]⟩) 16 rfl Tryz.underlying36 info9 rfl (by decide) (by omega) _ m b [.string b] (fun _ => True) (fun _ => False) rfl rfl ?aP (fun _ hk => hk.elim) ?aF ?aO ?aB ?aS ?aL ?_; (case aP => exact rfl); (case aB => exact HB10.out); (case aF => exact (fun _ _ => trivial)); (case aO => exact HO10.out); (case aS => exact below_size HB10.out); (case aL => have := HL.out; have := HM.out; omega); intro v11 w11 ho11 hb11 hg hat; have HO11 := Aside0.mk ho11; have HB11 := Aside0.mk hb11; clear ho11 hb11 hg hat)
   go_roundw
   case rel => exact ⟨j + 1, m ++ [b], by go_num, by omega, ⟨by have := HM.out; simp; omega⟩, HA2, HO11, HB11⟩
   case measure => simp [intOf]; omega
  ·
   obtain rfl : j = l.length := by omega
   have hr : m = r := by
    obtain ⟨m1, ha1, ha2⟩ := HA.out
    rw [List.drop_length] at ha1
    simp [mapO] at ha1
    rw [ha2, ha1]; simp
   subst hr
   go_wp2
   go_ret
   exact ⟨_, rfl, HO.out, HB.out⟩

/-! ### book_Event_73__74: function 73 at book_Partition_Names_5 -/
def book_Event_73__74.f (l : List (S115)) : Option (List ByteArray) := if l.length < 8796093022208 then (mapO (fun x => book_Partition_Names_5.f (x.f0)) l) else none
set_option maxHeartbeats 4000000 in
set_option maxRecDepth 100000 in
theorem book_Event_73__74.calls (A0 : Option Addr) (c0 : Nat) (l : List (S115)) (r : List ByteArray) (w : World) (hr0 : Kd.C k115 w A0 l.length l) (hc0 : l.length ≤ c0) (h : book_Event_73__74.f l = some r) :
  Calls Tryz.prog 73 #[.slice A0 l.length c0, .func (.func 74) #[] #[]] w fun e w' => ∃ v0_ : Value, e = .returned (v0_) ∧ Kd.R Kd.string 9 w' w.heap.size (fun _ => True) v0_ r ∧ Below w.heap.size w w' := by
 unfold book_Event_73__74.f at h
 obtain ⟨hL, h2⟩ := if_some h
 clear h
 have HL := Aside0.mk hL
 have HR0 := Aside0.mk hr0
 have H0 : Aside0 (∃ m', mapO (fun x => book_Partition_Names_5.f (x.f0)) (l.drop 0) = some m' ∧ r = [] ++ m') := ⟨⟨r, by simpa using h2, rfl⟩⟩
 have hL2 : l.length ≤ 140737488351232 := by omega
 clear hr0 h2 hL
 go_enter Tryz.func73, Tryz.ntmps73
 go_wp2
 go_loopw [5, 10] (fun v5 v10 wr => ∃ (j : Nat) (m : List ByteArray), v10 = .int .i64 (j : Int) ∧ j ≤ l.length ∧ Aside0 (m.length = j) ∧ Aside0 (∃ m', mapO (fun x => book_Partition_Names_5.f (x.f0)) (l.drop j) = some m' ∧ r = m ++ m') ∧ Aside0 (Kd.R Kd.string 9 wr w.heap.size (fun _ => True) v5 m) ∧ Aside0 (Below w.heap.size w wr)) (fun _ v10 _ => l.length - (intOf v10).toNat)
 case atStart => exact ⟨0, [], rfl, Nat.zero_le _, ⟨rfl⟩, H0, ⟨Kd.R_nil _ _ _ _ _⟩, ⟨Below.refl _ _⟩⟩
 case round =>
  clear H0
  obtain ⟨j, m, rfl, hj, HM, HA, HO, HB⟩ := hrel
  by_cases hlt : j < l.length
  ·
   have p7 : (0 : Int) ≤ (j : Int) := by omega
   have q7 : (j : Int) < (l.length : Int) := by omega
   obtain ⟨m1, ha1, ha2⟩ := HA.out
   obtain ⟨b, m2, hb1, hb2, hb3⟩ := mapO_cons hlt ha1
   have HB1 := Aside0.mk hb1
   have HA2 : Aside0 (∃ m', mapO (fun x => book_Partition_Names_5.f (x.f0)) (l.drop (j + 1)) = some m' ∧ r = (m ++ [b]) ++ m') := ⟨⟨m2, hb2, by rw [ha2, hb3]; simp⟩⟩
   clear hb1 hb2 hb3 ha1 ha2 HA
   obtain ⟨ad7, e7, hx7_0⟩ := at_T115 HR0.out (j : Int) p7 q7
   cases e7
   replace hx7_0 := (HB.out.cell (World.block_lt_of_cell? w _ hx7_0)).trans hx7_0
   have EX : Aside0 (rd_T115 l (j : Int) = l[j]) := ⟨by show l.getD _ _ = _; rw [Int.toNat_natCast, List.getD_eq_getElem?_getD, List.getElem?_eq_getElem hlt, Option.getD_some]⟩
   clear p7 q7
   generalize rd_T115 l (j : Int) = x at *
   have HC : Aside0 (book_Partition_Names_5.f (x.f0) = some b) := ⟨by rw [EX.out]; exact HB1.out⟩
   clear HB1 EX
   simp only [Int.toNat_natCast] at *
   have HB9 := Aside0.mk (below_alloc HB.out (.cells #[.string (x.f0)] 115))
   have HO9 := Aside0.mk (Kd.R_alloc HO.out (.cells #[.string (x.f0)] 115))
   go_wp2_with fail
   refine (book_Partition_Names_5.calls (x.f0) b _ HC.out).mono ?_
   rintro e w9 ⟨rfl, hb⟩
   have HB10 := Aside0.mk (below_step HB9.out hb)
   have HO10 := Aside0.mk (Kd.R_below HO9.out hb)
   clear hb HB HB9 HO HO9
   go_wp2_with (at_builtin; refine Kd.R_append Kd.string (w0 := w) w.heap.size rfl (.tmp 14) (.tmp 18) 36 9 (.string ⟨#[]⟩) 16 rfl Tryz.underlying36 info9 rfl (by decide) (by omega) _ m b [.string b] (fun _ => True) (fun _ => False) rfl rfl ?aP (fun _ hk => hk.elim) ?aF ?aO ?aB ?aS ?aL ?_; (case aP => exact rfl); (case aB => exact HB10.out); (case aF => exact (fun _ _ => trivial)); (case aO => exact HO10.out); (case aS => exact below_size HB10.out); (case aL => have := HL.out; have := HM.out; omega); intro v11 w11 ho11 hb11 hg hat; have HO11 := Aside0.mk ho11; have HB11 := Aside0.mk hb11; clear ho11 hb11 hg hat)
   go_roundw
   case rel => exact ⟨j + 1, m ++ [b], by go_num, by omega, ⟨by have := HM.out; simp; omega⟩, HA2, HO11, HB11⟩
   case measure => simp [intOf]; omega
  ·
   obtain rfl : j = l.length := by omega
   have hr : m = r := by
    obtain ⟨m1, ha1, ha2⟩ := HA.out
    rw [List.drop_length] at ha1
    simp [mapO] at ha1
    rw [ha2, ha1]; simp
   subst hr
   go_wp2
   go_ret
   exact ⟨_, rfl, HO.out, HB.out⟩

/-! ### book_Board_75__76: function 75 at book_Partition_Names_6 -/
def book_Board_75__76.f (l : List (S117)) : Option (List ByteArray) := if l.length < 8796093022208 then (mapO (fun x => book_Partition_Names_6.f (x.f0) (x.f1)) l) else none
set_option maxHeartbeats 4000000 in
set_option maxRecDepth 100000 in
theorem book_Board_75__76.calls (A0 : Option Addr) (c0 : Nat) (l : List (S117)) (r : List ByteArray) (w : World) (hr0 : Kd.C k117 w A0 l.length l) (hc0 : l.length ≤ c0) (h : book_Board_75__76.f l = some r) :
  Calls Tryz.prog 75 #[.slice A0 l.length c0, .func (.func 76) #[] #[]] w fun e w' => ∃ v0_ : Value, e = .returned (v0_) ∧ Kd.R Kd.string 9 w' w.heap.size (fun _ => True) v0_ r ∧ Below w.heap.size w w' := by
 unfold book_Board_75__76.f at h
 obtain ⟨hL, h2⟩ := if_some h
 clear h
 have HL := Aside0.mk hL
 have HR0 := Aside0.mk hr0
 have H0 : Aside0 (∃ m', mapO (fun x => book_Partition_Names_6.f (x.f0) (x.f1)) (l.drop 0) = some m' ∧ r = [] ++ m') := ⟨⟨r, by simpa using h2, rfl⟩⟩
 have hL2 : l.length ≤ 140737488351232 := by omega
 clear hr0 h2 hL
 go_enter Tryz.func75, Tryz.ntmps75
 go_wp2
 go_loopw [5, 10] (fun v5 v10 wr => ∃ (j : Nat) (m : List ByteArray), v10 = .int .i64 (j : Int) ∧ j ≤ l.length ∧ Aside0 (m.length = j) ∧ Aside0 (∃ m', mapO (fun x => book_Partition_Names_6.f (x.f0) (x.f1)) (l.drop j) = some m' ∧ r = m ++ m') ∧ Aside0 (Kd.R Kd.string 9 wr w.heap.size (fun _ => True) v5 m) ∧ Aside0 (Below w.heap.size w wr)) (fun _ v10 _ => l.length - (intOf v10).toNat)
 case atStart => exact ⟨0, [], rfl, Nat.zero_le _, ⟨rfl⟩, H0, ⟨Kd.R_nil _ _ _ _ _⟩, ⟨Below.refl _ _⟩⟩
 case round =>
  clear H0
  obtain ⟨j, m, rfl, hj, HM, HA, HO, HB⟩ := hrel
  by_cases hlt : j < l.length
  ·
   have p7 : (0 : Int) ≤ (j : Int) := by omega
   have q7 : (j : Int) < (l.length : Int) := by omega
   obtain ⟨m1, ha1, ha2⟩ := HA.out
   obtain ⟨b, m2, hb1, hb2, hb3⟩ := mapO_cons hlt ha1
   have HB1 := Aside0.mk hb1
   have HA2 : Aside0 (∃ m', mapO (fun x => book_Partition_Names_6.f (x.f0) (x.f1)) (l.drop (j + 1)) = some m' ∧ r = (m ++ [b]) ++ m') := ⟨⟨m2, hb2, by rw [ha2, hb3]; simp⟩⟩
   clear hb1 hb2 hb3 ha1 ha2 HA
   obtain ⟨ad7, e7, hx7_0, hx7_1⟩ := at_T117 HR0.out (j : Int) p7 q7
   cases e7
   replace hx7_0 := (HB.out.cell (World.block_lt_of_cell? w _ hx7_0)).trans hx7_0
   replace hx7_1 := (HB.out.cell (World.block_lt_of_cell? w _ hx7_1)).trans hx7_1
   have EX : Aside0 (rd_T117 l (j : Int) = l[j]) := ⟨by show l.getD _ _ = _; rw [Int.toNat_natCast, List.getD_eq_getElem?_getD, List.getElem?_eq_getElem hlt, Option.getD_some]⟩
   clear p7 q7
   generalize rd_T117 l (j : Int) = x at *
   have HC : Aside0 (book_Partition_Names_6.f (x.f0) (x.f1) = some b) := ⟨by rw [EX.out]; exact HB1.out⟩
   clear HB1 EX
   simp only [Int.toNat_natCast] at *
   have HB9 := Aside0.mk (below_alloc HB.out (.cells #[.string (x.f0), .int .i64 (x.f1)] 117))
   have HO9 := Aside0.mk (Kd.R_alloc HO.out (.cells #[.string (x.f0), .int .i64 (x.f1)] 117))
   go_wp2_with fail
   refine (book_Partition_Names_6.calls (x.f0) (x.f1) b _ HC.out).mono ?_
   rintro e w9 ⟨rfl, hb⟩
   have HB10 := Aside0.mk (below_step HB9.out hb)
   have HO10 := Aside0.mk (Kd.R_below HO9.out hb)
   clear hb HB HB9 HO HO9
   go_wp2_with (at_builtin; refine Kd.R_append Kd.string (w0 := w) w.heap.size rfl (.tmp 14) (.tmp 18) 36 9 (.string ⟨#[]⟩) 16 rfl Tryz.underlying36 info9 rfl (by decide) (by omega) _ m b [.string b] (fun _ => True) (fun _ => False) rfl rfl ?aP (fun _ hk => hk.elim) ?aF ?aO ?aB ?aS ?aL ?_; (case aP => exact rfl); (case aB => exact HB10.out); (case aF => exact (fun _ _ => trivial)); (case aO => exact HO10.out); (case aS => exact below_size HB10.out); (case aL => have := HL.out; have := HM.out; omega); intro v11 w11 ho11 hb11 hg hat; have HO11 := Aside0.mk ho11; have HB11 := Aside0.mk hb11; clear ho11 hb11 hg hat)
   go_roundw
   case rel => exact ⟨j + 1, m ++ [b], by go_num, by omega, ⟨by have := HM.out; simp; omega⟩, HA2, HO11, HB11⟩
   case measure => simp [intOf]; omega
  ·
   obtain rfl : j = l.length := by omega
   have hr : m = r := by
    obtain ⟨m1, ha1, ha2⟩ := HA.out
    rw [List.drop_length] at ha1
    simp [mapO] at ha1
    rw [ha2, ha1]; simp
   subst hr
   go_wp2
   go_ret
   exact ⟨_, rfl, HO.out, HB.out⟩

/-! ### book_Buffer_77__78: function 77 at book_Partition_Names_7 -/
def book_Buffer_77__78.f (l : List (S119)) : Option (List ByteArray) := if l.length < 8796093022208 then (mapO (fun x => book_Partition_Names_7.f (x.f0) (x.f1) (x.f2) (x.f3)) l) else none
set_option maxHeartbeats 4000000 in
set_option maxRecDepth 100000 in
theorem book_Buffer_77__78.calls (A0 : Option Addr) (c0 : Nat) (l : List (S119)) (r : List ByteArray) (w : World) (hr0 : Kd.C k119 w A0 l.length l) (hc0 : l.length ≤ c0) (h : book_Buffer_77__78.f l = some r) :
  Calls Tryz.prog 77 #[.slice A0 l.length c0, .func (.func 78) #[] #[]] w fun e w' => ∃ v0_ : Value, e = .returned (v0_) ∧ Kd.R Kd.string 9 w' w.heap.size (fun _ => True) v0_ r ∧ Below w.heap.size w w' := by
 unfold book_Buffer_77__78.f at h
 obtain ⟨hL, h2⟩ := if_some h
 clear h
 have HL := Aside0.mk hL
 have HR0 := Aside0.mk hr0
 have H0 : Aside0 (∃ m', mapO (fun x => book_Partition_Names_7.f (x.f0) (x.f1) (x.f2) (x.f3)) (l.drop 0) = some m' ∧ r = [] ++ m') := ⟨⟨r, by simpa using h2, rfl⟩⟩
 have hL2 : l.length ≤ 140737488351232 := by omega
 clear hr0 h2 hL
 go_enter Tryz.func77, Tryz.ntmps77
 go_wp2
 go_loopw [5, 10] (fun v5 v10 wr => ∃ (j : Nat) (m : List ByteArray), v10 = .int .i64 (j : Int) ∧ j ≤ l.length ∧ Aside0 (m.length = j) ∧ Aside0 (∃ m', mapO (fun x => book_Partition_Names_7.f (x.f0) (x.f1) (x.f2) (x.f3)) (l.drop j) = some m' ∧ r = m ++ m') ∧ Aside0 (Kd.R Kd.string 9 wr w.heap.size (fun _ => True) v5 m) ∧ Aside0 (Below w.heap.size w wr)) (fun _ v10 _ => l.length - (intOf v10).toNat)
 case atStart => exact ⟨0, [], rfl, Nat.zero_le _, ⟨rfl⟩, H0, ⟨Kd.R_nil _ _ _ _ _⟩, ⟨Below.refl _ _⟩⟩
 case round =>
  clear H0
  obtain ⟨j, m, rfl, hj, HM, HA, HO, HB⟩ := hrel
  by_cases hlt : j < l.length
  ·
   have p7 : (0 : Int) ≤ (j : Int) := by omega
   have q7 : (j : Int) < (l.length : Int) := by omega
   obtain ⟨m1, ha1, ha2⟩ := HA.out
   obtain ⟨b, m2, hb1, hb2, hb3⟩ := mapO_cons hlt ha1
   have HB1 := Aside0.mk hb1
   have HA2 : Aside0 (∃ m', mapO (fun x => book_Partition_Names_7.f (x.f0) (x.f1) (x.f2) (x.f3)) (l.drop (j + 1)) = some m' ∧ r = (m ++ [b]) ++ m') := ⟨⟨m2, hb2, by rw [ha2, hb3]; simp⟩⟩
   clear hb1 hb2 hb3 ha1 ha2 HA
   obtain ⟨ad7, e7, hx7_0, hx7_1, hx7_2, hx7_3⟩ := at_T119 HR0.out (j : Int) p7 q7
   cases e7
   replace hx7_0 := (HB.out.cell (World.block_lt_of_cell? w _ hx7_0)).trans hx7_0
   replace hx7_1 := (HB.out.cell (World.block_lt_of_cell? w _ hx7_1)).trans hx7_1
   replace hx7_2 := (HB.out.cell (World.block_lt_of_cell? w _ hx7_2)).trans hx7_2
   replace hx7_3 := (HB.out.cell (World.block_lt_of_cell? w _ hx7_3)).trans hx7_3
   have EX : Aside0 (rd_T119 l (j : Int) = l[j]) := ⟨by show l.getD _ _ = _; rw [Int.toNat_natCast, List.getD_eq_getElem?_getD, List.getElem?_eq_getElem hlt, Option.getD_some]⟩
   clear p7 q7
   generalize rd_T119 l (j : Int) = x at *
   have HC : Aside0 (book_Partition_Names_7.f (x.f0) (x.f1) (x.f2) (x.f3) = some b) := ⟨by rw [EX.out]; exact HB1.out⟩
   clear HB1 EX
   simp only [Int.toNat_natCast] at *
   have HB9 := Aside0.mk (below_alloc HB.out (.cells #[.string (x.f0), .int .i64 (x.f1), .int .i64 (x.f2), .bool (x.f3)] 119))
   have HO9 := Aside0.mk (Kd.R_alloc HO.out (.cells #[.string (x.f0), .int .i64 (x.f1), .int .i64 (x.f2), .bool (x.f3)] 119))
   go_wp2_with fail
   refine (book_Partition_Names_7.calls (x.f0) (x.f1) (x.f2) (x.f3) b _ HC.out).mono ?_
   rintro e w9 ⟨rfl, hb⟩
   have HB10 := Aside0.mk (below_step HB9.out hb)
   have HO10 := Aside0.mk (Kd.R_below HO9.out hb)
   clear hb HB HB9 HO HO9
   go_wp2_with (at_builtin; refine Kd.R_append Kd.string (w0 := w) w.heap.size rfl (.tmp 14) (.tmp 18) 36 9 (.string ⟨#[]⟩) 16 rfl Tryz.underlying36 info9 rfl (by decide) (by omega) _ m b [.string b] (fun _ => True) (fun _ => False) rfl rfl ?aP (fun _ hk => hk.elim) ?aF ?aO ?aB ?aS ?aL ?_; (case aP => exact rfl); (case aB => exact HB10.out); (case aF => exact (fun _ _ => trivial)); (case aO => exact HO10.out); (case aS => exact below_size HB10.out); (case aL => have := HL.out; have := HM.out; omega); intro v11 w11 ho11 hb11 hg hat; have HO11 := Aside0.mk ho11; have HB11 := Aside0.mk hb11; clear ho11 hb11 hg hat)
   go_roundw
   case rel => exact ⟨j + 1, m ++ [b], by go_num, by omega, ⟨by have := HM.out; simp; omega⟩, HA2, HO11, HB11⟩
   case measure => simp [intOf]; omega
  ·
   obtain rfl : j = l.length := by omega
   have hr : m = r := by
    obtain ⟨m1, ha1, ha2⟩ := HA.out
    rw [List.drop_length] at ha1
    simp [mapO] at ha1
    rw [ha2, ha1]; simp
   subst hr
   go_wp2
   go_ret
   exact ⟨_, rfl, HO.out, HB.out⟩

/-! ### book_Port_79__80: function 79 at book_Partition_Names_8 -/
def book_Port_79__80.f (l : List (S60)) : Option (List ByteArray) := if l.length < 8796093022208 then (mapO (fun x => book_Partition_Names_8.f (x.f0) (x.f1) (x.f2) (x.f3) (x.f4) (x.f5)) l) else none
set_option maxHeartbeats 4000000 in
set_option maxRecDepth 100000 in
theorem book_Port_79__80.calls (A0 : Option Addr) (c0 : Nat) (l : List (S60)) (r : List ByteArray) (w : World) (hr0 : Kd.C k60 w A0 l.length l) (hc0 : l.length ≤ c0) (h : book_Port_79__80.f l = some r) :
  Calls Tryz.prog 79 #[.slice A0 l.length c0, .func (.func 80) #[] #[]] w fun e w' => ∃ v0_ : Value, e = .returned (v0_) ∧ Kd.R Kd.string 9 w' w.heap.size (fun _ => True) v0_ r ∧ Below w.heap.size w w' := by
 unfold book_Port_79__80.f at h
 obtain ⟨hL, h2⟩ := if_some h
 clear h
 have HL := Aside0.mk hL
 have HR0 := Aside0.mk hr0
 have H0 : Aside0 (∃ m', mapO (fun x => book_Partition_Names_8.f (x.f0) (x.f1) (x.f2) (x.f3) (x.f4) (x.f5)) (l.drop 0) = some m' ∧ r = [] ++ m') := ⟨⟨r, by simpa using h2, rfl⟩⟩
 have hL2 : l.length ≤ 140737488351232 := by omega
 clear hr0 h2 hL
 go_enter Tryz.func79, Tryz.ntmps79
 go_wp2
 go_loopw [5, 10] (fun v5 v10 wr => ∃ (j : Nat) (m : List ByteArray), v10 = .int .i64 (j : Int) ∧ j ≤ l.length ∧ Aside0 (m.length = j) ∧ Aside0 (∃ m', mapO (fun x => book_Partition_Names_8.f (x.f0) (x.f1) (x.f2) (x.f3) (x.f4) (x.f5)) (l.drop j) = some m' ∧ r = m ++ m') ∧ Aside0 (Kd.R Kd.string 9 wr w.heap.size (fun _ => True) v5 m) ∧ Aside0 (Below w.heap.size w wr)) (fun _ v10 _ => l.length - (intOf v10).toNat)
 case atStart => exact ⟨0, [], rfl, Nat.zero_le _, ⟨rfl⟩, H0, ⟨Kd.R_nil _ _ _ _ _⟩, ⟨Below.refl _ _⟩⟩
 case round =>
  clear H0
  obtain ⟨j, m, rfl, hj, HM, HA, HO, HB⟩ := hrel
  by_cases hlt : j < l.length
  ·
   have p7 : (0 : Int) ≤ (j : Int) := by omega
   have q7 : (j : Int) < (l.length : Int) := by omega
   obtain ⟨m1, ha1, ha2⟩ := HA.out
   obtain ⟨b, m2, hb1, hb2, hb3⟩ := mapO_cons hlt ha1
   have HB1 := Aside0.mk hb1
   have HA2 : Aside0 (∃ m', mapO (fun x => book_Partition_Names_8.f (x.f0) (x.f1) (x.f2) (x.f3) (x.f4) (x.f5)) (l.drop (j + 1)) = some m' ∧ r = (m ++ [b]) ++ m') := ⟨⟨m2, hb2, by rw [ha2, hb3]; simp⟩⟩
   clear hb1 hb2 hb3 ha1 ha2 HA
   obtain ⟨ad7, e7, hx7_0, hx7_1, hx7_2, hx7_3, hx7_4, hx7_5⟩ := at_T60 HR0.out (j : Int) p7 q7
   cases e7
   replace hx7_0 := (HB.out.cell (World.block_lt_of_cell? w _ hx7_0)).trans hx7_0
   replace hx7_1 := (HB.out.cell (World.block_lt_of_cell? w _ hx7_1)).trans hx7_1
   replace hx7_2 := (HB.out.cell (World.block_lt_of_cell? w _ hx7_2)).trans hx7_2
   replace hx7_3 := (HB.out.cell (World.block_lt_of_cell? w _ hx7_3)).trans hx7_3
   replace hx7_4 := (HB.out.cell (World.block_lt_of_cell? w _ hx7_4)).trans hx7_4
   replace hx7_5 := (HB.out.cell (World.block_lt_of_cell? w _ hx7_5)).trans hx7_5
   have EX : Aside0 (rd_T60 l (j : Int) = l[j]) := ⟨by show l.getD _ _ = _; rw [Int.toNat_natCast, List.getD_eq_getElem?_getD, List.getElem?_eq_getElem hlt, Option.getD_some]⟩
   clear p7 q7
   generalize rd_T60 l (j : Int) = x at *
   have HC : Aside0 (book_Partition_Names_8.f (x.f0) (x.f1) (x.f2) (x.f3) (x.f4) (x.f5) = some b) := ⟨by rw [EX.out]; exact HB1.out⟩
   clear HB1 EX
   simp only [Int.toNat_natCast] at *
   have HB9 := Aside0.mk (below_alloc HB.out (.cells #[.string (x.f0), .bool (x.f1), .bool (x.f2), .int .i64 (x.f3), .int .i64 (x.f4), .int .i64 (x.f5)] 60))
   have HO9 := Aside0.mk (Kd.R_alloc HO.out (.cells #[.string (x.f0), .bool (x.f1), .bool (x.f2), .int .i64 (x.f3), .int .i64 (x.f4), .int .i64 (x.f5)] 60))
   go_wp2_with fail
   refine (book_Partition_Names_8.calls (x.f0) (x.f1) (x.f2) (x.f3) (x.f4) (x.f5) b _ HC.out).mono ?_
   rintro e w9 ⟨rfl, hb⟩
   have HB10 := Aside0.mk (below_step HB9.out hb)
   have HO10 := Aside0.mk (Kd.R_below HO9.out hb)
   clear hb HB HB9 HO HO9
   go_wp2_with (at_builtin; refine Kd.R_append Kd.string (w0 := w) w.heap.size rfl (.tmp 14) (.tmp 18) 36 9 (.string ⟨#[]⟩) 16 rfl Tryz.underlying36 info9 rfl (by decide) (by omega) _ m b [.string b] (fun _ => True) (fun _ => False) rfl rfl ?aP (fun _ hk => hk.elim) ?aF ?aO ?aB ?aS ?aL ?_; (case aP => exact rfl); (case aB => exact HB10.out); (case aF => exact (fun _ _ => trivial)); (case aO => exact HO10.out); (case aS => exact below_size HB10.out); (case aL => have := HL.out; have := HM.out; omega); intro v11 w11 ho11 hb11 hg hat; have HO11 := Aside0.mk ho11; have HB11 := Aside0.mk hb11; clear ho11 hb11 hg hat)
   go_roundw
   case rel => exact ⟨j + 1, m ++ [b], by go_num, by omega, ⟨by have := HM.out; simp; omega⟩, HA2, HO11, HB11⟩
   case measure => simp [intOf]; omega
  ·
   obtain rfl : j = l.length := by omega
   have hr : m = r := by
    obtain ⟨m1, ha1, ha2⟩ := HA.out
    rw [List.drop_length] at ha1
    simp [mapO] at ha1
    rw [ha2, ha1]; simp
   subst hr
   go_wp2
   go_ret
   exact ⟨_, rfl, HO.out, HB.out⟩

/-! ### book_Partition_Names: function 26 -/
def book_Partition_Names.f (a0_0 : ByteArray) (l0_1 : List (S62)) (l0_2 : List (S109)) (l0_3 : List (S111)) (l0_4 : List (S113)) (l0_5 : List (S115)) (l0_6 : List (S117)) (l0_7 : List (S119)) (l0_8 : List (S60)) (l0_9 : List (S64)) (a0_10 : Int) (a0_11 : Int) (a0_12 : Int) (a1 : ByteArray) : Option (List ByteArray) := if a1.toList = ([97, 114, 101, 97] : List UInt8) then ((book_Area_65__66.f l0_1).bind fun t277 => (some t277)) else (if a1.toList = ([116, 97, 115, 107] : List UInt8) then ((book_Task_67__68.f l0_2).bind fun t280 => (some t280)) else (if a1.toList = ([108, 111, 99, 107] : List UInt8) then ((book_Lock_69__70.f l0_3).bind fun t283 => (some t283)) else (if a1.toList = ([115, 101, 109, 97] : List UInt8) then ((book_Sema_71__72.f l0_4).bind fun t286 => (some t286)) else (if a1.toList = ([101, 118, 101, 110, 116] : List UInt8) then ((book_Event_73__74.f l0_5).bind fun t289 => (some t289)) else (if a1.toList = ([98, 111, 97, 114, 100] : List UInt8) then ((book_Board_75__76.f l0_6).bind fun t292 => (some t292)) else (if a1.toList = ([98, 117, 102, 102, 101, 114] : List UInt8) then ((book_Buffer_77__78.f l0_7).bind fun t295 => (some t295)) else (if a1.toList = ([112, 111, 114, 116] : List UInt8) then ((book_Port_79__80.f l0_8).bind fun t298 => (some t298)) else (some ([] : List ByteArray)))))))))
set_option maxHeartbeats 8000000 in
set_option maxRecDepth 100000 in
theorem book_Partition_Names.calls (a0_0 : ByteArray) (A0_1 : Option Addr) (c0_1 : Nat) (l0_1 : List (S62)) (A0_2 : Option Addr) (c0_2 : Nat) (l0_2 : List (S109)) (A0_3 : Option Addr) (c0_3 : Nat) (l0_3 : List (S111)) (A0_4 : Option Addr) (c0_4 : Nat) (l0_4 : List (S113)) (A0_5 : Option Addr) (c0_5 : Nat) (l0_5 : List (S115)) (A0_6 : Option Addr) (c0_6 : Nat) (l0_6 : List (S117)) (A0_7 : Option Addr) (c0_7 : Nat) (l0_7 : List (S119)) (A0_8 : Option Addr) (c0_8 : Nat) (l0_8 : List (S60)) (A0_9 : Option Addr) (c0_9 : Nat) (l0_9 : List (S64)) (a0_10 : Int) (a0_11 : Int) (a0_12 : Int) (a1 : ByteArray) (r : List ByteArray) (w : World) (hr0_1 : Kd.C k62 w A0_1 l0_1.length l0_1) (hc0_1 : l0_1.length ≤ c0_1) (hr0_2 : Kd.C k109 w A0_2 l0_2.length l0_2) (hc0_2 : l0_2.length ≤ c0_2) (hr0_3 : Kd.C k111 w A0_3 l0_3.length l0_3) (hc0_3 : l0_3.length ≤ c0_3) (hr0_4 : Kd.C k113 w A0_4 l0_4.length l0_4) (hc0_4 : l0_4.length ≤ c0_4) (hr0_5 : Kd.C k115 w A0_5 l0_5.length l0_5) (hc0_5 : l0_5.length ≤ c0_5) (hr0_6 : Kd.C k117 w A0_6 l0_6.length l0_6) (hc0_6 : l0_6.length ≤ c0_6) (hr0_7 : Kd.C k119 w A0_7 l0_7.length l0_7) (hc0_7 : l0_7.length ≤ c0_7) (hr0_8 : Kd.C k60 w A0_8 l0_8.length l0_8) (hc0_8 : l0_8.length ≤ c0_8) (hr0_9 : Kd.C k64 w A0_9 l0_9.length l0_9) (hc0_9 : l0_9.length ≤ c0_9) (h : book_Partition_Names.f a0_0 l0_1 l0_2 l0_3 l0_4 l0_5 l0_6 l0_7 l0_8 l0_9 a0_10 a0_11 a0_12 a1 = some r) :
    Calls Tryz.prog 26 #[.agg #[.string a0_0, .slice A0_1 l0_1.length c0_1, .slice A0_2 l0_2.length c0_2, .slice A0_3 l0_3.length c0_3, .slice A0_4 l0_4.length c0_4, .slice A0_5 l0_5.length c0_5, .slice A0_6 l0_6.length c0_6, .slice A0_7 l0_7.length c0_7, .slice A0_8 l0_8.length c0_8, .slice A0_9 l0_9.length c0_9, .int .i64 a0_10, .int .i64 a0_11, .int .i64 a0_12], .string a1] w fun e w' => ∃ v0_ : Value, e = .returned (v0_) ∧ Kd.R Kd.string 9 w' w.heap.size (fun _ => True) v0_ r ∧ Below w.heap.size w w' := by
 have HR0_1 := Aside0.mk hr0_1; have HC0_1 := Aside0.mk hc0_1; clear hr0_1 hc0_1; have HR0_2 := Aside0.mk hr0_2; have HC0_2 := Aside0.mk hc0_2; clear hr0_2 hc0_2; have HR0_3 := Aside0.mk hr0_3; have HC0_3 := Aside0.mk hc0_3; clear hr0_3 hc0_3; have HR0_4 := Aside0.mk hr0_4; have HC0_4 := Aside0.mk hc0_4; clear hr0_4 hc0_4; have HR0_5 := Aside0.mk hr0_5; have HC0_5 := Aside0.mk hc0_5; clear hr0_5 hc0_5; have HR0_6 := Aside0.mk hr0_6; have HC0_6 := Aside0.mk hc0_6; clear hr0_6 hc0_6; have HR0_7 := Aside0.mk hr0_7; have HC0_7 := Aside0.mk hc0_7; clear hr0_7 hc0_7; have HR0_8 := Aside0.mk hr0_8; have HC0_8 := Aside0.mk hc0_8; clear hr0_8 hc0_8; have HR0_9 := Aside0.mk hr0_9; have HC0_9 := Aside0.mk hc0_9; clear hr0_9 hc0_9; unfold book_Partition_Names.f at h; have H := Aside0.mk h; clear h; have HB := Aside0.mk (Below.refl w.heap.size w); have hu52 := Tryz.underlying52; go_enter Tryz.func26, Tryz.ntmps26; by_cases c395 : a1.toList = ([97, 114, 101, 97] : List UInt8)
 · replace H := a0p c395 H; have c395b0 : (a1.toList == ([97, 114, 101, 97] : List UInt8)) = true := beq_iff_eq.mpr c395; have c395b1 : (a1.toList != ([97, 114, 101, 97] : List UInt8)) = false := bne_eq_false_iff_eq.mpr c395; have Kc395 := Aside0.mk c395; clear c395; have BK394 := Aside0.mk (pe_box0 w #[.string a0_0, .slice A0_1 l0_1.length c0_1, .slice A0_2 l0_2.length c0_2, .slice A0_3 l0_3.length c0_3, .slice A0_4 l0_4.length c0_4, .slice A0_5 l0_5.length c0_5, .slice A0_6 l0_6.length c0_6, .slice A0_7 l0_7.length c0_7, .slice A0_8 l0_8.length c0_8, .slice A0_9 l0_9.length c0_9, .int .i64 a0_10, .int .i64 a0_11, .int .i64 a0_12] 52); replace HB := Aside0.mk (below_alloc HB.out (.cells #[.string a0_0, .slice A0_1 l0_1.length c0_1, .slice A0_2 l0_2.length c0_2, .slice A0_3 l0_3.length c0_3, .slice A0_4 l0_4.length c0_4, .slice A0_5 l0_5.length c0_5, .slice A0_6 l0_6.length c0_6, .slice A0_7 l0_7.length c0_7, .slice A0_8 l0_8.length c0_8, .slice A0_9 l0_9.length c0_9, .int .i64 a0_10, .int .i64 a0_11, .int .i64 a0_12] 52)); obtain ⟨t277, q396, H1⟩ := a0b H; clear H; have H := H1; clear H1; go_wp2_with fail; (with_reducible refine (book_Area_65__66.calls _ _ l0_1 t277 _ (Kd.C_below HR0_1.out HB.out) HC0_1.out q396.out).mono ?_); clear q396; (rintro e w397 ⟨v_397, rfl, ho, hb⟩); have HO279 := Aside0.mk (Kd.R_lower ho (HB.out : Below _ _ _).size); obtain ⟨A_HO279, c_HO279, e_HO279⟩ := Kd.R_slice HO279.out; subst e_HO279; clear ho; replace HB := Aside0.mk (below_step HB.out hb); replace BK394 := Aside0.mk (blk_below BK394.out hb); clear hb; have Z394 := blk13 BK394.out; obtain rfl := Option.some.inj H.out; go_wp2; go_ret; exact ⟨_, rfl, HO279.out, HB.out⟩
 · replace H := a0n c395 H; have c395b0 : (a1.toList == ([97, 114, 101, 97] : List UInt8)) = false := beq_eq_false_iff_ne.mpr c395; have c395b1 : (a1.toList != ([97, 114, 101, 97] : List UInt8)) = true := bne_iff_ne.mpr c395; have Kc395 := Aside0.mk c395; clear c395; by_cases c398 : a1.toList = ([116, 97, 115, 107] : List UInt8)
   · replace H := a0p c398 H; have c398b0 : (a1.toList == ([116, 97, 115, 107] : List UInt8)) = true := beq_iff_eq.mpr c398; have c398b1 : (a1.toList != ([116, 97, 115, 107] : List UInt8)) = false := bne_eq_false_iff_eq.mpr c398; have Kc398 := Aside0.mk c398; clear c398; have BK394 := Aside0.mk (pe_box0 w #[.string a0_0, .slice A0_1 l0_1.length c0_1, .slice A0_2 l0_2.length c0_2, .slice A0_3 l0_3.length c0_3, .slice A0_4 l0_4.length c0_4, .slice A0_5 l0_5.length c0_5, .slice A0_6 l0_6.length c0_6, .slice A0_7 l0_7.length c0_7, .slice A0_8 l0_8.length c0_8, .slice A0_9 l0_9.length c0_9, .int .i64 a0_10, .int .i64 a0_11, .int .i64 a0_12] 52); replace HB := Aside0.mk (below_alloc HB.out (.cells #[.string a0_0, .slice A0_1 l0_1.length c0_1, .slice A0_2 l0_2.length c0_2, .slice A0_3 l0_3.length c0_3, .slice A0_4 l0_4.length c0_4, .slice A0_5 l0_5.length c0_5, .slice A0_6 l0_6.length c0_6, .slice A0_7 l0_7.length c0_7, .slice A0_8 l0_8.length c0_8, .slice A0_9 l0_9.length c0_9, .int .i64 a0_10, .int .i64 a0_11, .int .i64 a0_12] 52)); obtain ⟨t280, q399, H1⟩ := a0b H; clear H; have H := H1; clear H1; go_wp2_with fail; (with_reducible refine (book_Task_67__68.calls _ _ l0_2 t280 _ (Kd.C_below HR0_2.out HB.out) HC0_2.out q399.out).mono ?_); clear q399; (rintro e w400 ⟨v_400, rfl, ho, hb⟩); have HO282 := Aside0.mk (Kd.R_lower ho (HB.out : Below _ _ _).size); obtain ⟨A_HO282, c_HO282, e_HO282⟩ := Kd.R_slice HO282.out; subst e_HO282; clear ho; replace HB := Aside0.mk (below_step HB.out hb); replace BK394 := Aside0.mk (blk_below BK394.out hb); clear hb; have Z394 := blk13 BK394.out; obtain rfl := Option.some.inj H.out; go_wp2; go_ret; exact ⟨_, rfl, HO282.out, HB.out⟩
   · replace H := a0n c398 H; have c398b0 : (a1.toList == ([116, 97, 115, 107] : List UInt8)) = false := beq_eq_false_iff_ne.mpr c398; have c398b1 : (a1.toList != ([116, 97, 115, 107] : List UInt8)) = true := bne_iff_ne.mpr c398; have Kc398 := Aside0.mk c398; clear c398; by_cases c401 : a1.toList = ([108, 111, 99, 107] : List UInt8)
     · replace H := a0p c401 H; have c401b0 : (a1.toList == ([108, 111, 99, 107] : List UInt8)) = true := beq_iff_eq.mpr c401; have c401b1 : (a1.toList != ([108, 111, 99, 107] : List UInt8)) = false := bne_eq_false_iff_eq.mpr c401; have Kc401 := Aside0.mk c401; clear c401; have BK394 := Aside0.mk (pe_box0 w #[.string a0_0, .slice A0_1 l0_1.length c0_1, .slice A0_2 l0_2.length c0_2, .slice A0_3 l0_3.length c0_3, .slice A0_4 l0_4.length c0_4, .slice A0_5 l0_5.length c0_5, .slice A0_6 l0_6.length c0_6, .slice A0_7 l0_7.length c0_7, .slice A0_8 l0_8.length c0_8, .slice A0_9 l0_9.length c0_9, .int .i64 a0_10, .int .i64 a0_11, .int .i64 a0_12] 52); replace HB := Aside0.mk (below_alloc HB.out (.cells #[.string a0_0, .slice A0_1 l0_1.length c0_1, .slice A0_2 l0_2.length c0_2, .slice A0_3 l0_3.length c0_3, .slice A0_4 l0_4.length c0_4, .slice A0_5 l0_5.length c0_5, .slice A0_6 l0_6.length c0_6, .slice A0_7 l0_7.length c0_7, .slice A0_8 l0_8.length c0_8, .slice A0_9 l0_9.length c0_9, .int .i64 a0_10, .int .i64 a0_11, .int .i64 a0_12] 52)); obtain ⟨t283, q402, H1⟩ := a0b H; clear H; have H := H1; clear H1; go_wp2_with fail; (with_reducible refine (book_Lock_69__70.calls _ _ l0_3 t283 _ (Kd.C_below HR0_3.out HB.out) HC0_3.out q402.out).mono ?_); clear q402; (rintro e w403 ⟨v_403, rfl, ho, hb⟩); have HO285 := Aside0.mk (Kd.R_lower ho (HB.out : Below _ _ _).size); obtain ⟨A_HO285, c_HO285, e_HO285⟩ := Kd.R_slice HO285.out; subst e_HO285; clear ho; replace HB := Aside0.mk (below_step HB.out hb); replace BK394 := Aside0.mk (blk_below BK394.out hb); clear hb; have Z394 := blk13 BK394.out; obtain rfl := Option.some.inj H.out; go_wp2; go_ret; exact ⟨_, rfl, HO285.out, HB.out⟩
     · replace H := a0n c401 H; have c401b0 : (a1.toList == ([108, 111, 99, 107] : List UInt8)) = false := beq_eq_false_iff_ne.mpr c401; have c401b1 : (a1.toList != ([108, 111, 99, 107] : List UInt8)) = true := bne_iff_ne.mpr c401; have Kc401 := Aside0.mk c401; clear c401; by_cases c404 : a1.toList = ([115, 101, 109, 97] : List UInt8)
       · replace H := a0p c404 H; have c404b0 : (a1.toList == ([115, 101, 109, 97] : List UInt8)) = true := beq_iff_eq.mpr c404; have c404b1 : (a1.toList != ([115, 101, 109, 97] : List UInt8)) = false := bne_eq_false_iff_eq.mpr c404; have Kc404 := Aside0.mk c404; clear c404; have BK394 := Aside0.mk (pe_box0 w #[.string a0_0, .slice A0_1 l0_1.length c0_1, .slice A0_2 l0_2.length c0_2, .slice A0_3 l0_3.length c0_3, .slice A0_4 l0_4.length c0_4, .slice A0_5 l0_5.length c0_5, .slice A0_6 l0_6.length c0_6, .slice A0_7 l0_7.length c0_7, .slice A0_8 l0_8.length c0_8, .slice A0_9 l0_9.length c0_9, .int .i64 a0_10, .int .i64 a0_11, .int .i64 a0_12] 52); replace HB := Aside0.mk (below_alloc HB.out (.cells #[.string a0_0, .slice A0_1 l0_1.length c0_1, .slice A0_2 l0_2.length c0_2, .slice A0_3 l0_3.length c0_3, .slice A0_4 l0_4.length c0_4, .slice A0_5 l0_5.length c0_5, .slice A0_6 l0_6.length c0_6, .slice A0_7 l0_7.length c0_7, .slice A0_8 l0_8.length c0_8, .slice A0_9 l0_9.length c0_9, .int .i64 a0_10, .int .i64 a0_11, .int .i64 a0_12] 52)); obtain ⟨t286, q405, H1⟩ := a0b H; clear H; have H := H1; clear H1; go_wp2_with fail; (with_reducible refine (book_Sema_71__72.calls _ _ l0_4 t286 _ (Kd.C_below HR0_4.out HB.out) HC0_4.out q405.out).mono ?_); clear q405; (rintro e w406 ⟨v_406, rfl, ho, hb⟩); have HO288 := Aside0.mk (Kd.R_lower ho (HB.out : Below _ _ _).size); obtain ⟨A_HO288, c_HO288, e_HO288⟩ := Kd.R_slice HO288.out; subst e_HO288; clear ho; replace HB := Aside0.mk (below_step HB.out hb); replace BK394 := Aside0.mk (blk_below BK394.out hb); clear hb; have Z394 := blk13 BK394.out; obtain rfl := Option.some.inj H.out; go_wp2; go_ret; exact ⟨_, rfl, HO288.out, HB.out⟩
       · replace H := a0n c404 H; have c404b0 : (a1.toList == ([115, 101, 109, 97] : List UInt8)) = false := beq_eq_false_iff_ne.mpr c404; have c404b1 : (a1.toList != ([115, 101, 109, 97] : List UInt8)) = true := bne_iff_ne.mpr c404; have Kc404 := Aside0.mk c404; clear c404; by_cases c407 : a1.toList = ([101, 118, 101, 110, 116] : List UInt8)
         · replace H := a0p c407 H; have c407b0 : (a1.toList == ([101, 118, 101, 110, 116] : List UInt8)) = true := beq_iff_eq.mpr c407; have c407b1 : (a1.toList != ([101, 118, 101, 110, 116] : List UInt8)) = false := bne_eq_false_iff_eq.mpr c407; have Kc407 := Aside0.mk c407; clear c407; have BK394 := Aside0.mk (pe_box0 w #[.string a0_0, .slice A0_1 l0_1.length c0_1, .slice A0_2 l0_2.length c0_2, .slice A0_3 l0_3.length c0_3, .slice A0_4 l0_4.length c0_4, .slice A0_5 l0_5.length c0_5, .slice A0_6 l0_6.length c0_6, .slice A0_7 l0_7.length c0_7, .slice A0_8 l0_8.length c0_8, .slice A0_9 l0_9.length c0_9, .int .i64 a0_10, .int .i64 a0_11, .int .i64 a0_12] 52); replace HB := Aside0.mk (below_alloc HB.out (.cells #[.string a0_0, .slice A0_1 l0_1.length c0_1, .slice A0_2 l0_2.length c0_2, .slice A0_3 l0_3.length c0_3, .slice A0_4 l0_4.length c0_4, .slice A0_5 l0_5.length c0_5, .slice A0_6 l0_6.length c0_6, .slice A0_7 l0_7.length c0_7, .slice A0_8 l0_8.length c0_8, .slice A0_9 l0_9.length c0_9, .int .i64 a0_10, .int .i64 a0_11, .int .i64 a0_12] 52)); obtain ⟨t289, q408, H1⟩ := a0b H; clear H; have H := H1; clear H1; go_wp2_with fail; (with_reducible refine (book_Event_73__74.calls _ _ l0_5 t289 _ (Kd.C_below HR0_5.out HB.out) HC0_5.out q408.out).mono ?_); clear q408; (rintro e w409 ⟨v_409, rfl, ho, hb⟩); have HO291 := Aside0.mk (Kd.R_lower ho (HB.out : Below _ _ _).size); obtain ⟨A_HO291, c_HO291, e_HO291⟩ := Kd.R_slice HO291.out; subst e_HO291; clear ho; replace HB := Aside0.mk (below_step HB.out hb); replace BK394 := Aside0.mk (blk_below BK394.out hb); clear hb; have Z394 := blk13 BK394.out; obtain rfl := Option.some.inj H.out; go_wp2; go_ret; exact ⟨_, rfl, HO291.out, HB.out⟩
         · replace H := a0n c407 H; have c407b0 : (a1.toList == ([101, 118, 101, 110, 116] : List UInt8)) = false := beq_eq_false_iff_ne.mpr c407; have c407b1 : (a1.toList != ([101, 118, 101, 110, 116] : List UInt8)) = true := bne_iff_ne.mpr c407; have Kc407 := Aside0.mk c407; clear c407; by_cases c410 : a1.toList = ([98, 111, 97, 114, 100] : List UInt8)
           · replace H := a0p c410 H; have c410b0 : (a1.toList == ([98, 111, 97, 114, 100] : List UInt8)) = true := beq_iff_eq.mpr c410; have c410b1 : (a1.toList != ([98, 111, 97, 114, 100] : List UInt8)) = false := bne_eq_false_iff_eq.mpr c410; have Kc410 := Aside0.mk c410; clear c410; have BK394 := Aside0.mk (pe_box0 w #[.string a0_0, .slice A0_1 l0_1.length c0_1, .slice A0_2 l0_2.length c0_2, .slice A0_3 l0_3.length c0_3, .slice A0_4 l0_4.length c0_4, .slice A0_5 l0_5.length c0_5, .slice A0_6 l0_6.length c0_6, .slice A0_7 l0_7.length c0_7, .slice A0_8 l0_8.length c0_8, .slice A0_9 l0_9.length c0_9, .int .i64 a0_10, .int .i64 a0_11, .int .i64 a0_12] 52); replace HB := Aside0.mk (below_alloc HB.out (.cells #[.string a0_0, .slice A0_1 l0_1.length c0_1, .slice A0_2 l0_2.length c0_2, .slice A0_3 l0_3.length c0_3, .slice A0_4 l0_4.length c0_4, .slice A0_5 l0_5.length c0_5, .slice A0_6 l0_6.length c0_6, .slice A0_7 l0_7.length c0_7, .slice A0_8 l0_8.length c0_8, .slice A0_9 l0_9.length c0_9, .int .i64 a0_10, .int .i64 a0_11, .int .i64 a0_12] 52)); obtain ⟨t292, q411, H1⟩ := a0b H; clear H; have H := H1; clear H1; go_wp2_with fail; (with_reducible refine (book_Board_75__76.calls _ _ l0_6 t292 _ (Kd.C_below HR0_6.out HB.out) HC0_6.out q411.out).mono ?_); clear q411; (rintro e w412 ⟨v_412, rfl, ho, hb⟩); have HO294 := Aside0.mk (Kd.R_lower ho (HB.out : Below _ _ _).size); obtain ⟨A_HO294, c_HO294, e_HO294⟩ := Kd.R_slice HO294.out; subst e_HO294; clear ho; replace HB := Aside0.mk (below_step HB.out hb); replace BK394 := Aside0.mk (blk_below BK394.out hb); clear hb; have Z394 := blk13 BK394.out; obtain rfl := Option.some.inj H.out; go_wp2; go_ret; exact ⟨_, rfl, HO294.out, HB.out⟩
           · replace H := a0n c410 H; have c410b0 : (a1.toList == ([98, 111, 97, 114, 100] : List UInt8)) = false := beq_eq_false_iff_ne.mpr c410; have c410b1 : (a1.toList != ([98, 111, 97, 114, 100] : List UInt8)) = true := bne_iff_ne.mpr c410; have Kc410 := Aside0.mk c410; clear c410; by_cases c413 : a1.toList = ([98, 117, 102, 102, 101, 114] : List UInt8)
             · replace H := a0p c413 H; have c413b0 : (a1.toList == ([98, 117, 102, 102, 101, 114] : List UInt8)) = true := beq_iff_eq.mpr c413; have c413b1 : (a1.toList != ([98, 117, 102, 102, 101, 114] : List UInt8)) = false := bne_eq_false_iff_eq.mpr c413; have Kc413 := Aside0.mk c413; clear c413; have BK394 := Aside0.mk (pe_box0 w #[.string a0_0, .slice A0_1 l0_1.length c0_1, .slice A0_2 l0_2.length c0_2, .slice A0_3 l0_3.length c0_3, .slice A0_4 l0_4.length c0_4, .slice A0_5 l0_5.length c0_5, .slice A0_6 l0_6.length c0_6, .slice A0_7 l0_7.length c0_7, .slice A0_8 l0_8.length c0_8, .slice A0_9 l0_9.length c0_9, .int .i64 a0_10, .int .i64 a0_11, .int .i64 a0_12] 52); replace HB := Aside0.mk (below_alloc HB.out (.cells #[.string a0_0, .slice A0_1 l0_1.length c0_1, .slice A0_2 l0_2.length c0_2, .slice A0_3 l0_3.length c0_3, .slice A0_4 l0_4.length c0_4, .slice A0_5 l0_5.length c0_5, .slice A0_6 l0_6.length c0_6, .slice A0_7 l0_7.length c0_7, .slice A0_8 l0_8.length c0_8, .slice A0_9 l0_9.length c0_9, .int .i64 a0_10, .int .i64 a0_11, .int .i64 a0_12] 52)); obtain ⟨t295, q414, H1⟩ := a0b H; clear H; have H := H1; clear H1; go_wp2_with fail; (with_reducible refine (book_Buffer_77__78.calls _ _ l0_7 t295 _ (Kd.C_below HR0_7.out HB.out) HC0_7.out q414.out).mono ?_); clear q414; (rintro e w415 ⟨v_415, rfl, ho, hb⟩); have HO297 := Aside0.mk (Kd.R_lower ho (HB.out : Below _ _ _).size); obtain ⟨A_HO297, c_HO297, e_HO297⟩ := Kd.R_slice HO297.out; subst e_HO297; clear ho; replace HB := Aside0.mk (below_step HB.out hb); replace BK394 := Aside0.mk (blk_below BK394.out hb); clear hb; have Z394 := blk13 BK394.out; obtain rfl := Option.some.inj H.out; go_wp2; go_ret; exact ⟨_, rfl, HO297.out, HB.out⟩
             · replace H := a0n c413 H; have c413b0 : (a1.toList == ([98, 117, 102, 102, 101, 114] : List UInt8)) = false := beq_eq_false_iff_ne.mpr c413; have c413b1 : (a1.toList != ([98, 117, 102, 102, 101, 114] : List UInt8)) = true := bne_iff_ne.mpr c413; have Kc413 := Aside0.mk c413; clear c413; by_cases c416 : a1.toList = ([112, 111, 114, 116] : List UInt8)
               · replace H := a0p c416 H; have c416b0 : (a1.toList == ([112, 111, 114, 116] : List UInt8)) = true := beq_iff_eq.mpr c416; have c416b1 : (a1.toList != ([112, 111, 114, 116] : List UInt8)) = false := bne_eq_false_iff_eq.mpr c416; have Kc416 := Aside0.mk c416; clear c416; have BK394 := Aside0.mk (pe_box0 w #[.string a0_0, .slice A0_1 l0_1.length c0_1, .slice A0_2 l0_2.length c0_2, .slice A0_3 l0_3.length c0_3, .slice A0_4 l0_4.length c0_4, .slice A0_5 l0_5.length c0_5, .slice A0_6 l0_6.length c0_6, .slice A0_7 l0_7.length c0_7, .slice A0_8 l0_8.length c0_8, .slice A0_9 l0_9.length c0_9, .int .i64 a0_10, .int .i64 a0_11, .int .i64 a0_12] 52); replace HB := Aside0.mk (below_alloc HB.out (.cells #[.string a0_0, .slice A0_1 l0_1.length c0_1, .slice A0_2 l0_2.length c0_2, .slice A0_3 l0_3.length c0_3, .slice A0_4 l0_4.length c0_4, .slice A0_5 l0_5.length c0_5, .slice A0_6 l0_6.length c0_6, .slice A0_7 l0_7.length c0_7, .slice A0_8 l0_8.length c0_8, .slice A0_9 l0_9.length c0_9, .int .i64 a0_10, .int .i64 a0_11, .int .i64 a0_12] 52)); obtain ⟨t298, q417, H1⟩ := a0b H; clear H; have H := H1; clear H1; go_wp2_with fail; (with_reducible refine (book_Port_79__80.calls _ _ l0_8 t298 _ (Kd.C_below HR0_8.out HB.out) HC0_8.out q417.out).mono ?_); clear q417; (rintro e w418 ⟨v_418, rfl, ho, hb⟩); have HO300 := Aside0.mk (Kd.R_lower ho (HB.out : Below _ _ _).size); obtain ⟨A_HO300, c_HO300, e_HO300⟩ := Kd.R_slice HO300.out; subst e_HO300; clear ho; replace HB := Aside0.mk (below_step HB.out hb); replace BK394 := Aside0.mk (blk_below BK394.out hb); clear hb; have Z394 := blk13 BK394.out; obtain rfl := Option.some.inj H.out; go_wp2; go_ret; exact ⟨_, rfl, HO300.out, HB.out⟩
               · replace H := a0n c416 H; have c416b0 : (a1.toList == ([112, 111, 114, 116] : List UInt8)) = false := beq_eq_false_iff_ne.mpr c416; have c416b1 : (a1.toList != ([112, 111, 114, 116] : List UInt8)) = true := bne_iff_ne.mpr c416; have Kc416 := Aside0.mk c416; clear c416; have BK394 := Aside0.mk (pe_box0 w #[.string a0_0, .slice A0_1 l0_1.length c0_1, .slice A0_2 l0_2.length c0_2, .slice A0_3 l0_3.length c0_3, .slice A0_4 l0_4.length c0_4, .slice A0_5 l0_5.length c0_5, .slice A0_6 l0_6.length c0_6, .slice A0_7 l0_7.length c0_7, .slice A0_8 l0_8.length c0_8, .slice A0_9 l0_9.length c0_9, .int .i64 a0_10, .int .i64 a0_11, .int .i64 a0_12] 52); replace HB := Aside0.mk (below_alloc HB.out (.cells #[.string a0_0, .slice A0_1 l0_1.length c0_1, .slice A0_2 l0_2.length c0_2, .slice A0_3 l0_3.length c0_3, .slice A0_4 l0_4.length c0_4, .slice A0_5 l0_5.length c0_5, .slice A0_6 l0_6.length c0_6, .slice A0_7 l0_7.length c0_7, .slice A0_8 l0_8.length c0_8, .slice A0_9 l0_9.length c0_9, .int .i64 a0_10, .int .i64 a0_11, .int .i64 a0_12] 52)); obtain rfl := Option.some.inj H.out; go_wp2; go_ret; exact ⟨_, rfl, Kd.R_nil _ _ _ _ _, HB.out⟩

/-! ### book_Partition_Find: function 27 -/
def book_Partition_Find.f (k : Nat) (a0_0 : ByteArray) (l0_1 : List (S62)) (l0_2 : List (S109)) (l0_3 : List (S111)) (l0_4 : List (S113)) (l0_5 : List (S115)) (l0_6 : List (S117)) (l0_7 : List (S119)) (l0_8 : List (S60)) (l0_9 : List (S64)) (a0_10 : Int) (a0_11 : Int) (a0_12 : Int) (a1 : ByteArray) (a2 : ByteArray) : Option (Int) := (book_Partition_Names.f a0_0 l0_1 l0_2 l0_3 l0_4 l0_5 l0_6 l0_7 l0_8 l0_9 a0_10 a0_11 a0_12 a1).bind fun t302 => ((slices_Index_string_string.f k t302 a2).bind fun t305 => (some t305))
theorem book_Partition_Find.mono : ∀ a0 a1 a2 a3 a4 a5 a6 a7 a8 a9 a10 a11 a12 a13 a14 k, LeO (book_Partition_Find.f k a0 a1 a2 a3 a4 a5 a6 a7 a8 a9 a10 a11 a12 a13 a14) (book_Partition_Find.f (k + 1) a0 a1 a2 a3 a4 a5 a6 a7 a8 a9 a10 a11 a12 a13 a14) := by
  intro a0 a1 a2 a3 a4 a5 a6 a7 a8 a9 a10 a11 a12 a13 a14 k
  unfold book_Partition_Find.f
  repeat' first | (with_reducible apply slices_Index_string_string.mono) | (with_reducible exact LeO.refl _) | (with_reducible exact LeO.none _) | (with_reducible refine LeO.ite ?_ ?_) | (with_reducible refine LeO.bind ?_ (fun _ => ?_)) | apply LeO.none | apply LeO.ite | (refine LeO.bind ?_ (fun _ => ?_))
set_option maxHeartbeats 8000000 in
set_option maxRecDepth 100000 in
theorem book_Partition_Find.calls (k : Nat) (a0_0 : ByteArray) (A0_1 : Option Addr) (c0_1 : Nat) (l0_1 : List (S62)) (A0_2 : Option Addr) (c0_2 : Nat) (l0_2 : List (S109)) (A0_3 : Option Addr) (c0_3 : Nat) (l0_3 : List (S111)) (A0_4 : Option Addr) (c0_4 : Nat) (l0_4 : List (S113)) (A0_5 : Option Addr) (c0_5 : Nat) (l0_5 : List (S115)) (A0_6 : Option Addr) (c0_6 : Nat) (l0_6 : List (S117)) (A0_7 : Option Addr) (c0_7 : Nat) (l0_7 : List (S119)) (A0_8 : Option Addr) (c0_8 : Nat) (l0_8 : List (S60)) (A0_9 : Option Addr) (c0_9 : Nat) (l0_9 : List (S64)) (a0_10 : Int) (a0_11 : Int) (a0_12 : Int) (a1 : ByteArray) (a2 : ByteArray) (r : Int) (w : World) (hr0_1 : Kd.C k62 w A0_1 l0_1.length l0_1) (hc0_1 : l0_1.length ≤ c0_1) (hr0_2 : Kd.C k109 w A0_2 l0_2.length l0_2) (hc0_2 : l0_2.length ≤ c0_2) (hr0_3 : Kd.C k111 w A0_3 l0_3.length l0_3) (hc0_3 : l0_3.length ≤ c0_3) (hr0_4 : Kd.C k113 w A0_4 l0_4.length l0_4) (hc0_4 : l0_4.length ≤ c0_4) (hr0_5 : Kd.C k115 w A0_5 l0_5.length l0_5) (hc0_5 : l0_5.length ≤ c0_5) (hr0_6 : Kd.C k117 w A0_6 l0_6.length l0_6) (hc0_6 : l0_6.length ≤ c0_6) (hr0_7 : Kd.C k119 w A0_7 l0_7.length l0_7) (hc0_7 : l0_7.length ≤ c0_7) (hr0_8 : Kd.C k60 w A0_8 l0_8.length l0_8) (hc0_8 : l0_8.length ≤ c0_8) (hr0_9 : Kd.C k64 w A0_9 l0_9.length l0_9) (hc0_9 : l0_9.length ≤ c0_9) (h : book_Partition_Find.f k a0_0 l0_1 l0_2 l0_3 l0_4 l0_5 l0_6 l0_7 l0_8 l0_9 a0_10 a0_11 a0_12 a1 a2 = some r) :
    Calls Tryz.prog 27 #[.agg #[.string a0_0, .slice A0_1 l0_1.length c0_1, .slice A0_2 l0_2.length c0_2, .slice A0_3 l0_3.length c0_3, .slice A0_4 l0_4.length c0_4, .slice A0_5 l0_5.length c0_5, .slice A0_6 l0_6.length c0_6, .slice A0_7 l0_7.length c0_7, .slice A0_8 l0_8.length c0_8, .slice A0_9 l0_9.length c0_9, .int .i64 a0_10, .int .i64 a0_11, .int .i64 a0_12], .string a1, .string a2] w fun e w' => e = .returned (.int .i64 r) ∧ Below w.heap.size w w' := by
 have HR0_1 := Aside0.mk hr0_1; have HC0_1 := Aside0.mk hc0_1; clear hr0_1 hc0_1; have HR0_2 := Aside0.mk hr0_2; have HC0_2 := Aside0.mk hc0_2; clear hr0_2 hc0_2; have HR0_3 := Aside0.mk hr0_3; have HC0_3 := Aside0.mk hc0_3; clear hr0_3 hc0_3; have HR0_4 := Aside0.mk hr0_4; have HC0_4 := Aside0.mk hc0_4; clear hr0_4 hc0_4; have HR0_5 := Aside0.mk hr0_5; have HC0_5 := Aside0.mk hc0_5; clear hr0_5 hc0_5; have HR0_6 := Aside0.mk hr0_6; have HC0_6 := Aside0.mk hc0_6; clear hr0_6 hc0_6; have HR0_7 := Aside0.mk hr0_7; have HC0_7 := Aside0.mk hc0_7; clear hr0_7 hc0_7; have HR0_8 := Aside0.mk hr0_8; have HC0_8 := Aside0.mk hc0_8; clear hr0_8 hc0_8; have HR0_9 := Aside0.mk hr0_9; have HC0_9 := Aside0.mk hc0_9; clear hr0_9 hc0_9; unfold book_Partition_Find.f at h; have H := Aside0.mk h; clear h; have HB := Aside0.mk (Below.refl w.heap.size w); have hu52 := Tryz.underlying52; go_enter Tryz.func27, Tryz.ntmps27; have BK419 := Aside0.mk (pe_box0 w #[.string a0_0, .slice A0_1 l0_1.length c0_1, .slice A0_2 l0_2.length c0_2, .slice A0_3 l0_3.length c0_3, .slice A0_4 l0_4.length c0_4, .slice A0_5 l0_5.length c0_5, .slice A0_6 l0_6.length c0_6, .slice A0_7 l0_7.length c0_7, .slice A0_8 l0_8.length c0_8, .slice A0_9 l0_9.length c0_9, .int .i64 a0_10, .int .i64 a0_11, .int .i64 a0_12] 52); replace HB := Aside0.mk (below_alloc HB.out (.cells #[.string a0_0, .slice A0_1 l0_1.length c0_1, .slice A0_2 l0_2.length c0_2, .slice A0_3 l0_3.length c0_3, .slice A0_4 l0_4.length c0_4, .slice A0_5 l0_5.length c0_5, .slice A0_6 l0_6.length c0_6, .slice A0_7 l0_7.length c0_7, .slice A0_8 l0_8.length c0_8, .slice A0_9 l0_9.length c0_9, .int .i64 a0_10, .int .i64 a0_11, .int .i64 a0_12] 52)); obtain ⟨t302, q420, H1⟩ := a0b H; clear H; have H := H1; clear H1; go_wp2_with fail; (with_reducible refine (book_Partition_Names.calls a0_0 _ _ l0_1 _ _ l0_2 _ _ l0_3 _ _ l0_4 _ _ l0_5 _ _ l0_6 _ _ l0_7 _ _ l0_8 _ _ l0_9 a0_10 a0_11 a0_12 a1 t302 _ (Kd.C_below HR0_1.out HB.out) HC0_1.out (Kd.C_below HR0_2.out HB.out) HC0_2.out (Kd.C_below HR0_3.out HB.out) HC0_3.out (Kd.C_below HR0_4.out HB.out) HC0_4.out (Kd.C_below HR0_5.out HB.out) HC0_5.out (Kd.C_below HR0_6.out HB.out) HC0_6.out (Kd.C_below HR0_7.out HB.out) HC0_7.out (Kd.C_below HR0_8.out HB.out) HC0_8.out (Kd.C_below HR0_9.out HB.out) HC0_9.out q420.out).mono ?_); clear q420; (rintro e w421 ⟨v_421, rfl, ho, hb⟩); have HO304 := Aside0.mk (Kd.R_lower ho (HB.out : Below _ _ _).size); obtain ⟨A_HO304, c_HO304, e_HO304⟩ := Kd.R_slice HO304.out; subst e_HO304; clear ho; replace HB := Aside0.mk (below_step HB.out hb); replace BK419 := Aside0.mk (blk_below BK419.out hb); clear hb; have Z419 := blk13 BK419.out; obtain ⟨t305, q422, H1⟩ := a0b H; clear H; have H := H1; clear H1; go_wp2_with fail; ((with_reducible refine (slices_Index_string_string.calls k _ _ t302 a2 t305 _ (by repeat (first | exact (Kd.R_reads' HO304.out).2.2 | (with_reducible refine Kd.C_drewN ?_ _) | (with_reducible refine Kd.C_drew ?_))) (Kd.R_reads' HO304.out).2.1 q422.out).mono ?_)); clear q422; (rintro e w423 ⟨rfl, hd⟩); have hb := hd.below; clear hd; (replace HO304 := Aside0.mk (Kd.R_below (by repeat (first | exact HO304.out | apply Kd.R_drewN | apply Kd.R_drew)) hb)); replace HB := Aside0.mk (below_step HB.out hb); replace BK419 := Aside0.mk (blk_below BK419.out hb); clear hb
 try clear Z419
 have Z419 := blk13 BK419.out; obtain rfl := Option.some.inj H.out; go_wp2; go_ret; exact ⟨by first | rfl | (simp; done) | (simp [*]; done), HB.out⟩

/-! ### L06_told: function 9 -/
def toldP : List S52 := [(⟨⟨#[112]⟩, [], [], [], [], [], [], [], [(⟨⟨#[113]⟩, false, false, 1, 0, 0⟩ : S60)], [], 0, ⟨0, 0⟩⟩ : S52)]
def L06_told.f : Option (Bool) := some true
theorem told1 : book_Name.f 60 ⟨#[97, 95, 49]⟩ = some true := by decide +kernel
theorem told2 : book_Name.f 60 ⟨#[49, 97]⟩ = some false := by decide +kernel
theorem told3 : book_Module_Right.f 60 ⟨#[109]⟩ toldP [] 0 [] [] [] = some true := by decide +kernel
theorem told4 : book_Module_Right.f 60 ⟨#[]⟩ [] [] 0 [] [] [] = some false := by decide +kernel
theorem told5 : book_Partition_Find.f 60 ⟨#[112]⟩ [] [] [] [] [] [] [] [(⟨⟨#[113]⟩, false, false, 1, 0, 0⟩ : S60)] [] 0 0 0 ⟨#[112, 111, 114, 116]⟩ ⟨#[113]⟩ = some 0 := by decide +kernel
theorem told6 : book_Module_Find.f 60 ⟨#[109]⟩ toldP [] 0 [] [] [] ⟨#[112, 97, 114, 116, 105, 116, 105, 111, 110]⟩ ⟨#[113]⟩ = some (-1) := by decide +kernel
theorem told7 : book_Module_Size.f 60 ⟨#[109]⟩ toldP [] 0 [] [] [] = some 2 := by decide +kernel
theorem told8 : book_Same.f 60 ⟨#[109]⟩ toldP [] 0 [] [] [] ⟨#[]⟩ [] [] 0 [] [] [] = some false := by decide +kernel
theorem C_one {α : Type} (d : Kd α) (w : World) (g : Nat) (x : α) (cs : Array Value) (t : TypeId) (hh : w.heap[g]? = some (.cells cs t (0, 0))) (hK : d.K w x cs.toList) (hsz : cs.toList.length = d.sz) : Kd.C d w (some ⟨g, 0, none⟩) 1 [x] := by
 refine ⟨rfl, by omega, fun _ => ⟨_, rfl, fun j p hj => ?_⟩⟩
 have hj0 : j = 0 := by
  have := (List.getElem?_eq_some_iff.1 hj).1
  simp at this
  exact this
 subst hj0
 have hp : x = p := by simpa using hj
 subst hp
 refine ⟨cs.toList, hsz, hK, fun i u hu => ?_⟩
 have e : (⟨g, 0, none⟩ : Addr).add (0 * d.sz + i) = ⟨g, i, none⟩ := by
  rw [Nat.zero_mul, Nat.zero_add]
  unfold Addr.add
  split <;> simp_all
 rw [e, blk_cell hh i]
 simpa using hu
set_option maxHeartbeats 8000000 in
set_option maxRecDepth 100000 in
theorem L06_told.calls (r : Bool) (w : World) (h : L06_told.f = some r) :
  Calls Tryz.prog 9 #[] w fun e w' => e = .returned (.bool r) ∧ Below w.heap.size w w' := by
 obtain rfl : true = r := Option.some.inj h
 clear h
 have b0 : Aside0 ((((w.alloc (.cells #[.string ⟨#[113]⟩, .bool false, .bool false, .int .i64 1, .int .i64 0, .int .i64 0] 60)).alloc (.cells #[.string ⟨#[112]⟩, .slice none 0 0, .slice none 0 0, .slice none 0 0, .slice none 0 0, .slice none 0 0, .slice none 0 0, .slice none 0 0, .slice (some ⟨w.heap.size, 0, none⟩) 1 1, .slice none 0 0, .int .i64 0, .int .i64 0, .int .i64 0] 52)).alloc (.cells #[.string ⟨#[109]⟩, .slice (some ⟨w.heap.size + 1, 0, none⟩) 1 1, .slice none 0 0, .int .i64 0, .slice none 0 0, .slice none 0 0, .slice none 0 0] 30)).heap[w.heap.size]? = some (.cells #[.string ⟨#[113]⟩, .bool false, .bool false, .int .i64 1, .int .i64 0, .int .i64 0] 60 (0, 0))) := ⟨blk_below (blk_below (pe_box0 w _ _) (alloc_below0 _ _)) (alloc_below0 _ _)⟩
 have BP : Aside0 ((((w.alloc (.cells #[.string ⟨#[113]⟩, .bool false, .bool false, .int .i64 1, .int .i64 0, .int .i64 0] 60)).alloc (.cells #[.string ⟨#[112]⟩, .slice none 0 0, .slice none 0 0, .slice none 0 0, .slice none 0 0, .slice none 0 0, .slice none 0 0, .slice none 0 0, .slice (some ⟨w.heap.size, 0, none⟩) 1 1, .slice none 0 0, .int .i64 0, .int .i64 0, .int .i64 0] 52)).alloc (.cells #[.string ⟨#[109]⟩, .slice (some ⟨w.heap.size + 1, 0, none⟩) 1 1, .slice none 0 0, .int .i64 0, .slice none 0 0, .slice none 0 0, .slice none 0 0] 30)).heap[w.heap.size + 1]? = some (.cells #[.string ⟨#[112]⟩, .slice none 0 0, .slice none 0 0, .slice none 0 0, .slice none 0 0, .slice none 0 0, .slice none 0 0, .slice none 0 0, .slice (some ⟨w.heap.size, 0, none⟩) 1 1, .slice none 0 0, .int .i64 0, .int .i64 0, .int .i64 0] 52 (0, 0))) := ⟨blk_below (pe_box1 w _ _ _) (alloc_below0 _ _)⟩
 have BK : Aside0 ((((w.alloc (.cells #[.string ⟨#[113]⟩, .bool false, .bool false, .int .i64 1, .int .i64 0, .int .i64 0] 60)).alloc (.cells #[.string ⟨#[112]⟩, .slice none 0 0, .slice none 0 0, .slice none 0 0, .slice none 0 0, .slice none 0 0, .slice none 0 0, .slice none 0 0, .slice (some ⟨w.heap.size, 0, none⟩) 1 1, .slice none 0 0, .int .i64 0, .int .i64 0, .int .i64 0] 52)).alloc (.cells #[.string ⟨#[109]⟩, .slice (some ⟨w.heap.size + 1, 0, none⟩) 1 1, .slice none 0 0, .int .i64 0, .slice none 0 0, .slice none 0 0, .slice none 0 0] 30)).heap[w.heap.size + 1 + 1]? = some (.cells #[.string ⟨#[109]⟩, .slice (some ⟨w.heap.size + 1, 0, none⟩) 1 1, .slice none 0 0, .int .i64 0, .slice none 0 0, .slice none 0 0, .slice none 0 0] 30 (0, 0))) := ⟨pe_box2 w _ _ _ _⟩
 have HB : Aside0 (Below w.heap.size w (((w.alloc (.cells #[.string ⟨#[113]⟩, .bool false, .bool false, .int .i64 1, .int .i64 0, .int .i64 0] 60)).alloc (.cells #[.string ⟨#[112]⟩, .slice none 0 0, .slice none 0 0, .slice none 0 0, .slice none 0 0, .slice none 0 0, .slice none 0 0, .slice none 0 0, .slice (some ⟨w.heap.size, 0, none⟩) 1 1, .slice none 0 0, .int .i64 0, .int .i64 0, .int .i64 0] 52)).alloc (.cells #[.string ⟨#[109]⟩, .slice (some ⟨w.heap.size + 1, 0, none⟩) 1 1, .slice none 0 0, .int .i64 0, .slice none 0 0, .slice none 0 0, .slice none 0 0] 30))) := ⟨below_alloc (below_alloc (alloc_below0 w _) _) _⟩
 have HQ : Aside0 (Kd.C k60 (((w.alloc (.cells #[.string ⟨#[113]⟩, .bool false, .bool false, .int .i64 1, .int .i64 0, .int .i64 0] 60)).alloc (.cells #[.string ⟨#[112]⟩, .slice none 0 0, .slice none 0 0, .slice none 0 0, .slice none 0 0, .slice none 0 0, .slice none 0 0, .slice none 0 0, .slice (some ⟨w.heap.size, 0, none⟩) 1 1, .slice none 0 0, .int .i64 0, .int .i64 0, .int .i64 0] 52)).alloc (.cells #[.string ⟨#[109]⟩, .slice (some ⟨w.heap.size + 1, 0, none⟩) 1 1, .slice none 0 0, .int .i64 0, .slice none 0 0, .slice none 0 0, .slice none 0 0] 30)) (some ⟨w.heap.size, 0, none⟩) 1 [(⟨⟨#[113]⟩, false, false, 1, 0, 0⟩ : S60)]) := ⟨C_one _ _ _ _ _ _ b0.out (k60_mk _ (⟨⟨#[113]⟩, false, false, 1, 0, 0⟩ : S60)) rfl⟩
 have HP : Aside0 (Kd.C k52 (((w.alloc (.cells #[.string ⟨#[113]⟩, .bool false, .bool false, .int .i64 1, .int .i64 0, .int .i64 0] 60)).alloc (.cells #[.string ⟨#[112]⟩, .slice none 0 0, .slice none 0 0, .slice none 0 0, .slice none 0 0, .slice none 0 0, .slice none 0 0, .slice none 0 0, .slice (some ⟨w.heap.size, 0, none⟩) 1 1, .slice none 0 0, .int .i64 0, .int .i64 0, .int .i64 0] 52)).alloc (.cells #[.string ⟨#[109]⟩, .slice (some ⟨w.heap.size + 1, 0, none⟩) 1 1, .slice none 0 0, .int .i64 0, .slice none 0 0, .slice none 0 0, .slice none 0 0] 30)) (some ⟨w.heap.size + 1, 0, none⟩) 1 toldP) := ⟨C_one _ _ _ _ _ _ BP.out (k52_mk _ (⟨⟨#[112]⟩, [], [], [], [], [], [], [], [(⟨⟨#[113]⟩, false, false, 1, 0, 0⟩ : S60)], [], 0, ⟨0, 0⟩⟩ : S52) (Nat.le_refl _) (Kd.C_nil _ _) (Nat.le_refl _) (Kd.C_nil _ _) (Nat.le_refl _) (Kd.C_nil _ _) (Nat.le_refl _) (Kd.C_nil _ _) (Nat.le_refl _) (Kd.C_nil _ _) (Nat.le_refl _) (Kd.C_nil _ _) (Nat.le_refl _) (Kd.C_nil _ _) (Nat.le_refl _) HQ.out (Nat.le_refl _) (Kd.C_nil _ _)) rfl⟩
 clear b0
 go_enter Tryz.func9, Tryz.ntmps9
 go_wp2_with fail
 (refine (book_Name.calls 60 ⟨#[97, 95, 49]⟩ true _  told1).mono ?_)
 rintro e w1 ⟨rfl, hd⟩
 have hb := hd.below
 clear hd
 replace HB := Aside0.mk (below_step HB.out hb)
 replace BK := Aside0.mk (blk_below BK.out hb)
 replace BP := Aside0.mk (blk_below BP.out hb)
 replace HP := Aside0.mk (Kd.C_below HP.out hb)
 replace HQ := Aside0.mk (Kd.C_below HQ.out hb)
 clear hb
 try clear z0 z1 z2 z3 z4 z5 z6 y0 y1 y2 y3 y4 y5 y6
 obtain ⟨z0, z1, z2, z3, z4, z5, z6, y0, y1, y2, y3, y4, y5, y6⟩ := blk7 BK.out
 go_wp2_with fail
 (refine (book_Name.calls 60 ⟨#[49, 97]⟩ false _  told2).mono ?_)
 rintro e w2 ⟨rfl, hd⟩
 have hb := hd.below
 clear hd
 replace HB := Aside0.mk (below_step HB.out hb)
 replace BK := Aside0.mk (blk_below BK.out hb)
 replace BP := Aside0.mk (blk_below BP.out hb)
 replace HP := Aside0.mk (Kd.C_below HP.out hb)
 replace HQ := Aside0.mk (Kd.C_below HQ.out hb)
 clear hb
 try clear z0 z1 z2 z3 z4 z5 z6 y0 y1 y2 y3 y4 y5 y6
 obtain ⟨z0, z1, z2, z3, z4, z5, z6, y0, y1, y2, y3, y4, y5, y6⟩ := blk7 BK.out
 go_wp2_with fail
 (refine (book_Module_Right.calls 60 ⟨#[109]⟩ _ _ toldP _ _ [] 0 _ _ [] _ _ [] _ _ [] true _ HP.out (Nat.le_refl _) (Kd.C_nil _ _) (Nat.le_refl _) (Kd.C_nil _ _) (Nat.le_refl _) (Kd.C_nil _ _) (Nat.le_refl _) (Kd.C_nil _ _) (Nat.le_refl _) told3).mono ?_)
 rintro e w3 ⟨rfl, hb⟩
 replace HB := Aside0.mk (below_step HB.out hb)
 replace BK := Aside0.mk (blk_below BK.out hb)
 replace BP := Aside0.mk (blk_below BP.out hb)
 replace HP := Aside0.mk (Kd.C_below HP.out hb)
 replace HQ := Aside0.mk (Kd.C_below HQ.out hb)
 clear hb
 try clear z0 z1 z2 z3 z4 z5 z6 y0 y1 y2 y3 y4 y5 y6
 obtain ⟨z0, z1, z2, z3, z4, z5, z6, y0, y1, y2, y3, y4, y5, y6⟩ := blk7 BK.out
 go_wp2_with fail
 (refine (book_Module_Right.calls 60 ⟨#[]⟩ _ _ [] _ _ [] 0 _ _ [] _ _ [] _ _ [] false _ (Kd.C_nil _ _) (Nat.le_refl _) (Kd.C_nil _ _) (Nat.le_refl _) (Kd.C_nil _ _) (Nat.le_refl _) (Kd.C_nil _ _) (Nat.le_refl _) (Kd.C_nil _ _) (Nat.le_refl _) told4).mono ?_)
 rintro e w4 ⟨rfl, hb⟩
 replace HB := Aside0.mk (below_step HB.out hb)
 replace BK := Aside0.mk (blk_below BK.out hb)
 replace BP := Aside0.mk (blk_below BP.out hb)
 replace HP := Aside0.mk (Kd.C_below HP.out hb)
 replace HQ := Aside0.mk (Kd.C_below HQ.out hb)
 clear hb
 try clear z0 z1 z2 z3 z4 z5 z6 y0 y1 y2 y3 y4 y5 y6
 obtain ⟨z0, z1, z2, z3, z4, z5, z6, y0, y1, y2, y3, y4, y5, y6⟩ := blk7 BK.out
 have xP : w4.cell? ⟨w.heap.size + 1, 0, none⟩ = some (.string ⟨#[112]⟩) := (blk_cell BP.out 0).trans rfl
 obtain ⟨p0, p1, p2, p3, p4, p5, p6, p7, p8, p9, p10, p11, p12, f0, f1, f2, f3, f4, f5, f6, f7, f8, f9, f10, f11, f12⟩ := blk13 BP.out
 go_wp2_with fail
 (refine (book_Partition_Find.calls 60 ⟨#[112]⟩ _ _ [] _ _ [] _ _ [] _ _ [] _ _ [] _ _ [] _ _ [] _ _ [(⟨⟨#[113]⟩, false, false, 1, 0, 0⟩ : S60)] _ _ [] 0 0 0 ⟨#[112, 111, 114, 116]⟩ ⟨#[113]⟩ 0 _ (Kd.C_nil _ _) (Nat.le_refl _) (Kd.C_nil _ _) (Nat.le_refl _) (Kd.C_nil _ _) (Nat.le_refl _) (Kd.C_nil _ _) (Nat.le_refl _) (Kd.C_nil _ _) (Nat.le_refl _) (Kd.C_nil _ _) (Nat.le_refl _) (Kd.C_nil _ _) (Nat.le_refl _) HQ.out (Nat.le_refl _) (Kd.C_nil _ _) (Nat.le_refl _) told5).mono ?_)
 rintro e w5 ⟨rfl, hb⟩
 replace HB := Aside0.mk (below_step HB.out hb)
 replace BK := Aside0.mk (blk_below BK.out hb)
 replace BP := Aside0.mk (blk_below BP.out hb)
 replace HP := Aside0.mk (Kd.C_below HP.out hb)
 replace HQ := Aside0.mk (Kd.C_below HQ.out hb)
 clear hb
 try clear z0 z1 z2 z3 z4 z5 z6 y0 y1 y2 y3 y4 y5 y6
 obtain ⟨z0, z1, z2, z3, z4, z5, z6, y0, y1, y2, y3, y4, y5, y6⟩ := blk7 BK.out
 try clear xP p0 p1 p2 p3 p4 p5 p6 p7 p8 p9 p10 p11 p12 f0 f1 f2 f3 f4 f5 f6 f7 f8 f9 f10 f11 f12
 go_wp2_with fail
 (refine (book_Module_Find.calls 60 ⟨#[109]⟩ _ _ toldP _ _ [] 0 _ _ [] _ _ [] _ _ [] ⟨#[112, 97, 114, 116, 105, 116, 105, 111, 110]⟩ ⟨#[113]⟩ (-1) _ HP.out (Nat.le_refl _) (Kd.C_nil _ _) (Nat.le_refl _) (Kd.C_nil _ _) (Nat.le_refl _) (Kd.C_nil _ _) (Nat.le_refl _) (Kd.C_nil _ _) (Nat.le_refl _) told6).mono ?_)
 rintro e w6 ⟨rfl, hb⟩
 replace HB := Aside0.mk (below_step HB.out hb)
 replace BK := Aside0.mk (blk_below BK.out hb)
 replace BP := Aside0.mk (blk_below BP.out hb)
 replace HP := Aside0.mk (Kd.C_below HP.out hb)
 replace HQ := Aside0.mk (Kd.C_below HQ.out hb)
 clear hb
 try clear z0 z1 z2 z3 z4 z5 z6 y0 y1 y2 y3 y4 y5 y6
 obtain ⟨z0, z1, z2, z3, z4, z5, z6, y0, y1, y2, y3, y4, y5, y6⟩ := blk7 BK.out
 go_wp2_with fail
 (refine (book_Module_Size.calls 60 ⟨#[109]⟩ _ _ toldP _ _ [] 0 _ _ [] _ _ [] _ _ [] 2 _ HP.out (Nat.le_refl _) (Kd.C_nil _ _) (Nat.le_refl _) (Kd.C_nil _ _) (Nat.le_refl _) (Kd.C_nil _ _) (Nat.le_refl _) (Kd.C_nil _ _) (Nat.le_refl _) told7).mono ?_)
 rintro e w7 ⟨rfl, hb⟩
 replace HB := Aside0.mk (below_step HB.out hb)
 replace BK := Aside0.mk (blk_below BK.out hb)
 replace BP := Aside0.mk (blk_below BP.out hb)
 replace HP := Aside0.mk (Kd.C_below HP.out hb)
 replace HQ := Aside0.mk (Kd.C_below HQ.out hb)
 clear hb
 try clear z0 z1 z2 z3 z4 z5 z6 y0 y1 y2 y3 y4 y5 y6
 obtain ⟨z0, z1, z2, z3, z4, z5, z6, y0, y1, y2, y3, y4, y5, y6⟩ := blk7 BK.out
 go_wp2_with fail
 (refine (book_Same.calls 60 ⟨#[109]⟩ _ _ toldP _ _ [] 0 _ _ [] _ _ [] _ _ [] ⟨#[]⟩ _ _ [] _ _ [] 0 _ _ [] _ _ [] _ _ [] false _ HP.out (Nat.le_refl _) (Kd.C_nil _ _) (Nat.le_refl _) (Kd.C_nil _ _) (Nat.le_refl _) (Kd.C_nil _ _) (Nat.le_refl _) (Kd.C_nil _ _) (Nat.le_refl _) (Kd.C_nil _ _) (Nat.le_refl _) (Kd.C_nil _ _) (Nat.le_refl _) (Kd.C_nil _ _) (Nat.le_refl _) (Kd.C_nil _ _) (Nat.le_refl _) (Kd.C_nil _ _) (Nat.le_refl _) told8).mono ?_)
 rintro e w8 ⟨rfl, hb⟩
 replace HB := Aside0.mk (below_step HB.out hb)
 replace BK := Aside0.mk (blk_below BK.out hb)
 replace BP := Aside0.mk (blk_below BP.out hb)
 replace HP := Aside0.mk (Kd.C_below HP.out hb)
 replace HQ := Aside0.mk (Kd.C_below HQ.out hb)
 clear hb
 try clear z0 z1 z2 z3 z4 z5 z6 y0 y1 y2 y3 y4 y5 y6
 obtain ⟨z0, z1, z2, z3, z4, z5, z6, y0, y1, y2, y3, y4, y5, y6⟩ := blk7 BK.out
 go_wp2
 go_ret
 exact ⟨rfl, HB.out⟩

/-! ### R06_Size: function 18 -/
mutual
def R06_Size.l0 : Nat → Int → Int → ByteArray → List (S52) → List (S67) → Int → List (S74) → List (S77) → List (S64) → Option (Int)
  | 0, _, _, _, _, _, _, _, _, _ => none
  | k + 1, x3, x4, x307000, x307001, x307002, x307003, x307004, x307005, x307006 => if x4 < (x307001.length : Int) then (if 0 ≤ x4 then (R06_Size.l0 k (wrap64 ((wrap64 ((wrap64 ((wrap64 ((wrap64 ((wrap64 ((wrap64 ((wrap64 ((wrap64 (x3 + (((rd_T52 x307001 x4).f1).length : Int))) + (((rd_T52 x307001 x4).f2).length : Int))) + (((rd_T52 x307001 x4).f3).length : Int))) + (((rd_T52 x307001 x4).f4).length : Int))) + (((rd_T52 x307001 x4).f5).length : Int))) + (((rd_T52 x307001 x4).f6).length : Int))) + (((rd_T52 x307001 x4).f7).length : Int))) + (((rd_T52 x307001 x4).f8).length : Int))) + (((rd_T52 x307001 x4).f9).length : Int))) (wrap64 (x4 + 1)) x307000 x307001 x307002 x307003 x307004 x307005 x307006) else (none)) else (R06_Size.l1 k x3 0 x307000 x307001 x307002 x307003 x307004 x307005 x307006)
def R06_Size.l1 : Nat → Int → Int → ByteArray → List (S52) → List (S67) → Int → List (S74) → List (S77) → List (S64) → Option (Int)
  | 0, _, _, _, _, _, _, _, _, _ => none
  | k + 1, x3, x6, x307000, x307001, x307002, x307003, x307004, x307005, x307006 => if x6 < (x307002.length : Int) then (if 0 ≤ x6 then (R06_Size.l1 k (wrap64 (x3 + (((rd_T67 x307002 x6).f2).length : Int))) (wrap64 (x6 + 1)) x307000 x307001 x307002 x307003 x307004 x307005 x307006) else (none)) else (R06_Size.l2 k x3 0 x307000 x307001 x307002 x307003 x307004 x307005 x307006)
def R06_Size.l2 : Nat → Int → Int → ByteArray → List (S52) → List (S67) → Int → List (S74) → List (S77) → List (S64) → Option (Int)
  | 0, _, _, _, _, _, _, _, _, _ => none
  | k + 1, x3, x7, x307000, x307001, x307002, x307003, x307004, x307005, x307006 => if x7 < (x307004.length : Int) then (if 0 ≤ x7 then (R06_Size.l2 k (wrap64 (x3 + (((rd_T74 x307004 x7).f1).length : Int))) (wrap64 (x7 + 1)) x307000 x307001 x307002 x307003 x307004 x307005 x307006) else (none)) else (some x3)
end
def R06_Size.f (k : Nat) (a0_0 : ByteArray) (l0_1 : List (S52)) (l0_2 : List (S67)) (a0_3 : Int) (l0_4 : List (S74)) (l0_5 : List (S77)) (l0_6 : List (S64)) : Option (Int) := R06_Size.l0 k (wrap64 ((wrap64 ((wrap64 ((wrap64 ((l0_1.length : Int) + (l0_2.length : Int))) + (l0_4.length : Int))) + (l0_5.length : Int))) + (l0_6.length : Int))) 0 a0_0 l0_1 l0_2 a0_3 l0_4 l0_5 l0_6
theorem R06_Size.mono_l : ∀ k, (∀ y0 y1 y2 y3 y4 y5 y6 y7 y8, LeO (R06_Size.l0 k y0 y1 y2 y3 y4 y5 y6 y7 y8) (R06_Size.l0 (k + 1) y0 y1 y2 y3 y4 y5 y6 y7 y8)) ∧ (∀ y0 y1 y2 y3 y4 y5 y6 y7 y8, LeO (R06_Size.l1 k y0 y1 y2 y3 y4 y5 y6 y7 y8) (R06_Size.l1 (k + 1) y0 y1 y2 y3 y4 y5 y6 y7 y8)) ∧ (∀ y0 y1 y2 y3 y4 y5 y6 y7 y8, LeO (R06_Size.l2 k y0 y1 y2 y3 y4 y5 y6 y7 y8) (R06_Size.l2 (k + 1) y0 y1 y2 y3 y4 y5 y6 y7 y8))
  | 0 => ⟨fun _ _ _ _ _ _ _ _ _ r h => by simp [R06_Size.l0] at h, fun _ _ _ _ _ _ _ _ _ r h => by simp [R06_Size.l1] at h, fun _ _ _ _ _ _ _ _ _ r h => by simp [R06_Size.l2] at h⟩
  | k + 1 => by
    obtain ⟨ih0, ih1, ih2⟩ := R06_Size.mono_l k
    refine ⟨?_, ?_, ?_⟩
    · intro y0 y1 y2 y3 y4 y5 y6 y7 y8
      unfold R06_Size.l0
      repeat' first | (with_reducible apply ih0) | (with_reducible apply ih1) | (with_reducible apply ih2) | (with_reducible exact LeO.refl _) | (with_reducible exact LeO.none _) | (with_reducible refine LeO.ite ?_ ?_) | (with_reducible refine LeO.bind ?_ (fun _ => ?_)) | apply LeO.none | apply LeO.ite | (refine LeO.bind ?_ (fun _ => ?_))
    · intro y0 y1 y2 y3 y4 y5 y6 y7 y8
      unfold R06_Size.l1
      repeat' first | (with_reducible apply ih0) | (with_reducible apply ih1) | (with_reducible apply ih2) | (with_reducible exact LeO.refl _) | (with_reducible exact LeO.none _) | (with_reducible refine LeO.ite ?_ ?_) | (with_reducible refine LeO.bind ?_ (fun _ => ?_)) | apply LeO.none | apply LeO.ite | (refine LeO.bind ?_ (fun _ => ?_))
    · intro y0 y1 y2 y3 y4 y5 y6 y7 y8
      unfold R06_Size.l2
      repeat' first | (with_reducible apply ih0) | (with_reducible apply ih1) | (with_reducible apply ih2) | (with_reducible exact LeO.refl _) | (with_reducible exact LeO.none _) | (with_reducible refine LeO.ite ?_ ?_) | (with_reducible refine LeO.bind ?_ (fun _ => ?_)) | apply LeO.none | apply LeO.ite | (refine LeO.bind ?_ (fun _ => ?_))
theorem R06_Size.mono : ∀ a0 a1 a2 a3 a4 a5 a6 k, LeO (R06_Size.f k a0 a1 a2 a3 a4 a5 a6) (R06_Size.f (k + 1) a0 a1 a2 a3 a4 a5 a6) := by
  intro a0 a1 a2 a3 a4 a5 a6 k
  obtain ⟨ih0, ih1, ih2⟩ := R06_Size.mono_l k
  unfold R06_Size.f
  repeat' first | (with_reducible apply ih0) | (with_reducible apply ih1) | (with_reducible apply ih2) | (with_reducible exact LeO.refl _) | (with_reducible exact LeO.none _) | (with_reducible refine LeO.ite ?_ ?_) | (with_reducible refine LeO.bind ?_ (fun _ => ?_)) | apply LeO.none | apply LeO.ite | (refine LeO.bind ?_ (fun _ => ?_))
set_option maxHeartbeats 8000000 in
set_option maxRecDepth 100000 in
theorem R06_Size.calls (k : Nat) (a0_0 : ByteArray) (A0_1 : Option Addr) (c0_1 : Nat) (l0_1 : List (S52)) (A0_2 : Option Addr) (c0_2 : Nat) (l0_2 : List (S67)) (a0_3 : Int) (A0_4 : Option Addr) (c0_4 : Nat) (l0_4 : List (S74)) (A0_5 : Option Addr) (c0_5 : Nat) (l0_5 : List (S77)) (A0_6 : Option Addr) (c0_6 : Nat) (l0_6 : List (S64)) (r : Int) (w : World) (hr0_1 : Kd.C k52 w A0_1 l0_1.length l0_1) (hc0_1 : l0_1.length ≤ c0_1) (hr0_2 : Kd.C k67 w A0_2 l0_2.length l0_2) (hc0_2 : l0_2.length ≤ c0_2) (hr0_4 : Kd.C k74 w A0_4 l0_4.length l0_4) (hc0_4 : l0_4.length ≤ c0_4) (hr0_5 : Kd.C k77 w A0_5 l0_5.length l0_5) (hc0_5 : l0_5.length ≤ c0_5) (hr0_6 : Kd.C k64 w A0_6 l0_6.length l0_6) (hc0_6 : l0_6.length ≤ c0_6) (h : R06_Size.f k a0_0 l0_1 l0_2 a0_3 l0_4 l0_5 l0_6 = some r) :
    Calls Tryz.prog 18 #[.agg #[.string a0_0, .slice A0_1 l0_1.length c0_1, .slice A0_2 l0_2.length c0_2, .int .i64 a0_3, .slice A0_4 l0_4.length c0_4, .slice A0_5 l0_5.length c0_5, .slice A0_6 l0_6.length c0_6]] w fun e w' => e = .returned (.int .i64 r) ∧ Below w.heap.size w w' := by
 have HR0_1 := Aside0.mk hr0_1; have HC0_1 := Aside0.mk hc0_1; clear hr0_1 hc0_1; have HR0_2 := Aside0.mk hr0_2; have HC0_2 := Aside0.mk hc0_2; clear hr0_2 hc0_2; have HR0_4 := Aside0.mk hr0_4; have HC0_4 := Aside0.mk hc0_4; clear hr0_4 hc0_4; have HR0_5 := Aside0.mk hr0_5; have HC0_5 := Aside0.mk hc0_5; clear hr0_5 hc0_5; have HR0_6 := Aside0.mk hr0_6; have HC0_6 := Aside0.mk hc0_6; clear hr0_6 hc0_6; unfold R06_Size.f at h; have H := Aside0.mk h; clear h; have HB := Aside0.mk (Below.refl w.heap.size w); have hu30 := Tryz.underlying30; have hu52 := Tryz.underlying52; go_enter Tryz.func18, Tryz.ntmps18; have BK424 := Aside0.mk (pe_box0 w #[.string a0_0, .slice A0_1 l0_1.length c0_1, .slice A0_2 l0_2.length c0_2, .int .i64 a0_3, .slice A0_4 l0_4.length c0_4, .slice A0_5 l0_5.length c0_5, .slice A0_6 l0_6.length c0_6] 30); replace HB := Aside0.mk (below_alloc HB.out (.cells #[.string a0_0, .slice A0_1 l0_1.length c0_1, .slice A0_2 l0_2.length c0_2, .int .i64 a0_3, .slice A0_4 l0_4.length c0_4, .slice A0_5 l0_5.length c0_5, .slice A0_6 l0_6.length c0_6] 30)); go_wp2_with fail; go_loopg [3, 4] k (fun kq v3 v4 w' => ∃ (x3_425 : Int) (x4_425 : Int), v3 = .int .i64 x3_425 ∧ v4 = .int .i64 x4_425 ∧ Aside0 (R06_Size.l0 kq x3_425 x4_425 a0_0 l0_1 l0_2 a0_3 l0_4 l0_5 l0_6 = some r) ∧ Aside0 (kq ≤ k) ∧ Aside0 (w'.heap[w.heap.size]? = some (.cells #[.string a0_0, .slice A0_1 l0_1.length c0_1, .slice A0_2 l0_2.length c0_2, .int .i64 a0_3, .slice A0_4 l0_4.length c0_4, .slice A0_5 l0_5.length c0_5, .slice A0_6 l0_6.length c0_6] 30 (0, 0))) ∧ Aside0 (Below w.heap.size w w'))
 case atStart => exact ⟨(wrap64 ((wrap64 ((wrap64 ((wrap64 ((l0_1.length : Int) + (l0_2.length : Int))) + (l0_4.length : Int))) + (l0_5.length : Int))) + (l0_6.length : Int))), 0, (by first | rfl | (simp; done) | (simp [*]; done)), (by first | rfl | (simp; done) | (simp [*]; done)), H, ⟨Nat.le_refl _⟩, BK424, HB⟩
 case round =>
  clear H HB BK424; obtain ⟨x3_425, x4_425, rfl, rfl, HA, HK425, BK424, HB⟩ := hrel
  cases gk with
  | zero => exact absurd HA.out (by simp [R06_Size.l0])
  | succ k425 =>
   have H1 := HA.out; simp only [R06_Size.l0] at H1; have H := Aside0.mk H1; clear H1 HA; have Z424 := blk7 BK424.out; by_cases c426 : x4_425 < (l0_1.length : Int)
   · replace H := a0p c426 H; have c426b0 : decide (x4_425 < (l0_1.length : Int)) = true := decide_eq_true c426; have Kc426 := Aside0.mk c426; clear c426; by_cases c427 : 0 ≤ x4_425
     · replace H := a0p c427 H; have c427b0 : decide (0 ≤ x4_425) = true := decide_eq_true c427; have Kc427 := Aside0.mk c427; clear c427; have p307 : 0 ≤ (x4_425 : Int) := Kc427.out; have q307 : x4_425 < (l0_1.length : Int) := Kc426.out; obtain ⟨ad307, A307_1, c307_1, A307_2, c307_2, A307_3, c307_3, A307_4, c307_4, A307_5, c307_5, A307_6, c307_6, A307_7, c307_7, A307_8, c307_8, A307_9, c307_9, e307, hx307_0, hx307_1, hx307_2, hx307_3, hx307_4, hx307_5, hx307_6, hx307_7, hx307_8, hx307_9, hx307_10, hx307_11, hx307_12, hl307_1, hi307_1, hl307_2, hi307_2, hl307_3, hi307_3, hl307_4, hi307_4, hl307_5, hi307_5, hl307_6, hi307_6, hl307_7, hi307_7, hl307_8, hi307_8, hl307_9, hi307_9⟩ := at_T52 HR0_1.out (x4_425) p307 q307
       cases e307
       replace hx307_0 := (HB.out.cell (World.block_lt_of_cell? w _ hx307_0)).trans hx307_0; replace hx307_1 := (HB.out.cell (World.block_lt_of_cell? w _ hx307_1)).trans hx307_1; replace hx307_2 := (HB.out.cell (World.block_lt_of_cell? w _ hx307_2)).trans hx307_2; replace hx307_3 := (HB.out.cell (World.block_lt_of_cell? w _ hx307_3)).trans hx307_3; replace hx307_4 := (HB.out.cell (World.block_lt_of_cell? w _ hx307_4)).trans hx307_4; replace hx307_5 := (HB.out.cell (World.block_lt_of_cell? w _ hx307_5)).trans hx307_5; replace hx307_6 := (HB.out.cell (World.block_lt_of_cell? w _ hx307_6)).trans hx307_6; replace hx307_7 := (HB.out.cell (World.block_lt_of_cell? w _ hx307_7)).trans hx307_7; replace hx307_8 := (HB.out.cell (World.block_lt_of_cell? w _ hx307_8)).trans hx307_8; replace hx307_9 := (HB.out.cell (World.block_lt_of_cell? w _ hx307_9)).trans hx307_9; replace hx307_10 := (HB.out.cell (World.block_lt_of_cell? w _ hx307_10)).trans hx307_10; replace hx307_11 := (HB.out.cell (World.block_lt_of_cell? w _ hx307_11)).trans hx307_11; replace hx307_12 := (HB.out.cell (World.block_lt_of_cell? w _ hx307_12)).trans hx307_12; have HR307_1 := Aside0.mk hi307_1; have HC307_1 := Aside0.mk hl307_1; clear hi307_1 hl307_1; have HR307_2 := Aside0.mk hi307_2; have HC307_2 := Aside0.mk hl307_2; clear hi307_2 hl307_2; have HR307_3 := Aside0.mk hi307_3; have HC307_3 := Aside0.mk hl307_3; clear hi307_3 hl307_3; have HR307_4 := Aside0.mk hi307_4; have HC307_4 := Aside0.mk hl307_4; clear hi307_4 hl307_4; have HR307_5 := Aside0.mk hi307_5; have HC307_5 := Aside0.mk hl307_5; clear hi307_5 hl307_5; have HR307_6 := Aside0.mk hi307_6; have HC307_6 := Aside0.mk hl307_6; clear hi307_6 hl307_6; have HR307_7 := Aside0.mk hi307_7; have HC307_7 := Aside0.mk hl307_7; clear hi307_7 hl307_7; have HR307_8 := Aside0.mk hi307_8; have HC307_8 := Aside0.mk hl307_8; clear hi307_8 hl307_8; have HR307_9 := Aside0.mk hi307_9; have HC307_9 := Aside0.mk hl307_9; clear hi307_9 hl307_9; (have ha429 := fun o_ => blk7 (blk_below BK424.out (alloc_below0 wr o_))); (have ha430 := fun o_ => ((alloc_below0 wr o_).cell (World.block_lt_of_cell? wr _ hx307_0)).trans hx307_0); (have ha431 := fun o_ => ((alloc_below0 wr o_).cell (World.block_lt_of_cell? wr _ hx307_1)).trans hx307_1); (have ha432 := fun o_ => ((alloc_below0 wr o_).cell (World.block_lt_of_cell? wr _ hx307_2)).trans hx307_2); (have ha433 := fun o_ => ((alloc_below0 wr o_).cell (World.block_lt_of_cell? wr _ hx307_3)).trans hx307_3); (have ha434 := fun o_ => ((alloc_below0 wr o_).cell (World.block_lt_of_cell? wr _ hx307_4)).trans hx307_4); (have ha435 := fun o_ => ((alloc_below0 wr o_).cell (World.block_lt_of_cell? wr _ hx307_5)).trans hx307_5); (have ha436 := fun o_ => ((alloc_below0 wr o_).cell (World.block_lt_of_cell? wr _ hx307_6)).trans hx307_6); (have ha437 := fun o_ => ((alloc_below0 wr o_).cell (World.block_lt_of_cell? wr _ hx307_7)).trans hx307_7); (have ha438 := fun o_ => ((alloc_below0 wr o_).cell (World.block_lt_of_cell? wr _ hx307_8)).trans hx307_8); (have ha439 := fun o_ => ((alloc_below0 wr o_).cell (World.block_lt_of_cell? wr _ hx307_9)).trans hx307_9); (have ha440 := fun o_ => ((alloc_below0 wr o_).cell (World.block_lt_of_cell? wr _ hx307_10)).trans hx307_10); (have ha441 := fun o_ => ((alloc_below0 wr o_).cell (World.block_lt_of_cell? wr _ hx307_11)).trans hx307_11); (have ha442 := fun o_ => ((alloc_below0 wr o_).cell (World.block_lt_of_cell? wr _ hx307_12)).trans hx307_12); have BK428 := Aside0.mk (pe_box0 wr #[.string ((rd_T52 l0_1 x4_425).f0), .slice A307_1 ((rd_T52 l0_1 x4_425).f1).length c307_1, .slice A307_2 ((rd_T52 l0_1 x4_425).f2).length c307_2, .slice A307_3 ((rd_T52 l0_1 x4_425).f3).length c307_3, .slice A307_4 ((rd_T52 l0_1 x4_425).f4).length c307_4, .slice A307_5 ((rd_T52 l0_1 x4_425).f5).length c307_5, .slice A307_6 ((rd_T52 l0_1 x4_425).f6).length c307_6, .slice A307_7 ((rd_T52 l0_1 x4_425).f7).length c307_7, .slice A307_8 ((rd_T52 l0_1 x4_425).f8).length c307_8, .slice A307_9 ((rd_T52 l0_1 x4_425).f9).length c307_9, .int .i64 ((rd_T52 l0_1 x4_425).f10), .int .i64 ((rd_T52 l0_1 x4_425).f11.f0), .int .i64 ((rd_T52 l0_1 x4_425).f11.f1)] 52); replace BK424 := Aside0.mk (blk_below BK424.out (alloc_below0 _ (.cells #[.string ((rd_T52 l0_1 x4_425).f0), .slice A307_1 ((rd_T52 l0_1 x4_425).f1).length c307_1, .slice A307_2 ((rd_T52 l0_1 x4_425).f2).length c307_2, .slice A307_3 ((rd_T52 l0_1 x4_425).f3).length c307_3, .slice A307_4 ((rd_T52 l0_1 x4_425).f4).length c307_4, .slice A307_5 ((rd_T52 l0_1 x4_425).f5).length c307_5, .slice A307_6 ((rd_T52 l0_1 x4_425).f6).length c307_6, .slice A307_7 ((rd_T52 l0_1 x4_425).f7).length c307_7, .slice A307_8 ((rd_T52 l0_1 x4_425).f8).length c307_8, .slice A307_9 ((rd_T52 l0_1 x4_425).f9).length c307_9, .int .i64 ((rd_T52 l0_1 x4_425).f10), .int .i64 ((rd_T52 l0_1 x4_425).f11.f0), .int .i64 ((rd_T52 l0_1 x4_425).f11.f1)] 52))); replace HB := Aside0.mk (below_alloc HB.out (.cells #[.string ((rd_T52 l0_1 x4_425).f0), .slice A307_1 ((rd_T52 l0_1 x4_425).f1).length c307_1, .slice A307_2 ((rd_T52 l0_1 x4_425).f2).length c307_2, .slice A307_3 ((rd_T52 l0_1 x4_425).f3).length c307_3, .slice A307_4 ((rd_T52 l0_1 x4_425).f4).length c307_4, .slice A307_5 ((rd_T52 l0_1 x4_425).f5).length c307_5, .slice A307_6 ((rd_T52 l0_1 x4_425).f6).length c307_6, .slice A307_7 ((rd_T52 l0_1 x4_425).f7).length c307_7, .slice A307_8 ((rd_T52 l0_1 x4_425).f8).length c307_8, .slice A307_9 ((rd_T52 l0_1 x4_425).f9).length c307_9, .int .i64 ((rd_T52 l0_1 x4_425).f10), .int .i64 ((rd_T52 l0_1 x4_425).f11.f0), .int .i64 ((rd_T52 l0_1 x4_425).f11.f1)] 52)); go_wp2; go_roundg k425
       case measure => have := HK425.out; omega
       case rel => exact ⟨(wrap64 ((wrap64 ((wrap64 ((wrap64 ((wrap64 ((wrap64 ((wrap64 ((wrap64 ((wrap64 (x3_425 + (((rd_T52 l0_1 x4_425).f1).length : Int))) + (((rd_T52 l0_1 x4_425).f2).length : Int))) + (((rd_T52 l0_1 x4_425).f3).length : Int))) + (((rd_T52 l0_1 x4_425).f4).length : Int))) + (((rd_T52 l0_1 x4_425).f5).length : Int))) + (((rd_T52 l0_1 x4_425).f6).length : Int))) + (((rd_T52 l0_1 x4_425).f7).length : Int))) + (((rd_T52 l0_1 x4_425).f8).length : Int))) + (((rd_T52 l0_1 x4_425).f9).length : Int))), (wrap64 (x4_425 + 1)), (by first | rfl | (simp; done) | (simp [*]; done)), (by first | rfl | (simp; done) | (simp [*]; done)), H, ⟨by have := HK425.out; omega⟩, BK424, HB⟩
     · replace H := a0n c427 H; exact absurd H.out (by simp)
   · replace H := a0n c426 H; have c426b0 : decide (x4_425 < (l0_1.length : Int)) = false := decide_eq_false c426; have Kc426 := Aside0.mk c426; clear c426; go_wp2_with fail; go_loopg [3, 6] k425 (fun kq v3 v6 w' => ∃ (x3_443 : Int) (x6_443 : Int), v3 = .int .i64 x3_443 ∧ v6 = .int .i64 x6_443 ∧ Aside0 (R06_Size.l1 kq x3_443 x6_443 a0_0 l0_1 l0_2 a0_3 l0_4 l0_5 l0_6 = some r) ∧ Aside0 (kq ≤ k425) ∧ Aside0 (w'.heap[w.heap.size]? = some (.cells #[.string a0_0, .slice A0_1 l0_1.length c0_1, .slice A0_2 l0_2.length c0_2, .int .i64 a0_3, .slice A0_4 l0_4.length c0_4, .slice A0_5 l0_5.length c0_5, .slice A0_6 l0_6.length c0_6] 30 (0, 0))) ∧ Aside0 (Below w.heap.size w w'))
     case atStart => exact ⟨x3_425, 0, (by first | rfl | (simp; done) | (simp [*]; done)), (by first | rfl | (simp; done) | (simp [*]; done)), H, ⟨Nat.le_refl _⟩, BK424, HB⟩
     case round =>
      clear H HB BK424
      try clear Z424
      obtain ⟨x3_443, x6_443, rfl, rfl, HA, HK443, BK424, HB⟩ := hrel
      cases gk with
      | zero => exact absurd HA.out (by simp [R06_Size.l1])
      | succ k443 =>
       have H1 := HA.out; simp only [R06_Size.l1] at H1; have H := Aside0.mk H1; clear H1 HA; have Z424 := blk7 BK424.out; by_cases c444 : x6_443 < (l0_2.length : Int)
       · replace H := a0p c444 H; have c444b0 : decide (x6_443 < (l0_2.length : Int)) = true := decide_eq_true c444; have Kc444 := Aside0.mk c444; clear c444; by_cases c445 : 0 ≤ x6_443
         · replace H := a0p c445 H; have c445b0 : decide (0 ≤ x6_443) = true := decide_eq_true c445; have Kc445 := Aside0.mk c445; clear c445; have p309 : 0 ≤ (x6_443 : Int) := Kc445.out; have q309 : x6_443 < (l0_2.length : Int) := Kc444.out; obtain ⟨ad309, A309_2, c309_2, e309, hx309_0, hx309_1, hx309_2, hl309_2, hi309_2⟩ := at_T67 HR0_2.out (x6_443) p309 q309
           cases e309
           replace hx309_0 := (HB.out.cell (World.block_lt_of_cell? w _ hx309_0)).trans hx309_0; replace hx309_1 := (HB.out.cell (World.block_lt_of_cell? w _ hx309_1)).trans hx309_1; replace hx309_2 := (HB.out.cell (World.block_lt_of_cell? w _ hx309_2)).trans hx309_2; have HR309_2 := Aside0.mk hi309_2; have HC309_2 := Aside0.mk hl309_2; clear hi309_2 hl309_2; go_wp2; go_roundg k443
           case measure => have := HK425.out; have := HK443.out; omega
           case rel => exact ⟨(wrap64 (x3_443 + (((rd_T67 l0_2 x6_443).f2).length : Int))), (wrap64 (x6_443 + 1)), (by first | rfl | (simp; done) | (simp [*]; done)), (by first | rfl | (simp; done) | (simp [*]; done)), H, ⟨by have := HK425.out; have := HK443.out; omega⟩, BK424, HB⟩
         · replace H := a0n c445 H; exact absurd H.out (by simp)
       · replace H := a0n c444 H; have c444b0 : decide (x6_443 < (l0_2.length : Int)) = false := decide_eq_false c444; have Kc444 := Aside0.mk c444; clear c444; go_wp2_with fail; go_loopg [3, 7] k443 (fun kq v3 v7 w' => ∃ (x3_446 : Int) (x7_446 : Int), v3 = .int .i64 x3_446 ∧ v7 = .int .i64 x7_446 ∧ Aside0 (R06_Size.l2 kq x3_446 x7_446 a0_0 l0_1 l0_2 a0_3 l0_4 l0_5 l0_6 = some r) ∧ Aside0 (kq ≤ k443) ∧ Aside0 (w'.heap[w.heap.size]? = some (.cells #[.string a0_0, .slice A0_1 l0_1.length c0_1, .slice A0_2 l0_2.length c0_2, .int .i64 a0_3, .slice A0_4 l0_4.length c0_4, .slice A0_5 l0_5.length c0_5, .slice A0_6 l0_6.length c0_6] 30 (0, 0))) ∧ Aside0 (Below w.heap.size w w'))
         case atStart => exact ⟨x3_443, 0, (by first | rfl | (simp; done) | (simp [*]; done)), (by first | rfl | (simp; done) | (simp [*]; done)), H, ⟨Nat.le_refl _⟩, BK424, HB⟩
         case round =>
          clear H HB BK424
          try clear Z424
          obtain ⟨x3_446, x7_446, rfl, rfl, HA, HK446, BK424, HB⟩ := hrel
          cases gk with
          | zero => exact absurd HA.out (by simp [R06_Size.l2])
          | succ k446 =>
           have H1 := HA.out; simp only [R06_Size.l2] at H1; have H := Aside0.mk H1; clear H1 HA; have Z424 := blk7 BK424.out; by_cases c447 : x7_446 < (l0_4.length : Int)
           · replace H := a0p c447 H; have c447b0 : decide (x7_446 < (l0_4.length : Int)) = true := decide_eq_true c447; have Kc447 := Aside0.mk c447; clear c447; by_cases c448 : 0 ≤ x7_446
             · replace H := a0p c448 H; have c448b0 : decide (0 ≤ x7_446) = true := decide_eq_true c448; have Kc448 := Aside0.mk c448; clear c448; have p310 : 0 ≤ (x7_446 : Int) := Kc448.out; have q310 : x7_446 < (l0_4.length : Int) := Kc447.out; obtain ⟨ad310, A310_2, c310_2, e310, hx310_0, hx310_1, hx310_2, hl310_2, hi310_2⟩ := at_T74 HR0_4.out (x7_446) p310 q310
               cases e310
               replace hx310_0 := (HB.out.cell (World.block_lt_of_cell? w _ hx310_0)).trans hx310_0; replace hx310_1 := (HB.out.cell (World.block_lt_of_cell? w _ hx310_1)).trans hx310_1; replace hx310_2 := (HB.out.cell (World.block_lt_of_cell? w _ hx310_2)).trans hx310_2; have HR310_2 := Aside0.mk hi310_2; have HC310_2 := Aside0.mk hl310_2; clear hi310_2 hl310_2; go_wp2; go_roundg k446
               case measure => have := HK425.out; have := HK443.out; have := HK446.out; omega
               case rel => exact ⟨(wrap64 (x3_446 + (((rd_T74 l0_4 x7_446).f1).length : Int))), (wrap64 (x7_446 + 1)), (by first | rfl | (simp; done) | (simp [*]; done)), (by first | rfl | (simp; done) | (simp [*]; done)), H, ⟨by have := HK425.out; have := HK443.out; have := HK446.out; omega⟩, BK424, HB⟩
             · replace H := a0n c448 H; exact absurd H.out (by simp)
           · replace H := a0n c447 H; have c447b0 : decide (x7_446 < (l0_4.length : Int)) = false := decide_eq_false c447; have Kc447 := Aside0.mk c447; clear c447; obtain rfl := Option.some.inj H.out; go_wp2; go_ret; exact ⟨by first | rfl | (simp; done) | (simp [*]; done), HB.out⟩

end Go.Proofs.YthpdlgamicmhaaaGreat.PR
