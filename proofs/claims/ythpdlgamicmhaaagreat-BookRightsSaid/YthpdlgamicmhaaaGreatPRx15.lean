/- Written by a program (pe.py): functions of the program as Lean functions, and that each call answers as they do. -/
import Derived.Test.YthpdlgamicmhaaaGreatPRx0
import Derived.Test.YthpdlgamicmhaaaGreatPRx14
namespace Go.Proofs.YthpdlgamicmhaaaGreat.PR
open Go.RowKit Go.Proofs.YthpdlgamicmhaaaGreatW.PrintWords Go.Proofs.YthpdlgamicmhaaaGreatW.PrintLast Go.Proofs.YthpdlgamicmhaaaGreatW.PrintMore
attribute [local go_sem] max2_int min2_int max_two min_two max_three min_three max_four min_four   -- for this text's walks alone
set_option linter.unusedVariables false
set_option linter.unusedSimpArgs false

/-! ### book_Board_108__109: function 108 at book_Partition_right_5 -/
def book_Board_108__109.f (k : Nat) (l : List (S117)) (n : Int) : Option (Bool) := if (l.length : Int) ≤ n then (if l.length ≤ 140737488351232 then (allO (fun x => book_Partition_right_5.f k (x.f0) (x.f1)) l) else none) else (some false)
theorem book_Board_108__109.mono : ∀ a0 a1 k, LeO (book_Board_108__109.f k a0 a1) (book_Board_108__109.f (k + 1) a0 a1) := by
 intro a0 a1 k
 unfold book_Board_108__109.f
 exact LeO.ite (LeO.ite (allO_mono (fun x => book_Partition_right_5.mono _ _ k) a0) (LeO.refl _)) (LeO.refl _)
set_option maxHeartbeats 800000 in
set_option maxRecDepth 100000 in
theorem book_Board_108__109.c1 (k : Nat) (x : S117) (r : Bool) (g : Nat) (w : World) (hg : w.cell? ⟨g, 0, none⟩ = some (.func (.func 109) #[] #[])) (h : book_Partition_right_5.f k (x.f0) (x.f1) = some r) :
  Calls Tryz.prog 147 #[.agg #[.string (x.f0), .int .i64 (x.f1)], .pointer (some ⟨g, 0, none⟩)] w fun e w' => e = .returned (.bool (!r)) ∧ Below w.heap.size w w' := by
 have hgl := World.block_lt_of_cell? w _ hg
 have HH := Aside0.mk h
 clear h
 have hgw : (w.alloc (.cells #[.string (x.f0), .int .i64 (x.f1)] 117)).cell? ⟨g, 0, none⟩ = some (.func (.func 109) #[] #[]) := ((alloc_below0 w _).cell hgl).trans hg
 go_enter Tryz.func147, Tryz.ntmps147
 go_wp2_with fail
 refine (book_Partition_right_5.calls k (x.f0) (x.f1) r _ HH.out).mono ?_
 rintro e w' ⟨rfl, hb⟩
 go_wp2
 go_ret
 exact ⟨by simp, below_step (alloc_below0 w _) hb⟩
set_option maxHeartbeats 2000000 in
set_option maxRecDepth 100000 in
theorem book_Board_108__109.c2 (k : Nat) (A0 : Option Addr) (c0 : Nat) (l : List (S117)) (r : Bool) (g : Nat) (w : World) (hr0 : Kd.C k117 w A0 l.length l) (hL : l.length ≤ 140737488351232) (hg : w.cell? ⟨g, 0, none⟩ = some (.func (.func 109) #[] #[])) (h : allO (fun x => book_Partition_right_5.f k (x.f0) (x.f1)) l = some r) :
  Calls Tryz.prog 164 #[.slice A0 l.length c0, .func (.func 147) #[] #[.pointer (some ⟨g, 0, none⟩)]] w fun e w' => (∃ q : Int, e = .returned (.int .i64 q) ∧ Hid (decide (0 ≤ q) = !r)) ∧ Below w.heap.size w w' := by
 have hgl := World.block_lt_of_cell? w _ hg
 have HR0 := Aside0.mk hr0
 have HG := Aside0.mk hg
 have H0 : Aside0 (allO (fun x => book_Partition_right_5.f k (x.f0) (x.f1)) (l.drop 0) = some r) := ⟨by simpa using h⟩
 clear hr0 hg h
 go_enter Tryz.func164, Tryz.ntmps164
 go_wp2
 go_loopw [8] (fun v8 wr => ∃ j : Nat, v8 = .int .i64 (j : Int) ∧ j ≤ l.length ∧ Aside0 (allO (fun x => book_Partition_right_5.f k (x.f0) (x.f1)) (l.drop j) = some r) ∧ Aside0 (Below w.heap.size w wr)) (fun v8 _ => l.length - (intOf v8).toNat)
 case atStart => exact ⟨0, rfl, Nat.zero_le _, H0, ⟨Below.refl _ _⟩⟩
 case round =>
  clear H0
  obtain ⟨j, rfl, hj, HA, HB⟩ := hrel
  by_cases hlt : j < l.length
  ·
   have p7 : (0 : Int) ≤ (j : Int) := by omega
   have q7 : (j : Int) < (l.length : Int) := by omega
   obtain ⟨b, hb1, hb2, hb3⟩ := allO_cons hlt HA.out
   have HB1 := Aside0.mk hb1
   have HB2 := Aside0.mk hb2
   have HB3 := Aside0.mk hb3
   clear hb1 hb2 hb3
   obtain ⟨ad7, e7, hx7_0, hx7_1⟩ := at_T117 HR0.out (j : Int) p7 q7
   cases e7
   replace hx7_0 := (HB.out.cell (World.block_lt_of_cell? w _ hx7_0)).trans hx7_0
   replace hx7_1 := (HB.out.cell (World.block_lt_of_cell? w _ hx7_1)).trans hx7_1
   have EX : Aside0 (rd_T117 l (j : Int) = l[j]) := ⟨by show l.getD _ _ = _; rw [Int.toNat_natCast, List.getD_eq_getElem?_getD, List.getElem?_eq_getElem hlt, Option.getD_some]⟩
   clear p7 q7
   generalize rd_T117 l (j : Int) = x at *
   have HC : Aside0 (book_Partition_right_5.f k (x.f0) (x.f1) = some b) := ⟨by rw [EX.out]; exact HB1.out⟩
   clear HB1 EX
   simp only [Int.toNat_natCast] at *
   go_wp2_with fail
   refine (book_Board_108__109.c1 k x b g wr ((HB.out.cell hgl).trans HG.out) HC.out).mono ?_
   rintro e w9 ⟨rfl, hb⟩
   have HB9 : Aside0 (Below w.heap.size w w9) := ⟨below_step HB.out hb⟩
   clear hb HB
   cases b with
   | true =>
    go_wp2
    go_roundw
    case rel => exact ⟨j + 1, by go_num, by omega, ⟨HB2.out (by simp)⟩, HB9⟩
    case measure => simp [intOf]; omega
   | false =>
    go_wp2
    go_ret
    exact ⟨⟨_, rfl, by rw [HB3.out (by simp)]; show _ = _; simp⟩, HB9.out⟩
  ·
   obtain rfl : j = l.length := by omega
   have hr : r = true := by have := HA.out; rw [List.drop_length] at this; simpa [allO] using this.symm
   subst hr
   go_wp2
   go_ret
   exact ⟨⟨_, rfl, by show _ = _; simp⟩, HB.out⟩
set_option maxHeartbeats 800000 in
theorem book_Board_108__109.c3 (k : Nat) (A0 : Option Addr) (c0 : Nat) (l : List (S117)) (r : Bool) (g : Nat) (w : World) (hr0 : Kd.C k117 w A0 l.length l) (hL : l.length ≤ 140737488351232) (hg : w.cell? ⟨g, 0, none⟩ = some (.func (.func 109) #[] #[])) (h : allO (fun x => book_Partition_right_5.f k (x.f0) (x.f1)) l = some r) :
  Calls Tryz.prog 146 #[.slice A0 l.length c0, .func (.func 147) #[] #[.pointer (some ⟨g, 0, none⟩)]] w fun e w' => e = .returned (.bool (!r)) ∧ Below w.heap.size w w' := by
 have HC := book_Board_108__109.c2 k A0 c0 l r g w hr0 hL hg h
 clear hr0 hg h
 go_enter Tryz.func146, Tryz.ntmps146
 go_wp2_with fail
 refine HC.mono ?_
 clear HC
 rintro e w' ⟨⟨q, rfl, hq⟩, hb⟩
 go_wp2
 go_ret
 exact ⟨by rw [← hq.out]; rfl, hb⟩
set_option maxHeartbeats 800000 in
theorem book_Board_108__109.calls (k : Nat) (A0 : Option Addr) (c0 : Nat) (l0 : List (S117)) (a1 : Int) (r : Bool) (w : World) (hr0 : Kd.C k117 w A0 l0.length l0) (hc0 : l0.length ≤ c0) (h : book_Board_108__109.f k l0 a1 = some r) :
  Calls Tryz.prog 108 #[.slice A0 l0.length c0, .int .i64 a1, .func (.func 109) #[] #[]] w fun e w' => e = .returned (.bool r) ∧ Below w.heap.size w w' := by
 unfold book_Board_108__109.f at h
 have HR := Aside0.mk hr0
 clear hr0
 have hbw : Below w.heap.size w (w.alloc (.cells #[.func (.func 109) #[] #[]] 163)) := alloc_below0 w _
 by_cases hle : (l0.length : Int) ≤ a1
 ·
  rw [if_pos hle] at h
  obtain ⟨hL, h2⟩ := if_some h
  clear h
  have h := h2
  clear h2
  have hd : decide ((l0.length : Int) ≤ a1) = true := decide_eq_true hle
  have HC := book_Board_108__109.c3 k A0 c0 l0 r w.heap.size (w.alloc (.cells #[.func (.func 109) #[] #[]] 163)) (Kd.C_alloc HR.out _) hL (by simp) h
  have HB := Aside0.mk hbw
  clear h hle hbw
  go_enter Tryz.func108, Tryz.ntmps108
  go_wp2_with fail
  refine HC.mono ?_
  clear HC
  rintro e w' ⟨rfl, hb⟩
  go_wp2
  go_ret
  exact ⟨by simp, below_step HB.out hb⟩
 ·
  rw [if_neg hle] at h
  obtain rfl := Option.some.inj h
  have hd : decide ((l0.length : Int) ≤ a1) = false := decide_eq_false hle
  clear h hle
  go_enter Tryz.func108, Tryz.ntmps108
  go_wp2
  go_ret
  exact ⟨rfl, hbw⟩

/-! ### book_Buffer_110__111: function 110 at book_Partition_right_6 -/
def book_Buffer_110__111.f (k : Nat) (l : List (S119)) (n : Int) : Option (Bool) := if (l.length : Int) ≤ n then (if l.length ≤ 140737488351232 then (allO (fun x => book_Partition_right_6.f k (x.f0) (x.f1) (x.f2) (x.f3)) l) else none) else (some false)
theorem book_Buffer_110__111.mono : ∀ a0 a1 k, LeO (book_Buffer_110__111.f k a0 a1) (book_Buffer_110__111.f (k + 1) a0 a1) := by
 intro a0 a1 k
 unfold book_Buffer_110__111.f
 exact LeO.ite (LeO.ite (allO_mono (fun x => book_Partition_right_6.mono _ _ _ _ k) a0) (LeO.refl _)) (LeO.refl _)
set_option maxHeartbeats 800000 in
set_option maxRecDepth 100000 in
theorem book_Buffer_110__111.c1 (k : Nat) (x : S119) (r : Bool) (g : Nat) (w : World) (hg : w.cell? ⟨g, 0, none⟩ = some (.func (.func 111) #[] #[])) (h : book_Partition_right_6.f k (x.f0) (x.f1) (x.f2) (x.f3) = some r) :
  Calls Tryz.prog 149 #[.agg #[.string (x.f0), .int .i64 (x.f1), .int .i64 (x.f2), .bool (x.f3)], .pointer (some ⟨g, 0, none⟩)] w fun e w' => e = .returned (.bool (!r)) ∧ Below w.heap.size w w' := by
 have hgl := World.block_lt_of_cell? w _ hg
 have HH := Aside0.mk h
 clear h
 have hgw : (w.alloc (.cells #[.string (x.f0), .int .i64 (x.f1), .int .i64 (x.f2), .bool (x.f3)] 119)).cell? ⟨g, 0, none⟩ = some (.func (.func 111) #[] #[]) := ((alloc_below0 w _).cell hgl).trans hg
 go_enter Tryz.func149, Tryz.ntmps149
 go_wp2_with fail
 refine (book_Partition_right_6.calls k (x.f0) (x.f1) (x.f2) (x.f3) r _ HH.out).mono ?_
 rintro e w' ⟨rfl, hb⟩
 go_wp2
 go_ret
 exact ⟨by simp, below_step (alloc_below0 w _) hb⟩
set_option maxHeartbeats 2000000 in
set_option maxRecDepth 100000 in
theorem book_Buffer_110__111.c2 (k : Nat) (A0 : Option Addr) (c0 : Nat) (l : List (S119)) (r : Bool) (g : Nat) (w : World) (hr0 : Kd.C k119 w A0 l.length l) (hL : l.length ≤ 140737488351232) (hg : w.cell? ⟨g, 0, none⟩ = some (.func (.func 111) #[] #[])) (h : allO (fun x => book_Partition_right_6.f k (x.f0) (x.f1) (x.f2) (x.f3)) l = some r) :
  Calls Tryz.prog 165 #[.slice A0 l.length c0, .func (.func 149) #[] #[.pointer (some ⟨g, 0, none⟩)]] w fun e w' => (∃ q : Int, e = .returned (.int .i64 q) ∧ Hid (decide (0 ≤ q) = !r)) ∧ Below w.heap.size w w' := by
 have hgl := World.block_lt_of_cell? w _ hg
 have HR0 := Aside0.mk hr0
 have HG := Aside0.mk hg
 have H0 : Aside0 (allO (fun x => book_Partition_right_6.f k (x.f0) (x.f1) (x.f2) (x.f3)) (l.drop 0) = some r) := ⟨by simpa using h⟩
 clear hr0 hg h
 go_enter Tryz.func165, Tryz.ntmps165
 go_wp2
 go_loopw [8] (fun v8 wr => ∃ j : Nat, v8 = .int .i64 (j : Int) ∧ j ≤ l.length ∧ Aside0 (allO (fun x => book_Partition_right_6.f k (x.f0) (x.f1) (x.f2) (x.f3)) (l.drop j) = some r) ∧ Aside0 (Below w.heap.size w wr)) (fun v8 _ => l.length - (intOf v8).toNat)
 case atStart => exact ⟨0, rfl, Nat.zero_le _, H0, ⟨Below.refl _ _⟩⟩
 case round =>
  clear H0
  obtain ⟨j, rfl, hj, HA, HB⟩ := hrel
  by_cases hlt : j < l.length
  ·
   have p7 : (0 : Int) ≤ (j : Int) := by omega
   have q7 : (j : Int) < (l.length : Int) := by omega
   obtain ⟨b, hb1, hb2, hb3⟩ := allO_cons hlt HA.out
   have HB1 := Aside0.mk hb1
   have HB2 := Aside0.mk hb2
   have HB3 := Aside0.mk hb3
   clear hb1 hb2 hb3
   obtain ⟨ad7, e7, hx7_0, hx7_1, hx7_2, hx7_3⟩ := at_T119 HR0.out (j : Int) p7 q7
   cases e7
   replace hx7_0 := (HB.out.cell (World.block_lt_of_cell? w _ hx7_0)).trans hx7_0
   replace hx7_1 := (HB.out.cell (World.block_lt_of_cell? w _ hx7_1)).trans hx7_1
   replace hx7_2 := (HB.out.cell (World.block_lt_of_cell? w _ hx7_2)).trans hx7_2
   replace hx7_3 := (HB.out.cell (World.block_lt_of_cell? w _ hx7_3)).trans hx7_3
   have EX : Aside0 (rd_T119 l (j : Int) = l[j]) := ⟨by show l.getD _ _ = _; rw [Int.toNat_natCast, List.getD_eq_getElem?_getD, List.getElem?_eq_getElem hlt, Option.getD_some]⟩
   clear p7 q7
   generalize rd_T119 l (j : Int) = x at *
   have HC : Aside0 (book_Partition_right_6.f k (x.f0) (x.f1) (x.f2) (x.f3) = some b) := ⟨by rw [EX.out]; exact HB1.out⟩
   clear HB1 EX
   simp only [Int.toNat_natCast] at *
   go_wp2_with fail
   refine (book_Buffer_110__111.c1 k x b g wr ((HB.out.cell hgl).trans HG.out) HC.out).mono ?_
   rintro e w9 ⟨rfl, hb⟩
   have HB9 : Aside0 (Below w.heap.size w w9) := ⟨below_step HB.out hb⟩
   clear hb HB
   cases b with
   | true =>
    go_wp2
    go_roundw
    case rel => exact ⟨j + 1, by go_num, by omega, ⟨HB2.out (by simp)⟩, HB9⟩
    case measure => simp [intOf]; omega
   | false =>
    go_wp2
    go_ret
    exact ⟨⟨_, rfl, by rw [HB3.out (by simp)]; show _ = _; simp⟩, HB9.out⟩
  ·
   obtain rfl : j = l.length := by omega
   have hr : r = true := by have := HA.out; rw [List.drop_length] at this; simpa [allO] using this.symm
   subst hr
   go_wp2
   go_ret
   exact ⟨⟨_, rfl, by show _ = _; simp⟩, HB.out⟩
set_option maxHeartbeats 800000 in
theorem book_Buffer_110__111.c3 (k : Nat) (A0 : Option Addr) (c0 : Nat) (l : List (S119)) (r : Bool) (g : Nat) (w : World) (hr0 : Kd.C k119 w A0 l.length l) (hL : l.length ≤ 140737488351232) (hg : w.cell? ⟨g, 0, none⟩ = some (.func (.func 111) #[] #[])) (h : allO (fun x => book_Partition_right_6.f k (x.f0) (x.f1) (x.f2) (x.f3)) l = some r) :
  Calls Tryz.prog 148 #[.slice A0 l.length c0, .func (.func 149) #[] #[.pointer (some ⟨g, 0, none⟩)]] w fun e w' => e = .returned (.bool (!r)) ∧ Below w.heap.size w w' := by
 have HC := book_Buffer_110__111.c2 k A0 c0 l r g w hr0 hL hg h
 clear hr0 hg h
 go_enter Tryz.func148, Tryz.ntmps148
 go_wp2_with fail
 refine HC.mono ?_
 clear HC
 rintro e w' ⟨⟨q, rfl, hq⟩, hb⟩
 go_wp2
 go_ret
 exact ⟨by rw [← hq.out]; rfl, hb⟩
set_option maxHeartbeats 800000 in
theorem book_Buffer_110__111.calls (k : Nat) (A0 : Option Addr) (c0 : Nat) (l0 : List (S119)) (a1 : Int) (r : Bool) (w : World) (hr0 : Kd.C k119 w A0 l0.length l0) (hc0 : l0.length ≤ c0) (h : book_Buffer_110__111.f k l0 a1 = some r) :
  Calls Tryz.prog 110 #[.slice A0 l0.length c0, .int .i64 a1, .func (.func 111) #[] #[]] w fun e w' => e = .returned (.bool r) ∧ Below w.heap.size w w' := by
 unfold book_Buffer_110__111.f at h
 have HR := Aside0.mk hr0
 clear hr0
 have hbw : Below w.heap.size w (w.alloc (.cells #[.func (.func 111) #[] #[]] 165)) := alloc_below0 w _
 by_cases hle : (l0.length : Int) ≤ a1
 ·
  rw [if_pos hle] at h
  obtain ⟨hL, h2⟩ := if_some h
  clear h
  have h := h2
  clear h2
  have hd : decide ((l0.length : Int) ≤ a1) = true := decide_eq_true hle
  have HC := book_Buffer_110__111.c3 k A0 c0 l0 r w.heap.size (w.alloc (.cells #[.func (.func 111) #[] #[]] 165)) (Kd.C_alloc HR.out _) hL (by simp) h
  have HB := Aside0.mk hbw
  clear h hle hbw
  go_enter Tryz.func110, Tryz.ntmps110
  go_wp2_with fail
  refine HC.mono ?_
  clear HC
  rintro e w' ⟨rfl, hb⟩
  go_wp2
  go_ret
  exact ⟨by simp, below_step HB.out hb⟩
 ·
  rw [if_neg hle] at h
  obtain rfl := Option.some.inj h
  have hd : decide ((l0.length : Int) ≤ a1) = false := decide_eq_false hle
  clear h hle
  go_enter Tryz.func110, Tryz.ntmps110
  go_wp2
  go_ret
  exact ⟨rfl, hbw⟩

/-! ### book_Port_112__113: function 112 at book_Partition_right_7 -/
def book_Port_112__113.f (k : Nat) (l : List (S60)) (n : Int) : Option (Bool) := if (l.length : Int) ≤ n then (if l.length ≤ 140737488351232 then (allO (fun x => book_Partition_right_7.f k (x.f0) (x.f1) (x.f2) (x.f3) (x.f4) (x.f5)) l) else none) else (some false)
theorem book_Port_112__113.mono : ∀ a0 a1 k, LeO (book_Port_112__113.f k a0 a1) (book_Port_112__113.f (k + 1) a0 a1) := by
 intro a0 a1 k
 unfold book_Port_112__113.f
 exact LeO.ite (LeO.ite (allO_mono (fun x => book_Partition_right_7.mono _ _ _ _ _ _ k) a0) (LeO.refl _)) (LeO.refl _)
set_option maxHeartbeats 800000 in
set_option maxRecDepth 100000 in
theorem book_Port_112__113.c1 (k : Nat) (x : S60) (r : Bool) (g : Nat) (w : World) (hg : w.cell? ⟨g, 0, none⟩ = some (.func (.func 113) #[] #[])) (h : book_Partition_right_7.f k (x.f0) (x.f1) (x.f2) (x.f3) (x.f4) (x.f5) = some r) :
  Calls Tryz.prog 151 #[.agg #[.string (x.f0), .bool (x.f1), .bool (x.f2), .int .i64 (x.f3), .int .i64 (x.f4), .int .i64 (x.f5)], .pointer (some ⟨g, 0, none⟩)] w fun e w' => e = .returned (.bool (!r)) ∧ Below w.heap.size w w' := by
 have hgl := World.block_lt_of_cell? w _ hg
 have HH := Aside0.mk h
 clear h
 have hgw : (w.alloc (.cells #[.string (x.f0), .bool (x.f1), .bool (x.f2), .int .i64 (x.f3), .int .i64 (x.f4), .int .i64 (x.f5)] 60)).cell? ⟨g, 0, none⟩ = some (.func (.func 113) #[] #[]) := ((alloc_below0 w _).cell hgl).trans hg
 go_enter Tryz.func151, Tryz.ntmps151
 go_wp2_with fail
 refine (book_Partition_right_7.calls k (x.f0) (x.f1) (x.f2) (x.f3) (x.f4) (x.f5) r _ HH.out).mono ?_
 rintro e w' ⟨rfl, hb⟩
 go_wp2
 go_ret
 exact ⟨by simp, below_step (alloc_below0 w _) hb⟩
set_option maxHeartbeats 2000000 in
set_option maxRecDepth 100000 in
theorem book_Port_112__113.c2 (k : Nat) (A0 : Option Addr) (c0 : Nat) (l : List (S60)) (r : Bool) (g : Nat) (w : World) (hr0 : Kd.C k60 w A0 l.length l) (hL : l.length ≤ 140737488351232) (hg : w.cell? ⟨g, 0, none⟩ = some (.func (.func 113) #[] #[])) (h : allO (fun x => book_Partition_right_7.f k (x.f0) (x.f1) (x.f2) (x.f3) (x.f4) (x.f5)) l = some r) :
  Calls Tryz.prog 166 #[.slice A0 l.length c0, .func (.func 151) #[] #[.pointer (some ⟨g, 0, none⟩)]] w fun e w' => (∃ q : Int, e = .returned (.int .i64 q) ∧ Hid (decide (0 ≤ q) = !r)) ∧ Below w.heap.size w w' := by
 have hgl := World.block_lt_of_cell? w _ hg
 have HR0 := Aside0.mk hr0
 have HG := Aside0.mk hg
 have H0 : Aside0 (allO (fun x => book_Partition_right_7.f k (x.f0) (x.f1) (x.f2) (x.f3) (x.f4) (x.f5)) (l.drop 0) = some r) := ⟨by simpa using h⟩
 clear hr0 hg h
 go_enter Tryz.func166, Tryz.ntmps166
 go_wp2
 go_loopw [8] (fun v8 wr => ∃ j : Nat, v8 = .int .i64 (j : Int) ∧ j ≤ l.length ∧ Aside0 (allO (fun x => book_Partition_right_7.f k (x.f0) (x.f1) (x.f2) (x.f3) (x.f4) (x.f5)) (l.drop j) = some r) ∧ Aside0 (Below w.heap.size w wr)) (fun v8 _ => l.length - (intOf v8).toNat)
 case atStart => exact ⟨0, rfl, Nat.zero_le _, H0, ⟨Below.refl _ _⟩⟩
 case round =>
  clear H0
  obtain ⟨j, rfl, hj, HA, HB⟩ := hrel
  by_cases hlt : j < l.length
  ·
   have p7 : (0 : Int) ≤ (j : Int) := by omega
   have q7 : (j : Int) < (l.length : Int) := by omega
   obtain ⟨b, hb1, hb2, hb3⟩ := allO_cons hlt HA.out
   have HB1 := Aside0.mk hb1
   have HB2 := Aside0.mk hb2
   have HB3 := Aside0.mk hb3
   clear hb1 hb2 hb3
   obtain ⟨ad7, e7, hx7_0, hx7_1, hx7_2, hx7_3, hx7_4, hx7_5⟩ := at_T60 HR0.out (j : Int) p7 q7
   cases e7
   replace hx7_0 := (HB.out.cell (World.block_lt_of_cell? w _ hx7_0)).trans hx7_0
   replace hx7_1 := (HB.out.cell (World.block_lt_of_cell? w _ hx7_1)).trans hx7_1
   replace hx7_2 := (HB.out.cell (World.block_lt_of_cell? w _ hx7_2)).trans hx7_2
   replace hx7_3 := (HB.out.cell (World.block_lt_of_cell? w _ hx7_3)).trans hx7_3
   replace hx7_4 := (HB.out.cell (World.block_lt_of_cell? w _ hx7_4)).trans hx7_4
   replace hx7_5 := (HB.out.cell (World.block_lt_of_cell? w _ hx7_5)).trans hx7_5
   have EX : Aside0 (rd_T60 l (j : Int) = l[j]) := ⟨by show l.getD _ _ = _; rw [Int.toNat_natCast, List.getD_eq_getElem?_getD, List.getElem?_eq_getElem hlt, Option.getD_some]⟩
   clear p7 q7
   generalize rd_T60 l (j : Int) = x at *
   have HC : Aside0 (book_Partition_right_7.f k (x.f0) (x.f1) (x.f2) (x.f3) (x.f4) (x.f5) = some b) := ⟨by rw [EX.out]; exact HB1.out⟩
   clear HB1 EX
   simp only [Int.toNat_natCast] at *
   go_wp2_with fail
   refine (book_Port_112__113.c1 k x b g wr ((HB.out.cell hgl).trans HG.out) HC.out).mono ?_
   rintro e w9 ⟨rfl, hb⟩
   have HB9 : Aside0 (Below w.heap.size w w9) := ⟨below_step HB.out hb⟩
   clear hb HB
   cases b with
   | true =>
    go_wp2
    go_roundw
    case rel => exact ⟨j + 1, by go_num, by omega, ⟨HB2.out (by simp)⟩, HB9⟩
    case measure => simp [intOf]; omega
   | false =>
    go_wp2
    go_ret
    exact ⟨⟨_, rfl, by rw [HB3.out (by simp)]; show _ = _; simp⟩, HB9.out⟩
  ·
   obtain rfl : j = l.length := by omega
   have hr : r = true := by have := HA.out; rw [List.drop_length] at this; simpa [allO] using this.symm
   subst hr
   go_wp2
   go_ret
   exact ⟨⟨_, rfl, by show _ = _; simp⟩, HB.out⟩
set_option maxHeartbeats 800000 in
theorem book_Port_112__113.c3 (k : Nat) (A0 : Option Addr) (c0 : Nat) (l : List (S60)) (r : Bool) (g : Nat) (w : World) (hr0 : Kd.C k60 w A0 l.length l) (hL : l.length ≤ 140737488351232) (hg : w.cell? ⟨g, 0, none⟩ = some (.func (.func 113) #[] #[])) (h : allO (fun x => book_Partition_right_7.f k (x.f0) (x.f1) (x.f2) (x.f3) (x.f4) (x.f5)) l = some r) :
  Calls Tryz.prog 150 #[.slice A0 l.length c0, .func (.func 151) #[] #[.pointer (some ⟨g, 0, none⟩)]] w fun e w' => e = .returned (.bool (!r)) ∧ Below w.heap.size w w' := by
 have HC := book_Port_112__113.c2 k A0 c0 l r g w hr0 hL hg h
 clear hr0 hg h
 go_enter Tryz.func150, Tryz.ntmps150
 go_wp2_with fail
 refine HC.mono ?_
 clear HC
 rintro e w' ⟨⟨q, rfl, hq⟩, hb⟩
 go_wp2
 go_ret
 exact ⟨by rw [← hq.out]; rfl, hb⟩
set_option maxHeartbeats 800000 in
theorem book_Port_112__113.calls (k : Nat) (A0 : Option Addr) (c0 : Nat) (l0 : List (S60)) (a1 : Int) (r : Bool) (w : World) (hr0 : Kd.C k60 w A0 l0.length l0) (hc0 : l0.length ≤ c0) (h : book_Port_112__113.f k l0 a1 = some r) :
  Calls Tryz.prog 112 #[.slice A0 l0.length c0, .int .i64 a1, .func (.func 113) #[] #[]] w fun e w' => e = .returned (.bool r) ∧ Below w.heap.size w w' := by
 unfold book_Port_112__113.f at h
 have HR := Aside0.mk hr0
 clear hr0
 have hbw : Below w.heap.size w (w.alloc (.cells #[.func (.func 113) #[] #[]] 167)) := alloc_below0 w _
 by_cases hle : (l0.length : Int) ≤ a1
 ·
  rw [if_pos hle] at h
  obtain ⟨hL, h2⟩ := if_some h
  clear h
  have h := h2
  clear h2
  have hd : decide ((l0.length : Int) ≤ a1) = true := decide_eq_true hle
  have HC := book_Port_112__113.c3 k A0 c0 l0 r w.heap.size (w.alloc (.cells #[.func (.func 113) #[] #[]] 167)) (Kd.C_alloc HR.out _) hL (by simp) h
  have HB := Aside0.mk hbw
  clear h hle hbw
  go_enter Tryz.func112, Tryz.ntmps112
  go_wp2_with fail
  refine HC.mono ?_
  clear HC
  rintro e w' ⟨rfl, hb⟩
  go_wp2
  go_ret
  exact ⟨by simp, below_step HB.out hb⟩
 ·
  rw [if_neg hle] at h
  obtain rfl := Option.some.inj h
  have hd : decide ((l0.length : Int) ≤ a1) = false := decide_eq_false hle
  clear h hle
  go_enter Tryz.func112, Tryz.ntmps112
  go_wp2
  go_ret
  exact ⟨rfl, hbw⟩

/-! ### book_Rule_40__41: function 40 at book_Rule_right -/
def book_Rule_40__41.f (l : List (S64)) (n : Int) : Option (Bool) := if (l.length : Int) ≤ n then (if l.length ≤ 140737488351232 then (allO (fun x => book_Rule_right.f (x.f0) (x.f1) (x.f2)) l) else none) else (some false)
set_option maxHeartbeats 800000 in
set_option maxRecDepth 100000 in
theorem book_Rule_40__41.c1 (x : S64) (r : Bool) (g : Nat) (w : World) (hg : w.cell? ⟨g, 0, none⟩ = some (.func (.func 41) #[] #[])) (h : book_Rule_right.f (x.f0) (x.f1) (x.f2) = some r) :
  Calls Tryz.prog 125 #[.agg #[.int .i64 (x.f0), .int .i64 (x.f1), .int .i64 (x.f2)], .pointer (some ⟨g, 0, none⟩)] w fun e w' => e = .returned (.bool (!r)) ∧ Below w.heap.size w w' := by
 have hgl := World.block_lt_of_cell? w _ hg
 have HH := Aside0.mk h
 clear h
 have hgw : (w.alloc (.cells #[.int .i64 (x.f0), .int .i64 (x.f1), .int .i64 (x.f2)] 64)).cell? ⟨g, 0, none⟩ = some (.func (.func 41) #[] #[]) := ((alloc_below0 w _).cell hgl).trans hg
 go_enter Tryz.func125, Tryz.ntmps125
 go_wp2_with fail
 refine (book_Rule_right.calls (x.f0) (x.f1) (x.f2) r _ HH.out).mono ?_
 rintro e w' ⟨rfl, hb⟩
 go_wp2
 go_ret
 exact ⟨by simp, below_step (alloc_below0 w _) hb⟩
set_option maxHeartbeats 2000000 in
set_option maxRecDepth 100000 in
theorem book_Rule_40__41.c2 (A0 : Option Addr) (c0 : Nat) (l : List (S64)) (r : Bool) (g : Nat) (w : World) (hr0 : Kd.C k64 w A0 l.length l) (hL : l.length ≤ 140737488351232) (hg : w.cell? ⟨g, 0, none⟩ = some (.func (.func 41) #[] #[])) (h : allO (fun x => book_Rule_right.f (x.f0) (x.f1) (x.f2)) l = some r) :
  Calls Tryz.prog 158 #[.slice A0 l.length c0, .func (.func 125) #[] #[.pointer (some ⟨g, 0, none⟩)]] w fun e w' => (∃ q : Int, e = .returned (.int .i64 q) ∧ Hid (decide (0 ≤ q) = !r)) ∧ Below w.heap.size w w' := by
 have hgl := World.block_lt_of_cell? w _ hg
 have HR0 := Aside0.mk hr0
 have HG := Aside0.mk hg
 have H0 : Aside0 (allO (fun x => book_Rule_right.f (x.f0) (x.f1) (x.f2)) (l.drop 0) = some r) := ⟨by simpa using h⟩
 clear hr0 hg h
 go_enter Tryz.func158, Tryz.ntmps158
 go_wp2
 go_loopw [8] (fun v8 wr => ∃ j : Nat, v8 = .int .i64 (j : Int) ∧ j ≤ l.length ∧ Aside0 (allO (fun x => book_Rule_right.f (x.f0) (x.f1) (x.f2)) (l.drop j) = some r) ∧ Aside0 (Below w.heap.size w wr)) (fun v8 _ => l.length - (intOf v8).toNat)
 case atStart => exact ⟨0, rfl, Nat.zero_le _, H0, ⟨Below.refl _ _⟩⟩
 case round =>
  clear H0
  obtain ⟨j, rfl, hj, HA, HB⟩ := hrel
  by_cases hlt : j < l.length
  ·
   have p7 : (0 : Int) ≤ (j : Int) := by omega
   have q7 : (j : Int) < (l.length : Int) := by omega
   obtain ⟨b, hb1, hb2, hb3⟩ := allO_cons hlt HA.out
   have HB1 := Aside0.mk hb1
   have HB2 := Aside0.mk hb2
   have HB3 := Aside0.mk hb3
   clear hb1 hb2 hb3
   obtain ⟨ad7, e7, hx7_0, hx7_1, hx7_2⟩ := at_T64 HR0.out (j : Int) p7 q7
   cases e7
   replace hx7_0 := (HB.out.cell (World.block_lt_of_cell? w _ hx7_0)).trans hx7_0
   replace hx7_1 := (HB.out.cell (World.block_lt_of_cell? w _ hx7_1)).trans hx7_1
   replace hx7_2 := (HB.out.cell (World.block_lt_of_cell? w _ hx7_2)).trans hx7_2
   have EX : Aside0 (rd_T64 l (j : Int) = l[j]) := ⟨by show l.getD _ _ = _; rw [Int.toNat_natCast, List.getD_eq_getElem?_getD, List.getElem?_eq_getElem hlt, Option.getD_some]⟩
   clear p7 q7
   generalize rd_T64 l (j : Int) = x at *
   have HC : Aside0 (book_Rule_right.f (x.f0) (x.f1) (x.f2) = some b) := ⟨by rw [EX.out]; exact HB1.out⟩
   clear HB1 EX
   simp only [Int.toNat_natCast] at *
   go_wp2_with fail
   refine (book_Rule_40__41.c1 x b g wr ((HB.out.cell hgl).trans HG.out) HC.out).mono ?_
   rintro e w9 ⟨rfl, hb⟩
   have HB9 : Aside0 (Below w.heap.size w w9) := ⟨below_step HB.out hb⟩
   clear hb HB
   cases b with
   | true =>
    go_wp2
    go_roundw
    case rel => exact ⟨j + 1, by go_num, by omega, ⟨HB2.out (by simp)⟩, HB9⟩
    case measure => simp [intOf]; omega
   | false =>
    go_wp2
    go_ret
    exact ⟨⟨_, rfl, by rw [HB3.out (by simp)]; show _ = _; simp⟩, HB9.out⟩
  ·
   obtain rfl : j = l.length := by omega
   have hr : r = true := by have := HA.out; rw [List.drop_length] at this; simpa [allO] using this.symm
   subst hr
   go_wp2
   go_ret
   exact ⟨⟨_, rfl, by show _ = _; simp⟩, HB.out⟩
set_option maxHeartbeats 800000 in
theorem book_Rule_40__41.c3 (A0 : Option Addr) (c0 : Nat) (l : List (S64)) (r : Bool) (g : Nat) (w : World) (hr0 : Kd.C k64 w A0 l.length l) (hL : l.length ≤ 140737488351232) (hg : w.cell? ⟨g, 0, none⟩ = some (.func (.func 41) #[] #[])) (h : allO (fun x => book_Rule_right.f (x.f0) (x.f1) (x.f2)) l = some r) :
  Calls Tryz.prog 124 #[.slice A0 l.length c0, .func (.func 125) #[] #[.pointer (some ⟨g, 0, none⟩)]] w fun e w' => e = .returned (.bool (!r)) ∧ Below w.heap.size w w' := by
 have HC := book_Rule_40__41.c2 A0 c0 l r g w hr0 hL hg h
 clear hr0 hg h
 go_enter Tryz.func124, Tryz.ntmps124
 go_wp2_with fail
 refine HC.mono ?_
 clear HC
 rintro e w' ⟨⟨q, rfl, hq⟩, hb⟩
 go_wp2
 go_ret
 exact ⟨by rw [← hq.out]; rfl, hb⟩
set_option maxHeartbeats 800000 in
theorem book_Rule_40__41.calls (A0 : Option Addr) (c0 : Nat) (l0 : List (S64)) (a1 : Int) (r : Bool) (w : World) (hr0 : Kd.C k64 w A0 l0.length l0) (hc0 : l0.length ≤ c0) (h : book_Rule_40__41.f l0 a1 = some r) :
  Calls Tryz.prog 40 #[.slice A0 l0.length c0, .int .i64 a1, .func (.func 41) #[] #[]] w fun e w' => e = .returned (.bool r) ∧ Below w.heap.size w w' := by
 unfold book_Rule_40__41.f at h
 have HR := Aside0.mk hr0
 clear hr0
 have hbw : Below w.heap.size w (w.alloc (.cells #[.func (.func 41) #[] #[]] 90)) := alloc_below0 w _
 by_cases hle : (l0.length : Int) ≤ a1
 ·
  rw [if_pos hle] at h
  obtain ⟨hL, h2⟩ := if_some h
  clear h
  have h := h2
  clear h2
  have hd : decide ((l0.length : Int) ≤ a1) = true := decide_eq_true hle
  have HC := book_Rule_40__41.c3 A0 c0 l0 r w.heap.size (w.alloc (.cells #[.func (.func 41) #[] #[]] 90)) (Kd.C_alloc HR.out _) hL (by simp) h
  have HB := Aside0.mk hbw
  clear h hle hbw
  go_enter Tryz.func40, Tryz.ntmps40
  go_wp2_with fail
  refine HC.mono ?_
  clear HC
  rintro e w' ⟨rfl, hb⟩
  go_wp2
  go_ret
  exact ⟨by simp, below_step HB.out hb⟩
 ·
  rw [if_neg hle] at h
  obtain rfl := Option.some.inj h
  have hd : decide ((l0.length : Int) ≤ a1) = false := decide_eq_false hle
  clear h hle
  go_enter Tryz.func40, Tryz.ntmps40
  go_wp2
  go_ret
  exact ⟨rfl, hbw⟩

/-! ### book_Partition_right: function 30 -/
def book_Partition_right.f (k : Nat) (a0_0 : ByteArray) (l0_1 : List (S62)) (l0_2 : List (S109)) (l0_3 : List (S111)) (l0_4 : List (S113)) (l0_5 : List (S115)) (l0_6 : List (S117)) (l0_7 : List (S119)) (l0_8 : List (S60)) (l0_9 : List (S64)) (a0_10 : Int) (a0_11 : Int) (a0_12 : Int) : Option (Bool) := (book_Name.f k a0_0).bind fun t150 => (if t150 = true then ((book_Area_98__99.f k l0_1 16).bind fun t151 => (if t151 = true then ((book_Task_100__101.f k l0_2 16).bind fun t152 => (if t152 = true then ((book_Lock_102__103.f k l0_3 16).bind fun t153 => (if t153 = true then ((book_Sema_104__105.f k l0_4 16).bind fun t154 => (if t154 = true then ((book_Event_106__107.f k l0_5 16).bind fun t155 => (if t155 = true then ((book_Board_108__109.f k l0_6 16).bind fun t156 => (if t156 = true then ((book_Buffer_110__111.f k l0_7 16).bind fun t157 => (if t157 = true then ((book_Port_112__113.f k l0_8 16).bind fun t158 => (if t158 = true then ((book_Rule_40__41.f l0_9 32).bind fun t159 => (if t159 = true then ((book_within.f a0_10 0 1000).bind fun t160 => (if t160 = true then ((book_within.f a0_11 0 1048576).bind fun t161 => (if t161 = true then ((book_within.f a0_12 0 1048576).bind fun t162 => (some t162)) else (some false))) else (some false))) else (some false))) else (some false))) else (some false))) else (some false))) else (some false))) else (some false))) else (some false))) else (some false))) else (some false))) else (some false))
theorem book_Partition_right.mono : ∀ a0 a1 a2 a3 a4 a5 a6 a7 a8 a9 a10 a11 a12 k, LeO (book_Partition_right.f k a0 a1 a2 a3 a4 a5 a6 a7 a8 a9 a10 a11 a12) (book_Partition_right.f (k + 1) a0 a1 a2 a3 a4 a5 a6 a7 a8 a9 a10 a11 a12) := by
  intro a0 a1 a2 a3 a4 a5 a6 a7 a8 a9 a10 a11 a12 k
  unfold book_Partition_right.f
  repeat' first | (with_reducible apply book_Area_98__99.mono) | (with_reducible apply book_Board_108__109.mono) | (with_reducible apply book_Buffer_110__111.mono) | (with_reducible apply book_Event_106__107.mono) | (with_reducible apply book_Lock_102__103.mono) | (with_reducible apply book_Name.mono) | (with_reducible apply book_Port_112__113.mono) | (with_reducible apply book_Sema_104__105.mono) | (with_reducible apply book_Task_100__101.mono) | (with_reducible exact LeO.refl _) | (with_reducible exact LeO.none _) | (with_reducible refine LeO.ite ?_ ?_) | (with_reducible refine LeO.bind ?_ (fun _ => ?_)) | apply LeO.none | apply LeO.ite | (refine LeO.bind ?_ (fun _ => ?_))
set_option maxHeartbeats 8000000 in
set_option maxRecDepth 100000 in
theorem book_Partition_right.calls (k : Nat) (a0_0 : ByteArray) (A0_1 : Option Addr) (c0_1 : Nat) (l0_1 : List (S62)) (A0_2 : Option Addr) (c0_2 : Nat) (l0_2 : List (S109)) (A0_3 : Option Addr) (c0_3 : Nat) (l0_3 : List (S111)) (A0_4 : Option Addr) (c0_4 : Nat) (l0_4 : List (S113)) (A0_5 : Option Addr) (c0_5 : Nat) (l0_5 : List (S115)) (A0_6 : Option Addr) (c0_6 : Nat) (l0_6 : List (S117)) (A0_7 : Option Addr) (c0_7 : Nat) (l0_7 : List (S119)) (A0_8 : Option Addr) (c0_8 : Nat) (l0_8 : List (S60)) (A0_9 : Option Addr) (c0_9 : Nat) (l0_9 : List (S64)) (a0_10 : Int) (a0_11 : Int) (a0_12 : Int) (r : Bool) (w : World) (hr0_1 : Kd.C k62 w A0_1 l0_1.length l0_1) (hc0_1 : l0_1.length ≤ c0_1) (hr0_2 : Kd.C k109 w A0_2 l0_2.length l0_2) (hc0_2 : l0_2.length ≤ c0_2) (hr0_3 : Kd.C k111 w A0_3 l0_3.length l0_3) (hc0_3 : l0_3.length ≤ c0_3) (hr0_4 : Kd.C k113 w A0_4 l0_4.length l0_4) (hc0_4 : l0_4.length ≤ c0_4) (hr0_5 : Kd.C k115 w A0_5 l0_5.length l0_5) (hc0_5 : l0_5.length ≤ c0_5) (hr0_6 : Kd.C k117 w A0_6 l0_6.length l0_6) (hc0_6 : l0_6.length ≤ c0_6) (hr0_7 : Kd.C k119 w A0_7 l0_7.length l0_7) (hc0_7 : l0_7.length ≤ c0_7) (hr0_8 : Kd.C k60 w A0_8 l0_8.length l0_8) (hc0_8 : l0_8.length ≤ c0_8) (hr0_9 : Kd.C k64 w A0_9 l0_9.length l0_9) (hc0_9 : l0_9.length ≤ c0_9) (h : book_Partition_right.f k a0_0 l0_1 l0_2 l0_3 l0_4 l0_5 l0_6 l0_7 l0_8 l0_9 a0_10 a0_11 a0_12 = some r) :
    Calls Tryz.prog 30 #[.agg #[.string a0_0, .slice A0_1 l0_1.length c0_1, .slice A0_2 l0_2.length c0_2, .slice A0_3 l0_3.length c0_3, .slice A0_4 l0_4.length c0_4, .slice A0_5 l0_5.length c0_5, .slice A0_6 l0_6.length c0_6, .slice A0_7 l0_7.length c0_7, .slice A0_8 l0_8.length c0_8, .slice A0_9 l0_9.length c0_9, .int .i64 a0_10, .int .i64 a0_11, .int .i64 a0_12]] w fun e w' => e = .returned (.bool r) ∧ Below w.heap.size w w' := by
 have HR0_1 := Aside0.mk hr0_1; have HC0_1 := Aside0.mk hc0_1; clear hr0_1 hc0_1; have HR0_2 := Aside0.mk hr0_2; have HC0_2 := Aside0.mk hc0_2; clear hr0_2 hc0_2; have HR0_3 := Aside0.mk hr0_3; have HC0_3 := Aside0.mk hc0_3; clear hr0_3 hc0_3; have HR0_4 := Aside0.mk hr0_4; have HC0_4 := Aside0.mk hc0_4; clear hr0_4 hc0_4; have HR0_5 := Aside0.mk hr0_5; have HC0_5 := Aside0.mk hc0_5; clear hr0_5 hc0_5; have HR0_6 := Aside0.mk hr0_6; have HC0_6 := Aside0.mk hc0_6; clear hr0_6 hc0_6; have HR0_7 := Aside0.mk hr0_7; have HC0_7 := Aside0.mk hc0_7; clear hr0_7 hc0_7; have HR0_8 := Aside0.mk hr0_8; have HC0_8 := Aside0.mk hc0_8; clear hr0_8 hc0_8; have HR0_9 := Aside0.mk hr0_9; have HC0_9 := Aside0.mk hc0_9; clear hr0_9 hc0_9; unfold book_Partition_right.f at h; have H := Aside0.mk h; clear h; have HB := Aside0.mk (Below.refl w.heap.size w); have hu52 := Tryz.underlying52; go_enter Tryz.func30, Tryz.ntmps30; have BK94 := Aside0.mk (pe_box0 w #[.string a0_0, .slice A0_1 l0_1.length c0_1, .slice A0_2 l0_2.length c0_2, .slice A0_3 l0_3.length c0_3, .slice A0_4 l0_4.length c0_4, .slice A0_5 l0_5.length c0_5, .slice A0_6 l0_6.length c0_6, .slice A0_7 l0_7.length c0_7, .slice A0_8 l0_8.length c0_8, .slice A0_9 l0_9.length c0_9, .int .i64 a0_10, .int .i64 a0_11, .int .i64 a0_12] 52); replace HB := Aside0.mk (below_alloc HB.out (.cells #[.string a0_0, .slice A0_1 l0_1.length c0_1, .slice A0_2 l0_2.length c0_2, .slice A0_3 l0_3.length c0_3, .slice A0_4 l0_4.length c0_4, .slice A0_5 l0_5.length c0_5, .slice A0_6 l0_6.length c0_6, .slice A0_7 l0_7.length c0_7, .slice A0_8 l0_8.length c0_8, .slice A0_9 l0_9.length c0_9, .int .i64 a0_10, .int .i64 a0_11, .int .i64 a0_12] 52)); obtain ⟨t150, q95, H1⟩ := a0b H; clear H; have H := H1; clear H1; go_wp2_with fail; (with_reducible refine (book_Name.calls k a0_0 t150 _  q95.out).mono ?_); clear q95; (rintro e w96 ⟨rfl, hd⟩); have hb := hd.below; clear hd; replace HB := Aside0.mk (below_step HB.out hb); replace BK94 := Aside0.mk (blk_below BK94.out hb); clear hb; have Z94 := blk13 BK94.out; by_cases c97 : t150 = true
 · replace H := a0p c97 H; subst c97; obtain ⟨t151, q98, H1⟩ := a0b H; clear H; have H := H1; clear H1; go_wp2_with fail; (with_reducible refine (book_Area_98__99.calls k _ _ l0_1 16 t151 _ (Kd.C_below HR0_1.out HB.out) HC0_1.out q98.out).mono ?_); clear q98; (rintro e w99 ⟨rfl, hb⟩); replace HB := Aside0.mk (below_step HB.out hb); replace BK94 := Aside0.mk (blk_below BK94.out hb); clear hb
   try clear Z94
   have Z94 := blk13 BK94.out; by_cases c100 : t151 = true
   · replace H := a0p c100 H; subst c100; obtain ⟨t152, q101, H1⟩ := a0b H; clear H; have H := H1; clear H1; go_wp2_with fail; (with_reducible refine (book_Task_100__101.calls k _ _ l0_2 16 t152 _ (Kd.C_below HR0_2.out HB.out) HC0_2.out q101.out).mono ?_); clear q101; (rintro e w102 ⟨rfl, hb⟩); replace HB := Aside0.mk (below_step HB.out hb); replace BK94 := Aside0.mk (blk_below BK94.out hb); clear hb
     try clear Z94
     have Z94 := blk13 BK94.out; by_cases c103 : t152 = true
     · replace H := a0p c103 H; subst c103; obtain ⟨t153, q104, H1⟩ := a0b H; clear H; have H := H1; clear H1; go_wp2_with fail; (with_reducible refine (book_Lock_102__103.calls k _ _ l0_3 16 t153 _ (Kd.C_below HR0_3.out HB.out) HC0_3.out q104.out).mono ?_); clear q104; (rintro e w105 ⟨rfl, hb⟩); replace HB := Aside0.mk (below_step HB.out hb); replace BK94 := Aside0.mk (blk_below BK94.out hb); clear hb
       try clear Z94
       have Z94 := blk13 BK94.out; by_cases c106 : t153 = true
       · replace H := a0p c106 H; subst c106; obtain ⟨t154, q107, H1⟩ := a0b H; clear H; have H := H1; clear H1; go_wp2_with fail; (with_reducible refine (book_Sema_104__105.calls k _ _ l0_4 16 t154 _ (Kd.C_below HR0_4.out HB.out) HC0_4.out q107.out).mono ?_); clear q107; (rintro e w108 ⟨rfl, hb⟩); replace HB := Aside0.mk (below_step HB.out hb); replace BK94 := Aside0.mk (blk_below BK94.out hb); clear hb
         try clear Z94
         have Z94 := blk13 BK94.out; by_cases c109 : t154 = true
         · replace H := a0p c109 H; subst c109; obtain ⟨t155, q110, H1⟩ := a0b H; clear H; have H := H1; clear H1; go_wp2_with fail; (with_reducible refine (book_Event_106__107.calls k _ _ l0_5 16 t155 _ (Kd.C_below HR0_5.out HB.out) HC0_5.out q110.out).mono ?_); clear q110; (rintro e w111 ⟨rfl, hb⟩); replace HB := Aside0.mk (below_step HB.out hb); replace BK94 := Aside0.mk (blk_below BK94.out hb); clear hb
           try clear Z94
           have Z94 := blk13 BK94.out; by_cases c112 : t155 = true
           · replace H := a0p c112 H; subst c112; obtain ⟨t156, q113, H1⟩ := a0b H; clear H; have H := H1; clear H1; go_wp2_with fail; (with_reducible refine (book_Board_108__109.calls k _ _ l0_6 16 t156 _ (Kd.C_below HR0_6.out HB.out) HC0_6.out q113.out).mono ?_); clear q113; (rintro e w114 ⟨rfl, hb⟩); replace HB := Aside0.mk (below_step HB.out hb); replace BK94 := Aside0.mk (blk_below BK94.out hb); clear hb
             try clear Z94
             have Z94 := blk13 BK94.out; by_cases c115 : t156 = true
             · replace H := a0p c115 H; subst c115; obtain ⟨t157, q116, H1⟩ := a0b H; clear H; have H := H1; clear H1; go_wp2_with fail; (with_reducible refine (book_Buffer_110__111.calls k _ _ l0_7 16 t157 _ (Kd.C_below HR0_7.out HB.out) HC0_7.out q116.out).mono ?_); clear q116; (rintro e w117 ⟨rfl, hb⟩); replace HB := Aside0.mk (below_step HB.out hb); replace BK94 := Aside0.mk (blk_below BK94.out hb); clear hb
               try clear Z94
               have Z94 := blk13 BK94.out; by_cases c118 : t157 = true
               · replace H := a0p c118 H; subst c118; obtain ⟨t158, q119, H1⟩ := a0b H; clear H; have H := H1; clear H1; go_wp2_with fail; (with_reducible refine (book_Port_112__113.calls k _ _ l0_8 16 t158 _ (Kd.C_below HR0_8.out HB.out) HC0_8.out q119.out).mono ?_); clear q119; (rintro e w120 ⟨rfl, hb⟩); replace HB := Aside0.mk (below_step HB.out hb); replace BK94 := Aside0.mk (blk_below BK94.out hb); clear hb
                 try clear Z94
                 have Z94 := blk13 BK94.out; by_cases c121 : t158 = true
                 · replace H := a0p c121 H; subst c121; obtain ⟨t159, q122, H1⟩ := a0b H; clear H; have H := H1; clear H1; go_wp2_with fail; (with_reducible refine (book_Rule_40__41.calls _ _ l0_9 32 t159 _ (Kd.C_below HR0_9.out HB.out) HC0_9.out q122.out).mono ?_); clear q122; (rintro e w123 ⟨rfl, hb⟩); replace HB := Aside0.mk (below_step HB.out hb); replace BK94 := Aside0.mk (blk_below BK94.out hb); clear hb
                   try clear Z94
                   have Z94 := blk13 BK94.out; by_cases c124 : t159 = true
                   · replace H := a0p c124 H; subst c124; obtain ⟨t160, q125, H1⟩ := a0b H; clear H; have H := H1; clear H1; go_wp2_with fail; (with_reducible refine (book_within.calls a0_10 0 1000 t160 _  q125.out).mono ?_); clear q125; (rintro e w126 ⟨rfl, hd⟩); have hb := hd.below; clear hd; replace HB := Aside0.mk (below_step HB.out hb); replace BK94 := Aside0.mk (blk_below BK94.out hb); clear hb
                     try clear Z94
                     have Z94 := blk13 BK94.out; by_cases c127 : t160 = true
                     · replace H := a0p c127 H; subst c127; obtain ⟨t161, q128, H1⟩ := a0b H; clear H; have H := H1; clear H1; go_wp2_with fail; (with_reducible refine (book_within.calls a0_11 0 1048576 t161 _  q128.out).mono ?_); clear q128; (rintro e w129 ⟨rfl, hd⟩); have hb := hd.below; clear hd; replace HB := Aside0.mk (below_step HB.out hb); replace BK94 := Aside0.mk (blk_below BK94.out hb); clear hb
                       try clear Z94
                       have Z94 := blk13 BK94.out; by_cases c130 : t161 = true
                       · replace H := a0p c130 H; subst c130; obtain ⟨t162, q131, H1⟩ := a0b H; clear H; have H := H1; clear H1; go_wp2_with fail; (with_reducible refine (book_within.calls a0_12 0 1048576 t162 _  q131.out).mono ?_); clear q131; (rintro e w132 ⟨rfl, hd⟩); have hb := hd.below; clear hd; replace HB := Aside0.mk (below_step HB.out hb); replace BK94 := Aside0.mk (blk_below BK94.out hb); clear hb
                         try clear Z94
                         have Z94 := blk13 BK94.out; obtain rfl := Option.some.inj H.out; go_wp2; go_ret; exact ⟨by first | rfl | (simp; done) | (simp [*]; done), HB.out⟩
                       · replace H := a0n c130 H; replace c130 := Bool.eq_false_iff.mpr c130; subst c130; obtain rfl := Option.some.inj H.out; go_wp2; go_ret; exact ⟨by first | rfl | (simp; done) | (simp [*]; done), HB.out⟩
                     · replace H := a0n c127 H; replace c127 := Bool.eq_false_iff.mpr c127; subst c127; obtain rfl := Option.some.inj H.out; go_wp2; go_ret; exact ⟨by first | rfl | (simp; done) | (simp [*]; done), HB.out⟩
                   · replace H := a0n c124 H; replace c124 := Bool.eq_false_iff.mpr c124; subst c124; obtain rfl := Option.some.inj H.out; go_wp2; go_ret; exact ⟨by first | rfl | (simp; done) | (simp [*]; done), HB.out⟩
                 · replace H := a0n c121 H; replace c121 := Bool.eq_false_iff.mpr c121; subst c121; obtain rfl := Option.some.inj H.out; go_wp2; go_ret; exact ⟨by first | rfl | (simp; done) | (simp [*]; done), HB.out⟩
               · replace H := a0n c118 H; replace c118 := Bool.eq_false_iff.mpr c118; subst c118; obtain rfl := Option.some.inj H.out; go_wp2; go_ret; exact ⟨by first | rfl | (simp; done) | (simp [*]; done), HB.out⟩
             · replace H := a0n c115 H; replace c115 := Bool.eq_false_iff.mpr c115; subst c115; obtain rfl := Option.some.inj H.out; go_wp2; go_ret; exact ⟨by first | rfl | (simp; done) | (simp [*]; done), HB.out⟩
           · replace H := a0n c112 H; replace c112 := Bool.eq_false_iff.mpr c112; subst c112; obtain rfl := Option.some.inj H.out; go_wp2; go_ret; exact ⟨by first | rfl | (simp; done) | (simp [*]; done), HB.out⟩
         · replace H := a0n c109 H; replace c109 := Bool.eq_false_iff.mpr c109; subst c109; obtain rfl := Option.some.inj H.out; go_wp2; go_ret; exact ⟨by first | rfl | (simp; done) | (simp [*]; done), HB.out⟩
       · replace H := a0n c106 H; replace c106 := Bool.eq_false_iff.mpr c106; subst c106; obtain rfl := Option.some.inj H.out; go_wp2; go_ret; exact ⟨by first | rfl | (simp; done) | (simp [*]; done), HB.out⟩
     · replace H := a0n c103 H; replace c103 := Bool.eq_false_iff.mpr c103; subst c103; obtain rfl := Option.some.inj H.out; go_wp2; go_ret; exact ⟨by first | rfl | (simp; done) | (simp [*]; done), HB.out⟩
   · replace H := a0n c100 H; replace c100 := Bool.eq_false_iff.mpr c100; subst c100; obtain rfl := Option.some.inj H.out; go_wp2; go_ret; exact ⟨by first | rfl | (simp; done) | (simp [*]; done), HB.out⟩
 · replace H := a0n c97 H; replace c97 := Bool.eq_false_iff.mpr c97; subst c97; obtain rfl := Option.some.inj H.out; go_wp2; go_ret; exact ⟨by first | rfl | (simp; done) | (simp [*]; done), HB.out⟩

-- NOT PRINTED: function 115 (book_Schedule_1)

-- NOT PRINTED: function 154 (book_Window_1)

/-! ### book_Schedule_right_1: function 117 -/
def book_Schedule_right_1.f (a0_0 : Int) (a0_1 : Int) (a0_2 : Int) : Option (Bool) := (book_within.f a0_0 0 15).bind fun t166 => (if t166 = true then ((book_within.f a0_1 0 1048576).bind fun t167 => (if t167 = true then ((book_within.f a0_2 1 1048576).bind fun t168 => (some t168)) else (some false))) else (some false))
set_option maxHeartbeats 8000000 in
set_option maxRecDepth 100000 in
theorem book_Schedule_right_1.calls (a0_0 : Int) (a0_1 : Int) (a0_2 : Int) (r : Bool) (w : World) (h : book_Schedule_right_1.f a0_0 a0_1 a0_2 = some r) :
    Calls Tryz.prog 117 #[.agg #[.int .i64 a0_0, .int .i64 a0_1, .int .i64 a0_2]] w fun e w' => e = .returned (.bool r) ∧ Below w.heap.size w w' := by
 unfold book_Schedule_right_1.f at h; have H := Aside0.mk h; clear h; have HB := Aside0.mk (Below.refl w.heap.size w); have hu69 := Tryz.underlying69; go_enter Tryz.func117, Tryz.ntmps117; have BK133 := Aside0.mk (pe_box0 w #[.int .i64 a0_0, .int .i64 a0_1, .int .i64 a0_2] 69); replace HB := Aside0.mk (below_alloc HB.out (.cells #[.int .i64 a0_0, .int .i64 a0_1, .int .i64 a0_2] 69)); obtain ⟨t166, q134, H1⟩ := a0b H; clear H; have H := H1; clear H1; go_wp2_with fail; (with_reducible refine (book_within.calls a0_0 0 15 t166 _  q134.out).mono ?_); clear q134; (rintro e w135 ⟨rfl, hd⟩); have hb := hd.below; clear hd; replace HB := Aside0.mk (below_step HB.out hb); replace BK133 := Aside0.mk (blk_below BK133.out hb); clear hb; have Z133 := blk3 BK133.out; by_cases c136 : t166 = true
 · replace H := a0p c136 H; subst c136; obtain ⟨t167, q137, H1⟩ := a0b H; clear H; have H := H1; clear H1; go_wp2_with fail; (with_reducible refine (book_within.calls a0_1 0 1048576 t167 _  q137.out).mono ?_); clear q137; (rintro e w138 ⟨rfl, hd⟩); have hb := hd.below; clear hd; replace HB := Aside0.mk (below_step HB.out hb); replace BK133 := Aside0.mk (blk_below BK133.out hb); clear hb
   try clear Z133
   have Z133 := blk3 BK133.out; by_cases c139 : t167 = true
   · replace H := a0p c139 H; subst c139; obtain ⟨t168, q140, H1⟩ := a0b H; clear H; have H := H1; clear H1; go_wp2_with fail; (with_reducible refine (book_within.calls a0_2 1 1048576 t168 _  q140.out).mono ?_); clear q140; (rintro e w141 ⟨rfl, hd⟩); have hb := hd.below; clear hd; replace HB := Aside0.mk (below_step HB.out hb); replace BK133 := Aside0.mk (blk_below BK133.out hb); clear hb
     try clear Z133
     have Z133 := blk3 BK133.out; obtain rfl := Option.some.inj H.out; go_wp2; go_ret; exact ⟨by first | rfl | (simp; done) | (simp [*]; done), HB.out⟩
   · replace H := a0n c139 H; replace c139 := Bool.eq_false_iff.mpr c139; subst c139; obtain rfl := Option.some.inj H.out; go_wp2; go_ret; exact ⟨by first | rfl | (simp; done) | (simp [*]; done), HB.out⟩
 · replace H := a0n c136 H; replace c136 := Bool.eq_false_iff.mpr c136; subst c136; obtain rfl := Option.some.inj H.out; go_wp2; go_ret; exact ⟨by first | rfl | (simp; done) | (simp [*]; done), HB.out⟩

/-! ### book_Window_116__117: function 116 at book_Schedule_right_1 -/
def book_Window_116__117.f (l : List (S69)) (n : Int) : Option (Bool) := if (l.length : Int) ≤ n then (if l.length ≤ 140737488351232 then (allO (fun x => book_Schedule_right_1.f (x.f0) (x.f1) (x.f2)) l) else none) else (some false)
set_option maxHeartbeats 800000 in
set_option maxRecDepth 100000 in
theorem book_Window_116__117.c1 (x : S69) (r : Bool) (g : Nat) (w : World) (hg : w.cell? ⟨g, 0, none⟩ = some (.func (.func 117) #[] #[])) (h : book_Schedule_right_1.f (x.f0) (x.f1) (x.f2) = some r) :
  Calls Tryz.prog 154 #[.agg #[.int .i64 (x.f0), .int .i64 (x.f1), .int .i64 (x.f2)], .pointer (some ⟨g, 0, none⟩)] w fun e w' => e = .returned (.bool (!r)) ∧ Below w.heap.size w w' := by
 have hgl := World.block_lt_of_cell? w _ hg
 have HH := Aside0.mk h
 clear h
 have hgw : (w.alloc (.cells #[.int .i64 (x.f0), .int .i64 (x.f1), .int .i64 (x.f2)] 69)).cell? ⟨g, 0, none⟩ = some (.func (.func 117) #[] #[]) := ((alloc_below0 w _).cell hgl).trans hg
 go_enter Tryz.func154, Tryz.ntmps154
 go_wp2_with fail
 refine (book_Schedule_right_1.calls (x.f0) (x.f1) (x.f2) r _ HH.out).mono ?_
 rintro e w' ⟨rfl, hb⟩
 go_wp2
 go_ret
 exact ⟨by simp, below_step (alloc_below0 w _) hb⟩
set_option maxHeartbeats 2000000 in
set_option maxRecDepth 100000 in
theorem book_Window_116__117.c2 (A0 : Option Addr) (c0 : Nat) (l : List (S69)) (r : Bool) (g : Nat) (w : World) (hr0 : Kd.C k69 w A0 l.length l) (hL : l.length ≤ 140737488351232) (hg : w.cell? ⟨g, 0, none⟩ = some (.func (.func 117) #[] #[])) (h : allO (fun x => book_Schedule_right_1.f (x.f0) (x.f1) (x.f2)) l = some r) :
  Calls Tryz.prog 167 #[.slice A0 l.length c0, .func (.func 154) #[] #[.pointer (some ⟨g, 0, none⟩)]] w fun e w' => (∃ q : Int, e = .returned (.int .i64 q) ∧ Hid (decide (0 ≤ q) = !r)) ∧ Below w.heap.size w w' := by
 have hgl := World.block_lt_of_cell? w _ hg
 have HR0 := Aside0.mk hr0
 have HG := Aside0.mk hg
 have H0 : Aside0 (allO (fun x => book_Schedule_right_1.f (x.f0) (x.f1) (x.f2)) (l.drop 0) = some r) := ⟨by simpa using h⟩
 clear hr0 hg h
 go_enter Tryz.func167, Tryz.ntmps167
 go_wp2
 go_loopw [8] (fun v8 wr => ∃ j : Nat, v8 = .int .i64 (j : Int) ∧ j ≤ l.length ∧ Aside0 (allO (fun x => book_Schedule_right_1.f (x.f0) (x.f1) (x.f2)) (l.drop j) = some r) ∧ Aside0 (Below w.heap.size w wr)) (fun v8 _ => l.length - (intOf v8).toNat)
 case atStart => exact ⟨0, rfl, Nat.zero_le _, H0, ⟨Below.refl _ _⟩⟩
 case round =>
  clear H0
  obtain ⟨j, rfl, hj, HA, HB⟩ := hrel
  by_cases hlt : j < l.length
  ·
   have p7 : (0 : Int) ≤ (j : Int) := by omega
   have q7 : (j : Int) < (l.length : Int) := by omega
   obtain ⟨b, hb1, hb2, hb3⟩ := allO_cons hlt HA.out
   have HB1 := Aside0.mk hb1
   have HB2 := Aside0.mk hb2
   have HB3 := Aside0.mk hb3
   clear hb1 hb2 hb3
   obtain ⟨ad7, e7, hx7_0, hx7_1, hx7_2⟩ := at_T69 HR0.out (j : Int) p7 q7
   cases e7
   replace hx7_0 := (HB.out.cell (World.block_lt_of_cell? w _ hx7_0)).trans hx7_0
   replace hx7_1 := (HB.out.cell (World.block_lt_of_cell? w _ hx7_1)).trans hx7_1
   replace hx7_2 := (HB.out.cell (World.block_lt_of_cell? w _ hx7_2)).trans hx7_2
   have EX : Aside0 (rd_T69 l (j : Int) = l[j]) := ⟨by show l.getD _ _ = _; rw [Int.toNat_natCast, List.getD_eq_getElem?_getD, List.getElem?_eq_getElem hlt, Option.getD_some]⟩
   clear p7 q7
   generalize rd_T69 l (j : Int) = x at *
   have HC : Aside0 (book_Schedule_right_1.f (x.f0) (x.f1) (x.f2) = some b) := ⟨by rw [EX.out]; exact HB1.out⟩
   clear HB1 EX
   simp only [Int.toNat_natCast] at *
   go_wp2_with fail
   refine (book_Window_116__117.c1 x b g wr ((HB.out.cell hgl).trans HG.out) HC.out).mono ?_
   rintro e w9 ⟨rfl, hb⟩
   have HB9 : Aside0 (Below w.heap.size w w9) := ⟨below_step HB.out hb⟩
   clear hb HB
   cases b with
   | true =>
    go_wp2
    go_roundw
    case rel => exact ⟨j + 1, by go_num, by omega, ⟨HB2.out (by simp)⟩, HB9⟩
    case measure => simp [intOf]; omega
   | false =>
    go_wp2
    go_ret
    exact ⟨⟨_, rfl, by rw [HB3.out (by simp)]; show _ = _; simp⟩, HB9.out⟩
  ·
   obtain rfl : j = l.length := by omega
   have hr : r = true := by have := HA.out; rw [List.drop_length] at this; simpa [allO] using this.symm
   subst hr
   go_wp2
   go_ret
   exact ⟨⟨_, rfl, by show _ = _; simp⟩, HB.out⟩
set_option maxHeartbeats 800000 in
theorem book_Window_116__117.c3 (A0 : Option Addr) (c0 : Nat) (l : List (S69)) (r : Bool) (g : Nat) (w : World) (hr0 : Kd.C k69 w A0 l.length l) (hL : l.length ≤ 140737488351232) (hg : w.cell? ⟨g, 0, none⟩ = some (.func (.func 117) #[] #[])) (h : allO (fun x => book_Schedule_right_1.f (x.f0) (x.f1) (x.f2)) l = some r) :
  Calls Tryz.prog 153 #[.slice A0 l.length c0, .func (.func 154) #[] #[.pointer (some ⟨g, 0, none⟩)]] w fun e w' => e = .returned (.bool (!r)) ∧ Below w.heap.size w w' := by
 have HC := book_Window_116__117.c2 A0 c0 l r g w hr0 hL hg h
 clear hr0 hg h
 go_enter Tryz.func153, Tryz.ntmps153
 go_wp2_with fail
 refine HC.mono ?_
 clear HC
 rintro e w' ⟨⟨q, rfl, hq⟩, hb⟩
 go_wp2
 go_ret
 exact ⟨by rw [← hq.out]; rfl, hb⟩
set_option maxHeartbeats 800000 in
theorem book_Window_116__117.calls (A0 : Option Addr) (c0 : Nat) (l0 : List (S69)) (a1 : Int) (r : Bool) (w : World) (hr0 : Kd.C k69 w A0 l0.length l0) (hc0 : l0.length ≤ c0) (h : book_Window_116__117.f l0 a1 = some r) :
  Calls Tryz.prog 116 #[.slice A0 l0.length c0, .int .i64 a1, .func (.func 117) #[] #[]] w fun e w' => e = .returned (.bool r) ∧ Below w.heap.size w w' := by
 unfold book_Window_116__117.f at h
 have HR := Aside0.mk hr0
 clear hr0
 have hbw : Below w.heap.size w (w.alloc (.cells #[.func (.func 117) #[] #[]] 170)) := alloc_below0 w _
 by_cases hle : (l0.length : Int) ≤ a1
 ·
  rw [if_pos hle] at h
  obtain ⟨hL, h2⟩ := if_some h
  clear h
  have h := h2
  clear h2
  have hd : decide ((l0.length : Int) ≤ a1) = true := decide_eq_true hle
  have HC := book_Window_116__117.c3 A0 c0 l0 r w.heap.size (w.alloc (.cells #[.func (.func 117) #[] #[]] 170)) (Kd.C_alloc HR.out _) hL (by simp) h
  have HB := Aside0.mk hbw
  clear h hle hbw
  go_enter Tryz.func116, Tryz.ntmps116
  go_wp2_with fail
  refine HC.mono ?_
  clear HC
  rintro e w' ⟨rfl, hb⟩
  go_wp2
  go_ret
  exact ⟨by simp, below_step HB.out hb⟩
 ·
  rw [if_neg hle] at h
  obtain rfl := Option.some.inj h
  have hd : decide ((l0.length : Int) ≤ a1) = false := decide_eq_false hle
  clear h hle
  go_enter Tryz.func116, Tryz.ntmps116
  go_wp2
  go_ret
  exact ⟨rfl, hbw⟩

/-! ### book_Schedule_right: function 32 -/
def book_Schedule_right.f (k : Nat) (a0_0 : ByteArray) (a0_1 : Int) (l0_2 : List (S69)) : Option (Bool) := (book_Name.f k a0_0).bind fun t170 => (if t170 = true then ((book_within.f a0_1 1 1048576).bind fun t171 => (if t171 = true then ((book_Window_116__117.f l0_2 64).bind fun t172 => (some t172)) else (some false))) else (some false))
theorem book_Schedule_right.mono : ∀ a0 a1 a2 k, LeO (book_Schedule_right.f k a0 a1 a2) (book_Schedule_right.f (k + 1) a0 a1 a2) := by
  intro a0 a1 a2 k
  unfold book_Schedule_right.f
  repeat' first | (with_reducible apply book_Name.mono) | (with_reducible exact LeO.refl _) | (with_reducible exact LeO.none _) | (with_reducible refine LeO.ite ?_ ?_) | (with_reducible refine LeO.bind ?_ (fun _ => ?_)) | apply LeO.none | apply LeO.ite | (refine LeO.bind ?_ (fun _ => ?_))
set_option maxHeartbeats 8000000 in
set_option maxRecDepth 100000 in
theorem book_Schedule_right.calls (k : Nat) (a0_0 : ByteArray) (a0_1 : Int) (A0_2 : Option Addr) (c0_2 : Nat) (l0_2 : List (S69)) (r : Bool) (w : World) (hr0_2 : Kd.C k69 w A0_2 l0_2.length l0_2) (hc0_2 : l0_2.length ≤ c0_2) (h : book_Schedule_right.f k a0_0 a0_1 l0_2 = some r) :
    Calls Tryz.prog 32 #[.agg #[.string a0_0, .int .i64 a0_1, .slice A0_2 l0_2.length c0_2]] w fun e w' => e = .returned (.bool r) ∧ Below w.heap.size w w' := by
 have HR0_2 := Aside0.mk hr0_2; have HC0_2 := Aside0.mk hc0_2; clear hr0_2 hc0_2; unfold book_Schedule_right.f at h; have H := Aside0.mk h; clear h; have HB := Aside0.mk (Below.refl w.heap.size w); have hu67 := Tryz.underlying67; go_enter Tryz.func32, Tryz.ntmps32; have BK142 := Aside0.mk (pe_box0 w #[.string a0_0, .int .i64 a0_1, .slice A0_2 l0_2.length c0_2] 67); replace HB := Aside0.mk (below_alloc HB.out (.cells #[.string a0_0, .int .i64 a0_1, .slice A0_2 l0_2.length c0_2] 67)); obtain ⟨t170, q143, H1⟩ := a0b H; clear H; have H := H1; clear H1; go_wp2_with fail; (with_reducible refine (book_Name.calls k a0_0 t170 _  q143.out).mono ?_); clear q143; (rintro e w144 ⟨rfl, hd⟩); have hb := hd.below; clear hd; replace HB := Aside0.mk (below_step HB.out hb); replace BK142 := Aside0.mk (blk_below BK142.out hb); clear hb; have Z142 := blk3 BK142.out; by_cases c145 : t170 = true
 · replace H := a0p c145 H; subst c145; obtain ⟨t171, q146, H1⟩ := a0b H; clear H; have H := H1; clear H1; go_wp2_with fail; (with_reducible refine (book_within.calls a0_1 1 1048576 t171 _  q146.out).mono ?_); clear q146; (rintro e w147 ⟨rfl, hd⟩); have hb := hd.below; clear hd; replace HB := Aside0.mk (below_step HB.out hb); replace BK142 := Aside0.mk (blk_below BK142.out hb); clear hb
   try clear Z142
   have Z142 := blk3 BK142.out; by_cases c148 : t171 = true
   · replace H := a0p c148 H; subst c148; obtain ⟨t172, q149, H1⟩ := a0b H; clear H; have H := H1; clear H1; go_wp2_with fail; (with_reducible refine (book_Window_116__117.calls _ _ l0_2 64 t172 _ (Kd.C_below HR0_2.out HB.out) HC0_2.out q149.out).mono ?_); clear q149; (rintro e w150 ⟨rfl, hb⟩); replace HB := Aside0.mk (below_step HB.out hb); replace BK142 := Aside0.mk (blk_below BK142.out hb); clear hb
     try clear Z142
     have Z142 := blk3 BK142.out; obtain rfl := Option.some.inj H.out; go_wp2; go_ret; exact ⟨by first | rfl | (simp; done) | (simp [*]; done), HB.out⟩
   · replace H := a0n c148 H; replace c148 := Bool.eq_false_iff.mpr c148; subst c148; obtain rfl := Option.some.inj H.out; go_wp2; go_ret; exact ⟨by first | rfl | (simp; done) | (simp [*]; done), HB.out⟩
 · replace H := a0n c145 H; replace c145 := Bool.eq_false_iff.mpr c145; subst c145; obtain rfl := Option.some.inj H.out; go_wp2; go_ret; exact ⟨by first | rfl | (simp; done) | (simp [*]; done), HB.out⟩

-- NOT PRINTED: function 119 (book_Channel_1)

/-! ### book_End_right: function 36 -/
def book_End_right.f (a0_0 : Int) (a0_1 : Int) : Option (Bool) := (book_within.f a0_0 (-1) 15).bind fun t175 => (if t175 = true then ((book_within.f a0_1 0 15).bind fun t176 => (some t176)) else (some false))
set_option maxHeartbeats 8000000 in
set_option maxRecDepth 100000 in
theorem book_End_right.calls (a0_0 : Int) (a0_1 : Int) (r : Bool) (w : World) (h : book_End_right.f a0_0 a0_1 = some r) :
    Calls Tryz.prog 36 #[.agg #[.int .i64 a0_0, .int .i64 a0_1]] w fun e w' => e = .returned (.bool r) ∧ Below w.heap.size w w' := by
 unfold book_End_right.f at h; have H := Aside0.mk h; clear h; have HB := Aside0.mk (Below.refl w.heap.size w); have hu71 := Tryz.underlying71; go_enter Tryz.func36, Tryz.ntmps36; have BK151 := Aside0.mk (pe_box0 w #[.int .i64 a0_0, .int .i64 a0_1] 71); replace HB := Aside0.mk (below_alloc HB.out (.cells #[.int .i64 a0_0, .int .i64 a0_1] 71)); obtain ⟨t175, q152, H1⟩ := a0b H; clear H; have H := H1; clear H1; go_wp2_with fail; (with_reducible refine (book_within.calls a0_0 (-1) 15 t175 _  q152.out).mono ?_); clear q152; (rintro e w153 ⟨rfl, hd⟩); have hb := hd.below; clear hd; replace HB := Aside0.mk (below_step HB.out hb); replace BK151 := Aside0.mk (blk_below BK151.out hb); clear hb; have Z151 := blk2 BK151.out; by_cases c154 : t175 = true
 · replace H := a0p c154 H; subst c154; obtain ⟨t176, q155, H1⟩ := a0b H; clear H; have H := H1; clear H1; go_wp2_with fail; (with_reducible refine (book_within.calls a0_1 0 15 t176 _  q155.out).mono ?_); clear q155; (rintro e w156 ⟨rfl, hd⟩); have hb := hd.below; clear hd; replace HB := Aside0.mk (below_step HB.out hb); replace BK151 := Aside0.mk (blk_below BK151.out hb); clear hb
   try clear Z151
   have Z151 := blk2 BK151.out; obtain rfl := Option.some.inj H.out; go_wp2; go_ret; exact ⟨by first | rfl | (simp; done) | (simp [*]; done), HB.out⟩
 · replace H := a0n c154 H; replace c154 := Bool.eq_false_iff.mpr c154; subst c154; obtain rfl := Option.some.inj H.out; go_wp2; go_ret; exact ⟨by first | rfl | (simp; done) | (simp [*]; done), HB.out⟩

-- NOT PRINTED: function 121 (book_End_1)

/-! ### book_End_37__36: function 37 at book_End_right -/
def book_End_37__36.f (l : List (S71)) (n : Int) : Option (Bool) := if (l.length : Int) ≤ n then (if l.length ≤ 140737488351232 then (allO (fun x => book_End_right.f (x.f0) (x.f1)) l) else none) else (some false)
set_option maxHeartbeats 800000 in
set_option maxRecDepth 100000 in
theorem book_End_37__36.c1 (x : S71) (r : Bool) (g : Nat) (w : World) (hg : w.cell? ⟨g, 0, none⟩ = some (.func (.func 36) #[] #[])) (h : book_End_right.f (x.f0) (x.f1) = some r) :
  Calls Tryz.prog 121 #[.agg #[.int .i64 (x.f0), .int .i64 (x.f1)], .pointer (some ⟨g, 0, none⟩)] w fun e w' => e = .returned (.bool (!r)) ∧ Below w.heap.size w w' := by
 have hgl := World.block_lt_of_cell? w _ hg
 have HH := Aside0.mk h
 clear h
 have hgw : (w.alloc (.cells #[.int .i64 (x.f0), .int .i64 (x.f1)] 71)).cell? ⟨g, 0, none⟩ = some (.func (.func 36) #[] #[]) := ((alloc_below0 w _).cell hgl).trans hg
 go_enter Tryz.func121, Tryz.ntmps121
 go_wp2_with fail
 refine (book_End_right.calls (x.f0) (x.f1) r _ HH.out).mono ?_
 rintro e w' ⟨rfl, hb⟩
 go_wp2
 go_ret
 exact ⟨by simp, below_step (alloc_below0 w _) hb⟩
set_option maxHeartbeats 2000000 in
set_option maxRecDepth 100000 in
theorem book_End_37__36.c2 (A0 : Option Addr) (c0 : Nat) (l : List (S71)) (r : Bool) (g : Nat) (w : World) (hr0 : Kd.C k71 w A0 l.length l) (hL : l.length ≤ 140737488351232) (hg : w.cell? ⟨g, 0, none⟩ = some (.func (.func 36) #[] #[])) (h : allO (fun x => book_End_right.f (x.f0) (x.f1)) l = some r) :
  Calls Tryz.prog 156 #[.slice A0 l.length c0, .func (.func 121) #[] #[.pointer (some ⟨g, 0, none⟩)]] w fun e w' => (∃ q : Int, e = .returned (.int .i64 q) ∧ Hid (decide (0 ≤ q) = !r)) ∧ Below w.heap.size w w' := by
 have hgl := World.block_lt_of_cell? w _ hg
 have HR0 := Aside0.mk hr0
 have HG := Aside0.mk hg
 have H0 : Aside0 (allO (fun x => book_End_right.f (x.f0) (x.f1)) (l.drop 0) = some r) := ⟨by simpa using h⟩
 clear hr0 hg h
 go_enter Tryz.func156, Tryz.ntmps156
 go_wp2
 go_loopw [8] (fun v8 wr => ∃ j : Nat, v8 = .int .i64 (j : Int) ∧ j ≤ l.length ∧ Aside0 (allO (fun x => book_End_right.f (x.f0) (x.f1)) (l.drop j) = some r) ∧ Aside0 (Below w.heap.size w wr)) (fun v8 _ => l.length - (intOf v8).toNat)
 case atStart => exact ⟨0, rfl, Nat.zero_le _, H0, ⟨Below.refl _ _⟩⟩
 case round =>
  clear H0
  obtain ⟨j, rfl, hj, HA, HB⟩ := hrel
  by_cases hlt : j < l.length
  ·
   have p7 : (0 : Int) ≤ (j : Int) := by omega
   have q7 : (j : Int) < (l.length : Int) := by omega
   obtain ⟨b, hb1, hb2, hb3⟩ := allO_cons hlt HA.out
   have HB1 := Aside0.mk hb1
   have HB2 := Aside0.mk hb2
   have HB3 := Aside0.mk hb3
   clear hb1 hb2 hb3
   obtain ⟨ad7, e7, hx7_0, hx7_1⟩ := at_T71 HR0.out (j : Int) p7 q7
   cases e7
   replace hx7_0 := (HB.out.cell (World.block_lt_of_cell? w _ hx7_0)).trans hx7_0
   replace hx7_1 := (HB.out.cell (World.block_lt_of_cell? w _ hx7_1)).trans hx7_1
   have EX : Aside0 (rd_T71 l (j : Int) = l[j]) := ⟨by show l.getD _ _ = _; rw [Int.toNat_natCast, List.getD_eq_getElem?_getD, List.getElem?_eq_getElem hlt, Option.getD_some]⟩
   clear p7 q7
   generalize rd_T71 l (j : Int) = x at *
   have HC : Aside0 (book_End_right.f (x.f0) (x.f1) = some b) := ⟨by rw [EX.out]; exact HB1.out⟩
   clear HB1 EX
   simp only [Int.toNat_natCast] at *
   go_wp2_with fail
   refine (book_End_37__36.c1 x b g wr ((HB.out.cell hgl).trans HG.out) HC.out).mono ?_
   rintro e w9 ⟨rfl, hb⟩
   have HB9 : Aside0 (Below w.heap.size w w9) := ⟨below_step HB.out hb⟩
   clear hb HB
   cases b with
   | true =>
    go_wp2
    go_roundw
    case rel => exact ⟨j + 1, by go_num, by omega, ⟨HB2.out (by simp)⟩, HB9⟩
    case measure => simp [intOf]; omega
   | false =>
    go_wp2
    go_ret
    exact ⟨⟨_, rfl, by rw [HB3.out (by simp)]; show _ = _; simp⟩, HB9.out⟩
  ·
   obtain rfl : j = l.length := by omega
   have hr : r = true := by have := HA.out; rw [List.drop_length] at this; simpa [allO] using this.symm
   subst hr
   go_wp2
   go_ret
   exact ⟨⟨_, rfl, by show _ = _; simp⟩, HB.out⟩
set_option maxHeartbeats 800000 in
theorem book_End_37__36.c3 (A0 : Option Addr) (c0 : Nat) (l : List (S71)) (r : Bool) (g : Nat) (w : World) (hr0 : Kd.C k71 w A0 l.length l) (hL : l.length ≤ 140737488351232) (hg : w.cell? ⟨g, 0, none⟩ = some (.func (.func 36) #[] #[])) (h : allO (fun x => book_End_right.f (x.f0) (x.f1)) l = some r) :
  Calls Tryz.prog 120 #[.slice A0 l.length c0, .func (.func 121) #[] #[.pointer (some ⟨g, 0, none⟩)]] w fun e w' => e = .returned (.bool (!r)) ∧ Below w.heap.size w w' := by
 have HC := book_End_37__36.c2 A0 c0 l r g w hr0 hL hg h
 clear hr0 hg h
 go_enter Tryz.func120, Tryz.ntmps120
 go_wp2_with fail
 refine HC.mono ?_
 clear HC
 rintro e w' ⟨⟨q, rfl, hq⟩, hb⟩
 go_wp2
 go_ret
 exact ⟨by rw [← hq.out]; rfl, hb⟩
set_option maxHeartbeats 800000 in
theorem book_End_37__36.calls (A0 : Option Addr) (c0 : Nat) (l0 : List (S71)) (a1 : Int) (r : Bool) (w : World) (hr0 : Kd.C k71 w A0 l0.length l0) (hc0 : l0.length ≤ c0) (h : book_End_37__36.f l0 a1 = some r) :
  Calls Tryz.prog 37 #[.slice A0 l0.length c0, .int .i64 a1, .func (.func 36) #[] #[]] w fun e w' => e = .returned (.bool r) ∧ Below w.heap.size w w' := by
 unfold book_End_37__36.f at h
 have HR := Aside0.mk hr0
 clear hr0
 have hbw : Below w.heap.size w (w.alloc (.cells #[.func (.func 36) #[] #[]] 85)) := alloc_below0 w _
 by_cases hle : (l0.length : Int) ≤ a1
 ·
  rw [if_pos hle] at h
  obtain ⟨hL, h2⟩ := if_some h
  clear h
  have h := h2
  clear h2
  have hd : decide ((l0.length : Int) ≤ a1) = true := decide_eq_true hle
  have HC := book_End_37__36.c3 A0 c0 l0 r w.heap.size (w.alloc (.cells #[.func (.func 36) #[] #[]] 85)) (Kd.C_alloc HR.out _) hL (by simp) h
  have HB := Aside0.mk hbw
  clear h hle hbw
  go_enter Tryz.func37, Tryz.ntmps37
  go_wp2_with fail
  refine HC.mono ?_
  clear HC
  rintro e w' ⟨rfl, hb⟩
  go_wp2
  go_ret
  exact ⟨by simp, below_step HB.out hb⟩
 ·
  rw [if_neg hle] at h
  obtain rfl := Option.some.inj h
  have hd : decide ((l0.length : Int) ≤ a1) = false := decide_eq_false hle
  clear h hle
  go_enter Tryz.func37, Tryz.ntmps37
  go_wp2
  go_ret
  exact ⟨rfl, hbw⟩

/-! ### book_Module_Right_1: function 35 -/
def book_Module_Right_1.f (a0_0 : Int) (a0_1 : Int) (l0_2 : List (S71)) : Option (Bool) := (book_End_right.f a0_0 a0_1).bind fun t179 => (if t179 = true then ((book_End_37__36.f l0_2 8).bind fun t180 => (some t180)) else (some false))
set_option maxHeartbeats 8000000 in
set_option maxRecDepth 100000 in
theorem book_Module_Right_1.calls (a0_0 : Int) (a0_1 : Int) (A0_2 : Option Addr) (c0_2 : Nat) (l0_2 : List (S71)) (r : Bool) (w : World) (hr0_2 : Kd.C k71 w A0_2 l0_2.length l0_2) (hc0_2 : l0_2.length ≤ c0_2) (h : book_Module_Right_1.f a0_0 a0_1 l0_2 = some r) :
    Calls Tryz.prog 35 #[.agg #[.int .i64 a0_0, .int .i64 a0_1, .slice A0_2 l0_2.length c0_2]] w fun e w' => e = .returned (.bool r) ∧ Below w.heap.size w w' := by
 have HR0_2 := Aside0.mk hr0_2; have HC0_2 := Aside0.mk hc0_2; clear hr0_2 hc0_2; unfold book_Module_Right_1.f at h; have H := Aside0.mk h; clear h; have HB := Aside0.mk (Below.refl w.heap.size w); have hu74 := Tryz.underlying74; go_enter Tryz.func35, Tryz.ntmps35; have BK157 := Aside0.mk (pe_box0 w #[.int .i64 a0_0, .int .i64 a0_1, .slice A0_2 l0_2.length c0_2] 74); replace HB := Aside0.mk (below_alloc HB.out (.cells #[.int .i64 a0_0, .int .i64 a0_1, .slice A0_2 l0_2.length c0_2] 74)); obtain ⟨t179, q158, H1⟩ := a0b H; clear H; have H := H1; clear H1; go_wp2_with fail; (with_reducible refine (book_End_right.calls a0_0 a0_1 t179 _  q158.out).mono ?_); clear q158; (rintro e w159 ⟨rfl, hb⟩); replace HB := Aside0.mk (below_step HB.out hb); replace BK157 := Aside0.mk (blk_below BK157.out hb); clear hb; have Z157 := blk3 BK157.out; by_cases c160 : t179 = true
 · replace H := a0p c160 H; subst c160; obtain ⟨t180, q161, H1⟩ := a0b H; clear H; have H := H1; clear H1; go_wp2_with fail; (with_reducible refine (book_End_37__36.calls _ _ l0_2 8 t180 _ (Kd.C_below HR0_2.out HB.out) HC0_2.out q161.out).mono ?_); clear q161; (rintro e w162 ⟨rfl, hb⟩); replace HB := Aside0.mk (below_step HB.out hb); replace BK157 := Aside0.mk (blk_below BK157.out hb); clear hb
   try clear Z157
   have Z157 := blk3 BK157.out; obtain rfl := Option.some.inj H.out; go_wp2; go_ret; exact ⟨by first | rfl | (simp; done) | (simp [*]; done), HB.out⟩
 · replace H := a0n c160 H; replace c160 := Bool.eq_false_iff.mpr c160; subst c160; obtain rfl := Option.some.inj H.out; go_wp2; go_ret; exact ⟨by first | rfl | (simp; done) | (simp [*]; done), HB.out⟩

-- NOT PRINTED: function 123 (book_Link_1)

/-! ### book_Module_Right_2: function 39 -/
def book_Module_Right_2.f (k : Nat) (a0_0 : ByteArray) (a0_1 : Int) (a0_2 : Int) : Option (Bool) := (book_Name.f k a0_0).bind fun t183 => (if t183 = true then ((book_within.f a0_1 0 31).bind fun t184 => (if t184 = true then ((book_within.f a0_2 0 1048576).bind fun t185 => (some t185)) else (some false))) else (some false))
theorem book_Module_Right_2.mono : ∀ a0 a1 a2 k, LeO (book_Module_Right_2.f k a0 a1 a2) (book_Module_Right_2.f (k + 1) a0 a1 a2) := by
  intro a0 a1 a2 k
  unfold book_Module_Right_2.f
  repeat' first | (with_reducible apply book_Name.mono) | (with_reducible exact LeO.refl _) | (with_reducible exact LeO.none _) | (with_reducible refine LeO.ite ?_ ?_) | (with_reducible refine LeO.bind ?_ (fun _ => ?_)) | apply LeO.none | apply LeO.ite | (refine LeO.bind ?_ (fun _ => ?_))
set_option maxHeartbeats 8000000 in
set_option maxRecDepth 100000 in
theorem book_Module_Right_2.calls (k : Nat) (a0_0 : ByteArray) (a0_1 : Int) (a0_2 : Int) (r : Bool) (w : World) (h : book_Module_Right_2.f k a0_0 a0_1 a0_2 = some r) :
    Calls Tryz.prog 39 #[.agg #[.string a0_0, .int .i64 a0_1, .int .i64 a0_2]] w fun e w' => e = .returned (.bool r) ∧ Below w.heap.size w w' := by
 unfold book_Module_Right_2.f at h; have H := Aside0.mk h; clear h; have HB := Aside0.mk (Below.refl w.heap.size w); have hu77 := Tryz.underlying77; go_enter Tryz.func39, Tryz.ntmps39; have BK163 := Aside0.mk (pe_box0 w #[.string a0_0, .int .i64 a0_1, .int .i64 a0_2] 77); replace HB := Aside0.mk (below_alloc HB.out (.cells #[.string a0_0, .int .i64 a0_1, .int .i64 a0_2] 77)); obtain ⟨t183, q164, H1⟩ := a0b H; clear H; have H := H1; clear H1; go_wp2_with fail; (with_reducible refine (book_Name.calls k a0_0 t183 _  q164.out).mono ?_); clear q164; (rintro e w165 ⟨rfl, hd⟩); have hb := hd.below; clear hd; replace HB := Aside0.mk (below_step HB.out hb); replace BK163 := Aside0.mk (blk_below BK163.out hb); clear hb; have Z163 := blk3 BK163.out; by_cases c166 : t183 = true
 · replace H := a0p c166 H; subst c166; obtain ⟨t184, q167, H1⟩ := a0b H; clear H; have H := H1; clear H1; go_wp2_with fail; (with_reducible refine (book_within.calls a0_1 0 31 t184 _  q167.out).mono ?_); clear q167; (rintro e w168 ⟨rfl, hd⟩); have hb := hd.below; clear hd; replace HB := Aside0.mk (below_step HB.out hb); replace BK163 := Aside0.mk (blk_below BK163.out hb); clear hb
   try clear Z163
   have Z163 := blk3 BK163.out; by_cases c169 : t184 = true
   · replace H := a0p c169 H; subst c169; obtain ⟨t185, q170, H1⟩ := a0b H; clear H; have H := H1; clear H1; go_wp2_with fail; (with_reducible refine (book_within.calls a0_2 0 1048576 t185 _  q170.out).mono ?_); clear q170; (rintro e w171 ⟨rfl, hd⟩); have hb := hd.below; clear hd; replace HB := Aside0.mk (below_step HB.out hb); replace BK163 := Aside0.mk (blk_below BK163.out hb); clear hb
     try clear Z163
     have Z163 := blk3 BK163.out; obtain rfl := Option.some.inj H.out; go_wp2; go_ret; exact ⟨by first | rfl | (simp; done) | (simp [*]; done), HB.out⟩
   · replace H := a0n c169 H; replace c169 := Bool.eq_false_iff.mpr c169; subst c169; obtain rfl := Option.some.inj H.out; go_wp2; go_ret; exact ⟨by first | rfl | (simp; done) | (simp [*]; done), HB.out⟩
 · replace H := a0n c166 H; replace c166 := Bool.eq_false_iff.mpr c166; subst c166; obtain rfl := Option.some.inj H.out; go_wp2; go_ret; exact ⟨by first | rfl | (simp; done) | (simp [*]; done), HB.out⟩

/-! ### book_Partition_29__30: function 29 at book_Partition_right -/
def book_Partition_29__30.f (k : Nat) (l : List (S52)) (n : Int) : Option (Bool) := if (l.length : Int) ≤ n then (if l.length ≤ 140737488351232 then (allO (fun x => book_Partition_right.f k (x.f0) (x.f1) (x.f2) (x.f3) (x.f4) (x.f5) (x.f6) (x.f7) (x.f8) (x.f9) (x.f10) (x.f11.f0) (x.f11.f1)) l) else none) else (some false)
theorem book_Partition_29__30.mono : ∀ a0 a1 k, LeO (book_Partition_29__30.f k a0 a1) (book_Partition_29__30.f (k + 1) a0 a1) := by
 intro a0 a1 k
 unfold book_Partition_29__30.f
 exact LeO.ite (LeO.ite (allO_mono (fun x => book_Partition_right.mono _ _ _ _ _ _ _ _ _ _ _ _ _ k) a0) (LeO.refl _)) (LeO.refl _)
set_option maxHeartbeats 800000 in
set_option maxRecDepth 100000 in
theorem book_Partition_29__30.c1 (k : Nat) (x : S52) (A1 : Option Addr) (c1 : Nat) (A2 : Option Addr) (c2 : Nat) (A3 : Option Addr) (c3 : Nat) (A4 : Option Addr) (c4 : Nat) (A5 : Option Addr) (c5 : Nat) (A6 : Option Addr) (c6 : Nat) (A7 : Option Addr) (c7 : Nat) (A8 : Option Addr) (c8 : Nat) (A9 : Option Addr) (c9 : Nat) (r : Bool) (g : Nat) (w : World) (hr1 : Kd.C k62 w A1 x.f1.length x.f1) (hc1 : x.f1.length ≤ c1) (hr2 : Kd.C k109 w A2 x.f2.length x.f2) (hc2 : x.f2.length ≤ c2) (hr3 : Kd.C k111 w A3 x.f3.length x.f3) (hc3 : x.f3.length ≤ c3) (hr4 : Kd.C k113 w A4 x.f4.length x.f4) (hc4 : x.f4.length ≤ c4) (hr5 : Kd.C k115 w A5 x.f5.length x.f5) (hc5 : x.f5.length ≤ c5) (hr6 : Kd.C k117 w A6 x.f6.length x.f6) (hc6 : x.f6.length ≤ c6) (hr7 : Kd.C k119 w A7 x.f7.length x.f7) (hc7 : x.f7.length ≤ c7) (hr8 : Kd.C k60 w A8 x.f8.length x.f8) (hc8 : x.f8.length ≤ c8) (hr9 : Kd.C k64 w A9 x.f9.length x.f9) (hc9 : x.f9.length ≤ c9) (hg : w.cell? ⟨g, 0, none⟩ = some (.func (.func 30) #[] #[])) (h : book_Partition_right.f k (x.f0) (x.f1) (x.f2) (x.f3) (x.f4) (x.f5) (x.f6) (x.f7) (x.f8) (x.f9) (x.f10) (x.f11.f0) (x.f11.f1) = some r) :
  Calls Tryz.prog 97 #[.agg #[.string (x.f0), .slice A1 x.f1.length c1, .slice A2 x.f2.length c2, .slice A3 x.f3.length c3, .slice A4 x.f4.length c4, .slice A5 x.f5.length c5, .slice A6 x.f6.length c6, .slice A7 x.f7.length c7, .slice A8 x.f8.length c8, .slice A9 x.f9.length c9, .int .i64 (x.f10), .int .i64 (x.f11.f0), .int .i64 (x.f11.f1)], .pointer (some ⟨g, 0, none⟩)] w fun e w' => e = .returned (.bool (!r)) ∧ Below w.heap.size w w' := by
 have hgl := World.block_lt_of_cell? w _ hg
 have HH := Aside0.mk h
 clear h
 have HR1 := Aside0.mk hr1
 have HC1 := Aside0.mk hc1
 clear hr1 hc1
 have HR2 := Aside0.mk hr2
 have HC2 := Aside0.mk hc2
 clear hr2 hc2
 have HR3 := Aside0.mk hr3
 have HC3 := Aside0.mk hc3
 clear hr3 hc3
 have HR4 := Aside0.mk hr4
 have HC4 := Aside0.mk hc4
 clear hr4 hc4
 have HR5 := Aside0.mk hr5
 have HC5 := Aside0.mk hc5
 clear hr5 hc5
 have HR6 := Aside0.mk hr6
 have HC6 := Aside0.mk hc6
 clear hr6 hc6
 have HR7 := Aside0.mk hr7
 have HC7 := Aside0.mk hc7
 clear hr7 hc7
 have HR8 := Aside0.mk hr8
 have HC8 := Aside0.mk hc8
 clear hr8 hc8
 have HR9 := Aside0.mk hr9
 have HC9 := Aside0.mk hc9
 clear hr9 hc9
 have hgw : (w.alloc (.cells #[.string (x.f0), .slice A1 x.f1.length c1, .slice A2 x.f2.length c2, .slice A3 x.f3.length c3, .slice A4 x.f4.length c4, .slice A5 x.f5.length c5, .slice A6 x.f6.length c6, .slice A7 x.f7.length c7, .slice A8 x.f8.length c8, .slice A9 x.f9.length c9, .int .i64 (x.f10), .int .i64 (x.f11.f0), .int .i64 (x.f11.f1)] 52)).cell? ⟨g, 0, none⟩ = some (.func (.func 30) #[] #[]) := ((alloc_below0 w _).cell hgl).trans hg
 go_enter Tryz.func97, Tryz.ntmps97
 go_wp2_with fail
 refine (book_Partition_right.calls k (x.f0) _ _ (x.f1) _ _ (x.f2) _ _ (x.f3) _ _ (x.f4) _ _ (x.f5) _ _ (x.f6) _ _ (x.f7) _ _ (x.f8) _ _ (x.f9) (x.f10) (x.f11.f0) (x.f11.f1) r _ (Kd.C_alloc HR1.out _) HC1.out (Kd.C_alloc HR2.out _) HC2.out (Kd.C_alloc HR3.out _) HC3.out (Kd.C_alloc HR4.out _) HC4.out (Kd.C_alloc HR5.out _) HC5.out (Kd.C_alloc HR6.out _) HC6.out (Kd.C_alloc HR7.out _) HC7.out (Kd.C_alloc HR8.out _) HC8.out (Kd.C_alloc HR9.out _) HC9.out HH.out).mono ?_
 rintro e w' ⟨rfl, hb⟩
 go_wp2
 go_ret
 exact ⟨by simp, below_step (alloc_below0 w _) hb⟩
set_option maxHeartbeats 2000000 in
set_option maxRecDepth 100000 in
theorem book_Partition_29__30.c2 (k : Nat) (A0 : Option Addr) (c0 : Nat) (l : List (S52)) (r : Bool) (g : Nat) (w : World) (hr0 : Kd.C k52 w A0 l.length l) (hL : l.length ≤ 140737488351232) (hg : w.cell? ⟨g, 0, none⟩ = some (.func (.func 30) #[] #[])) (h : allO (fun x => book_Partition_right.f k (x.f0) (x.f1) (x.f2) (x.f3) (x.f4) (x.f5) (x.f6) (x.f7) (x.f8) (x.f9) (x.f10) (x.f11.f0) (x.f11.f1)) l = some r) :
  Calls Tryz.prog 135 #[.slice A0 l.length c0, .func (.func 97) #[] #[.pointer (some ⟨g, 0, none⟩)]] w fun e w' => (∃ q : Int, e = .returned (.int .i64 q) ∧ Hid (decide (0 ≤ q) = !r)) ∧ Below w.heap.size w w' := by
 have hgl := World.block_lt_of_cell? w _ hg
 have HR0 := Aside0.mk hr0
 have HG := Aside0.mk hg
 have H0 : Aside0 (allO (fun x => book_Partition_right.f k (x.f0) (x.f1) (x.f2) (x.f3) (x.f4) (x.f5) (x.f6) (x.f7) (x.f8) (x.f9) (x.f10) (x.f11.f0) (x.f11.f1)) (l.drop 0) = some r) := ⟨by simpa using h⟩
 clear hr0 hg h
 go_enter Tryz.func135, Tryz.ntmps135
 go_wp2
 go_loopw [8] (fun v8 wr => ∃ j : Nat, v8 = .int .i64 (j : Int) ∧ j ≤ l.length ∧ Aside0 (allO (fun x => book_Partition_right.f k (x.f0) (x.f1) (x.f2) (x.f3) (x.f4) (x.f5) (x.f6) (x.f7) (x.f8) (x.f9) (x.f10) (x.f11.f0) (x.f11.f1)) (l.drop j) = some r) ∧ Aside0 (Below w.heap.size w wr)) (fun v8 _ => l.length - (intOf v8).toNat)
 case atStart => exact ⟨0, rfl, Nat.zero_le _, H0, ⟨Below.refl _ _⟩⟩
 case round =>
  clear H0
  obtain ⟨j, rfl, hj, HA, HB⟩ := hrel
  by_cases hlt : j < l.length
  ·
   have p7 : (0 : Int) ≤ (j : Int) := by omega
   have q7 : (j : Int) < (l.length : Int) := by omega
   obtain ⟨b, hb1, hb2, hb3⟩ := allO_cons hlt HA.out
   have HB1 := Aside0.mk hb1
   have HB2 := Aside0.mk hb2
   have HB3 := Aside0.mk hb3
   clear hb1 hb2 hb3
   obtain ⟨ad7, A7_1, c7_1, A7_2, c7_2, A7_3, c7_3, A7_4, c7_4, A7_5, c7_5, A7_6, c7_6, A7_7, c7_7, A7_8, c7_8, A7_9, c7_9, e7, hx7_0, hx7_1, hx7_2, hx7_3, hx7_4, hx7_5, hx7_6, hx7_7, hx7_8, hx7_9, hx7_10, hx7_11, hx7_12, hl7_1, hi7_1, hl7_2, hi7_2, hl7_3, hi7_3, hl7_4, hi7_4, hl7_5, hi7_5, hl7_6, hi7_6, hl7_7, hi7_7, hl7_8, hi7_8, hl7_9, hi7_9⟩ := at_T52 HR0.out (j : Int) p7 q7
   cases e7
   replace hx7_0 := (HB.out.cell (World.block_lt_of_cell? w _ hx7_0)).trans hx7_0
   replace hx7_1 := (HB.out.cell (World.block_lt_of_cell? w _ hx7_1)).trans hx7_1
   replace hx7_2 := (HB.out.cell (World.block_lt_of_cell? w _ hx7_2)).trans hx7_2
   replace hx7_3 := (HB.out.cell (World.block_lt_of_cell? w _ hx7_3)).trans hx7_3
   replace hx7_4 := (HB.out.cell (World.block_lt_of_cell? w _ hx7_4)).trans hx7_4
   replace hx7_5 := (HB.out.cell (World.block_lt_of_cell? w _ hx7_5)).trans hx7_5
   replace hx7_6 := (HB.out.cell (World.block_lt_of_cell? w _ hx7_6)).trans hx7_6
   replace hx7_7 := (HB.out.cell (World.block_lt_of_cell? w _ hx7_7)).trans hx7_7
   replace hx7_8 := (HB.out.cell (World.block_lt_of_cell? w _ hx7_8)).trans hx7_8
   replace hx7_9 := (HB.out.cell (World.block_lt_of_cell? w _ hx7_9)).trans hx7_9
   replace hx7_10 := (HB.out.cell (World.block_lt_of_cell? w _ hx7_10)).trans hx7_10
   replace hx7_11 := (HB.out.cell (World.block_lt_of_cell? w _ hx7_11)).trans hx7_11
   replace hx7_12 := (HB.out.cell (World.block_lt_of_cell? w _ hx7_12)).trans hx7_12
   have HR7_1 := Aside0.mk hi7_1
   have HC7_1 := Aside0.mk hl7_1
   clear hi7_1 hl7_1
   have HR7_2 := Aside0.mk hi7_2
   have HC7_2 := Aside0.mk hl7_2
   clear hi7_2 hl7_2
   have HR7_3 := Aside0.mk hi7_3
   have HC7_3 := Aside0.mk hl7_3
   clear hi7_3 hl7_3
   have HR7_4 := Aside0.mk hi7_4
   have HC7_4 := Aside0.mk hl7_4
   clear hi7_4 hl7_4
   have HR7_5 := Aside0.mk hi7_5
   have HC7_5 := Aside0.mk hl7_5
   clear hi7_5 hl7_5
   have HR7_6 := Aside0.mk hi7_6
   have HC7_6 := Aside0.mk hl7_6
   clear hi7_6 hl7_6
   have HR7_7 := Aside0.mk hi7_7
   have HC7_7 := Aside0.mk hl7_7
   clear hi7_7 hl7_7
   have HR7_8 := Aside0.mk hi7_8
   have HC7_8 := Aside0.mk hl7_8
   clear hi7_8 hl7_8
   have HR7_9 := Aside0.mk hi7_9
   have HC7_9 := Aside0.mk hl7_9
   clear hi7_9 hl7_9
   have EX : Aside0 (rd_T52 l (j : Int) = l[j]) := ⟨by show l.getD _ _ = _; rw [Int.toNat_natCast, List.getD_eq_getElem?_getD, List.getElem?_eq_getElem hlt, Option.getD_some]⟩
   clear p7 q7
   generalize rd_T52 l (j : Int) = x at *
   have HC : Aside0 (book_Partition_right.f k (x.f0) (x.f1) (x.f2) (x.f3) (x.f4) (x.f5) (x.f6) (x.f7) (x.f8) (x.f9) (x.f10) (x.f11.f0) (x.f11.f1) = some b) := ⟨by rw [EX.out]; exact HB1.out⟩
   clear HB1 EX
   simp only [Int.toNat_natCast] at *
   go_wp2_with fail
   refine (book_Partition_29__30.c1 k x _ _ _ _ _ _ _ _ _ _ _ _ _ _ _ _ _ _ b g wr (Kd.C_below HR7_1.out HB.out) HC7_1.out (Kd.C_below HR7_2.out HB.out) HC7_2.out (Kd.C_below HR7_3.out HB.out) HC7_3.out (Kd.C_below HR7_4.out HB.out) HC7_4.out (Kd.C_below HR7_5.out HB.out) HC7_5.out (Kd.C_below HR7_6.out HB.out) HC7_6.out (Kd.C_below HR7_7.out HB.out) HC7_7.out (Kd.C_below HR7_8.out HB.out) HC7_8.out (Kd.C_below HR7_9.out HB.out) HC7_9.out ((HB.out.cell hgl).trans HG.out) HC.out).mono ?_
   rintro e w9 ⟨rfl, hb⟩
   have HB9 : Aside0 (Below w.heap.size w w9) := ⟨below_step HB.out hb⟩
   clear hb HB
   cases b with
   | true =>
    go_wp2
    go_roundw
    case rel => exact ⟨j + 1, by go_num, by omega, ⟨HB2.out (by simp)⟩, HB9⟩
    case measure => simp [intOf]; omega
   | false =>
    go_wp2
    go_ret
    exact ⟨⟨_, rfl, by rw [HB3.out (by simp)]; show _ = _; simp⟩, HB9.out⟩
  ·
   obtain rfl : j = l.length := by omega
   have hr : r = true := by have := HA.out; rw [List.drop_length] at this; simpa [allO] using this.symm
   subst hr
   go_wp2
   go_ret
   exact ⟨⟨_, rfl, by show _ = _; simp⟩, HB.out⟩
set_option maxHeartbeats 800000 in
theorem book_Partition_29__30.c3 (k : Nat) (A0 : Option Addr) (c0 : Nat) (l : List (S52)) (r : Bool) (g : Nat) (w : World) (hr0 : Kd.C k52 w A0 l.length l) (hL : l.length ≤ 140737488351232) (hg : w.cell? ⟨g, 0, none⟩ = some (.func (.func 30) #[] #[])) (h : allO (fun x => book_Partition_right.f k (x.f0) (x.f1) (x.f2) (x.f3) (x.f4) (x.f5) (x.f6) (x.f7) (x.f8) (x.f9) (x.f10) (x.f11.f0) (x.f11.f1)) l = some r) :
  Calls Tryz.prog 96 #[.slice A0 l.length c0, .func (.func 97) #[] #[.pointer (some ⟨g, 0, none⟩)]] w fun e w' => e = .returned (.bool (!r)) ∧ Below w.heap.size w w' := by
 have HC := book_Partition_29__30.c2 k A0 c0 l r g w hr0 hL hg h
 clear hr0 hg h
 go_enter Tryz.func96, Tryz.ntmps96
 go_wp2_with fail
 refine HC.mono ?_
 clear HC
 rintro e w' ⟨⟨q, rfl, hq⟩, hb⟩
 go_wp2
 go_ret
 exact ⟨by rw [← hq.out]; rfl, hb⟩
set_option maxHeartbeats 800000 in
theorem book_Partition_29__30.calls (k : Nat) (A0 : Option Addr) (c0 : Nat) (l0 : List (S52)) (a1 : Int) (r : Bool) (w : World) (hr0 : Kd.C k52 w A0 l0.length l0) (hc0 : l0.length ≤ c0) (h : book_Partition_29__30.f k l0 a1 = some r) :
  Calls Tryz.prog 29 #[.slice A0 l0.length c0, .int .i64 a1, .func (.func 30) #[] #[]] w fun e w' => e = .returned (.bool r) ∧ Below w.heap.size w w' := by
 unfold book_Partition_29__30.f at h
 have HR := Aside0.mk hr0
 clear hr0
 have hbw : Below w.heap.size w (w.alloc (.cells #[.func (.func 30) #[] #[]] 79)) := alloc_below0 w _
 by_cases hle : (l0.length : Int) ≤ a1
 ·
  rw [if_pos hle] at h
  obtain ⟨hL, h2⟩ := if_some h
  clear h
  have h := h2
  clear h2
  have hd : decide ((l0.length : Int) ≤ a1) = true := decide_eq_true hle
  have HC := book_Partition_29__30.c3 k A0 c0 l0 r w.heap.size (w.alloc (.cells #[.func (.func 30) #[] #[]] 79)) (Kd.C_alloc HR.out _) hL (by simp) h
  have HB := Aside0.mk hbw
  clear h hle hbw
  go_enter Tryz.func29, Tryz.ntmps29
  go_wp2_with fail
  refine HC.mono ?_
  clear HC
  rintro e w' ⟨rfl, hb⟩
  go_wp2
  go_ret
  exact ⟨by simp, below_step HB.out hb⟩
 ·
  rw [if_neg hle] at h
  obtain rfl := Option.some.inj h
  have hd : decide ((l0.length : Int) ≤ a1) = false := decide_eq_false hle
  clear h hle
  go_enter Tryz.func29, Tryz.ntmps29
  go_wp2
  go_ret
  exact ⟨rfl, hbw⟩

/-! ### book_Schedule_31__32: function 31 at book_Schedule_right -/
def book_Schedule_31__32.f (k : Nat) (l : List (S67)) (n : Int) : Option (Bool) := if (l.length : Int) ≤ n then (if l.length ≤ 140737488351232 then (allO (fun x => book_Schedule_right.f k (x.f0) (x.f1) (x.f2)) l) else none) else (some false)
theorem book_Schedule_31__32.mono : ∀ a0 a1 k, LeO (book_Schedule_31__32.f k a0 a1) (book_Schedule_31__32.f (k + 1) a0 a1) := by
 intro a0 a1 k
 unfold book_Schedule_31__32.f
 exact LeO.ite (LeO.ite (allO_mono (fun x => book_Schedule_right.mono _ _ _ k) a0) (LeO.refl _)) (LeO.refl _)
set_option maxHeartbeats 800000 in
set_option maxRecDepth 100000 in
theorem book_Schedule_31__32.c1 (k : Nat) (x : S67) (A2 : Option Addr) (c2 : Nat) (r : Bool) (g : Nat) (w : World) (hr2 : Kd.C k69 w A2 x.f2.length x.f2) (hc2 : x.f2.length ≤ c2) (hg : w.cell? ⟨g, 0, none⟩ = some (.func (.func 32) #[] #[])) (h : book_Schedule_right.f k (x.f0) (x.f1) (x.f2) = some r) :
  Calls Tryz.prog 115 #[.agg #[.string (x.f0), .int .i64 (x.f1), .slice A2 x.f2.length c2], .pointer (some ⟨g, 0, none⟩)] w fun e w' => e = .returned (.bool (!r)) ∧ Below w.heap.size w w' := by
 have hgl := World.block_lt_of_cell? w _ hg
 have HH := Aside0.mk h
 clear h
 have HR2 := Aside0.mk hr2
 have HC2 := Aside0.mk hc2
 clear hr2 hc2
 have hgw : (w.alloc (.cells #[.string (x.f0), .int .i64 (x.f1), .slice A2 x.f2.length c2] 67)).cell? ⟨g, 0, none⟩ = some (.func (.func 32) #[] #[]) := ((alloc_below0 w _).cell hgl).trans hg
 go_enter Tryz.func115, Tryz.ntmps115
 go_wp2_with fail
 refine (book_Schedule_right.calls k (x.f0) (x.f1) _ _ (x.f2) r _ (Kd.C_alloc HR2.out _) HC2.out HH.out).mono ?_
 rintro e w' ⟨rfl, hb⟩
 go_wp2
 go_ret
 exact ⟨by simp, below_step (alloc_below0 w _) hb⟩
set_option maxHeartbeats 2000000 in
set_option maxRecDepth 100000 in
theorem book_Schedule_31__32.c2 (k : Nat) (A0 : Option Addr) (c0 : Nat) (l : List (S67)) (r : Bool) (g : Nat) (w : World) (hr0 : Kd.C k67 w A0 l.length l) (hL : l.length ≤ 140737488351232) (hg : w.cell? ⟨g, 0, none⟩ = some (.func (.func 32) #[] #[])) (h : allO (fun x => book_Schedule_right.f k (x.f0) (x.f1) (x.f2)) l = some r) :
  Calls Tryz.prog 152 #[.slice A0 l.length c0, .func (.func 115) #[] #[.pointer (some ⟨g, 0, none⟩)]] w fun e w' => (∃ q : Int, e = .returned (.int .i64 q) ∧ Hid (decide (0 ≤ q) = !r)) ∧ Below w.heap.size w w' := by
 have hgl := World.block_lt_of_cell? w _ hg
 have HR0 := Aside0.mk hr0
 have HG := Aside0.mk hg
 have H0 : Aside0 (allO (fun x => book_Schedule_right.f k (x.f0) (x.f1) (x.f2)) (l.drop 0) = some r) := ⟨by simpa using h⟩
 clear hr0 hg h
 go_enter Tryz.func152, Tryz.ntmps152
 go_wp2
 go_loopw [8] (fun v8 wr => ∃ j : Nat, v8 = .int .i64 (j : Int) ∧ j ≤ l.length ∧ Aside0 (allO (fun x => book_Schedule_right.f k (x.f0) (x.f1) (x.f2)) (l.drop j) = some r) ∧ Aside0 (Below w.heap.size w wr)) (fun v8 _ => l.length - (intOf v8).toNat)
 case atStart => exact ⟨0, rfl, Nat.zero_le _, H0, ⟨Below.refl _ _⟩⟩
 case round =>
  clear H0
  obtain ⟨j, rfl, hj, HA, HB⟩ := hrel
  by_cases hlt : j < l.length
  ·
   have p7 : (0 : Int) ≤ (j : Int) := by omega
   have q7 : (j : Int) < (l.length : Int) := by omega
   obtain ⟨b, hb1, hb2, hb3⟩ := allO_cons hlt HA.out
   have HB1 := Aside0.mk hb1
   have HB2 := Aside0.mk hb2
   have HB3 := Aside0.mk hb3
   clear hb1 hb2 hb3
   obtain ⟨ad7, A7_2, c7_2, e7, hx7_0, hx7_1, hx7_2, hl7_2, hi7_2⟩ := at_T67 HR0.out (j : Int) p7 q7
   cases e7
   replace hx7_0 := (HB.out.cell (World.block_lt_of_cell? w _ hx7_0)).trans hx7_0
   replace hx7_1 := (HB.out.cell (World.block_lt_of_cell? w _ hx7_1)).trans hx7_1
   replace hx7_2 := (HB.out.cell (World.block_lt_of_cell? w _ hx7_2)).trans hx7_2
   have HR7_2 := Aside0.mk hi7_2
   have HC7_2 := Aside0.mk hl7_2
   clear hi7_2 hl7_2
   have EX : Aside0 (rd_T67 l (j : Int) = l[j]) := ⟨by show l.getD _ _ = _; rw [Int.toNat_natCast, List.getD_eq_getElem?_getD, List.getElem?_eq_getElem hlt, Option.getD_some]⟩
   clear p7 q7
   generalize rd_T67 l (j : Int) = x at *
   have HC : Aside0 (book_Schedule_right.f k (x.f0) (x.f1) (x.f2) = some b) := ⟨by rw [EX.out]; exact HB1.out⟩
   clear HB1 EX
   simp only [Int.toNat_natCast] at *
   go_wp2_with fail
   refine (book_Schedule_31__32.c1 k x _ _ b g wr (Kd.C_below HR7_2.out HB.out) HC7_2.out ((HB.out.cell hgl).trans HG.out) HC.out).mono ?_
   rintro e w9 ⟨rfl, hb⟩
   have HB9 : Aside0 (Below w.heap.size w w9) := ⟨below_step HB.out hb⟩
   clear hb HB
   cases b with
   | true =>
    go_wp2
    go_roundw
    case rel => exact ⟨j + 1, by go_num, by omega, ⟨HB2.out (by simp)⟩, HB9⟩
    case measure => simp [intOf]; omega
   | false =>
    go_wp2
    go_ret
    exact ⟨⟨_, rfl, by rw [HB3.out (by simp)]; show _ = _; simp⟩, HB9.out⟩
  ·
   obtain rfl : j = l.length := by omega
   have hr : r = true := by have := HA.out; rw [List.drop_length] at this; simpa [allO] using this.symm
   subst hr
   go_wp2
   go_ret
   exact ⟨⟨_, rfl, by show _ = _; simp⟩, HB.out⟩
set_option maxHeartbeats 800000 in
theorem book_Schedule_31__32.c3 (k : Nat) (A0 : Option Addr) (c0 : Nat) (l : List (S67)) (r : Bool) (g : Nat) (w : World) (hr0 : Kd.C k67 w A0 l.length l) (hL : l.length ≤ 140737488351232) (hg : w.cell? ⟨g, 0, none⟩ = some (.func (.func 32) #[] #[])) (h : allO (fun x => book_Schedule_right.f k (x.f0) (x.f1) (x.f2)) l = some r) :
  Calls Tryz.prog 114 #[.slice A0 l.length c0, .func (.func 115) #[] #[.pointer (some ⟨g, 0, none⟩)]] w fun e w' => e = .returned (.bool (!r)) ∧ Below w.heap.size w w' := by
 have HC := book_Schedule_31__32.c2 k A0 c0 l r g w hr0 hL hg h
 clear hr0 hg h
 go_enter Tryz.func114, Tryz.ntmps114
 go_wp2_with fail
 refine HC.mono ?_
 clear HC
 rintro e w' ⟨⟨q, rfl, hq⟩, hb⟩
 go_wp2
 go_ret
 exact ⟨by rw [← hq.out]; rfl, hb⟩
set_option maxHeartbeats 800000 in
theorem book_Schedule_31__32.calls (k : Nat) (A0 : Option Addr) (c0 : Nat) (l0 : List (S67)) (a1 : Int) (r : Bool) (w : World) (hr0 : Kd.C k67 w A0 l0.length l0) (hc0 : l0.length ≤ c0) (h : book_Schedule_31__32.f k l0 a1 = some r) :
  Calls Tryz.prog 31 #[.slice A0 l0.length c0, .int .i64 a1, .func (.func 32) #[] #[]] w fun e w' => e = .returned (.bool r) ∧ Below w.heap.size w w' := by
 unfold book_Schedule_31__32.f at h
 have HR := Aside0.mk hr0
 clear hr0
 have hbw : Below w.heap.size w (w.alloc (.cells #[.func (.func 32) #[] #[]] 81)) := alloc_below0 w _
 by_cases hle : (l0.length : Int) ≤ a1
 ·
  rw [if_pos hle] at h
  obtain ⟨hL, h2⟩ := if_some h
  clear h
  have h := h2
  clear h2
  have hd : decide ((l0.length : Int) ≤ a1) = true := decide_eq_true hle
  have HC := book_Schedule_31__32.c3 k A0 c0 l0 r w.heap.size (w.alloc (.cells #[.func (.func 32) #[] #[]] 81)) (Kd.C_alloc HR.out _) hL (by simp) h
  have HB := Aside0.mk hbw
  clear h hle hbw
  go_enter Tryz.func31, Tryz.ntmps31
  go_wp2_with fail
  refine HC.mono ?_
  clear HC
  rintro e w' ⟨rfl, hb⟩
  go_wp2
  go_ret
  exact ⟨by simp, below_step HB.out hb⟩
 ·
  rw [if_neg hle] at h
  obtain rfl := Option.some.inj h
  have hd : decide ((l0.length : Int) ≤ a1) = false := decide_eq_false hle
  clear h hle
  go_enter Tryz.func31, Tryz.ntmps31
  go_wp2
  go_ret
  exact ⟨rfl, hbw⟩

/-! ### book_Channel_34__35: function 34 at book_Module_Right_1 -/
def book_Channel_34__35.f (l : List (S74)) (n : Int) : Option (Bool) := if (l.length : Int) ≤ n then (if l.length ≤ 140737488351232 then (allO (fun x => book_Module_Right_1.f (x.f0.f0) (x.f0.f1) (x.f1)) l) else none) else (some false)
set_option maxHeartbeats 800000 in
set_option maxRecDepth 100000 in
theorem book_Channel_34__35.c1 (x : S74) (A2 : Option Addr) (c2 : Nat) (r : Bool) (g : Nat) (w : World) (hr2 : Kd.C k71 w A2 x.f1.length x.f1) (hc2 : x.f1.length ≤ c2) (hg : w.cell? ⟨g, 0, none⟩ = some (.func (.func 35) #[] #[])) (h : book_Module_Right_1.f (x.f0.f0) (x.f0.f1) (x.f1) = some r) :
  Calls Tryz.prog 119 #[.agg #[.int .i64 (x.f0.f0), .int .i64 (x.f0.f1), .slice A2 x.f1.length c2], .pointer (some ⟨g, 0, none⟩)] w fun e w' => e = .returned (.bool (!r)) ∧ Below w.heap.size w w' := by
 have hgl := World.block_lt_of_cell? w _ hg
 have HH := Aside0.mk h
 clear h
 have HR2 := Aside0.mk hr2
 have HC2 := Aside0.mk hc2
 clear hr2 hc2
 have hgw : (w.alloc (.cells #[.int .i64 (x.f0.f0), .int .i64 (x.f0.f1), .slice A2 x.f1.length c2] 74)).cell? ⟨g, 0, none⟩ = some (.func (.func 35) #[] #[]) := ((alloc_below0 w _).cell hgl).trans hg
 go_enter Tryz.func119, Tryz.ntmps119
 go_wp2_with fail
 refine (book_Module_Right_1.calls (x.f0.f0) (x.f0.f1) _ _ (x.f1) r _ (Kd.C_alloc HR2.out _) HC2.out HH.out).mono ?_
 rintro e w' ⟨rfl, hb⟩
 go_wp2
 go_ret
 exact ⟨by simp, below_step (alloc_below0 w _) hb⟩
set_option maxHeartbeats 2000000 in
set_option maxRecDepth 100000 in
theorem book_Channel_34__35.c2 (A0 : Option Addr) (c0 : Nat) (l : List (S74)) (r : Bool) (g : Nat) (w : World) (hr0 : Kd.C k74 w A0 l.length l) (hL : l.length ≤ 140737488351232) (hg : w.cell? ⟨g, 0, none⟩ = some (.func (.func 35) #[] #[])) (h : allO (fun x => book_Module_Right_1.f (x.f0.f0) (x.f0.f1) (x.f1)) l = some r) :
  Calls Tryz.prog 155 #[.slice A0 l.length c0, .func (.func 119) #[] #[.pointer (some ⟨g, 0, none⟩)]] w fun e w' => (∃ q : Int, e = .returned (.int .i64 q) ∧ Hid (decide (0 ≤ q) = !r)) ∧ Below w.heap.size w w' := by
 have hgl := World.block_lt_of_cell? w _ hg
 have HR0 := Aside0.mk hr0
 have HG := Aside0.mk hg
 have H0 : Aside0 (allO (fun x => book_Module_Right_1.f (x.f0.f0) (x.f0.f1) (x.f1)) (l.drop 0) = some r) := ⟨by simpa using h⟩
 clear hr0 hg h
 go_enter Tryz.func155, Tryz.ntmps155
 go_wp2
 go_loopw [8] (fun v8 wr => ∃ j : Nat, v8 = .int .i64 (j : Int) ∧ j ≤ l.length ∧ Aside0 (allO (fun x => book_Module_Right_1.f (x.f0.f0) (x.f0.f1) (x.f1)) (l.drop j) = some r) ∧ Aside0 (Below w.heap.size w wr)) (fun v8 _ => l.length - (intOf v8).toNat)
 case atStart => exact ⟨0, rfl, Nat.zero_le _, H0, ⟨Below.refl _ _⟩⟩
 case round =>
  clear H0
  obtain ⟨j, rfl, hj, HA, HB⟩ := hrel
  by_cases hlt : j < l.length
  ·
   have p7 : (0 : Int) ≤ (j : Int) := by omega
   have q7 : (j : Int) < (l.length : Int) := by omega
   obtain ⟨b, hb1, hb2, hb3⟩ := allO_cons hlt HA.out
   have HB1 := Aside0.mk hb1
   have HB2 := Aside0.mk hb2
   have HB3 := Aside0.mk hb3
   clear hb1 hb2 hb3
   obtain ⟨ad7, A7_2, c7_2, e7, hx7_0, hx7_1, hx7_2, hl7_2, hi7_2⟩ := at_T74 HR0.out (j : Int) p7 q7
   cases e7
   replace hx7_0 := (HB.out.cell (World.block_lt_of_cell? w _ hx7_0)).trans hx7_0
   replace hx7_1 := (HB.out.cell (World.block_lt_of_cell? w _ hx7_1)).trans hx7_1
   replace hx7_2 := (HB.out.cell (World.block_lt_of_cell? w _ hx7_2)).trans hx7_2
   have HR7_2 := Aside0.mk hi7_2
   have HC7_2 := Aside0.mk hl7_2
   clear hi7_2 hl7_2
   have EX : Aside0 (rd_T74 l (j : Int) = l[j]) := ⟨by show l.getD _ _ = _; rw [Int.toNat_natCast, List.getD_eq_getElem?_getD, List.getElem?_eq_getElem hlt, Option.getD_some]⟩
   clear p7 q7
   generalize rd_T74 l (j : Int) = x at *
   have HC : Aside0 (book_Module_Right_1.f (x.f0.f0) (x.f0.f1) (x.f1) = some b) := ⟨by rw [EX.out]; exact HB1.out⟩
   clear HB1 EX
   simp only [Int.toNat_natCast] at *
   go_wp2_with fail
   refine (book_Channel_34__35.c1 x _ _ b g wr (Kd.C_below HR7_2.out HB.out) HC7_2.out ((HB.out.cell hgl).trans HG.out) HC.out).mono ?_
   rintro e w9 ⟨rfl, hb⟩
   have HB9 : Aside0 (Below w.heap.size w w9) := ⟨below_step HB.out hb⟩
   clear hb HB
   cases b with
   | true =>
    go_wp2
    go_roundw
    case rel => exact ⟨j + 1, by go_num, by omega, ⟨HB2.out (by simp)⟩, HB9⟩
    case measure => simp [intOf]; omega
   | false =>
    go_wp2
    go_ret
    exact ⟨⟨_, rfl, by rw [HB3.out (by simp)]; show _ = _; simp⟩, HB9.out⟩
  ·
   obtain rfl : j = l.length := by omega
   have hr : r = true := by have := HA.out; rw [List.drop_length] at this; simpa [allO] using this.symm
   subst hr
   go_wp2
   go_ret
   exact ⟨⟨_, rfl, by show _ = _; simp⟩, HB.out⟩
set_option maxHeartbeats 800000 in
theorem book_Channel_34__35.c3 (A0 : Option Addr) (c0 : Nat) (l : List (S74)) (r : Bool) (g : Nat) (w : World) (hr0 : Kd.C k74 w A0 l.length l) (hL : l.length ≤ 140737488351232) (hg : w.cell? ⟨g, 0, none⟩ = some (.func (.func 35) #[] #[])) (h : allO (fun x => book_Module_Right_1.f (x.f0.f0) (x.f0.f1) (x.f1)) l = some r) :
  Calls Tryz.prog 118 #[.slice A0 l.length c0, .func (.func 119) #[] #[.pointer (some ⟨g, 0, none⟩)]] w fun e w' => e = .returned (.bool (!r)) ∧ Below w.heap.size w w' := by
 have HC := book_Channel_34__35.c2 A0 c0 l r g w hr0 hL hg h
 clear hr0 hg h
 go_enter Tryz.func118, Tryz.ntmps118
 go_wp2_with fail
 refine HC.mono ?_
 clear HC
 rintro e w' ⟨⟨q, rfl, hq⟩, hb⟩
 go_wp2
 go_ret
 exact ⟨by rw [← hq.out]; rfl, hb⟩
set_option maxHeartbeats 800000 in
theorem book_Channel_34__35.calls (A0 : Option Addr) (c0 : Nat) (l0 : List (S74)) (a1 : Int) (r : Bool) (w : World) (hr0 : Kd.C k74 w A0 l0.length l0) (hc0 : l0.length ≤ c0) (h : book_Channel_34__35.f l0 a1 = some r) :
  Calls Tryz.prog 34 #[.slice A0 l0.length c0, .int .i64 a1, .func (.func 35) #[] #[]] w fun e w' => e = .returned (.bool r) ∧ Below w.heap.size w w' := by
 unfold book_Channel_34__35.f at h
 have HR := Aside0.mk hr0
 clear hr0
 have hbw : Below w.heap.size w (w.alloc (.cells #[.func (.func 35) #[] #[]] 86)) := alloc_below0 w _
 by_cases hle : (l0.length : Int) ≤ a1
 ·
  rw [if_pos hle] at h
  obtain ⟨hL, h2⟩ := if_some h
  clear h
  have h := h2
  clear h2
  have hd : decide ((l0.length : Int) ≤ a1) = true := decide_eq_true hle
  have HC := book_Channel_34__35.c3 A0 c0 l0 r w.heap.size (w.alloc (.cells #[.func (.func 35) #[] #[]] 86)) (Kd.C_alloc HR.out _) hL (by simp) h
  have HB := Aside0.mk hbw
  clear h hle hbw
  go_enter Tryz.func34, Tryz.ntmps34
  go_wp2_with fail
  refine HC.mono ?_
  clear HC
  rintro e w' ⟨rfl, hb⟩
  go_wp2
  go_ret
  exact ⟨by simp, below_step HB.out hb⟩
 ·
  rw [if_neg hle] at h
  obtain rfl := Option.some.inj h
  have hd : decide ((l0.length : Int) ≤ a1) = false := decide_eq_false hle
  clear h hle
  go_enter Tryz.func34, Tryz.ntmps34
  go_wp2
  go_ret
  exact ⟨rfl, hbw⟩

end Go.Proofs.YthpdlgamicmhaaaGreat.PR
