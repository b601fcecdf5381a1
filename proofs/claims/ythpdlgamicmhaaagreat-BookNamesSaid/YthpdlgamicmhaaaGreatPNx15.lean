/- Written by a program (pe.py): functions of the program as Lean functions, and that each call answers as they do. -/
import Derived.Test.YthpdlgamicmhaaaGreatPNx0
import Derived.Test.YthpdlgamicmhaaaGreatPNx1
import Derived.Test.YthpdlgamicmhaaaGreatPNx2
import Derived.Test.YthpdlgamicmhaaaGreatPNx5
import Derived.Test.YthpdlgamicmhaaaGreatPNx6
import Derived.Test.YthpdlgamicmhaaaGreatPNx7
import Derived.Test.YthpdlgamicmhaaaGreatPNx8
import Derived.Test.YthpdlgamicmhaaaGreatPNx9
import Derived.Test.YthpdlgamicmhaaaGreatPNx10
import Derived.Test.YthpdlgamicmhaaaGreatPNx11
import Derived.Test.YthpdlgamicmhaaaGreatPNx12
import Derived.Test.YthpdlgamicmhaaaGreatPNx13
import Derived.Test.YthpdlgamicmhaaaGreatPNx14
namespace Go.Proofs.YthpdlgamicmhaaaGreat.PN
open Go.RowKit Go.Proofs.YthpdlgamicmhaaaGreatW.PrintWords Go.Proofs.YthpdlgamicmhaaaGreatW.PrintLast Go.Proofs.YthpdlgamicmhaaaGreatW.PrintMore
attribute [local go_sem] max2_int min2_int max_two min_two max_three min_three max_four min_four   -- for this text's walks alone
set_option linter.unusedVariables false
set_option linter.unusedSimpArgs false

attribute [local go_sem high] eqA50 eqA60 eqA69 eqA71 eqA77 eqA109 eqA111 eqA113 eqA115 eqA117 eqA119
/-! ### book_Task_128: function 128 -/
def book_Task_128.l0 : Nat → List (S109) → List (S109) → Int → Int → Option (Bool)
 | 0, _, _, _, _ => none
 | k + 1, x0, x1, x12, x13 => if x13 < x12 then (if 0 ≤ x13 then (if x13 < (x0.length : Int) then (if x13 < (x1.length : Int) then (if (!((((rd_T109 x0 x13).f0).toList) == (((rd_T109 x1 x13).f0).toList)) || (!(((rd_T109 x0 x13).f1) == ((rd_T109 x1 x13).f1)) || (!(((rd_T109 x0 x13).f2) == ((rd_T109 x1 x13).f2)) || (!(((rd_T109 x0 x13).f3) == ((rd_T109 x1 x13).f3)) || (!(((rd_T109 x0 x13).f4) == ((rd_T109 x1 x13).f4)) || (!(((rd_T109 x0 x13).f5) == ((rd_T109 x1 x13).f5)) || (!(((rd_T109 x0 x13).f6) == ((rd_T109 x1 x13).f6)) || (!(((rd_T109 x0 x13).f7) == ((rd_T109 x1 x13).f7)))))))))) = true then (some false) else (book_Task_128.l0 k x0 x1 x12 (wrap64 (x13 + 1)))) else (none)) else (none)) else (none)) else (some true)
def book_Task_128.f (k : Nat) (l0 : List (S109)) (l1 : List (S109)) : Option (Bool) := if (l0.length : Int) = (l1.length : Int) then (book_Task_128.l0 k l0 l1 (l0.length : Int) 0) else (some false)
theorem book_Task_128.mono_l : ∀ k, (∀ y0 y1 y2 y3, LeO (book_Task_128.l0 k y0 y1 y2 y3) (book_Task_128.l0 (k + 1) y0 y1 y2 y3))
 | 0 => fun _ _ _ _ r h => by simp [book_Task_128.l0] at h
 | k + 1 => by
  have ih0 := book_Task_128.mono_l k
  ·
   intro y0 y1 y2 y3
   unfold book_Task_128.l0
   repeat' first
   | (with_reducible exact ih0 _ _ _ _)
   | (with_reducible exact LeO.refl _)
   | (with_reducible exact LeO.none _)
   | (with_reducible refine LeO.ite ?_ ?_)
   | (with_reducible refine LeO.bind ?_ (fun _ => ?_))
   | exact ih0 _ _ _ _
   | exact LeO.none _
   | refine LeO.ite ?_ ?_
   | refine LeO.bind ?_ (fun _ => ?_)
theorem book_Task_128.mono : ∀ a0 a1 k, LeO (book_Task_128.f k a0 a1) (book_Task_128.f (k + 1) a0 a1) := by
 intro a0 a1 k
 have ih0 := book_Task_128.mono_l k
 unfold book_Task_128.f
 repeat' first
   | (with_reducible exact ih0 _ _ _ _)
   | (with_reducible exact LeO.refl _)
   | (with_reducible exact LeO.none _)
   | (with_reducible refine LeO.ite ?_ ?_)
   | (with_reducible refine LeO.bind ?_ (fun _ => ?_))
   | exact ih0 _ _ _ _
   | exact LeO.none _
   | refine LeO.ite ?_ ?_
   | refine LeO.bind ?_ (fun _ => ?_)
set_option maxHeartbeats 8000000 in
set_option maxRecDepth 100000 in
theorem book_Task_128.calls (k : Nat) (A0 : Option Addr) (c0 : Nat) (l0 : List (S109)) (A1 : Option Addr) (c1 : Nat) (l1 : List (S109)) (r : Bool) (w : World) (hr0 : Kd.C k109 w A0 l0.length l0) (hc0 : l0.length ≤ c0) (hr1 : Kd.C k109 w A1 l1.length l1) (hc1 : l1.length ≤ c1) (h : book_Task_128.f k l0 l1 = some r) :
  Calls Tryz.prog 128 #[.slice A0 l0.length c0, .slice A1 l1.length c1] w fun e w' => e = .returned (.bool r) ∧ Drawn0 w w' := by
 have hu109 := Tryz.underlying109
 have HR0 := Aside0.mk hr0
 have HC0 := Aside0.mk hc0
 clear hr0 hc0
 have HR1 := Aside0.mk hr1
 have HC1 := Aside0.mk hc1
 clear hr1 hc1
 have H : (if (l0.length : Int) = (l1.length : Int) then (book_Task_128.l0 k l0 l1 (l0.length : Int) 0) else (some false)) = some r := h
 clear h
 by_cases c3 : (l0.length : Int) = (l1.length : Int)
 ·
  rw [if_pos c3] at H
  have c3b0 : ((l0.length : Int) == (l1.length : Int)) = true := beq_iff_eq.mpr c3
  have c3b1 : ((l0.length : Int) != (l1.length : Int)) = false := bne_eq_false_iff_eq.mpr c3
  have c3b2 : (l0.length == l1.length) = true := by first | simpa using c3 | (simp at c3 ⊢; omega)
  clear c3
  have H' := Aside0.mk H
  clear H
  go_enter Tryz.func128, Tryz.ntmps128
  go_wp2
  repeat (go_quiet (fail); try go_wp2)
  go_loopg [13] k (fun kq v13 w' => ∃ (x13_1 : Int), v13 = .int .i64 x13_1 ∧ Aside0 (book_Task_128.l0 kq l0 l1 (l0.length : Int) x13_1 = some r) ∧ Aside0 (kq ≤ k) ∧ Drawn0 w w')
  case atStart => exact ⟨(0), (by first | rfl | (simp; done) | (simp [*]; done)), H', ⟨Nat.le_refl _⟩, by repeat (first | exact Drawn0.refl _ | apply Drawn0.step)⟩
  case round =>
   clear H'
   try clear c1
   try clear p2
   try clear c3
   try clear c3b0
   try clear c3b1
   try clear c3b2
   obtain ⟨x13_1, rfl, HA, HK1, ⟨m1, rfl⟩⟩ := hrel
   cases gk with
   | zero => exact absurd HA.out (by simp [book_Task_128.l0])
   | succ k1 =>
    have H := HA.out
    clear HA
    simp only [book_Task_128.l0] at H
    by_cases c4 : x13_1 < (l0.length : Int)
    ·
     rw [if_pos c4] at H
     have c4b0 : decide (x13_1 < (l0.length : Int)) = true := decide_eq_true c4
     clear c4
     by_cases c5 : 0 ≤ x13_1
     ·
      rw [if_pos c5] at H
      have c5b0 : decide (0 ≤ x13_1) = true := decide_eq_true c5
      clear c5
      by_cases c6 : x13_1 < (l0.length : Int)
      ·
       rw [if_pos c6] at H
       have c6b0 : decide (x13_1 < (l0.length : Int)) = true := decide_eq_true c6
       clear c6
       by_cases c7 : x13_1 < (l1.length : Int)
       ·
        rw [if_pos c7] at H
        have c7b0 : decide (x13_1 < (l1.length : Int)) = true := decide_eq_true c7
        clear c7
        by_cases c8 : (!((((rd_T109 l0 x13_1).f0).toList) == (((rd_T109 l1 x13_1).f0).toList)) || (!(((rd_T109 l0 x13_1).f1) == ((rd_T109 l1 x13_1).f1)) || (!(((rd_T109 l0 x13_1).f2) == ((rd_T109 l1 x13_1).f2)) || (!(((rd_T109 l0 x13_1).f3) == ((rd_T109 l1 x13_1).f3)) || (!(((rd_T109 l0 x13_1).f4) == ((rd_T109 l1 x13_1).f4)) || (!(((rd_T109 l0 x13_1).f5) == ((rd_T109 l1 x13_1).f5)) || (!(((rd_T109 l0 x13_1).f6) == ((rd_T109 l1 x13_1).f6)) || (!(((rd_T109 l0 x13_1).f7) == ((rd_T109 l1 x13_1).f7)))))))))) = true
        ·
         rw [if_pos c8] at H
         have c8b0 : (!((((rd_T109 l0 x13_1).f0).toList) == (((rd_T109 l1 x13_1).f0).toList)) || (!(((rd_T109 l0 x13_1).f1) == ((rd_T109 l1 x13_1).f1)) || (!(((rd_T109 l0 x13_1).f2) == ((rd_T109 l1 x13_1).f2)) || (!(((rd_T109 l0 x13_1).f3) == ((rd_T109 l1 x13_1).f3)) || (!(((rd_T109 l0 x13_1).f4) == ((rd_T109 l1 x13_1).f4)) || (!(((rd_T109 l0 x13_1).f5) == ((rd_T109 l1 x13_1).f5)) || (!(((rd_T109 l0 x13_1).f6) == ((rd_T109 l1 x13_1).f6)) || (!(((rd_T109 l0 x13_1).f7) == ((rd_T109 l1 x13_1).f7)))))))))) = true := c8
         clear c8
         obtain rfl := Option.some.inj H
         have p198 : 0 ≤ (x13_1 : Int) := of_decide_eq_true (by first | (with_reducible assumption) | assumption)
         have q198 : x13_1 < (l0.length : Int) := of_decide_eq_true (by first | (with_reducible assumption) | assumption)
         obtain ⟨ad198, e198, hx198_0, hx198_1, hx198_2, hx198_3, hx198_4, hx198_5, hx198_6, hx198_7⟩ := at_T109 HR0.out x13_1 p198 q198
         cases e198
         replace p198 := eq_true p198
         replace q198 := eq_true q198
         have p199 : 0 ≤ (x13_1 : Int) := of_decide_eq_true (by first | (with_reducible assumption) | assumption)
         have q199 : x13_1 < (l1.length : Int) := of_decide_eq_true (by first | (with_reducible assumption) | assumption)
         obtain ⟨ad199, e199, hx199_0, hx199_1, hx199_2, hx199_3, hx199_4, hx199_5, hx199_6, hx199_7⟩ := at_T109 HR1.out x13_1 p199 q199
         cases e199
         replace p199 := eq_true p199
         replace q199 := eq_true q199
         go_wp2
         repeat (go_quiet (fail); try go_wp2)
         go_ret
         exact ⟨by first | rfl | (simp; done) | (simp [*]; done), by repeat (first | exact Drawn0.refl _ | apply Drawn0.step)⟩
        ·
         rw [if_neg c8] at H
         have c8b0 : (!((((rd_T109 l0 x13_1).f0).toList) == (((rd_T109 l1 x13_1).f0).toList)) || (!(((rd_T109 l0 x13_1).f1) == ((rd_T109 l1 x13_1).f1)) || (!(((rd_T109 l0 x13_1).f2) == ((rd_T109 l1 x13_1).f2)) || (!(((rd_T109 l0 x13_1).f3) == ((rd_T109 l1 x13_1).f3)) || (!(((rd_T109 l0 x13_1).f4) == ((rd_T109 l1 x13_1).f4)) || (!(((rd_T109 l0 x13_1).f5) == ((rd_T109 l1 x13_1).f5)) || (!(((rd_T109 l0 x13_1).f6) == ((rd_T109 l1 x13_1).f6)) || (!(((rd_T109 l0 x13_1).f7) == ((rd_T109 l1 x13_1).f7)))))))))) = false := by simpa using c8
         clear c8
         have H' := Aside0.mk H
         clear H
         have p198 : 0 ≤ (x13_1 : Int) := of_decide_eq_true (by first | (with_reducible assumption) | assumption)
         have q198 : x13_1 < (l0.length : Int) := of_decide_eq_true (by first | (with_reducible assumption) | assumption)
         obtain ⟨ad198, e198, hx198_0, hx198_1, hx198_2, hx198_3, hx198_4, hx198_5, hx198_6, hx198_7⟩ := at_T109 HR0.out x13_1 p198 q198
         cases e198
         replace p198 := eq_true p198
         replace q198 := eq_true q198
         have p199 : 0 ≤ (x13_1 : Int) := of_decide_eq_true (by first | (with_reducible assumption) | assumption)
         have q199 : x13_1 < (l1.length : Int) := of_decide_eq_true (by first | (with_reducible assumption) | assumption)
         obtain ⟨ad199, e199, hx199_0, hx199_1, hx199_2, hx199_3, hx199_4, hx199_5, hx199_6, hx199_7⟩ := at_T109 HR1.out x13_1 p199 q199
         cases e199
         replace p199 := eq_true p199
         replace q199 := eq_true q199
         go_wp2
         repeat (go_quiet (fail); try go_wp2)
         go_roundg k1
         case measure => have := HK1.out; omega
         case rel => exact ⟨(wrap64 (x13_1 + 1)), (by first | rfl | (simp; done) | (simp [*]; done)), H', ⟨by have := HK1.out; omega⟩, by repeat (first | exact Drawn0.refl _ | apply Drawn0.step)⟩
       ·
        rw [if_neg c7] at H
        exact absurd H (by simp)
      ·
       rw [if_neg c6] at H
       exact absurd H (by simp)
     ·
      rw [if_neg c5] at H
      exact absurd H (by simp)
    ·
     rw [if_neg c4] at H
     have c4b0 : decide (x13_1 < (l0.length : Int)) = false := decide_eq_false c4
     clear c4
     obtain rfl := Option.some.inj H
     go_wp2
     repeat (go_quiet (fail); try go_wp2)
     go_ret
     exact ⟨by first | rfl | (simp; done) | (simp [*]; done), by repeat (first | exact Drawn0.refl _ | apply Drawn0.step)⟩
 ·
  rw [if_neg c3] at H
  have c3b0 : ((l0.length : Int) == (l1.length : Int)) = false := beq_eq_false_iff_ne.mpr c3
  have c3b1 : ((l0.length : Int) != (l1.length : Int)) = true := bne_iff_ne.mpr c3
  have c3b2 : (l0.length == l1.length) = false := by first | simpa using c3 | (simp at c3 ⊢; omega)
  obtain rfl := Option.some.inj H
  go_enter Tryz.func128, Tryz.ntmps128
  go_wp2
  repeat (go_quiet (fail); try go_wp2)
  go_ret
  exact ⟨by first | rfl | (simp; done) | (simp [*]; done), by repeat (first | exact Drawn0.refl _ | apply Drawn0.step)⟩

/-! ### book_Lock_129: function 129 -/
def book_Lock_129.l0 : Nat → List (S111) → List (S111) → Int → Int → Option (Bool)
 | 0, _, _, _, _ => none
 | k + 1, x0, x1, x12, x13 => if x13 < x12 then (if 0 ≤ x13 then (if x13 < (x0.length : Int) then (if x13 < (x1.length : Int) then (if (!((((rd_T111 x0 x13).f0).toList) == (((rd_T111 x1 x13).f0).toList)) || (!(((rd_T111 x0 x13).f1) == ((rd_T111 x1 x13).f1)))) = true then (some false) else (book_Lock_129.l0 k x0 x1 x12 (wrap64 (x13 + 1)))) else (none)) else (none)) else (none)) else (some true)
def book_Lock_129.f (k : Nat) (l0 : List (S111)) (l1 : List (S111)) : Option (Bool) := if (l0.length : Int) = (l1.length : Int) then (book_Lock_129.l0 k l0 l1 (l0.length : Int) 0) else (some false)
theorem book_Lock_129.mono_l : ∀ k, (∀ y0 y1 y2 y3, LeO (book_Lock_129.l0 k y0 y1 y2 y3) (book_Lock_129.l0 (k + 1) y0 y1 y2 y3))
 | 0 => fun _ _ _ _ r h => by simp [book_Lock_129.l0] at h
 | k + 1 => by
  have ih0 := book_Lock_129.mono_l k
  ·
   intro y0 y1 y2 y3
   unfold book_Lock_129.l0
   repeat' first
   | (with_reducible exact ih0 _ _ _ _)
   | (with_reducible exact LeO.refl _)
   | (with_reducible exact LeO.none _)
   | (with_reducible refine LeO.ite ?_ ?_)
   | (with_reducible refine LeO.bind ?_ (fun _ => ?_))
   | exact ih0 _ _ _ _
   | exact LeO.none _
   | refine LeO.ite ?_ ?_
   | refine LeO.bind ?_ (fun _ => ?_)
theorem book_Lock_129.mono : ∀ a0 a1 k, LeO (book_Lock_129.f k a0 a1) (book_Lock_129.f (k + 1) a0 a1) := by
 intro a0 a1 k
 have ih0 := book_Lock_129.mono_l k
 unfold book_Lock_129.f
 repeat' first
   | (with_reducible exact ih0 _ _ _ _)
   | (with_reducible exact LeO.refl _)
   | (with_reducible exact LeO.none _)
   | (with_reducible refine LeO.ite ?_ ?_)
   | (with_reducible refine LeO.bind ?_ (fun _ => ?_))
   | exact ih0 _ _ _ _
   | exact LeO.none _
   | refine LeO.ite ?_ ?_
   | refine LeO.bind ?_ (fun _ => ?_)
set_option maxHeartbeats 8000000 in
set_option maxRecDepth 100000 in
theorem book_Lock_129.calls (k : Nat) (A0 : Option Addr) (c0 : Nat) (l0 : List (S111)) (A1 : Option Addr) (c1 : Nat) (l1 : List (S111)) (r : Bool) (w : World) (hr0 : Kd.C k111 w A0 l0.length l0) (hc0 : l0.length ≤ c0) (hr1 : Kd.C k111 w A1 l1.length l1) (hc1 : l1.length ≤ c1) (h : book_Lock_129.f k l0 l1 = some r) :
  Calls Tryz.prog 129 #[.slice A0 l0.length c0, .slice A1 l1.length c1] w fun e w' => e = .returned (.bool r) ∧ Drawn0 w w' := by
 have hu111 := Tryz.underlying111
 have HR0 := Aside0.mk hr0
 have HC0 := Aside0.mk hc0
 clear hr0 hc0
 have HR1 := Aside0.mk hr1
 have HC1 := Aside0.mk hc1
 clear hr1 hc1
 have H : (if (l0.length : Int) = (l1.length : Int) then (book_Lock_129.l0 k l0 l1 (l0.length : Int) 0) else (some false)) = some r := h
 clear h
 by_cases c3 : (l0.length : Int) = (l1.length : Int)
 ·
  rw [if_pos c3] at H
  have c3b0 : ((l0.length : Int) == (l1.length : Int)) = true := beq_iff_eq.mpr c3
  have c3b1 : ((l0.length : Int) != (l1.length : Int)) = false := bne_eq_false_iff_eq.mpr c3
  have c3b2 : (l0.length == l1.length) = true := by first | simpa using c3 | (simp at c3 ⊢; omega)
  clear c3
  have H' := Aside0.mk H
  clear H
  go_enter Tryz.func129, Tryz.ntmps129
  go_wp2
  repeat (go_quiet (fail); try go_wp2)
  go_loopg [13] k (fun kq v13 w' => ∃ (x13_1 : Int), v13 = .int .i64 x13_1 ∧ Aside0 (book_Lock_129.l0 kq l0 l1 (l0.length : Int) x13_1 = some r) ∧ Aside0 (kq ≤ k) ∧ Drawn0 w w')
  case atStart => exact ⟨(0), (by first | rfl | (simp; done) | (simp [*]; done)), H', ⟨Nat.le_refl _⟩, by repeat (first | exact Drawn0.refl _ | apply Drawn0.step)⟩
  case round =>
   clear H'
   try clear c1
   try clear p2
   try clear c3
   try clear c3b0
   try clear c3b1
   try clear c3b2
   obtain ⟨x13_1, rfl, HA, HK1, ⟨m1, rfl⟩⟩ := hrel
   cases gk with
   | zero => exact absurd HA.out (by simp [book_Lock_129.l0])
   | succ k1 =>
    have H := HA.out
    clear HA
    simp only [book_Lock_129.l0] at H
    by_cases c4 : x13_1 < (l0.length : Int)
    ·
     rw [if_pos c4] at H
     have c4b0 : decide (x13_1 < (l0.length : Int)) = true := decide_eq_true c4
     clear c4
     by_cases c5 : 0 ≤ x13_1
     ·
      rw [if_pos c5] at H
      have c5b0 : decide (0 ≤ x13_1) = true := decide_eq_true c5
      clear c5
      by_cases c6 : x13_1 < (l0.length : Int)
      ·
       rw [if_pos c6] at H
       have c6b0 : decide (x13_1 < (l0.length : Int)) = true := decide_eq_true c6
       clear c6
       by_cases c7 : x13_1 < (l1.length : Int)
       ·
        rw [if_pos c7] at H
        have c7b0 : decide (x13_1 < (l1.length : Int)) = true := decide_eq_true c7
        clear c7
        by_cases c8 : (!((((rd_T111 l0 x13_1).f0).toList) == (((rd_T111 l1 x13_1).f0).toList)) || (!(((rd_T111 l0 x13_1).f1) == ((rd_T111 l1 x13_1).f1)))) = true
        ·
         rw [if_pos c8] at H
         have c8b0 : (!((((rd_T111 l0 x13_1).f0).toList) == (((rd_T111 l1 x13_1).f0).toList)) || (!(((rd_T111 l0 x13_1).f1) == ((rd_T111 l1 x13_1).f1)))) = true := c8
         clear c8
         obtain rfl := Option.some.inj H
         have p200 : 0 ≤ (x13_1 : Int) := of_decide_eq_true (by first | (with_reducible assumption) | assumption)
         have q200 : x13_1 < (l0.length : Int) := of_decide_eq_true (by first | (with_reducible assumption) | assumption)
         obtain ⟨ad200, e200, hx200_0, hx200_1⟩ := at_T111 HR0.out x13_1 p200 q200
         cases e200
         replace p200 := eq_true p200
         replace q200 := eq_true q200
         have p201 : 0 ≤ (x13_1 : Int) := of_decide_eq_true (by first | (with_reducible assumption) | assumption)
         have q201 : x13_1 < (l1.length : Int) := of_decide_eq_true (by first | (with_reducible assumption) | assumption)
         obtain ⟨ad201, e201, hx201_0, hx201_1⟩ := at_T111 HR1.out x13_1 p201 q201
         cases e201
         replace p201 := eq_true p201
         replace q201 := eq_true q201
         go_wp2
         repeat (go_quiet (fail); try go_wp2)
         go_ret
         exact ⟨by first | rfl | (simp; done) | (simp [*]; done), by repeat (first | exact Drawn0.refl _ | apply Drawn0.step)⟩
        ·
         rw [if_neg c8] at H
         have c8b0 : (!((((rd_T111 l0 x13_1).f0).toList) == (((rd_T111 l1 x13_1).f0).toList)) || (!(((rd_T111 l0 x13_1).f1) == ((rd_T111 l1 x13_1).f1)))) = false := by simpa using c8
         clear c8
         have H' := Aside0.mk H
         clear H
         have p200 : 0 ≤ (x13_1 : Int) := of_decide_eq_true (by first | (with_reducible assumption) | assumption)
         have q200 : x13_1 < (l0.length : Int) := of_decide_eq_true (by first | (with_reducible assumption) | assumption)
         obtain ⟨ad200, e200, hx200_0, hx200_1⟩ := at_T111 HR0.out x13_1 p200 q200
         cases e200
         replace p200 := eq_true p200
         replace q200 := eq_true q200
         have p201 : 0 ≤ (x13_1 : Int) := of_decide_eq_true (by first | (with_reducible assumption) | assumption)
         have q201 : x13_1 < (l1.length : Int) := of_decide_eq_true (by first | (with_reducible assumption) | assumption)
         obtain ⟨ad201, e201, hx201_0, hx201_1⟩ := at_T111 HR1.out x13_1 p201 q201
         cases e201
         replace p201 := eq_true p201
         replace q201 := eq_true q201
         go_wp2
         repeat (go_quiet (fail); try go_wp2)
         go_roundg k1
         case measure => have := HK1.out; omega
         case rel => exact ⟨(wrap64 (x13_1 + 1)), (by first | rfl | (simp; done) | (simp [*]; done)), H', ⟨by have := HK1.out; omega⟩, by repeat (first | exact Drawn0.refl _ | apply Drawn0.step)⟩
       ·
        rw [if_neg c7] at H
        exact absurd H (by simp)
      ·
       rw [if_neg c6] at H
       exact absurd H (by simp)
     ·
      rw [if_neg c5] at H
      exact absurd H (by simp)
    ·
     rw [if_neg c4] at H
     have c4b0 : decide (x13_1 < (l0.length : Int)) = false := decide_eq_false c4
     clear c4
     obtain rfl := Option.some.inj H
     go_wp2
     repeat (go_quiet (fail); try go_wp2)
     go_ret
     exact ⟨by first | rfl | (simp; done) | (simp [*]; done), by repeat (first | exact Drawn0.refl _ | apply Drawn0.step)⟩
 ·
  rw [if_neg c3] at H
  have c3b0 : ((l0.length : Int) == (l1.length : Int)) = false := beq_eq_false_iff_ne.mpr c3
  have c3b1 : ((l0.length : Int) != (l1.length : Int)) = true := bne_iff_ne.mpr c3
  have c3b2 : (l0.length == l1.length) = false := by first | simpa using c3 | (simp at c3 ⊢; omega)
  obtain rfl := Option.some.inj H
  go_enter Tryz.func129, Tryz.ntmps129
  go_wp2
  repeat (go_quiet (fail); try go_wp2)
  go_ret
  exact ⟨by first | rfl | (simp; done) | (simp [*]; done), by repeat (first | exact Drawn0.refl _ | apply Drawn0.step)⟩

/-! ### book_Sema_130: function 130 -/
def book_Sema_130.l0 : Nat → List (S113) → List (S113) → Int → Int → Option (Bool)
 | 0, _, _, _, _ => none
 | k + 1, x0, x1, x12, x13 => if x13 < x12 then (if 0 ≤ x13 then (if x13 < (x0.length : Int) then (if x13 < (x1.length : Int) then (if (!((((rd_T113 x0 x13).f0).toList) == (((rd_T113 x1 x13).f0).toList)) || (!(((rd_T113 x0 x13).f1) == ((rd_T113 x1 x13).f1)) || (!(((rd_T113 x0 x13).f2) == ((rd_T113 x1 x13).f2)) || (!(((rd_T113 x0 x13).f3) == ((rd_T113 x1 x13).f3)))))) = true then (some false) else (book_Sema_130.l0 k x0 x1 x12 (wrap64 (x13 + 1)))) else (none)) else (none)) else (none)) else (some true)
def book_Sema_130.f (k : Nat) (l0 : List (S113)) (l1 : List (S113)) : Option (Bool) := if (l0.length : Int) = (l1.length : Int) then (book_Sema_130.l0 k l0 l1 (l0.length : Int) 0) else (some false)
theorem book_Sema_130.mono_l : ∀ k, (∀ y0 y1 y2 y3, LeO (book_Sema_130.l0 k y0 y1 y2 y3) (book_Sema_130.l0 (k + 1) y0 y1 y2 y3))
 | 0 => fun _ _ _ _ r h => by simp [book_Sema_130.l0] at h
 | k + 1 => by
  have ih0 := book_Sema_130.mono_l k
  ·
   intro y0 y1 y2 y3
   unfold book_Sema_130.l0
   repeat' first
   | (with_reducible exact ih0 _ _ _ _)
   | (with_reducible exact LeO.refl _)
   | (with_reducible exact LeO.none _)
   | (with_reducible refine LeO.ite ?_ ?_)
   | (with_reducible refine LeO.bind ?_ (fun _ => ?_))
   | exact ih0 _ _ _ _
   | exact LeO.none _
   | refine LeO.ite ?_ ?_
   | refine LeO.bind ?_ (fun _ => ?_)
theorem book_Sema_130.mono : ∀ a0 a1 k, LeO (book_Sema_130.f k a0 a1) (book_Sema_130.f (k + 1) a0 a1) := by
 intro a0 a1 k
 have ih0 := book_Sema_130.mono_l k
 unfold book_Sema_130.f
 repeat' first
   | (with_reducible exact ih0 _ _ _ _)
   | (with_reducible exact LeO.refl _)
   | (with_reducible exact LeO.none _)
   | (with_reducible refine LeO.ite ?_ ?_)
   | (with_reducible refine LeO.bind ?_ (fun _ => ?_))
   | exact ih0 _ _ _ _
   | exact LeO.none _
   | refine LeO.ite ?_ ?_
   | refine LeO.bind ?_ (fun _ => ?_)
set_option maxHeartbeats 8000000 in
set_option maxRecDepth 100000 in
theorem book_Sema_130.calls (k : Nat) (A0 : Option Addr) (c0 : Nat) (l0 : List (S113)) (A1 : Option Addr) (c1 : Nat) (l1 : List (S113)) (r : Bool) (w : World) (hr0 : Kd.C k113 w A0 l0.length l0) (hc0 : l0.length ≤ c0) (hr1 : Kd.C k113 w A1 l1.length l1) (hc1 : l1.length ≤ c1) (h : book_Sema_130.f k l0 l1 = some r) :
  Calls Tryz.prog 130 #[.slice A0 l0.length c0, .slice A1 l1.length c1] w fun e w' => e = .returned (.bool r) ∧ Drawn0 w w' := by
 have hu113 := Tryz.underlying113
 have HR0 := Aside0.mk hr0
 have HC0 := Aside0.mk hc0
 clear hr0 hc0
 have HR1 := Aside0.mk hr1
 have HC1 := Aside0.mk hc1
 clear hr1 hc1
 have H : (if (l0.length : Int) = (l1.length : Int) then (book_Sema_130.l0 k l0 l1 (l0.length : Int) 0) else (some false)) = some r := h
 clear h
 by_cases c3 : (l0.length : Int) = (l1.length : Int)
 ·
  rw [if_pos c3] at H
  have c3b0 : ((l0.length : Int) == (l1.length : Int)) = true := beq_iff_eq.mpr c3
  have c3b1 : ((l0.length : Int) != (l1.length : Int)) = false := bne_eq_false_iff_eq.mpr c3
  have c3b2 : (l0.length == l1.length) = true := by first | simpa using c3 | (simp at c3 ⊢; omega)
  clear c3
  have H' := Aside0.mk H
  clear H
  go_enter Tryz.func130, Tryz.ntmps130
  go_wp2
  repeat (go_quiet (fail); try go_wp2)
  go_loopg [13] k (fun kq v13 w' => ∃ (x13_1 : Int), v13 = .int .i64 x13_1 ∧ Aside0 (book_Sema_130.l0 kq l0 l1 (l0.length : Int) x13_1 = some r) ∧ Aside0 (kq ≤ k) ∧ Drawn0 w w')
  case atStart => exact ⟨(0), (by first | rfl | (simp; done) | (simp [*]; done)), H', ⟨Nat.le_refl _⟩, by repeat (first | exact Drawn0.refl _ | apply Drawn0.step)⟩
  case round =>
   clear H'
   try clear c1
   try clear p2
   try clear c3
   try clear c3b0
   try clear c3b1
   try clear c3b2
   obtain ⟨x13_1, rfl, HA, HK1, ⟨m1, rfl⟩⟩ := hrel
   cases gk with
   | zero => exact absurd HA.out (by simp [book_Sema_130.l0])
   | succ k1 =>
    have H := HA.out
    clear HA
    simp only [book_Sema_130.l0] at H
    by_cases c4 : x13_1 < (l0.length : Int)
    ·
     rw [if_pos c4] at H
     have c4b0 : decide (x13_1 < (l0.length : Int)) = true := decide_eq_true c4
     clear c4
     by_cases c5 : 0 ≤ x13_1
     ·
      rw [if_pos c5] at H
      have c5b0 : decide (0 ≤ x13_1) = true := decide_eq_true c5
      clear c5
      by_cases c6 : x13_1 < (l0.length : Int)
      ·
       rw [if_pos c6] at H
       have c6b0 : decide (x13_1 < (l0.length : Int)) = true := decide_eq_true c6
       clear c6
       by_cases c7 : x13_1 < (l1.length : Int)
       ·
        rw [if_pos c7] at H
        have c7b0 : decide (x13_1 < (l1.length : Int)) = true := decide_eq_true c7
        clear c7
        by_cases c8 : (!((((rd_T113 l0 x13_1).f0).toList) == (((rd_T113 l1 x13_1).f0).toList)) || (!(((rd_T113 l0 x13_1).f1) == ((rd_T113 l1 x13_1).f1)) || (!(((rd_T113 l0 x13_1).f2) == ((rd_T113 l1 x13_1).f2)) || (!(((rd_T113 l0 x13_1).f3) == ((rd_T113 l1 x13_1).f3)))))) = true
        ·
         rw [if_pos c8] at H
         have c8b0 : (!((((rd_T113 l0 x13_1).f0).toList) == (((rd_T113 l1 x13_1).f0).toList)) || (!(((rd_T113 l0 x13_1).f1) == ((rd_T113 l1 x13_1).f1)) || (!(((rd_T113 l0 x13_1).f2) == ((rd_T113 l1 x13_1).f2)) || (!(((rd_T113 l0 x13_1).f3) == ((rd_T113 l1 x13_1).f3)))))) = true := c8
         clear c8
         obtain rfl := Option.some.inj H
         have p202 : 0 ≤ (x13_1 : Int) := of_decide_eq_true (by first | (with_reducible assumption) | assumption)
         have q202 : x13_1 < (l0.length : Int) := of_decide_eq_true (by first | (with_reducible assumption) | assumption)
         obtain ⟨ad202, e202, hx202_0, hx202_1, hx202_2, hx202_3⟩ := at_T113 HR0.out x13_1 p202 q202
         cases e202
         replace p202 := eq_true p202
         replace q202 := eq_true q202
         have p203 : 0 ≤ (x13_1 : Int) := of_decide_eq_true (by first | (with_reducible assumption) | assumption)
         have q203 : x13_1 < (l1.length : Int) := of_decide_eq_true (by first | (with_reducible assumption) | assumption)
         obtain ⟨ad203, e203, hx203_0, hx203_1, hx203_2, hx203_3⟩ := at_T113 HR1.out x13_1 p203 q203
         cases e203
         replace p203 := eq_true p203
         replace q203 := eq_true q203
         go_wp2
         repeat (go_quiet (fail); try go_wp2)
         go_ret
         exact ⟨by first | rfl | (simp; done) | (simp [*]; done), by repeat (first | exact Drawn0.refl _ | apply Drawn0.step)⟩
        ·
         rw [if_neg c8] at H
         have c8b0 : (!((((rd_T113 l0 x13_1).f0).toList) == (((rd_T113 l1 x13_1).f0).toList)) || (!(((rd_T113 l0 x13_1).f1) == ((rd_T113 l1 x13_1).f1)) || (!(((rd_T113 l0 x13_1).f2) == ((rd_T113 l1 x13_1).f2)) || (!(((rd_T113 l0 x13_1).f3) == ((rd_T113 l1 x13_1).f3)))))) = false := by simpa using c8
         clear c8
         have H' := Aside0.mk H
         clear H
         have p202 : 0 ≤ (x13_1 : Int) := of_decide_eq_true (by first | (with_reducible assumption) | assumption)
         have q202 : x13_1 < (l0.length : Int) := of_decide_eq_true (by first | (with_reducible assumption) | assumption)
         obtain ⟨ad202, e202, hx202_0, hx202_1, hx202_2, hx202_3⟩ := at_T113 HR0.out x13_1 p202 q202
         cases e202
         replace p202 := eq_true p202
         replace q202 := eq_true q202
         have p203 : 0 ≤ (x13_1 : Int) := of_decide_eq_true (by first | (with_reducible assumption) | assumption)
         have q203 : x13_1 < (l1.length : Int) := of_decide_eq_true (by first | (with_reducible assumption) | assumption)
         obtain ⟨ad203, e203, hx203_0, hx203_1, hx203_2, hx203_3⟩ := at_T113 HR1.out x13_1 p203 q203
         cases e203
         replace p203 := eq_true p203
         replace q203 := eq_true q203
         go_wp2
         repeat (go_quiet (fail); try go_wp2)
         go_roundg k1
         case measure => have := HK1.out; omega
         case rel => exact ⟨(wrap64 (x13_1 + 1)), (by first | rfl | (simp; done) | (simp [*]; done)), H', ⟨by have := HK1.out; omega⟩, by repeat (first | exact Drawn0.refl _ | apply Drawn0.step)⟩
       ·
        rw [if_neg c7] at H
        exact absurd H (by simp)
      ·
       rw [if_neg c6] at H
       exact absurd H (by simp)
     ·
      rw [if_neg c5] at H
      exact absurd H (by simp)
    ·
     rw [if_neg c4] at H
     have c4b0 : decide (x13_1 < (l0.length : Int)) = false := decide_eq_false c4
     clear c4
     obtain rfl := Option.some.inj H
     go_wp2
     repeat (go_quiet (fail); try go_wp2)
     go_ret
     exact ⟨by first | rfl | (simp; done) | (simp [*]; done), by repeat (first | exact Drawn0.refl _ | apply Drawn0.step)⟩
 ·
  rw [if_neg c3] at H
  have c3b0 : ((l0.length : Int) == (l1.length : Int)) = false := beq_eq_false_iff_ne.mpr c3
  have c3b1 : ((l0.length : Int) != (l1.length : Int)) = true := bne_iff_ne.mpr c3
  have c3b2 : (l0.length == l1.length) = false := by first | simpa using c3 | (simp at c3 ⊢; omega)
  obtain rfl := Option.some.inj H
  go_enter Tryz.func130, Tryz.ntmps130
  go_wp2
  repeat (go_quiet (fail); try go_wp2)
  go_ret
  exact ⟨by first | rfl | (simp; done) | (simp [*]; done), by repeat (first | exact Drawn0.refl _ | apply Drawn0.step)⟩

/-! ### book_Event_131: function 131 -/
def book_Event_131.l0 : Nat → List (S115) → List (S115) → Int → Int → Option (Bool)
 | 0, _, _, _, _ => none
 | k + 1, x0, x1, x12, x13 => if x13 < x12 then (if 0 ≤ x13 then (if x13 < (x0.length : Int) then (if x13 < (x1.length : Int) then (if (!((((rd_T115 x0 x13).f0).toList) == (((rd_T115 x1 x13).f0).toList))) = true then (some false) else (book_Event_131.l0 k x0 x1 x12 (wrap64 (x13 + 1)))) else (none)) else (none)) else (none)) else (some true)
def book_Event_131.f (k : Nat) (l0 : List (S115)) (l1 : List (S115)) : Option (Bool) := if (l0.length : Int) = (l1.length : Int) then (book_Event_131.l0 k l0 l1 (l0.length : Int) 0) else (some false)
theorem book_Event_131.mono_l : ∀ k, (∀ y0 y1 y2 y3, LeO (book_Event_131.l0 k y0 y1 y2 y3) (book_Event_131.l0 (k + 1) y0 y1 y2 y3))
 | 0 => fun _ _ _ _ r h => by simp [book_Event_131.l0] at h
 | k + 1 => by
  have ih0 := book_Event_131.mono_l k
  ·
   intro y0 y1 y2 y3
   unfold book_Event_131.l0
   repeat' first
   | (with_reducible exact ih0 _ _ _ _)
   | (with_reducible exact LeO.refl _)
   | (with_reducible exact LeO.none _)
   | (with_reducible refine LeO.ite ?_ ?_)
   | (with_reducible refine LeO.bind ?_ (fun _ => ?_))
   | exact ih0 _ _ _ _
   | exact LeO.none _
   | refine LeO.ite ?_ ?_
   | refine LeO.bind ?_ (fun _ => ?_)
theorem book_Event_131.mono : ∀ a0 a1 k, LeO (book_Event_131.f k a0 a1) (book_Event_131.f (k + 1) a0 a1) := by
 intro a0 a1 k
 have ih0 := book_Event_131.mono_l k
 unfold book_Event_131.f
 repeat' first
   | (with_reducible exact ih0 _ _ _ _)
   | (with_reducible exact LeO.refl _)
   | (with_reducible exact LeO.none _)
   | (with_reducible refine LeO.ite ?_ ?_)
   | (with_reducible refine LeO.bind ?_ (fun _ => ?_))
   | exact ih0 _ _ _ _
   | exact LeO.none _
   | refine LeO.ite ?_ ?_
   | refine LeO.bind ?_ (fun _ => ?_)
set_option maxHeartbeats 8000000 in
set_option maxRecDepth 100000 in
theorem book_Event_131.calls (k : Nat) (A0 : Option Addr) (c0 : Nat) (l0 : List (S115)) (A1 : Option Addr) (c1 : Nat) (l1 : List (S115)) (r : Bool) (w : World) (hr0 : Kd.C k115 w A0 l0.length l0) (hc0 : l0.length ≤ c0) (hr1 : Kd.C k115 w A1 l1.length l1) (hc1 : l1.length ≤ c1) (h : book_Event_131.f k l0 l1 = some r) :
  Calls Tryz.prog 131 #[.slice A0 l0.length c0, .slice A1 l1.length c1] w fun e w' => e = .returned (.bool r) ∧ Drawn0 w w' := by
 have hu115 := Tryz.underlying115
 have HR0 := Aside0.mk hr0
 have HC0 := Aside0.mk hc0
 clear hr0 hc0
 have HR1 := Aside0.mk hr1
 have HC1 := Aside0.mk hc1
 clear hr1 hc1
 have H : (if (l0.length : Int) = (l1.length : Int) then (book_Event_131.l0 k l0 l1 (l0.length : Int) 0) else (some false)) = some r := h
 clear h
 by_cases c3 : (l0.length : Int) = (l1.length : Int)
 ·
  rw [if_pos c3] at H
  have c3b0 : ((l0.length : Int) == (l1.length : Int)) = true := beq_iff_eq.mpr c3
  have c3b1 : ((l0.length : Int) != (l1.length : Int)) = false := bne_eq_false_iff_eq.mpr c3
  have c3b2 : (l0.length == l1.length) = true := by first | simpa using c3 | (simp at c3 ⊢; omega)
  clear c3
  have H' := Aside0.mk H
  clear H
  go_enter Tryz.func131, Tryz.ntmps131
  go_wp2
  repeat (go_quiet (fail); try go_wp2)
  go_loopg [13] k (fun kq v13 w' => ∃ (x13_1 : Int), v13 = .int .i64 x13_1 ∧ Aside0 (book_Event_131.l0 kq l0 l1 (l0.length : Int) x13_1 = some r) ∧ Aside0 (kq ≤ k) ∧ Drawn0 w w')
  case atStart => exact ⟨(0), (by first | rfl | (simp; done) | (simp [*]; done)), H', ⟨Nat.le_refl _⟩, by repeat (first | exact Drawn0.refl _ | apply Drawn0.step)⟩
  case round =>
   clear H'
   try clear c1
   try clear p2
   try clear c3
   try clear c3b0
   try clear c3b1
   try clear c3b2
   obtain ⟨x13_1, rfl, HA, HK1, ⟨m1, rfl⟩⟩ := hrel
   cases gk with
   | zero => exact absurd HA.out (by simp [book_Event_131.l0])
   | succ k1 =>
    have H := HA.out
    clear HA
    simp only [book_Event_131.l0] at H
    by_cases c4 : x13_1 < (l0.length : Int)
    ·
     rw [if_pos c4] at H
     have c4b0 : decide (x13_1 < (l0.length : Int)) = true := decide_eq_true c4
     clear c4
     by_cases c5 : 0 ≤ x13_1
     ·
      rw [if_pos c5] at H
      have c5b0 : decide (0 ≤ x13_1) = true := decide_eq_true c5
      clear c5
      by_cases c6 : x13_1 < (l0.length : Int)
      ·
       rw [if_pos c6] at H
       have c6b0 : decide (x13_1 < (l0.length : Int)) = true := decide_eq_true c6
       clear c6
       by_cases c7 : x13_1 < (l1.length : Int)
       ·
        rw [if_pos c7] at H
        have c7b0 : decide (x13_1 < (l1.length : Int)) = true := decide_eq_true c7
        clear c7
        by_cases c8 : (!((((rd_T115 l0 x13_1).f0).toList) == (((rd_T115 l1 x13_1).f0).toList))) = true
        ·
         rw [if_pos c8] at H
         have c8b0 : (!((((rd_T115 l0 x13_1).f0).toList) == (((rd_T115 l1 x13_1).f0).toList))) = true := c8
         clear c8
         obtain rfl := Option.some.inj H
         have p204 : 0 ≤ (x13_1 : Int) := of_decide_eq_true (by first | (with_reducible assumption) | assumption)
         have q204 : x13_1 < (l0.length : Int) := of_decide_eq_true (by first | (with_reducible assumption) | assumption)
         obtain ⟨ad204, e204, hx204_0⟩ := at_T115 HR0.out x13_1 p204 q204
         cases e204
         replace p204 := eq_true p204
         replace q204 := eq_true q204
         have p205 : 0 ≤ (x13_1 : Int) := of_decide_eq_true (by first | (with_reducible assumption) | assumption)
         have q205 : x13_1 < (l1.length : Int) := of_decide_eq_true (by first | (with_reducible assumption) | assumption)
         obtain ⟨ad205, e205, hx205_0⟩ := at_T115 HR1.out x13_1 p205 q205
         cases e205
         replace p205 := eq_true p205
         replace q205 := eq_true q205
         go_wp2
         repeat (go_quiet (fail); try go_wp2)
         go_ret
         exact ⟨by first | rfl | (simp; done) | (simp [*]; done), by repeat (first | exact Drawn0.refl _ | apply Drawn0.step)⟩
        ·
         rw [if_neg c8] at H
         have c8b0 : (!((((rd_T115 l0 x13_1).f0).toList) == (((rd_T115 l1 x13_1).f0).toList))) = false := by simpa using c8
         clear c8
         have H' := Aside0.mk H
         clear H
         have p204 : 0 ≤ (x13_1 : Int) := of_decide_eq_true (by first | (with_reducible assumption) | assumption)
         have q204 : x13_1 < (l0.length : Int) := of_decide_eq_true (by first | (with_reducible assumption) | assumption)
         obtain ⟨ad204, e204, hx204_0⟩ := at_T115 HR0.out x13_1 p204 q204
         cases e204
         replace p204 := eq_true p204
         replace q204 := eq_true q204
         have p205 : 0 ≤ (x13_1 : Int) := of_decide_eq_true (by first | (with_reducible assumption) | assumption)
         have q205 : x13_1 < (l1.length : Int) := of_decide_eq_true (by first | (with_reducible assumption) | assumption)
         obtain ⟨ad205, e205, hx205_0⟩ := at_T115 HR1.out x13_1 p205 q205
         cases e205
         replace p205 := eq_true p205
         replace q205 := eq_true q205
         go_wp2
         repeat (go_quiet (fail); try go_wp2)
         go_roundg k1
         case measure => have := HK1.out; omega
         case rel => exact ⟨(wrap64 (x13_1 + 1)), (by first | rfl | (simp; done) | (simp [*]; done)), H', ⟨by have := HK1.out; omega⟩, by repeat (first | exact Drawn0.refl _ | apply Drawn0.step)⟩
       ·
        rw [if_neg c7] at H
        exact absurd H (by simp)
      ·
       rw [if_neg c6] at H
       exact absurd H (by simp)
     ·
      rw [if_neg c5] at H
      exact absurd H (by simp)
    ·
     rw [if_neg c4] at H
     have c4b0 : decide (x13_1 < (l0.length : Int)) = false := decide_eq_false c4
     clear c4
     obtain rfl := Option.some.inj H
     go_wp2
     repeat (go_quiet (fail); try go_wp2)
     go_ret
     exact ⟨by first | rfl | (simp; done) | (simp [*]; done), by repeat (first | exact Drawn0.refl _ | apply Drawn0.step)⟩
 ·
  rw [if_neg c3] at H
  have c3b0 : ((l0.length : Int) == (l1.length : Int)) = false := beq_eq_false_iff_ne.mpr c3
  have c3b1 : ((l0.length : Int) != (l1.length : Int)) = true := bne_iff_ne.mpr c3
  have c3b2 : (l0.length == l1.length) = false := by first | simpa using c3 | (simp at c3 ⊢; omega)
  obtain rfl := Option.some.inj H
  go_enter Tryz.func131, Tryz.ntmps131
  go_wp2
  repeat (go_quiet (fail); try go_wp2)
  go_ret
  exact ⟨by first | rfl | (simp; done) | (simp [*]; done), by repeat (first | exact Drawn0.refl _ | apply Drawn0.step)⟩

/-! ### book_Board_132: function 132 -/
def book_Board_132.l0 : Nat → List (S117) → List (S117) → Int → Int → Option (Bool)
 | 0, _, _, _, _ => none
 | k + 1, x0, x1, x12, x13 => if x13 < x12 then (if 0 ≤ x13 then (if x13 < (x0.length : Int) then (if x13 < (x1.length : Int) then (if (!((((rd_T117 x0 x13).f0).toList) == (((rd_T117 x1 x13).f0).toList)) || (!(((rd_T117 x0 x13).f1) == ((rd_T117 x1 x13).f1)))) = true then (some false) else (book_Board_132.l0 k x0 x1 x12 (wrap64 (x13 + 1)))) else (none)) else (none)) else (none)) else (some true)
def book_Board_132.f (k : Nat) (l0 : List (S117)) (l1 : List (S117)) : Option (Bool) := if (l0.length : Int) = (l1.length : Int) then (book_Board_132.l0 k l0 l1 (l0.length : Int) 0) else (some false)
theorem book_Board_132.mono_l : ∀ k, (∀ y0 y1 y2 y3, LeO (book_Board_132.l0 k y0 y1 y2 y3) (book_Board_132.l0 (k + 1) y0 y1 y2 y3))
 | 0 => fun _ _ _ _ r h => by simp [book_Board_132.l0] at h
 | k + 1 => by
  have ih0 := book_Board_132.mono_l k
  ·
   intro y0 y1 y2 y3
   unfold book_Board_132.l0
   repeat' first
   | (with_reducible exact ih0 _ _ _ _)
   | (with_reducible exact LeO.refl _)
   | (with_reducible exact LeO.none _)
   | (with_reducible refine LeO.ite ?_ ?_)
   | (with_reducible refine LeO.bind ?_ (fun _ => ?_))
   | exact ih0 _ _ _ _
   | exact LeO.none _
   | refine LeO.ite ?_ ?_
   | refine LeO.bind ?_ (fun _ => ?_)
theorem book_Board_132.mono : ∀ a0 a1 k, LeO (book_Board_132.f k a0 a1) (book_Board_132.f (k + 1) a0 a1) := by
 intro a0 a1 k
 have ih0 := book_Board_132.mono_l k
 unfold book_Board_132.f
 repeat' first
   | (with_reducible exact ih0 _ _ _ _)
   | (with_reducible exact LeO.refl _)
   | (with_reducible exact LeO.none _)
   | (with_reducible refine LeO.ite ?_ ?_)
   | (with_reducible refine LeO.bind ?_ (fun _ => ?_))
   | exact ih0 _ _ _ _
   | exact LeO.none _
   | refine LeO.ite ?_ ?_
   | refine LeO.bind ?_ (fun _ => ?_)
set_option maxHeartbeats 8000000 in
set_option maxRecDepth 100000 in
theorem book_Board_132.calls (k : Nat) (A0 : Option Addr) (c0 : Nat) (l0 : List (S117)) (A1 : Option Addr) (c1 : Nat) (l1 : List (S117)) (r : Bool) (w : World) (hr0 : Kd.C k117 w A0 l0.length l0) (hc0 : l0.length ≤ c0) (hr1 : Kd.C k117 w A1 l1.length l1) (hc1 : l1.length ≤ c1) (h : book_Board_132.f k l0 l1 = some r) :
  Calls Tryz.prog 132 #[.slice A0 l0.length c0, .slice A1 l1.length c1] w fun e w' => e = .returned (.bool r) ∧ Drawn0 w w' := by
 have hu117 := Tryz.underlying117
 have HR0 := Aside0.mk hr0
 have HC0 := Aside0.mk hc0
 clear hr0 hc0
 have HR1 := Aside0.mk hr1
 have HC1 := Aside0.mk hc1
 clear hr1 hc1
 have H : (if (l0.length : Int) = (l1.length : Int) then (book_Board_132.l0 k l0 l1 (l0.length : Int) 0) else (some false)) = some r := h
 clear h
 by_cases c3 : (l0.length : Int) = (l1.length : Int)
 ·
  rw [if_pos c3] at H
  have c3b0 : ((l0.length : Int) == (l1.length : Int)) = true := beq_iff_eq.mpr c3
  have c3b1 : ((l0.length : Int) != (l1.length : Int)) = false := bne_eq_false_iff_eq.mpr c3
  have c3b2 : (l0.length == l1.length) = true := by first | simpa using c3 | (simp at c3 ⊢; omega)
  clear c3
  have H' := Aside0.mk H
  clear H
  go_enter Tryz.func132, Tryz.ntmps132
  go_wp2
  repeat (go_quiet (fail); try go_wp2)
  go_loopg [13] k (fun kq v13 w' => ∃ (x13_1 : Int), v13 = .int .i64 x13_1 ∧ Aside0 (book_Board_132.l0 kq l0 l1 (l0.length : Int) x13_1 = some r) ∧ Aside0 (kq ≤ k) ∧ Drawn0 w w')
  case atStart => exact ⟨(0), (by first | rfl | (simp; done) | (simp [*]; done)), H', ⟨Nat.le_refl _⟩, by repeat (first | exact Drawn0.refl _ | apply Drawn0.step)⟩
  case round =>
   clear H'
   try clear c1
   try clear p2
   try clear c3
   try clear c3b0
   try clear c3b1
   try clear c3b2
   obtain ⟨x13_1, rfl, HA, HK1, ⟨m1, rfl⟩⟩ := hrel
   cases gk with
   | zero => exact absurd HA.out (by simp [book_Board_132.l0])
   | succ k1 =>
    have H := HA.out
    clear HA
    simp only [book_Board_132.l0] at H
    by_cases c4 : x13_1 < (l0.length : Int)
    ·
     rw [if_pos c4] at H
     have c4b0 : decide (x13_1 < (l0.length : Int)) = true := decide_eq_true c4
     clear c4
     by_cases c5 : 0 ≤ x13_1
     ·
      rw [if_pos c5] at H
      have c5b0 : decide (0 ≤ x13_1) = true := decide_eq_true c5
      clear c5
      by_cases c6 : x13_1 < (l0.length : Int)
      ·
       rw [if_pos c6] at H
       have c6b0 : decide (x13_1 < (l0.length : Int)) = true := decide_eq_true c6
       clear c6
       by_cases c7 : x13_1 < (l1.length : Int)
       ·
        rw [if_pos c7] at H
        have c7b0 : decide (x13_1 < (l1.length : Int)) = true := decide_eq_true c7
        clear c7
        by_cases c8 : (!((((rd_T117 l0 x13_1).f0).toList) == (((rd_T117 l1 x13_1).f0).toList)) || (!(((rd_T117 l0 x13_1).f1) == ((rd_T117 l1 x13_1).f1)))) = true
        ·
         rw [if_pos c8] at H
         have c8b0 : (!((((rd_T117 l0 x13_1).f0).toList) == (((rd_T117 l1 x13_1).f0).toList)) || (!(((rd_T117 l0 x13_1).f1) == ((rd_T117 l1 x13_1).f1)))) = true := c8
         clear c8
         obtain rfl := Option.some.inj H
         have p206 : 0 ≤ (x13_1 : Int) := of_decide_eq_true (by first | (with_reducible assumption) | assumption)
         have q206 : x13_1 < (l0.length : Int) := of_decide_eq_true (by first | (with_reducible assumption) | assumption)
         obtain ⟨ad206, e206, hx206_0, hx206_1⟩ := at_T117 HR0.out x13_1 p206 q206
         cases e206
         replace p206 := eq_true p206
         replace q206 := eq_true q206
         have p207 : 0 ≤ (x13_1 : Int) := of_decide_eq_true (by first | (with_reducible assumption) | assumption)
         have q207 : x13_1 < (l1.length : Int) := of_decide_eq_true (by first | (with_reducible assumption) | assumption)
         obtain ⟨ad207, e207, hx207_0, hx207_1⟩ := at_T117 HR1.out x13_1 p207 q207
         cases e207
         replace p207 := eq_true p207
         replace q207 := eq_true q207
         go_wp2
         repeat (go_quiet (fail); try go_wp2)
         go_ret
         exact ⟨by first | rfl | (simp; done) | (simp [*]; done), by repeat (first | exact Drawn0.refl _ | apply Drawn0.step)⟩
        ·
         rw [if_neg c8] at H
         have c8b0 : (!((((rd_T117 l0 x13_1).f0).toList) == (((rd_T117 l1 x13_1).f0).toList)) || (!(((rd_T117 l0 x13_1).f1) == ((rd_T117 l1 x13_1).f1)))) = false := by simpa using c8
         clear c8
         have H' := Aside0.mk H
         clear H
         have p206 : 0 ≤ (x13_1 : Int) := of_decide_eq_true (by first | (with_reducible assumption) | assumption)
         have q206 : x13_1 < (l0.length : Int) := of_decide_eq_true (by first | (with_reducible assumption) | assumption)
         obtain ⟨ad206, e206, hx206_0, hx206_1⟩ := at_T117 HR0.out x13_1 p206 q206
         cases e206
         replace p206 := eq_true p206
         replace q206 := eq_true q206
         have p207 : 0 ≤ (x13_1 : Int) := of_decide_eq_true (by first | (with_reducible assumption) | assumption)
         have q207 : x13_1 < (l1.length : Int) := of_decide_eq_true (by first | (with_reducible assumption) | assumption)
         obtain ⟨ad207, e207, hx207_0, hx207_1⟩ := at_T117 HR1.out x13_1 p207 q207
         cases e207
         replace p207 := eq_true p207
         replace q207 := eq_true q207
         go_wp2
         repeat (go_quiet (fail); try go_wp2)
         go_roundg k1
         case measure => have := HK1.out; omega
         case rel => exact ⟨(wrap64 (x13_1 + 1)), (by first | rfl | (simp; done) | (simp [*]; done)), H', ⟨by have := HK1.out; omega⟩, by repeat (first | exact Drawn0.refl _ | apply Drawn0.step)⟩
       ·
        rw [if_neg c7] at H
        exact absurd H (by simp)
      ·
       rw [if_neg c6] at H
       exact absurd H (by simp)
     ·
      rw [if_neg c5] at H
      exact absurd H (by simp)
    ·
     rw [if_neg c4] at H
     have c4b0 : decide (x13_1 < (l0.length : Int)) = false := decide_eq_false c4
     clear c4
     obtain rfl := Option.some.inj H
     go_wp2
     repeat (go_quiet (fail); try go_wp2)
     go_ret
     exact ⟨by first | rfl | (simp; done) | (simp [*]; done), by repeat (first | exact Drawn0.refl _ | apply Drawn0.step)⟩
 ·
  rw [if_neg c3] at H
  have c3b0 : ((l0.length : Int) == (l1.length : Int)) = false := beq_eq_false_iff_ne.mpr c3
  have c3b1 : ((l0.length : Int) != (l1.length : Int)) = true := bne_iff_ne.mpr c3
  have c3b2 : (l0.length == l1.length) = false := by first | simpa using c3 | (simp at c3 ⊢; omega)
  obtain rfl := Option.some.inj H
  go_enter Tryz.func132, Tryz.ntmps132
  go_wp2
  repeat (go_quiet (fail); try go_wp2)
  go_ret
  exact ⟨by first | rfl | (simp; done) | (simp [*]; done), by repeat (first | exact Drawn0.refl _ | apply Drawn0.step)⟩

/-! ### book_Buffer_133: function 133 -/
def book_Buffer_133.l0 : Nat → List (S119) → List (S119) → Int → Int → Option (Bool)
 | 0, _, _, _, _ => none
 | k + 1, x0, x1, x12, x13 => if x13 < x12 then (if 0 ≤ x13 then (if x13 < (x0.length : Int) then (if x13 < (x1.length : Int) then (if (!((((rd_T119 x0 x13).f0).toList) == (((rd_T119 x1 x13).f0).toList)) || (!(((rd_T119 x0 x13).f1) == ((rd_T119 x1 x13).f1)) || (!(((rd_T119 x0 x13).f2) == ((rd_T119 x1 x13).f2)) || (!(((rd_T119 x0 x13).f3) == ((rd_T119 x1 x13).f3)))))) = true then (some false) else (book_Buffer_133.l0 k x0 x1 x12 (wrap64 (x13 + 1)))) else (none)) else (none)) else (none)) else (some true)
def book_Buffer_133.f (k : Nat) (l0 : List (S119)) (l1 : List (S119)) : Option (Bool) := if (l0.length : Int) = (l1.length : Int) then (book_Buffer_133.l0 k l0 l1 (l0.length : Int) 0) else (some false)
theorem book_Buffer_133.mono_l : ∀ k, (∀ y0 y1 y2 y3, LeO (book_Buffer_133.l0 k y0 y1 y2 y3) (book_Buffer_133.l0 (k + 1) y0 y1 y2 y3))
 | 0 => fun _ _ _ _ r h => by simp [book_Buffer_133.l0] at h
 | k + 1 => by
  have ih0 := book_Buffer_133.mono_l k
  ·
   intro y0 y1 y2 y3
   unfold book_Buffer_133.l0
   repeat' first
   | (with_reducible exact ih0 _ _ _ _)
   | (with_reducible exact LeO.refl _)
   | (with_reducible exact LeO.none _)
   | (with_reducible refine LeO.ite ?_ ?_)
   | (with_reducible refine LeO.bind ?_ (fun _ => ?_))
   | exact ih0 _ _ _ _
   | exact LeO.none _
   | refine LeO.ite ?_ ?_
   | refine LeO.bind ?_ (fun _ => ?_)
theorem book_Buffer_133.mono : ∀ a0 a1 k, LeO (book_Buffer_133.f k a0 a1) (book_Buffer_133.f (k + 1) a0 a1) := by
 intro a0 a1 k
 have ih0 := book_Buffer_133.mono_l k
 unfold book_Buffer_133.f
 repeat' first
   | (with_reducible exact ih0 _ _ _ _)
   | (with_reducible exact LeO.refl _)
   | (with_reducible exact LeO.none _)
   | (with_reducible refine LeO.ite ?_ ?_)
   | (with_reducible refine LeO.bind ?_ (fun _ => ?_))
   | exact ih0 _ _ _ _
   | exact LeO.none _
   | refine LeO.ite ?_ ?_
   | refine LeO.bind ?_ (fun _ => ?_)
set_option maxHeartbeats 8000000 in
set_option maxRecDepth 100000 in
theorem book_Buffer_133.calls (k : Nat) (A0 : Option Addr) (c0 : Nat) (l0 : List (S119)) (A1 : Option Addr) (c1 : Nat) (l1 : List (S119)) (r : Bool) (w : World) (hr0 : Kd.C k119 w A0 l0.length l0) (hc0 : l0.length ≤ c0) (hr1 : Kd.C k119 w A1 l1.length l1) (hc1 : l1.length ≤ c1) (h : book_Buffer_133.f k l0 l1 = some r) :
  Calls Tryz.prog 133 #[.slice A0 l0.length c0, .slice A1 l1.length c1] w fun e w' => e = .returned (.bool r) ∧ Drawn0 w w' := by
 have hu119 := Tryz.underlying119
 have HR0 := Aside0.mk hr0
 have HC0 := Aside0.mk hc0
 clear hr0 hc0
 have HR1 := Aside0.mk hr1
 have HC1 := Aside0.mk hc1
 clear hr1 hc1
 have H : (if (l0.length : Int) = (l1.length : Int) then (book_Buffer_133.l0 k l0 l1 (l0.length : Int) 0) else (some false)) = some r := h
 clear h
 by_cases c3 : (l0.length : Int) = (l1.length : Int)
 ·
  rw [if_pos c3] at H
  have c3b0 : ((l0.length : Int) == (l1.length : Int)) = true := beq_iff_eq.mpr c3
  have c3b1 : ((l0.length : Int) != (l1.length : Int)) = false := bne_eq_false_iff_eq.mpr c3
  have c3b2 : (l0.length == l1.length) = true := by first | simpa using c3 | (simp at c3 ⊢; omega)
  clear c3
  have H' := Aside0.mk H
  clear H
  go_enter Tryz.func133, Tryz.ntmps133
  go_wp2
  repeat (go_quiet (fail); try go_wp2)
  go_loopg [13] k (fun kq v13 w' => ∃ (x13_1 : Int), v13 = .int .i64 x13_1 ∧ Aside0 (book_Buffer_133.l0 kq l0 l1 (l0.length : Int) x13_1 = some r) ∧ Aside0 (kq ≤ k) ∧ Drawn0 w w')
  case atStart => exact ⟨(0), (by first | rfl | (simp; done) | (simp [*]; done)), H', ⟨Nat.le_refl _⟩, by repeat (first | exact Drawn0.refl _ | apply Drawn0.step)⟩
  case round =>
   clear H'
   try clear c1
   try clear p2
   try clear c3
   try clear c3b0
   try clear c3b1
   try clear c3b2
   obtain ⟨x13_1, rfl, HA, HK1, ⟨m1, rfl⟩⟩ := hrel
   cases gk with
   | zero => exact absurd HA.out (by simp [book_Buffer_133.l0])
   | succ k1 =>
    have H := HA.out
    clear HA
    simp only [book_Buffer_133.l0] at H
    by_cases c4 : x13_1 < (l0.length : Int)
    ·
     rw [if_pos c4] at H
     have c4b0 : decide (x13_1 < (l0.length : Int)) = true := decide_eq_true c4
     clear c4
     by_cases c5 : 0 ≤ x13_1
     ·
      rw [if_pos c5] at H
      have c5b0 : decide (0 ≤ x13_1) = true := decide_eq_true c5
      clear c5
      by_cases c6 : x13_1 < (l0.length : Int)
      ·
       rw [if_pos c6] at H
       have c6b0 : decide (x13_1 < (l0.length : Int)) = true := decide_eq_true c6
       clear c6
       by_cases c7 : x13_1 < (l1.length : Int)
       ·
        rw [if_pos c7] at H
        have c7b0 : decide (x13_1 < (l1.length : Int)) = true := decide_eq_true c7
        clear c7
        by_cases c8 : (!((((rd_T119 l0 x13_1).f0).toList) == (((rd_T119 l1 x13_1).f0).toList)) || (!(((rd_T119 l0 x13_1).f1) == ((rd_T119 l1 x13_1).f1)) || (!(((rd_T119 l0 x13_1).f2) == ((rd_T119 l1 x13_1).f2)) || (!(((rd_T119 l0 x13_1).f3) == ((rd_T119 l1 x13_1).f3)))))) = true
        ·
         rw [if_pos c8] at H
         have c8b0 : (!((((rd_T119 l0 x13_1).f0).toList) == (((rd_T119 l1 x13_1).f0).toList)) || (!(((rd_T119 l0 x13_1).f1) == ((rd_T119 l1 x13_1).f1)) || (!(((rd_T119 l0 x13_1).f2) == ((rd_T119 l1 x13_1).f2)) || (!(((rd_T119 l0 x13_1).f3) == ((rd_T119 l1 x13_1).f3)))))) = true := c8
         clear c8
         obtain rfl := Option.some.inj H
         have p208 : 0 ≤ (x13_1 : Int) := of_decide_eq_true (by first | (with_reducible assumption) | assumption)
         have q208 : x13_1 < (l0.length : Int) := of_decide_eq_true (by first | (with_reducible assumption) | assumption)
         obtain ⟨ad208, e208, hx208_0, hx208_1, hx208_2, hx208_3⟩ := at_T119 HR0.out x13_1 p208 q208
         cases e208
         replace p208 := eq_true p208
         replace q208 := eq_true q208
         have p209 : 0 ≤ (x13_1 : Int) := of_decide_eq_true (by first | (with_reducible assumption) | assumption)
         have q209 : x13_1 < (l1.length : Int) := of_decide_eq_true (by first | (with_reducible assumption) | assumption)
         obtain ⟨ad209, e209, hx209_0, hx209_1, hx209_2, hx209_3⟩ := at_T119 HR1.out x13_1 p209 q209
         cases e209
         replace p209 := eq_true p209
         replace q209 := eq_true q209
         go_wp2
         repeat (go_quiet (fail); try go_wp2)
         go_ret
         exact ⟨by first | rfl | (simp; done) | (simp [*]; done), by repeat (first | exact Drawn0.refl _ | apply Drawn0.step)⟩
        ·
         rw [if_neg c8] at H
         have c8b0 : (!((((rd_T119 l0 x13_1).f0).toList) == (((rd_T119 l1 x13_1).f0).toList)) || (!(((rd_T119 l0 x13_1).f1) == ((rd_T119 l1 x13_1).f1)) || (!(((rd_T119 l0 x13_1).f2) == ((rd_T119 l1 x13_1).f2)) || (!(((rd_T119 l0 x13_1).f3) == ((rd_T119 l1 x13_1).f3)))))) = false := by simpa using c8
         clear c8
         have H' := Aside0.mk H
         clear H
         have p208 : 0 ≤ (x13_1 : Int) := of_decide_eq_true (by first | (with_reducible assumption) | assumption)
         have q208 : x13_1 < (l0.length : Int) := of_decide_eq_true (by first | (with_reducible assumption) | assumption)
         obtain ⟨ad208, e208, hx208_0, hx208_1, hx208_2, hx208_3⟩ := at_T119 HR0.out x13_1 p208 q208
         cases e208
         replace p208 := eq_true p208
         replace q208 := eq_true q208
         have p209 : 0 ≤ (x13_1 : Int) := of_decide_eq_true (by first | (with_reducible assumption) | assumption)
         have q209 : x13_1 < (l1.length : Int) := of_decide_eq_true (by first | (with_reducible assumption) | assumption)
         obtain ⟨ad209, e209, hx209_0, hx209_1, hx209_2, hx209_3⟩ := at_T119 HR1.out x13_1 p209 q209
         cases e209
         replace p209 := eq_true p209
         replace q209 := eq_true q209
         go_wp2
         repeat (go_quiet (fail); try go_wp2)
         go_roundg k1
         case measure => have := HK1.out; omega
         case rel => exact ⟨(wrap64 (x13_1 + 1)), (by first | rfl | (simp; done) | (simp [*]; done)), H', ⟨by have := HK1.out; omega⟩, by repeat (first | exact Drawn0.refl _ | apply Drawn0.step)⟩
       ·
        rw [if_neg c7] at H
        exact absurd H (by simp)
      ·
       rw [if_neg c6] at H
       exact absurd H (by simp)
     ·
      rw [if_neg c5] at H
      exact absurd H (by simp)
    ·
     rw [if_neg c4] at H
     have c4b0 : decide (x13_1 < (l0.length : Int)) = false := decide_eq_false c4
     clear c4
     obtain rfl := Option.some.inj H
     go_wp2
     repeat (go_quiet (fail); try go_wp2)
     go_ret
     exact ⟨by first | rfl | (simp; done) | (simp [*]; done), by repeat (first | exact Drawn0.refl _ | apply Drawn0.step)⟩
 ·
  rw [if_neg c3] at H
  have c3b0 : ((l0.length : Int) == (l1.length : Int)) = false := beq_eq_false_iff_ne.mpr c3
  have c3b1 : ((l0.length : Int) != (l1.length : Int)) = true := bne_iff_ne.mpr c3
  have c3b2 : (l0.length == l1.length) = false := by first | simpa using c3 | (simp at c3 ⊢; omega)
  obtain rfl := Option.some.inj H
  go_enter Tryz.func133, Tryz.ntmps133
  go_wp2
  repeat (go_quiet (fail); try go_wp2)
  go_ret
  exact ⟨by first | rfl | (simp; done) | (simp [*]; done), by repeat (first | exact Drawn0.refl _ | apply Drawn0.step)⟩

/-! ### book_Port_134: function 134 -/
def book_Port_134.l0 : Nat → List (S60) → List (S60) → Int → Int → Option (Bool)
 | 0, _, _, _, _ => none
 | k + 1, x0, x1, x12, x13 => if x13 < x12 then (if 0 ≤ x13 then (if x13 < (x0.length : Int) then (if x13 < (x1.length : Int) then (if (!((((rd_T60 x0 x13).f0).toList) == (((rd_T60 x1 x13).f0).toList)) || (!(((rd_T60 x0 x13).f1) == ((rd_T60 x1 x13).f1)) || (!(((rd_T60 x0 x13).f2) == ((rd_T60 x1 x13).f2)) || (!(((rd_T60 x0 x13).f3) == ((rd_T60 x1 x13).f3)) || (!(((rd_T60 x0 x13).f4) == ((rd_T60 x1 x13).f4)) || (!(((rd_T60 x0 x13).f5) == ((rd_T60 x1 x13).f5)))))))) = true then (some false) else (book_Port_134.l0 k x0 x1 x12 (wrap64 (x13 + 1)))) else (none)) else (none)) else (none)) else (some true)
def book_Port_134.f (k : Nat) (l0 : List (S60)) (l1 : List (S60)) : Option (Bool) := if (l0.length : Int) = (l1.length : Int) then (book_Port_134.l0 k l0 l1 (l0.length : Int) 0) else (some false)
theorem book_Port_134.mono_l : ∀ k, (∀ y0 y1 y2 y3, LeO (book_Port_134.l0 k y0 y1 y2 y3) (book_Port_134.l0 (k + 1) y0 y1 y2 y3))
 | 0 => fun _ _ _ _ r h => by simp [book_Port_134.l0] at h
 | k + 1 => by
  have ih0 := book_Port_134.mono_l k
  ·
   intro y0 y1 y2 y3
   unfold book_Port_134.l0
   repeat' first
   | (with_reducible exact ih0 _ _ _ _)
   | (with_reducible exact LeO.refl _)
   | (with_reducible exact LeO.none _)
   | (with_reducible refine LeO.ite ?_ ?_)
   | (with_reducible refine LeO.bind ?_ (fun _ => ?_))
   | exact ih0 _ _ _ _
   | exact LeO.none _
   | refine LeO.ite ?_ ?_
   | refine LeO.bind ?_ (fun _ => ?_)
theorem book_Port_134.mono : ∀ a0 a1 k, LeO (book_Port_134.f k a0 a1) (book_Port_134.f (k + 1) a0 a1) := by
 intro a0 a1 k
 have ih0 := book_Port_134.mono_l k
 unfold book_Port_134.f
 repeat' first
   | (with_reducible exact ih0 _ _ _ _)
   | (with_reducible exact LeO.refl _)
   | (with_reducible exact LeO.none _)
   | (with_reducible refine LeO.ite ?_ ?_)
   | (with_reducible refine LeO.bind ?_ (fun _ => ?_))
   | exact ih0 _ _ _ _
   | exact LeO.none _
   | refine LeO.ite ?_ ?_
   | refine LeO.bind ?_ (fun _ => ?_)
set_option maxHeartbeats 8000000 in
set_option maxRecDepth 100000 in
theorem book_Port_134.calls (k : Nat) (A0 : Option Addr) (c0 : Nat) (l0 : List (S60)) (A1 : Option Addr) (c1 : Nat) (l1 : List (S60)) (r : Bool) (w : World) (hr0 : Kd.C k60 w A0 l0.length l0) (hc0 : l0.length ≤ c0) (hr1 : Kd.C k60 w A1 l1.length l1) (hc1 : l1.length ≤ c1) (h : book_Port_134.f k l0 l1 = some r) :
  Calls Tryz.prog 134 #[.slice A0 l0.length c0, .slice A1 l1.length c1] w fun e w' => e = .returned (.bool r) ∧ Drawn0 w w' := by
 have hu60 := Tryz.underlying60
 have HR0 := Aside0.mk hr0
 have HC0 := Aside0.mk hc0
 clear hr0 hc0
 have HR1 := Aside0.mk hr1
 have HC1 := Aside0.mk hc1
 clear hr1 hc1
 have H : (if (l0.length : Int) = (l1.length : Int) then (book_Port_134.l0 k l0 l1 (l0.length : Int) 0) else (some false)) = some r := h
 clear h
 by_cases c3 : (l0.length : Int) = (l1.length : Int)
 ·
  rw [if_pos c3] at H
  have c3b0 : ((l0.length : Int) == (l1.length : Int)) = true := beq_iff_eq.mpr c3
  have c3b1 : ((l0.length : Int) != (l1.length : Int)) = false := bne_eq_false_iff_eq.mpr c3
  have c3b2 : (l0.length == l1.length) = true := by first | simpa using c3 | (simp at c3 ⊢; omega)
  clear c3
  have H' := Aside0.mk H
  clear H
  go_enter Tryz.func134, Tryz.ntmps134
  go_wp2
  repeat (go_quiet (fail); try go_wp2)
  go_loopg [13] k (fun kq v13 w' => ∃ (x13_1 : Int), v13 = .int .i64 x13_1 ∧ Aside0 (book_Port_134.l0 kq l0 l1 (l0.length : Int) x13_1 = some r) ∧ Aside0 (kq ≤ k) ∧ Drawn0 w w')
  case atStart => exact ⟨(0), (by first | rfl | (simp; done) | (simp [*]; done)), H', ⟨Nat.le_refl _⟩, by repeat (first | exact Drawn0.refl _ | apply Drawn0.step)⟩
  case round =>
   clear H'
   try clear c1
   try clear p2
   try clear c3
   try clear c3b0
   try clear c3b1
   try clear c3b2
   obtain ⟨x13_1, rfl, HA, HK1, ⟨m1, rfl⟩⟩ := hrel
   cases gk with
   | zero => exact absurd HA.out (by simp [book_Port_134.l0])
   | succ k1 =>
    have H := HA.out
    clear HA
    simp only [book_Port_134.l0] at H
    by_cases c4 : x13_1 < (l0.length : Int)
    ·
     rw [if_pos c4] at H
     have c4b0 : decide (x13_1 < (l0.length : Int)) = true := decide_eq_true c4
     clear c4
     by_cases c5 : 0 ≤ x13_1
     ·
      rw [if_pos c5] at H
      have c5b0 : decide (0 ≤ x13_1) = true := decide_eq_true c5
      clear c5
      by_cases c6 : x13_1 < (l0.length : Int)
      ·
       rw [if_pos c6] at H
       have c6b0 : decide (x13_1 < (l0.length : Int)) = true := decide_eq_true c6
       clear c6
       by_cases c7 : x13_1 < (l1.length : Int)
       ·
        rw [if_pos c7] at H
        have c7b0 : decide (x13_1 < (l1.length : Int)) = true := decide_eq_true c7
        clear c7
        by_cases c8 : (!((((rd_T60 l0 x13_1).f0).toList) == (((rd_T60 l1 x13_1).f0).toList)) || (!(((rd_T60 l0 x13_1).f1) == ((rd_T60 l1 x13_1).f1)) || (!(((rd_T60 l0 x13_1).f2) == ((rd_T60 l1 x13_1).f2)) || (!(((rd_T60 l0 x13_1).f3) == ((rd_T60 l1 x13_1).f3)) || (!(((rd_T60 l0 x13_1).f4) == ((rd_T60 l1 x13_1).f4)) || (!(((rd_T60 l0 x13_1).f5) == ((rd_T60 l1 x13_1).f5)))))))) = true
        ·
         rw [if_pos c8] at H
         have c8b0 : (!((((rd_T60 l0 x13_1).f0).toList) == (((rd_T60 l1 x13_1).f0).toList)) || (!(((rd_T60 l0 x13_1).f1) == ((rd_T60 l1 x13_1).f1)) || (!(((rd_T60 l0 x13_1).f2) == ((rd_T60 l1 x13_1).f2)) || (!(((rd_T60 l0 x13_1).f3) == ((rd_T60 l1 x13_1).f3)) || (!(((rd_T60 l0 x13_1).f4) == ((rd_T60 l1 x13_1).f4)) || (!(((rd_T60 l0 x13_1).f5) == ((rd_T60 l1 x13_1).f5)))))))) = true := c8
         clear c8
         obtain rfl := Option.some.inj H
         have p210 : 0 ≤ (x13_1 : Int) := of_decide_eq_true (by first | (with_reducible assumption) | assumption)
         have q210 : x13_1 < (l0.length : Int) := of_decide_eq_true (by first | (with_reducible assumption) | assumption)
         obtain ⟨ad210, e210, hx210_0, hx210_1, hx210_2, hx210_3, hx210_4, hx210_5⟩ := at_T60 HR0.out x13_1 p210 q210
         cases e210
         replace p210 := eq_true p210
         replace q210 := eq_true q210
         have p211 : 0 ≤ (x13_1 : Int) := of_decide_eq_true (by first | (with_reducible assumption) | assumption)
         have q211 : x13_1 < (l1.length : Int) := of_decide_eq_true (by first | (with_reducible assumption) | assumption)
         obtain ⟨ad211, e211, hx211_0, hx211_1, hx211_2, hx211_3, hx211_4, hx211_5⟩ := at_T60 HR1.out x13_1 p211 q211
         cases e211
         replace p211 := eq_true p211
         replace q211 := eq_true q211
         go_wp2
         repeat (go_quiet (fail); try go_wp2)
         go_ret
         exact ⟨by first | rfl | (simp; done) | (simp [*]; done), by repeat (first | exact Drawn0.refl _ | apply Drawn0.step)⟩
        ·
         rw [if_neg c8] at H
         have c8b0 : (!((((rd_T60 l0 x13_1).f0).toList) == (((rd_T60 l1 x13_1).f0).toList)) || (!(((rd_T60 l0 x13_1).f1) == ((rd_T60 l1 x13_1).f1)) || (!(((rd_T60 l0 x13_1).f2) == ((rd_T60 l1 x13_1).f2)) || (!(((rd_T60 l0 x13_1).f3) == ((rd_T60 l1 x13_1).f3)) || (!(((rd_T60 l0 x13_1).f4) == ((rd_T60 l1 x13_1).f4)) || (!(((rd_T60 l0 x13_1).f5) == ((rd_T60 l1 x13_1).f5)))))))) = false := by simpa using c8
         clear c8
         have H' := Aside0.mk H
         clear H
         have p210 : 0 ≤ (x13_1 : Int) := of_decide_eq_true (by first | (with_reducible assumption) | assumption)
         have q210 : x13_1 < (l0.length : Int) := of_decide_eq_true (by first | (with_reducible assumption) | assumption)
         obtain ⟨ad210, e210, hx210_0, hx210_1, hx210_2, hx210_3, hx210_4, hx210_5⟩ := at_T60 HR0.out x13_1 p210 q210
         cases e210
         replace p210 := eq_true p210
         replace q210 := eq_true q210
         have p211 : 0 ≤ (x13_1 : Int) := of_decide_eq_true (by first | (with_reducible assumption) | assumption)
         have q211 : x13_1 < (l1.length : Int) := of_decide_eq_true (by first | (with_reducible assumption) | assumption)
         obtain ⟨ad211, e211, hx211_0, hx211_1, hx211_2, hx211_3, hx211_4, hx211_5⟩ := at_T60 HR1.out x13_1 p211 q211
         cases e211
         replace p211 := eq_true p211
         replace q211 := eq_true q211
         go_wp2
         repeat (go_quiet (fail); try go_wp2)
         go_roundg k1
         case measure => have := HK1.out; omega
         case rel => exact ⟨(wrap64 (x13_1 + 1)), (by first | rfl | (simp; done) | (simp [*]; done)), H', ⟨by have := HK1.out; omega⟩, by repeat (first | exact Drawn0.refl _ | apply Drawn0.step)⟩
       ·
        rw [if_neg c7] at H
        exact absurd H (by simp)
      ·
       rw [if_neg c6] at H
       exact absurd H (by simp)
     ·
      rw [if_neg c5] at H
      exact absurd H (by simp)
    ·
     rw [if_neg c4] at H
     have c4b0 : decide (x13_1 < (l0.length : Int)) = false := decide_eq_false c4
     clear c4
     obtain rfl := Option.some.inj H
     go_wp2
     repeat (go_quiet (fail); try go_wp2)
     go_ret
     exact ⟨by first | rfl | (simp; done) | (simp [*]; done), by repeat (first | exact Drawn0.refl _ | apply Drawn0.step)⟩
 ·
  rw [if_neg c3] at H
  have c3b0 : ((l0.length : Int) == (l1.length : Int)) = false := beq_eq_false_iff_ne.mpr c3
  have c3b1 : ((l0.length : Int) != (l1.length : Int)) = true := bne_iff_ne.mpr c3
  have c3b2 : (l0.length == l1.length) = false := by first | simpa using c3 | (simp at c3 ⊢; omega)
  obtain rfl := Option.some.inj H
  go_enter Tryz.func134, Tryz.ntmps134
  go_wp2
  repeat (go_quiet (fail); try go_wp2)
  go_ret
  exact ⟨by first | rfl | (simp; done) | (simp [*]; done), by repeat (first | exact Drawn0.refl _ | apply Drawn0.step)⟩

/-! ### book_Partition_same: function 49 -/
def book_Partition_same.f (k : Nat) (a0_0 : ByteArray) (l0_1 : List (S62)) (l0_2 : List (S109)) (l0_3 : List (S111)) (l0_4 : List (S113)) (l0_5 : List (S115)) (l0_6 : List (S117)) (l0_7 : List (S119)) (l0_8 : List (S60)) (l0_9 : List (S64)) (a0_10 : Int) (a0_11 : Int) (a0_12 : Int) (a1_0 : ByteArray) (l1_1 : List (S62)) (l1_2 : List (S109)) (l1_3 : List (S111)) (l1_4 : List (S113)) (l1_5 : List (S115)) (l1_6 : List (S117)) (l1_7 : List (S119)) (l1_8 : List (S60)) (l1_9 : List (S64)) (a1_10 : Int) (a1_11 : Int) (a1_12 : Int) : Option (Bool) := if a0_0.toList = a1_0.toList then ((book_Area_127.f k l0_1 l1_1).bind fun t214 => (if t214 = true then ((book_Task_128.f k l0_2 l1_2).bind fun t215 => (if t215 = true then ((book_Lock_129.f k l0_3 l1_3).bind fun t216 => (if t216 = true then ((book_Sema_130.f k l0_4 l1_4).bind fun t217 => (if t217 = true then ((book_Event_131.f k l0_5 l1_5).bind fun t218 => (if t218 = true then ((book_Board_132.f k l0_6 l1_6).bind fun t219 => (if t219 = true then ((book_Buffer_133.f k l0_7 l1_7).bind fun t220 => (if t220 = true then ((book_Port_134.f k l0_8 l1_8).bind fun t221 => (if t221 = true then ((book_Rule_57.f k l0_9 l1_9).bind fun t222 => (if t222 = true then (if a0_10 = a1_10 then (some (a0_11 == a1_11 && (a0_12 == a1_12))) else (some false)) else (some false))) else (some false))) else (some false))) else (some false))) else (some false))) else (some false))) else (some false))) else (some false))) else (some false))) else (some false)
theorem book_Partition_same.mono : ∀ a0 a1 a2 a3 a4 a5 a6 a7 a8 a9 a10 a11 a12 a13 a14 a15 a16 a17 a18 a19 a20 a21 a22 a23 a24 a25 k, LeO (book_Partition_same.f k a0 a1 a2 a3 a4 a5 a6 a7 a8 a9 a10 a11 a12 a13 a14 a15 a16 a17 a18 a19 a20 a21 a22 a23 a24 a25) (book_Partition_same.f (k + 1) a0 a1 a2 a3 a4 a5 a6 a7 a8 a9 a10 a11 a12 a13 a14 a15 a16 a17 a18 a19 a20 a21 a22 a23 a24 a25) := by
  intro a0 a1 a2 a3 a4 a5 a6 a7 a8 a9 a10 a11 a12 a13 a14 a15 a16 a17 a18 a19 a20 a21 a22 a23 a24 a25 k
  unfold book_Partition_same.f
  repeat' first
      | (with_reducible exact book_Area_127.mono _ _ _)
      | (with_reducible exact book_Board_132.mono _ _ _)
      | (with_reducible exact book_Buffer_133.mono _ _ _)
      | (with_reducible exact book_Event_131.mono _ _ _)
      | (with_reducible exact book_Lock_129.mono _ _ _)
      | (with_reducible exact book_Port_134.mono _ _ _)
      | (with_reducible exact book_Rule_57.mono _ _ _)
      | (with_reducible exact book_Sema_130.mono _ _ _)
      | (with_reducible exact book_Task_128.mono _ _ _)
      | (with_reducible exact LeO.refl _)
      | (with_reducible exact LeO.none _)
      | (with_reducible refine LeO.ite ?_ ?_)
      | (with_reducible refine LeO.bind ?_ (fun _ => ?_))
      | exact book_Area_127.mono _ _ _
      | exact book_Board_132.mono _ _ _
      | exact book_Buffer_133.mono _ _ _
      | exact book_Event_131.mono _ _ _
      | exact book_Lock_129.mono _ _ _
      | exact book_Port_134.mono _ _ _
      | exact book_Rule_57.mono _ _ _
      | exact book_Sema_130.mono _ _ _
      | exact book_Task_128.mono _ _ _
      | exact LeO.none _
      | refine LeO.ite ?_ ?_
      | refine LeO.bind ?_ (fun _ => ?_)
set_option maxHeartbeats 8000000 in
set_option maxRecDepth 100000 in
theorem book_Partition_same.calls (k : Nat) (a0_0 : ByteArray) (A0_1 : Option Addr) (c0_1 : Nat) (l0_1 : List (S62)) (A0_2 : Option Addr) (c0_2 : Nat) (l0_2 : List (S109)) (A0_3 : Option Addr) (c0_3 : Nat) (l0_3 : List (S111)) (A0_4 : Option Addr) (c0_4 : Nat) (l0_4 : List (S113)) (A0_5 : Option Addr) (c0_5 : Nat) (l0_5 : List (S115)) (A0_6 : Option Addr) (c0_6 : Nat) (l0_6 : List (S117)) (A0_7 : Option Addr) (c0_7 : Nat) (l0_7 : List (S119)) (A0_8 : Option Addr) (c0_8 : Nat) (l0_8 : List (S60)) (A0_9 : Option Addr) (c0_9 : Nat) (l0_9 : List (S64)) (a0_10 : Int) (a0_11 : Int) (a0_12 : Int) (a1_0 : ByteArray) (A1_1 : Option Addr) (c1_1 : Nat) (l1_1 : List (S62)) (A1_2 : Option Addr) (c1_2 : Nat) (l1_2 : List (S109)) (A1_3 : Option Addr) (c1_3 : Nat) (l1_3 : List (S111)) (A1_4 : Option Addr) (c1_4 : Nat) (l1_4 : List (S113)) (A1_5 : Option Addr) (c1_5 : Nat) (l1_5 : List (S115)) (A1_6 : Option Addr) (c1_6 : Nat) (l1_6 : List (S117)) (A1_7 : Option Addr) (c1_7 : Nat) (l1_7 : List (S119)) (A1_8 : Option Addr) (c1_8 : Nat) (l1_8 : List (S60)) (A1_9 : Option Addr) (c1_9 : Nat) (l1_9 : List (S64)) (a1_10 : Int) (a1_11 : Int) (a1_12 : Int) (r : Bool) (w : World) (hr0_1 : Kd.C k62 w A0_1 l0_1.length l0_1) (hc0_1 : l0_1.length ≤ c0_1) (hr0_2 : Kd.C k109 w A0_2 l0_2.length l0_2) (hc0_2 : l0_2.length ≤ c0_2) (hr0_3 : Kd.C k111 w A0_3 l0_3.length l0_3) (hc0_3 : l0_3.length ≤ c0_3) (hr0_4 : Kd.C k113 w A0_4 l0_4.length l0_4) (hc0_4 : l0_4.length ≤ c0_4) (hr0_5 : Kd.C k115 w A0_5 l0_5.length l0_5) (hc0_5 : l0_5.length ≤ c0_5) (hr0_6 : Kd.C k117 w A0_6 l0_6.length l0_6) (hc0_6 : l0_6.length ≤ c0_6) (hr0_7 : Kd.C k119 w A0_7 l0_7.length l0_7) (hc0_7 : l0_7.length ≤ c0_7) (hr0_8 : Kd.C k60 w A0_8 l0_8.length l0_8) (hc0_8 : l0_8.length ≤ c0_8) (hr0_9 : Kd.C k64 w A0_9 l0_9.length l0_9) (hc0_9 : l0_9.length ≤ c0_9) (hr1_1 : Kd.C k62 w A1_1 l1_1.length l1_1) (hc1_1 : l1_1.length ≤ c1_1) (hr1_2 : Kd.C k109 w A1_2 l1_2.length l1_2) (hc1_2 : l1_2.length ≤ c1_2) (hr1_3 : Kd.C k111 w A1_3 l1_3.length l1_3) (hc1_3 : l1_3.length ≤ c1_3) (hr1_4 : Kd.C k113 w A1_4 l1_4.length l1_4) (hc1_4 : l1_4.length ≤ c1_4) (hr1_5 : Kd.C k115 w A1_5 l1_5.length l1_5) (hc1_5 : l1_5.length ≤ c1_5) (hr1_6 : Kd.C k117 w A1_6 l1_6.length l1_6) (hc1_6 : l1_6.length ≤ c1_6) (hr1_7 : Kd.C k119 w A1_7 l1_7.length l1_7) (hc1_7 : l1_7.length ≤ c1_7) (hr1_8 : Kd.C k60 w A1_8 l1_8.length l1_8) (hc1_8 : l1_8.length ≤ c1_8) (hr1_9 : Kd.C k64 w A1_9 l1_9.length l1_9) (hc1_9 : l1_9.length ≤ c1_9) (h : book_Partition_same.f k a0_0 l0_1 l0_2 l0_3 l0_4 l0_5 l0_6 l0_7 l0_8 l0_9 a0_10 a0_11 a0_12 a1_0 l1_1 l1_2 l1_3 l1_4 l1_5 l1_6 l1_7 l1_8 l1_9 a1_10 a1_11 a1_12 = some r) :
    Calls Tryz.prog 49 #[.agg #[.string a0_0, .slice A0_1 l0_1.length c0_1, .slice A0_2 l0_2.length c0_2, .slice A0_3 l0_3.length c0_3, .slice A0_4 l0_4.length c0_4, .slice A0_5 l0_5.length c0_5, .slice A0_6 l0_6.length c0_6, .slice A0_7 l0_7.length c0_7, .slice A0_8 l0_8.length c0_8, .slice A0_9 l0_9.length c0_9, .int .i64 a0_10, .int .i64 a0_11, .int .i64 a0_12], .agg #[.string a1_0, .slice A1_1 l1_1.length c1_1, .slice A1_2 l1_2.length c1_2, .slice A1_3 l1_3.length c1_3, .slice A1_4 l1_4.length c1_4, .slice A1_5 l1_5.length c1_5, .slice A1_6 l1_6.length c1_6, .slice A1_7 l1_7.length c1_7, .slice A1_8 l1_8.length c1_8, .slice A1_9 l1_9.length c1_9, .int .i64 a1_10, .int .i64 a1_11, .int .i64 a1_12]] w fun e w' => e = .returned (.bool r) ∧ Below w.heap.size w w' := by
 have HR0_1 := Aside0.mk hr0_1
 have HC0_1 := Aside0.mk hc0_1
 clear hr0_1 hc0_1
 have HR0_2 := Aside0.mk hr0_2
 have HC0_2 := Aside0.mk hc0_2
 clear hr0_2 hc0_2
 have HR0_3 := Aside0.mk hr0_3
 have HC0_3 := Aside0.mk hc0_3
 clear hr0_3 hc0_3
 have HR0_4 := Aside0.mk hr0_4
 have HC0_4 := Aside0.mk hc0_4
 clear hr0_4 hc0_4
 have HR0_5 := Aside0.mk hr0_5
 have HC0_5 := Aside0.mk hc0_5
 clear hr0_5 hc0_5
 have HR0_6 := Aside0.mk hr0_6
 have HC0_6 := Aside0.mk hc0_6
 clear hr0_6 hc0_6
 have HR0_7 := Aside0.mk hr0_7
 have HC0_7 := Aside0.mk hc0_7
 clear hr0_7 hc0_7
 have HR0_8 := Aside0.mk hr0_8
 have HC0_8 := Aside0.mk hc0_8
 clear hr0_8 hc0_8
 have HR0_9 := Aside0.mk hr0_9
 have HC0_9 := Aside0.mk hc0_9
 clear hr0_9 hc0_9
 have HR1_1 := Aside0.mk hr1_1
 have HC1_1 := Aside0.mk hc1_1
 clear hr1_1 hc1_1
 have HR1_2 := Aside0.mk hr1_2
 have HC1_2 := Aside0.mk hc1_2
 clear hr1_2 hc1_2
 have HR1_3 := Aside0.mk hr1_3
 have HC1_3 := Aside0.mk hc1_3
 clear hr1_3 hc1_3
 have HR1_4 := Aside0.mk hr1_4
 have HC1_4 := Aside0.mk hc1_4
 clear hr1_4 hc1_4
 have HR1_5 := Aside0.mk hr1_5
 have HC1_5 := Aside0.mk hc1_5
 clear hr1_5 hc1_5
 have HR1_6 := Aside0.mk hr1_6
 have HC1_6 := Aside0.mk hc1_6
 clear hr1_6 hc1_6
 have HR1_7 := Aside0.mk hr1_7
 have HC1_7 := Aside0.mk hc1_7
 clear hr1_7 hc1_7
 have HR1_8 := Aside0.mk hr1_8
 have HC1_8 := Aside0.mk hc1_8
 clear hr1_8 hc1_8
 have HR1_9 := Aside0.mk hr1_9
 have HC1_9 := Aside0.mk hc1_9
 clear hr1_9 hc1_9
 unfold book_Partition_same.f at h
 have H := Aside0.mk h
 clear h
 have HB := Aside0.mk (Below.refl w.heap.size w)
 have hu52 := Tryz.underlying52
 go_enter Tryz.func49, Tryz.ntmps49
 have BK221 := Aside0.mk (pe_box0 w #[.string a0_0, .slice A0_1 l0_1.length c0_1, .slice A0_2 l0_2.length c0_2, .slice A0_3 l0_3.length c0_3, .slice A0_4 l0_4.length c0_4, .slice A0_5 l0_5.length c0_5, .slice A0_6 l0_6.length c0_6, .slice A0_7 l0_7.length c0_7, .slice A0_8 l0_8.length c0_8, .slice A0_9 l0_9.length c0_9, .int .i64 a0_10, .int .i64 a0_11, .int .i64 a0_12] 52)
 replace HB := Aside0.mk (below_alloc HB.out (.cells #[.string a0_0, .slice A0_1 l0_1.length c0_1, .slice A0_2 l0_2.length c0_2, .slice A0_3 l0_3.length c0_3, .slice A0_4 l0_4.length c0_4, .slice A0_5 l0_5.length c0_5, .slice A0_6 l0_6.length c0_6, .slice A0_7 l0_7.length c0_7, .slice A0_8 l0_8.length c0_8, .slice A0_9 l0_9.length c0_9, .int .i64 a0_10, .int .i64 a0_11, .int .i64 a0_12] 52))
 by_cases c223 : a0_0.toList = a1_0.toList
 · have H1 := H.out
   rw [if_pos c223] at H1
   replace H := Aside0.mk H1
   clear H1
   have c223b0 : (a0_0.toList == a1_0.toList) = true := beq_iff_eq.mpr c223
   have c223b1 : (a0_0.toList != a1_0.toList) = false := bne_eq_false_iff_eq.mpr c223
   have Kc223 := Aside0.mk c223
   clear c223
   have BK222 := Aside0.mk (pe_box1 w (.cells #[.string a0_0, .slice A0_1 l0_1.length c0_1, .slice A0_2 l0_2.length c0_2, .slice A0_3 l0_3.length c0_3, .slice A0_4 l0_4.length c0_4, .slice A0_5 l0_5.length c0_5, .slice A0_6 l0_6.length c0_6, .slice A0_7 l0_7.length c0_7, .slice A0_8 l0_8.length c0_8, .slice A0_9 l0_9.length c0_9, .int .i64 a0_10, .int .i64 a0_11, .int .i64 a0_12] 52) #[.string a1_0, .slice A1_1 l1_1.length c1_1, .slice A1_2 l1_2.length c1_2, .slice A1_3 l1_3.length c1_3, .slice A1_4 l1_4.length c1_4, .slice A1_5 l1_5.length c1_5, .slice A1_6 l1_6.length c1_6, .slice A1_7 l1_7.length c1_7, .slice A1_8 l1_8.length c1_8, .slice A1_9 l1_9.length c1_9, .int .i64 a1_10, .int .i64 a1_11, .int .i64 a1_12] 52)
   replace BK221 := Aside0.mk (blk_below BK221.out (alloc_below0 _ (.cells #[.string a1_0, .slice A1_1 l1_1.length c1_1, .slice A1_2 l1_2.length c1_2, .slice A1_3 l1_3.length c1_3, .slice A1_4 l1_4.length c1_4, .slice A1_5 l1_5.length c1_5, .slice A1_6 l1_6.length c1_6, .slice A1_7 l1_7.length c1_7, .slice A1_8 l1_8.length c1_8, .slice A1_9 l1_9.length c1_9, .int .i64 a1_10, .int .i64 a1_11, .int .i64 a1_12] 52)))
   replace HB := Aside0.mk (below_alloc HB.out (.cells #[.string a1_0, .slice A1_1 l1_1.length c1_1, .slice A1_2 l1_2.length c1_2, .slice A1_3 l1_3.length c1_3, .slice A1_4 l1_4.length c1_4, .slice A1_5 l1_5.length c1_5, .slice A1_6 l1_6.length c1_6, .slice A1_7 l1_7.length c1_7, .slice A1_8 l1_8.length c1_8, .slice A1_9 l1_9.length c1_9, .int .i64 a1_10, .int .i64 a1_11, .int .i64 a1_12] 52))
   obtain ⟨t214, q224, H1⟩ := Option.bind_eq_some_iff.mp H.out
   replace H := Aside0.mk H1
   replace q224 := Aside0.mk q224
   clear H1
   go_wp2_with fail
   (with_reducible refine (book_Area_127.calls k _ _ l0_1 _ _ l1_1 t214 _ (Kd.C_below HR0_1.out HB.out) HC0_1.out (Kd.C_below HR1_1.out HB.out) HC1_1.out q224.out).mono ?_)
   clear q224
   rintro e w225 ⟨rfl, hd⟩
   have hb := hd.below
   clear hd
   replace HB := Aside0.mk (below_step HB.out hb)
   replace BK221 := Aside0.mk (blk_below BK221.out hb)
   replace BK222 := Aside0.mk (blk_below BK222.out hb)
   clear hb
   obtain ⟨hz226_221_0, hz226_221_1, hz226_221_2, hz226_221_3, hz226_221_4, hz226_221_5, hz226_221_6, hz226_221_7, hz226_221_8, hz226_221_9, hz226_221_10, hz226_221_11, hz226_221_12, hf226_221_0, hf226_221_1, hf226_221_2, hf226_221_3, hf226_221_4, hf226_221_5, hf226_221_6, hf226_221_7, hf226_221_8, hf226_221_9, hf226_221_10, hf226_221_11, hf226_221_12⟩ := blk13 BK221.out
   obtain ⟨hz226_222_0, hz226_222_1, hz226_222_2, hz226_222_3, hz226_222_4, hz226_222_5, hz226_222_6, hz226_222_7, hz226_222_8, hz226_222_9, hz226_222_10, hz226_222_11, hz226_222_12, hf226_222_0, hf226_222_1, hf226_222_2, hf226_222_3, hf226_222_4, hf226_222_5, hf226_222_6, hf226_222_7, hf226_222_8, hf226_222_9, hf226_222_10, hf226_222_11, hf226_222_12⟩ := blk13 BK222.out
   by_cases c227 : t214 = true
   · have H1 := H.out
     rw [if_pos c227] at H1
     replace H := Aside0.mk H1
     clear H1
     subst c227
     obtain ⟨t215, q228, H1⟩ := Option.bind_eq_some_iff.mp H.out
     replace H := Aside0.mk H1
     replace q228 := Aside0.mk q228
     clear H1
     go_wp2_with fail
     (with_reducible refine (book_Task_128.calls k _ _ l0_2 _ _ l1_2 t215 _ (Kd.C_below HR0_2.out HB.out) HC0_2.out (Kd.C_below HR1_2.out HB.out) HC1_2.out q228.out).mono ?_)
     clear q228
     rintro e w229 ⟨rfl, hd⟩
     have hb := hd.below
     clear hd
     replace HB := Aside0.mk (below_step HB.out hb)
     replace BK221 := Aside0.mk (blk_below BK221.out hb)
     replace BK222 := Aside0.mk (blk_below BK222.out hb)
     clear hb
     try clear hz226_221_0 hz226_221_1 hz226_221_2 hz226_221_3 hz226_221_4 hz226_221_5 hz226_221_6 hz226_221_7 hz226_221_8 hz226_221_9 hz226_221_10 hz226_221_11 hz226_221_12 hf226_221_0 hf226_221_1 hf226_221_2 hf226_221_3 hf226_221_4 hf226_221_5 hf226_221_6 hf226_221_7 hf226_221_8 hf226_221_9 hf226_221_10 hf226_221_11 hf226_221_12 hz226_222_0 hz226_222_1 hz226_222_2 hz226_222_3 hz226_222_4 hz226_222_5 hz226_222_6 hz226_222_7 hz226_222_8 hz226_222_9 hz226_222_10 hz226_222_11 hz226_222_12 hf226_222_0 hf226_222_1 hf226_222_2 hf226_222_3 hf226_222_4 hf226_222_5 hf226_222_6 hf226_222_7 hf226_222_8 hf226_222_9 hf226_222_10 hf226_222_11 hf226_222_12
     obtain ⟨hz230_221_0, hz230_221_1, hz230_221_2, hz230_221_3, hz230_221_4, hz230_221_5, hz230_221_6, hz230_221_7, hz230_221_8, hz230_221_9, hz230_221_10, hz230_221_11, hz230_221_12, hf230_221_0, hf230_221_1, hf230_221_2, hf230_221_3, hf230_221_4, hf230_221_5, hf230_221_6, hf230_221_7, hf230_221_8, hf230_221_9, hf230_221_10, hf230_221_11, hf230_221_12⟩ := blk13 BK221.out
     obtain ⟨hz230_222_0, hz230_222_1, hz230_222_2, hz230_222_3, hz230_222_4, hz230_222_5, hz230_222_6, hz230_222_7, hz230_222_8, hz230_222_9, hz230_222_10, hz230_222_11, hz230_222_12, hf230_222_0, hf230_222_1, hf230_222_2, hf230_222_3, hf230_222_4, hf230_222_5, hf230_222_6, hf230_222_7, hf230_222_8, hf230_222_9, hf230_222_10, hf230_222_11, hf230_222_12⟩ := blk13 BK222.out
     by_cases c231 : t215 = true
     · have H1 := H.out
       rw [if_pos c231] at H1
       replace H := Aside0.mk H1
       clear H1
       subst c231
       obtain ⟨t216, q232, H1⟩ := Option.bind_eq_some_iff.mp H.out
       replace H := Aside0.mk H1
       replace q232 := Aside0.mk q232
       clear H1
       go_wp2_with fail
       (with_reducible refine (book_Lock_129.calls k _ _ l0_3 _ _ l1_3 t216 _ (Kd.C_below HR0_3.out HB.out) HC0_3.out (Kd.C_below HR1_3.out HB.out) HC1_3.out q232.out).mono ?_)
       clear q232
       rintro e w233 ⟨rfl, hd⟩
       have hb := hd.below
       clear hd
       replace HB := Aside0.mk (below_step HB.out hb)
       replace BK221 := Aside0.mk (blk_below BK221.out hb)
       replace BK222 := Aside0.mk (blk_below BK222.out hb)
       clear hb
       try clear hz230_221_0 hz230_221_1 hz230_221_2 hz230_221_3 hz230_221_4 hz230_221_5 hz230_221_6 hz230_221_7 hz230_221_8 hz230_221_9 hz230_221_10 hz230_221_11 hz230_221_12 hf230_221_0 hf230_221_1 hf230_221_2 hf230_221_3 hf230_221_4 hf230_221_5 hf230_221_6 hf230_221_7 hf230_221_8 hf230_221_9 hf230_221_10 hf230_221_11 hf230_221_12 hz230_222_0 hz230_222_1 hz230_222_2 hz230_222_3 hz230_222_4 hz230_222_5 hz230_222_6 hz230_222_7 hz230_222_8 hz230_222_9 hz230_222_10 hz230_222_11 hz230_222_12 hf230_222_0 hf230_222_1 hf230_222_2 hf230_222_3 hf230_222_4 hf230_222_5 hf230_222_6 hf230_222_7 hf230_222_8 hf230_222_9 hf230_222_10 hf230_222_11 hf230_222_12
       obtain ⟨hz234_221_0, hz234_221_1, hz234_221_2, hz234_221_3, hz234_221_4, hz234_221_5, hz234_221_6, hz234_221_7, hz234_221_8, hz234_221_9, hz234_221_10, hz234_221_11, hz234_221_12, hf234_221_0, hf234_221_1, hf234_221_2, hf234_221_3, hf234_221_4, hf234_221_5, hf234_221_6, hf234_221_7, hf234_221_8, hf234_221_9, hf234_221_10, hf234_221_11, hf234_221_12⟩ := blk13 BK221.out
       obtain ⟨hz234_222_0, hz234_222_1, hz234_222_2, hz234_222_3, hz234_222_4, hz234_222_5, hz234_222_6, hz234_222_7, hz234_222_8, hz234_222_9, hz234_222_10, hz234_222_11, hz234_222_12, hf234_222_0, hf234_222_1, hf234_222_2, hf234_222_3, hf234_222_4, hf234_222_5, hf234_222_6, hf234_222_7, hf234_222_8, hf234_222_9, hf234_222_10, hf234_222_11, hf234_222_12⟩ := blk13 BK222.out
       by_cases c235 : t216 = true
       · have H1 := H.out
         rw [if_pos c235] at H1
         replace H := Aside0.mk H1
         clear H1
         subst c235
         obtain ⟨t217, q236, H1⟩ := Option.bind_eq_some_iff.mp H.out
         replace H := Aside0.mk H1
         replace q236 := Aside0.mk q236
         clear H1
         go_wp2_with fail
         (with_reducible refine (book_Sema_130.calls k _ _ l0_4 _ _ l1_4 t217 _ (Kd.C_below HR0_4.out HB.out) HC0_4.out (Kd.C_below HR1_4.out HB.out) HC1_4.out q236.out).mono ?_)
         clear q236
         rintro e w237 ⟨rfl, hd⟩
         have hb := hd.below
         clear hd
         replace HB := Aside0.mk (below_step HB.out hb)
         replace BK221 := Aside0.mk (blk_below BK221.out hb)
         replace BK222 := Aside0.mk (blk_below BK222.out hb)
         clear hb
         try clear hz234_221_0 hz234_221_1 hz234_221_2 hz234_221_3 hz234_221_4 hz234_221_5 hz234_221_6 hz234_221_7 hz234_221_8 hz234_221_9 hz234_221_10 hz234_221_11 hz234_221_12 hf234_221_0 hf234_221_1 hf234_221_2 hf234_221_3 hf234_221_4 hf234_221_5 hf234_221_6 hf234_221_7 hf234_221_8 hf234_221_9 hf234_221_10 hf234_221_11 hf234_221_12 hz234_222_0 hz234_222_1 hz234_222_2 hz234_222_3 hz234_222_4 hz234_222_5 hz234_222_6 hz234_222_7 hz234_222_8 hz234_222_9 hz234_222_10 hz234_222_11 hz234_222_12 hf234_222_0 hf234_222_1 hf234_222_2 hf234_222_3 hf234_222_4 hf234_222_5 hf234_222_6 hf234_222_7 hf234_222_8 hf234_222_9 hf234_222_10 hf234_222_11 hf234_222_12
         obtain ⟨hz238_221_0, hz238_221_1, hz238_221_2, hz238_221_3, hz238_221_4, hz238_221_5, hz238_221_6, hz238_221_7, hz238_221_8, hz238_221_9, hz238_221_10, hz238_221_11, hz238_221_12, hf238_221_0, hf238_221_1, hf238_221_2, hf238_221_3, hf238_221_4, hf238_221_5, hf238_221_6, hf238_221_7, hf238_221_8, hf238_221_9, hf238_221_10, hf238_221_11, hf238_221_12⟩ := blk13 BK221.out
         obtain ⟨hz238_222_0, hz238_222_1, hz238_222_2, hz238_222_3, hz238_222_4, hz238_222_5, hz238_222_6, hz238_222_7, hz238_222_8, hz238_222_9, hz238_222_10, hz238_222_11, hz238_222_12, hf238_222_0, hf238_222_1, hf238_222_2, hf238_222_3, hf238_222_4, hf238_222_5, hf238_222_6, hf238_222_7, hf238_222_8, hf238_222_9, hf238_222_10, hf238_222_11, hf238_222_12⟩ := blk13 BK222.out
         by_cases c239 : t217 = true
         · have H1 := H.out
           rw [if_pos c239] at H1
           replace H := Aside0.mk H1
           clear H1
           subst c239
           obtain ⟨t218, q240, H1⟩ := Option.bind_eq_some_iff.mp H.out
           replace H := Aside0.mk H1
           replace q240 := Aside0.mk q240
           clear H1
           go_wp2_with fail
           (with_reducible refine (book_Event_131.calls k _ _ l0_5 _ _ l1_5 t218 _ (Kd.C_below HR0_5.out HB.out) HC0_5.out (Kd.C_below HR1_5.out HB.out) HC1_5.out q240.out).mono ?_)
           clear q240
           rintro e w241 ⟨rfl, hd⟩
           have hb := hd.below
           clear hd
           replace HB := Aside0.mk (below_step HB.out hb)
           replace BK221 := Aside0.mk (blk_below BK221.out hb)
           replace BK222 := Aside0.mk (blk_below BK222.out hb)
           clear hb
           try clear hz238_221_0 hz238_221_1 hz238_221_2 hz238_221_3 hz238_221_4 hz238_221_5 hz238_221_6 hz238_221_7 hz238_221_8 hz238_221_9 hz238_221_10 hz238_221_11 hz238_221_12 hf238_221_0 hf238_221_1 hf238_221_2 hf238_221_3 hf238_221_4 hf238_221_5 hf238_221_6 hf238_221_7 hf238_221_8 hf238_221_9 hf238_221_10 hf238_221_11 hf238_221_12 hz238_222_0 hz238_222_1 hz238_222_2 hz238_222_3 hz238_222_4 hz238_222_5 hz238_222_6 hz238_222_7 hz238_222_8 hz238_222_9 hz238_222_10 hz238_222_11 hz238_222_12 hf238_222_0 hf238_222_1 hf238_222_2 hf238_222_3 hf238_222_4 hf238_222_5 hf238_222_6 hf238_222_7 hf238_222_8 hf238_222_9 hf238_222_10 hf238_222_11 hf238_222_12
           obtain ⟨hz242_221_0, hz242_221_1, hz242_221_2, hz242_221_3, hz242_221_4, hz242_221_5, hz242_221_6, hz242_221_7, hz242_221_8, hz242_221_9, hz242_221_10, hz242_221_11, hz242_221_12, hf242_221_0, hf242_221_1, hf242_221_2, hf242_221_3, hf242_221_4, hf242_221_5, hf242_221_6, hf242_221_7, hf242_221_8, hf242_221_9, hf242_221_10, hf242_221_11, hf242_221_12⟩ := blk13 BK221.out
           obtain ⟨hz242_222_0, hz242_222_1, hz242_222_2, hz242_222_3, hz242_222_4, hz242_222_5, hz242_222_6, hz242_222_7, hz242_222_8, hz242_222_9, hz242_222_10, hz242_222_11, hz242_222_12, hf242_222_0, hf242_222_1, hf242_222_2, hf242_222_3, hf242_222_4, hf242_222_5, hf242_222_6, hf242_222_7, hf242_222_8, hf242_222_9, hf242_222_10, hf242_222_11, hf242_222_12⟩ := blk13 BK222.out
           by_cases c243 : t218 = true
           · have H1 := H.out
             rw [if_pos c243] at H1
             replace H := Aside0.mk H1
             clear H1
             subst c243
             obtain ⟨t219, q244, H1⟩ := Option.bind_eq_some_iff.mp H.out
             replace H := Aside0.mk H1
             replace q244 := Aside0.mk q244
             clear H1
             go_wp2_with fail
             (with_reducible refine (book_Board_132.calls k _ _ l0_6 _ _ l1_6 t219 _ (Kd.C_below HR0_6.out HB.out) HC0_6.out (Kd.C_below HR1_6.out HB.out) HC1_6.out q244.out).mono ?_)
             clear q244
             rintro e w245 ⟨rfl, hd⟩
             have hb := hd.below
             clear hd
             replace HB := Aside0.mk (below_step HB.out hb)
             replace BK221 := Aside0.mk (blk_below BK221.out hb)
             replace BK222 := Aside0.mk (blk_below BK222.out hb)
             clear hb
             try clear hz242_221_0 hz242_221_1 hz242_221_2 hz242_221_3 hz242_221_4 hz242_221_5 hz242_221_6 hz242_221_7 hz242_221_8 hz242_221_9 hz242_221_10 hz242_221_11 hz242_221_12 hf242_221_0 hf242_221_1 hf242_221_2 hf242_221_3 hf242_221_4 hf242_221_5 hf242_221_6 hf242_221_7 hf242_221_8 hf242_221_9 hf242_221_10 hf242_221_11 hf242_221_12 hz242_222_0 hz242_222_1 hz242_222_2 hz242_222_3 hz242_222_4 hz242_222_5 hz242_222_6 hz242_222_7 hz242_222_8 hz242_222_9 hz242_222_10 hz242_222_11 hz242_222_12 hf242_222_0 hf242_222_1 hf242_222_2 hf242_222_3 hf242_222_4 hf242_222_5 hf242_222_6 hf242_222_7 hf242_222_8 hf242_222_9 hf242_222_10 hf242_222_11 hf242_222_12
             obtain ⟨hz246_221_0, hz246_221_1, hz246_221_2, hz246_221_3, hz246_221_4, hz246_221_5, hz246_221_6, hz246_221_7, hz246_221_8, hz246_221_9, hz246_221_10, hz246_221_11, hz246_221_12, hf246_221_0, hf246_221_1, hf246_221_2, hf246_221_3, hf246_221_4, hf246_221_5, hf246_221_6, hf246_221_7, hf246_221_8, hf246_221_9, hf246_221_10, hf246_221_11, hf246_221_12⟩ := blk13 BK221.out
             obtain ⟨hz246_222_0, hz246_222_1, hz246_222_2, hz246_222_3, hz246_222_4, hz246_222_5, hz246_222_6, hz246_222_7, hz246_222_8, hz246_222_9, hz246_222_10, hz246_222_11, hz246_222_12, hf246_222_0, hf246_222_1, hf246_222_2, hf246_222_3, hf246_222_4, hf246_222_5, hf246_222_6, hf246_222_7, hf246_222_8, hf246_222_9, hf246_222_10, hf246_222_11, hf246_222_12⟩ := blk13 BK222.out
             by_cases c247 : t219 = true
             · have H1 := H.out
               rw [if_pos c247] at H1
               replace H := Aside0.mk H1
               clear H1
               subst c247
               obtain ⟨t220, q248, H1⟩ := Option.bind_eq_some_iff.mp H.out
               replace H := Aside0.mk H1
               replace q248 := Aside0.mk q248
               clear H1
               go_wp2_with fail
               (with_reducible refine (book_Buffer_133.calls k _ _ l0_7 _ _ l1_7 t220 _ (Kd.C_below HR0_7.out HB.out) HC0_7.out (Kd.C_below HR1_7.out HB.out) HC1_7.out q248.out).mono ?_)
               clear q248
               rintro e w249 ⟨rfl, hd⟩
               have hb := hd.below
               clear hd
               replace HB := Aside0.mk (below_step HB.out hb)
               replace BK221 := Aside0.mk (blk_below BK221.out hb)
               replace BK222 := Aside0.mk (blk_below BK222.out hb)
               clear hb
               try clear hz246_221_0 hz246_221_1 hz246_221_2 hz246_221_3 hz246_221_4 hz246_221_5 hz246_221_6 hz246_221_7 hz246_221_8 hz246_221_9 hz246_221_10 hz246_221_11 hz246_221_12 hf246_221_0 hf246_221_1 hf246_221_2 hf246_221_3 hf246_221_4 hf246_221_5 hf246_221_6 hf246_221_7 hf246_221_8 hf246_221_9 hf246_221_10 hf246_221_11 hf246_221_12 hz246_222_0 hz246_222_1 hz246_222_2 hz246_222_3 hz246_222_4 hz246_222_5 hz246_222_6 hz246_222_7 hz246_222_8 hz246_222_9 hz246_222_10 hz246_222_11 hz246_222_12 hf246_222_0 hf246_222_1 hf246_222_2 hf246_222_3 hf246_222_4 hf246_222_5 hf246_222_6 hf246_222_7 hf246_222_8 hf246_222_9 hf246_222_10 hf246_222_11 hf246_222_12
               obtain ⟨hz250_221_0, hz250_221_1, hz250_221_2, hz250_221_3, hz250_221_4, hz250_221_5, hz250_221_6, hz250_221_7, hz250_221_8, hz250_221_9, hz250_221_10, hz250_221_11, hz250_221_12, hf250_221_0, hf250_221_1, hf250_221_2, hf250_221_3, hf250_221_4, hf250_221_5, hf250_221_6, hf250_221_7, hf250_221_8, hf250_221_9, hf250_221_10, hf250_221_11, hf250_221_12⟩ := blk13 BK221.out
               obtain ⟨hz250_222_0, hz250_222_1, hz250_222_2, hz250_222_3, hz250_222_4, hz250_222_5, hz250_222_6, hz250_222_7, hz250_222_8, hz250_222_9, hz250_222_10, hz250_222_11, hz250_222_12, hf250_222_0, hf250_222_1, hf250_222_2, hf250_222_3, hf250_222_4, hf250_222_5, hf250_222_6, hf250_222_7, hf250_222_8, hf250_222_9, hf250_222_10, hf250_222_11, hf250_222_12⟩ := blk13 BK222.out
               by_cases c251 : t220 = true
               · have H1 := H.out
                 rw [if_pos c251] at H1
                 replace H := Aside0.mk H1
                 clear H1
                 subst c251
                 obtain ⟨t221, q252, H1⟩ := Option.bind_eq_some_iff.mp H.out
                 replace H := Aside0.mk H1
                 replace q252 := Aside0.mk q252
                 clear H1
                 go_wp2_with fail
                 (with_reducible refine (book_Port_134.calls k _ _ l0_8 _ _ l1_8 t221 _ (Kd.C_below HR0_8.out HB.out) HC0_8.out (Kd.C_below HR1_8.out HB.out) HC1_8.out q252.out).mono ?_)
                 clear q252
                 rintro e w253 ⟨rfl, hd⟩
                 have hb := hd.below
                 clear hd
                 replace HB := Aside0.mk (below_step HB.out hb)
                 replace BK221 := Aside0.mk (blk_below BK221.out hb)
                 replace BK222 := Aside0.mk (blk_below BK222.out hb)
                 clear hb
                 try clear hz250_221_0 hz250_221_1 hz250_221_2 hz250_221_3 hz250_221_4 hz250_221_5 hz250_221_6 hz250_221_7 hz250_221_8 hz250_221_9 hz250_221_10 hz250_221_11 hz250_221_12 hf250_221_0 hf250_221_1 hf250_221_2 hf250_221_3 hf250_221_4 hf250_221_5 hf250_221_6 hf250_221_7 hf250_221_8 hf250_221_9 hf250_221_10 hf250_221_11 hf250_221_12 hz250_222_0 hz250_222_1 hz250_222_2 hz250_222_3 hz250_222_4 hz250_222_5 hz250_222_6 hz250_222_7 hz250_222_8 hz250_222_9 hz250_222_10 hz250_222_11 hz250_222_12 hf250_222_0 hf250_222_1 hf250_222_2 hf250_222_3 hf250_222_4 hf250_222_5 hf250_222_6 hf250_222_7 hf250_222_8 hf250_222_9 hf250_222_10 hf250_222_11 hf250_222_12
                 obtain ⟨hz254_221_0, hz254_221_1, hz254_221_2, hz254_221_3, hz254_221_4, hz254_221_5, hz254_221_6, hz254_221_7, hz254_221_8, hz254_221_9, hz254_221_10, hz254_221_11, hz254_221_12, hf254_221_0, hf254_221_1, hf254_221_2, hf254_221_3, hf254_221_4, hf254_221_5, hf254_221_6, hf254_221_7, hf254_221_8, hf254_221_9, hf254_221_10, hf254_221_11, hf254_221_12⟩ := blk13 BK221.out
                 obtain ⟨hz254_222_0, hz254_222_1, hz254_222_2, hz254_222_3, hz254_222_4, hz254_222_5, hz254_222_6, hz254_222_7, hz254_222_8, hz254_222_9, hz254_222_10, hz254_222_11, hz254_222_12, hf254_222_0, hf254_222_1, hf254_222_2, hf254_222_3, hf254_222_4, hf254_222_5, hf254_222_6, hf254_222_7, hf254_222_8, hf254_222_9, hf254_222_10, hf254_222_11, hf254_222_12⟩ := blk13 BK222.out
                 by_cases c255 : t221 = true
                 · have H1 := H.out
                   rw [if_pos c255] at H1
                   replace H := Aside0.mk H1
                   clear H1
                   subst c255
                   obtain ⟨t222, q256, H1⟩ := Option.bind_eq_some_iff.mp H.out
                   replace H := Aside0.mk H1
                   replace q256 := Aside0.mk q256
                   clear H1
                   go_wp2_with fail
                   (with_reducible refine (book_Rule_57.calls k _ _ l0_9 _ _ l1_9 t222 _ (Kd.C_below HR0_9.out HB.out) HC0_9.out (Kd.C_below HR1_9.out HB.out) HC1_9.out q256.out).mono ?_)
                   clear q256
                   rintro e w257 ⟨rfl, hd⟩
                   have hb := hd.below
                   clear hd
                   replace HB := Aside0.mk (below_step HB.out hb)
                   replace BK221 := Aside0.mk (blk_below BK221.out hb)
                   replace BK222 := Aside0.mk (blk_below BK222.out hb)
                   clear hb
                   try clear hz254_221_0 hz254_221_1 hz254_221_2 hz254_221_3 hz254_221_4 hz254_221_5 hz254_221_6 hz254_221_7 hz254_221_8 hz254_221_9 hz254_221_10 hz254_221_11 hz254_221_12 hf254_221_0 hf254_221_1 hf254_221_2 hf254_221_3 hf254_221_4 hf254_221_5 hf254_221_6 hf254_221_7 hf254_221_8 hf254_221_9 hf254_221_10 hf254_221_11 hf254_221_12 hz254_222_0 hz254_222_1 hz254_222_2 hz254_222_3 hz254_222_4 hz254_222_5 hz254_222_6 hz254_222_7 hz254_222_8 hz254_222_9 hz254_222_10 hz254_222_11 hz254_222_12 hf254_222_0 hf254_222_1 hf254_222_2 hf254_222_3 hf254_222_4 hf254_222_5 hf254_222_6 hf254_222_7 hf254_222_8 hf254_222_9 hf254_222_10 hf254_222_11 hf254_222_12
                   obtain ⟨hz258_221_0, hz258_221_1, hz258_221_2, hz258_221_3, hz258_221_4, hz258_221_5, hz258_221_6, hz258_221_7, hz258_221_8, hz258_221_9, hz258_221_10, hz258_221_11, hz258_221_12, hf258_221_0, hf258_221_1, hf258_221_2, hf258_221_3, hf258_221_4, hf258_221_5, hf258_221_6, hf258_221_7, hf258_221_8, hf258_221_9, hf258_221_10, hf258_221_11, hf258_221_12⟩ := blk13 BK221.out
                   obtain ⟨hz258_222_0, hz258_222_1, hz258_222_2, hz258_222_3, hz258_222_4, hz258_222_5, hz258_222_6, hz258_222_7, hz258_222_8, hz258_222_9, hz258_222_10, hz258_222_11, hz258_222_12, hf258_222_0, hf258_222_1, hf258_222_2, hf258_222_3, hf258_222_4, hf258_222_5, hf258_222_6, hf258_222_7, hf258_222_8, hf258_222_9, hf258_222_10, hf258_222_11, hf258_222_12⟩ := blk13 BK222.out
                   by_cases c259 : t222 = true
                   · have H1 := H.out
                     rw [if_pos c259] at H1
                     replace H := Aside0.mk H1
                     clear H1
                     subst c259
                     by_cases c260 : a0_10 = a1_10
                     · have H1 := H.out
                       rw [if_pos c260] at H1
                       replace H := Aside0.mk H1
                       clear H1
                       have c260b0 : (a0_10 == a1_10) = true := beq_iff_eq.mpr c260
                       have c260b1 : (a0_10 != a1_10) = false := bne_eq_false_iff_eq.mpr c260
                       have Kc260 := Aside0.mk c260
                       clear c260
                       obtain rfl := Option.some.inj H.out
                       go_wp2
                       go_ret
                       exact ⟨by first | rfl | (simp; done) | (simp [*]; done), HB.out⟩
                     · have H1 := H.out
                       rw [if_neg c260] at H1
                       replace H := Aside0.mk H1
                       clear H1
                       have c260b0 : (a0_10 == a1_10) = false := beq_eq_false_iff_ne.mpr c260
                       have c260b1 : (a0_10 != a1_10) = true := bne_iff_ne.mpr c260
                       have Kc260 := Aside0.mk c260
                       clear c260
                       obtain rfl := Option.some.inj H.out
                       go_wp2
                       go_ret
                       exact ⟨by first | rfl | (simp; done) | (simp [*]; done), HB.out⟩
                   · have H1 := H.out
                     rw [if_neg c259] at H1
                     replace H := Aside0.mk H1
                     clear H1
                     replace c259 := Bool.eq_false_iff.mpr c259
                     subst c259
                     obtain rfl := Option.some.inj H.out
                     go_wp2
                     go_ret
                     exact ⟨by first | rfl | (simp; done) | (simp [*]; done), HB.out⟩
                 · have H1 := H.out
                   rw [if_neg c255] at H1
                   replace H := Aside0.mk H1
                   clear H1
                   replace c255 := Bool.eq_false_iff.mpr c255
                   subst c255
                   obtain rfl := Option.some.inj H.out
                   go_wp2
                   go_ret
                   exact ⟨by first | rfl | (simp; done) | (simp [*]; done), HB.out⟩
               · have H1 := H.out
                 rw [if_neg c251] at H1
                 replace H := Aside0.mk H1
                 clear H1
                 replace c251 := Bool.eq_false_iff.mpr c251
                 subst c251
                 obtain rfl := Option.some.inj H.out
                 go_wp2
                 go_ret
                 exact ⟨by first | rfl | (simp; done) | (simp [*]; done), HB.out⟩
             · have H1 := H.out
               rw [if_neg c247] at H1
               replace H := Aside0.mk H1
               clear H1
               replace c247 := Bool.eq_false_iff.mpr c247
               subst c247
               obtain rfl := Option.some.inj H.out
               go_wp2
               go_ret
               exact ⟨by first | rfl | (simp; done) | (simp [*]; done), HB.out⟩
           · have H1 := H.out
             rw [if_neg c243] at H1
             replace H := Aside0.mk H1
             clear H1
             replace c243 := Bool.eq_false_iff.mpr c243
             subst c243
             obtain rfl := Option.some.inj H.out
             go_wp2
             go_ret
             exact ⟨by first | rfl | (simp; done) | (simp [*]; done), HB.out⟩
         · have H1 := H.out
           rw [if_neg c239] at H1
           replace H := Aside0.mk H1
           clear H1
           replace c239 := Bool.eq_false_iff.mpr c239
           subst c239
           obtain rfl := Option.some.inj H.out
           go_wp2
           go_ret
           exact ⟨by first | rfl | (simp; done) | (simp [*]; done), HB.out⟩
       · have H1 := H.out
         rw [if_neg c235] at H1
         replace H := Aside0.mk H1
         clear H1
         replace c235 := Bool.eq_false_iff.mpr c235
         subst c235
         obtain rfl := Option.some.inj H.out
         go_wp2
         go_ret
         exact ⟨by first | rfl | (simp; done) | (simp [*]; done), HB.out⟩
     · have H1 := H.out
       rw [if_neg c231] at H1
       replace H := Aside0.mk H1
       clear H1
       replace c231 := Bool.eq_false_iff.mpr c231
       subst c231
       obtain rfl := Option.some.inj H.out
       go_wp2
       go_ret
       exact ⟨by first | rfl | (simp; done) | (simp [*]; done), HB.out⟩
   · have H1 := H.out
     rw [if_neg c227] at H1
     replace H := Aside0.mk H1
     clear H1
     replace c227 := Bool.eq_false_iff.mpr c227
     subst c227
     obtain rfl := Option.some.inj H.out
     go_wp2
     go_ret
     exact ⟨by first | rfl | (simp; done) | (simp [*]; done), HB.out⟩
 · have H1 := H.out
   rw [if_neg c223] at H1
   replace H := Aside0.mk H1
   clear H1
   have c223b0 : (a0_0.toList == a1_0.toList) = false := beq_eq_false_iff_ne.mpr c223
   have c223b1 : (a0_0.toList != a1_0.toList) = true := bne_iff_ne.mpr c223
   have Kc223 := Aside0.mk c223
   clear c223
   have BK222 := Aside0.mk (pe_box1 w (.cells #[.string a0_0, .slice A0_1 l0_1.length c0_1, .slice A0_2 l0_2.length c0_2, .slice A0_3 l0_3.length c0_3, .slice A0_4 l0_4.length c0_4, .slice A0_5 l0_5.length c0_5, .slice A0_6 l0_6.length c0_6, .slice A0_7 l0_7.length c0_7, .slice A0_8 l0_8.length c0_8, .slice A0_9 l0_9.length c0_9, .int .i64 a0_10, .int .i64 a0_11, .int .i64 a0_12] 52) #[.string a1_0, .slice A1_1 l1_1.length c1_1, .slice A1_2 l1_2.length c1_2, .slice A1_3 l1_3.length c1_3, .slice A1_4 l1_4.length c1_4, .slice A1_5 l1_5.length c1_5, .slice A1_6 l1_6.length c1_6, .slice A1_7 l1_7.length c1_7, .slice A1_8 l1_8.length c1_8, .slice A1_9 l1_9.length c1_9, .int .i64 a1_10, .int .i64 a1_11, .int .i64 a1_12] 52)
   replace BK221 := Aside0.mk (blk_below BK221.out (alloc_below0 _ (.cells #[.string a1_0, .slice A1_1 l1_1.length c1_1, .slice A1_2 l1_2.length c1_2, .slice A1_3 l1_3.length c1_3, .slice A1_4 l1_4.length c1_4, .slice A1_5 l1_5.length c1_5, .slice A1_6 l1_6.length c1_6, .slice A1_7 l1_7.length c1_7, .slice A1_8 l1_8.length c1_8, .slice A1_9 l1_9.length c1_9, .int .i64 a1_10, .int .i64 a1_11, .int .i64 a1_12] 52)))
   replace HB := Aside0.mk (below_alloc HB.out (.cells #[.string a1_0, .slice A1_1 l1_1.length c1_1, .slice A1_2 l1_2.length c1_2, .slice A1_3 l1_3.length c1_3, .slice A1_4 l1_4.length c1_4, .slice A1_5 l1_5.length c1_5, .slice A1_6 l1_6.length c1_6, .slice A1_7 l1_7.length c1_7, .slice A1_8 l1_8.length c1_8, .slice A1_9 l1_9.length c1_9, .int .i64 a1_10, .int .i64 a1_11, .int .i64 a1_12] 52))
   obtain rfl := Option.some.inj H.out
   go_wp2
   go_ret
   exact ⟨by first | rfl | (simp; done) | (simp [*]; done), HB.out⟩

/-! ### book_Window_52: function 52 -/
def book_Window_52.l0 : Nat → List (S69) → List (S69) → Int → Int → Option (Bool)
 | 0, _, _, _, _ => none
 | k + 1, x0, x1, x12, x13 => if x13 < x12 then (if 0 ≤ x13 then (if x13 < (x0.length : Int) then (if x13 < (x1.length : Int) then (if (!(((rd_T69 x0 x13).f0) == ((rd_T69 x1 x13).f0)) || (!(((rd_T69 x0 x13).f1) == ((rd_T69 x1 x13).f1)) || (!(((rd_T69 x0 x13).f2) == ((rd_T69 x1 x13).f2))))) = true then (some false) else (book_Window_52.l0 k x0 x1 x12 (wrap64 (x13 + 1)))) else (none)) else (none)) else (none)) else (some true)
def book_Window_52.f (k : Nat) (l0 : List (S69)) (l1 : List (S69)) : Option (Bool) := if (l0.length : Int) = (l1.length : Int) then (book_Window_52.l0 k l0 l1 (l0.length : Int) 0) else (some false)
theorem book_Window_52.mono_l : ∀ k, (∀ y0 y1 y2 y3, LeO (book_Window_52.l0 k y0 y1 y2 y3) (book_Window_52.l0 (k + 1) y0 y1 y2 y3))
 | 0 => fun _ _ _ _ r h => by simp [book_Window_52.l0] at h
 | k + 1 => by
  have ih0 := book_Window_52.mono_l k
  ·
   intro y0 y1 y2 y3
   unfold book_Window_52.l0
   repeat' first
   | (with_reducible exact ih0 _ _ _ _)
   | (with_reducible exact LeO.refl _)
   | (with_reducible exact LeO.none _)
   | (with_reducible refine LeO.ite ?_ ?_)
   | (with_reducible refine LeO.bind ?_ (fun _ => ?_))
   | exact ih0 _ _ _ _
   | exact LeO.none _
   | refine LeO.ite ?_ ?_
   | refine LeO.bind ?_ (fun _ => ?_)
theorem book_Window_52.mono : ∀ a0 a1 k, LeO (book_Window_52.f k a0 a1) (book_Window_52.f (k + 1) a0 a1) := by
 intro a0 a1 k
 have ih0 := book_Window_52.mono_l k
 unfold book_Window_52.f
 repeat' first
   | (with_reducible exact ih0 _ _ _ _)
   | (with_reducible exact LeO.refl _)
   | (with_reducible exact LeO.none _)
   | (with_reducible refine LeO.ite ?_ ?_)
   | (with_reducible refine LeO.bind ?_ (fun _ => ?_))
   | exact ih0 _ _ _ _
   | exact LeO.none _
   | refine LeO.ite ?_ ?_
   | refine LeO.bind ?_ (fun _ => ?_)
set_option maxHeartbeats 8000000 in
set_option maxRecDepth 100000 in
theorem book_Window_52.calls (k : Nat) (A0 : Option Addr) (c0 : Nat) (l0 : List (S69)) (A1 : Option Addr) (c1 : Nat) (l1 : List (S69)) (r : Bool) (w : World) (hr0 : Kd.C k69 w A0 l0.length l0) (hc0 : l0.length ≤ c0) (hr1 : Kd.C k69 w A1 l1.length l1) (hc1 : l1.length ≤ c1) (h : book_Window_52.f k l0 l1 = some r) :
  Calls Tryz.prog 52 #[.slice A0 l0.length c0, .slice A1 l1.length c1] w fun e w' => e = .returned (.bool r) ∧ Drawn0 w w' := by
 have hu69 := Tryz.underlying69
 have HR0 := Aside0.mk hr0
 have HC0 := Aside0.mk hc0
 clear hr0 hc0
 have HR1 := Aside0.mk hr1
 have HC1 := Aside0.mk hc1
 clear hr1 hc1
 have H : (if (l0.length : Int) = (l1.length : Int) then (book_Window_52.l0 k l0 l1 (l0.length : Int) 0) else (some false)) = some r := h
 clear h
 by_cases c3 : (l0.length : Int) = (l1.length : Int)
 ·
  rw [if_pos c3] at H
  have c3b0 : ((l0.length : Int) == (l1.length : Int)) = true := beq_iff_eq.mpr c3
  have c3b1 : ((l0.length : Int) != (l1.length : Int)) = false := bne_eq_false_iff_eq.mpr c3
  have c3b2 : (l0.length == l1.length) = true := by first | simpa using c3 | (simp at c3 ⊢; omega)
  clear c3
  have H' := Aside0.mk H
  clear H
  go_enter Tryz.func52, Tryz.ntmps52
  go_wp2
  repeat (go_quiet (fail); try go_wp2)
  go_loopg [13] k (fun kq v13 w' => ∃ (x13_1 : Int), v13 = .int .i64 x13_1 ∧ Aside0 (book_Window_52.l0 kq l0 l1 (l0.length : Int) x13_1 = some r) ∧ Aside0 (kq ≤ k) ∧ Drawn0 w w')
  case atStart => exact ⟨(0), (by first | rfl | (simp; done) | (simp [*]; done)), H', ⟨Nat.le_refl _⟩, by repeat (first | exact Drawn0.refl _ | apply Drawn0.step)⟩
  case round =>
   clear H'
   try clear c1
   try clear p2
   try clear c3
   try clear c3b0
   try clear c3b1
   try clear c3b2
   obtain ⟨x13_1, rfl, HA, HK1, ⟨m1, rfl⟩⟩ := hrel
   cases gk with
   | zero => exact absurd HA.out (by simp [book_Window_52.l0])
   | succ k1 =>
    have H := HA.out
    clear HA
    simp only [book_Window_52.l0] at H
    by_cases c4 : x13_1 < (l0.length : Int)
    ·
     rw [if_pos c4] at H
     have c4b0 : decide (x13_1 < (l0.length : Int)) = true := decide_eq_true c4
     clear c4
     by_cases c5 : 0 ≤ x13_1
     ·
      rw [if_pos c5] at H
      have c5b0 : decide (0 ≤ x13_1) = true := decide_eq_true c5
      clear c5
      by_cases c6 : x13_1 < (l0.length : Int)
      ·
       rw [if_pos c6] at H
       have c6b0 : decide (x13_1 < (l0.length : Int)) = true := decide_eq_true c6
       clear c6
       by_cases c7 : x13_1 < (l1.length : Int)
       ·
        rw [if_pos c7] at H
        have c7b0 : decide (x13_1 < (l1.length : Int)) = true := decide_eq_true c7
        clear c7
        by_cases c8 : (!(((rd_T69 l0 x13_1).f0) == ((rd_T69 l1 x13_1).f0)) || (!(((rd_T69 l0 x13_1).f1) == ((rd_T69 l1 x13_1).f1)) || (!(((rd_T69 l0 x13_1).f2) == ((rd_T69 l1 x13_1).f2))))) = true
        ·
         rw [if_pos c8] at H
         have c8b0 : (!(((rd_T69 l0 x13_1).f0) == ((rd_T69 l1 x13_1).f0)) || (!(((rd_T69 l0 x13_1).f1) == ((rd_T69 l1 x13_1).f1)) || (!(((rd_T69 l0 x13_1).f2) == ((rd_T69 l1 x13_1).f2))))) = true := c8
         clear c8
         obtain rfl := Option.some.inj H
         have p223 : 0 ≤ (x13_1 : Int) := of_decide_eq_true (by first | (with_reducible assumption) | assumption)
         have q223 : x13_1 < (l0.length : Int) := of_decide_eq_true (by first | (with_reducible assumption) | assumption)
         obtain ⟨ad223, e223, hx223_0, hx223_1, hx223_2⟩ := at_T69 HR0.out x13_1 p223 q223
         cases e223
         replace p223 := eq_true p223
         replace q223 := eq_true q223
         have p224 : 0 ≤ (x13_1 : Int) := of_decide_eq_true (by first | (with_reducible assumption) | assumption)
         have q224 : x13_1 < (l1.length : Int) := of_decide_eq_true (by first | (with_reducible assumption) | assumption)
         obtain ⟨ad224, e224, hx224_0, hx224_1, hx224_2⟩ := at_T69 HR1.out x13_1 p224 q224
         cases e224
         replace p224 := eq_true p224
         replace q224 := eq_true q224
         go_wp2
         repeat (go_quiet (fail); try go_wp2)
         go_ret
         exact ⟨by first | rfl | (simp; done) | (simp [*]; done), by repeat (first | exact Drawn0.refl _ | apply Drawn0.step)⟩
        ·
         rw [if_neg c8] at H
         have c8b0 : (!(((rd_T69 l0 x13_1).f0) == ((rd_T69 l1 x13_1).f0)) || (!(((rd_T69 l0 x13_1).f1) == ((rd_T69 l1 x13_1).f1)) || (!(((rd_T69 l0 x13_1).f2) == ((rd_T69 l1 x13_1).f2))))) = false := by simpa using c8
         clear c8
         have H' := Aside0.mk H
         clear H
         have p223 : 0 ≤ (x13_1 : Int) := of_decide_eq_true (by first | (with_reducible assumption) | assumption)
         have q223 : x13_1 < (l0.length : Int) := of_decide_eq_true (by first | (with_reducible assumption) | assumption)
         obtain ⟨ad223, e223, hx223_0, hx223_1, hx223_2⟩ := at_T69 HR0.out x13_1 p223 q223
         cases e223
         replace p223 := eq_true p223
         replace q223 := eq_true q223
         have p224 : 0 ≤ (x13_1 : Int) := of_decide_eq_true (by first | (with_reducible assumption) | assumption)
         have q224 : x13_1 < (l1.length : Int) := of_decide_eq_true (by first | (with_reducible assumption) | assumption)
         obtain ⟨ad224, e224, hx224_0, hx224_1, hx224_2⟩ := at_T69 HR1.out x13_1 p224 q224
         cases e224
         replace p224 := eq_true p224
         replace q224 := eq_true q224
         go_wp2
         repeat (go_quiet (fail); try go_wp2)
         go_roundg k1
         case measure => have := HK1.out; omega
         case rel => exact ⟨(wrap64 (x13_1 + 1)), (by first | rfl | (simp; done) | (simp [*]; done)), H', ⟨by have := HK1.out; omega⟩, by repeat (first | exact Drawn0.refl _ | apply Drawn0.step)⟩
       ·
        rw [if_neg c7] at H
        exact absurd H (by simp)
      ·
       rw [if_neg c6] at H
       exact absurd H (by simp)
     ·
      rw [if_neg c5] at H
      exact absurd H (by simp)
    ·
     rw [if_neg c4] at H
     have c4b0 : decide (x13_1 < (l0.length : Int)) = false := decide_eq_false c4
     clear c4
     obtain rfl := Option.some.inj H
     go_wp2
     repeat (go_quiet (fail); try go_wp2)
     go_ret
     exact ⟨by first | rfl | (simp; done) | (simp [*]; done), by repeat (first | exact Drawn0.refl _ | apply Drawn0.step)⟩
 ·
  rw [if_neg c3] at H
  have c3b0 : ((l0.length : Int) == (l1.length : Int)) = false := beq_eq_false_iff_ne.mpr c3
  have c3b1 : ((l0.length : Int) != (l1.length : Int)) = true := bne_iff_ne.mpr c3
  have c3b2 : (l0.length == l1.length) = false := by first | simpa using c3 | (simp at c3 ⊢; omega)
  obtain rfl := Option.some.inj H
  go_enter Tryz.func52, Tryz.ntmps52
  go_wp2
  repeat (go_quiet (fail); try go_wp2)
  go_ret
  exact ⟨by first | rfl | (simp; done) | (simp [*]; done), by repeat (first | exact Drawn0.refl _ | apply Drawn0.step)⟩

/-! ### book_Same_1: function 51 -/
def book_Same_1.f (k : Nat) (a0_0 : ByteArray) (a0_1 : Int) (l0_2 : List (S69)) (a1_0 : ByteArray) (a1_1 : Int) (l1_2 : List (S69)) : Option (Bool) := if a0_0.toList = a1_0.toList then (if a0_1 = a1_1 then ((book_Window_52.f k l0_2 l1_2).bind fun t227 => (some t227)) else (some false)) else (some false)
theorem book_Same_1.mono : ∀ a0 a1 a2 a3 a4 a5 k, LeO (book_Same_1.f k a0 a1 a2 a3 a4 a5) (book_Same_1.f (k + 1) a0 a1 a2 a3 a4 a5) := by
  intro a0 a1 a2 a3 a4 a5 k
  unfold book_Same_1.f
  repeat' first
      | (with_reducible exact book_Window_52.mono _ _ _)
      | (with_reducible exact LeO.refl _)
      | (with_reducible exact LeO.none _)
      | (with_reducible refine LeO.ite ?_ ?_)
      | (with_reducible refine LeO.bind ?_ (fun _ => ?_))
      | exact book_Window_52.mono _ _ _
      | exact LeO.none _
      | refine LeO.ite ?_ ?_
      | refine LeO.bind ?_ (fun _ => ?_)
set_option maxHeartbeats 8000000 in
set_option maxRecDepth 100000 in
theorem book_Same_1.calls (k : Nat) (a0_0 : ByteArray) (a0_1 : Int) (A0_2 : Option Addr) (c0_2 : Nat) (l0_2 : List (S69)) (a1_0 : ByteArray) (a1_1 : Int) (A1_2 : Option Addr) (c1_2 : Nat) (l1_2 : List (S69)) (r : Bool) (w : World) (hr0_2 : Kd.C k69 w A0_2 l0_2.length l0_2) (hc0_2 : l0_2.length ≤ c0_2) (hr1_2 : Kd.C k69 w A1_2 l1_2.length l1_2) (hc1_2 : l1_2.length ≤ c1_2) (h : book_Same_1.f k a0_0 a0_1 l0_2 a1_0 a1_1 l1_2 = some r) :
    Calls Tryz.prog 51 #[.agg #[.string a0_0, .int .i64 a0_1, .slice A0_2 l0_2.length c0_2], .agg #[.string a1_0, .int .i64 a1_1, .slice A1_2 l1_2.length c1_2]] w fun e w' => e = .returned (.bool r) ∧ Below w.heap.size w w' := by
 have HR0_2 := Aside0.mk hr0_2
 have HC0_2 := Aside0.mk hc0_2
 clear hr0_2 hc0_2
 have HR1_2 := Aside0.mk hr1_2
 have HC1_2 := Aside0.mk hc1_2
 clear hr1_2 hc1_2
 unfold book_Same_1.f at h
 have H := Aside0.mk h
 clear h
 have HB := Aside0.mk (Below.refl w.heap.size w)
 have hu67 := Tryz.underlying67
 go_enter Tryz.func51, Tryz.ntmps51
 have BK261 := Aside0.mk (pe_box0 w #[.string a0_0, .int .i64 a0_1, .slice A0_2 l0_2.length c0_2] 67)
 replace HB := Aside0.mk (below_alloc HB.out (.cells #[.string a0_0, .int .i64 a0_1, .slice A0_2 l0_2.length c0_2] 67))
 by_cases c263 : a0_0.toList = a1_0.toList
 · have H1 := H.out
   rw [if_pos c263] at H1
   replace H := Aside0.mk H1
   clear H1
   have c263b0 : (a0_0.toList == a1_0.toList) = true := beq_iff_eq.mpr c263
   have c263b1 : (a0_0.toList != a1_0.toList) = false := bne_eq_false_iff_eq.mpr c263
   have Kc263 := Aside0.mk c263
   clear c263
   by_cases c264 : a0_1 = a1_1
   · have H1 := H.out
     rw [if_pos c264] at H1
     replace H := Aside0.mk H1
     clear H1
     have c264b0 : (a0_1 == a1_1) = true := beq_iff_eq.mpr c264
     have c264b1 : (a0_1 != a1_1) = false := bne_eq_false_iff_eq.mpr c264
     have Kc264 := Aside0.mk c264
     clear c264
     have BK262 := Aside0.mk (pe_box1 w (.cells #[.string a0_0, .int .i64 a0_1, .slice A0_2 l0_2.length c0_2] 67) #[.string a1_0, .int .i64 a1_1, .slice A1_2 l1_2.length c1_2] 67)
     replace BK261 := Aside0.mk (blk_below BK261.out (alloc_below0 _ (.cells #[.string a1_0, .int .i64 a1_1, .slice A1_2 l1_2.length c1_2] 67)))
     replace HB := Aside0.mk (below_alloc HB.out (.cells #[.string a1_0, .int .i64 a1_1, .slice A1_2 l1_2.length c1_2] 67))
     obtain ⟨t227, q265, H1⟩ := Option.bind_eq_some_iff.mp H.out
     replace H := Aside0.mk H1
     replace q265 := Aside0.mk q265
     clear H1
     go_wp2_with fail
     (with_reducible refine (book_Window_52.calls k _ _ l0_2 _ _ l1_2 t227 _ (Kd.C_below HR0_2.out HB.out) HC0_2.out (Kd.C_below HR1_2.out HB.out) HC1_2.out q265.out).mono ?_)
     clear q265
     rintro e w266 ⟨rfl, hd⟩
     have hb := hd.below
     clear hd
     replace HB := Aside0.mk (below_step HB.out hb)
     replace BK261 := Aside0.mk (blk_below BK261.out hb)
     replace BK262 := Aside0.mk (blk_below BK262.out hb)
     clear hb
     obtain ⟨hz267_261_0, hz267_261_1, hz267_261_2, hf267_261_0, hf267_261_1, hf267_261_2⟩ := blk3 BK261.out
     obtain ⟨hz267_262_0, hz267_262_1, hz267_262_2, hf267_262_0, hf267_262_1, hf267_262_2⟩ := blk3 BK262.out
     obtain rfl := Option.some.inj H.out
     go_wp2
     go_ret
     exact ⟨by first | rfl | (simp; done) | (simp [*]; done), HB.out⟩
   · have H1 := H.out
     rw [if_neg c264] at H1
     replace H := Aside0.mk H1
     clear H1
     have c264b0 : (a0_1 == a1_1) = false := beq_eq_false_iff_ne.mpr c264
     have c264b1 : (a0_1 != a1_1) = true := bne_iff_ne.mpr c264
     have Kc264 := Aside0.mk c264
     clear c264
     have BK262 := Aside0.mk (pe_box1 w (.cells #[.string a0_0, .int .i64 a0_1, .slice A0_2 l0_2.length c0_2] 67) #[.string a1_0, .int .i64 a1_1, .slice A1_2 l1_2.length c1_2] 67)
     replace BK261 := Aside0.mk (blk_below BK261.out (alloc_below0 _ (.cells #[.string a1_0, .int .i64 a1_1, .slice A1_2 l1_2.length c1_2] 67)))
     replace HB := Aside0.mk (below_alloc HB.out (.cells #[.string a1_0, .int .i64 a1_1, .slice A1_2 l1_2.length c1_2] 67))
     obtain rfl := Option.some.inj H.out
     go_wp2
     go_ret
     exact ⟨by first | rfl | (simp; done) | (simp [*]; done), HB.out⟩
 · have H1 := H.out
   rw [if_neg c263] at H1
   replace H := Aside0.mk H1
   clear H1
   have c263b0 : (a0_0.toList == a1_0.toList) = false := beq_eq_false_iff_ne.mpr c263
   have c263b1 : (a0_0.toList != a1_0.toList) = true := bne_iff_ne.mpr c263
   have Kc263 := Aside0.mk c263
   clear c263
   have BK262 := Aside0.mk (pe_box1 w (.cells #[.string a0_0, .int .i64 a0_1, .slice A0_2 l0_2.length c0_2] 67) #[.string a1_0, .int .i64 a1_1, .slice A1_2 l1_2.length c1_2] 67)
   replace BK261 := Aside0.mk (blk_below BK261.out (alloc_below0 _ (.cells #[.string a1_0, .int .i64 a1_1, .slice A1_2 l1_2.length c1_2] 67)))
   replace HB := Aside0.mk (below_alloc HB.out (.cells #[.string a1_0, .int .i64 a1_1, .slice A1_2 l1_2.length c1_2] 67))
   obtain rfl := Option.some.inj H.out
   go_wp2
   go_ret
   exact ⟨by first | rfl | (simp; done) | (simp [*]; done), HB.out⟩

/-! ### book_End_55: function 55 -/
def book_End_55.l0 : Nat → List (S71) → List (S71) → Int → Int → Option (Bool)
 | 0, _, _, _, _ => none
 | k + 1, x0, x1, x12, x13 => if x13 < x12 then (if 0 ≤ x13 then (if x13 < (x0.length : Int) then (if x13 < (x1.length : Int) then (if (!(((rd_T71 x0 x13).f0) == ((rd_T71 x1 x13).f0)) || (!(((rd_T71 x0 x13).f1) == ((rd_T71 x1 x13).f1)))) = true then (some false) else (book_End_55.l0 k x0 x1 x12 (wrap64 (x13 + 1)))) else (none)) else (none)) else (none)) else (some true)
def book_End_55.f (k : Nat) (l0 : List (S71)) (l1 : List (S71)) : Option (Bool) := if (l0.length : Int) = (l1.length : Int) then (book_End_55.l0 k l0 l1 (l0.length : Int) 0) else (some false)
theorem book_End_55.mono_l : ∀ k, (∀ y0 y1 y2 y3, LeO (book_End_55.l0 k y0 y1 y2 y3) (book_End_55.l0 (k + 1) y0 y1 y2 y3))
 | 0 => fun _ _ _ _ r h => by simp [book_End_55.l0] at h
 | k + 1 => by
  have ih0 := book_End_55.mono_l k
  ·
   intro y0 y1 y2 y3
   unfold book_End_55.l0
   repeat' first
   | (with_reducible exact ih0 _ _ _ _)
   | (with_reducible exact LeO.refl _)
   | (with_reducible exact LeO.none _)
   | (with_reducible refine LeO.ite ?_ ?_)
   | (with_reducible refine LeO.bind ?_ (fun _ => ?_))
   | exact ih0 _ _ _ _
   | exact LeO.none _
   | refine LeO.ite ?_ ?_
   | refine LeO.bind ?_ (fun _ => ?_)
theorem book_End_55.mono : ∀ a0 a1 k, LeO (book_End_55.f k a0 a1) (book_End_55.f (k + 1) a0 a1) := by
 intro a0 a1 k
 have ih0 := book_End_55.mono_l k
 unfold book_End_55.f
 repeat' first
   | (with_reducible exact ih0 _ _ _ _)
   | (with_reducible exact LeO.refl _)
   | (with_reducible exact LeO.none _)
   | (with_reducible refine LeO.ite ?_ ?_)
   | (with_reducible refine LeO.bind ?_ (fun _ => ?_))
   | exact ih0 _ _ _ _
   | exact LeO.none _
   | refine LeO.ite ?_ ?_
   | refine LeO.bind ?_ (fun _ => ?_)
set_option maxHeartbeats 8000000 in
set_option maxRecDepth 100000 in
theorem book_End_55.calls (k : Nat) (A0 : Option Addr) (c0 : Nat) (l0 : List (S71)) (A1 : Option Addr) (c1 : Nat) (l1 : List (S71)) (r : Bool) (w : World) (hr0 : Kd.C k71 w A0 l0.length l0) (hc0 : l0.length ≤ c0) (hr1 : Kd.C k71 w A1 l1.length l1) (hc1 : l1.length ≤ c1) (h : book_End_55.f k l0 l1 = some r) :
  Calls Tryz.prog 55 #[.slice A0 l0.length c0, .slice A1 l1.length c1] w fun e w' => e = .returned (.bool r) ∧ Drawn0 w w' := by
 have hu71 := Tryz.underlying71
 have HR0 := Aside0.mk hr0
 have HC0 := Aside0.mk hc0
 clear hr0 hc0
 have HR1 := Aside0.mk hr1
 have HC1 := Aside0.mk hc1
 clear hr1 hc1
 have H : (if (l0.length : Int) = (l1.length : Int) then (book_End_55.l0 k l0 l1 (l0.length : Int) 0) else (some false)) = some r := h
 clear h
 by_cases c3 : (l0.length : Int) = (l1.length : Int)
 ·
  rw [if_pos c3] at H
  have c3b0 : ((l0.length : Int) == (l1.length : Int)) = true := beq_iff_eq.mpr c3
  have c3b1 : ((l0.length : Int) != (l1.length : Int)) = false := bne_eq_false_iff_eq.mpr c3
  have c3b2 : (l0.length == l1.length) = true := by first | simpa using c3 | (simp at c3 ⊢; omega)
  clear c3
  have H' := Aside0.mk H
  clear H
  go_enter Tryz.func55, Tryz.ntmps55
  go_wp2
  repeat (go_quiet (fail); try go_wp2)
  go_loopg [13] k (fun kq v13 w' => ∃ (x13_1 : Int), v13 = .int .i64 x13_1 ∧ Aside0 (book_End_55.l0 kq l0 l1 (l0.length : Int) x13_1 = some r) ∧ Aside0 (kq ≤ k) ∧ Drawn0 w w')
  case atStart => exact ⟨(0), (by first | rfl | (simp; done) | (simp [*]; done)), H', ⟨Nat.le_refl _⟩, by repeat (first | exact Drawn0.refl _ | apply Drawn0.step)⟩
  case round =>
   clear H'
   try clear c1
   try clear p2
   try clear c3
   try clear c3b0
   try clear c3b1
   try clear c3b2
   obtain ⟨x13_1, rfl, HA, HK1, ⟨m1, rfl⟩⟩ := hrel
   cases gk with
   | zero => exact absurd HA.out (by simp [book_End_55.l0])
   | succ k1 =>
    have H := HA.out
    clear HA
    simp only [book_End_55.l0] at H
    by_cases c4 : x13_1 < (l0.length : Int)
    ·
     rw [if_pos c4] at H
     have c4b0 : decide (x13_1 < (l0.length : Int)) = true := decide_eq_true c4
     clear c4
     by_cases c5 : 0 ≤ x13_1
     ·
      rw [if_pos c5] at H
      have c5b0 : decide (0 ≤ x13_1) = true := decide_eq_true c5
      clear c5
      by_cases c6 : x13_1 < (l0.length : Int)
      ·
       rw [if_pos c6] at H
       have c6b0 : decide (x13_1 < (l0.length : Int)) = true := decide_eq_true c6
       clear c6
       by_cases c7 : x13_1 < (l1.length : Int)
       ·
        rw [if_pos c7] at H
        have c7b0 : decide (x13_1 < (l1.length : Int)) = true := decide_eq_true c7
        clear c7
        by_cases c8 : (!(((rd_T71 l0 x13_1).f0) == ((rd_T71 l1 x13_1).f0)) || (!(((rd_T71 l0 x13_1).f1) == ((rd_T71 l1 x13_1).f1)))) = true
        ·
         rw [if_pos c8] at H
         have c8b0 : (!(((rd_T71 l0 x13_1).f0) == ((rd_T71 l1 x13_1).f0)) || (!(((rd_T71 l0 x13_1).f1) == ((rd_T71 l1 x13_1).f1)))) = true := c8
         clear c8
         obtain rfl := Option.some.inj H
         have p228 : 0 ≤ (x13_1 : Int) := of_decide_eq_true (by first | (with_reducible assumption) | assumption)
         have q228 : x13_1 < (l0.length : Int) := of_decide_eq_true (by first | (with_reducible assumption) | assumption)
         obtain ⟨ad228, e228, hx228_0, hx228_1⟩ := at_T71 HR0.out x13_1 p228 q228
         cases e228
         replace p228 := eq_true p228
         replace q228 := eq_true q228
         have p229 : 0 ≤ (x13_1 : Int) := of_decide_eq_true (by first | (with_reducible assumption) | assumption)
         have q229 : x13_1 < (l1.length : Int) := of_decide_eq_true (by first | (with_reducible assumption) | assumption)
         obtain ⟨ad229, e229, hx229_0, hx229_1⟩ := at_T71 HR1.out x13_1 p229 q229
         cases e229
         replace p229 := eq_true p229
         replace q229 := eq_true q229
         go_wp2
         repeat (go_quiet (fail); try go_wp2)
         go_ret
         exact ⟨by first | rfl | (simp; done) | (simp [*]; done), by repeat (first | exact Drawn0.refl _ | apply Drawn0.step)⟩
        ·
         rw [if_neg c8] at H
         have c8b0 : (!(((rd_T71 l0 x13_1).f0) == ((rd_T71 l1 x13_1).f0)) || (!(((rd_T71 l0 x13_1).f1) == ((rd_T71 l1 x13_1).f1)))) = false := by simpa using c8
         clear c8
         have H' := Aside0.mk H
         clear H
         have p228 : 0 ≤ (x13_1 : Int) := of_decide_eq_true (by first | (with_reducible assumption) | assumption)
         have q228 : x13_1 < (l0.length : Int) := of_decide_eq_true (by first | (with_reducible assumption) | assumption)
         obtain ⟨ad228, e228, hx228_0, hx228_1⟩ := at_T71 HR0.out x13_1 p228 q228
         cases e228
         replace p228 := eq_true p228
         replace q228 := eq_true q228
         have p229 : 0 ≤ (x13_1 : Int) := of_decide_eq_true (by first | (with_reducible assumption) | assumption)
         have q229 : x13_1 < (l1.length : Int) := of_decide_eq_true (by first | (with_reducible assumption) | assumption)
         obtain ⟨ad229, e229, hx229_0, hx229_1⟩ := at_T71 HR1.out x13_1 p229 q229
         cases e229
         replace p229 := eq_true p229
         replace q229 := eq_true q229
         go_wp2
         repeat (go_quiet (fail); try go_wp2)
         go_roundg k1
         case measure => have := HK1.out; omega
         case rel => exact ⟨(wrap64 (x13_1 + 1)), (by first | rfl | (simp; done) | (simp [*]; done)), H', ⟨by have := HK1.out; omega⟩, by repeat (first | exact Drawn0.refl _ | apply Drawn0.step)⟩
       ·
        rw [if_neg c7] at H
        exact absurd H (by simp)
      ·
       rw [if_neg c6] at H
       exact absurd H (by simp)
     ·
      rw [if_neg c5] at H
      exact absurd H (by simp)
    ·
     rw [if_neg c4] at H
     have c4b0 : decide (x13_1 < (l0.length : Int)) = false := decide_eq_false c4
     clear c4
     obtain rfl := Option.some.inj H
     go_wp2
     repeat (go_quiet (fail); try go_wp2)
     go_ret
     exact ⟨by first | rfl | (simp; done) | (simp [*]; done), by repeat (first | exact Drawn0.refl _ | apply Drawn0.step)⟩
 ·
  rw [if_neg c3] at H
  have c3b0 : ((l0.length : Int) == (l1.length : Int)) = false := beq_eq_false_iff_ne.mpr c3
  have c3b1 : ((l0.length : Int) != (l1.length : Int)) = true := bne_iff_ne.mpr c3
  have c3b2 : (l0.length == l1.length) = false := by first | simpa using c3 | (simp at c3 ⊢; omega)
  obtain rfl := Option.some.inj H
  go_enter Tryz.func55, Tryz.ntmps55
  go_wp2
  repeat (go_quiet (fail); try go_wp2)
  go_ret
  exact ⟨by first | rfl | (simp; done) | (simp [*]; done), by repeat (first | exact Drawn0.refl _ | apply Drawn0.step)⟩

/-! ### book_Same_2: function 54 -/
def book_Same_2.f (k : Nat) (a0_0 : Int) (a0_1 : Int) (l0_2 : List (S71)) (a1_0 : Int) (a1_1 : Int) (l1_2 : List (S71)) : Option (Bool) := if (a0_0 == a1_0 && (a0_1 == a1_1)) = true then ((book_End_55.f k l0_2 l1_2).bind fun t232 => (some t232)) else (some false)
theorem book_Same_2.mono : ∀ a0 a1 a2 a3 a4 a5 k, LeO (book_Same_2.f k a0 a1 a2 a3 a4 a5) (book_Same_2.f (k + 1) a0 a1 a2 a3 a4 a5) := by
  intro a0 a1 a2 a3 a4 a5 k
  unfold book_Same_2.f
  repeat' first
      | (with_reducible exact book_End_55.mono _ _ _)
      | (with_reducible exact LeO.refl _)
      | (with_reducible exact LeO.none _)
      | (with_reducible refine LeO.ite ?_ ?_)
      | (with_reducible refine LeO.bind ?_ (fun _ => ?_))
      | exact book_End_55.mono _ _ _
      | exact LeO.none _
      | refine LeO.ite ?_ ?_
      | refine LeO.bind ?_ (fun _ => ?_)
set_option maxHeartbeats 8000000 in
set_option maxRecDepth 100000 in
theorem book_Same_2.calls (k : Nat) (a0_0 : Int) (a0_1 : Int) (A0_2 : Option Addr) (c0_2 : Nat) (l0_2 : List (S71)) (a1_0 : Int) (a1_1 : Int) (A1_2 : Option Addr) (c1_2 : Nat) (l1_2 : List (S71)) (r : Bool) (w : World) (hr0_2 : Kd.C k71 w A0_2 l0_2.length l0_2) (hc0_2 : l0_2.length ≤ c0_2) (hr1_2 : Kd.C k71 w A1_2 l1_2.length l1_2) (hc1_2 : l1_2.length ≤ c1_2) (h : book_Same_2.f k a0_0 a0_1 l0_2 a1_0 a1_1 l1_2 = some r) :
    Calls Tryz.prog 54 #[.agg #[.int .i64 a0_0, .int .i64 a0_1, .slice A0_2 l0_2.length c0_2], .agg #[.int .i64 a1_0, .int .i64 a1_1, .slice A1_2 l1_2.length c1_2]] w fun e w' => e = .returned (.bool r) ∧ Below w.heap.size w w' := by
 have HR0_2 := Aside0.mk hr0_2
 have HC0_2 := Aside0.mk hc0_2
 clear hr0_2 hc0_2
 have HR1_2 := Aside0.mk hr1_2
 have HC1_2 := Aside0.mk hc1_2
 clear hr1_2 hc1_2
 unfold book_Same_2.f at h
 have H := Aside0.mk h
 clear h
 have HB := Aside0.mk (Below.refl w.heap.size w)
 have hu74 := Tryz.underlying74
 go_enter Tryz.func54, Tryz.ntmps54
 have BK268 := Aside0.mk (pe_box0 w #[.int .i64 a0_0, .int .i64 a0_1, .slice A0_2 l0_2.length c0_2] 74)
 replace HB := Aside0.mk (below_alloc HB.out (.cells #[.int .i64 a0_0, .int .i64 a0_1, .slice A0_2 l0_2.length c0_2] 74))
 by_cases c270 : (a0_0 == a1_0 && (a0_1 == a1_1)) = true
 · have H1 := H.out
   rw [if_pos c270] at H1
   replace H := Aside0.mk H1
   clear H1
   have c270b0 : (a0_0 == a1_0 && (a0_1 == a1_1)) = true := c270
   (try (have c270b1 : decide (a0_0 = a1_0 && (a0_1 == a1_1)) = true := by simpa using c270))
   (try (have c270b2 : (a0_0 == a1_0 && (a0_1 == a1_1)) = true := by simpa using c270))
   have Kc270 := Aside0.mk c270
   clear c270
   have BK269 := Aside0.mk (pe_box1 w (.cells #[.int .i64 a0_0, .int .i64 a0_1, .slice A0_2 l0_2.length c0_2] 74) #[.int .i64 a1_0, .int .i64 a1_1, .slice A1_2 l1_2.length c1_2] 74)
   replace BK268 := Aside0.mk (blk_below BK268.out (alloc_below0 _ (.cells #[.int .i64 a1_0, .int .i64 a1_1, .slice A1_2 l1_2.length c1_2] 74)))
   replace HB := Aside0.mk (below_alloc HB.out (.cells #[.int .i64 a1_0, .int .i64 a1_1, .slice A1_2 l1_2.length c1_2] 74))
   obtain ⟨t232, q271, H1⟩ := Option.bind_eq_some_iff.mp H.out
   replace H := Aside0.mk H1
   replace q271 := Aside0.mk q271
   clear H1
   go_wp2_with fail
   (with_reducible refine (book_End_55.calls k _ _ l0_2 _ _ l1_2 t232 _ (Kd.C_below HR0_2.out HB.out) HC0_2.out (Kd.C_below HR1_2.out HB.out) HC1_2.out q271.out).mono ?_)
   clear q271
   rintro e w272 ⟨rfl, hd⟩
   have hb := hd.below
   clear hd
   replace HB := Aside0.mk (below_step HB.out hb)
   replace BK268 := Aside0.mk (blk_below BK268.out hb)
   replace BK269 := Aside0.mk (blk_below BK269.out hb)
   clear hb
   obtain ⟨hz273_268_0, hz273_268_1, hz273_268_2, hf273_268_0, hf273_268_1, hf273_268_2⟩ := blk3 BK268.out
   obtain ⟨hz273_269_0, hz273_269_1, hz273_269_2, hf273_269_0, hf273_269_1, hf273_269_2⟩ := blk3 BK269.out
   obtain rfl := Option.some.inj H.out
   go_wp2
   go_ret
   exact ⟨by first | rfl | (simp; done) | (simp [*]; done), HB.out⟩
 · have H1 := H.out
   rw [if_neg c270] at H1
   replace H := Aside0.mk H1
   clear H1
   have c270b0 : (a0_0 == a1_0 && (a0_1 == a1_1)) = false := by simpa using c270
   (try (have c270b1 : decide (a0_0 = a1_0 && (a0_1 == a1_1)) = false := by simpa using c270))
   (try (have c270b2 : (a0_0 == a1_0 && (a0_1 == a1_1)) = false := by simpa using c270))
   (try (have c270b3 : ¬ (a0_0 = a1_0 && (a0_1 == a1_1)) := by simpa using c270))
   have Kc270 := Aside0.mk c270
   clear c270
   have BK269 := Aside0.mk (pe_box1 w (.cells #[.int .i64 a0_0, .int .i64 a0_1, .slice A0_2 l0_2.length c0_2] 74) #[.int .i64 a1_0, .int .i64 a1_1, .slice A1_2 l1_2.length c1_2] 74)
   replace BK268 := Aside0.mk (blk_below BK268.out (alloc_below0 _ (.cells #[.int .i64 a1_0, .int .i64 a1_1, .slice A1_2 l1_2.length c1_2] 74)))
   replace HB := Aside0.mk (below_alloc HB.out (.cells #[.int .i64 a1_0, .int .i64 a1_1, .slice A1_2 l1_2.length c1_2] 74))
   obtain rfl := Option.some.inj H.out
   go_wp2
   go_ret
   exact ⟨by first | rfl | (simp; done) | (simp [*]; done), HB.out⟩

/-! ### book_Link_56: function 56 -/
def book_Link_56.l0 : Nat → List (S77) → List (S77) → Int → Int → Option (Bool)
 | 0, _, _, _, _ => none
 | k + 1, x0, x1, x12, x13 => if x13 < x12 then (if 0 ≤ x13 then (if x13 < (x0.length : Int) then (if x13 < (x1.length : Int) then (if (!((((rd_T77 x0 x13).f0).toList) == (((rd_T77 x1 x13).f0).toList)) || (!(((rd_T77 x0 x13).f1) == ((rd_T77 x1 x13).f1)) || (!(((rd_T77 x0 x13).f2) == ((rd_T77 x1 x13).f2))))) = true then (some false) else (book_Link_56.l0 k x0 x1 x12 (wrap64 (x13 + 1)))) else (none)) else (none)) else (none)) else (some true)
def book_Link_56.f (k : Nat) (l0 : List (S77)) (l1 : List (S77)) : Option (Bool) := if (l0.length : Int) = (l1.length : Int) then (book_Link_56.l0 k l0 l1 (l0.length : Int) 0) else (some false)
theorem book_Link_56.mono_l : ∀ k, (∀ y0 y1 y2 y3, LeO (book_Link_56.l0 k y0 y1 y2 y3) (book_Link_56.l0 (k + 1) y0 y1 y2 y3))
 | 0 => fun _ _ _ _ r h => by simp [book_Link_56.l0] at h
 | k + 1 => by
  have ih0 := book_Link_56.mono_l k
  ·
   intro y0 y1 y2 y3
   unfold book_Link_56.l0
   repeat' first
   | (with_reducible exact ih0 _ _ _ _)
   | (with_reducible exact LeO.refl _)
   | (with_reducible exact LeO.none _)
   | (with_reducible refine LeO.ite ?_ ?_)
   | (with_reducible refine LeO.bind ?_ (fun _ => ?_))
   | exact ih0 _ _ _ _
   | exact LeO.none _
   | refine LeO.ite ?_ ?_
   | refine LeO.bind ?_ (fun _ => ?_)
theorem book_Link_56.mono : ∀ a0 a1 k, LeO (book_Link_56.f k a0 a1) (book_Link_56.f (k + 1) a0 a1) := by
 intro a0 a1 k
 have ih0 := book_Link_56.mono_l k
 unfold book_Link_56.f
 repeat' first
   | (with_reducible exact ih0 _ _ _ _)
   | (with_reducible exact LeO.refl _)
   | (with_reducible exact LeO.none _)
   | (with_reducible refine LeO.ite ?_ ?_)
   | (with_reducible refine LeO.bind ?_ (fun _ => ?_))
   | exact ih0 _ _ _ _
   | exact LeO.none _
   | refine LeO.ite ?_ ?_
   | refine LeO.bind ?_ (fun _ => ?_)
set_option maxHeartbeats 8000000 in
set_option maxRecDepth 100000 in
theorem book_Link_56.calls (k : Nat) (A0 : Option Addr) (c0 : Nat) (l0 : List (S77)) (A1 : Option Addr) (c1 : Nat) (l1 : List (S77)) (r : Bool) (w : World) (hr0 : Kd.C k77 w A0 l0.length l0) (hc0 : l0.length ≤ c0) (hr1 : Kd.C k77 w A1 l1.length l1) (hc1 : l1.length ≤ c1) (h : book_Link_56.f k l0 l1 = some r) :
  Calls Tryz.prog 56 #[.slice A0 l0.length c0, .slice A1 l1.length c1] w fun e w' => e = .returned (.bool r) ∧ Drawn0 w w' := by
 have hu77 := Tryz.underlying77
 have HR0 := Aside0.mk hr0
 have HC0 := Aside0.mk hc0
 clear hr0 hc0
 have HR1 := Aside0.mk hr1
 have HC1 := Aside0.mk hc1
 clear hr1 hc1
 have H : (if (l0.length : Int) = (l1.length : Int) then (book_Link_56.l0 k l0 l1 (l0.length : Int) 0) else (some false)) = some r := h
 clear h
 by_cases c3 : (l0.length : Int) = (l1.length : Int)
 ·
  rw [if_pos c3] at H
  have c3b0 : ((l0.length : Int) == (l1.length : Int)) = true := beq_iff_eq.mpr c3
  have c3b1 : ((l0.length : Int) != (l1.length : Int)) = false := bne_eq_false_iff_eq.mpr c3
  have c3b2 : (l0.length == l1.length) = true := by first | simpa using c3 | (simp at c3 ⊢; omega)
  clear c3
  have H' := Aside0.mk H
  clear H
  go_enter Tryz.func56, Tryz.ntmps56
  go_wp2
  repeat (go_quiet (fail); try go_wp2)
  go_loopg [13] k (fun kq v13 w' => ∃ (x13_1 : Int), v13 = .int .i64 x13_1 ∧ Aside0 (book_Link_56.l0 kq l0 l1 (l0.length : Int) x13_1 = some r) ∧ Aside0 (kq ≤ k) ∧ Drawn0 w w')
  case atStart => exact ⟨(0), (by first | rfl | (simp; done) | (simp [*]; done)), H', ⟨Nat.le_refl _⟩, by repeat (first | exact Drawn0.refl _ | apply Drawn0.step)⟩
  case round =>
   clear H'
   try clear c1
   try clear p2
   try clear c3
   try clear c3b0
   try clear c3b1
   try clear c3b2
   obtain ⟨x13_1, rfl, HA, HK1, ⟨m1, rfl⟩⟩ := hrel
   cases gk with
   | zero => exact absurd HA.out (by simp [book_Link_56.l0])
   | succ k1 =>
    have H := HA.out
    clear HA
    simp only [book_Link_56.l0] at H
    by_cases c4 : x13_1 < (l0.length : Int)
    ·
     rw [if_pos c4] at H
     have c4b0 : decide (x13_1 < (l0.length : Int)) = true := decide_eq_true c4
     clear c4
     by_cases c5 : 0 ≤ x13_1
     ·
      rw [if_pos c5] at H
      have c5b0 : decide (0 ≤ x13_1) = true := decide_eq_true c5
      clear c5
      by_cases c6 : x13_1 < (l0.length : Int)
      ·
       rw [if_pos c6] at H
       have c6b0 : decide (x13_1 < (l0.length : Int)) = true := decide_eq_true c6
       clear c6
       by_cases c7 : x13_1 < (l1.length : Int)
       ·
        rw [if_pos c7] at H
        have c7b0 : decide (x13_1 < (l1.length : Int)) = true := decide_eq_true c7
        clear c7
        by_cases c8 : (!((((rd_T77 l0 x13_1).f0).toList) == (((rd_T77 l1 x13_1).f0).toList)) || (!(((rd_T77 l0 x13_1).f1) == ((rd_T77 l1 x13_1).f1)) || (!(((rd_T77 l0 x13_1).f2) == ((rd_T77 l1 x13_1).f2))))) = true
        ·
         rw [if_pos c8] at H
         have c8b0 : (!((((rd_T77 l0 x13_1).f0).toList) == (((rd_T77 l1 x13_1).f0).toList)) || (!(((rd_T77 l0 x13_1).f1) == ((rd_T77 l1 x13_1).f1)) || (!(((rd_T77 l0 x13_1).f2) == ((rd_T77 l1 x13_1).f2))))) = true := c8
         clear c8
         obtain rfl := Option.some.inj H
         have p233 : 0 ≤ (x13_1 : Int) := of_decide_eq_true (by first | (with_reducible assumption) | assumption)
         have q233 : x13_1 < (l0.length : Int) := of_decide_eq_true (by first | (with_reducible assumption) | assumption)
         obtain ⟨ad233, e233, hx233_0, hx233_1, hx233_2⟩ := at_T77 HR0.out x13_1 p233 q233
         cases e233
         replace p233 := eq_true p233
         replace q233 := eq_true q233
         have p234 : 0 ≤ (x13_1 : Int) := of_decide_eq_true (by first | (with_reducible assumption) | assumption)
         have q234 : x13_1 < (l1.length : Int) := of_decide_eq_true (by first | (with_reducible assumption) | assumption)
         obtain ⟨ad234, e234, hx234_0, hx234_1, hx234_2⟩ := at_T77 HR1.out x13_1 p234 q234
         cases e234
         replace p234 := eq_true p234
         replace q234 := eq_true q234
         go_wp2
         repeat (go_quiet (fail); try go_wp2)
         go_ret
         exact ⟨by first | rfl | (simp; done) | (simp [*]; done), by repeat (first | exact Drawn0.refl _ | apply Drawn0.step)⟩
        ·
         rw [if_neg c8] at H
         have c8b0 : (!((((rd_T77 l0 x13_1).f0).toList) == (((rd_T77 l1 x13_1).f0).toList)) || (!(((rd_T77 l0 x13_1).f1) == ((rd_T77 l1 x13_1).f1)) || (!(((rd_T77 l0 x13_1).f2) == ((rd_T77 l1 x13_1).f2))))) = false := by simpa using c8
         clear c8
         have H' := Aside0.mk H
         clear H
         have p233 : 0 ≤ (x13_1 : Int) := of_decide_eq_true (by first | (with_reducible assumption) | assumption)
         have q233 : x13_1 < (l0.length : Int) := of_decide_eq_true (by first | (with_reducible assumption) | assumption)
         obtain ⟨ad233, e233, hx233_0, hx233_1, hx233_2⟩ := at_T77 HR0.out x13_1 p233 q233
         cases e233
         replace p233 := eq_true p233
         replace q233 := eq_true q233
         have p234 : 0 ≤ (x13_1 : Int) := of_decide_eq_true (by first | (with_reducible assumption) | assumption)
         have q234 : x13_1 < (l1.length : Int) := of_decide_eq_true (by first | (with_reducible assumption) | assumption)
         obtain ⟨ad234, e234, hx234_0, hx234_1, hx234_2⟩ := at_T77 HR1.out x13_1 p234 q234
         cases e234
         replace p234 := eq_true p234
         replace q234 := eq_true q234
         go_wp2
         repeat (go_quiet (fail); try go_wp2)
         go_roundg k1
         case measure => have := HK1.out; omega
         case rel => exact ⟨(wrap64 (x13_1 + 1)), (by first | rfl | (simp; done) | (simp [*]; done)), H', ⟨by have := HK1.out; omega⟩, by repeat (first | exact Drawn0.refl _ | apply Drawn0.step)⟩
       ·
        rw [if_neg c7] at H
        exact absurd H (by simp)
      ·
       rw [if_neg c6] at H
       exact absurd H (by simp)
     ·
      rw [if_neg c5] at H
      exact absurd H (by simp)
    ·
     rw [if_neg c4] at H
     have c4b0 : decide (x13_1 < (l0.length : Int)) = false := decide_eq_false c4
     clear c4
     obtain rfl := Option.some.inj H
     go_wp2
     repeat (go_quiet (fail); try go_wp2)
     go_ret
     exact ⟨by first | rfl | (simp; done) | (simp [*]; done), by repeat (first | exact Drawn0.refl _ | apply Drawn0.step)⟩
 ·
  rw [if_neg c3] at H
  have c3b0 : ((l0.length : Int) == (l1.length : Int)) = false := beq_eq_false_iff_ne.mpr c3
  have c3b1 : ((l0.length : Int) != (l1.length : Int)) = true := bne_iff_ne.mpr c3
  have c3b2 : (l0.length == l1.length) = false := by first | simpa using c3 | (simp at c3 ⊢; omega)
  obtain rfl := Option.some.inj H
  go_enter Tryz.func56, Tryz.ntmps56
  go_wp2
  repeat (go_quiet (fail); try go_wp2)
  go_ret
  exact ⟨by first | rfl | (simp; done) | (simp [*]; done), by repeat (first | exact Drawn0.refl _ | apply Drawn0.step)⟩

/-! ### book_Partition_48__49: function 48 at book_Partition_same -/
def book_Partition_48__49.f (k : Nat) (l m : List (S52)) : Option (Bool) := if (l.length : Int) = (m.length : Int) then (if l.length ≤ 140737488351232 then (zipO (fun x y => book_Partition_same.f k (x.f0) (x.f1) (x.f2) (x.f3) (x.f4) (x.f5) (x.f6) (x.f7) (x.f8) (x.f9) (x.f10) (x.f11.f0) (x.f11.f1) (y.f0) (y.f1) (y.f2) (y.f3) (y.f4) (y.f5) (y.f6) (y.f7) (y.f8) (y.f9) (y.f10) (y.f11.f0) (y.f11.f1)) l m) else none) else (some false)
theorem book_Partition_48__49.mono : ∀ a0 a1 k, LeO (book_Partition_48__49.f k a0 a1) (book_Partition_48__49.f (k + 1) a0 a1) := by
  intro a0 a1 k
  unfold book_Partition_48__49.f
  exact LeO.ite (LeO.ite (zipO_mono (fun x y => book_Partition_same.mono _ _ _ _ _ _ _ _ _ _ _ _ _ _ _ _ _ _ _ _ _ _ _ _ _ _ k) a0 a1) (LeO.refl _)) (LeO.refl _)
set_option maxHeartbeats 4000000 in
set_option maxRecDepth 100000 in
theorem book_Partition_48__49.calls (k : Nat) (A0 : Option Addr) (c0 : Nat) (l : List (S52)) (A1 : Option Addr) (c1 : Nat) (m : List (S52)) (r : Bool) (w : World) (hr0 : Kd.C k52 w A0 l.length l) (hc0 : l.length ≤ c0) (hr1 : Kd.C k52 w A1 m.length m) (hc1 : m.length ≤ c1) (h : book_Partition_48__49.f k l m = some r) :
    Calls Tryz.prog 48 #[.slice A0 l.length c0, .slice A1 m.length c1, .func (.func 49) #[] #[]] w fun e w' => e = .returned (.bool r) ∧ Below w.heap.size w w' := by
  unfold book_Partition_48__49.f at h
  have HR0 := Aside0.mk hr0
  have HR1 := Aside0.mk hr1
  clear hr0 hr1
  by_cases hle : (l.length : Int) = (m.length : Int)
  · rw [if_pos hle] at h
    obtain ⟨hL, h2⟩ := if_some h
    clear h
    have h := h2
    clear h2
    have hd : ((l.length : Int) != (m.length : Int)) = false := by rw [hle]; simp
    have hd2 : (l.length != m.length) = false := by have : l.length = m.length := by omega
                                                    rw [this]; simp
    have HE : Aside0 (l.length = m.length) := ⟨by omega⟩
    have H0 : Aside0 (zipO (fun x y => book_Partition_same.f k (x.f0) (x.f1) (x.f2) (x.f3) (x.f4) (x.f5) (x.f6) (x.f7) (x.f8) (x.f9) (x.f10) (x.f11.f0) (x.f11.f1) (y.f0) (y.f1) (y.f2) (y.f3) (y.f4) (y.f5) (y.f6) (y.f7) (y.f8) (y.f9) (y.f10) (y.f11.f0) (y.f11.f1)) (l.drop 0) (m.drop 0) = some r) := ⟨by simpa using h⟩
    clear h hle
    go_enter Tryz.func48, Tryz.ntmps48
    go_wp2
    go_loopw [17] (fun v17 wr => ∃ j : Nat, v17 = .int .i64 (j : Int) ∧ j ≤ l.length ∧ Aside0 (zipO (fun x y => book_Partition_same.f k (x.f0) (x.f1) (x.f2) (x.f3) (x.f4) (x.f5) (x.f6) (x.f7) (x.f8) (x.f9) (x.f10) (x.f11.f0) (x.f11.f1) (y.f0) (y.f1) (y.f2) (y.f3) (y.f4) (y.f5) (y.f6) (y.f7) (y.f8) (y.f9) (y.f10) (y.f11.f0) (y.f11.f1)) (l.drop j) (m.drop j) = some r) ∧ Aside0 (Below w.heap.size w wr)) (fun v17 _ => l.length - (intOf v17).toNat)
    case atStart => exact ⟨0, rfl, Nat.zero_le _, H0, ⟨Below.refl _ _⟩⟩
    case round =>
      clear H0
      obtain ⟨j, rfl, hj, HA, HB⟩ := hrel
      by_cases hlt : j < l.length
      · have hlm : j < m.length := by have := HE.out; omega
        have p7 : (0 : Int) ≤ (j : Int) := by omega
        have q7 : (j : Int) < (l.length : Int) := by omega
        have p8 : (0 : Int) ≤ (j : Int) := by omega
        have q8 : (j : Int) < (m.length : Int) := by omega
        obtain ⟨b, hb1, hb2, hb3⟩ := zipO_cons hlt hlm HA.out
        have HB1 := Aside0.mk hb1
        have HB2 := Aside0.mk hb2
        have HB3 := Aside0.mk hb3
        clear hb1 hb2 hb3
        obtain ⟨ad7, A7_1, c7_1, A7_2, c7_2, A7_3, c7_3, A7_4, c7_4, A7_5, c7_5, A7_6, c7_6, A7_7, c7_7, A7_8, c7_8, A7_9, c7_9, e7, hx7_0, hx7_1, hx7_2, hx7_3, hx7_4, hx7_5, hx7_6, hx7_7, hx7_8, hx7_9, hx7_10, hx7_11, hx7_12, hl7_1, hi7_1, hl7_2, hi7_2, hl7_3, hi7_3, hl7_4, hi7_4, hl7_5, hi7_5, hl7_6, hi7_6, hl7_7, hi7_7, hl7_8, hi7_8, hl7_9, hi7_9⟩ := at_T52 HR0.out (j : Int) p7 q7
        cases e7
        replace hx7_0 := (HB.out.cell (World.block_lt_of_cell? w _ hx7_0)).trans hx7_0
        replace hx7_1 := (HB.out.cell (World.block_lt_of_cell? w _ hx7_1)).trans hx7_1
        replace hx7_2 := (HB.out.cell (World.block_lt_of_cell? w _ hx7_2)).trans hx7_2
        replace hx7_3 := (HB.out.cell (World.block_lt_of_cell? w _ hx7_3)).trans hx7_3
        replace hx7_4 := (HB.out.cell (World.block_lt_of_cell? w _ hx7_4)).trans hx7_4
        replace hx7_5 := (HB.out.cell (World.block_lt_of_cell? w _ hx7_5)).trans hx7_5
        replace hx7_6 := (HB.out.cell (World.block_lt_of_cell? w _ hx7_6)).trans hx7_6
        replace hx7_7 := (HB.out.cell (World.block_lt_of_cell? w _ hx7_7)).trans hx7_7
        replace hx7_8 := (HB.out.cell (World.block_lt_of_cell? w _ hx7_8)).trans hx7_8
        replace hx7_9 := (HB.out.cell (World.block_lt_of_cell? w _ hx7_9)).trans hx7_9
        replace hx7_10 := (HB.out.cell (World.block_lt_of_cell? w _ hx7_10)).trans hx7_10
        replace hx7_11 := (HB.out.cell (World.block_lt_of_cell? w _ hx7_11)).trans hx7_11
        replace hx7_12 := (HB.out.cell (World.block_lt_of_cell? w _ hx7_12)).trans hx7_12
        have HR7_1 := Aside0.mk hi7_1
        have HC7_1 := Aside0.mk hl7_1
        clear hi7_1 hl7_1
        have HR7_2 := Aside0.mk hi7_2
        have HC7_2 := Aside0.mk hl7_2
        clear hi7_2 hl7_2
        have HR7_3 := Aside0.mk hi7_3
        have HC7_3 := Aside0.mk hl7_3
        clear hi7_3 hl7_3
        have HR7_4 := Aside0.mk hi7_4
        have HC7_4 := Aside0.mk hl7_4
        clear hi7_4 hl7_4
        have HR7_5 := Aside0.mk hi7_5
        have HC7_5 := Aside0.mk hl7_5
        clear hi7_5 hl7_5
        have HR7_6 := Aside0.mk hi7_6
        have HC7_6 := Aside0.mk hl7_6
        clear hi7_6 hl7_6
        have HR7_7 := Aside0.mk hi7_7
        have HC7_7 := Aside0.mk hl7_7
        clear hi7_7 hl7_7
        have HR7_8 := Aside0.mk hi7_8
        have HC7_8 := Aside0.mk hl7_8
        clear hi7_8 hl7_8
        have HR7_9 := Aside0.mk hi7_9
        have HC7_9 := Aside0.mk hl7_9
        clear hi7_9 hl7_9
        obtain ⟨ad8, A8_1, c8_1, A8_2, c8_2, A8_3, c8_3, A8_4, c8_4, A8_5, c8_5, A8_6, c8_6, A8_7, c8_7, A8_8, c8_8, A8_9, c8_9, e8, hx8_0, hx8_1, hx8_2, hx8_3, hx8_4, hx8_5, hx8_6, hx8_7, hx8_8, hx8_9, hx8_10, hx8_11, hx8_12, hl8_1, hi8_1, hl8_2, hi8_2, hl8_3, hi8_3, hl8_4, hi8_4, hl8_5, hi8_5, hl8_6, hi8_6, hl8_7, hi8_7, hl8_8, hi8_8, hl8_9, hi8_9⟩ := at_T52 HR1.out (j : Int) p8 q8
        cases e8
        replace hx8_0 := (HB.out.cell (World.block_lt_of_cell? w _ hx8_0)).trans hx8_0
        replace hx8_1 := (HB.out.cell (World.block_lt_of_cell? w _ hx8_1)).trans hx8_1
        replace hx8_2 := (HB.out.cell (World.block_lt_of_cell? w _ hx8_2)).trans hx8_2
        replace hx8_3 := (HB.out.cell (World.block_lt_of_cell? w _ hx8_3)).trans hx8_3
        replace hx8_4 := (HB.out.cell (World.block_lt_of_cell? w _ hx8_4)).trans hx8_4
        replace hx8_5 := (HB.out.cell (World.block_lt_of_cell? w _ hx8_5)).trans hx8_5
        replace hx8_6 := (HB.out.cell (World.block_lt_of_cell? w _ hx8_6)).trans hx8_6
        replace hx8_7 := (HB.out.cell (World.block_lt_of_cell? w _ hx8_7)).trans hx8_7
        replace hx8_8 := (HB.out.cell (World.block_lt_of_cell? w _ hx8_8)).trans hx8_8
        replace hx8_9 := (HB.out.cell (World.block_lt_of_cell? w _ hx8_9)).trans hx8_9
        replace hx8_10 := (HB.out.cell (World.block_lt_of_cell? w _ hx8_10)).trans hx8_10
        replace hx8_11 := (HB.out.cell (World.block_lt_of_cell? w _ hx8_11)).trans hx8_11
        replace hx8_12 := (HB.out.cell (World.block_lt_of_cell? w _ hx8_12)).trans hx8_12
        have HR8_1 := Aside0.mk hi8_1
        have HC8_1 := Aside0.mk hl8_1
        clear hi8_1 hl8_1
        have HR8_2 := Aside0.mk hi8_2
        have HC8_2 := Aside0.mk hl8_2
        clear hi8_2 hl8_2
        have HR8_3 := Aside0.mk hi8_3
        have HC8_3 := Aside0.mk hl8_3
        clear hi8_3 hl8_3
        have HR8_4 := Aside0.mk hi8_4
        have HC8_4 := Aside0.mk hl8_4
        clear hi8_4 hl8_4
        have HR8_5 := Aside0.mk hi8_5
        have HC8_5 := Aside0.mk hl8_5
        clear hi8_5 hl8_5
        have HR8_6 := Aside0.mk hi8_6
        have HC8_6 := Aside0.mk hl8_6
        clear hi8_6 hl8_6
        have HR8_7 := Aside0.mk hi8_7
        have HC8_7 := Aside0.mk hl8_7
        clear hi8_7 hl8_7
        have HR8_8 := Aside0.mk hi8_8
        have HC8_8 := Aside0.mk hl8_8
        clear hi8_8 hl8_8
        have HR8_9 := Aside0.mk hi8_9
        have HC8_9 := Aside0.mk hl8_9
        clear hi8_9 hl8_9
        have EX : Aside0 (rd_T52 l (j : Int) = l[j]) := ⟨by show l.getD _ _ = _; rw [Int.toNat_natCast, List.getD_eq_getElem?_getD, List.getElem?_eq_getElem hlt, Option.getD_some]⟩
        have EY : Aside0 (rd_T52 m (j : Int) = m[j]) := ⟨by show m.getD _ _ = _; rw [Int.toNat_natCast, List.getD_eq_getElem?_getD, List.getElem?_eq_getElem hlm, Option.getD_some]⟩
        clear p7 q7 p8 q8
        have hz8_0 := fun o => ((alloc_below0 wr o).cell (World.block_lt_of_cell? wr _ hx8_0)).trans hx8_0
        clear hx8_0
        have hz8_1 := fun o => ((alloc_below0 wr o).cell (World.block_lt_of_cell? wr _ hx8_1)).trans hx8_1
        clear hx8_1
        have hz8_2 := fun o => ((alloc_below0 wr o).cell (World.block_lt_of_cell? wr _ hx8_2)).trans hx8_2
        clear hx8_2
        have hz8_3 := fun o => ((alloc_below0 wr o).cell (World.block_lt_of_cell? wr _ hx8_3)).trans hx8_3
        clear hx8_3
        have hz8_4 := fun o => ((alloc_below0 wr o).cell (World.block_lt_of_cell? wr _ hx8_4)).trans hx8_4
        clear hx8_4
        have hz8_5 := fun o => ((alloc_below0 wr o).cell (World.block_lt_of_cell? wr _ hx8_5)).trans hx8_5
        clear hx8_5
        have hz8_6 := fun o => ((alloc_below0 wr o).cell (World.block_lt_of_cell? wr _ hx8_6)).trans hx8_6
        clear hx8_6
        have hz8_7 := fun o => ((alloc_below0 wr o).cell (World.block_lt_of_cell? wr _ hx8_7)).trans hx8_7
        clear hx8_7
        have hz8_8 := fun o => ((alloc_below0 wr o).cell (World.block_lt_of_cell? wr _ hx8_8)).trans hx8_8
        clear hx8_8
        have hz8_9 := fun o => ((alloc_below0 wr o).cell (World.block_lt_of_cell? wr _ hx8_9)).trans hx8_9
        clear hx8_9
        have hz8_10 := fun o => ((alloc_below0 wr o).cell (World.block_lt_of_cell? wr _ hx8_10)).trans hx8_10
        clear hx8_10
        have hz8_11 := fun o => ((alloc_below0 wr o).cell (World.block_lt_of_cell? wr _ hx8_11)).trans hx8_11
        clear hx8_11
        have hz8_12 := fun o => ((alloc_below0 wr o).cell (World.block_lt_of_cell? wr _ hx8_12)).trans hx8_12
        clear hx8_12
        generalize rd_T52 l (j : Int) = x at *
        generalize rd_T52 m (j : Int) = y at *
        have HC : Aside0 (book_Partition_same.f k (x.f0) (x.f1) (x.f2) (x.f3) (x.f4) (x.f5) (x.f6) (x.f7) (x.f8) (x.f9) (x.f10) (x.f11.f0) (x.f11.f1) (y.f0) (y.f1) (y.f2) (y.f3) (y.f4) (y.f5) (y.f6) (y.f7) (y.f8) (y.f9) (y.f10) (y.f11.f0) (y.f11.f1) = some b) := ⟨by rw [EX.out, EY.out]; exact HB1.out⟩
        clear HB1 EX EY
        simp only [Int.toNat_natCast] at *
        have HB9 := Aside0.mk (below_alloc (below_alloc HB.out (.cells #[.string (x.f0), .slice A7_1 (x.f1).length c7_1, .slice A7_2 (x.f2).length c7_2, .slice A7_3 (x.f3).length c7_3, .slice A7_4 (x.f4).length c7_4, .slice A7_5 (x.f5).length c7_5, .slice A7_6 (x.f6).length c7_6, .slice A7_7 (x.f7).length c7_7, .slice A7_8 (x.f8).length c7_8, .slice A7_9 (x.f9).length c7_9, .int .i64 (x.f10), .int .i64 (x.f11.f0), .int .i64 (x.f11.f1)] 52)) (.cells #[.string (y.f0), .slice A8_1 (y.f1).length c8_1, .slice A8_2 (y.f2).length c8_2, .slice A8_3 (y.f3).length c8_3, .slice A8_4 (y.f4).length c8_4, .slice A8_5 (y.f5).length c8_5, .slice A8_6 (y.f6).length c8_6, .slice A8_7 (y.f7).length c8_7, .slice A8_8 (y.f8).length c8_8, .slice A8_9 (y.f9).length c8_9, .int .i64 (y.f10), .int .i64 (y.f11.f0), .int .i64 (y.f11.f1)] 52))
        go_wp2_with fail
        refine (book_Partition_same.calls k (x.f0) _ _ (x.f1) _ _ (x.f2) _ _ (x.f3) _ _ (x.f4) _ _ (x.f5) _ _ (x.f6) _ _ (x.f7) _ _ (x.f8) _ _ (x.f9) (x.f10) (x.f11.f0) (x.f11.f1) (y.f0) _ _ (y.f1) _ _ (y.f2) _ _ (y.f3) _ _ (y.f4) _ _ (y.f5) _ _ (y.f6) _ _ (y.f7) _ _ (y.f8) _ _ (y.f9) (y.f10) (y.f11.f0) (y.f11.f1) b _ (Kd.C_below HR7_1.out HB9.out) HC7_1.out (Kd.C_below HR7_2.out HB9.out) HC7_2.out (Kd.C_below HR7_3.out HB9.out) HC7_3.out (Kd.C_below HR7_4.out HB9.out) HC7_4.out (Kd.C_below HR7_5.out HB9.out) HC7_5.out (Kd.C_below HR7_6.out HB9.out) HC7_6.out (Kd.C_below HR7_7.out HB9.out) HC7_7.out (Kd.C_below HR7_8.out HB9.out) HC7_8.out (Kd.C_below HR7_9.out HB9.out) HC7_9.out (Kd.C_below HR8_1.out HB9.out) HC8_1.out (Kd.C_below HR8_2.out HB9.out) HC8_2.out (Kd.C_below HR8_3.out HB9.out) HC8_3.out (Kd.C_below HR8_4.out HB9.out) HC8_4.out (Kd.C_below HR8_5.out HB9.out) HC8_5.out (Kd.C_below HR8_6.out HB9.out) HC8_6.out (Kd.C_below HR8_7.out HB9.out) HC8_7.out (Kd.C_below HR8_8.out HB9.out) HC8_8.out (Kd.C_below HR8_9.out HB9.out) HC8_9.out HC.out).mono ?_
        rintro e w9 ⟨rfl, hb⟩
        have HB10 := Aside0.mk (below_step (HB9.out) hb)
        clear hb HB HB9
        cases b with
        | true =>
          go_wp2
          go_roundw
          case rel => exact ⟨j + 1, by go_num, by omega, ⟨HB2.out (by simp)⟩, HB10⟩
          case measure => simp [intOf]; omega
        | false =>
          go_wp2
          go_ret
          exact ⟨by rw [HB3.out (by simp)]; rfl, HB10.out⟩
      · obtain rfl : j = l.length := by omega
        have hr : r = true := by have := HA.out; rw [List.drop_length] at this; simpa [zipO] using this.symm
        subst hr
        go_wp2
        go_ret
        exact ⟨rfl, HB.out⟩
  · rw [if_neg hle] at h
    obtain rfl := Option.some.inj h
    have hd : ((l.length : Int) != (m.length : Int)) = true := by simpa using hle
    have hd2 : (l.length != m.length) = true := by have : l.length ≠ m.length := by omega
                                                   simpa using this
    clear h hle
    go_enter Tryz.func48, Tryz.ntmps48
    go_wp2
    go_ret
    exact ⟨rfl, Below.refl _ _⟩

/-! ### book_Schedule_50__51: function 50 at book_Same_1 -/
def book_Schedule_50__51.f (k : Nat) (l m : List (S67)) : Option (Bool) := if (l.length : Int) = (m.length : Int) then (if l.length ≤ 140737488351232 then (zipO (fun x y => book_Same_1.f k (x.f0) (x.f1) (x.f2) (y.f0) (y.f1) (y.f2)) l m) else none) else (some false)
theorem book_Schedule_50__51.mono : ∀ a0 a1 k, LeO (book_Schedule_50__51.f k a0 a1) (book_Schedule_50__51.f (k + 1) a0 a1) := by
  intro a0 a1 k
  unfold book_Schedule_50__51.f
  exact LeO.ite (LeO.ite (zipO_mono (fun x y => book_Same_1.mono _ _ _ _ _ _ k) a0 a1) (LeO.refl _)) (LeO.refl _)
set_option maxHeartbeats 4000000 in
set_option maxRecDepth 100000 in
theorem book_Schedule_50__51.calls (k : Nat) (A0 : Option Addr) (c0 : Nat) (l : List (S67)) (A1 : Option Addr) (c1 : Nat) (m : List (S67)) (r : Bool) (w : World) (hr0 : Kd.C k67 w A0 l.length l) (hc0 : l.length ≤ c0) (hr1 : Kd.C k67 w A1 m.length m) (hc1 : m.length ≤ c1) (h : book_Schedule_50__51.f k l m = some r) :
    Calls Tryz.prog 50 #[.slice A0 l.length c0, .slice A1 m.length c1, .func (.func 51) #[] #[]] w fun e w' => e = .returned (.bool r) ∧ Below w.heap.size w w' := by
  unfold book_Schedule_50__51.f at h
  have HR0 := Aside0.mk hr0
  have HR1 := Aside0.mk hr1
  clear hr0 hr1
  by_cases hle : (l.length : Int) = (m.length : Int)
  · rw [if_pos hle] at h
    obtain ⟨hL, h2⟩ := if_some h
    clear h
    have h := h2
    clear h2
    have hd : ((l.length : Int) != (m.length : Int)) = false := by rw [hle]; simp
    have hd2 : (l.length != m.length) = false := by have : l.length = m.length := by omega
                                                    rw [this]; simp
    have HE : Aside0 (l.length = m.length) := ⟨by omega⟩
    have H0 : Aside0 (zipO (fun x y => book_Same_1.f k (x.f0) (x.f1) (x.f2) (y.f0) (y.f1) (y.f2)) (l.drop 0) (m.drop 0) = some r) := ⟨by simpa using h⟩
    clear h hle
    go_enter Tryz.func50, Tryz.ntmps50
    go_wp2
    go_loopw [17] (fun v17 wr => ∃ j : Nat, v17 = .int .i64 (j : Int) ∧ j ≤ l.length ∧ Aside0 (zipO (fun x y => book_Same_1.f k (x.f0) (x.f1) (x.f2) (y.f0) (y.f1) (y.f2)) (l.drop j) (m.drop j) = some r) ∧ Aside0 (Below w.heap.size w wr)) (fun v17 _ => l.length - (intOf v17).toNat)
    case atStart => exact ⟨0, rfl, Nat.zero_le _, H0, ⟨Below.refl _ _⟩⟩
    case round =>
      clear H0
      obtain ⟨j, rfl, hj, HA, HB⟩ := hrel
      by_cases hlt : j < l.length
      · have hlm : j < m.length := by have := HE.out; omega
        have p7 : (0 : Int) ≤ (j : Int) := by omega
        have q7 : (j : Int) < (l.length : Int) := by omega
        have p8 : (0 : Int) ≤ (j : Int) := by omega
        have q8 : (j : Int) < (m.length : Int) := by omega
        obtain ⟨b, hb1, hb2, hb3⟩ := zipO_cons hlt hlm HA.out
        have HB1 := Aside0.mk hb1
        have HB2 := Aside0.mk hb2
        have HB3 := Aside0.mk hb3
        clear hb1 hb2 hb3
        obtain ⟨ad7, A7_2, c7_2, e7, hx7_0, hx7_1, hx7_2, hl7_2, hi7_2⟩ := at_T67 HR0.out (j : Int) p7 q7
        cases e7
        replace hx7_0 := (HB.out.cell (World.block_lt_of_cell? w _ hx7_0)).trans hx7_0
        replace hx7_1 := (HB.out.cell (World.block_lt_of_cell? w _ hx7_1)).trans hx7_1
        replace hx7_2 := (HB.out.cell (World.block_lt_of_cell? w _ hx7_2)).trans hx7_2
        have HR7_2 := Aside0.mk hi7_2
        have HC7_2 := Aside0.mk hl7_2
        clear hi7_2 hl7_2
        obtain ⟨ad8, A8_2, c8_2, e8, hx8_0, hx8_1, hx8_2, hl8_2, hi8_2⟩ := at_T67 HR1.out (j : Int) p8 q8
        cases e8
        replace hx8_0 := (HB.out.cell (World.block_lt_of_cell? w _ hx8_0)).trans hx8_0
        replace hx8_1 := (HB.out.cell (World.block_lt_of_cell? w _ hx8_1)).trans hx8_1
        replace hx8_2 := (HB.out.cell (World.block_lt_of_cell? w _ hx8_2)).trans hx8_2
        have HR8_2 := Aside0.mk hi8_2
        have HC8_2 := Aside0.mk hl8_2
        clear hi8_2 hl8_2
        have EX : Aside0 (rd_T67 l (j : Int) = l[j]) := ⟨by show l.getD _ _ = _; rw [Int.toNat_natCast, List.getD_eq_getElem?_getD, List.getElem?_eq_getElem hlt, Option.getD_some]⟩
        have EY : Aside0 (rd_T67 m (j : Int) = m[j]) := ⟨by show m.getD _ _ = _; rw [Int.toNat_natCast, List.getD_eq_getElem?_getD, List.getElem?_eq_getElem hlm, Option.getD_some]⟩
        clear p7 q7 p8 q8
        have hz8_0 := fun o => ((alloc_below0 wr o).cell (World.block_lt_of_cell? wr _ hx8_0)).trans hx8_0
        clear hx8_0
        have hz8_1 := fun o => ((alloc_below0 wr o).cell (World.block_lt_of_cell? wr _ hx8_1)).trans hx8_1
        clear hx8_1
        have hz8_2 := fun o => ((alloc_below0 wr o).cell (World.block_lt_of_cell? wr _ hx8_2)).trans hx8_2
        clear hx8_2
        generalize rd_T67 l (j : Int) = x at *
        generalize rd_T67 m (j : Int) = y at *
        have HC : Aside0 (book_Same_1.f k (x.f0) (x.f1) (x.f2) (y.f0) (y.f1) (y.f2) = some b) := ⟨by rw [EX.out, EY.out]; exact HB1.out⟩
        clear HB1 EX EY
        simp only [Int.toNat_natCast] at *
        have HB9 := Aside0.mk (below_alloc (below_alloc HB.out (.cells #[.string (x.f0), .int .i64 (x.f1), .slice A7_2 (x.f2).length c7_2] 67)) (.cells #[.string (y.f0), .int .i64 (y.f1), .slice A8_2 (y.f2).length c8_2] 67))
        go_wp2_with fail
        refine (book_Same_1.calls k (x.f0) (x.f1) _ _ (x.f2) (y.f0) (y.f1) _ _ (y.f2) b _ (Kd.C_below HR7_2.out HB9.out) HC7_2.out (Kd.C_below HR8_2.out HB9.out) HC8_2.out HC.out).mono ?_
        rintro e w9 ⟨rfl, hb⟩
        have HB10 := Aside0.mk (below_step (HB9.out) hb)
        clear hb HB HB9
        cases b with
        | true =>
          go_wp2
          go_roundw
          case rel => exact ⟨j + 1, by go_num, by omega, ⟨HB2.out (by simp)⟩, HB10⟩
          case measure => simp [intOf]; omega
        | false =>
          go_wp2
          go_ret
          exact ⟨by rw [HB3.out (by simp)]; rfl, HB10.out⟩
      · obtain rfl : j = l.length := by omega
        have hr : r = true := by have := HA.out; rw [List.drop_length] at this; simpa [zipO] using this.symm
        subst hr
        go_wp2
        go_ret
        exact ⟨rfl, HB.out⟩
  · rw [if_neg hle] at h
    obtain rfl := Option.some.inj h
    have hd : ((l.length : Int) != (m.length : Int)) = true := by simpa using hle
    have hd2 : (l.length != m.length) = true := by have : l.length ≠ m.length := by omega
                                                   simpa using this
    clear h hle
    go_enter Tryz.func50, Tryz.ntmps50
    go_wp2
    go_ret
    exact ⟨rfl, Below.refl _ _⟩

/-! ### book_Channel_53__54: function 53 at book_Same_2 -/
def book_Channel_53__54.f (k : Nat) (l m : List (S74)) : Option (Bool) := if (l.length : Int) = (m.length : Int) then (if l.length ≤ 140737488351232 then (zipO (fun x y => book_Same_2.f k (x.f0.f0) (x.f0.f1) (x.f1) (y.f0.f0) (y.f0.f1) (y.f1)) l m) else none) else (some false)
theorem book_Channel_53__54.mono : ∀ a0 a1 k, LeO (book_Channel_53__54.f k a0 a1) (book_Channel_53__54.f (k + 1) a0 a1) := by
  intro a0 a1 k
  unfold book_Channel_53__54.f
  exact LeO.ite (LeO.ite (zipO_mono (fun x y => book_Same_2.mono _ _ _ _ _ _ k) a0 a1) (LeO.refl _)) (LeO.refl _)
set_option maxHeartbeats 4000000 in
set_option maxRecDepth 100000 in
theorem book_Channel_53__54.calls (k : Nat) (A0 : Option Addr) (c0 : Nat) (l : List (S74)) (A1 : Option Addr) (c1 : Nat) (m : List (S74)) (r : Bool) (w : World) (hr0 : Kd.C k74 w A0 l.length l) (hc0 : l.length ≤ c0) (hr1 : Kd.C k74 w A1 m.length m) (hc1 : m.length ≤ c1) (h : book_Channel_53__54.f k l m = some r) :
    Calls Tryz.prog 53 #[.slice A0 l.length c0, .slice A1 m.length c1, .func (.func 54) #[] #[]] w fun e w' => e = .returned (.bool r) ∧ Below w.heap.size w w' := by
  unfold book_Channel_53__54.f at h
  have HR0 := Aside0.mk hr0
  have HR1 := Aside0.mk hr1
  clear hr0 hr1
  by_cases hle : (l.length : Int) = (m.length : Int)
  · rw [if_pos hle] at h
    obtain ⟨hL, h2⟩ := if_some h
    clear h
    have h := h2
    clear h2
    have hd : ((l.length : Int) != (m.length : Int)) = false := by rw [hle]; simp
    have hd2 : (l.length != m.length) = false := by have : l.length = m.length := by omega
                                                    rw [this]; simp
    have HE : Aside0 (l.length = m.length) := ⟨by omega⟩
    have H0 : Aside0 (zipO (fun x y => book_Same_2.f k (x.f0.f0) (x.f0.f1) (x.f1) (y.f0.f0) (y.f0.f1) (y.f1)) (l.drop 0) (m.drop 0) = some r) := ⟨by simpa using h⟩
    clear h hle
    go_enter Tryz.func53, Tryz.ntmps53
    go_wp2
    go_loopw [17] (fun v17 wr => ∃ j : Nat, v17 = .int .i64 (j : Int) ∧ j ≤ l.length ∧ Aside0 (zipO (fun x y => book_Same_2.f k (x.f0.f0) (x.f0.f1) (x.f1) (y.f0.f0) (y.f0.f1) (y.f1)) (l.drop j) (m.drop j) = some r) ∧ Aside0 (Below w.heap.size w wr)) (fun v17 _ => l.length - (intOf v17).toNat)
    case atStart => exact ⟨0, rfl, Nat.zero_le _, H0, ⟨Below.refl _ _⟩⟩
    case round =>
      clear H0
      obtain ⟨j, rfl, hj, HA, HB⟩ := hrel
      by_cases hlt : j < l.length
      · have hlm : j < m.length := by have := HE.out; omega
        have p7 : (0 : Int) ≤ (j : Int) := by omega
        have q7 : (j : Int) < (l.length : Int) := by omega
        have p8 : (0 : Int) ≤ (j : Int) := by omega
        have q8 : (j : Int) < (m.length : Int) := by omega
        obtain ⟨b, hb1, hb2, hb3⟩ := zipO_cons hlt hlm HA.out
        have HB1 := Aside0.mk hb1
        have HB2 := Aside0.mk hb2
        have HB3 := Aside0.mk hb3
        clear hb1 hb2 hb3
        obtain ⟨ad7, A7_2, c7_2, e7, hx7_0, hx7_1, hx7_2, hl7_2, hi7_2⟩ := at_T74 HR0.out (j : Int) p7 q7
        cases e7
        replace hx7_0 := (HB.out.cell (World.block_lt_of_cell? w _ hx7_0)).trans hx7_0
        replace hx7_1 := (HB.out.cell (World.block_lt_of_cell? w _ hx7_1)).trans hx7_1
        replace hx7_2 := (HB.out.cell (World.block_lt_of_cell? w _ hx7_2)).trans hx7_2
        have HR7_2 := Aside0.mk hi7_2
        have HC7_2 := Aside0.mk hl7_2
        clear hi7_2 hl7_2
        obtain ⟨ad8, A8_2, c8_2, e8, hx8_0, hx8_1, hx8_2, hl8_2, hi8_2⟩ := at_T74 HR1.out (j : Int) p8 q8
        cases e8
        replace hx8_0 := (HB.out.cell (World.block_lt_of_cell? w _ hx8_0)).trans hx8_0
        replace hx8_1 := (HB.out.cell (World.block_lt_of_cell? w _ hx8_1)).trans hx8_1
        replace hx8_2 := (HB.out.cell (World.block_lt_of_cell? w _ hx8_2)).trans hx8_2
        have HR8_2 := Aside0.mk hi8_2
        have HC8_2 := Aside0.mk hl8_2
        clear hi8_2 hl8_2
        have EX : Aside0 (rd_T74 l (j : Int) = l[j]) := ⟨by show l.getD _ _ = _; rw [Int.toNat_natCast, List.getD_eq_getElem?_getD, List.getElem?_eq_getElem hlt, Option.getD_some]⟩
        have EY : Aside0 (rd_T74 m (j : Int) = m[j]) := ⟨by show m.getD _ _ = _; rw [Int.toNat_natCast, List.getD_eq_getElem?_getD, List.getElem?_eq_getElem hlm, Option.getD_some]⟩
        clear p7 q7 p8 q8
        have hz8_0 := fun o => ((alloc_below0 wr o).cell (World.block_lt_of_cell? wr _ hx8_0)).trans hx8_0
        clear hx8_0
        have hz8_1 := fun o => ((alloc_below0 wr o).cell (World.block_lt_of_cell? wr _ hx8_1)).trans hx8_1
        clear hx8_1
        have hz8_2 := fun o => ((alloc_below0 wr o).cell (World.block_lt_of_cell? wr _ hx8_2)).trans hx8_2
        clear hx8_2
        generalize rd_T74 l (j : Int) = x at *
        generalize rd_T74 m (j : Int) = y at *
        have HC : Aside0 (book_Same_2.f k (x.f0.f0) (x.f0.f1) (x.f1) (y.f0.f0) (y.f0.f1) (y.f1) = some b) := ⟨by rw [EX.out, EY.out]; exact HB1.out⟩
        clear HB1 EX EY
        simp only [Int.toNat_natCast] at *
        have HB9 := Aside0.mk (below_alloc (below_alloc HB.out (.cells #[.int .i64 (x.f0.f0), .int .i64 (x.f0.f1), .slice A7_2 (x.f1).length c7_2] 74)) (.cells #[.int .i64 (y.f0.f0), .int .i64 (y.f0.f1), .slice A8_2 (y.f1).length c8_2] 74))
        go_wp2_with fail
        refine (book_Same_2.calls k (x.f0.f0) (x.f0.f1) _ _ (x.f1) (y.f0.f0) (y.f0.f1) _ _ (y.f1) b _ (Kd.C_below HR7_2.out HB9.out) HC7_2.out (Kd.C_below HR8_2.out HB9.out) HC8_2.out HC.out).mono ?_
        rintro e w9 ⟨rfl, hb⟩
        have HB10 := Aside0.mk (below_step (HB9.out) hb)
        clear hb HB HB9
        cases b with
        | true =>
          go_wp2
          go_roundw
          case rel => exact ⟨j + 1, by go_num, by omega, ⟨HB2.out (by simp)⟩, HB10⟩
          case measure => simp [intOf]; omega
        | false =>
          go_wp2
          go_ret
          exact ⟨by rw [HB3.out (by simp)]; rfl, HB10.out⟩
      · obtain rfl : j = l.length := by omega
        have hr : r = true := by have := HA.out; rw [List.drop_length] at this; simpa [zipO] using this.symm
        subst hr
        go_wp2
        go_ret
        exact ⟨rfl, HB.out⟩
  · rw [if_neg hle] at h
    obtain rfl := Option.some.inj h
    have hd : ((l.length : Int) != (m.length : Int)) = true := by simpa using hle
    have hd2 : (l.length != m.length) = true := by have : l.length ≠ m.length := by omega
                                                   simpa using this
    clear h hle
    go_enter Tryz.func53, Tryz.ntmps53
    go_wp2
    go_ret
    exact ⟨rfl, Below.refl _ _⟩

/-! ### book_Same: function 16 -/
def book_Same.f (k : Nat) (a0_0 : ByteArray) (l0_1 : List (S52)) (l0_2 : List (S67)) (a0_3 : Int) (l0_4 : List (S74)) (l0_5 : List (S77)) (l0_6 : List (S64)) (a1_0 : ByteArray) (l1_1 : List (S52)) (l1_2 : List (S67)) (a1_3 : Int) (l1_4 : List (S74)) (l1_5 : List (S77)) (l1_6 : List (S64)) : Option (Bool) := if a0_0.toList = a1_0.toList then (if a0_3 = a1_3 then ((book_Partition_48__49.f k l0_1 l1_1).bind fun t237 => (if t237 = true then ((book_Schedule_50__51.f k l0_2 l1_2).bind fun t238 => (if t238 = true then ((book_Channel_53__54.f k l0_4 l1_4).bind fun t239 => (if t239 = true then ((book_Link_56.f k l0_5 l1_5).bind fun t240 => (if t240 = true then ((book_Rule_57.f k l0_6 l1_6).bind fun t241 => (some t241)) else (some false))) else (some false))) else (some false))) else (some false))) else (some false)) else (some false)
theorem book_Same.mono : ∀ a0 a1 a2 a3 a4 a5 a6 a7 a8 a9 a10 a11 a12 a13 k, LeO (book_Same.f k a0 a1 a2 a3 a4 a5 a6 a7 a8 a9 a10 a11 a12 a13) (book_Same.f (k + 1) a0 a1 a2 a3 a4 a5 a6 a7 a8 a9 a10 a11 a12 a13) := by
  intro a0 a1 a2 a3 a4 a5 a6 a7 a8 a9 a10 a11 a12 a13 k
  unfold book_Same.f
  repeat' first
      | (with_reducible exact book_Channel_53__54.mono _ _ _)
      | (with_reducible exact book_Link_56.mono _ _ _)
      | (with_reducible exact book_Partition_48__49.mono _ _ _)
      | (with_reducible exact book_Rule_57.mono _ _ _)
      | (with_reducible exact book_Schedule_50__51.mono _ _ _)
      | (with_reducible exact LeO.refl _)
      | (with_reducible exact LeO.none _)
      | (with_reducible refine LeO.ite ?_ ?_)
      | (with_reducible refine LeO.bind ?_ (fun _ => ?_))
      | exact book_Channel_53__54.mono _ _ _
      | exact book_Link_56.mono _ _ _
      | exact book_Partition_48__49.mono _ _ _
      | exact book_Rule_57.mono _ _ _
      | exact book_Schedule_50__51.mono _ _ _
      | exact LeO.none _
      | refine LeO.ite ?_ ?_
      | refine LeO.bind ?_ (fun _ => ?_)
set_option maxHeartbeats 8000000 in
set_option maxRecDepth 100000 in
theorem book_Same.calls (k : Nat) (a0_0 : ByteArray) (A0_1 : Option Addr) (c0_1 : Nat) (l0_1 : List (S52)) (A0_2 : Option Addr) (c0_2 : Nat) (l0_2 : List (S67)) (a0_3 : Int) (A0_4 : Option Addr) (c0_4 : Nat) (l0_4 : List (S74)) (A0_5 : Option Addr) (c0_5 : Nat) (l0_5 : List (S77)) (A0_6 : Option Addr) (c0_6 : Nat) (l0_6 : List (S64)) (a1_0 : ByteArray) (A1_1 : Option Addr) (c1_1 : Nat) (l1_1 : List (S52)) (A1_2 : Option Addr) (c1_2 : Nat) (l1_2 : List (S67)) (a1_3 : Int) (A1_4 : Option Addr) (c1_4 : Nat) (l1_4 : List (S74)) (A1_5 : Option Addr) (c1_5 : Nat) (l1_5 : List (S77)) (A1_6 : Option Addr) (c1_6 : Nat) (l1_6 : List (S64)) (r : Bool) (w : World) (hr0_1 : Kd.C k52 w A0_1 l0_1.length l0_1) (hc0_1 : l0_1.length ≤ c0_1) (hr0_2 : Kd.C k67 w A0_2 l0_2.length l0_2) (hc0_2 : l0_2.length ≤ c0_2) (hr0_4 : Kd.C k74 w A0_4 l0_4.length l0_4) (hc0_4 : l0_4.length ≤ c0_4) (hr0_5 : Kd.C k77 w A0_5 l0_5.length l0_5) (hc0_5 : l0_5.length ≤ c0_5) (hr0_6 : Kd.C k64 w A0_6 l0_6.length l0_6) (hc0_6 : l0_6.length ≤ c0_6) (hr1_1 : Kd.C k52 w A1_1 l1_1.length l1_1) (hc1_1 : l1_1.length ≤ c1_1) (hr1_2 : Kd.C k67 w A1_2 l1_2.length l1_2) (hc1_2 : l1_2.length ≤ c1_2) (hr1_4 : Kd.C k74 w A1_4 l1_4.length l1_4) (hc1_4 : l1_4.length ≤ c1_4) (hr1_5 : Kd.C k77 w A1_5 l1_5.length l1_5) (hc1_5 : l1_5.length ≤ c1_5) (hr1_6 : Kd.C k64 w A1_6 l1_6.length l1_6) (hc1_6 : l1_6.length ≤ c1_6) (h : book_Same.f k a0_0 l0_1 l0_2 a0_3 l0_4 l0_5 l0_6 a1_0 l1_1 l1_2 a1_3 l1_4 l1_5 l1_6 = some r) :
    Calls Tryz.prog 16 #[.agg #[.string a0_0, .slice A0_1 l0_1.length c0_1, .slice A0_2 l0_2.length c0_2, .int .i64 a0_3, .slice A0_4 l0_4.length c0_4, .slice A0_5 l0_5.length c0_5, .slice A0_6 l0_6.length c0_6], .agg #[.string a1_0, .slice A1_1 l1_1.length c1_1, .slice A1_2 l1_2.length c1_2, .int .i64 a1_3, .slice A1_4 l1_4.length c1_4, .slice A1_5 l1_5.length c1_5, .slice A1_6 l1_6.length c1_6]] w fun e w' => e = .returned (.bool r) ∧ Below w.heap.size w w' := by
 have HR0_1 := Aside0.mk hr0_1
 have HC0_1 := Aside0.mk hc0_1
 clear hr0_1 hc0_1
 have HR0_2 := Aside0.mk hr0_2
 have HC0_2 := Aside0.mk hc0_2
 clear hr0_2 hc0_2
 have HR0_4 := Aside0.mk hr0_4
 have HC0_4 := Aside0.mk hc0_4
 clear hr0_4 hc0_4
 have HR0_5 := Aside0.mk hr0_5
 have HC0_5 := Aside0.mk hc0_5
 clear hr0_5 hc0_5
 have HR0_6 := Aside0.mk hr0_6
 have HC0_6 := Aside0.mk hc0_6
 clear hr0_6 hc0_6
 have HR1_1 := Aside0.mk hr1_1
 have HC1_1 := Aside0.mk hc1_1
 clear hr1_1 hc1_1
 have HR1_2 := Aside0.mk hr1_2
 have HC1_2 := Aside0.mk hc1_2
 clear hr1_2 hc1_2
 have HR1_4 := Aside0.mk hr1_4
 have HC1_4 := Aside0.mk hc1_4
 clear hr1_4 hc1_4
 have HR1_5 := Aside0.mk hr1_5
 have HC1_5 := Aside0.mk hc1_5
 clear hr1_5 hc1_5
 have HR1_6 := Aside0.mk hr1_6
 have HC1_6 := Aside0.mk hc1_6
 clear hr1_6 hc1_6
 unfold book_Same.f at h
 have H := Aside0.mk h
 clear h
 have HB := Aside0.mk (Below.refl w.heap.size w)
 have hu30 := Tryz.underlying30
 go_enter Tryz.func16, Tryz.ntmps16
 have BK274 := Aside0.mk (pe_box0 w #[.string a0_0, .slice A0_1 l0_1.length c0_1, .slice A0_2 l0_2.length c0_2, .int .i64 a0_3, .slice A0_4 l0_4.length c0_4, .slice A0_5 l0_5.length c0_5, .slice A0_6 l0_6.length c0_6] 30)
 replace HB := Aside0.mk (below_alloc HB.out (.cells #[.string a0_0, .slice A0_1 l0_1.length c0_1, .slice A0_2 l0_2.length c0_2, .int .i64 a0_3, .slice A0_4 l0_4.length c0_4, .slice A0_5 l0_5.length c0_5, .slice A0_6 l0_6.length c0_6] 30))
 by_cases c276 : a0_0.toList = a1_0.toList
 · have H1 := H.out
   rw [if_pos c276] at H1
   replace H := Aside0.mk H1
   clear H1
   have c276b0 : (a0_0.toList == a1_0.toList) = true := beq_iff_eq.mpr c276
   have c276b1 : (a0_0.toList != a1_0.toList) = false := bne_eq_false_iff_eq.mpr c276
   have Kc276 := Aside0.mk c276
   clear c276
   by_cases c277 : a0_3 = a1_3
   · have H1 := H.out
     rw [if_pos c277] at H1
     replace H := Aside0.mk H1
     clear H1
     have c277b0 : (a0_3 == a1_3) = true := beq_iff_eq.mpr c277
     have c277b1 : (a0_3 != a1_3) = false := bne_eq_false_iff_eq.mpr c277
     have Kc277 := Aside0.mk c277
     clear c277
     have BK275 := Aside0.mk (pe_box1 w (.cells #[.string a0_0, .slice A0_1 l0_1.length c0_1, .slice A0_2 l0_2.length c0_2, .int .i64 a0_3, .slice A0_4 l0_4.length c0_4, .slice A0_5 l0_5.length c0_5, .slice A0_6 l0_6.length c0_6] 30) #[.string a1_0, .slice A1_1 l1_1.length c1_1, .slice A1_2 l1_2.length c1_2, .int .i64 a1_3, .slice A1_4 l1_4.length c1_4, .slice A1_5 l1_5.length c1_5, .slice A1_6 l1_6.length c1_6] 30)
     replace BK274 := Aside0.mk (blk_below BK274.out (alloc_below0 _ (.cells #[.string a1_0, .slice A1_1 l1_1.length c1_1, .slice A1_2 l1_2.length c1_2, .int .i64 a1_3, .slice A1_4 l1_4.length c1_4, .slice A1_5 l1_5.length c1_5, .slice A1_6 l1_6.length c1_6] 30)))
     replace HB := Aside0.mk (below_alloc HB.out (.cells #[.string a1_0, .slice A1_1 l1_1.length c1_1, .slice A1_2 l1_2.length c1_2, .int .i64 a1_3, .slice A1_4 l1_4.length c1_4, .slice A1_5 l1_5.length c1_5, .slice A1_6 l1_6.length c1_6] 30))
     obtain ⟨t237, q278, H1⟩ := Option.bind_eq_some_iff.mp H.out
     replace H := Aside0.mk H1
     replace q278 := Aside0.mk q278
     clear H1
     go_wp2_with fail
     (with_reducible refine (book_Partition_48__49.calls k _ _ l0_1 _ _ l1_1 t237 _ (Kd.C_below HR0_1.out HB.out) HC0_1.out (Kd.C_below HR1_1.out HB.out) HC1_1.out q278.out).mono ?_)
     clear q278
     rintro e w279 ⟨rfl, hb⟩
     replace HB := Aside0.mk (below_step HB.out hb)
     replace BK274 := Aside0.mk (blk_below BK274.out hb)
     replace BK275 := Aside0.mk (blk_below BK275.out hb)
     clear hb
     obtain ⟨hz280_274_0, hz280_274_1, hz280_274_2, hz280_274_3, hz280_274_4, hz280_274_5, hz280_274_6, hf280_274_0, hf280_274_1, hf280_274_2, hf280_274_3, hf280_274_4, hf280_274_5, hf280_274_6⟩ := blk7 BK274.out
     obtain ⟨hz280_275_0, hz280_275_1, hz280_275_2, hz280_275_3, hz280_275_4, hz280_275_5, hz280_275_6, hf280_275_0, hf280_275_1, hf280_275_2, hf280_275_3, hf280_275_4, hf280_275_5, hf280_275_6⟩ := blk7 BK275.out
     by_cases c281 : t237 = true
     · have H1 := H.out
       rw [if_pos c281] at H1
       replace H := Aside0.mk H1
       clear H1
       subst c281
       obtain ⟨t238, q282, H1⟩ := Option.bind_eq_some_iff.mp H.out
       replace H := Aside0.mk H1
       replace q282 := Aside0.mk q282
       clear H1
       go_wp2_with fail
       (with_reducible refine (book_Schedule_50__51.calls k _ _ l0_2 _ _ l1_2 t238 _ (Kd.C_below HR0_2.out HB.out) HC0_2.out (Kd.C_below HR1_2.out HB.out) HC1_2.out q282.out).mono ?_)
       clear q282
       rintro e w283 ⟨rfl, hb⟩
       replace HB := Aside0.mk (below_step HB.out hb)
       replace BK274 := Aside0.mk (blk_below BK274.out hb)
       replace BK275 := Aside0.mk (blk_below BK275.out hb)
       clear hb
       try clear hz280_274_0 hz280_274_1 hz280_274_2 hz280_274_3 hz280_274_4 hz280_274_5 hz280_274_6 hf280_274_0 hf280_274_1 hf280_274_2 hf280_274_3 hf280_274_4 hf280_274_5 hf280_274_6 hz280_275_0 hz280_275_1 hz280_275_2 hz280_275_3 hz280_275_4 hz280_275_5 hz280_275_6 hf280_275_0 hf280_275_1 hf280_275_2 hf280_275_3 hf280_275_4 hf280_275_5 hf280_275_6
       obtain ⟨hz284_274_0, hz284_274_1, hz284_274_2, hz284_274_3, hz284_274_4, hz284_274_5, hz284_274_6, hf284_274_0, hf284_274_1, hf284_274_2, hf284_274_3, hf284_274_4, hf284_274_5, hf284_274_6⟩ := blk7 BK274.out
       obtain ⟨hz284_275_0, hz284_275_1, hz284_275_2, hz284_275_3, hz284_275_4, hz284_275_5, hz284_275_6, hf284_275_0, hf284_275_1, hf284_275_2, hf284_275_3, hf284_275_4, hf284_275_5, hf284_275_6⟩ := blk7 BK275.out
       by_cases c285 : t238 = true
       · have H1 := H.out
         rw [if_pos c285] at H1
         replace H := Aside0.mk H1
         clear H1
         subst c285
         obtain ⟨t239, q286, H1⟩ := Option.bind_eq_some_iff.mp H.out
         replace H := Aside0.mk H1
         replace q286 := Aside0.mk q286
         clear H1
         go_wp2_with fail
         (with_reducible refine (book_Channel_53__54.calls k _ _ l0_4 _ _ l1_4 t239 _ (Kd.C_below HR0_4.out HB.out) HC0_4.out (Kd.C_below HR1_4.out HB.out) HC1_4.out q286.out).mono ?_)
         clear q286
         rintro e w287 ⟨rfl, hb⟩
         replace HB := Aside0.mk (below_step HB.out hb)
         replace BK274 := Aside0.mk (blk_below BK274.out hb)
         replace BK275 := Aside0.mk (blk_below BK275.out hb)
         clear hb
         try clear hz284_274_0 hz284_274_1 hz284_274_2 hz284_274_3 hz284_274_4 hz284_274_5 hz284_274_6 hf284_274_0 hf284_274_1 hf284_274_2 hf284_274_3 hf284_274_4 hf284_274_5 hf284_274_6 hz284_275_0 hz284_275_1 hz284_275_2 hz284_275_3 hz284_275_4 hz284_275_5 hz284_275_6 hf284_275_0 hf284_275_1 hf284_275_2 hf284_275_3 hf284_275_4 hf284_275_5 hf284_275_6
         obtain ⟨hz288_274_0, hz288_274_1, hz288_274_2, hz288_274_3, hz288_274_4, hz288_274_5, hz288_274_6, hf288_274_0, hf288_274_1, hf288_274_2, hf288_274_3, hf288_274_4, hf288_274_5, hf288_274_6⟩ := blk7 BK274.out
         obtain ⟨hz288_275_0, hz288_275_1, hz288_275_2, hz288_275_3, hz288_275_4, hz288_275_5, hz288_275_6, hf288_275_0, hf288_275_1, hf288_275_2, hf288_275_3, hf288_275_4, hf288_275_5, hf288_275_6⟩ := blk7 BK275.out
         by_cases c289 : t239 = true
         · have H1 := H.out
           rw [if_pos c289] at H1
           replace H := Aside0.mk H1
           clear H1
           subst c289
           obtain ⟨t240, q290, H1⟩ := Option.bind_eq_some_iff.mp H.out
           replace H := Aside0.mk H1
           replace q290 := Aside0.mk q290
           clear H1
           go_wp2_with fail
           (with_reducible refine (book_Link_56.calls k _ _ l0_5 _ _ l1_5 t240 _ (Kd.C_below HR0_5.out HB.out) HC0_5.out (Kd.C_below HR1_5.out HB.out) HC1_5.out q290.out).mono ?_)
           clear q290
           rintro e w291 ⟨rfl, hd⟩
           have hb := hd.below
           clear hd
           replace HB := Aside0.mk (below_step HB.out hb)
           replace BK274 := Aside0.mk (blk_below BK274.out hb)
           replace BK275 := Aside0.mk (blk_below BK275.out hb)
           clear hb
           try clear hz288_274_0 hz288_274_1 hz288_274_2 hz288_274_3 hz288_274_4 hz288_274_5 hz288_274_6 hf288_274_0 hf288_274_1 hf288_274_2 hf288_274_3 hf288_274_4 hf288_274_5 hf288_274_6 hz288_275_0 hz288_275_1 hz288_275_2 hz288_275_3 hz288_275_4 hz288_275_5 hz288_275_6 hf288_275_0 hf288_275_1 hf288_275_2 hf288_275_3 hf288_275_4 hf288_275_5 hf288_275_6
           obtain ⟨hz292_274_0, hz292_274_1, hz292_274_2, hz292_274_3, hz292_274_4, hz292_274_5, hz292_274_6, hf292_274_0, hf292_274_1, hf292_274_2, hf292_274_3, hf292_274_4, hf292_274_5, hf292_274_6⟩ := blk7 BK274.out
           obtain ⟨hz292_275_0, hz292_275_1, hz292_275_2, hz292_275_3, hz292_275_4, hz292_275_5, hz292_275_6, hf292_275_0, hf292_275_1, hf292_275_2, hf292_275_3, hf292_275_4, hf292_275_5, hf292_275_6⟩ := blk7 BK275.out
           by_cases c293 : t240 = true
           · have H1 := H.out
             rw [if_pos c293] at H1
             replace H := Aside0.mk H1
             clear H1
             subst c293
             obtain ⟨t241, q294, H1⟩ := Option.bind_eq_some_iff.mp H.out
             replace H := Aside0.mk H1
             replace q294 := Aside0.mk q294
             clear H1
             go_wp2_with fail
             (with_reducible refine (book_Rule_57.calls k _ _ l0_6 _ _ l1_6 t241 _ (Kd.C_below HR0_6.out HB.out) HC0_6.out (Kd.C_below HR1_6.out HB.out) HC1_6.out q294.out).mono ?_)
             clear q294
             rintro e w295 ⟨rfl, hd⟩
             have hb := hd.below
             clear hd
             replace HB := Aside0.mk (below_step HB.out hb)
             replace BK274 := Aside0.mk (blk_below BK274.out hb)
             replace BK275 := Aside0.mk (blk_below BK275.out hb)
             clear hb
             try clear hz292_274_0 hz292_274_1 hz292_274_2 hz292_274_3 hz292_274_4 hz292_274_5 hz292_274_6 hf292_274_0 hf292_274_1 hf292_274_2 hf292_274_3 hf292_274_4 hf292_274_5 hf292_274_6 hz292_275_0 hz292_275_1 hz292_275_2 hz292_275_3 hz292_275_4 hz292_275_5 hz292_275_6 hf292_275_0 hf292_275_1 hf292_275_2 hf292_275_3 hf292_275_4 hf292_275_5 hf292_275_6
             obtain ⟨hz296_274_0, hz296_274_1, hz296_274_2, hz296_274_3, hz296_274_4, hz296_274_5, hz296_274_6, hf296_274_0, hf296_274_1, hf296_274_2, hf296_274_3, hf296_274_4, hf296_274_5, hf296_274_6⟩ := blk7 BK274.out
             obtain ⟨hz296_275_0, hz296_275_1, hz296_275_2, hz296_275_3, hz296_275_4, hz296_275_5, hz296_275_6, hf296_275_0, hf296_275_1, hf296_275_2, hf296_275_3, hf296_275_4, hf296_275_5, hf296_275_6⟩ := blk7 BK275.out
             obtain rfl := Option.some.inj H.out
             go_wp2
             go_ret
             exact ⟨by first | rfl | (simp; done) | (simp [*]; done), HB.out⟩
           · have H1 := H.out
             rw [if_neg c293] at H1
             replace H := Aside0.mk H1
             clear H1
             replace c293 := Bool.eq_false_iff.mpr c293
             subst c293
             obtain rfl := Option.some.inj H.out
             go_wp2
             go_ret
             exact ⟨by first | rfl | (simp; done) | (simp [*]; done), HB.out⟩
         · have H1 := H.out
           rw [if_neg c289] at H1
           replace H := Aside0.mk H1
           clear H1
           replace c289 := Bool.eq_false_iff.mpr c289
           subst c289
           obtain rfl := Option.some.inj H.out
           go_wp2
           go_ret
           exact ⟨by first | rfl | (simp; done) | (simp [*]; done), HB.out⟩
       · have H1 := H.out
         rw [if_neg c285] at H1
         replace H := Aside0.mk H1
         clear H1
         replace c285 := Bool.eq_false_iff.mpr c285
         subst c285
         obtain rfl := Option.some.inj H.out
         go_wp2
         go_ret
         exact ⟨by first | rfl | (simp; done) | (simp [*]; done), HB.out⟩
     · have H1 := H.out
       rw [if_neg c281] at H1
       replace H := Aside0.mk H1
       clear H1
       replace c281 := Bool.eq_false_iff.mpr c281
       subst c281
       obtain rfl := Option.some.inj H.out
       go_wp2
       go_ret
       exact ⟨by first | rfl | (simp; done) | (simp [*]; done), HB.out⟩
   · have H1 := H.out
     rw [if_neg c277] at H1
     replace H := Aside0.mk H1
     clear H1
     have c277b0 : (a0_3 == a1_3) = false := beq_eq_false_iff_ne.mpr c277
     have c277b1 : (a0_3 != a1_3) = true := bne_iff_ne.mpr c277
     have Kc277 := Aside0.mk c277
     clear c277
     have BK275 := Aside0.mk (pe_box1 w (.cells #[.string a0_0, .slice A0_1 l0_1.length c0_1, .slice A0_2 l0_2.length c0_2, .int .i64 a0_3, .slice A0_4 l0_4.length c0_4, .slice A0_5 l0_5.length c0_5, .slice A0_6 l0_6.length c0_6] 30) #[.string a1_0, .slice A1_1 l1_1.length c1_1, .slice A1_2 l1_2.length c1_2, .int .i64 a1_3, .slice A1_4 l1_4.length c1_4, .slice A1_5 l1_5.length c1_5, .slice A1_6 l1_6.length c1_6] 30)
     replace BK274 := Aside0.mk (blk_below BK274.out (alloc_below0 _ (.cells #[.string a1_0, .slice A1_1 l1_1.length c1_1, .slice A1_2 l1_2.length c1_2, .int .i64 a1_3, .slice A1_4 l1_4.length c1_4, .slice A1_5 l1_5.length c1_5, .slice A1_6 l1_6.length c1_6] 30)))
     replace HB := Aside0.mk (below_alloc HB.out (.cells #[.string a1_0, .slice A1_1 l1_1.length c1_1, .slice A1_2 l1_2.length c1_2, .int .i64 a1_3, .slice A1_4 l1_4.length c1_4, .slice A1_5 l1_5.length c1_5, .slice A1_6 l1_6.length c1_6] 30))
     obtain rfl := Option.some.inj H.out
     go_wp2
     go_ret
     exact ⟨by first | rfl | (simp; done) | (simp [*]; done), HB.out⟩
 · have H1 := H.out
   rw [if_neg c276] at H1
   replace H := Aside0.mk H1
   clear H1
   have c276b0 : (a0_0.toList == a1_0.toList) = false := beq_eq_false_iff_ne.mpr c276
   have c276b1 : (a0_0.toList != a1_0.toList) = true := bne_iff_ne.mpr c276
   have Kc276 := Aside0.mk c276
   clear c276
   have BK275 := Aside0.mk (pe_box1 w (.cells #[.string a0_0, .slice A0_1 l0_1.length c0_1, .slice A0_2 l0_2.length c0_2, .int .i64 a0_3, .slice A0_4 l0_4.length c0_4, .slice A0_5 l0_5.length c0_5, .slice A0_6 l0_6.length c0_6] 30) #[.string a1_0, .slice A1_1 l1_1.length c1_1, .slice A1_2 l1_2.length c1_2, .int .i64 a1_3, .slice A1_4 l1_4.length c1_4, .slice A1_5 l1_5.length c1_5, .slice A1_6 l1_6.length c1_6] 30)
   replace BK274 := Aside0.mk (blk_below BK274.out (alloc_below0 _ (.cells #[.string a1_0, .slice A1_1 l1_1.length c1_1, .slice A1_2 l1_2.length c1_2, .int .i64 a1_3, .slice A1_4 l1_4.length c1_4, .slice A1_5 l1_5.length c1_5, .slice A1_6 l1_6.length c1_6] 30)))
   replace HB := Aside0.mk (below_alloc HB.out (.cells #[.string a1_0, .slice A1_1 l1_1.length c1_1, .slice A1_2 l1_2.length c1_2, .int .i64 a1_3, .slice A1_4 l1_4.length c1_4, .slice A1_5 l1_5.length c1_5, .slice A1_6 l1_6.length c1_6] 30))
   obtain rfl := Option.some.inj H.out
   go_wp2
   go_ret
   exact ⟨by first | rfl | (simp; done) | (simp [*]; done), HB.out⟩

/-! ### book_Module_Size: function 17 -/
mutual
def book_Module_Size.l0 : Nat → Int → List (S52) → Int → Int → ByteArray → List (S52) → List (S67) → Int → List (S74) → List (S77) → List (S64) → Option (Int)
  | 0, _, _, _, _, _, _, _, _, _, _, _ => none
  | k + 1, x3, x30, x31, x32, x243000, x243001, x243002, x243003, x243004, x243005, x243006 => if x32 < x31 then (if 0 ≤ x32 then (if x32 < (x30.length : Int) then (book_Module_Size.l0 k (wrap64 (x3 + (wrap64 ((wrap64 ((wrap64 ((wrap64 ((wrap64 ((wrap64 ((wrap64 ((wrap64 ((((rd_T52 x30 x32).f1).length : Int) + (((rd_T52 x30 x32).f2).length : Int))) + (((rd_T52 x30 x32).f3).length : Int))) + (((rd_T52 x30 x32).f4).length : Int))) + (((rd_T52 x30 x32).f5).length : Int))) + (((rd_T52 x30 x32).f6).length : Int))) + (((rd_T52 x30 x32).f7).length : Int))) + (((rd_T52 x30 x32).f8).length : Int))) + (((rd_T52 x30 x32).f9).length : Int))))) x30 x31 (wrap64 (x32 + 1)) x243000 x243001 x243002 x243003 x243004 x243005 x243006) else (none)) else (none)) else (book_Module_Size.l1 k x3 x243002 (x243002.length : Int) 0 x243000 x243001 x243002 x243003 x243004 x243005 x243006)
def book_Module_Size.l1 : Nat → Int → List (S67) → Int → Int → ByteArray → List (S52) → List (S67) → Int → List (S74) → List (S77) → List (S64) → Option (Int)
  | 0, _, _, _, _, _, _, _, _, _, _, _ => none
  | k + 1, x3, x75, x76, x77, x243000, x243001, x243002, x243003, x243004, x243005, x243006 => if x77 < x76 then (if 0 ≤ x77 then (if x77 < (x75.length : Int) then (book_Module_Size.l1 k (wrap64 (x3 + (((rd_T67 x75 x77).f2).length : Int))) x75 x76 (wrap64 (x77 + 1)) x243000 x243001 x243002 x243003 x243004 x243005 x243006) else (none)) else (none)) else (book_Module_Size.l2 k x3 x243004 (x243004.length : Int) 0)
def book_Module_Size.l2 : Nat → Int → List (S74) → Int → Int → Option (Int)
  | 0, _, _, _, _ => none
  | k + 1, x3, x88, x89, x90 => if x90 < x89 then (if 0 ≤ x90 then (if x90 < (x88.length : Int) then (book_Module_Size.l2 k (wrap64 (x3 + (((rd_T74 x88 x90).f1).length : Int))) x88 x89 (wrap64 (x90 + 1))) else (none)) else (none)) else (some x3)
end
def book_Module_Size.f (k : Nat) (a0_0 : ByteArray) (l0_1 : List (S52)) (l0_2 : List (S67)) (a0_3 : Int) (l0_4 : List (S74)) (l0_5 : List (S77)) (l0_6 : List (S64)) : Option (Int) := book_Module_Size.l0 k (wrap64 ((wrap64 ((wrap64 ((wrap64 ((l0_1.length : Int) + (l0_2.length : Int))) + (l0_4.length : Int))) + (l0_5.length : Int))) + (l0_6.length : Int))) l0_1 (l0_1.length : Int) 0 a0_0 l0_1 l0_2 a0_3 l0_4 l0_5 l0_6
theorem book_Module_Size.mono_l : ∀ k, (∀ y0 y1 y2 y3 y4 y5 y6 y7 y8 y9 y10, LeO (book_Module_Size.l0 k y0 y1 y2 y3 y4 y5 y6 y7 y8 y9 y10) (book_Module_Size.l0 (k + 1) y0 y1 y2 y3 y4 y5 y6 y7 y8 y9 y10)) ∧ (∀ y0 y1 y2 y3 y4 y5 y6 y7 y8 y9 y10, LeO (book_Module_Size.l1 k y0 y1 y2 y3 y4 y5 y6 y7 y8 y9 y10) (book_Module_Size.l1 (k + 1) y0 y1 y2 y3 y4 y5 y6 y7 y8 y9 y10)) ∧ (∀ y0 y1 y2 y3, LeO (book_Module_Size.l2 k y0 y1 y2 y3) (book_Module_Size.l2 (k + 1) y0 y1 y2 y3))
  | 0 => ⟨fun _ _ _ _ _ _ _ _ _ _ _ r h => by simp [book_Module_Size.l0] at h, fun _ _ _ _ _ _ _ _ _ _ _ r h => by simp [book_Module_Size.l1] at h, fun _ _ _ _ r h => by simp [book_Module_Size.l2] at h⟩
  | k + 1 => by
    obtain ⟨ih0, ih1, ih2⟩ := book_Module_Size.mono_l k
    refine ⟨?_, ?_, ?_⟩
    · intro y0 y1 y2 y3 y4 y5 y6 y7 y8 y9 y10
      unfold book_Module_Size.l0
      repeat' first
      | (with_reducible exact ih0 _ _ _ _ _ _ _ _ _ _ _)
      | (with_reducible exact ih1 _ _ _ _ _ _ _ _ _ _ _)
      | (with_reducible exact ih2 _ _ _ _)
      | (with_reducible exact LeO.refl _)
      | (with_reducible exact LeO.none _)
      | (with_reducible refine LeO.ite ?_ ?_)
      | (with_reducible refine LeO.bind ?_ (fun _ => ?_))
      | exact ih0 _ _ _ _ _ _ _ _ _ _ _
      | exact ih1 _ _ _ _ _ _ _ _ _ _ _
      | exact ih2 _ _ _ _
      | exact LeO.none _
      | refine LeO.ite ?_ ?_
      | refine LeO.bind ?_ (fun _ => ?_)
    · intro y0 y1 y2 y3 y4 y5 y6 y7 y8 y9 y10
      unfold book_Module_Size.l1
      repeat' first
      | (with_reducible exact ih0 _ _ _ _ _ _ _ _ _ _ _)
      | (with_reducible exact ih1 _ _ _ _ _ _ _ _ _ _ _)
      | (with_reducible exact ih2 _ _ _ _)
      | (with_reducible exact LeO.refl _)
      | (with_reducible exact LeO.none _)
      | (with_reducible refine LeO.ite ?_ ?_)
      | (with_reducible refine LeO.bind ?_ (fun _ => ?_))
      | exact ih0 _ _ _ _ _ _ _ _ _ _ _
      | exact ih1 _ _ _ _ _ _ _ _ _ _ _
      | exact ih2 _ _ _ _
      | exact LeO.none _
      | refine LeO.ite ?_ ?_
      | refine LeO.bind ?_ (fun _ => ?_)
    · intro y0 y1 y2 y3
      unfold book_Module_Size.l2
      repeat' first
      | (with_reducible exact ih0 _ _ _ _ _ _ _ _ _ _ _)
      | (with_reducible exact ih1 _ _ _ _ _ _ _ _ _ _ _)
      | (with_reducible exact ih2 _ _ _ _)
      | (with_reducible exact LeO.refl _)
      | (with_reducible exact LeO.none _)
      | (with_reducible refine LeO.ite ?_ ?_)
      | (with_reducible refine LeO.bind ?_ (fun _ => ?_))
      | exact ih0 _ _ _ _ _ _ _ _ _ _ _
      | exact ih1 _ _ _ _ _ _ _ _ _ _ _
      | exact ih2 _ _ _ _
      | exact LeO.none _
      | refine LeO.ite ?_ ?_
      | refine LeO.bind ?_ (fun _ => ?_)
theorem book_Module_Size.mono : ∀ a0 a1 a2 a3 a4 a5 a6 k, LeO (book_Module_Size.f k a0 a1 a2 a3 a4 a5 a6) (book_Module_Size.f (k + 1) a0 a1 a2 a3 a4 a5 a6) := by
  intro a0 a1 a2 a3 a4 a5 a6 k
  obtain ⟨ih0, ih1, ih2⟩ := book_Module_Size.mono_l k
  unfold book_Module_Size.f
  repeat' first
      | (with_reducible exact ih0 _ _ _ _ _ _ _ _ _ _ _)
      | (with_reducible exact ih1 _ _ _ _ _ _ _ _ _ _ _)
      | (with_reducible exact ih2 _ _ _ _)
      | (with_reducible exact LeO.refl _)
      | (with_reducible exact LeO.none _)
      | (with_reducible refine LeO.ite ?_ ?_)
      | (with_reducible refine LeO.bind ?_ (fun _ => ?_))
      | exact ih0 _ _ _ _ _ _ _ _ _ _ _
      | exact ih1 _ _ _ _ _ _ _ _ _ _ _
      | exact ih2 _ _ _ _
      | exact LeO.none _
      | refine LeO.ite ?_ ?_
      | refine LeO.bind ?_ (fun _ => ?_)
set_option maxHeartbeats 8000000 in
set_option maxRecDepth 100000 in
theorem book_Module_Size.calls (k : Nat) (a0_0 : ByteArray) (A0_1 : Option Addr) (c0_1 : Nat) (l0_1 : List (S52)) (A0_2 : Option Addr) (c0_2 : Nat) (l0_2 : List (S67)) (a0_3 : Int) (A0_4 : Option Addr) (c0_4 : Nat) (l0_4 : List (S74)) (A0_5 : Option Addr) (c0_5 : Nat) (l0_5 : List (S77)) (A0_6 : Option Addr) (c0_6 : Nat) (l0_6 : List (S64)) (r : Int) (w : World) (hr0_1 : Kd.C k52 w A0_1 l0_1.length l0_1) (hc0_1 : l0_1.length ≤ c0_1) (hr0_2 : Kd.C k67 w A0_2 l0_2.length l0_2) (hc0_2 : l0_2.length ≤ c0_2) (hr0_4 : Kd.C k74 w A0_4 l0_4.length l0_4) (hc0_4 : l0_4.length ≤ c0_4) (hr0_5 : Kd.C k77 w A0_5 l0_5.length l0_5) (hc0_5 : l0_5.length ≤ c0_5) (hr0_6 : Kd.C k64 w A0_6 l0_6.length l0_6) (hc0_6 : l0_6.length ≤ c0_6) (h : book_Module_Size.f k a0_0 l0_1 l0_2 a0_3 l0_4 l0_5 l0_6 = some r) :
    Calls Tryz.prog 17 #[.agg #[.string a0_0, .slice A0_1 l0_1.length c0_1, .slice A0_2 l0_2.length c0_2, .int .i64 a0_3, .slice A0_4 l0_4.length c0_4, .slice A0_5 l0_5.length c0_5, .slice A0_6 l0_6.length c0_6]] w fun e w' => e = .returned (.int .i64 r) ∧ Below w.heap.size w w' := by
 have HR0_1 := Aside0.mk hr0_1
 have HC0_1 := Aside0.mk hc0_1
 clear hr0_1 hc0_1
 have HR0_2 := Aside0.mk hr0_2
 have HC0_2 := Aside0.mk hc0_2
 clear hr0_2 hc0_2
 have HR0_4 := Aside0.mk hr0_4
 have HC0_4 := Aside0.mk hc0_4
 clear hr0_4 hc0_4
 have HR0_5 := Aside0.mk hr0_5
 have HC0_5 := Aside0.mk hc0_5
 clear hr0_5 hc0_5
 have HR0_6 := Aside0.mk hr0_6
 have HC0_6 := Aside0.mk hc0_6
 clear hr0_6 hc0_6
 unfold book_Module_Size.f at h
 have H := Aside0.mk h
 clear h
 have HB := Aside0.mk (Below.refl w.heap.size w)
 have hu30 := Tryz.underlying30
 have hu52 := Tryz.underlying52
 have hu67 := Tryz.underlying67
 have hu74 := Tryz.underlying74
 go_enter Tryz.func17, Tryz.ntmps17
 have BK297 := Aside0.mk (pe_box0 w #[.string a0_0, .slice A0_1 l0_1.length c0_1, .slice A0_2 l0_2.length c0_2, .int .i64 a0_3, .slice A0_4 l0_4.length c0_4, .slice A0_5 l0_5.length c0_5, .slice A0_6 l0_6.length c0_6] 30)
 replace HB := Aside0.mk (below_alloc HB.out (.cells #[.string a0_0, .slice A0_1 l0_1.length c0_1, .slice A0_2 l0_2.length c0_2, .int .i64 a0_3, .slice A0_4 l0_4.length c0_4, .slice A0_5 l0_5.length c0_5, .slice A0_6 l0_6.length c0_6] 30))
 go_wp2_with fail
 go_loopg [3, 32] k (fun kq v3 v32 w' => ∃ (x3_298 : Int) (x32_298 : Int), v3 = .int .i64 x3_298 ∧ v32 = .int .i64 x32_298 ∧ Aside0 (book_Module_Size.l0 kq x3_298 l0_1 (l0_1.length : Int) x32_298 a0_0 l0_1 l0_2 a0_3 l0_4 l0_5 l0_6 = some r) ∧ Aside0 (kq ≤ k) ∧ Aside0 (w'.heap[w.heap.size]? = some (.cells #[.string a0_0, .slice A0_1 l0_1.length c0_1, .slice A0_2 l0_2.length c0_2, .int .i64 a0_3, .slice A0_4 l0_4.length c0_4, .slice A0_5 l0_5.length c0_5, .slice A0_6 l0_6.length c0_6] 30 (0, 0))) ∧ Aside0 (Below w.heap.size w w'))
 case atStart => exact ⟨(wrap64 ((wrap64 ((wrap64 ((wrap64 ((l0_1.length : Int) + (l0_2.length : Int))) + (l0_4.length : Int))) + (l0_5.length : Int))) + (l0_6.length : Int))), 0, (by first | rfl | (simp; done) | (simp [*]; done)), (by first | rfl | (simp; done) | (simp [*]; done)), H, ⟨Nat.le_refl _⟩, BK297, HB⟩
 case round =>
  clear H HB BK297
  obtain ⟨x3_298, x32_298, rfl, rfl, HA, HK298, BK297, HB⟩ := hrel
  cases gk with
  | zero => exact absurd HA.out (by simp [book_Module_Size.l0])
  | succ k298 =>
   have H1 := HA.out
   simp only [book_Module_Size.l0] at H1
   have H := Aside0.mk H1
   clear H1 HA
   obtain ⟨hz299_297_0, hz299_297_1, hz299_297_2, hz299_297_3, hz299_297_4, hz299_297_5, hz299_297_6, hf299_297_0, hf299_297_1, hf299_297_2, hf299_297_3, hf299_297_4, hf299_297_5, hf299_297_6⟩ := blk7 BK297.out
   by_cases c300 : x32_298 < ((l0_1.length : Int))
   · have H1 := H.out
     rw [if_pos c300] at H1
     replace H := Aside0.mk H1
     clear H1
     have c300b0 : decide (x32_298 < ((l0_1.length : Int))) = true := decide_eq_true c300
     have Kc300 := Aside0.mk c300
     clear c300
     by_cases c301 : 0 ≤ x32_298
     · have H1 := H.out
       rw [if_pos c301] at H1
       replace H := Aside0.mk H1
       clear H1
       have c301b0 : decide (0 ≤ x32_298) = true := decide_eq_true c301
       have Kc301 := Aside0.mk c301
       clear c301
       by_cases c302 : x32_298 < (l0_1.length : Int)
       · have H1 := H.out
         rw [if_pos c302] at H1
         replace H := Aside0.mk H1
         clear H1
         have c302b0 : decide (x32_298 < (l0_1.length : Int)) = true := decide_eq_true c302
         have Kc302 := Aside0.mk c302
         clear c302
         have p243 : 0 ≤ (x32_298 : Int) := Kc301.out
         have q243 : x32_298 < (l0_1.length : Int) := Kc302.out
         obtain ⟨ad243, A243_1, c243_1, A243_2, c243_2, A243_3, c243_3, A243_4, c243_4, A243_5, c243_5, A243_6, c243_6, A243_7, c243_7, A243_8, c243_8, A243_9, c243_9, e243, hx243_0, hx243_1, hx243_2, hx243_3, hx243_4, hx243_5, hx243_6, hx243_7, hx243_8, hx243_9, hx243_10, hx243_11, hx243_12, hl243_1, hi243_1, hl243_2, hi243_2, hl243_3, hi243_3, hl243_4, hi243_4, hl243_5, hi243_5, hl243_6, hi243_6, hl243_7, hi243_7, hl243_8, hi243_8, hl243_9, hi243_9⟩ := at_T52 HR0_1.out (x32_298) p243 q243
         cases e243
         replace hx243_0 := (HB.out.cell (World.block_lt_of_cell? w _ hx243_0)).trans hx243_0
         replace hx243_1 := (HB.out.cell (World.block_lt_of_cell? w _ hx243_1)).trans hx243_1
         replace hx243_2 := (HB.out.cell (World.block_lt_of_cell? w _ hx243_2)).trans hx243_2
         replace hx243_3 := (HB.out.cell (World.block_lt_of_cell? w _ hx243_3)).trans hx243_3
         replace hx243_4 := (HB.out.cell (World.block_lt_of_cell? w _ hx243_4)).trans hx243_4
         replace hx243_5 := (HB.out.cell (World.block_lt_of_cell? w _ hx243_5)).trans hx243_5
         replace hx243_6 := (HB.out.cell (World.block_lt_of_cell? w _ hx243_6)).trans hx243_6
         replace hx243_7 := (HB.out.cell (World.block_lt_of_cell? w _ hx243_7)).trans hx243_7
         replace hx243_8 := (HB.out.cell (World.block_lt_of_cell? w _ hx243_8)).trans hx243_8
         replace hx243_9 := (HB.out.cell (World.block_lt_of_cell? w _ hx243_9)).trans hx243_9
         replace hx243_10 := (HB.out.cell (World.block_lt_of_cell? w _ hx243_10)).trans hx243_10
         replace hx243_11 := (HB.out.cell (World.block_lt_of_cell? w _ hx243_11)).trans hx243_11
         replace hx243_12 := (HB.out.cell (World.block_lt_of_cell? w _ hx243_12)).trans hx243_12
         have HR243_1 := Aside0.mk hi243_1
         have HC243_1 := Aside0.mk hl243_1
         clear hi243_1 hl243_1
         have HR243_2 := Aside0.mk hi243_2
         have HC243_2 := Aside0.mk hl243_2
         clear hi243_2 hl243_2
         have HR243_3 := Aside0.mk hi243_3
         have HC243_3 := Aside0.mk hl243_3
         clear hi243_3 hl243_3
         have HR243_4 := Aside0.mk hi243_4
         have HC243_4 := Aside0.mk hl243_4
         clear hi243_4 hl243_4
         have HR243_5 := Aside0.mk hi243_5
         have HC243_5 := Aside0.mk hl243_5
         clear hi243_5 hl243_5
         have HR243_6 := Aside0.mk hi243_6
         have HC243_6 := Aside0.mk hl243_6
         clear hi243_6 hl243_6
         have HR243_7 := Aside0.mk hi243_7
         have HC243_7 := Aside0.mk hl243_7
         clear hi243_7 hl243_7
         have HR243_8 := Aside0.mk hi243_8
         have HC243_8 := Aside0.mk hl243_8
         clear hi243_8 hl243_8
         have HR243_9 := Aside0.mk hi243_9
         have HC243_9 := Aside0.mk hl243_9
         clear hi243_9 hl243_9
         have ha304 := fun o_ => ((alloc_below0 wr o_).cell (p := ⟨_, 0, none⟩) (blk_lt BK297.out)).trans ((blk_cell BK297.out 0).trans rfl)
         have ha305 := fun o_ => ((alloc_below0 wr o_).cell (p := ⟨_, 1, none⟩) (blk_lt BK297.out)).trans ((blk_cell BK297.out 1).trans rfl)
         have ha306 := fun o_ => ((alloc_below0 wr o_).cell (p := ⟨_, 2, none⟩) (blk_lt BK297.out)).trans ((blk_cell BK297.out 2).trans rfl)
         have ha307 := fun o_ => ((alloc_below0 wr o_).cell (p := ⟨_, 3, none⟩) (blk_lt BK297.out)).trans ((blk_cell BK297.out 3).trans rfl)
         have ha308 := fun o_ => ((alloc_below0 wr o_).cell (p := ⟨_, 4, none⟩) (blk_lt BK297.out)).trans ((blk_cell BK297.out 4).trans rfl)
         have ha309 := fun o_ => ((alloc_below0 wr o_).cell (p := ⟨_, 5, none⟩) (blk_lt BK297.out)).trans ((blk_cell BK297.out 5).trans rfl)
         have ha310 := fun o_ => ((alloc_below0 wr o_).cell (p := ⟨_, 6, none⟩) (blk_lt BK297.out)).trans ((blk_cell BK297.out 6).trans rfl)
         have ha311 := fun o_ => ((alloc_below0 wr o_).cell (World.block_lt_of_cell? wr _ hx243_0)).trans hx243_0
         have ha312 := fun o_ => ((alloc_below0 wr o_).cell (World.block_lt_of_cell? wr _ hx243_1)).trans hx243_1
         have ha313 := fun o_ => ((alloc_below0 wr o_).cell (World.block_lt_of_cell? wr _ hx243_2)).trans hx243_2
         have ha314 := fun o_ => ((alloc_below0 wr o_).cell (World.block_lt_of_cell? wr _ hx243_3)).trans hx243_3
         have ha315 := fun o_ => ((alloc_below0 wr o_).cell (World.block_lt_of_cell? wr _ hx243_4)).trans hx243_4
         have ha316 := fun o_ => ((alloc_below0 wr o_).cell (World.block_lt_of_cell? wr _ hx243_5)).trans hx243_5
         have ha317 := fun o_ => ((alloc_below0 wr o_).cell (World.block_lt_of_cell? wr _ hx243_6)).trans hx243_6
         have ha318 := fun o_ => ((alloc_below0 wr o_).cell (World.block_lt_of_cell? wr _ hx243_7)).trans hx243_7
         have ha319 := fun o_ => ((alloc_below0 wr o_).cell (World.block_lt_of_cell? wr _ hx243_8)).trans hx243_8
         have ha320 := fun o_ => ((alloc_below0 wr o_).cell (World.block_lt_of_cell? wr _ hx243_9)).trans hx243_9
         have ha321 := fun o_ => ((alloc_below0 wr o_).cell (World.block_lt_of_cell? wr _ hx243_10)).trans hx243_10
         have ha322 := fun o_ => ((alloc_below0 wr o_).cell (World.block_lt_of_cell? wr _ hx243_11)).trans hx243_11
         have ha323 := fun o_ => ((alloc_below0 wr o_).cell (World.block_lt_of_cell? wr _ hx243_12)).trans hx243_12
         have BK303 := Aside0.mk (pe_box0 wr #[.string ((rd_T52 l0_1 x32_298).f0), .slice A243_1 ((rd_T52 l0_1 x32_298).f1).length c243_1, .slice A243_2 ((rd_T52 l0_1 x32_298).f2).length c243_2, .slice A243_3 ((rd_T52 l0_1 x32_298).f3).length c243_3, .slice A243_4 ((rd_T52 l0_1 x32_298).f4).length c243_4, .slice A243_5 ((rd_T52 l0_1 x32_298).f5).length c243_5, .slice A243_6 ((rd_T52 l0_1 x32_298).f6).length c243_6, .slice A243_7 ((rd_T52 l0_1 x32_298).f7).length c243_7, .slice A243_8 ((rd_T52 l0_1 x32_298).f8).length c243_8, .slice A243_9 ((rd_T52 l0_1 x32_298).f9).length c243_9, .int .i64 ((rd_T52 l0_1 x32_298).f10), .int .i64 ((rd_T52 l0_1 x32_298).f11.f0), .int .i64 ((rd_T52 l0_1 x32_298).f11.f1)] 52)
         replace BK297 := Aside0.mk (blk_below BK297.out (alloc_below0 _ (.cells #[.string ((rd_T52 l0_1 x32_298).f0), .slice A243_1 ((rd_T52 l0_1 x32_298).f1).length c243_1, .slice A243_2 ((rd_T52 l0_1 x32_298).f2).length c243_2, .slice A243_3 ((rd_T52 l0_1 x32_298).f3).length c243_3, .slice A243_4 ((rd_T52 l0_1 x32_298).f4).length c243_4, .slice A243_5 ((rd_T52 l0_1 x32_298).f5).length c243_5, .slice A243_6 ((rd_T52 l0_1 x32_298).f6).length c243_6, .slice A243_7 ((rd_T52 l0_1 x32_298).f7).length c243_7, .slice A243_8 ((rd_T52 l0_1 x32_298).f8).length c243_8, .slice A243_9 ((rd_T52 l0_1 x32_298).f9).length c243_9, .int .i64 ((rd_T52 l0_1 x32_298).f10), .int .i64 ((rd_T52 l0_1 x32_298).f11.f0), .int .i64 ((rd_T52 l0_1 x32_298).f11.f1)] 52)))
         replace HB := Aside0.mk (below_alloc HB.out (.cells #[.string ((rd_T52 l0_1 x32_298).f0), .slice A243_1 ((rd_T52 l0_1 x32_298).f1).length c243_1, .slice A243_2 ((rd_T52 l0_1 x32_298).f2).length c243_2, .slice A243_3 ((rd_T52 l0_1 x32_298).f3).length c243_3, .slice A243_4 ((rd_T52 l0_1 x32_298).f4).length c243_4, .slice A243_5 ((rd_T52 l0_1 x32_298).f5).length c243_5, .slice A243_6 ((rd_T52 l0_1 x32_298).f6).length c243_6, .slice A243_7 ((rd_T52 l0_1 x32_298).f7).length c243_7, .slice A243_8 ((rd_T52 l0_1 x32_298).f8).length c243_8, .slice A243_9 ((rd_T52 l0_1 x32_298).f9).length c243_9, .int .i64 ((rd_T52 l0_1 x32_298).f10), .int .i64 ((rd_T52 l0_1 x32_298).f11.f0), .int .i64 ((rd_T52 l0_1 x32_298).f11.f1)] 52))
         go_wp2
         go_roundg k298
         case measure => have := HK298.out; omega
         case rel => exact ⟨(wrap64 (x3_298 + (wrap64 ((wrap64 ((wrap64 ((wrap64 ((wrap64 ((wrap64 ((wrap64 ((wrap64 ((((rd_T52 l0_1 x32_298).f1).length : Int) + (((rd_T52 l0_1 x32_298).f2).length : Int))) + (((rd_T52 l0_1 x32_298).f3).length : Int))) + (((rd_T52 l0_1 x32_298).f4).length : Int))) + (((rd_T52 l0_1 x32_298).f5).length : Int))) + (((rd_T52 l0_1 x32_298).f6).length : Int))) + (((rd_T52 l0_1 x32_298).f7).length : Int))) + (((rd_T52 l0_1 x32_298).f8).length : Int))) + (((rd_T52 l0_1 x32_298).f9).length : Int))))), (wrap64 (x32_298 + 1)), (by first | rfl | (simp; done) | (simp [*]; done)), (by first | rfl | (simp; done) | (simp [*]; done)), H, ⟨by have := HK298.out; omega⟩, BK297, HB⟩
       · have H1 := H.out
         rw [if_neg c302] at H1
         replace H := Aside0.mk H1
         clear H1
         exact absurd H.out (by simp)
     · have H1 := H.out
       rw [if_neg c301] at H1
       replace H := Aside0.mk H1
       clear H1
       exact absurd H.out (by simp)
   · have H1 := H.out
     rw [if_neg c300] at H1
     replace H := Aside0.mk H1
     clear H1
     have c300b0 : decide (x32_298 < ((l0_1.length : Int))) = false := decide_eq_false c300
     have Kc300 := Aside0.mk c300
     clear c300
     go_wp2_with fail
     go_loopg [3, 77] k298 (fun kq v3 v77 w' => ∃ (x3_324 : Int) (x77_324 : Int), v3 = .int .i64 x3_324 ∧ v77 = .int .i64 x77_324 ∧ Aside0 (book_Module_Size.l1 kq x3_324 l0_2 (l0_2.length : Int) x77_324 a0_0 l0_1 l0_2 a0_3 l0_4 l0_5 l0_6 = some r) ∧ Aside0 (kq ≤ k298) ∧ Aside0 (w'.heap[w.heap.size]? = some (.cells #[.string a0_0, .slice A0_1 l0_1.length c0_1, .slice A0_2 l0_2.length c0_2, .int .i64 a0_3, .slice A0_4 l0_4.length c0_4, .slice A0_5 l0_5.length c0_5, .slice A0_6 l0_6.length c0_6] 30 (0, 0))) ∧ Aside0 (Below w.heap.size w w'))
     case atStart => exact ⟨x3_298, 0, (by first | rfl | (simp; done) | (simp [*]; done)), (by first | rfl | (simp; done) | (simp [*]; done)), H, ⟨Nat.le_refl _⟩, BK297, HB⟩
     case round =>
      clear H HB BK297
      try clear hz299_297_0 hz299_297_1 hz299_297_2 hz299_297_3 hz299_297_4 hz299_297_5 hz299_297_6 hf299_297_0 hf299_297_1 hf299_297_2 hf299_297_3 hf299_297_4 hf299_297_5 hf299_297_6
      obtain ⟨x3_324, x77_324, rfl, rfl, HA, HK324, BK297, HB⟩ := hrel
      cases gk with
      | zero => exact absurd HA.out (by simp [book_Module_Size.l1])
      | succ k324 =>
       have H1 := HA.out
       simp only [book_Module_Size.l1] at H1
       have H := Aside0.mk H1
       clear H1 HA
       obtain ⟨hz325_297_0, hz325_297_1, hz325_297_2, hz325_297_3, hz325_297_4, hz325_297_5, hz325_297_6, hf325_297_0, hf325_297_1, hf325_297_2, hf325_297_3, hf325_297_4, hf325_297_5, hf325_297_6⟩ := blk7 BK297.out
       by_cases c326 : x77_324 < ((l0_2.length : Int))
       · have H1 := H.out
         rw [if_pos c326] at H1
         replace H := Aside0.mk H1
         clear H1
         have c326b0 : decide (x77_324 < ((l0_2.length : Int))) = true := decide_eq_true c326
         have Kc326 := Aside0.mk c326
         clear c326
         by_cases c327 : 0 ≤ x77_324
         · have H1 := H.out
           rw [if_pos c327] at H1
           replace H := Aside0.mk H1
           clear H1
           have c327b0 : decide (0 ≤ x77_324) = true := decide_eq_true c327
           have Kc327 := Aside0.mk c327
           clear c327
           by_cases c328 : x77_324 < (l0_2.length : Int)
           · have H1 := H.out
             rw [if_pos c328] at H1
             replace H := Aside0.mk H1
             clear H1
             have c328b0 : decide (x77_324 < (l0_2.length : Int)) = true := decide_eq_true c328
             have Kc328 := Aside0.mk c328
             clear c328
             have p245 : 0 ≤ (x77_324 : Int) := Kc327.out
             have q245 : x77_324 < (l0_2.length : Int) := Kc328.out
             obtain ⟨ad245, A245_2, c245_2, e245, hx245_0, hx245_1, hx245_2, hl245_2, hi245_2⟩ := at_T67 HR0_2.out (x77_324) p245 q245
             cases e245
             replace hx245_0 := (HB.out.cell (World.block_lt_of_cell? w _ hx245_0)).trans hx245_0
             replace hx245_1 := (HB.out.cell (World.block_lt_of_cell? w _ hx245_1)).trans hx245_1
             replace hx245_2 := (HB.out.cell (World.block_lt_of_cell? w _ hx245_2)).trans hx245_2
             have HR245_2 := Aside0.mk hi245_2
             have HC245_2 := Aside0.mk hl245_2
             clear hi245_2 hl245_2
             have ha330 := fun o_ => ((alloc_below0 wr o_).cell (p := ⟨_, 0, none⟩) (blk_lt BK297.out)).trans ((blk_cell BK297.out 0).trans rfl)
             have ha331 := fun o_ => ((alloc_below0 wr o_).cell (p := ⟨_, 1, none⟩) (blk_lt BK297.out)).trans ((blk_cell BK297.out 1).trans rfl)
             have ha332 := fun o_ => ((alloc_below0 wr o_).cell (p := ⟨_, 2, none⟩) (blk_lt BK297.out)).trans ((blk_cell BK297.out 2).trans rfl)
             have ha333 := fun o_ => ((alloc_below0 wr o_).cell (p := ⟨_, 3, none⟩) (blk_lt BK297.out)).trans ((blk_cell BK297.out 3).trans rfl)
             have ha334 := fun o_ => ((alloc_below0 wr o_).cell (p := ⟨_, 4, none⟩) (blk_lt BK297.out)).trans ((blk_cell BK297.out 4).trans rfl)
             have ha335 := fun o_ => ((alloc_below0 wr o_).cell (p := ⟨_, 5, none⟩) (blk_lt BK297.out)).trans ((blk_cell BK297.out 5).trans rfl)
             have ha336 := fun o_ => ((alloc_below0 wr o_).cell (p := ⟨_, 6, none⟩) (blk_lt BK297.out)).trans ((blk_cell BK297.out 6).trans rfl)
             have ha337 := fun o_ => ((alloc_below0 wr o_).cell (World.block_lt_of_cell? wr _ hx245_0)).trans hx245_0
             have ha338 := fun o_ => ((alloc_below0 wr o_).cell (World.block_lt_of_cell? wr _ hx245_1)).trans hx245_1
             have ha339 := fun o_ => ((alloc_below0 wr o_).cell (World.block_lt_of_cell? wr _ hx245_2)).trans hx245_2
             have BK329 := Aside0.mk (pe_box0 wr #[.string ((rd_T67 l0_2 x77_324).f0), .int .i64 ((rd_T67 l0_2 x77_324).f1), .slice A245_2 ((rd_T67 l0_2 x77_324).f2).length c245_2] 67)
             replace BK297 := Aside0.mk (blk_below BK297.out (alloc_below0 _ (.cells #[.string ((rd_T67 l0_2 x77_324).f0), .int .i64 ((rd_T67 l0_2 x77_324).f1), .slice A245_2 ((rd_T67 l0_2 x77_324).f2).length c245_2] 67)))
             replace HB := Aside0.mk (below_alloc HB.out (.cells #[.string ((rd_T67 l0_2 x77_324).f0), .int .i64 ((rd_T67 l0_2 x77_324).f1), .slice A245_2 ((rd_T67 l0_2 x77_324).f2).length c245_2] 67))
             go_wp2
             go_roundg k324
             case measure => have := HK298.out; have := HK324.out; omega
             case rel => exact ⟨(wrap64 (x3_324 + (((rd_T67 l0_2 x77_324).f2).length : Int))), (wrap64 (x77_324 + 1)), (by first | rfl | (simp; done) | (simp [*]; done)), (by first | rfl | (simp; done) | (simp [*]; done)), H, ⟨by have := HK298.out; have := HK324.out; omega⟩, BK297, HB⟩
           · have H1 := H.out
             rw [if_neg c328] at H1
             replace H := Aside0.mk H1
             clear H1
             exact absurd H.out (by simp)
         · have H1 := H.out
           rw [if_neg c327] at H1
           replace H := Aside0.mk H1
           clear H1
           exact absurd H.out (by simp)
       · have H1 := H.out
         rw [if_neg c326] at H1
         replace H := Aside0.mk H1
         clear H1
         have c326b0 : decide (x77_324 < ((l0_2.length : Int))) = false := decide_eq_false c326
         have Kc326 := Aside0.mk c326
         clear c326
         go_wp2_with fail
         go_loopg [3, 90] k324 (fun kq v3 v90 w' => ∃ (x3_340 : Int) (x90_340 : Int), v3 = .int .i64 x3_340 ∧ v90 = .int .i64 x90_340 ∧ Aside0 (book_Module_Size.l2 kq x3_340 l0_4 (l0_4.length : Int) x90_340 = some r) ∧ Aside0 (kq ≤ k324) ∧ Aside0 (w'.heap[w.heap.size]? = some (.cells #[.string a0_0, .slice A0_1 l0_1.length c0_1, .slice A0_2 l0_2.length c0_2, .int .i64 a0_3, .slice A0_4 l0_4.length c0_4, .slice A0_5 l0_5.length c0_5, .slice A0_6 l0_6.length c0_6] 30 (0, 0))) ∧ Aside0 (Below w.heap.size w w'))
         case atStart => exact ⟨x3_324, 0, (by first | rfl | (simp; done) | (simp [*]; done)), (by first | rfl | (simp; done) | (simp [*]; done)), H, ⟨Nat.le_refl _⟩, BK297, HB⟩
         case round =>
          clear H HB BK297
          try clear hz325_297_0 hz325_297_1 hz325_297_2 hz325_297_3 hz325_297_4 hz325_297_5 hz325_297_6 hf325_297_0 hf325_297_1 hf325_297_2 hf325_297_3 hf325_297_4 hf325_297_5 hf325_297_6
          obtain ⟨x3_340, x90_340, rfl, rfl, HA, HK340, BK297, HB⟩ := hrel
          cases gk with
          | zero => exact absurd HA.out (by simp [book_Module_Size.l2])
          | succ k340 =>
           have H1 := HA.out
           simp only [book_Module_Size.l2] at H1
           have H := Aside0.mk H1
           clear H1 HA
           obtain ⟨hz341_297_0, hz341_297_1, hz341_297_2, hz341_297_3, hz341_297_4, hz341_297_5, hz341_297_6, hf341_297_0, hf341_297_1, hf341_297_2, hf341_297_3, hf341_297_4, hf341_297_5, hf341_297_6⟩ := blk7 BK297.out
           by_cases c342 : x90_340 < ((l0_4.length : Int))
           · have H1 := H.out
             rw [if_pos c342] at H1
             replace H := Aside0.mk H1
             clear H1
             have c342b0 : decide (x90_340 < ((l0_4.length : Int))) = true := decide_eq_true c342
             have Kc342 := Aside0.mk c342
             clear c342
             by_cases c343 : 0 ≤ x90_340
             · have H1 := H.out
               rw [if_pos c343] at H1
               replace H := Aside0.mk H1
               clear H1
               have c343b0 : decide (0 ≤ x90_340) = true := decide_eq_true c343
               have Kc343 := Aside0.mk c343
               clear c343
               by_cases c344 : x90_340 < (l0_4.length : Int)
               · have H1 := H.out
                 rw [if_pos c344] at H1
                 replace H := Aside0.mk H1
                 clear H1
                 have c344b0 : decide (x90_340 < (l0_4.length : Int)) = true := decide_eq_true c344
                 have Kc344 := Aside0.mk c344
                 clear c344
                 have p247 : 0 ≤ (x90_340 : Int) := Kc343.out
                 have q247 : x90_340 < (l0_4.length : Int) := Kc344.out
                 obtain ⟨ad247, A247_2, c247_2, e247, hx247_0, hx247_1, hx247_2, hl247_2, hi247_2⟩ := at_T74 HR0_4.out (x90_340) p247 q247
                 cases e247
                 replace hx247_0 := (HB.out.cell (World.block_lt_of_cell? w _ hx247_0)).trans hx247_0
                 replace hx247_1 := (HB.out.cell (World.block_lt_of_cell? w _ hx247_1)).trans hx247_1
                 replace hx247_2 := (HB.out.cell (World.block_lt_of_cell? w _ hx247_2)).trans hx247_2
                 have HR247_2 := Aside0.mk hi247_2
                 have HC247_2 := Aside0.mk hl247_2
                 clear hi247_2 hl247_2
                 have ha346 := fun o_ => ((alloc_below0 wr o_).cell (p := ⟨_, 0, none⟩) (blk_lt BK297.out)).trans ((blk_cell BK297.out 0).trans rfl)
                 have ha347 := fun o_ => ((alloc_below0 wr o_).cell (p := ⟨_, 1, none⟩) (blk_lt BK297.out)).trans ((blk_cell BK297.out 1).trans rfl)
                 have ha348 := fun o_ => ((alloc_below0 wr o_).cell (p := ⟨_, 2, none⟩) (blk_lt BK297.out)).trans ((blk_cell BK297.out 2).trans rfl)
                 have ha349 := fun o_ => ((alloc_below0 wr o_).cell (p := ⟨_, 3, none⟩) (blk_lt BK297.out)).trans ((blk_cell BK297.out 3).trans rfl)
                 have ha350 := fun o_ => ((alloc_below0 wr o_).cell (p := ⟨_, 4, none⟩) (blk_lt BK297.out)).trans ((blk_cell BK297.out 4).trans rfl)
                 have ha351 := fun o_ => ((alloc_below0 wr o_).cell (p := ⟨_, 5, none⟩) (blk_lt BK297.out)).trans ((blk_cell BK297.out 5).trans rfl)
                 have ha352 := fun o_ => ((alloc_below0 wr o_).cell (p := ⟨_, 6, none⟩) (blk_lt BK297.out)).trans ((blk_cell BK297.out 6).trans rfl)
                 have ha353 := fun o_ => ((alloc_below0 wr o_).cell (World.block_lt_of_cell? wr _ hx247_0)).trans hx247_0
                 have ha354 := fun o_ => ((alloc_below0 wr o_).cell (World.block_lt_of_cell? wr _ hx247_1)).trans hx247_1
                 have ha355 := fun o_ => ((alloc_below0 wr o_).cell (World.block_lt_of_cell? wr _ hx247_2)).trans hx247_2
                 have BK345 := Aside0.mk (pe_box0 wr #[.int .i64 ((rd_T74 l0_4 x90_340).f0.f0), .int .i64 ((rd_T74 l0_4 x90_340).f0.f1), .slice A247_2 ((rd_T74 l0_4 x90_340).f1).length c247_2] 74)
                 replace BK297 := Aside0.mk (blk_below BK297.out (alloc_below0 _ (.cells #[.int .i64 ((rd_T74 l0_4 x90_340).f0.f0), .int .i64 ((rd_T74 l0_4 x90_340).f0.f1), .slice A247_2 ((rd_T74 l0_4 x90_340).f1).length c247_2] 74)))
                 replace HB := Aside0.mk (below_alloc HB.out (.cells #[.int .i64 ((rd_T74 l0_4 x90_340).f0.f0), .int .i64 ((rd_T74 l0_4 x90_340).f0.f1), .slice A247_2 ((rd_T74 l0_4 x90_340).f1).length c247_2] 74))
                 go_wp2
                 go_roundg k340
                 case measure => have := HK298.out; have := HK324.out; have := HK340.out; omega
                 case rel => exact ⟨(wrap64 (x3_340 + (((rd_T74 l0_4 x90_340).f1).length : Int))), (wrap64 (x90_340 + 1)), (by first | rfl | (simp; done) | (simp [*]; done)), (by first | rfl | (simp; done) | (simp [*]; done)), H, ⟨by have := HK298.out; have := HK324.out; have := HK340.out; omega⟩, BK297, HB⟩
               · have H1 := H.out
                 rw [if_neg c344] at H1
                 replace H := Aside0.mk H1
                 clear H1
                 exact absurd H.out (by simp)
             · have H1 := H.out
               rw [if_neg c343] at H1
               replace H := Aside0.mk H1
               clear H1
               exact absurd H.out (by simp)
           · have H1 := H.out
             rw [if_neg c342] at H1
             replace H := Aside0.mk H1
             clear H1
             have c342b0 : decide (x90_340 < ((l0_4.length : Int))) = false := decide_eq_false c342
             have Kc342 := Aside0.mk c342
             clear c342
             obtain rfl := Option.some.inj H.out
             go_wp2
             go_ret
             exact ⟨by first | rfl | (simp; done) | (simp [*]; done), HB.out⟩

/-! ### book_Module_Names_1: function 59 -/
def book_Module_Names_1.f (a0_0 : ByteArray) (l0_1 : List (S62)) (l0_2 : List (S109)) (l0_3 : List (S111)) (l0_4 : List (S113)) (l0_5 : List (S115)) (l0_6 : List (S117)) (l0_7 : List (S119)) (l0_8 : List (S60)) (l0_9 : List (S64)) (a0_10 : Int) (a0_11 : Int) (a0_12 : Int) : Option (ByteArray) := some a0_0
set_option maxHeartbeats 8000000 in
set_option maxRecDepth 100000 in
theorem book_Module_Names_1.calls (a0_0 : ByteArray) (A0_1 : Option Addr) (c0_1 : Nat) (l0_1 : List (S62)) (A0_2 : Option Addr) (c0_2 : Nat) (l0_2 : List (S109)) (A0_3 : Option Addr) (c0_3 : Nat) (l0_3 : List (S111)) (A0_4 : Option Addr) (c0_4 : Nat) (l0_4 : List (S113)) (A0_5 : Option Addr) (c0_5 : Nat) (l0_5 : List (S115)) (A0_6 : Option Addr) (c0_6 : Nat) (l0_6 : List (S117)) (A0_7 : Option Addr) (c0_7 : Nat) (l0_7 : List (S119)) (A0_8 : Option Addr) (c0_8 : Nat) (l0_8 : List (S60)) (A0_9 : Option Addr) (c0_9 : Nat) (l0_9 : List (S64)) (a0_10 : Int) (a0_11 : Int) (a0_12 : Int) (r : ByteArray) (w : World) (hr0_1 : Kd.C k62 w A0_1 l0_1.length l0_1) (hc0_1 : l0_1.length ≤ c0_1) (hr0_2 : Kd.C k109 w A0_2 l0_2.length l0_2) (hc0_2 : l0_2.length ≤ c0_2) (hr0_3 : Kd.C k111 w A0_3 l0_3.length l0_3) (hc0_3 : l0_3.length ≤ c0_3) (hr0_4 : Kd.C k113 w A0_4 l0_4.length l0_4) (hc0_4 : l0_4.length ≤ c0_4) (hr0_5 : Kd.C k115 w A0_5 l0_5.length l0_5) (hc0_5 : l0_5.length ≤ c0_5) (hr0_6 : Kd.C k117 w A0_6 l0_6.length l0_6) (hc0_6 : l0_6.length ≤ c0_6) (hr0_7 : Kd.C k119 w A0_7 l0_7.length l0_7) (hc0_7 : l0_7.length ≤ c0_7) (hr0_8 : Kd.C k60 w A0_8 l0_8.length l0_8) (hc0_8 : l0_8.length ≤ c0_8) (hr0_9 : Kd.C k64 w A0_9 l0_9.length l0_9) (hc0_9 : l0_9.length ≤ c0_9) (h : book_Module_Names_1.f a0_0 l0_1 l0_2 l0_3 l0_4 l0_5 l0_6 l0_7 l0_8 l0_9 a0_10 a0_11 a0_12 = some r) :
  Calls Tryz.prog 59 #[.agg #[.string a0_0, .slice A0_1 l0_1.length c0_1, .slice A0_2 l0_2.length c0_2, .slice A0_3 l0_3.length c0_3, .slice A0_4 l0_4.length c0_4, .slice A0_5 l0_5.length c0_5, .slice A0_6 l0_6.length c0_6, .slice A0_7 l0_7.length c0_7, .slice A0_8 l0_8.length c0_8, .slice A0_9 l0_9.length c0_9, .int .i64 a0_10, .int .i64 a0_11, .int .i64 a0_12]] w fun e w' => e = .returned (.string r) ∧ Below w.heap.size w w' := by
 have hu52 := Tryz.underlying52
 have HR0_1 := Aside0.mk hr0_1
 have HC0_1 := Aside0.mk hc0_1
 clear hr0_1 hc0_1
 have HR0_2 := Aside0.mk hr0_2
 have HC0_2 := Aside0.mk hc0_2
 clear hr0_2 hc0_2
 have HR0_3 := Aside0.mk hr0_3
 have HC0_3 := Aside0.mk hc0_3
 clear hr0_3 hc0_3
 have HR0_4 := Aside0.mk hr0_4
 have HC0_4 := Aside0.mk hc0_4
 clear hr0_4 hc0_4
 have HR0_5 := Aside0.mk hr0_5
 have HC0_5 := Aside0.mk hc0_5
 clear hr0_5 hc0_5
 have HR0_6 := Aside0.mk hr0_6
 have HC0_6 := Aside0.mk hc0_6
 clear hr0_6 hc0_6
 have HR0_7 := Aside0.mk hr0_7
 have HC0_7 := Aside0.mk hc0_7
 clear hr0_7 hc0_7
 have HR0_8 := Aside0.mk hr0_8
 have HC0_8 := Aside0.mk hc0_8
 clear hr0_8 hc0_8
 have HR0_9 := Aside0.mk hr0_9
 have HC0_9 := Aside0.mk hc0_9
 clear hr0_9 hc0_9
 have HB := Aside0.mk (Below.refl w.heap.size w)
 have H : (some a0_0) = some r := h
 clear h
 obtain rfl := Option.some.inj H
 go_enter Tryz.func59, Tryz.ntmps59
 go_wp2_with (first | ((with_reducible refine gate_dst (N := 1) rfl ?_); refine box_event ?hg (N := 1) ?hd (cs := #[.string a0_0, .slice A0_1 l0_1.length c0_1, .slice A0_2 l0_2.length c0_2, .slice A0_3 l0_3.length c0_3, .slice A0_4 l0_4.length c0_4, .slice A0_5 l0_5.length c0_5, .slice A0_6 l0_6.length c0_6, .slice A0_7 l0_7.length c0_7, .slice A0_8 l0_8.length c0_8, .slice A0_9 l0_9.length c0_9, .int .i64 a0_10, .int .i64 a0_11, .int .i64 a0_12]) (t := 52) ?hr ?_; (case hd => rfl); (case hg => rfl); (case hr => first | (go_simp; done) | (go_simp; rfl)); intro gb249 hg w2 hbox hb; have n0_ := Aside0.mk (below_step (by repeat (first | (with_reducible first | exact HB.out | apply below_alloc | apply pw_below_drewN | apply below_drew1) | exact HB.out)) hb); have n1_ := Aside0.mk (hbox); have n2_ := Aside0.mk ((by rw [hg]; exact (below_size (by repeat (first | (with_reducible first | exact HB.out | apply below_alloc | apply pw_below_drewN | apply below_drew1) | exact HB.out))) : w.heap.size ≤ gb249)); have n3_ := Aside0.mk ((by rw [hg]; exact (below_size (by repeat (first | (with_reducible first | exact HB.out | apply below_alloc | apply pw_below_drewN | apply below_drew1) | exact HB.out))) : w.heap.size ≤ gb249)); clear HB; have HB := n0_; have BK249 := n1_; have GW249 := n2_; have GE249 := n3_; clear n0_ n1_ n2_ n3_; clear hb hbox hg; obtain ⟨hcz3_0, hcz3_1, hcz3_2, hcz3_3, hcz3_4, hcz3_5, hcz3_6, hcz3_7, hcz3_8, hcz3_9, hcz3_10, hcz3_11, hcz3_12, hfz3_0, hfz3_1, hfz3_2, hfz3_3, hfz3_4, hfz3_5, hfz3_6, hfz3_7, hfz3_8, hfz3_9, hfz3_10, hfz3_11, hfz3_12⟩ := blk13 BK249.out))
 go_ret
 exact ⟨by first | rfl | (simp [errW_none, errW_some] <;> rfl) | (simp [*, errW_none, errW_some] <;> rfl), by repeat (first | (with_reducible first | exact HB.out | apply below_alloc | apply pw_below_drewN | apply below_drew1 | refine below_set ?_ GE249.out) | exact HB.out)⟩

/-! ### book_Module_Names_2: function 61 -/
def book_Module_Names_2.f (a0_0 : ByteArray) (a0_1 : Int) (l0_2 : List (S69)) : Option (ByteArray) := some a0_0
set_option maxHeartbeats 8000000 in
set_option maxRecDepth 100000 in
theorem book_Module_Names_2.calls (a0_0 : ByteArray) (a0_1 : Int) (A0_2 : Option Addr) (c0_2 : Nat) (l0_2 : List (S69)) (r : ByteArray) (w : World) (hr0_2 : Kd.C k69 w A0_2 l0_2.length l0_2) (hc0_2 : l0_2.length ≤ c0_2) (h : book_Module_Names_2.f a0_0 a0_1 l0_2 = some r) :
  Calls Tryz.prog 61 #[.agg #[.string a0_0, .int .i64 a0_1, .slice A0_2 l0_2.length c0_2]] w fun e w' => e = .returned (.string r) ∧ Below w.heap.size w w' := by
 have hu67 := Tryz.underlying67
 have HR0_2 := Aside0.mk hr0_2
 have HC0_2 := Aside0.mk hc0_2
 clear hr0_2 hc0_2
 have HB := Aside0.mk (Below.refl w.heap.size w)
 have H : (some a0_0) = some r := h
 clear h
 obtain rfl := Option.some.inj H
 go_enter Tryz.func61, Tryz.ntmps61
 go_wp2_with (first | ((with_reducible refine gate_dst (N := 1) rfl ?_); refine box_event ?hg (N := 1) ?hd (cs := #[.string a0_0, .int .i64 a0_1, .slice A0_2 l0_2.length c0_2]) (t := 67) ?hr ?_; (case hd => rfl); (case hg => rfl); (case hr => first | (go_simp; done) | (go_simp; rfl)); intro gb250 hg w2 hbox hb; have n0_ := Aside0.mk (below_step (by repeat (first | (with_reducible first | exact HB.out | apply below_alloc | apply pw_below_drewN | apply below_drew1) | exact HB.out)) hb); have n1_ := Aside0.mk (hbox); have n2_ := Aside0.mk ((by rw [hg]; exact (below_size (by repeat (first | (with_reducible first | exact HB.out | apply below_alloc | apply pw_below_drewN | apply below_drew1) | exact HB.out))) : w.heap.size ≤ gb250)); have n3_ := Aside0.mk ((by rw [hg]; exact (below_size (by repeat (first | (with_reducible first | exact HB.out | apply below_alloc | apply pw_below_drewN | apply below_drew1) | exact HB.out))) : w.heap.size ≤ gb250)); clear HB; have HB := n0_; have BK250 := n1_; have GW250 := n2_; have GE250 := n3_; clear n0_ n1_ n2_ n3_; clear hb hbox hg; obtain ⟨hcz3_0, hcz3_1, hcz3_2, hfz3_0, hfz3_1, hfz3_2⟩ := blk3 BK250.out))
 go_ret
 exact ⟨by first | rfl | (simp [errW_none, errW_some] <;> rfl) | (simp [*, errW_none, errW_some] <;> rfl), by repeat (first | (with_reducible first | exact HB.out | apply below_alloc | apply pw_below_drewN | apply below_drew1 | refine below_set ?_ GE250.out) | exact HB.out)⟩

/-! ### book_Module_Names_3: function 63 -/
def book_Module_Names_3.f (a0_0 : ByteArray) (a0_1 : Int) (a0_2 : Int) : Option (ByteArray) := some a0_0
set_option maxHeartbeats 8000000 in
set_option maxRecDepth 100000 in
theorem book_Module_Names_3.calls (a0_0 : ByteArray) (a0_1 : Int) (a0_2 : Int) (r : ByteArray) (w : World) (h : book_Module_Names_3.f a0_0 a0_1 a0_2 = some r) :
  Calls Tryz.prog 63 #[.agg #[.string a0_0, .int .i64 a0_1, .int .i64 a0_2]] w fun e w' => e = .returned (.string r) ∧ Below w.heap.size w w' := by
 have hu77 := Tryz.underlying77
 have HB := Aside0.mk (Below.refl w.heap.size w)
 have H : (some a0_0) = some r := h
 clear h
 obtain rfl := Option.some.inj H
 go_enter Tryz.func63, Tryz.ntmps63
 go_wp2_with (first | ((with_reducible refine gate_dst (N := 1) rfl ?_); refine box_event ?hg (N := 1) ?hd (cs := #[.string a0_0, .int .i64 a0_1, .int .i64 a0_2]) (t := 77) ?hr ?_; (case hd => rfl); (case hg => rfl); (case hr => first | (go_simp; done) | (go_simp; rfl)); intro gb251 hg w2 hbox hb; have n0_ := Aside0.mk (below_step (by repeat (first | (with_reducible first | exact HB.out | apply below_alloc | apply pw_below_drewN | apply below_drew1) | exact HB.out)) hb); have n1_ := Aside0.mk (hbox); have n2_ := Aside0.mk ((by rw [hg]; exact (below_size (by repeat (first | (with_reducible first | exact HB.out | apply below_alloc | apply pw_below_drewN | apply below_drew1) | exact HB.out))) : w.heap.size ≤ gb251)); have n3_ := Aside0.mk ((by rw [hg]; exact (below_size (by repeat (first | (with_reducible first | exact HB.out | apply below_alloc | apply pw_below_drewN | apply below_drew1) | exact HB.out))) : w.heap.size ≤ gb251)); clear HB; have HB := n0_; have BK251 := n1_; have GW251 := n2_; have GE251 := n3_; clear n0_ n1_ n2_ n3_; clear hb hbox hg; obtain ⟨hcz3_0, hcz3_1, hcz3_2, hfz3_0, hfz3_1, hfz3_2⟩ := blk3 BK251.out))
 go_ret
 exact ⟨by first | rfl | (simp [errW_none, errW_some] <;> rfl) | (simp [*, errW_none, errW_some] <;> rfl), by repeat (first | (with_reducible first | exact HB.out | apply below_alloc | apply pw_below_drewN | apply below_drew1 | refine below_set ?_ GE251.out) | exact HB.out)⟩

/-! ### book_Partition_58__59: function 58 at book_Module_Names_1 -/
def book_Partition_58__59.f (l : List (S52)) : Option (List ByteArray) := if l.length < 8796093022208 then (mapO (fun x => book_Module_Names_1.f (x.f0) (x.f1) (x.f2) (x.f3) (x.f4) (x.f5) (x.f6) (x.f7) (x.f8) (x.f9) (x.f10) (x.f11.f0) (x.f11.f1)) l) else none
set_option maxHeartbeats 4000000 in
set_option maxRecDepth 100000 in
theorem book_Partition_58__59.calls (A0 : Option Addr) (c0 : Nat) (l : List (S52)) (r : List ByteArray) (w : World) (hr0 : Kd.C k52 w A0 l.length l) (hc0 : l.length ≤ c0) (h : book_Partition_58__59.f l = some r) :
  Calls Tryz.prog 58 #[.slice A0 l.length c0, .func (.func 59) #[] #[]] w fun e w' => ∃ v0_ : Value, e = .returned (v0_) ∧ Kd.R Kd.string 9 w' w.heap.size (fun _ => True) v0_ r ∧ Below w.heap.size w w' := by
 unfold book_Partition_58__59.f at h
 obtain ⟨hL, h2⟩ := if_some h
 clear h
 have HL := Aside0.mk hL
 have HR0 := Aside0.mk hr0
 have H0 : Aside0 (∃ m', mapO (fun x => book_Module_Names_1.f (x.f0) (x.f1) (x.f2) (x.f3) (x.f4) (x.f5) (x.f6) (x.f7) (x.f8) (x.f9) (x.f10) (x.f11.f0) (x.f11.f1)) (l.drop 0) = some m' ∧ r = [] ++ m') := ⟨⟨r, by simpa using h2, rfl⟩⟩
 have hL2 : l.length ≤ 140737488351232 := by omega
 clear hr0 h2 hL
 go_enter Tryz.func58, Tryz.ntmps58
 go_wp2
 go_loopw [5, 10] (fun v5 v10 wr => ∃ (j : Nat) (m : List ByteArray), v10 = .int .i64 (j : Int) ∧ j ≤ l.length ∧ Aside0 (m.length = j) ∧ Aside0 (∃ m', mapO (fun x => book_Module_Names_1.f (x.f0) (x.f1) (x.f2) (x.f3) (x.f4) (x.f5) (x.f6) (x.f7) (x.f8) (x.f9) (x.f10) (x.f11.f0) (x.f11.f1)) (l.drop j) = some m' ∧ r = m ++ m') ∧ Aside0 (Kd.R Kd.string 9 wr w.heap.size (fun _ => True) v5 m) ∧ Aside0 (Below w.heap.size w wr)) (fun _ v10 _ => l.length - (intOf v10).toNat)
 case atStart => exact ⟨0, [], rfl, Nat.zero_le _, ⟨rfl⟩, H0, ⟨Kd.R_nil _ _ _ _ _⟩, ⟨Below.refl _ _⟩⟩
 case round =>
  clear H0
  obtain ⟨j, m, rfl, hj, HM, HA, HO, HB⟩ := hrel
  by_cases hlt : j < l.length
  ·
   have p7 : (0 : Int) ≤ (j : Int) := by omega
   have q7 : (j : Int) < (l.length : Int) := by omega
   obtain ⟨m1, ha1, ha2⟩ := HA.out
   obtain ⟨b, m2, hb1, hb2, hb3⟩ := mapO_cons hlt ha1
   have HB1 := Aside0.mk hb1
   have HA2 : Aside0 (∃ m', mapO (fun x => book_Module_Names_1.f (x.f0) (x.f1) (x.f2) (x.f3) (x.f4) (x.f5) (x.f6) (x.f7) (x.f8) (x.f9) (x.f10) (x.f11.f0) (x.f11.f1)) (l.drop (j + 1)) = some m' ∧ r = (m ++ [b]) ++ m') := ⟨⟨m2, hb2, by rw [ha2, hb3]; simp⟩⟩
   clear hb1 hb2 hb3 ha1 ha2 HA
   obtain ⟨ad7, A7_1, c7_1, A7_2, c7_2, A7_3, c7_3, A7_4, c7_4, A7_5, c7_5, A7_6, c7_6, A7_7, c7_7, A7_8, c7_8, A7_9, c7_9, e7, hx7_0, hx7_1, hx7_2, hx7_3, hx7_4, hx7_5, hx7_6, hx7_7, hx7_8, hx7_9, hx7_10, hx7_11, hx7_12, hl7_1, hi7_1, hl7_2, hi7_2, hl7_3, hi7_3, hl7_4, hi7_4, hl7_5, hi7_5, hl7_6, hi7_6, hl7_7, hi7_7, hl7_8, hi7_8, hl7_9, hi7_9⟩ := at_T52 HR0.out (j : Int) p7 q7
   cases e7
   replace hx7_0 := (HB.out.cell (World.block_lt_of_cell? w _ hx7_0)).trans hx7_0
   replace hx7_1 := (HB.out.cell (World.block_lt_of_cell? w _ hx7_1)).trans hx7_1
   replace hx7_2 := (HB.out.cell (World.block_lt_of_cell? w _ hx7_2)).trans hx7_2
   replace hx7_3 := (HB.out.cell (World.block_lt_of_cell? w _ hx7_3)).trans hx7_3
   replace hx7_4 := (HB.out.cell (World.block_lt_of_cell? w _ hx7_4)).trans hx7_4
   replace hx7_5 := (HB.out.cell (World.block_lt_of_cell? w _ hx7_5)).trans hx7_5
   replace hx7_6 := (HB.out.cell (World.block_lt_of_cell? w _ hx7_6)).trans hx7_6
   replace hx7_7 := (HB.out.cell (World.block_lt_of_cell? w _ hx7_7)).trans hx7_7
   replace hx7_8 := (HB.out.cell (World.block_lt_of_cell? w _ hx7_8)).trans hx7_8
   replace hx7_9 := (HB.out.cell (World.block_lt_of_cell? w _ hx7_9)).trans hx7_9
   replace hx7_10 := (HB.out.cell (World.block_lt_of_cell? w _ hx7_10)).trans hx7_10
   replace hx7_11 := (HB.out.cell (World.block_lt_of_cell? w _ hx7_11)).trans hx7_11
   replace hx7_12 := (HB.out.cell (World.block_lt_of_cell? w _ hx7_12)).trans hx7_12
   have HR7_1 := Aside0.mk hi7_1
   have HC7_1 := Aside0.mk hl7_1
   clear hi7_1 hl7_1
   have HR7_2 := Aside0.mk hi7_2
   have HC7_2 := Aside0.mk hl7_2
   clear hi7_2 hl7_2
   have HR7_3 := Aside0.mk hi7_3
   have HC7_3 := Aside0.mk hl7_3
   clear hi7_3 hl7_3
   have HR7_4 := Aside0.mk hi7_4
   have HC7_4 := Aside0.mk hl7_4
   clear hi7_4 hl7_4
   have HR7_5 := Aside0.mk hi7_5
   have HC7_5 := Aside0.mk hl7_5
   clear hi7_5 hl7_5
   have HR7_6 := Aside0.mk hi7_6
   have HC7_6 := Aside0.mk hl7_6
   clear hi7_6 hl7_6
   have HR7_7 := Aside0.mk hi7_7
   have HC7_7 := Aside0.mk hl7_7
   clear hi7_7 hl7_7
   have HR7_8 := Aside0.mk hi7_8
   have HC7_8 := Aside0.mk hl7_8
   clear hi7_8 hl7_8
   have HR7_9 := Aside0.mk hi7_9
   have HC7_9 := Aside0.mk hl7_9
   clear hi7_9 hl7_9
   have EX : Aside0 (rd_T52 l (j : Int) = l[j]) := ⟨by show l.getD _ _ = _; rw [Int.toNat_natCast, List.getD_eq_getElem?_getD, List.getElem?_eq_getElem hlt, Option.getD_some]⟩
   clear p7 q7
   generalize rd_T52 l (j : Int) = x at *
   have HC : Aside0 (book_Module_Names_1.f (x.f0) (x.f1) (x.f2) (x.f3) (x.f4) (x.f5) (x.f6) (x.f7) (x.f8) (x.f9) (x.f10) (x.f11.f0) (x.f11.f1) = some b) := ⟨by rw [EX.out]; exact HB1.out⟩
   clear HB1 EX
   simp only [Int.toNat_natCast] at *
   have HB9 := Aside0.mk (below_alloc HB.out (.cells #[.string (x.f0), .slice A7_1 (x.f1).length c7_1, .slice A7_2 (x.f2).length c7_2, .slice A7_3 (x.f3).length c7_3, .slice A7_4 (x.f4).length c7_4, .slice A7_5 (x.f5).length c7_5, .slice A7_6 (x.f6).length c7_6, .slice A7_7 (x.f7).length c7_7, .slice A7_8 (x.f8).length c7_8, .slice A7_9 (x.f9).length c7_9, .int .i64 (x.f10), .int .i64 (x.f11.f0), .int .i64 (x.f11.f1)] 52))
   have HO9 := Aside0.mk (Kd.R_alloc HO.out (.cells #[.string (x.f0), .slice A7_1 (x.f1).length c7_1, .slice A7_2 (x.f2).length c7_2, .slice A7_3 (x.f3).length c7_3, .slice A7_4 (x.f4).length c7_4, .slice A7_5 (x.f5).length c7_5, .slice A7_6 (x.f6).length c7_6, .slice A7_7 (x.f7).length c7_7, .slice A7_8 (x.f8).length c7_8, .slice A7_9 (x.f9).length c7_9, .int .i64 (x.f10), .int .i64 (x.f11.f0), .int .i64 (x.f11.f1)] 52))
   go_wp2_with fail
   refine (book_Module_Names_1.calls (x.f0) _ _ (x.f1) _ _ (x.f2) _ _ (x.f3) _ _ (x.f4) _ _ (x.f5) _ _ (x.f6) _ _ (x.f7) _ _ (x.f8) _ _ (x.f9) (x.f10) (x.f11.f0) (x.f11.f1) b _ (Kd.C_below HR7_1.out HB9.out) HC7_1.out (Kd.C_below HR7_2.out HB9.out) HC7_2.out (Kd.C_below HR7_3.out HB9.out) HC7_3.out (Kd.C_below HR7_4.out HB9.out) HC7_4.out (Kd.C_below HR7_5.out HB9.out) HC7_5.out (Kd.C_below HR7_6.out HB9.out) HC7_6.out (Kd.C_below HR7_7.out HB9.out) HC7_7.out (Kd.C_below HR7_8.out HB9.out) HC7_8.out (Kd.C_below HR7_9.out HB9.out) HC7_9.out HC.out).mono ?_
   rintro e w9 ⟨rfl, hb⟩
   have HB10 := Aside0.mk (below_step HB9.out hb)
   have HO10 := Aside0.mk (Kd.R_below HO9.out hb)
   clear hb HB HB9 HO HO9
   go_wp2_with (at_builtin; refine Kd.R_append Kd.string (w0 := w) w.heap.size rfl (.tmp 14) (.tmp 18) 36 9 (.string ⟨#[]⟩) 16 rfl Tryz.underlying36 info9 rfl (by decide) (by omega) _ m b [.string b] (fun _ => True) (fun _ => False) rfl rfl ?aP (fun _ hk => hk.elim) ?aF ?aO ?aB ?aS ?aL ?_; (case aP => exact rfl); (case aB => exact HB10.out); (case aF => exact (fun _ _ => trivial)); (case aO => exact HO10.out); (case aS => exact below_size HB10.out); (case aL => have := HL.out; have := HM.out; omega); intro v11 w11 ho11 hb11 hg hat; have HO11 := Aside0.mk ho11; have HB11 := Aside0.mk hb11; clear ho11 hb11 hg hat)
   go_roundw
   case rel => exact ⟨j + 1, m ++ [b], by go_num, by omega, ⟨by have := HM.out; simp; omega⟩, HA2, HO11, HB11⟩
   case measure => simp [intOf]; omega
  ·
   obtain rfl : j = l.length := by omega
   have hr : m = r := by
    obtain ⟨m1, ha1, ha2⟩ := HA.out
    rw [List.drop_length] at ha1
    simp [mapO] at ha1
    rw [ha2, ha1]; simp
   subst hr
   go_wp2
   go_ret
   exact ⟨_, rfl, HO.out, HB.out⟩

/-! ### book_Schedule_60__61: function 60 at book_Module_Names_2 -/
def book_Schedule_60__61.f (l : List (S67)) : Option (List ByteArray) := if l.length < 8796093022208 then (mapO (fun x => book_Module_Names_2.f (x.f0) (x.f1) (x.f2)) l) else none
set_option maxHeartbeats 4000000 in
set_option maxRecDepth 100000 in
theorem book_Schedule_60__61.calls (A0 : Option Addr) (c0 : Nat) (l : List (S67)) (r : List ByteArray) (w : World) (hr0 : Kd.C k67 w A0 l.length l) (hc0 : l.length ≤ c0) (h : book_Schedule_60__61.f l = some r) :
  Calls Tryz.prog 60 #[.slice A0 l.length c0, .func (.func 61) #[] #[]] w fun e w' => ∃ v0_ : Value, e = .returned (v0_) ∧ Kd.R Kd.string 9 w' w.heap.size (fun _ => True) v0_ r ∧ Below w.heap.size w w' := by
 unfold book_Schedule_60__61.f at h
 obtain ⟨hL, h2⟩ := if_some h
 clear h
 have HL := Aside0.mk hL
 have HR0 := Aside0.mk hr0
 have H0 : Aside0 (∃ m', mapO (fun x => book_Module_Names_2.f (x.f0) (x.f1) (x.f2)) (l.drop 0) = some m' ∧ r = [] ++ m') := ⟨⟨r, by simpa using h2, rfl⟩⟩
 have hL2 : l.length ≤ 140737488351232 := by omega
 clear hr0 h2 hL
 go_enter Tryz.func60, Tryz.ntmps60
 go_wp2
 go_loopw [5, 10] (fun v5 v10 wr => ∃ (j : Nat) (m : List ByteArray), v10 = .int .i64 (j : Int) ∧ j ≤ l.length ∧ Aside0 (m.length = j) ∧ Aside0 (∃ m', mapO (fun x => book_Module_Names_2.f (x.f0) (x.f1) (x.f2)) (l.drop j) = some m' ∧ r = m ++ m') ∧ Aside0 (Kd.R Kd.string 9 wr w.heap.size (fun _ => True) v5 m) ∧ Aside0 (Below w.heap.size w wr)) (fun _ v10 _ => l.length - (intOf v10).toNat)
 case atStart => exact ⟨0, [], rfl, Nat.zero_le _, ⟨rfl⟩, H0, ⟨Kd.R_nil _ _ _ _ _⟩, ⟨Below.refl _ _⟩⟩
 case round =>
  clear H0
  obtain ⟨j, m, rfl, hj, HM, HA, HO, HB⟩ := hrel
  by_cases hlt : j < l.length
  ·
   have p7 : (0 : Int) ≤ (j : Int) := by omega
   have q7 : (j : Int) < (l.length : Int) := by omega
   obtain ⟨m1, ha1, ha2⟩ := HA.out
   obtain ⟨b, m2, hb1, hb2, hb3⟩ := mapO_cons hlt ha1
   have HB1 := Aside0.mk hb1
   have HA2 : Aside0 (∃ m', mapO (fun x => book_Module_Names_2.f (x.f0) (x.f1) (x.f2)) (l.drop (j + 1)) = some m' ∧ r = (m ++ [b]) ++ m') := ⟨⟨m2, hb2, by rw [ha2, hb3]; simp⟩⟩
   clear hb1 hb2 hb3 ha1 ha2 HA
   obtain ⟨ad7, A7_2, c7_2, e7, hx7_0, hx7_1, hx7_2, hl7_2, hi7_2⟩ := at_T67 HR0.out (j : Int) p7 q7
   cases e7
   replace hx7_0 := (HB.out.cell (World.block_lt_of_cell? w _ hx7_0)).trans hx7_0
   replace hx7_1 := (HB.out.cell (World.block_lt_of_cell? w _ hx7_1)).trans hx7_1
   replace hx7_2 := (HB.out.cell (World.block_lt_of_cell? w _ hx7_2)).trans hx7_2
   have HR7_2 := Aside0.mk hi7_2
   have HC7_2 := Aside0.mk hl7_2
   clear hi7_2 hl7_2
   have EX : Aside0 (rd_T67 l (j : Int) = l[j]) := ⟨by show l.getD _ _ = _; rw [Int.toNat_natCast, List.getD_eq_getElem?_getD, List.getElem?_eq_getElem hlt, Option.getD_some]⟩
   clear p7 q7
   generalize rd_T67 l (j : Int) = x at *
   have HC : Aside0 (book_Module_Names_2.f (x.f0) (x.f1) (x.f2) = some b) := ⟨by rw [EX.out]; exact HB1.out⟩
   clear HB1 EX
   simp only [Int.toNat_natCast] at *
   have HB9 := Aside0.mk (below_alloc HB.out (.cells #[.string (x.f0), .int .i64 (x.f1), .slice A7_2 (x.f2).length c7_2] 67))
   have HO9 := Aside0.mk (Kd.R_alloc HO.out (.cells #[.string (x.f0), .int .i64 (x.f1), .slice A7_2 (x.f2).length c7_2] 67))
   go_wp2_with fail
   refine (book_Module_Names_2.calls (x.f0) (x.f1) _ _ (x.f2) b _ (Kd.C_below HR7_2.out HB9.out) HC7_2.out HC.out).mono ?_
   rintro e w9 ⟨rfl, hb⟩
   have HB10 := Aside0.mk (below_step HB9.out hb)
   have HO10 := Aside0.mk (Kd.R_below HO9.out hb)
   clear hb HB HB9 HO HO9
   go_wp2_with (at_builtin; refine Kd.R_append Kd.string (w0 := w) w.heap.size rfl (.tmp 14) (.tmp 18) 36 9 (.string ⟨#[]⟩) 16 rfl Tryz.underlying36 info9 rfl (by decide) (by omega) _ m b [.string b] (fun _ => True) (fun _ => False) rfl rfl ?aP (fun _ hk => hk.elim) ?aF ?aO ?aB ?aS ?aL ?_; (case aP => exact rfl); (case aB => exact HB10.out); (case aF => exact (fun _ _ => trivial)); (case aO => exact HO10.out); (case aS => exact below_size HB10.out); (case aL => have := HL.out; have := HM.out; omega); intro v11 w11 ho11 hb11 hg hat; have HO11 := Aside0.mk ho11; have HB11 := Aside0.mk hb11; clear ho11 hb11 hg hat)
   go_roundw
   case rel => exact ⟨j + 1, m ++ [b], by go_num, by omega, ⟨by have := HM.out; simp; omega⟩, HA2, HO11, HB11⟩
   case measure => simp [intOf]; omega
  ·
   obtain rfl : j = l.length := by omega
   have hr : m = r := by
    obtain ⟨m1, ha1, ha2⟩ := HA.out
    rw [List.drop_length] at ha1
    simp [mapO] at ha1
    rw [ha2, ha1]; simp
   subst hr
   go_wp2
   go_ret
   exact ⟨_, rfl, HO.out, HB.out⟩

/-! ### book_Link_62__63: function 62 at book_Module_Names_3 -/
def book_Link_62__63.f (l : List (S77)) : Option (List ByteArray) := if l.length < 8796093022208 then (mapO (fun x => book_Module_Names_3.f (x.f0) (x.f1) (x.f2)) l) else none
set_option maxHeartbeats 4000000 in
set_option maxRecDepth 100000 in
theorem book_Link_62__63.calls (A0 : Option Addr) (c0 : Nat) (l : List (S77)) (r : List ByteArray) (w : World) (hr0 : Kd.C k77 w A0 l.length l) (hc0 : l.length ≤ c0) (h : book_Link_62__63.f l = some r) :
  Calls Tryz.prog 62 #[.slice A0 l.length c0, .func (.func 63) #[] #[]] w fun e w' => ∃ v0_ : Value, e = .returned (v0_) ∧ Kd.R Kd.string 9 w' w.heap.size (fun _ => True) v0_ r ∧ Below w.heap.size w w' := by
 unfold book_Link_62__63.f at h
 obtain ⟨hL, h2⟩ := if_some h
 clear h
 have HL := Aside0.mk hL
 have HR0 := Aside0.mk hr0
 have H0 : Aside0 (∃ m', mapO (fun x => book_Module_Names_3.f (x.f0) (x.f1) (x.f2)) (l.drop 0) = some m' ∧ r = [] ++ m') := ⟨⟨r, by simpa using h2, rfl⟩⟩
 have hL2 : l.length ≤ 140737488351232 := by omega
 clear hr0 h2 hL
 go_enter Tryz.func62, Tryz.ntmps62
 go_wp2
 go_loopw [5, 10] (fun v5 v10 wr => ∃ (j : Nat) (m : List ByteArray), v10 = .int .i64 (j : Int) ∧ j ≤ l.length ∧ Aside0 (m.length = j) ∧ Aside0 (∃ m', mapO (fun x => book_Module_Names_3.f (x.f0) (x.f1) (x.f2)) (l.drop j) = some m' ∧ r = m ++ m') ∧ Aside0 (Kd.R Kd.string 9 wr w.heap.size (fun _ => True) v5 m) ∧ Aside0 (Below w.heap.size w wr)) (fun _ v10 _ => l.length - (intOf v10).toNat)
 case atStart => exact ⟨0, [], rfl, Nat.zero_le _, ⟨rfl⟩, H0, ⟨Kd.R_nil _ _ _ _ _⟩, ⟨Below.refl _ _⟩⟩
 case round =>
  clear H0
  obtain ⟨j, m, rfl, hj, HM, HA, HO, HB⟩ := hrel
  by_cases hlt : j < l.length
  ·
   have p7 : (0 : Int) ≤ (j : Int) := by omega
   have q7 : (j : Int) < (l.length : Int) := by omega
   obtain ⟨m1, ha1, ha2⟩ := HA.out
   obtain ⟨b, m2, hb1, hb2, hb3⟩ := mapO_cons hlt ha1
   have HB1 := Aside0.mk hb1
   have HA2 : Aside0 (∃ m', mapO (fun x => book_Module_Names_3.f (x.f0) (x.f1) (x.f2)) (l.drop (j + 1)) = some m' ∧ r = (m ++ [b]) ++ m') := ⟨⟨m2, hb2, by rw [ha2, hb3]; simp⟩⟩
   clear hb1 hb2 hb3 ha1 ha2 HA
   obtain ⟨ad7, e7, hx7_0, hx7_1, hx7_2⟩ := at_T77 HR0.out (j : Int) p7 q7
   cases e7
   replace hx7_0 := (HB.out.cell (World.block_lt_of_cell? w _ hx7_0)).trans hx7_0
   replace hx7_1 := (HB.out.cell (World.block_lt_of_cell? w _ hx7_1)).trans hx7_1
   replace hx7_2 := (HB.out.cell (World.block_lt_of_cell? w _ hx7_2)).trans hx7_2
   have EX : Aside0 (rd_T77 l (j : Int) = l[j]) := ⟨by show l.getD _ _ = _; rw [Int.toNat_natCast, List.getD_eq_getElem?_getD, List.getElem?_eq_getElem hlt, Option.getD_some]⟩
   clear p7 q7
   generalize rd_T77 l (j : Int) = x at *
   have HC : Aside0 (book_Module_Names_3.f (x.f0) (x.f1) (x.f2) = some b) := ⟨by rw [EX.out]; exact HB1.out⟩
   clear HB1 EX
   simp only [Int.toNat_natCast] at *
   have HB9 := Aside0.mk (below_alloc HB.out (.cells #[.string (x.f0), .int .i64 (x.f1), .int .i64 (x.f2)] 77))
   have HO9 := Aside0.mk (Kd.R_alloc HO.out (.cells #[.string (x.f0), .int .i64 (x.f1), .int .i64 (x.f2)] 77))
   go_wp2_with fail
   refine (book_Module_Names_3.calls (x.f0) (x.f1) (x.f2) b _ HC.out).mono ?_
   rintro e w9 ⟨rfl, hb⟩
   have HB10 := Aside0.mk (below_step HB9.out hb)
   have HO10 := Aside0.mk (Kd.R_below HO9.out hb)
   clear hb HB HB9 HO HO9
   go_wp2_with (at_builtin; refine Kd.R_append Kd.string (w0 := w) w.heap.size rfl (.tmp 14) (.tmp 18) 36 9 (.string ⟨#[]⟩) 16 rfl Tryz.underlying36 info9 rfl (by decide) (by omega) _ m b [.string b] (fun _ => True) (fun _ => False) rfl rfl ?aP (fun _ hk => hk.elim) ?aF ?aO ?aB ?aS ?aL ?_; (case aP => exact rfl); (case aB => exact HB10.out); (case aF => exact (fun _ _ => trivial)); (case aO => exact HO10.out); (case aS => exact below_size HB10.out); (case aL => have := HL.out; have := HM.out; omega); intro v11 w11 ho11 hb11 hg hat; have HO11 := Aside0.mk ho11; have HB11 := Aside0.mk hb11; clear ho11 hb11 hg hat)
   go_roundw
   case rel => exact ⟨j + 1, m ++ [b], by go_num, by omega, ⟨by have := HM.out; simp; omega⟩, HA2, HO11, HB11⟩
   case measure => simp [intOf]; omega
  ·
   obtain rfl : j = l.length := by omega
   have hr : m = r := by
    obtain ⟨m1, ha1, ha2⟩ := HA.out
    rw [List.drop_length] at ha1
    simp [mapO] at ha1
    rw [ha2, ha1]; simp
   subst hr
   go_wp2
   go_ret
   exact ⟨_, rfl, HO.out, HB.out⟩

/-! ### book_Module_Names: function 20 -/
def book_Module_Names.f (a0_0 : ByteArray) (l0_1 : List (S52)) (l0_2 : List (S67)) (a0_3 : Int) (l0_4 : List (S74)) (l0_5 : List (S77)) (l0_6 : List (S64)) (a1 : ByteArray) : Option (List ByteArray) := if a1.toList = ([112, 97, 114, 116, 105, 116, 105, 111, 110] : List UInt8) then ((book_Partition_58__59.f l0_1).bind fun t253 => (some t253)) else (if a1.toList = ([115, 99, 104, 101, 100, 117, 108, 101] : List UInt8) then ((book_Schedule_60__61.f l0_2).bind fun t256 => (some t256)) else (if a1.toList = ([108, 105, 110, 107] : List UInt8) then ((book_Link_62__63.f l0_5).bind fun t259 => (some t259)) else (some ([] : List ByteArray))))
set_option maxHeartbeats 8000000 in
set_option maxRecDepth 100000 in
theorem book_Module_Names.calls (a0_0 : ByteArray) (A0_1 : Option Addr) (c0_1 : Nat) (l0_1 : List (S52)) (A0_2 : Option Addr) (c0_2 : Nat) (l0_2 : List (S67)) (a0_3 : Int) (A0_4 : Option Addr) (c0_4 : Nat) (l0_4 : List (S74)) (A0_5 : Option Addr) (c0_5 : Nat) (l0_5 : List (S77)) (A0_6 : Option Addr) (c0_6 : Nat) (l0_6 : List (S64)) (a1 : ByteArray) (r : List ByteArray) (w : World) (hr0_1 : Kd.C k52 w A0_1 l0_1.length l0_1) (hc0_1 : l0_1.length ≤ c0_1) (hr0_2 : Kd.C k67 w A0_2 l0_2.length l0_2) (hc0_2 : l0_2.length ≤ c0_2) (hr0_4 : Kd.C k74 w A0_4 l0_4.length l0_4) (hc0_4 : l0_4.length ≤ c0_4) (hr0_5 : Kd.C k77 w A0_5 l0_5.length l0_5) (hc0_5 : l0_5.length ≤ c0_5) (hr0_6 : Kd.C k64 w A0_6 l0_6.length l0_6) (hc0_6 : l0_6.length ≤ c0_6) (h : book_Module_Names.f a0_0 l0_1 l0_2 a0_3 l0_4 l0_5 l0_6 a1 = some r) :
  Calls Tryz.prog 20 #[.agg #[.string a0_0, .slice A0_1 l0_1.length c0_1, .slice A0_2 l0_2.length c0_2, .int .i64 a0_3, .slice A0_4 l0_4.length c0_4, .slice A0_5 l0_5.length c0_5, .slice A0_6 l0_6.length c0_6], .string a1] w fun e w' => ∃ v0_ : Value, e = .returned (v0_) ∧ Kd.R Kd.string 9 w' w.heap.size (fun _ => True) v0_ r ∧ Below w.heap.size w w' := by
 have hu30 := Tryz.underlying30
 have HR0_1 := Aside0.mk hr0_1
 have HC0_1 := Aside0.mk hc0_1
 clear hr0_1 hc0_1
 have HR0_2 := Aside0.mk hr0_2
 have HC0_2 := Aside0.mk hc0_2
 clear hr0_2 hc0_2
 have HR0_4 := Aside0.mk hr0_4
 have HC0_4 := Aside0.mk hc0_4
 clear hr0_4 hc0_4
 have HR0_5 := Aside0.mk hr0_5
 have HC0_5 := Aside0.mk hc0_5
 clear hr0_5 hc0_5
 have HR0_6 := Aside0.mk hr0_6
 have HC0_6 := Aside0.mk hc0_6
 clear hr0_6 hc0_6
 have HB := Aside0.mk (Below.refl w.heap.size w)
 have H : (if a1.toList = ([112, 97, 114, 116, 105, 116, 105, 111, 110] : List UInt8) then ((book_Partition_58__59.f l0_1).bind fun t253 => (some t253)) else (if a1.toList = ([115, 99, 104, 101, 100, 117, 108, 101] : List UInt8) then ((book_Schedule_60__61.f l0_2).bind fun t256 => (some t256)) else (if a1.toList = ([108, 105, 110, 107] : List UInt8) then ((book_Link_62__63.f l0_5).bind fun t259 => (some t259)) else (some ([] : List ByteArray))))) = some r := h
 clear h
 by_cases c3 : a1.toList = ([112, 97, 114, 116, 105, 116, 105, 111, 110] : List UInt8)
 ·
  rw [if_pos c3] at H
  have c3b0 : (a1.toList == ([112, 97, 114, 116, 105, 116, 105, 111, 110] : List UInt8)) = true := beq_iff_eq.mpr c3
  have c3b1 : (a1.toList != ([112, 97, 114, 116, 105, 116, 105, 111, 110] : List UInt8)) = false := bne_eq_false_iff_eq.mpr c3
  clear c3
  replace H := Option.bind_eq_some_iff.mp H
  obtain ⟨t253, A40, H⟩ := H
  replace H : (some t253) = some r := H
  have A4 := Aside0.mk A40
  clear A40
  obtain rfl := Option.some.inj H
  go_enter Tryz.func20, Tryz.ntmps20
  go_wp2_with (first | ((with_reducible refine gate_dst (N := 2) rfl ?_); refine box_event ?hg (N := 2) ?hd (cs := #[.string a0_0, .slice A0_1 l0_1.length c0_1, .slice A0_2 l0_2.length c0_2, .int .i64 a0_3, .slice A0_4 l0_4.length c0_4, .slice A0_5 l0_5.length c0_5, .slice A0_6 l0_6.length c0_6]) (t := 30) ?hr ?_; (case hd => rfl); (case hg => rfl); (case hr => first | (go_simp; done) | (go_simp; rfl)); intro gb252 hg w5 hbox hb; have n0_ := Aside0.mk (below_step (by repeat (first | (with_reducible first | exact HB.out | apply below_alloc | apply pw_below_drewN | apply below_drew1) | exact HB.out)) hb); have n1_ := Aside0.mk (hbox); have n2_ := Aside0.mk ((by rw [hg]; exact (below_size (by repeat (first | (with_reducible first | exact HB.out | apply below_alloc | apply pw_below_drewN | apply below_drew1) | exact HB.out))) : w.heap.size ≤ gb252)); have n3_ := Aside0.mk ((by rw [hg]; exact (below_size (by repeat (first | (with_reducible first | exact HB.out | apply below_alloc | apply pw_below_drewN | apply below_drew1) | exact HB.out))) : w.heap.size ≤ gb252)); clear HB; have HB := n0_; have BK252 := n1_; have GW252 := n2_; have GE252 := n3_; clear n0_ n1_ n2_ n3_; clear hb hbox hg; obtain ⟨hcz6_0, hcz6_1, hcz6_2, hcz6_3, hcz6_4, hcz6_5, hcz6_6, hfz6_0, hfz6_1, hfz6_2, hfz6_3, hfz6_4, hfz6_5, hfz6_6⟩ := blk7 BK252.out) | ((with_reducible refine gate_callee (f := 58) rfl ?_); refine goesL_ (some 10) rfl rfl Tryz.func58 (by kernel_rfl) rfl #[.slice A0_1 l0_1.length c0_1, .func (.func 59) #[] #[]] rfl (by (try simp only [List.map_toArray, List.map_cons, List.map_nil]); first | done | rfl | (simp only [List.length_drop, List.length_take]; rfl)) ?_; (with_reducible refine (book_Partition_58__59.calls _ _ l0_1  t253 _ ?side1 ?side2 A4.out).mono ?_); (case side1 => repeat (first | exact (Kd.C_below HR0_1.out HB.out) | (with_reducible refine Kd.C_alloc ?_ _) | (with_reducible refine Kd.C_drewN ?_ _) | (with_reducible refine Kd.C_drew ?_))); (case side2 => exact HC0_1.out); rintro e w7 ⟨v254, rfl, ho0, hb⟩; refine ⟨_, rfl, ?_⟩; have n0_ := Aside0.mk (Kd.R_lower ho0 (below_size (by repeat (first | (with_reducible first | exact HB.out | apply below_alloc | apply pw_below_drewN | apply below_drew1 | refine below_set ?_ GE252.out) | exact HB.out)))); have n1_ := Aside0.mk (blk_below (g := gb252) (o := .cells #[.string a0_0, .slice A0_1 l0_1.length c0_1, .slice A0_2 l0_2.length c0_2, .int .i64 a0_3, .slice A0_4 l0_4.length c0_4, .slice A0_5 l0_5.length c0_5, .slice A0_6 l0_6.length c0_6] 30 (0, 0)) (by (with_reducible repeat (first | refine blk_drewN ?_ _ | refine blk_drew ?_ | refine blk_alloc ?_ _)); exact BK252.out) hb); have n2_ := Aside0.mk (below_step (by repeat (first | (with_reducible first | exact HB.out | apply below_alloc | apply pw_below_drewN | apply below_drew1 | refine below_set ?_ GE252.out) | exact HB.out)) hb); clear BK252; clear HB; have HO255 := n0_; have BK252 := n1_; have HB := n2_; clear n0_ n1_ n2_; (try clear hb); (try clear hb2); (try clear hk); (try clear hi); (try clear ho0)))
  go_ret
  exact ⟨_, by first | rfl | (simp [errW_none, errW_some] <;> rfl) | (simp [*, errW_none, errW_some] <;> rfl), by (with_reducible repeat (first | apply Kd.R_alloc | apply Kd.R_drewN | apply Kd.R_drew)); exact HO255.out, by repeat (first | (with_reducible first | exact HB.out | apply below_alloc | apply pw_below_drewN | apply below_drew1 | refine below_set ?_ GE252.out) | exact HB.out)⟩
 ·
  rw [if_neg c3] at H
  have c3b0 : (a1.toList == ([112, 97, 114, 116, 105, 116, 105, 111, 110] : List UInt8)) = false := beq_eq_false_iff_ne.mpr c3
  have c3b1 : (a1.toList != ([112, 97, 114, 116, 105, 116, 105, 111, 110] : List UInt8)) = true := bne_iff_ne.mpr c3
  by_cases c8 : a1.toList = ([115, 99, 104, 101, 100, 117, 108, 101] : List UInt8)
  ·
   rw [if_pos c8] at H
   have c8b0 : (a1.toList == ([115, 99, 104, 101, 100, 117, 108, 101] : List UInt8)) = true := beq_iff_eq.mpr c8
   have c8b1 : (a1.toList != ([115, 99, 104, 101, 100, 117, 108, 101] : List UInt8)) = false := bne_eq_false_iff_eq.mpr c8
   clear c8
   replace H := Option.bind_eq_some_iff.mp H
   obtain ⟨t256, A90, H⟩ := H
   replace H : (some t256) = some r := H
   have A9 := Aside0.mk A90
   clear A90
   obtain rfl := Option.some.inj H
   go_enter Tryz.func20, Tryz.ntmps20
   go_wp2_with (first | ((with_reducible refine gate_dst (N := 2) rfl ?_); refine box_event ?hg (N := 2) ?hd (cs := #[.string a0_0, .slice A0_1 l0_1.length c0_1, .slice A0_2 l0_2.length c0_2, .int .i64 a0_3, .slice A0_4 l0_4.length c0_4, .slice A0_5 l0_5.length c0_5, .slice A0_6 l0_6.length c0_6]) (t := 30) ?hr ?_; (case hd => rfl); (case hg => rfl); (case hr => first | (go_simp; done) | (go_simp; rfl)); intro gb252 hg w10 hbox hb; have n0_ := Aside0.mk (below_step (by repeat (first | (with_reducible first | exact HB.out | apply below_alloc | apply pw_below_drewN | apply below_drew1) | exact HB.out)) hb); have n1_ := Aside0.mk (hbox); have n2_ := Aside0.mk ((by rw [hg]; exact (below_size (by repeat (first | (with_reducible first | exact HB.out | apply below_alloc | apply pw_below_drewN | apply below_drew1) | exact HB.out))) : w.heap.size ≤ gb252)); have n3_ := Aside0.mk ((by rw [hg]; exact (below_size (by repeat (first | (with_reducible first | exact HB.out | apply below_alloc | apply pw_below_drewN | apply below_drew1) | exact HB.out))) : w.heap.size ≤ gb252)); clear HB; have HB := n0_; have BK252 := n1_; have GW252 := n2_; have GE252 := n3_; clear n0_ n1_ n2_ n3_; clear hb hbox hg; obtain ⟨hcz11_0, hcz11_1, hcz11_2, hcz11_3, hcz11_4, hcz11_5, hcz11_6, hfz11_0, hfz11_1, hfz11_2, hfz11_3, hfz11_4, hfz11_5, hfz11_6⟩ := blk7 BK252.out) | ((with_reducible refine gate_callee (f := 60) rfl ?_); refine goesL_ (some 15) rfl rfl Tryz.func60 (by kernel_rfl) rfl #[.slice A0_2 l0_2.length c0_2, .func (.func 61) #[] #[]] rfl (by (try simp only [List.map_toArray, List.map_cons, List.map_nil]); first | done | rfl | (simp only [List.length_drop, List.length_take]; rfl)) ?_; (with_reducible refine (book_Schedule_60__61.calls _ _ l0_2  t256 _ ?side1 ?side2 A9.out).mono ?_); (case side1 => repeat (first | exact (Kd.C_below HR0_2.out HB.out) | (with_reducible refine Kd.C_alloc ?_ _) | (with_reducible refine Kd.C_drewN ?_ _) | (with_reducible refine Kd.C_drew ?_))); (case side2 => exact HC0_2.out); rintro e w12 ⟨v257, rfl, ho0, hb⟩; refine ⟨_, rfl, ?_⟩; have n0_ := Aside0.mk (Kd.R_lower ho0 (below_size (by repeat (first | (with_reducible first | exact HB.out | apply below_alloc | apply pw_below_drewN | apply below_drew1 | refine below_set ?_ GE252.out) | exact HB.out)))); have n1_ := Aside0.mk (blk_below (g := gb252) (o := .cells #[.string a0_0, .slice A0_1 l0_1.length c0_1, .slice A0_2 l0_2.length c0_2, .int .i64 a0_3, .slice A0_4 l0_4.length c0_4, .slice A0_5 l0_5.length c0_5, .slice A0_6 l0_6.length c0_6] 30 (0, 0)) (by (with_reducible repeat (first | refine blk_drewN ?_ _ | refine blk_drew ?_ | refine blk_alloc ?_ _)); exact BK252.out) hb); have n2_ := Aside0.mk (below_step (by repeat (first | (with_reducible first | exact HB.out | apply below_alloc | apply pw_below_drewN | apply below_drew1 | refine below_set ?_ GE252.out) | exact HB.out)) hb); clear BK252; clear HB; have HO258 := n0_; have BK252 := n1_; have HB := n2_; clear n0_ n1_ n2_; (try clear hb); (try clear hb2); (try clear hk); (try clear hi); (try clear ho0)))
   go_ret
   exact ⟨_, by first | rfl | (simp [errW_none, errW_some] <;> rfl) | (simp [*, errW_none, errW_some] <;> rfl), by (with_reducible repeat (first | apply Kd.R_alloc | apply Kd.R_drewN | apply Kd.R_drew)); exact HO258.out, by repeat (first | (with_reducible first | exact HB.out | apply below_alloc | apply pw_below_drewN | apply below_drew1 | refine below_set ?_ GE252.out) | exact HB.out)⟩
  ·
   rw [if_neg c8] at H
   have c8b0 : (a1.toList == ([115, 99, 104, 101, 100, 117, 108, 101] : List UInt8)) = false := beq_eq_false_iff_ne.mpr c8
   have c8b1 : (a1.toList != ([115, 99, 104, 101, 100, 117, 108, 101] : List UInt8)) = true := bne_iff_ne.mpr c8
   by_cases c13 : a1.toList = ([108, 105, 110, 107] : List UInt8)
   ·
    rw [if_pos c13] at H
    have c13b0 : (a1.toList == ([108, 105, 110, 107] : List UInt8)) = true := beq_iff_eq.mpr c13
    have c13b1 : (a1.toList != ([108, 105, 110, 107] : List UInt8)) = false := bne_eq_false_iff_eq.mpr c13
    clear c13
    replace H := Option.bind_eq_some_iff.mp H
    obtain ⟨t259, A140, H⟩ := H
    replace H : (some t259) = some r := H
    have A14 := Aside0.mk A140
    clear A140
    obtain rfl := Option.some.inj H
    go_enter Tryz.func20, Tryz.ntmps20
    go_wp2_with (first | ((with_reducible refine gate_dst (N := 2) rfl ?_); refine box_event ?hg (N := 2) ?hd (cs := #[.string a0_0, .slice A0_1 l0_1.length c0_1, .slice A0_2 l0_2.length c0_2, .int .i64 a0_3, .slice A0_4 l0_4.length c0_4, .slice A0_5 l0_5.length c0_5, .slice A0_6 l0_6.length c0_6]) (t := 30) ?hr ?_; (case hd => rfl); (case hg => rfl); (case hr => first | (go_simp; done) | (go_simp; rfl)); intro gb252 hg w15 hbox hb; have n0_ := Aside0.mk (below_step (by repeat (first | (with_reducible first | exact HB.out | apply below_alloc | apply pw_below_drewN | apply below_drew1) | exact HB.out)) hb); have n1_ := Aside0.mk (hbox); have n2_ := Aside0.mk ((by rw [hg]; exact (below_size (by repeat (first | (with_reducible first | exact HB.out | apply below_alloc | apply pw_below_drewN | apply below_drew1) | exact HB.out))) : w.heap.size ≤ gb252)); have n3_ := Aside0.mk ((by rw [hg]; exact (below_size (by repeat (first | (with_reducible first | exact HB.out | apply below_alloc | apply pw_below_drewN | apply below_drew1) | exact HB.out))) : w.heap.size ≤ gb252)); clear HB; have HB := n0_; have BK252 := n1_; have GW252 := n2_; have GE252 := n3_; clear n0_ n1_ n2_ n3_; clear hb hbox hg; obtain ⟨hcz16_0, hcz16_1, hcz16_2, hcz16_3, hcz16_4, hcz16_5, hcz16_6, hfz16_0, hfz16_1, hfz16_2, hfz16_3, hfz16_4, hfz16_5, hfz16_6⟩ := blk7 BK252.out) | ((with_reducible refine gate_callee (f := 62) rfl ?_); refine goesL_ (some 20) rfl rfl Tryz.func62 (by kernel_rfl) rfl #[.slice A0_5 l0_5.length c0_5, .func (.func 63) #[] #[]] rfl (by (try simp only [List.map_toArray, List.map_cons, List.map_nil]); first | done | rfl | (simp only [List.length_drop, List.length_take]; rfl)) ?_; (with_reducible refine (book_Link_62__63.calls _ _ l0_5  t259 _ ?side1 ?side2 A14.out).mono ?_); (case side1 => repeat (first | exact (Kd.C_below HR0_5.out HB.out) | (with_reducible refine Kd.C_alloc ?_ _) | (with_reducible refine Kd.C_drewN ?_ _) | (with_reducible refine Kd.C_drew ?_))); (case side2 => exact HC0_5.out); rintro e w17 ⟨v260, rfl, ho0, hb⟩; refine ⟨_, rfl, ?_⟩; have n0_ := Aside0.mk (Kd.R_lower ho0 (below_size (by repeat (first | (with_reducible first | exact HB.out | apply below_alloc | apply pw_below_drewN | apply below_drew1 | refine below_set ?_ GE252.out) | exact HB.out)))); have n1_ := Aside0.mk (blk_below (g := gb252) (o := .cells #[.string a0_0, .slice A0_1 l0_1.length c0_1, .slice A0_2 l0_2.length c0_2, .int .i64 a0_3, .slice A0_4 l0_4.length c0_4, .slice A0_5 l0_5.length c0_5, .slice A0_6 l0_6.length c0_6] 30 (0, 0)) (by (with_reducible repeat (first | refine blk_drewN ?_ _ | refine blk_drew ?_ | refine blk_alloc ?_ _)); exact BK252.out) hb); have n2_ := Aside0.mk (below_step (by repeat (first | (with_reducible first | exact HB.out | apply below_alloc | apply pw_below_drewN | apply below_drew1 | refine below_set ?_ GE252.out) | exact HB.out)) hb); clear BK252; clear HB; have HO261 := n0_; have BK252 := n1_; have HB := n2_; clear n0_ n1_ n2_; (try clear hb); (try clear hb2); (try clear hk); (try clear hi); (try clear ho0)))
    go_ret
    exact ⟨_, by first | rfl | (simp [errW_none, errW_some] <;> rfl) | (simp [*, errW_none, errW_some] <;> rfl), by (with_reducible repeat (first | apply Kd.R_alloc | apply Kd.R_drewN | apply Kd.R_drew)); exact HO261.out, by repeat (first | (with_reducible first | exact HB.out | apply below_alloc | apply pw_below_drewN | apply below_drew1 | refine below_set ?_ GE252.out) | exact HB.out)⟩
   ·
    rw [if_neg c13] at H
    have c13b0 : (a1.toList == ([108, 105, 110, 107] : List UInt8)) = false := beq_eq_false_iff_ne.mpr c13
    have c13b1 : (a1.toList != ([108, 105, 110, 107] : List UInt8)) = true := bne_iff_ne.mpr c13
    obtain rfl := Option.some.inj H
    go_enter Tryz.func20, Tryz.ntmps20
    go_wp2_with (first | ((with_reducible refine gate_dst (N := 2) rfl ?_); refine box_event ?hg (N := 2) ?hd (cs := #[.string a0_0, .slice A0_1 l0_1.length c0_1, .slice A0_2 l0_2.length c0_2, .int .i64 a0_3, .slice A0_4 l0_4.length c0_4, .slice A0_5 l0_5.length c0_5, .slice A0_6 l0_6.length c0_6]) (t := 30) ?hr ?_; (case hd => rfl); (case hg => rfl); (case hr => first | (go_simp; done) | (go_simp; rfl)); intro gb252 hg w18 hbox hb; have n0_ := Aside0.mk (below_step (by repeat (first | (with_reducible first | exact HB.out | apply below_alloc | apply pw_below_drewN | apply below_drew1) | exact HB.out)) hb); have n1_ := Aside0.mk (hbox); have n2_ := Aside0.mk ((by rw [hg]; exact (below_size (by repeat (first | (with_reducible first | exact HB.out | apply below_alloc | apply pw_below_drewN | apply below_drew1) | exact HB.out))) : w.heap.size ≤ gb252)); have n3_ := Aside0.mk ((by rw [hg]; exact (below_size (by repeat (first | (with_reducible first | exact HB.out | apply below_alloc | apply pw_below_drewN | apply below_drew1) | exact HB.out))) : w.heap.size ≤ gb252)); clear HB; have HB := n0_; have BK252 := n1_; have GW252 := n2_; have GE252 := n3_; clear n0_ n1_ n2_ n3_; clear hb hbox hg))
    go_ret
    exact ⟨_, by first | rfl | (simp [errW_none, errW_some] <;> rfl) | (simp [*, errW_none, errW_some] <;> rfl), by first | exact Kd.R_nil _ _ _ _ _ | exact Kd.N_nil _ _ _ _ _ | exact Kd.V_nil _ _ _ _ _ | exact Kd.Q_nil _ _ _ _ _ | exact Kd.S_nil _ _ _ _ _, by repeat (first | (with_reducible first | exact HB.out | apply below_alloc | apply pw_below_drewN | apply below_drew1 | refine below_set ?_ GE252.out) | exact HB.out)⟩

/-! ### slices_Index_string_string: function 64 -/
def slices_Index_string_string.l0 : Nat → List ByteArray → ByteArray → Int → Int → Option (Int)
 | 0, _, _, _, _ => none
 | k + 1, x0, x1, x7, x8 => if x8 < x7 then (if 0 ≤ x8 then (if x8 < (x0.length : Int) then (if x1.toList = (rdOf ByteArray.empty x0 x8).toList then (some x8) else (slices_Index_string_string.l0 k x0 x1 x7 (wrap64 (x8 + 1)))) else (none)) else (none)) else (some (-1))
def slices_Index_string_string.f (k : Nat) (l0 : List ByteArray) (a1 : ByteArray) : Option (Int) := slices_Index_string_string.l0 k l0 a1 (l0.length : Int) 0
theorem slices_Index_string_string.mono_l : ∀ k, (∀ y0 y1 y2 y3, LeO (slices_Index_string_string.l0 k y0 y1 y2 y3) (slices_Index_string_string.l0 (k + 1) y0 y1 y2 y3))
 | 0 => fun _ _ _ _ r h => by simp [slices_Index_string_string.l0] at h
 | k + 1 => by
  have ih0 := slices_Index_string_string.mono_l k
  ·
   intro y0 y1 y2 y3
   unfold slices_Index_string_string.l0
   repeat' first
   | (with_reducible exact ih0 _ _ _ _)
   | (with_reducible exact LeO.refl _)
   | (with_reducible exact LeO.none _)
   | (with_reducible refine LeO.ite ?_ ?_)
   | (with_reducible refine LeO.bind ?_ (fun _ => ?_))
   | exact ih0 _ _ _ _
   | exact LeO.none _
   | refine LeO.ite ?_ ?_
   | refine LeO.bind ?_ (fun _ => ?_)
theorem slices_Index_string_string.mono : ∀ a0 a1 k, LeO (slices_Index_string_string.f k a0 a1) (slices_Index_string_string.f (k + 1) a0 a1) := by
 intro a0 a1 k
 have ih0 := slices_Index_string_string.mono_l k
 unfold slices_Index_string_string.f
 repeat' first
   | (with_reducible exact ih0 _ _ _ _)
   | (with_reducible exact LeO.refl _)
   | (with_reducible exact LeO.none _)
   | (with_reducible refine LeO.ite ?_ ?_)
   | (with_reducible refine LeO.bind ?_ (fun _ => ?_))
   | exact ih0 _ _ _ _
   | exact LeO.none _
   | refine LeO.ite ?_ ?_
   | refine LeO.bind ?_ (fun _ => ?_)
set_option maxHeartbeats 8000000 in
set_option maxRecDepth 100000 in
theorem slices_Index_string_string.calls (k : Nat) (A0 : Option Addr) (c0 : Nat) (l0 : List ByteArray) (a1 : ByteArray) (r : Int) (w : World) (hr0 : Kd.C Kd.string w A0 l0.length l0) (hc0 : l0.length ≤ c0) (h : slices_Index_string_string.f k l0 a1 = some r) :
  Calls Tryz.prog 64 #[.slice A0 l0.length c0, .string a1] w fun e w' => e = .returned (.int .i64 r) ∧ Drawn0 w w' := by
 have HR0 := Aside0.mk hr0
 have HC0 := Aside0.mk hc0
 clear hr0 hc0
 have H : (slices_Index_string_string.l0 k l0 a1 (l0.length : Int) 0) = some r := h
 clear h
 have H' := Aside0.mk H
 clear H
 go_enter Tryz.func64, Tryz.ntmps64
 go_wp2
 go_loopg [8] k (fun kq v8 w' => ∃ (x8_1 : Int), v8 = .int .i64 x8_1 ∧ Aside0 (slices_Index_string_string.l0 kq l0 a1 (l0.length : Int) x8_1 = some r) ∧ Aside0 (kq ≤ k) ∧ Drawn0 w w')
 case atStart => exact ⟨(0), (by first | rfl | (simp; done) | (simp [*]; done)), H', ⟨Nat.le_refl _⟩, by repeat (first | exact Drawn0.refl _ | apply Drawn0.step)⟩
 case round =>
  clear H'
  try clear p2
  obtain ⟨x8_1, rfl, HA, HK1, ⟨m1, rfl⟩⟩ := hrel
  cases gk with
  | zero => exact absurd HA.out (by simp [slices_Index_string_string.l0])
  | succ k1 =>
   have H := HA.out
   clear HA
   simp only [slices_Index_string_string.l0] at H
   by_cases c3 : x8_1 < (l0.length : Int)
   ·
    rw [if_pos c3] at H
    have c3b0 : decide (x8_1 < (l0.length : Int)) = true := decide_eq_true c3
    clear c3
    by_cases c4 : 0 ≤ x8_1
    ·
     rw [if_pos c4] at H
     have c4b0 : decide (0 ≤ x8_1) = true := decide_eq_true c4
     clear c4
     by_cases c5 : x8_1 < (l0.length : Int)
     ·
      rw [if_pos c5] at H
      have c5b0 : decide (x8_1 < (l0.length : Int)) = true := decide_eq_true c5
      clear c5
      by_cases c6 : a1.toList = (rdOf ByteArray.empty l0 x8_1).toList
      ·
       rw [if_pos c6] at H
       have c6b0 : (a1.toList == (rdOf ByteArray.empty l0 x8_1).toList) = true := beq_iff_eq.mpr c6
       have c6b1 : (a1.toList != (rdOf ByteArray.empty l0 x8_1).toList) = false := bne_eq_false_iff_eq.mpr c6
       clear c6
       obtain rfl := Option.some.inj H
       have p262 : 0 ≤ (x8_1 : Int) := of_decide_eq_true (by first | (with_reducible assumption) | assumption)
       have q262 : x8_1 < (l0.length : Int) := of_decide_eq_true (by first | (with_reducible assumption) | assumption)
       obtain ⟨ad262, e262, hx262_0⟩ := Kd.at_string HR0.out x8_1 p262 q262
       cases e262
       replace p262 := eq_true p262
       replace q262 := eq_true q262
       go_wp2
       go_ret
       exact ⟨by first | rfl | (simp; done) | (simp [*]; done), by repeat (first | exact Drawn0.refl _ | apply Drawn0.step)⟩
      ·
       rw [if_neg c6] at H
       have c6b0 : (a1.toList == (rdOf ByteArray.empty l0 x8_1).toList) = false := beq_eq_false_iff_ne.mpr c6
       have c6b1 : (a1.toList != (rdOf ByteArray.empty l0 x8_1).toList) = true := bne_iff_ne.mpr c6
       have H' := Aside0.mk H
       clear H
       have p262 : 0 ≤ (x8_1 : Int) := of_decide_eq_true (by first | (with_reducible assumption) | assumption)
       have q262 : x8_1 < (l0.length : Int) := of_decide_eq_true (by first | (with_reducible assumption) | assumption)
       obtain ⟨ad262, e262, hx262_0⟩ := Kd.at_string HR0.out x8_1 p262 q262
       cases e262
       replace p262 := eq_true p262
       replace q262 := eq_true q262
       go_wp2
       go_roundg k1
       case measure => have := HK1.out; omega
       case rel => exact ⟨(wrap64 (x8_1 + 1)), (by first | rfl | (simp; done) | (simp [*]; done)), H', ⟨by have := HK1.out; omega⟩, by repeat (first | exact Drawn0.refl _ | apply Drawn0.step)⟩
     ·
      rw [if_neg c5] at H
      exact absurd H (by simp)
    ·
     rw [if_neg c4] at H
     exact absurd H (by simp)
   ·
    rw [if_neg c3] at H
    have c3b0 : decide (x8_1 < (l0.length : Int)) = false := decide_eq_false c3
    clear c3
    obtain rfl := Option.some.inj H
    go_wp2
    go_ret
    exact ⟨by first | rfl | (simp; done) | (simp [*]; done), by repeat (first | exact Drawn0.refl _ | apply Drawn0.step)⟩

/-! ### book_Module_Find: function 22 -/
def book_Module_Find.f (k : Nat) (a0_0 : ByteArray) (l0_1 : List (S52)) (l0_2 : List (S67)) (a0_3 : Int) (l0_4 : List (S74)) (l0_5 : List (S77)) (l0_6 : List (S64)) (a1 : ByteArray) (a2 : ByteArray) : Option (Int) := (book_Module_Names.f a0_0 l0_1 l0_2 a0_3 l0_4 l0_5 l0_6 a1).bind fun t264 => ((slices_Index_string_string.f k t264 a2).bind fun t267 => (some t267))
theorem book_Module_Find.mono : ∀ a0 a1 a2 a3 a4 a5 a6 a7 a8 k, LeO (book_Module_Find.f k a0 a1 a2 a3 a4 a5 a6 a7 a8) (book_Module_Find.f (k + 1) a0 a1 a2 a3 a4 a5 a6 a7 a8) := by
 intro a0 a1 a2 a3 a4 a5 a6 a7 a8 k
 unfold book_Module_Find.f
 repeat' first
   | (with_reducible exact slices_Index_string_string.mono _ _ _)
   | (with_reducible exact LeO.refl _)
   | (with_reducible exact LeO.none _)
   | (with_reducible refine LeO.ite ?_ ?_)
   | (with_reducible refine LeO.bind ?_ (fun _ => ?_))
   | exact slices_Index_string_string.mono _ _ _
   | exact LeO.none _
   | refine LeO.ite ?_ ?_
   | refine LeO.bind ?_ (fun _ => ?_)
set_option maxHeartbeats 8000000 in
set_option maxRecDepth 100000 in
theorem book_Module_Find.calls (k : Nat) (a0_0 : ByteArray) (A0_1 : Option Addr) (c0_1 : Nat) (l0_1 : List (S52)) (A0_2 : Option Addr) (c0_2 : Nat) (l0_2 : List (S67)) (a0_3 : Int) (A0_4 : Option Addr) (c0_4 : Nat) (l0_4 : List (S74)) (A0_5 : Option Addr) (c0_5 : Nat) (l0_5 : List (S77)) (A0_6 : Option Addr) (c0_6 : Nat) (l0_6 : List (S64)) (a1 : ByteArray) (a2 : ByteArray) (r : Int) (w : World) (hr0_1 : Kd.C k52 w A0_1 l0_1.length l0_1) (hc0_1 : l0_1.length ≤ c0_1) (hr0_2 : Kd.C k67 w A0_2 l0_2.length l0_2) (hc0_2 : l0_2.length ≤ c0_2) (hr0_4 : Kd.C k74 w A0_4 l0_4.length l0_4) (hc0_4 : l0_4.length ≤ c0_4) (hr0_5 : Kd.C k77 w A0_5 l0_5.length l0_5) (hc0_5 : l0_5.length ≤ c0_5) (hr0_6 : Kd.C k64 w A0_6 l0_6.length l0_6) (hc0_6 : l0_6.length ≤ c0_6) (h : book_Module_Find.f k a0_0 l0_1 l0_2 a0_3 l0_4 l0_5 l0_6 a1 a2 = some r) :
  Calls Tryz.prog 22 #[.agg #[.string a0_0, .slice A0_1 l0_1.length c0_1, .slice A0_2 l0_2.length c0_2, .int .i64 a0_3, .slice A0_4 l0_4.length c0_4, .slice A0_5 l0_5.length c0_5, .slice A0_6 l0_6.length c0_6], .string a1, .string a2] w fun e w' => e = .returned (.int .i64 r) ∧ Below w.heap.size w w' := by
 have hu30 := Tryz.underlying30
 have HR0_1 := Aside0.mk hr0_1
 have HC0_1 := Aside0.mk hc0_1
 clear hr0_1 hc0_1
 have HR0_2 := Aside0.mk hr0_2
 have HC0_2 := Aside0.mk hc0_2
 clear hr0_2 hc0_2
 have HR0_4 := Aside0.mk hr0_4
 have HC0_4 := Aside0.mk hc0_4
 clear hr0_4 hc0_4
 have HR0_5 := Aside0.mk hr0_5
 have HC0_5 := Aside0.mk hc0_5
 clear hr0_5 hc0_5
 have HR0_6 := Aside0.mk hr0_6
 have HC0_6 := Aside0.mk hc0_6
 clear hr0_6 hc0_6
 have HB := Aside0.mk (Below.refl w.heap.size w)
 have H : ((book_Module_Names.f a0_0 l0_1 l0_2 a0_3 l0_4 l0_5 l0_6 a1).bind fun t264 => ((slices_Index_string_string.f k t264 a2).bind fun t267 => (some t267))) = some r := h
 clear h
 replace H := Option.bind_eq_some_iff.mp H
 obtain ⟨t264, A40, H⟩ := H
 replace H : ((slices_Index_string_string.f k t264 a2).bind fun t267 => (some t267)) = some r := H
 have A4 := Aside0.mk A40
 clear A40
 replace H := Option.bind_eq_some_iff.mp H
 obtain ⟨t267, A50, H⟩ := H
 replace H : (some t267) = some r := H
 have A5 := Aside0.mk A50
 clear A50
 obtain rfl := Option.some.inj H
 go_enter Tryz.func22, Tryz.ntmps22
 go_wp2_with (first | ((with_reducible refine gate_dst (N := 3) rfl ?_); refine box_event ?hg (N := 3) ?hd (cs := #[.string a0_0, .slice A0_1 l0_1.length c0_1, .slice A0_2 l0_2.length c0_2, .int .i64 a0_3, .slice A0_4 l0_4.length c0_4, .slice A0_5 l0_5.length c0_5, .slice A0_6 l0_6.length c0_6]) (t := 30) ?hr ?_; (case hd => rfl); (case hg => rfl); (case hr => first | (go_simp; done) | (go_simp; rfl)); intro gb263 hg w6 hbox hb; have n0_ := Aside0.mk (below_step (by repeat (first | (with_reducible first | exact HB.out | apply below_alloc | apply pw_below_drewN | apply below_drew1) | exact HB.out)) hb); have n1_ := Aside0.mk (hbox); have n2_ := Aside0.mk ((by rw [hg]; exact (below_size (by repeat (first | (with_reducible first | exact HB.out | apply below_alloc | apply pw_below_drewN | apply below_drew1) | exact HB.out))) : w.heap.size ≤ gb263)); have n3_ := Aside0.mk ((by rw [hg]; exact (below_size (by repeat (first | (with_reducible first | exact HB.out | apply below_alloc | apply pw_below_drewN | apply below_drew1) | exact HB.out))) : w.heap.size ≤ gb263)); clear HB; have HB := n0_; have BK263 := n1_; have GW263 := n2_; have GE263 := n3_; clear n0_ n1_ n2_ n3_; clear hb hbox hg; obtain ⟨hcz7_0, hcz7_1, hcz7_2, hcz7_3, hcz7_4, hcz7_5, hcz7_6, hfz7_0, hfz7_1, hfz7_2, hfz7_3, hfz7_4, hfz7_5, hfz7_6⟩ := blk7 BK263.out) | ((with_reducible refine gate_callee (f := 20) rfl ?_); refine goesL_ (some 9) rfl rfl Tryz.func20 (by kernel_rfl) rfl #[.agg #[.string a0_0, .slice A0_1 l0_1.length c0_1, .slice A0_2 l0_2.length c0_2, .int .i64 a0_3, .slice A0_4 l0_4.length c0_4, .slice A0_5 l0_5.length c0_5, .slice A0_6 l0_6.length c0_6], .string a1] rfl (by (try simp only [List.map_toArray, List.map_cons, List.map_nil]); first | done | rfl | (simp only [List.length_drop, List.length_take]; rfl)) ?_; (with_reducible refine (book_Module_Names.calls a0_0 _ _ l0_1 _ _ l0_2 a0_3 _ _ l0_4 _ _ l0_5 _ _ l0_6 a1 t264 _ ?side1 ?side2 ?side3 ?side4 ?side5 ?side6 ?side7 ?side8 ?side9 ?side10 A4.out).mono ?_); (case side1 => repeat (first | exact (Kd.C_below HR0_1.out HB.out) | (with_reducible refine Kd.C_alloc ?_ _) | (with_reducible refine Kd.C_drewN ?_ _) | (with_reducible refine Kd.C_drew ?_))); (case side2 => exact HC0_1.out); (case side3 => repeat (first | exact (Kd.C_below HR0_2.out HB.out) | (with_reducible refine Kd.C_alloc ?_ _) | (with_reducible refine Kd.C_drewN ?_ _) | (with_reducible refine Kd.C_drew ?_))); (case side4 => exact HC0_2.out); (case side5 => repeat (first | exact (Kd.C_below HR0_4.out HB.out) | (with_reducible refine Kd.C_alloc ?_ _) | (with_reducible refine Kd.C_drewN ?_ _) | (with_reducible refine Kd.C_drew ?_))); (case side6 => exact HC0_4.out); (case side7 => repeat (first | exact (Kd.C_below HR0_5.out HB.out) | (with_reducible refine Kd.C_alloc ?_ _) | (with_reducible refine Kd.C_drewN ?_ _) | (with_reducible refine Kd.C_drew ?_))); (case side8 => exact HC0_5.out); (case side9 => repeat (first | exact (Kd.C_below HR0_6.out HB.out) | (with_reducible refine Kd.C_alloc ?_ _) | (with_reducible refine Kd.C_drewN ?_ _) | (with_reducible refine Kd.C_drew ?_))); (case side10 => exact HC0_6.out); rintro e w8 ⟨v265, rfl, ho0, hb⟩; refine ⟨_, rfl, ?_⟩; have n0_ := Aside0.mk (Kd.R_lower ho0 (below_size (by repeat (first | (with_reducible first | exact HB.out | apply below_alloc | apply pw_below_drewN | apply below_drew1 | refine below_set ?_ GE263.out) | exact HB.out)))); have n1_ := Aside0.mk (blk_below (g := gb263) (o := .cells #[.string a0_0, .slice A0_1 l0_1.length c0_1, .slice A0_2 l0_2.length c0_2, .int .i64 a0_3, .slice A0_4 l0_4.length c0_4, .slice A0_5 l0_5.length c0_5, .slice A0_6 l0_6.length c0_6] 30 (0, 0)) (by (with_reducible repeat (first | refine blk_drewN ?_ _ | refine blk_drew ?_ | refine blk_alloc ?_ _)); exact BK263.out) hb); have n2_ := Aside0.mk (below_step (by repeat (first | (with_reducible first | exact HB.out | apply below_alloc | apply pw_below_drewN | apply below_drew1 | refine below_set ?_ GE263.out) | exact HB.out)) hb); clear BK263; clear HB; have HO266 := n0_; have BK263 := n1_; have HB := n2_; clear n0_ n1_ n2_; (try clear hb); (try clear hb2); (try clear hk); (try clear hi); (try clear ho0); obtain ⟨Ao9, co9, eo9⟩ := Kd.R_slice HO266.out; subst eo9) | ((with_reducible refine gate_callee (f := 64) rfl ?_); refine goesL_ (some 11) rfl rfl Tryz.func64 (by kernel_rfl) rfl #[.slice Ao9 t264.length co9, .string a2] rfl (by (try simp only [List.map_toArray, List.map_cons, List.map_nil]); first | done | rfl | (simp only [List.length_drop, List.length_take]; rfl)) ?_; (with_reducible refine (slices_Index_string_string.calls k _ _ t264 a2 t267 _ ?side1 ?side2 A5.out).mono ?_); (case side1 => repeat (first | exact (Kd.R_reads' HO266.out).2.2 | (with_reducible refine Kd.C_alloc ?_ _) | (with_reducible refine Kd.C_drewN ?_ _) | (with_reducible refine Kd.C_drew ?_))); (case side2 => exact (Kd.R_reads' HO266.out).2.1); rintro e w' ⟨rfl, ⟨nd, rfl⟩⟩; refine ⟨_, rfl, ?_⟩))
 go_ret
 exact ⟨by first | rfl | (simp [errW_none, errW_some] <;> rfl) | (simp [*, errW_none, errW_some] <;> rfl), by repeat (first | (with_reducible first | exact HB.out | apply below_alloc | apply pw_below_drewN | apply below_drew1 | refine below_set ?_ GE263.out) | exact HB.out)⟩

/-! ### book_Partition_Names_1: function 66 -/
def book_Partition_Names_1.f (a0_0 : ByteArray) (a0_1 : Int) (a0_2 : Int) (a0_3 : Bool) (a0_4 : Bool) (a0_5 : Bool) : Option (ByteArray) := some a0_0
set_option maxHeartbeats 8000000 in
set_option maxRecDepth 100000 in
theorem book_Partition_Names_1.calls (a0_0 : ByteArray) (a0_1 : Int) (a0_2 : Int) (a0_3 : Bool) (a0_4 : Bool) (a0_5 : Bool) (r : ByteArray) (w : World) (h : book_Partition_Names_1.f a0_0 a0_1 a0_2 a0_3 a0_4 a0_5 = some r) :
  Calls Tryz.prog 66 #[.agg #[.string a0_0, .int .i64 a0_1, .int .i64 a0_2, .bool a0_3, .bool a0_4, .bool a0_5]] w fun e w' => e = .returned (.string r) ∧ Below w.heap.size w w' := by
 have hu62 := Tryz.underlying62
 have HB := Aside0.mk (Below.refl w.heap.size w)
 have H : (some a0_0) = some r := h
 clear h
 obtain rfl := Option.some.inj H
 go_enter Tryz.func66, Tryz.ntmps66
 go_wp2_with (first | ((with_reducible refine gate_dst (N := 1) rfl ?_); refine box_event ?hg (N := 1) ?hd (cs := #[.string a0_0, .int .i64 a0_1, .int .i64 a0_2, .bool a0_3, .bool a0_4, .bool a0_5]) (t := 62) ?hr ?_; (case hd => rfl); (case hg => rfl); (case hr => first | (go_simp; done) | (go_simp; rfl)); intro gb268 hg w2 hbox hb; have n0_ := Aside0.mk (below_step (by repeat (first | (with_reducible first | exact HB.out | apply below_alloc | apply pw_below_drewN | apply below_drew1) | exact HB.out)) hb); have n1_ := Aside0.mk (hbox); have n2_ := Aside0.mk ((by rw [hg]; exact (below_size (by repeat (first | (with_reducible first | exact HB.out | apply below_alloc | apply pw_below_drewN | apply below_drew1) | exact HB.out))) : w.heap.size ≤ gb268)); have n3_ := Aside0.mk ((by rw [hg]; exact (below_size (by repeat (first | (with_reducible first | exact HB.out | apply below_alloc | apply pw_below_drewN | apply below_drew1) | exact HB.out))) : w.heap.size ≤ gb268)); clear HB; have HB := n0_; have BK268 := n1_; have GW268 := n2_; have GE268 := n3_; clear n0_ n1_ n2_ n3_; clear hb hbox hg; obtain ⟨hcz3_0, hcz3_1, hcz3_2, hcz3_3, hcz3_4, hcz3_5, hfz3_0, hfz3_1, hfz3_2, hfz3_3, hfz3_4, hfz3_5⟩ := blk6 BK268.out))
 go_ret
 exact ⟨by first | rfl | (simp [errW_none, errW_some] <;> rfl) | (simp [*, errW_none, errW_some] <;> rfl), by repeat (first | (with_reducible first | exact HB.out | apply below_alloc | apply pw_below_drewN | apply below_drew1 | refine below_set ?_ GE268.out) | exact HB.out)⟩

/-! ### book_Partition_Names_2: function 68 -/
def book_Partition_Names_2.f (a0_0 : ByteArray) (a0_1 : Int) (a0_2 : Int) (a0_3 : Int) (a0_4 : Int) (a0_5 : Int) (a0_6 : Int) (a0_7 : Int) : Option (ByteArray) := some a0_0
set_option maxHeartbeats 8000000 in
set_option maxRecDepth 100000 in
theorem book_Partition_Names_2.calls (a0_0 : ByteArray) (a0_1 : Int) (a0_2 : Int) (a0_3 : Int) (a0_4 : Int) (a0_5 : Int) (a0_6 : Int) (a0_7 : Int) (r : ByteArray) (w : World) (h : book_Partition_Names_2.f a0_0 a0_1 a0_2 a0_3 a0_4 a0_5 a0_6 a0_7 = some r) :
  Calls Tryz.prog 68 #[.agg #[.string a0_0, .int .i64 a0_1, .int .i64 a0_2, .int .i64 a0_3, .int .i64 a0_4, .int .i64 a0_5, .int .i64 a0_6, .int .i64 a0_7]] w fun e w' => e = .returned (.string r) ∧ Below w.heap.size w w' := by
 have hu109 := Tryz.underlying109
 have HB := Aside0.mk (Below.refl w.heap.size w)
 have H : (some a0_0) = some r := h
 clear h
 obtain rfl := Option.some.inj H
 go_enter Tryz.func68, Tryz.ntmps68
 go_wp2_with (first | ((with_reducible refine gate_dst (N := 1) rfl ?_); refine box_event ?hg (N := 1) ?hd (cs := #[.string a0_0, .int .i64 a0_1, .int .i64 a0_2, .int .i64 a0_3, .int .i64 a0_4, .int .i64 a0_5, .int .i64 a0_6, .int .i64 a0_7]) (t := 109) ?hr ?_; (case hd => rfl); (case hg => rfl); (case hr => first | (go_simp; done) | (go_simp; rfl)); intro gb269 hg w2 hbox hb; have n0_ := Aside0.mk (below_step (by repeat (first | (with_reducible first | exact HB.out | apply below_alloc | apply pw_below_drewN | apply below_drew1) | exact HB.out)) hb); have n1_ := Aside0.mk (hbox); have n2_ := Aside0.mk ((by rw [hg]; exact (below_size (by repeat (first | (with_reducible first | exact HB.out | apply below_alloc | apply pw_below_drewN | apply below_drew1) | exact HB.out))) : w.heap.size ≤ gb269)); have n3_ := Aside0.mk ((by rw [hg]; exact (below_size (by repeat (first | (with_reducible first | exact HB.out | apply below_alloc | apply pw_below_drewN | apply below_drew1) | exact HB.out))) : w.heap.size ≤ gb269)); clear HB; have HB := n0_; have BK269 := n1_; have GW269 := n2_; have GE269 := n3_; clear n0_ n1_ n2_ n3_; clear hb hbox hg; obtain ⟨hcz3_0, hcz3_1, hcz3_2, hcz3_3, hcz3_4, hcz3_5, hcz3_6, hcz3_7, hfz3_0, hfz3_1, hfz3_2, hfz3_3, hfz3_4, hfz3_5, hfz3_6, hfz3_7⟩ := blk8 BK269.out))
 go_ret
 exact ⟨by first | rfl | (simp [errW_none, errW_some] <;> rfl) | (simp [*, errW_none, errW_some] <;> rfl), by repeat (first | (with_reducible first | exact HB.out | apply below_alloc | apply pw_below_drewN | apply below_drew1 | refine below_set ?_ GE269.out) | exact HB.out)⟩

end Go.Proofs.YthpdlgamicmhaaaGreat.PN
