/- Written by a program (pe.py): functions of the program as Lean functions, and that each call answers as they do. -/
import Derived.Test.YthpdlgamicmhaaaGreatPNx0
import Derived.Test.YthpdlgamicmhaaaGreatPNx3
import Derived.Test.YthpdlgamicmhaaaGreatPNx4
namespace Go.Proofs.YthpdlgamicmhaaaGreat.PN
open Go.RowKit Go.Proofs.YthpdlgamicmhaaaGreatW.PrintWords Go.Proofs.YthpdlgamicmhaaaGreatW.PrintLast Go.Proofs.YthpdlgamicmhaaaGreatW.PrintMore
attribute [local go_sem] max2_int min2_int max_two min_two max_three min_three max_four min_four   -- for this text's walks alone
set_option linter.unusedVariables false
set_option linter.unusedSimpArgs false

attribute [local go_sem high] eqA62 eqA64
/-! ### book_Name: function 10 -/
mutual
def book_Name.j0 : Nat → ByteArray → Bool → Option (Bool)
 | 0, _, _ => none
 | k + 1, x0, x13 => if x13 = true then (some false) else (book_Name.l0 k x0 (x0.size : Int) 0)
def book_Name.l0 : Nat → ByteArray → Int → Int → Option (Bool)
 | 0, _, _, _ => none
 | k + 1, x0, x15, x16 => if x16 < x15 then (if 0 ≤ x16 then (if x16 < (x0.size : Int) then (if (bt x0 x16) ≥ 97 then (if ((bt x0 x16) ≤ 122) then (book_Name.l0 k x0 x15 (wrap64 (x16 + 1))) else (if x16 = 0 then (some false) else (if (bt x0 x16) < 48 then (if (bt x0 x16) = 95 then (book_Name.l0 k x0 x15 (wrap64 (x16 + 1))) else (some false)) else (if (bt x0 x16) > 57 then (if (bt x0 x16) = 95 then (book_Name.l0 k x0 x15 (wrap64 (x16 + 1))) else (some false)) else (book_Name.l0 k x0 x15 (wrap64 (x16 + 1))))))) else (if x16 = 0 then (some false) else (if (bt x0 x16) < 48 then (if (bt x0 x16) = 95 then (book_Name.l0 k x0 x15 (wrap64 (x16 + 1))) else (some false)) else (if (bt x0 x16) > 57 then (if (bt x0 x16) = 95 then (book_Name.l0 k x0 x15 (wrap64 (x16 + 1))) else (some false)) else (book_Name.l0 k x0 x15 (wrap64 (x16 + 1))))))) else (none)) else (none)) else (some true)
end
def book_Name.f (k : Nat) (a0 : ByteArray) : Option (Bool) := if (a0.size : Int) = 0 then (book_Name.j0 k a0 true) else (book_Name.j0 k a0 (decide ((a0.size : Int) > 30)))
theorem book_Name.mono_l : ∀ k, (∀ y0 y1, LeO (book_Name.j0 k y0 y1) (book_Name.j0 (k + 1) y0 y1)) ∧ (∀ y0 y1 y2, LeO (book_Name.l0 k y0 y1 y2) (book_Name.l0 (k + 1) y0 y1 y2))
 | 0 => ⟨fun _ _ r h => by simp [book_Name.j0] at h, fun _ _ _ r h => by simp [book_Name.l0] at h⟩
 | k + 1 => by
  obtain ⟨ih0, ih1⟩ := book_Name.mono_l k
  refine ⟨?_, ?_⟩
  ·
   intro y0 y1
   unfold book_Name.j0
   repeat' first
   | (with_reducible exact ih0 _ _)
   | (with_reducible exact ih1 _ _ _)
   | (with_reducible exact LeO.refl _)
   | (with_reducible exact LeO.none _)
   | (with_reducible refine LeO.ite ?_ ?_)
   | (with_reducible refine LeO.bind ?_ (fun _ => ?_))
   | exact ih0 _ _
   | exact ih1 _ _ _
   | exact LeO.none _
   | refine LeO.ite ?_ ?_
   | refine LeO.bind ?_ (fun _ => ?_)
  ·
   intro y0 y1 y2
   unfold book_Name.l0
   repeat' first
   | (with_reducible exact ih0 _ _)
   | (with_reducible exact ih1 _ _ _)
   | (with_reducible exact LeO.refl _)
   | (with_reducible exact LeO.none _)
   | (with_reducible refine LeO.ite ?_ ?_)
   | (with_reducible refine LeO.bind ?_ (fun _ => ?_))
   | exact ih0 _ _
   | exact ih1 _ _ _
   | exact LeO.none _
   | refine LeO.ite ?_ ?_
   | refine LeO.bind ?_ (fun _ => ?_)
theorem book_Name.mono : ∀ a0 k, LeO (book_Name.f k a0) (book_Name.f (k + 1) a0) := by
 intro a0 k
 obtain ⟨ih0, ih1⟩ := book_Name.mono_l k
 unfold book_Name.f
 repeat' first
   | (with_reducible exact ih0 _ _)
   | (with_reducible exact ih1 _ _ _)
   | (with_reducible exact LeO.refl _)
   | (with_reducible exact LeO.none _)
   | (with_reducible refine LeO.ite ?_ ?_)
   | (with_reducible refine LeO.bind ?_ (fun _ => ?_))
   | exact ih0 _ _
   | exact ih1 _ _ _
   | exact LeO.none _
   | refine LeO.ite ?_ ?_
   | refine LeO.bind ?_ (fun _ => ?_)
set_option maxHeartbeats 8000000 in
set_option maxRecDepth 100000 in
theorem book_Name.calls (k : Nat) (a0 : ByteArray) (r : Bool) (w : World) (h : book_Name.f k a0 = some r) :
  Calls Tryz.prog 10 #[.string a0] w fun e w' => e = .returned (.bool r) ∧ Drawn0 w w' := by
 have H : (if (a0.size : Int) = 0 then (book_Name.j0 k a0 true) else (book_Name.j0 k a0 (decide ((a0.size : Int) > 30)))) = some r := h
 clear h
 have HC2 := Aside0.mk H
 clear H
 go_enter Tryz.func10, Tryz.ntmps10
 go_upto_region 1 with (fail)
 go_cut [13] (fun v13 wc => ∃ (kq : Nat) (x13_1 : Bool), v13 = .bool x13_1 ∧ Aside0 (book_Name.j0 kq a0 x13_1 = some r) ∧ Aside0 (kq ≤ k) ∧ Drawn0 w wc)
 case first =>
  have H := HC2.out
  clear HC2
  by_cases c3 : (a0.size : Int) = 0
  ·
   rw [if_pos c3] at H
   have c3b0 : ((a0.size : Int) == 0) = true := beq_iff_eq.mpr c3
   have c3b1 : ((a0.size : Int) != 0) = false := bne_eq_false_iff_eq.mpr c3
   clear c3
   (first | rw [c3b0] | (simp only [i64_w, i32_w]; rw [c3b0]) | skip)
   have H' := Aside0.mk H
   clear H
   go_wp2
   go_meet
   case rel => exact ⟨_, (true), (by first | rfl | (simp; done) | (simp [*]; done)), H', ⟨by first | omega | exact Nat.le_refl _⟩, by repeat (first | exact Drawn0.refl _ | apply Drawn0.step)⟩
  ·
   rw [if_neg c3] at H
   have c3b0 : ((a0.size : Int) == 0) = false := beq_eq_false_iff_ne.mpr c3
   have c3b1 : ((a0.size : Int) != 0) = true := bne_iff_ne.mpr c3
   (first | rw [c3b0] | (simp only [i64_w, i32_w]; rw [c3b0]) | skip)
   have H' := Aside0.mk H
   clear H
   go_wp2
   go_meet
   case rel => exact ⟨_, (decide ((a0.size : Int) > 30)), (by first | rfl | (simp; done) | (simp [*]; done)), H', ⟨by first | omega | exact Nat.le_refl _⟩, by repeat (first | exact Drawn0.refl _ | apply Drawn0.step)⟩
 case rest =>
  clear HC2
  try clear c1
  try clear p2
  try clear c3
  try clear c3b0
  try clear c3b1
  obtain ⟨kq, x13_1, rfl, HA, HJ1, ⟨mc1, rfl⟩⟩ := hcut
  cases kq with
  | zero => exact absurd HA.out (by simp [book_Name.j0])
  | succ kj1 =>
   have H := HA.out
   clear HA
   simp only [book_Name.j0] at H
   by_cases c4 : x13_1 = true
   ·
    subst c4
    have H1 : (some false) = some r := by rw [if_pos rfl] at H; exact H
    clear H
    have H := H1
    clear H1
    obtain rfl := Option.some.inj H
    go_wp2
    go_ret
    exact ⟨by first | rfl | (simp; done) | (simp [*]; done), by repeat (first | exact Drawn0.refl _ | apply Drawn0.step)⟩
   ·
    replace c4 := Bool.eq_false_iff.mpr c4
    subst c4
    have H1 : (book_Name.l0 kj1 a0 (a0.size : Int) 0) = some r := by rw [if_neg (show ¬ (false = true) by decide)] at H; exact H
    clear H
    have H := H1
    clear H1
    have H' := Aside0.mk H
    clear H
    go_wp2
    go_loopg [16] kj1 (fun kq v16 w' => ∃ (x16_2 : Int), v16 = .int .i64 x16_2 ∧ Aside0 (book_Name.l0 kq a0 (a0.size : Int) x16_2 = some r) ∧ Aside0 (kq ≤ kj1) ∧ Drawn0 w w')
    case atStart => exact ⟨(0), (by first | rfl | (simp; done) | (simp [*]; done)), H', ⟨Nat.le_refl _⟩, by repeat (first | exact Drawn0.refl _ | apply Drawn0.step)⟩
    case round =>
     clear H'
     try clear c1
     try clear p2
     try clear c3
     try clear c3b0
     try clear c3b1
     try clear c4
     try clear p2
     obtain ⟨x16_2, rfl, HA, HK2, ⟨m2, rfl⟩⟩ := hrel
     cases gk with
     | zero => exact absurd HA.out (by simp [book_Name.l0])
     | succ k2 =>
      have H := HA.out
      clear HA
      simp only [book_Name.l0] at H
      by_cases c5 : x16_2 < (a0.size : Int)
      ·
       rw [if_pos c5] at H
       have c5b0 : decide (x16_2 < (a0.size : Int)) = true := decide_eq_true c5
       clear c5
       by_cases c6 : 0 ≤ x16_2
       ·
        rw [if_pos c6] at H
        have c6b0 : decide (0 ≤ x16_2) = true := decide_eq_true c6
        clear c6
        by_cases c7 : x16_2 < (a0.size : Int)
        ·
         rw [if_pos c7] at H
         have c7b0 : decide (x16_2 < (a0.size : Int)) = true := decide_eq_true c7
         clear c7
         by_cases c9 : (bt a0 x16_2) ≥ 97
         ·
          rw [if_pos c9] at H
          have c9b0 : decide (97 ≤ (bt a0 x16_2)) = true := decide_eq_true c9
          clear c9
          by_cases c10 : ((bt a0 x16_2) ≤ 122)
          ·
           rw [if_pos c10] at H
           have c10b0 : decide ((bt a0 x16_2) ≤ 122) = true := decide_eq_true c10
           clear c10
           have H' := Aside0.mk H
           clear H
           have p8 : 0 ≤ (x16_2 : Int) := of_decide_eq_true (by first | (with_reducible assumption) | assumption)
           have q8 : x16_2 < (a0.size : Int) := of_decide_eq_true (by first | (with_reducible assumption) | assumption)
           have hx8 := bt_at a0 x16_2
           replace p8 := eq_true p8
           replace q8 := eq_true q8
           go_wp2
           go_roundg k2
           case measure => have := HJ1.out; have := HK2.out; omega
           case rel => exact ⟨(wrap64 (x16_2 + 1)), (by first | rfl | (simp; done) | (simp [*]; done)), H', ⟨by have := HJ1.out; have := HK2.out; omega⟩, by repeat (first | exact Drawn0.refl _ | apply Drawn0.step)⟩
          ·
           rw [if_neg c10] at H
           have c10b0 : decide ((bt a0 x16_2) ≤ 122) = false := decide_eq_false c10
           clear c10
           by_cases c11 : x16_2 = 0
           ·
            rw [if_pos c11] at H
            have c11b0 : (x16_2 == 0) = true := beq_iff_eq.mpr c11
            have c11b1 : (x16_2 != 0) = false := bne_eq_false_iff_eq.mpr c11
            clear c11
            obtain rfl := Option.some.inj H
            have p8 : 0 ≤ (x16_2 : Int) := of_decide_eq_true (by first | (with_reducible assumption) | assumption)
            have q8 : x16_2 < (a0.size : Int) := of_decide_eq_true (by first | (with_reducible assumption) | assumption)
            have hx8 := bt_at a0 x16_2
            replace p8 := eq_true p8
            replace q8 := eq_true q8
            go_wp2
            go_ret
            exact ⟨by first | rfl | (simp; done) | (simp [*]; done), by repeat (first | exact Drawn0.refl _ | apply Drawn0.step)⟩
           ·
            rw [if_neg c11] at H
            have c11b0 : (x16_2 == 0) = false := beq_eq_false_iff_ne.mpr c11
            have c11b1 : (x16_2 != 0) = true := bne_iff_ne.mpr c11
            by_cases c12 : (bt a0 x16_2) < 48
            ·
             rw [if_pos c12] at H
             have c12b0 : decide ((bt a0 x16_2) < 48) = true := decide_eq_true c12
             clear c12
             by_cases c13 : (bt a0 x16_2) = 95
             ·
              rw [if_pos c13] at H
              have c13b0 : ((bt a0 x16_2) == 95) = true := beq_iff_eq.mpr c13
              have c13b1 : ((bt a0 x16_2) != 95) = false := bne_eq_false_iff_eq.mpr c13
              clear c13
              have H' := Aside0.mk H
              clear H
              have p8 : 0 ≤ (x16_2 : Int) := of_decide_eq_true (by first | (with_reducible assumption) | assumption)
              have q8 : x16_2 < (a0.size : Int) := of_decide_eq_true (by first | (with_reducible assumption) | assumption)
              have hx8 := bt_at a0 x16_2
              replace p8 := eq_true p8
              replace q8 := eq_true q8
              go_wp2
              go_roundg k2
              case measure => have := HJ1.out; have := HK2.out; omega
              case rel => exact ⟨(wrap64 (x16_2 + 1)), (by first | rfl | (simp; done) | (simp [*]; done)), H', ⟨by have := HJ1.out; have := HK2.out; omega⟩, by repeat (first | exact Drawn0.refl _ | apply Drawn0.step)⟩
             ·
              rw [if_neg c13] at H
              have c13b0 : ((bt a0 x16_2) == 95) = false := beq_eq_false_iff_ne.mpr c13
              have c13b1 : ((bt a0 x16_2) != 95) = true := bne_iff_ne.mpr c13
              obtain rfl := Option.some.inj H
              have p8 : 0 ≤ (x16_2 : Int) := of_decide_eq_true (by first | (with_reducible assumption) | assumption)
              have q8 : x16_2 < (a0.size : Int) := of_decide_eq_true (by first | (with_reducible assumption) | assumption)
              have hx8 := bt_at a0 x16_2
              replace p8 := eq_true p8
              replace q8 := eq_true q8
              go_wp2
              go_ret
              exact ⟨by first | rfl | (simp; done) | (simp [*]; done), by repeat (first | exact Drawn0.refl _ | apply Drawn0.step)⟩
            ·
             rw [if_neg c12] at H
             have c12b0 : decide ((bt a0 x16_2) < 48) = false := decide_eq_false c12
             clear c12
             by_cases c14 : (bt a0 x16_2) > 57
             ·
              rw [if_pos c14] at H
              have c14b0 : decide (57 < (bt a0 x16_2)) = true := decide_eq_true c14
              clear c14
              by_cases c15 : (bt a0 x16_2) = 95
              ·
               rw [if_pos c15] at H
               have c15b0 : ((bt a0 x16_2) == 95) = true := beq_iff_eq.mpr c15
               have c15b1 : ((bt a0 x16_2) != 95) = false := bne_eq_false_iff_eq.mpr c15
               clear c15
               have H' := Aside0.mk H
               clear H
               have p8 : 0 ≤ (x16_2 : Int) := of_decide_eq_true (by first | (with_reducible assumption) | assumption)
               have q8 : x16_2 < (a0.size : Int) := of_decide_eq_true (by first | (with_reducible assumption) | assumption)
               have hx8 := bt_at a0 x16_2
               replace p8 := eq_true p8
               replace q8 := eq_true q8
               go_wp2
               go_roundg k2
               case measure => have := HJ1.out; have := HK2.out; omega
               case rel => exact ⟨(wrap64 (x16_2 + 1)), (by first | rfl | (simp; done) | (simp [*]; done)), H', ⟨by have := HJ1.out; have := HK2.out; omega⟩, by repeat (first | exact Drawn0.refl _ | apply Drawn0.step)⟩
              ·
               rw [if_neg c15] at H
               have c15b0 : ((bt a0 x16_2) == 95) = false := beq_eq_false_iff_ne.mpr c15
               have c15b1 : ((bt a0 x16_2) != 95) = true := bne_iff_ne.mpr c15
               obtain rfl := Option.some.inj H
               have p8 : 0 ≤ (x16_2 : Int) := of_decide_eq_true (by first | (with_reducible assumption) | assumption)
               have q8 : x16_2 < (a0.size : Int) := of_decide_eq_true (by first | (with_reducible assumption) | assumption)
               have hx8 := bt_at a0 x16_2
               replace p8 := eq_true p8
               replace q8 := eq_true q8
               go_wp2
               go_ret
               exact ⟨by first | rfl | (simp; done) | (simp [*]; done), by repeat (first | exact Drawn0.refl _ | apply Drawn0.step)⟩
             ·
              rw [if_neg c14] at H
              have c14b0 : decide (57 < (bt a0 x16_2)) = false := decide_eq_false c14
              clear c14
              have H' := Aside0.mk H
              clear H
              have p8 : 0 ≤ (x16_2 : Int) := of_decide_eq_true (by first | (with_reducible assumption) | assumption)
              have q8 : x16_2 < (a0.size : Int) := of_decide_eq_true (by first | (with_reducible assumption) | assumption)
              have hx8 := bt_at a0 x16_2
              replace p8 := eq_true p8
              replace q8 := eq_true q8
              go_wp2
              go_roundg k2
              case measure => have := HJ1.out; have := HK2.out; omega
              case rel => exact ⟨(wrap64 (x16_2 + 1)), (by first | rfl | (simp; done) | (simp [*]; done)), H', ⟨by have := HJ1.out; have := HK2.out; omega⟩, by repeat (first | exact Drawn0.refl _ | apply Drawn0.step)⟩
         ·
          rw [if_neg c9] at H
          have c9b0 : decide (97 ≤ (bt a0 x16_2)) = false := decide_eq_false c9
          clear c9
          by_cases c16 : x16_2 = 0
          ·
           rw [if_pos c16] at H
           have c16b0 : (x16_2 == 0) = true := beq_iff_eq.mpr c16
           have c16b1 : (x16_2 != 0) = false := bne_eq_false_iff_eq.mpr c16
           clear c16
           obtain rfl := Option.some.inj H
           have p8 : 0 ≤ (x16_2 : Int) := of_decide_eq_true (by first | (with_reducible assumption) | assumption)
           have q8 : x16_2 < (a0.size : Int) := of_decide_eq_true (by first | (with_reducible assumption) | assumption)
           have hx8 := bt_at a0 x16_2
           replace p8 := eq_true p8
           replace q8 := eq_true q8
           go_wp2
           go_ret
           exact ⟨by first | rfl | (simp; done) | (simp [*]; done), by repeat (first | exact Drawn0.refl _ | apply Drawn0.step)⟩
          ·
           rw [if_neg c16] at H
           have c16b0 : (x16_2 == 0) = false := beq_eq_false_iff_ne.mpr c16
           have c16b1 : (x16_2 != 0) = true := bne_iff_ne.mpr c16
           by_cases c17 : (bt a0 x16_2) < 48
           ·
            rw [if_pos c17] at H
            have c17b0 : decide ((bt a0 x16_2) < 48) = true := decide_eq_true c17
            clear c17
            by_cases c18 : (bt a0 x16_2) = 95
            ·
             rw [if_pos c18] at H
             have c18b0 : ((bt a0 x16_2) == 95) = true := beq_iff_eq.mpr c18
             have c18b1 : ((bt a0 x16_2) != 95) = false := bne_eq_false_iff_eq.mpr c18
             clear c18
             have H' := Aside0.mk H
             clear H
             have p8 : 0 ≤ (x16_2 : Int) := of_decide_eq_true (by first | (with_reducible assumption) | assumption)
             have q8 : x16_2 < (a0.size : Int) := of_decide_eq_true (by first | (with_reducible assumption) | assumption)
             have hx8 := bt_at a0 x16_2
             replace p8 := eq_true p8
             replace q8 := eq_true q8
             go_wp2
             go_roundg k2
             case measure => have := HJ1.out; have := HK2.out; omega
             case rel => exact ⟨(wrap64 (x16_2 + 1)), (by first | rfl | (simp; done) | (simp [*]; done)), H', ⟨by have := HJ1.out; have := HK2.out; omega⟩, by repeat (first | exact Drawn0.refl _ | apply Drawn0.step)⟩
            ·
             rw [if_neg c18] at H
             have c18b0 : ((bt a0 x16_2) == 95) = false := beq_eq_false_iff_ne.mpr c18
             have c18b1 : ((bt a0 x16_2) != 95) = true := bne_iff_ne.mpr c18
             obtain rfl := Option.some.inj H
             have p8 : 0 ≤ (x16_2 : Int) := of_decide_eq_true (by first | (with_reducible assumption) | assumption)
             have q8 : x16_2 < (a0.size : Int) := of_decide_eq_true (by first | (with_reducible assumption) | assumption)
             have hx8 := bt_at a0 x16_2
             replace p8 := eq_true p8
             replace q8 := eq_true q8
             go_wp2
             go_ret
             exact ⟨by first | rfl | (simp; done) | (simp [*]; done), by repeat (first | exact Drawn0.refl _ | apply Drawn0.step)⟩
           ·
            rw [if_neg c17] at H
            have c17b0 : decide ((bt a0 x16_2) < 48) = false := decide_eq_false c17
            clear c17
            by_cases c19 : (bt a0 x16_2) > 57
            ·
             rw [if_pos c19] at H
             have c19b0 : decide (57 < (bt a0 x16_2)) = true := decide_eq_true c19
             clear c19
             by_cases c20 : (bt a0 x16_2) = 95
             ·
              rw [if_pos c20] at H
              have c20b0 : ((bt a0 x16_2) == 95) = true := beq_iff_eq.mpr c20
              have c20b1 : ((bt a0 x16_2) != 95) = false := bne_eq_false_iff_eq.mpr c20
              clear c20
              have H' := Aside0.mk H
              clear H
              have p8 : 0 ≤ (x16_2 : Int) := of_decide_eq_true (by first | (with_reducible assumption) | assumption)
              have q8 : x16_2 < (a0.size : Int) := of_decide_eq_true (by first | (with_reducible assumption) | assumption)
              have hx8 := bt_at a0 x16_2
              replace p8 := eq_true p8
              replace q8 := eq_true q8
              go_wp2
              go_roundg k2
              case measure => have := HJ1.out; have := HK2.out; omega
              case rel => exact ⟨(wrap64 (x16_2 + 1)), (by first | rfl | (simp; done) | (simp [*]; done)), H', ⟨by have := HJ1.out; have := HK2.out; omega⟩, by repeat (first | exact Drawn0.refl _ | apply Drawn0.step)⟩
             ·
              rw [if_neg c20] at H
              have c20b0 : ((bt a0 x16_2) == 95) = false := beq_eq_false_iff_ne.mpr c20
              have c20b1 : ((bt a0 x16_2) != 95) = true := bne_iff_ne.mpr c20
              obtain rfl := Option.some.inj H
              have p8 : 0 ≤ (x16_2 : Int) := of_decide_eq_true (by first | (with_reducible assumption) | assumption)
              have q8 : x16_2 < (a0.size : Int) := of_decide_eq_true (by first | (with_reducible assumption) | assumption)
              have hx8 := bt_at a0 x16_2
              replace p8 := eq_true p8
              replace q8 := eq_true q8
              go_wp2
              go_ret
              exact ⟨by first | rfl | (simp; done) | (simp [*]; done), by repeat (first | exact Drawn0.refl _ | apply Drawn0.step)⟩
            ·
             rw [if_neg c19] at H
             have c19b0 : decide (57 < (bt a0 x16_2)) = false := decide_eq_false c19
             clear c19
             have H' := Aside0.mk H
             clear H
             have p8 : 0 ≤ (x16_2 : Int) := of_decide_eq_true (by first | (with_reducible assumption) | assumption)
             have q8 : x16_2 < (a0.size : Int) := of_decide_eq_true (by first | (with_reducible assumption) | assumption)
             have hx8 := bt_at a0 x16_2
             replace p8 := eq_true p8
             replace q8 := eq_true q8
             go_wp2
             go_roundg k2
             case measure => have := HJ1.out; have := HK2.out; omega
             case rel => exact ⟨(wrap64 (x16_2 + 1)), (by first | rfl | (simp; done) | (simp [*]; done)), H', ⟨by have := HJ1.out; have := HK2.out; omega⟩, by repeat (first | exact Drawn0.refl _ | apply Drawn0.step)⟩
        ·
         rw [if_neg c7] at H
         exact absurd H (by simp)
       ·
        rw [if_neg c6] at H
        exact absurd H (by simp)
      ·
       rw [if_neg c5] at H
       have c5b0 : decide (x16_2 < (a0.size : Int)) = false := decide_eq_false c5
       clear c5
       obtain rfl := Option.some.inj H
       go_wp2
       go_ret
       exact ⟨by first | rfl | (simp; done) | (simp [*]; done), by repeat (first | exact Drawn0.refl _ | apply Drawn0.step)⟩

-- NOT PRINTED: function 97 (book_Partition_1)

/-! ### book_within: function 33 -/
def book_within.f (a0 : Int) (a1 : Int) (a2 : Int) : Option (Bool) := if a0 ≥ a1 then (some (decide (a0 ≤ a2))) else (some false)
set_option maxHeartbeats 8000000 in
set_option maxRecDepth 100000 in
theorem book_within.calls (a0 : Int) (a1 : Int) (a2 : Int) (r : Bool) (w : World) (h : book_within.f a0 a1 a2 = some r) :
  Calls Tryz.prog 33 #[.int .i64 a0, .int .i64 a1, .int .i64 a2] w fun e w' => e = .returned (.bool r) ∧ Drawn0 w w' := by
 have H : (if a0 ≥ a1 then (some (decide (a0 ≤ a2))) else (some false)) = some r := h
 clear h
 by_cases c4 : a0 ≥ a1
 ·
  rw [if_pos c4] at H
  have c4b0 : decide (a1 ≤ a0) = true := decide_eq_true c4
  clear c4
  obtain rfl := Option.some.inj H
  go_enter Tryz.func33, Tryz.ntmps33
  go_wp2
  go_ret
  exact ⟨by first | rfl | (simp; done) | (simp [*]; done), by repeat (first | exact Drawn0.refl _ | apply Drawn0.step)⟩
 ·
  rw [if_neg c4] at H
  have c4b0 : decide (a1 ≤ a0) = false := decide_eq_false c4
  clear c4
  obtain rfl := Option.some.inj H
  go_enter Tryz.func33, Tryz.ntmps33
  go_wp2
  go_ret
  exact ⟨by first | rfl | (simp; done) | (simp [*]; done), by repeat (first | exact Drawn0.refl _ | apply Drawn0.step)⟩

-- NOT PRINTED: function 125 (book_Rule_1)

/-! own words -/
theorem if_some {α : Type} {p : Prop} [Decidable p] {x : Option α} {r : α} (h : (if p then x else none) = some r) : p ∧ x = some r := by
 by_cases hp : p
 ·
  exact ⟨hp, by rwa [if_pos hp] at h⟩
 ·
  rw [if_neg hp] at h; cases h
theorem alloc_below0 (w : World) (o : Obj) : Below w.heap.size w (w.alloc o) := below_alloc (Below.refl _ _) o
def allO {α : Type} (f : α → Option Bool) : List α → Option Bool
 | [] => some true
 | x :: l => (f x).bind fun b => if b = true then allO f l else some false
theorem allO_mono {α : Type} {f g : α → Option Bool} (h : ∀ x, LeO (f x) (g x)) : ∀ l, LeO (allO f l) (allO g l)
 | [] => LeO.refl _
 | x :: l => by
  unfold allO
  exact LeO.bind (h x) (fun b => LeO.ite (allO_mono h l) (LeO.refl _))
theorem allO_cons {α : Type} {f : α → Option Bool} {l : List α} {i : Nat} {r : Bool} (hi : i < l.length) (h : allO f (l.drop i) = some r) : ∃ b, f (l[i]) = some b ∧ (b = true → allO f (l.drop (i + 1)) = some r) ∧ (b = false → r = false) := by
 rw [List.drop_eq_getElem_cons hi] at h
 unfold allO at h
 cases hb : f l[i] with
 | none => rw [hb] at h; cases h
 | some b =>
  rw [hb] at h
  refine ⟨b, rfl, ?_, ?_⟩
  ·
   rintro rfl; simpa using h
  ·
   rintro rfl; simpa using h.symm
def zipO {α : Type} (f : α → α → Option Bool) : List α → List α → Option Bool
 | x :: l, y :: m => (f x y).bind fun b => if b = true then zipO f l m else some false
 | _, _ => some true
theorem zipO_mono {α : Type} {f g : α → α → Option Bool} (h : ∀ x y, LeO (f x y) (g x y)) : ∀ l m, LeO (zipO f l m) (zipO g l m)
 | x :: l, y :: m => by
  unfold zipO
  exact LeO.bind (h x y) (fun b => LeO.ite (zipO_mono h l m) (LeO.refl _))
 | [], _ => by unfold zipO; exact LeO.refl _
 | _ :: _, [] => by unfold zipO; exact LeO.refl _
theorem zipO_cons {α : Type} {f : α → α → Option Bool} {l m : List α} {i : Nat} {r : Bool} (hi : i < l.length) (hm : i < m.length) (h : zipO f (l.drop i) (m.drop i) = some r) : ∃ b, f (l[i]) (m[i]) = some b ∧ (b = true → zipO f (l.drop (i + 1)) (m.drop (i + 1)) = some r) ∧ (b = false → r = false) := by
 rw [List.drop_eq_getElem_cons hi, List.drop_eq_getElem_cons hm] at h
 unfold zipO at h
 cases hb : f l[i] m[i] with
 | none => rw [hb] at h; cases h
 | some b =>
  rw [hb] at h
  refine ⟨b, rfl, ?_, ?_⟩
  ·
   rintro rfl; simpa using h
  ·
   rintro rfl; simpa using h.symm
def mapO {α β : Type} (f : α → Option β) : List α → Option (List β)
 | [] => some []
 | x :: l => (f x).bind fun b => (mapO f l).bind fun m => some (b :: m)
theorem mapO_mono {α β : Type} {f g : α → Option β} (h : ∀ x, LeO (f x) (g x)) : ∀ l, LeO (mapO f l) (mapO g l)
 | [] => LeO.refl _
 | x :: l => by
  unfold mapO
  exact LeO.bind (h x) (fun b => LeO.bind (mapO_mono h l) (fun _ => LeO.refl _))
theorem mapO_cons {α β : Type} {f : α → Option β} {l : List α} {i : Nat} {r : List β} (hi : i < l.length) (h : mapO f (l.drop i) = some r) : ∃ b m, f (l[i]) = some b ∧ mapO f (l.drop (i + 1)) = some m ∧ r = b :: m := by
 rw [List.drop_eq_getElem_cons hi] at h
 unfold mapO at h
 cases hb : f l[i] with
 | none => rw [hb] at h; cases h
 | some b =>
  rw [hb] at h
  cases hm : mapO f (l.drop (i + 1)) with
  | none => rw [hm] at h; cases h
  | some m => rw [hm] at h; exact ⟨b, m, rfl, rfl, by simpa using h.symm⟩

theorem pe_box0 (w : World) (cs : Array Value) (t : TypeId) : (w.alloc (.cells cs t)).heap[w.heap.size]? = some (.cells cs t (0, 0)) := heap_alloc_new w _
theorem pe_box1 (w : World) (o : Obj) (cs : Array Value) (t : TypeId) : ((w.alloc o).alloc (.cells cs t)).heap[w.heap.size + 1]? = some (.cells cs t (0, 0)) := by
 have h := heap_alloc_new (w.alloc o) (.cells cs t)
 simpa using h
theorem pe_box2 (w : World) (o o2 : Obj) (cs : Array Value) (t : TypeId) : (((w.alloc o).alloc o2).alloc (.cells cs t)).heap[w.heap.size + 2]? = some (.cells cs t (0, 0)) := by
 have h := heap_alloc_new ((w.alloc o).alloc o2) (.cells cs t)
 simpa using h

/-! ### book_Rule_right: function 41 -/
def book_Rule_right.f (a0_0 : Int) (a0_1 : Int) (a0_2 : Int) : Option (Bool) := (book_within.f a0_0 1 27).bind fun t104 => (if t104 = true then ((book_within.f a0_1 0 2).bind fun t105 => (if t105 = true then ((book_within.f a0_2 0 6).bind fun t106 => (some t106)) else (some false))) else (some false))
set_option maxHeartbeats 8000000 in
set_option maxRecDepth 100000 in
theorem book_Rule_right.calls (a0_0 : Int) (a0_1 : Int) (a0_2 : Int) (r : Bool) (w : World) (h : book_Rule_right.f a0_0 a0_1 a0_2 = some r) :
    Calls Tryz.prog 41 #[.agg #[.int .i64 a0_0, .int .i64 a0_1, .int .i64 a0_2]] w fun e w' => e = .returned (.bool r) ∧ Below w.heap.size w w' := by
 unfold book_Rule_right.f at h
 have H := Aside0.mk h
 clear h
 have HB := Aside0.mk (Below.refl w.heap.size w)
 have hu64 := Tryz.underlying64
 go_enter Tryz.func41, Tryz.ntmps41
 have BK1 := Aside0.mk (pe_box0 w #[.int .i64 a0_0, .int .i64 a0_1, .int .i64 a0_2] 64)
 replace HB := Aside0.mk (below_alloc HB.out (.cells #[.int .i64 a0_0, .int .i64 a0_1, .int .i64 a0_2] 64))
 obtain ⟨t104, q2, H1⟩ := Option.bind_eq_some_iff.mp H.out
 replace H := Aside0.mk H1
 replace q2 := Aside0.mk q2
 clear H1
 go_wp2_with fail
 (with_reducible refine (book_within.calls a0_0 1 27 t104 _  q2.out).mono ?_)
 clear q2
 rintro e w3 ⟨rfl, hd⟩
 have hb := hd.below
 clear hd
 replace HB := Aside0.mk (below_step HB.out hb)
 replace BK1 := Aside0.mk (blk_below BK1.out hb)
 clear hb
 obtain ⟨hz4_1_0, hz4_1_1, hz4_1_2, hf4_1_0, hf4_1_1, hf4_1_2⟩ := blk3 BK1.out
 by_cases c5 : t104 = true
 · have H1 := H.out
   rw [if_pos c5] at H1
   replace H := Aside0.mk H1
   clear H1
   subst c5
   obtain ⟨t105, q6, H1⟩ := Option.bind_eq_some_iff.mp H.out
   replace H := Aside0.mk H1
   replace q6 := Aside0.mk q6
   clear H1
   go_wp2_with fail
   (with_reducible refine (book_within.calls a0_1 0 2 t105 _  q6.out).mono ?_)
   clear q6
   rintro e w7 ⟨rfl, hd⟩
   have hb := hd.below
   clear hd
   replace HB := Aside0.mk (below_step HB.out hb)
   replace BK1 := Aside0.mk (blk_below BK1.out hb)
   clear hb
   try clear hz4_1_0 hz4_1_1 hz4_1_2 hf4_1_0 hf4_1_1 hf4_1_2
   obtain ⟨hz8_1_0, hz8_1_1, hz8_1_2, hf8_1_0, hf8_1_1, hf8_1_2⟩ := blk3 BK1.out
   by_cases c9 : t105 = true
   · have H1 := H.out
     rw [if_pos c9] at H1
     replace H := Aside0.mk H1
     clear H1
     subst c9
     obtain ⟨t106, q10, H1⟩ := Option.bind_eq_some_iff.mp H.out
     replace H := Aside0.mk H1
     replace q10 := Aside0.mk q10
     clear H1
     go_wp2_with fail
     (with_reducible refine (book_within.calls a0_2 0 6 t106 _  q10.out).mono ?_)
     clear q10
     rintro e w11 ⟨rfl, hd⟩
     have hb := hd.below
     clear hd
     replace HB := Aside0.mk (below_step HB.out hb)
     replace BK1 := Aside0.mk (blk_below BK1.out hb)
     clear hb
     try clear hz8_1_0 hz8_1_1 hz8_1_2 hf8_1_0 hf8_1_1 hf8_1_2
     obtain ⟨hz12_1_0, hz12_1_1, hz12_1_2, hf12_1_0, hf12_1_1, hf12_1_2⟩ := blk3 BK1.out
     obtain rfl := Option.some.inj H.out
     go_wp2
     go_ret
     exact ⟨by first | rfl | (simp; done) | (simp [*]; done), HB.out⟩
   · have H1 := H.out
     rw [if_neg c9] at H1
     replace H := Aside0.mk H1
     clear H1
     replace c9 := Bool.eq_false_iff.mpr c9
     subst c9
     obtain rfl := Option.some.inj H.out
     go_wp2
     go_ret
     exact ⟨by first | rfl | (simp; done) | (simp [*]; done), HB.out⟩
 · have H1 := H.out
   rw [if_neg c5] at H1
   replace H := Aside0.mk H1
   clear H1
   replace c5 := Bool.eq_false_iff.mpr c5
   subst c5
   obtain rfl := Option.some.inj H.out
   go_wp2
   go_ret
   exact ⟨by first | rfl | (simp; done) | (simp [*]; done), HB.out⟩

-- NOT PRINTED: function 137 (book_Area_1)

/-! ### book_Partition_right_1: function 99 -/
def book_Partition_right_1.f (k : Nat) (a0_0 : ByteArray) (a0_1 : Int) (a0_2 : Int) (a0_3 : Bool) (a0_4 : Bool) (a0_5 : Bool) : Option (Bool) := (book_Name.f k a0_0).bind fun t109 => (if t109 = true then ((book_within.f a0_1 0 4095).bind fun t110 => (if t110 = true then ((book_within.f a0_2 1 4096).bind fun t111 => (some t111)) else (some false))) else (some false))
theorem book_Partition_right_1.mono : ∀ a0 a1 a2 a3 a4 a5 k, LeO (book_Partition_right_1.f k a0 a1 a2 a3 a4 a5) (book_Partition_right_1.f (k + 1) a0 a1 a2 a3 a4 a5) := by
  intro a0 a1 a2 a3 a4 a5 k
  unfold book_Partition_right_1.f
  repeat' first
      | (with_reducible exact book_Name.mono _ _)
      | (with_reducible exact LeO.refl _)
      | (with_reducible exact LeO.none _)
      | (with_reducible refine LeO.ite ?_ ?_)
      | (with_reducible refine LeO.bind ?_ (fun _ => ?_))
      | exact book_Name.mono _ _
      | exact LeO.none _
      | refine LeO.ite ?_ ?_
      | refine LeO.bind ?_ (fun _ => ?_)
set_option maxHeartbeats 8000000 in
set_option maxRecDepth 100000 in
theorem book_Partition_right_1.calls (k : Nat) (a0_0 : ByteArray) (a0_1 : Int) (a0_2 : Int) (a0_3 : Bool) (a0_4 : Bool) (a0_5 : Bool) (r : Bool) (w : World) (h : book_Partition_right_1.f k a0_0 a0_1 a0_2 a0_3 a0_4 a0_5 = some r) :
    Calls Tryz.prog 99 #[.agg #[.string a0_0, .int .i64 a0_1, .int .i64 a0_2, .bool a0_3, .bool a0_4, .bool a0_5]] w fun e w' => e = .returned (.bool r) ∧ Below w.heap.size w w' := by
 unfold book_Partition_right_1.f at h
 have H := Aside0.mk h
 clear h
 have HB := Aside0.mk (Below.refl w.heap.size w)
 have hu62 := Tryz.underlying62
 go_enter Tryz.func99, Tryz.ntmps99
 have BK13 := Aside0.mk (pe_box0 w #[.string a0_0, .int .i64 a0_1, .int .i64 a0_2, .bool a0_3, .bool a0_4, .bool a0_5] 62)
 replace HB := Aside0.mk (below_alloc HB.out (.cells #[.string a0_0, .int .i64 a0_1, .int .i64 a0_2, .bool a0_3, .bool a0_4, .bool a0_5] 62))
 obtain ⟨t109, q14, H1⟩ := Option.bind_eq_some_iff.mp H.out
 replace H := Aside0.mk H1
 replace q14 := Aside0.mk q14
 clear H1
 go_wp2_with fail
 (with_reducible refine (book_Name.calls k a0_0 t109 _  q14.out).mono ?_)
 clear q14
 rintro e w15 ⟨rfl, hd⟩
 have hb := hd.below
 clear hd
 replace HB := Aside0.mk (below_step HB.out hb)
 replace BK13 := Aside0.mk (blk_below BK13.out hb)
 clear hb
 obtain ⟨hz16_13_0, hz16_13_1, hz16_13_2, hz16_13_3, hz16_13_4, hz16_13_5, hf16_13_0, hf16_13_1, hf16_13_2, hf16_13_3, hf16_13_4, hf16_13_5⟩ := blk6 BK13.out
 by_cases c17 : t109 = true
 · have H1 := H.out
   rw [if_pos c17] at H1
   replace H := Aside0.mk H1
   clear H1
   subst c17
   obtain ⟨t110, q18, H1⟩ := Option.bind_eq_some_iff.mp H.out
   replace H := Aside0.mk H1
   replace q18 := Aside0.mk q18
   clear H1
   go_wp2_with fail
   (with_reducible refine (book_within.calls a0_1 0 4095 t110 _  q18.out).mono ?_)
   clear q18
   rintro e w19 ⟨rfl, hd⟩
   have hb := hd.below
   clear hd
   replace HB := Aside0.mk (below_step HB.out hb)
   replace BK13 := Aside0.mk (blk_below BK13.out hb)
   clear hb
   try clear hz16_13_0 hz16_13_1 hz16_13_2 hz16_13_3 hz16_13_4 hz16_13_5 hf16_13_0 hf16_13_1 hf16_13_2 hf16_13_3 hf16_13_4 hf16_13_5
   obtain ⟨hz20_13_0, hz20_13_1, hz20_13_2, hz20_13_3, hz20_13_4, hz20_13_5, hf20_13_0, hf20_13_1, hf20_13_2, hf20_13_3, hf20_13_4, hf20_13_5⟩ := blk6 BK13.out
   by_cases c21 : t110 = true
   · have H1 := H.out
     rw [if_pos c21] at H1
     replace H := Aside0.mk H1
     clear H1
     subst c21
     obtain ⟨t111, q22, H1⟩ := Option.bind_eq_some_iff.mp H.out
     replace H := Aside0.mk H1
     replace q22 := Aside0.mk q22
     clear H1
     go_wp2_with fail
     (with_reducible refine (book_within.calls a0_2 1 4096 t111 _  q22.out).mono ?_)
     clear q22
     rintro e w23 ⟨rfl, hd⟩
     have hb := hd.below
     clear hd
     replace HB := Aside0.mk (below_step HB.out hb)
     replace BK13 := Aside0.mk (blk_below BK13.out hb)
     clear hb
     try clear hz20_13_0 hz20_13_1 hz20_13_2 hz20_13_3 hz20_13_4 hz20_13_5 hf20_13_0 hf20_13_1 hf20_13_2 hf20_13_3 hf20_13_4 hf20_13_5
     obtain ⟨hz24_13_0, hz24_13_1, hz24_13_2, hz24_13_3, hz24_13_4, hz24_13_5, hf24_13_0, hf24_13_1, hf24_13_2, hf24_13_3, hf24_13_4, hf24_13_5⟩ := blk6 BK13.out
     obtain rfl := Option.some.inj H.out
     go_wp2
     go_ret
     exact ⟨by first | rfl | (simp; done) | (simp [*]; done), HB.out⟩
   · have H1 := H.out
     rw [if_neg c21] at H1
     replace H := Aside0.mk H1
     clear H1
     replace c21 := Bool.eq_false_iff.mpr c21
     subst c21
     obtain rfl := Option.some.inj H.out
     go_wp2
     go_ret
     exact ⟨by first | rfl | (simp; done) | (simp [*]; done), HB.out⟩
 · have H1 := H.out
   rw [if_neg c17] at H1
   replace H := Aside0.mk H1
   clear H1
   replace c17 := Bool.eq_false_iff.mpr c17
   subst c17
   obtain rfl := Option.some.inj H.out
   go_wp2
   go_ret
   exact ⟨by first | rfl | (simp; done) | (simp [*]; done), HB.out⟩

-- NOT PRINTED: function 139 (book_Task_1)

/-! ### book_Task_right: function 101 -/
def book_Task_right.f (k : Nat) (a0_0 : ByteArray) (a0_1 : Int) (a0_2 : Int) (a0_3 : Int) (a0_4 : Int) (a0_5 : Int) (a0_6 : Int) (a0_7 : Int) : Option (Bool) := (book_Name.f k a0_0).bind fun t114 => (if t114 = true then ((book_within.f a0_1 0 4095).bind fun t115 => (if t115 = true then ((book_within.f a0_2 0 4096).bind fun t116 => (if t116 = true then ((book_within.f a0_3 1 63).bind fun t117 => (if t117 = true then ((book_within.f a0_4 0 1048576).bind fun t118 => (if t118 = true then ((book_within.f a0_5 0 1048576).bind fun t119 => (if t119 = true then ((book_within.f a0_6 0 1048576).bind fun t120 => (if t120 = true then ((book_within.f a0_7 0 1048576).bind fun t121 => (some t121)) else (some false))) else (some false))) else (some false))) else (some false))) else (some false))) else (some false))) else (some false))
theorem book_Task_right.mono : ∀ a0 a1 a2 a3 a4 a5 a6 a7 k, LeO (book_Task_right.f k a0 a1 a2 a3 a4 a5 a6 a7) (book_Task_right.f (k + 1) a0 a1 a2 a3 a4 a5 a6 a7) := by
  intro a0 a1 a2 a3 a4 a5 a6 a7 k
  unfold book_Task_right.f
  repeat' first
      | (with_reducible exact book_Name.mono _ _)
      | (with_reducible exact LeO.refl _)
      | (with_reducible exact LeO.none _)
      | (with_reducible refine LeO.ite ?_ ?_)
      | (with_reducible refine LeO.bind ?_ (fun _ => ?_))
      | exact book_Name.mono _ _
      | exact LeO.none _
      | refine LeO.ite ?_ ?_
      | refine LeO.bind ?_ (fun _ => ?_)
set_option maxHeartbeats 8000000 in
set_option maxRecDepth 100000 in
theorem book_Task_right.calls (k : Nat) (a0_0 : ByteArray) (a0_1 : Int) (a0_2 : Int) (a0_3 : Int) (a0_4 : Int) (a0_5 : Int) (a0_6 : Int) (a0_7 : Int) (r : Bool) (w : World) (h : book_Task_right.f k a0_0 a0_1 a0_2 a0_3 a0_4 a0_5 a0_6 a0_7 = some r) :
    Calls Tryz.prog 101 #[.agg #[.string a0_0, .int .i64 a0_1, .int .i64 a0_2, .int .i64 a0_3, .int .i64 a0_4, .int .i64 a0_5, .int .i64 a0_6, .int .i64 a0_7]] w fun e w' => e = .returned (.bool r) ∧ Below w.heap.size w w' := by
 unfold book_Task_right.f at h
 have H := Aside0.mk h
 clear h
 have HB := Aside0.mk (Below.refl w.heap.size w)
 have hu109 := Tryz.underlying109
 go_enter Tryz.func101, Tryz.ntmps101
 have BK25 := Aside0.mk (pe_box0 w #[.string a0_0, .int .i64 a0_1, .int .i64 a0_2, .int .i64 a0_3, .int .i64 a0_4, .int .i64 a0_5, .int .i64 a0_6, .int .i64 a0_7] 109)
 replace HB := Aside0.mk (below_alloc HB.out (.cells #[.string a0_0, .int .i64 a0_1, .int .i64 a0_2, .int .i64 a0_3, .int .i64 a0_4, .int .i64 a0_5, .int .i64 a0_6, .int .i64 a0_7] 109))
 obtain ⟨t114, q26, H1⟩ := Option.bind_eq_some_iff.mp H.out
 replace H := Aside0.mk H1
 replace q26 := Aside0.mk q26
 clear H1
 go_wp2_with fail
 (with_reducible refine (book_Name.calls k a0_0 t114 _  q26.out).mono ?_)
 clear q26
 rintro e w27 ⟨rfl, hd⟩
 have hb := hd.below
 clear hd
 replace HB := Aside0.mk (below_step HB.out hb)
 replace BK25 := Aside0.mk (blk_below BK25.out hb)
 clear hb
 obtain ⟨hz28_25_0, hz28_25_1, hz28_25_2, hz28_25_3, hz28_25_4, hz28_25_5, hz28_25_6, hz28_25_7, hf28_25_0, hf28_25_1, hf28_25_2, hf28_25_3, hf28_25_4, hf28_25_5, hf28_25_6, hf28_25_7⟩ := blk8 BK25.out
 by_cases c29 : t114 = true
 · have H1 := H.out
   rw [if_pos c29] at H1
   replace H := Aside0.mk H1
   clear H1
   subst c29
   obtain ⟨t115, q30, H1⟩ := Option.bind_eq_some_iff.mp H.out
   replace H := Aside0.mk H1
   replace q30 := Aside0.mk q30
   clear H1
   go_wp2_with fail
   (with_reducible refine (book_within.calls a0_1 0 4095 t115 _  q30.out).mono ?_)
   clear q30
   rintro e w31 ⟨rfl, hd⟩
   have hb := hd.below
   clear hd
   replace HB := Aside0.mk (below_step HB.out hb)
   replace BK25 := Aside0.mk (blk_below BK25.out hb)
   clear hb
   try clear hz28_25_0 hz28_25_1 hz28_25_2 hz28_25_3 hz28_25_4 hz28_25_5 hz28_25_6 hz28_25_7 hf28_25_0 hf28_25_1 hf28_25_2 hf28_25_3 hf28_25_4 hf28_25_5 hf28_25_6 hf28_25_7
   obtain ⟨hz32_25_0, hz32_25_1, hz32_25_2, hz32_25_3, hz32_25_4, hz32_25_5, hz32_25_6, hz32_25_7, hf32_25_0, hf32_25_1, hf32_25_2, hf32_25_3, hf32_25_4, hf32_25_5, hf32_25_6, hf32_25_7⟩ := blk8 BK25.out
   by_cases c33 : t115 = true
   · have H1 := H.out
     rw [if_pos c33] at H1
     replace H := Aside0.mk H1
     clear H1
     subst c33
     obtain ⟨t116, q34, H1⟩ := Option.bind_eq_some_iff.mp H.out
     replace H := Aside0.mk H1
     replace q34 := Aside0.mk q34
     clear H1
     go_wp2_with fail
     (with_reducible refine (book_within.calls a0_2 0 4096 t116 _  q34.out).mono ?_)
     clear q34
     rintro e w35 ⟨rfl, hd⟩
     have hb := hd.below
     clear hd
     replace HB := Aside0.mk (below_step HB.out hb)
     replace BK25 := Aside0.mk (blk_below BK25.out hb)
     clear hb
     try clear hz32_25_0 hz32_25_1 hz32_25_2 hz32_25_3 hz32_25_4 hz32_25_5 hz32_25_6 hz32_25_7 hf32_25_0 hf32_25_1 hf32_25_2 hf32_25_3 hf32_25_4 hf32_25_5 hf32_25_6 hf32_25_7
     obtain ⟨hz36_25_0, hz36_25_1, hz36_25_2, hz36_25_3, hz36_25_4, hz36_25_5, hz36_25_6, hz36_25_7, hf36_25_0, hf36_25_1, hf36_25_2, hf36_25_3, hf36_25_4, hf36_25_5, hf36_25_6, hf36_25_7⟩ := blk8 BK25.out
     by_cases c37 : t116 = true
     · have H1 := H.out
       rw [if_pos c37] at H1
       replace H := Aside0.mk H1
       clear H1
       subst c37
       obtain ⟨t117, q38, H1⟩ := Option.bind_eq_some_iff.mp H.out
       replace H := Aside0.mk H1
       replace q38 := Aside0.mk q38
       clear H1
       go_wp2_with fail
       (with_reducible refine (book_within.calls a0_3 1 63 t117 _  q38.out).mono ?_)
       clear q38
       rintro e w39 ⟨rfl, hd⟩
       have hb := hd.below
       clear hd
       replace HB := Aside0.mk (below_step HB.out hb)
       replace BK25 := Aside0.mk (blk_below BK25.out hb)
       clear hb
       try clear hz36_25_0 hz36_25_1 hz36_25_2 hz36_25_3 hz36_25_4 hz36_25_5 hz36_25_6 hz36_25_7 hf36_25_0 hf36_25_1 hf36_25_2 hf36_25_3 hf36_25_4 hf36_25_5 hf36_25_6 hf36_25_7
       obtain ⟨hz40_25_0, hz40_25_1, hz40_25_2, hz40_25_3, hz40_25_4, hz40_25_5, hz40_25_6, hz40_25_7, hf40_25_0, hf40_25_1, hf40_25_2, hf40_25_3, hf40_25_4, hf40_25_5, hf40_25_6, hf40_25_7⟩ := blk8 BK25.out
       by_cases c41 : t117 = true
       · have H1 := H.out
         rw [if_pos c41] at H1
         replace H := Aside0.mk H1
         clear H1
         subst c41
         obtain ⟨t118, q42, H1⟩ := Option.bind_eq_some_iff.mp H.out
         replace H := Aside0.mk H1
         replace q42 := Aside0.mk q42
         clear H1
         go_wp2_with fail
         (with_reducible refine (book_within.calls a0_4 0 1048576 t118 _  q42.out).mono ?_)
         clear q42
         rintro e w43 ⟨rfl, hd⟩
         have hb := hd.below
         clear hd
         replace HB := Aside0.mk (below_step HB.out hb)
         replace BK25 := Aside0.mk (blk_below BK25.out hb)
         clear hb
         try clear hz40_25_0 hz40_25_1 hz40_25_2 hz40_25_3 hz40_25_4 hz40_25_5 hz40_25_6 hz40_25_7 hf40_25_0 hf40_25_1 hf40_25_2 hf40_25_3 hf40_25_4 hf40_25_5 hf40_25_6 hf40_25_7
         obtain ⟨hz44_25_0, hz44_25_1, hz44_25_2, hz44_25_3, hz44_25_4, hz44_25_5, hz44_25_6, hz44_25_7, hf44_25_0, hf44_25_1, hf44_25_2, hf44_25_3, hf44_25_4, hf44_25_5, hf44_25_6, hf44_25_7⟩ := blk8 BK25.out
         by_cases c45 : t118 = true
         · have H1 := H.out
           rw [if_pos c45] at H1
           replace H := Aside0.mk H1
           clear H1
           subst c45
           obtain ⟨t119, q46, H1⟩ := Option.bind_eq_some_iff.mp H.out
           replace H := Aside0.mk H1
           replace q46 := Aside0.mk q46
           clear H1
           go_wp2_with fail
           (with_reducible refine (book_within.calls a0_5 0 1048576 t119 _  q46.out).mono ?_)
           clear q46
           rintro e w47 ⟨rfl, hd⟩
           have hb := hd.below
           clear hd
           replace HB := Aside0.mk (below_step HB.out hb)
           replace BK25 := Aside0.mk (blk_below BK25.out hb)
           clear hb
           try clear hz44_25_0 hz44_25_1 hz44_25_2 hz44_25_3 hz44_25_4 hz44_25_5 hz44_25_6 hz44_25_7 hf44_25_0 hf44_25_1 hf44_25_2 hf44_25_3 hf44_25_4 hf44_25_5 hf44_25_6 hf44_25_7
           obtain ⟨hz48_25_0, hz48_25_1, hz48_25_2, hz48_25_3, hz48_25_4, hz48_25_5, hz48_25_6, hz48_25_7, hf48_25_0, hf48_25_1, hf48_25_2, hf48_25_3, hf48_25_4, hf48_25_5, hf48_25_6, hf48_25_7⟩ := blk8 BK25.out
           by_cases c49 : t119 = true
           · have H1 := H.out
             rw [if_pos c49] at H1
             replace H := Aside0.mk H1
             clear H1
             subst c49
             obtain ⟨t120, q50, H1⟩ := Option.bind_eq_some_iff.mp H.out
             replace H := Aside0.mk H1
             replace q50 := Aside0.mk q50
             clear H1
             go_wp2_with fail
             (with_reducible refine (book_within.calls a0_6 0 1048576 t120 _  q50.out).mono ?_)
             clear q50
             rintro e w51 ⟨rfl, hd⟩
             have hb := hd.below
             clear hd
             replace HB := Aside0.mk (below_step HB.out hb)
             replace BK25 := Aside0.mk (blk_below BK25.out hb)
             clear hb
             try clear hz48_25_0 hz48_25_1 hz48_25_2 hz48_25_3 hz48_25_4 hz48_25_5 hz48_25_6 hz48_25_7 hf48_25_0 hf48_25_1 hf48_25_2 hf48_25_3 hf48_25_4 hf48_25_5 hf48_25_6 hf48_25_7
             obtain ⟨hz52_25_0, hz52_25_1, hz52_25_2, hz52_25_3, hz52_25_4, hz52_25_5, hz52_25_6, hz52_25_7, hf52_25_0, hf52_25_1, hf52_25_2, hf52_25_3, hf52_25_4, hf52_25_5, hf52_25_6, hf52_25_7⟩ := blk8 BK25.out
             by_cases c53 : t120 = true
             · have H1 := H.out
               rw [if_pos c53] at H1
               replace H := Aside0.mk H1
               clear H1
               subst c53
               obtain ⟨t121, q54, H1⟩ := Option.bind_eq_some_iff.mp H.out
               replace H := Aside0.mk H1
               replace q54 := Aside0.mk q54
               clear H1
               go_wp2_with fail
               (with_reducible refine (book_within.calls a0_7 0 1048576 t121 _  q54.out).mono ?_)
               clear q54
               rintro e w55 ⟨rfl, hd⟩
               have hb := hd.below
               clear hd
               replace HB := Aside0.mk (below_step HB.out hb)
               replace BK25 := Aside0.mk (blk_below BK25.out hb)
               clear hb
               try clear hz52_25_0 hz52_25_1 hz52_25_2 hz52_25_3 hz52_25_4 hz52_25_5 hz52_25_6 hz52_25_7 hf52_25_0 hf52_25_1 hf52_25_2 hf52_25_3 hf52_25_4 hf52_25_5 hf52_25_6 hf52_25_7
               obtain ⟨hz56_25_0, hz56_25_1, hz56_25_2, hz56_25_3, hz56_25_4, hz56_25_5, hz56_25_6, hz56_25_7, hf56_25_0, hf56_25_1, hf56_25_2, hf56_25_3, hf56_25_4, hf56_25_5, hf56_25_6, hf56_25_7⟩ := blk8 BK25.out
               obtain rfl := Option.some.inj H.out
               go_wp2
               go_ret
               exact ⟨by first | rfl | (simp; done) | (simp [*]; done), HB.out⟩
             · have H1 := H.out
               rw [if_neg c53] at H1
               replace H := Aside0.mk H1
               clear H1
               replace c53 := Bool.eq_false_iff.mpr c53
               subst c53
               obtain rfl := Option.some.inj H.out
               go_wp2
               go_ret
               exact ⟨by first | rfl | (simp; done) | (simp [*]; done), HB.out⟩
           · have H1 := H.out
             rw [if_neg c49] at H1
             replace H := Aside0.mk H1
             clear H1
             replace c49 := Bool.eq_false_iff.mpr c49
             subst c49
             obtain rfl := Option.some.inj H.out
             go_wp2
             go_ret
             exact ⟨by first | rfl | (simp; done) | (simp [*]; done), HB.out⟩
         · have H1 := H.out
           rw [if_neg c45] at H1
           replace H := Aside0.mk H1
           clear H1
           replace c45 := Bool.eq_false_iff.mpr c45
           subst c45
           obtain rfl := Option.some.inj H.out
           go_wp2
           go_ret
           exact ⟨by first | rfl | (simp; done) | (simp [*]; done), HB.out⟩
       · have H1 := H.out
         rw [if_neg c41] at H1
         replace H := Aside0.mk H1
         clear H1
         replace c41 := Bool.eq_false_iff.mpr c41
         subst c41
         obtain rfl := Option.some.inj H.out
         go_wp2
         go_ret
         exact ⟨by first | rfl | (simp; done) | (simp [*]; done), HB.out⟩
     · have H1 := H.out
       rw [if_neg c37] at H1
       replace H := Aside0.mk H1
       clear H1
       replace c37 := Bool.eq_false_iff.mpr c37
       subst c37
       obtain rfl := Option.some.inj H.out
       go_wp2
       go_ret
       exact ⟨by first | rfl | (simp; done) | (simp [*]; done), HB.out⟩
   · have H1 := H.out
     rw [if_neg c33] at H1
     replace H := Aside0.mk H1
     clear H1
     replace c33 := Bool.eq_false_iff.mpr c33
     subst c33
     obtain rfl := Option.some.inj H.out
     go_wp2
     go_ret
     exact ⟨by first | rfl | (simp; done) | (simp [*]; done), HB.out⟩
 · have H1 := H.out
   rw [if_neg c29] at H1
   replace H := Aside0.mk H1
   clear H1
   replace c29 := Bool.eq_false_iff.mpr c29
   subst c29
   obtain rfl := Option.some.inj H.out
   go_wp2
   go_ret
   exact ⟨by first | rfl | (simp; done) | (simp [*]; done), HB.out⟩

-- NOT PRINTED: function 141 (book_Lock_1)

/-! ### book_Partition_right_2: function 103 -/
def book_Partition_right_2.f (k : Nat) (a0_0 : ByteArray) (a0_1 : Int) : Option (Bool) := (book_Name.f k a0_0).bind fun t124 => (if t124 = true then ((book_within.f a0_1 1 63).bind fun t125 => (some t125)) else (some false))
theorem book_Partition_right_2.mono : ∀ a0 a1 k, LeO (book_Partition_right_2.f k a0 a1) (book_Partition_right_2.f (k + 1) a0 a1) := by
 intro a0 a1 k
 unfold book_Partition_right_2.f
 repeat' first
   | (with_reducible exact book_Name.mono _ _)
   | (with_reducible exact LeO.refl _)
   | (with_reducible exact LeO.none _)
   | (with_reducible refine LeO.ite ?_ ?_)
   | (with_reducible refine LeO.bind ?_ (fun _ => ?_))
   | exact book_Name.mono _ _
   | exact LeO.none _
   | refine LeO.ite ?_ ?_
   | refine LeO.bind ?_ (fun _ => ?_)
set_option maxHeartbeats 8000000 in
set_option maxRecDepth 100000 in
theorem book_Partition_right_2.calls (k : Nat) (a0_0 : ByteArray) (a0_1 : Int) (r : Bool) (w : World) (h : book_Partition_right_2.f k a0_0 a0_1 = some r) :
  Calls Tryz.prog 103 #[.agg #[.string a0_0, .int .i64 a0_1]] w fun e w' => e = .returned (.bool r) ∧ Below w.heap.size w w' := by
 have hu111 := Tryz.underlying111
 have HB := Aside0.mk (Below.refl w.heap.size w)
 have H : ((book_Name.f k a0_0).bind fun t124 => (if t124 = true then ((book_within.f a0_1 1 63).bind fun t125 => (some t125)) else (some false))) = some r := h
 clear h
 replace H := Option.bind_eq_some_iff.mp H
 obtain ⟨t124, A20, H⟩ := H
 replace H : (if t124 = true then ((book_within.f a0_1 1 63).bind fun t125 => (some t125)) else (some false)) = some r := H
 have A2 := Aside0.mk A20
 clear A20
 by_cases c3 : t124 = true
 ·
  subst c3
  have H1 : ((book_within.f a0_1 1 63).bind fun t125 => (some t125)) = some r := by rw [if_pos rfl] at H; exact H
  clear H
  have H := H1
  clear H1
  replace H := Option.bind_eq_some_iff.mp H
  obtain ⟨t125, A40, H⟩ := H
  replace H : (some t125) = some r := H
  have A4 := Aside0.mk A40
  clear A40
  obtain rfl := Option.some.inj H
  go_enter Tryz.func103, Tryz.ntmps103
  go_wp2_with (first | ((with_reducible refine gate_dst (N := 1) rfl ?_); refine box_event ?hg (N := 1) ?hd (cs := #[.string a0_0, .int .i64 a0_1]) (t := 111) ?hr ?_; (case hd => rfl); (case hg => rfl); (case hr => first | (go_simp; done) | (go_simp; rfl)); intro gb123 hg w5 hbox hb; have n0_ := Aside0.mk (below_step (by repeat (first | (with_reducible first | exact HB.out | apply below_alloc | apply pw_below_drewN | apply below_drew1) | exact HB.out)) hb); have n1_ := Aside0.mk (hbox); have n2_ := Aside0.mk ((by rw [hg]; exact (below_size (by repeat (first | (with_reducible first | exact HB.out | apply below_alloc | apply pw_below_drewN | apply below_drew1) | exact HB.out))) : w.heap.size ≤ gb123)); have n3_ := Aside0.mk ((by rw [hg]; exact (below_size (by repeat (first | (with_reducible first | exact HB.out | apply below_alloc | apply pw_below_drewN | apply below_drew1) | exact HB.out))) : w.heap.size ≤ gb123)); clear HB; have HB := n0_; have BK123 := n1_; have GW123 := n2_; have GE123 := n3_; clear n0_ n1_ n2_ n3_; clear hb hbox hg; obtain ⟨hcz6_0, hcz6_1, hfz6_0, hfz6_1⟩ := blk2 BK123.out) | ((with_reducible refine gate_callee (f := 10) rfl ?_); refine goesL_ (some 5) rfl rfl Tryz.func10 (by kernel_rfl) rfl #[.string a0_0] rfl (by (try simp only [List.map_toArray, List.map_cons, List.map_nil]); first | done | rfl | (simp only [List.length_drop, List.length_take]; rfl)) ?_; (with_reducible refine (book_Name.calls k a0_0 true _ A2.out).mono ?_); rintro e w' ⟨rfl, ⟨nd, rfl⟩⟩; refine ⟨_, rfl, ?_⟩) | (go_at_call 33; (with_reducible refine (book_within.calls a0_1 1 63 t125 _ A4.out).mono ?_); rintro e w' ⟨rfl, ⟨nd, rfl⟩⟩))
  go_ret
  exact ⟨by first | rfl | (simp [errW_none, errW_some] <;> rfl) | (simp [*, errW_none, errW_some] <;> rfl), by repeat (first | (with_reducible first | exact HB.out | apply below_alloc | apply pw_below_drewN | apply below_drew1 | refine below_set ?_ GE123.out) | exact HB.out)⟩
 ·
  replace c3 := Bool.eq_false_iff.mpr c3
  subst c3
  have H1 : (some false) = some r := by rw [if_neg (show ¬ (false = true) by decide)] at H; exact H
  clear H
  have H := H1
  clear H1
  obtain rfl := Option.some.inj H
  go_enter Tryz.func103, Tryz.ntmps103
  go_wp2_with (first | ((with_reducible refine gate_dst (N := 1) rfl ?_); refine box_event ?hg (N := 1) ?hd (cs := #[.string a0_0, .int .i64 a0_1]) (t := 111) ?hr ?_; (case hd => rfl); (case hg => rfl); (case hr => first | (go_simp; done) | (go_simp; rfl)); intro gb123 hg w7 hbox hb; have n0_ := Aside0.mk (below_step (by repeat (first | (with_reducible first | exact HB.out | apply below_alloc | apply pw_below_drewN | apply below_drew1) | exact HB.out)) hb); have n1_ := Aside0.mk (hbox); have n2_ := Aside0.mk ((by rw [hg]; exact (below_size (by repeat (first | (with_reducible first | exact HB.out | apply below_alloc | apply pw_below_drewN | apply below_drew1) | exact HB.out))) : w.heap.size ≤ gb123)); have n3_ := Aside0.mk ((by rw [hg]; exact (below_size (by repeat (first | (with_reducible first | exact HB.out | apply below_alloc | apply pw_below_drewN | apply below_drew1) | exact HB.out))) : w.heap.size ≤ gb123)); clear HB; have HB := n0_; have BK123 := n1_; have GW123 := n2_; have GE123 := n3_; clear n0_ n1_ n2_ n3_; clear hb hbox hg; obtain ⟨hcz8_0, hcz8_1, hfz8_0, hfz8_1⟩ := blk2 BK123.out) | ((with_reducible refine gate_callee (f := 10) rfl ?_); refine goesL_ (some 5) rfl rfl Tryz.func10 (by kernel_rfl) rfl #[.string a0_0] rfl (by (try simp only [List.map_toArray, List.map_cons, List.map_nil]); first | done | rfl | (simp only [List.length_drop, List.length_take]; rfl)) ?_; (with_reducible refine (book_Name.calls k a0_0 false _ A2.out).mono ?_); rintro e w' ⟨rfl, ⟨nd, rfl⟩⟩; refine ⟨_, rfl, ?_⟩))
  go_ret
  exact ⟨by first | rfl | (simp [errW_none, errW_some] <;> rfl) | (simp [*, errW_none, errW_some] <;> rfl), by repeat (first | (with_reducible first | exact HB.out | apply below_alloc | apply pw_below_drewN | apply below_drew1 | refine below_set ?_ GE123.out) | exact HB.out)⟩

-- NOT PRINTED: function 143 (book_Sema_1)

/-! ### book_Partition_right_3: function 105 -/
def book_Partition_right_3.f (k : Nat) (a0_0 : ByteArray) (a0_1 : Int) (a0_2 : Int) (a0_3 : Bool) : Option (Bool) := (book_Name.f k a0_0).bind fun t128 => (if t128 = true then ((book_within.f a0_1 0 65535).bind fun t129 => (if t129 = true then ((book_within.f a0_2 1 65535).bind fun t130 => (some t130)) else (some false))) else (some false))
theorem book_Partition_right_3.mono : ∀ a0 a1 a2 a3 k, LeO (book_Partition_right_3.f k a0 a1 a2 a3) (book_Partition_right_3.f (k + 1) a0 a1 a2 a3) := by
  intro a0 a1 a2 a3 k
  unfold book_Partition_right_3.f
  repeat' first
      | (with_reducible exact book_Name.mono _ _)
      | (with_reducible exact LeO.refl _)
      | (with_reducible exact LeO.none _)
      | (with_reducible refine LeO.ite ?_ ?_)
      | (with_reducible refine LeO.bind ?_ (fun _ => ?_))
      | exact book_Name.mono _ _
      | exact LeO.none _
      | refine LeO.ite ?_ ?_
      | refine LeO.bind ?_ (fun _ => ?_)
set_option maxHeartbeats 8000000 in
set_option maxRecDepth 100000 in
theorem book_Partition_right_3.calls (k : Nat) (a0_0 : ByteArray) (a0_1 : Int) (a0_2 : Int) (a0_3 : Bool) (r : Bool) (w : World) (h : book_Partition_right_3.f k a0_0 a0_1 a0_2 a0_3 = some r) :
    Calls Tryz.prog 105 #[.agg #[.string a0_0, .int .i64 a0_1, .int .i64 a0_2, .bool a0_3]] w fun e w' => e = .returned (.bool r) ∧ Below w.heap.size w w' := by
 unfold book_Partition_right_3.f at h
 have H := Aside0.mk h
 clear h
 have HB := Aside0.mk (Below.refl w.heap.size w)
 have hu113 := Tryz.underlying113
 go_enter Tryz.func105, Tryz.ntmps105
 have BK57 := Aside0.mk (pe_box0 w #[.string a0_0, .int .i64 a0_1, .int .i64 a0_2, .bool a0_3] 113)
 replace HB := Aside0.mk (below_alloc HB.out (.cells #[.string a0_0, .int .i64 a0_1, .int .i64 a0_2, .bool a0_3] 113))
 obtain ⟨t128, q58, H1⟩ := Option.bind_eq_some_iff.mp H.out
 replace H := Aside0.mk H1
 replace q58 := Aside0.mk q58
 clear H1
 go_wp2_with fail
 (with_reducible refine (book_Name.calls k a0_0 t128 _  q58.out).mono ?_)
 clear q58
 rintro e w59 ⟨rfl, hd⟩
 have hb := hd.below
 clear hd
 replace HB := Aside0.mk (below_step HB.out hb)
 replace BK57 := Aside0.mk (blk_below BK57.out hb)
 clear hb
 obtain ⟨hz60_57_0, hz60_57_1, hz60_57_2, hz60_57_3, hf60_57_0, hf60_57_1, hf60_57_2, hf60_57_3⟩ := blk4 BK57.out
 by_cases c61 : t128 = true
 · have H1 := H.out
   rw [if_pos c61] at H1
   replace H := Aside0.mk H1
   clear H1
   subst c61
   obtain ⟨t129, q62, H1⟩ := Option.bind_eq_some_iff.mp H.out
   replace H := Aside0.mk H1
   replace q62 := Aside0.mk q62
   clear H1
   go_wp2_with fail
   (with_reducible refine (book_within.calls a0_1 0 65535 t129 _  q62.out).mono ?_)
   clear q62
   rintro e w63 ⟨rfl, hd⟩
   have hb := hd.below
   clear hd
   replace HB := Aside0.mk (below_step HB.out hb)
   replace BK57 := Aside0.mk (blk_below BK57.out hb)
   clear hb
   try clear hz60_57_0 hz60_57_1 hz60_57_2 hz60_57_3 hf60_57_0 hf60_57_1 hf60_57_2 hf60_57_3
   obtain ⟨hz64_57_0, hz64_57_1, hz64_57_2, hz64_57_3, hf64_57_0, hf64_57_1, hf64_57_2, hf64_57_3⟩ := blk4 BK57.out
   by_cases c65 : t129 = true
   · have H1 := H.out
     rw [if_pos c65] at H1
     replace H := Aside0.mk H1
     clear H1
     subst c65
     obtain ⟨t130, q66, H1⟩ := Option.bind_eq_some_iff.mp H.out
     replace H := Aside0.mk H1
     replace q66 := Aside0.mk q66
     clear H1
     go_wp2_with fail
     (with_reducible refine (book_within.calls a0_2 1 65535 t130 _  q66.out).mono ?_)
     clear q66
     rintro e w67 ⟨rfl, hd⟩
     have hb := hd.below
     clear hd
     replace HB := Aside0.mk (below_step HB.out hb)
     replace BK57 := Aside0.mk (blk_below BK57.out hb)
     clear hb
     try clear hz64_57_0 hz64_57_1 hz64_57_2 hz64_57_3 hf64_57_0 hf64_57_1 hf64_57_2 hf64_57_3
     obtain ⟨hz68_57_0, hz68_57_1, hz68_57_2, hz68_57_3, hf68_57_0, hf68_57_1, hf68_57_2, hf68_57_3⟩ := blk4 BK57.out
     obtain rfl := Option.some.inj H.out
     go_wp2
     go_ret
     exact ⟨by first | rfl | (simp; done) | (simp [*]; done), HB.out⟩
   · have H1 := H.out
     rw [if_neg c65] at H1
     replace H := Aside0.mk H1
     clear H1
     replace c65 := Bool.eq_false_iff.mpr c65
     subst c65
     obtain rfl := Option.some.inj H.out
     go_wp2
     go_ret
     exact ⟨by first | rfl | (simp; done) | (simp [*]; done), HB.out⟩
 · have H1 := H.out
   rw [if_neg c61] at H1
   replace H := Aside0.mk H1
   clear H1
   replace c61 := Bool.eq_false_iff.mpr c61
   subst c61
   obtain rfl := Option.some.inj H.out
   go_wp2
   go_ret
   exact ⟨by first | rfl | (simp; done) | (simp [*]; done), HB.out⟩

-- NOT PRINTED: function 145 (book_Event_1)

/-! ### book_Partition_right_4: function 107 -/
def book_Partition_right_4.f (k : Nat) (a0_0 : ByteArray) : Option (Bool) := (book_Name.f k a0_0).bind fun t133 => (some t133)
theorem book_Partition_right_4.mono : ∀ a0 k, LeO (book_Partition_right_4.f k a0) (book_Partition_right_4.f (k + 1) a0) := by
 intro a0 k
 unfold book_Partition_right_4.f
 repeat' first
   | (with_reducible exact book_Name.mono _ _)
   | (with_reducible exact LeO.refl _)
   | (with_reducible exact LeO.none _)
   | (with_reducible refine LeO.ite ?_ ?_)
   | (with_reducible refine LeO.bind ?_ (fun _ => ?_))
   | exact book_Name.mono _ _
   | exact LeO.none _
   | refine LeO.ite ?_ ?_
   | refine LeO.bind ?_ (fun _ => ?_)
set_option maxHeartbeats 8000000 in
set_option maxRecDepth 100000 in
theorem book_Partition_right_4.calls (k : Nat) (a0_0 : ByteArray) (r : Bool) (w : World) (h : book_Partition_right_4.f k a0_0 = some r) :
  Calls Tryz.prog 107 #[.agg #[.string a0_0]] w fun e w' => e = .returned (.bool r) ∧ Below w.heap.size w w' := by
 have hu115 := Tryz.underlying115
 have HB := Aside0.mk (Below.refl w.heap.size w)
 have H : ((book_Name.f k a0_0).bind fun t133 => (some t133)) = some r := h
 clear h
 replace H := Option.bind_eq_some_iff.mp H
 obtain ⟨t133, A20, H⟩ := H
 replace H : (some t133) = some r := H
 have A2 := Aside0.mk A20
 clear A20
 obtain rfl := Option.some.inj H
 go_enter Tryz.func107, Tryz.ntmps107
 go_wp2_with (first | ((with_reducible refine gate_dst (N := 1) rfl ?_); refine box_event ?hg (N := 1) ?hd (cs := #[.string a0_0]) (t := 115) ?hr ?_; (case hd => rfl); (case hg => rfl); (case hr => first | (go_simp; done) | (go_simp; rfl)); intro gb132 hg w3 hbox hb; have n0_ := Aside0.mk (below_step (by repeat (first | (with_reducible first | exact HB.out | apply below_alloc | apply pw_below_drewN | apply below_drew1) | exact HB.out)) hb); have n1_ := Aside0.mk (hbox); have n2_ := Aside0.mk ((by rw [hg]; exact (below_size (by repeat (first | (with_reducible first | exact HB.out | apply below_alloc | apply pw_below_drewN | apply below_drew1) | exact HB.out))) : w.heap.size ≤ gb132)); have n3_ := Aside0.mk ((by rw [hg]; exact (below_size (by repeat (first | (with_reducible first | exact HB.out | apply below_alloc | apply pw_below_drewN | apply below_drew1) | exact HB.out))) : w.heap.size ≤ gb132)); clear HB; have HB := n0_; have BK132 := n1_; have GW132 := n2_; have GE132 := n3_; clear n0_ n1_ n2_ n3_; clear hb hbox hg; have hcz4_0 : w3.cell? ⟨gb132, 0, none⟩ = some (.string a0_0) := (blk_cell BK132.out 0).trans rfl; have hfz4_0 := blk_frozen BK132.out 0) | ((with_reducible refine gate_callee (f := 10) rfl ?_); refine goesL_ (some 5) rfl rfl Tryz.func10 (by kernel_rfl) rfl #[.string a0_0] rfl (by (try simp only [List.map_toArray, List.map_cons, List.map_nil]); first | done | rfl | (simp only [List.length_drop, List.length_take]; rfl)) ?_; (with_reducible refine (book_Name.calls k a0_0 t133 _ A2.out).mono ?_); rintro e w' ⟨rfl, ⟨nd, rfl⟩⟩; refine ⟨_, rfl, ?_⟩))
 go_ret
 exact ⟨by first | rfl | (simp [errW_none, errW_some] <;> rfl) | (simp [*, errW_none, errW_some] <;> rfl), by repeat (first | (with_reducible first | exact HB.out | apply below_alloc | apply pw_below_drewN | apply below_drew1 | refine below_set ?_ GE132.out) | exact HB.out)⟩

-- NOT PRINTED: function 147 (book_Board_1)

/-! ### book_Partition_right_5: function 109 -/
def book_Partition_right_5.f (k : Nat) (a0_0 : ByteArray) (a0_1 : Int) : Option (Bool) := (book_Name.f k a0_0).bind fun t136 => (if t136 = true then ((book_within.f a0_1 1 32).bind fun t137 => (some t137)) else (some false))
theorem book_Partition_right_5.mono : ∀ a0 a1 k, LeO (book_Partition_right_5.f k a0 a1) (book_Partition_right_5.f (k + 1) a0 a1) := by
 intro a0 a1 k
 unfold book_Partition_right_5.f
 repeat' first
   | (with_reducible exact book_Name.mono _ _)
   | (with_reducible exact LeO.refl _)
   | (with_reducible exact LeO.none _)
   | (with_reducible refine LeO.ite ?_ ?_)
   | (with_reducible refine LeO.bind ?_ (fun _ => ?_))
   | exact book_Name.mono _ _
   | exact LeO.none _
   | refine LeO.ite ?_ ?_
   | refine LeO.bind ?_ (fun _ => ?_)
set_option maxHeartbeats 8000000 in
set_option maxRecDepth 100000 in
theorem book_Partition_right_5.calls (k : Nat) (a0_0 : ByteArray) (a0_1 : Int) (r : Bool) (w : World) (h : book_Partition_right_5.f k a0_0 a0_1 = some r) :
  Calls Tryz.prog 109 #[.agg #[.string a0_0, .int .i64 a0_1]] w fun e w' => e = .returned (.bool r) ∧ Below w.heap.size w w' := by
 have hu117 := Tryz.underlying117
 have HB := Aside0.mk (Below.refl w.heap.size w)
 have H : ((book_Name.f k a0_0).bind fun t136 => (if t136 = true then ((book_within.f a0_1 1 32).bind fun t137 => (some t137)) else (some false))) = some r := h
 clear h
 replace H := Option.bind_eq_some_iff.mp H
 obtain ⟨t136, A20, H⟩ := H
 replace H : (if t136 = true then ((book_within.f a0_1 1 32).bind fun t137 => (some t137)) else (some false)) = some r := H
 have A2 := Aside0.mk A20
 clear A20
 by_cases c3 : t136 = true
 ·
  subst c3
  have H1 : ((book_within.f a0_1 1 32).bind fun t137 => (some t137)) = some r := by rw [if_pos rfl] at H; exact H
  clear H
  have H := H1
  clear H1
  replace H := Option.bind_eq_some_iff.mp H
  obtain ⟨t137, A40, H⟩ := H
  replace H : (some t137) = some r := H
  have A4 := Aside0.mk A40
  clear A40
  obtain rfl := Option.some.inj H
  go_enter Tryz.func109, Tryz.ntmps109
  go_wp2_with (first | ((with_reducible refine gate_dst (N := 1) rfl ?_); refine box_event ?hg (N := 1) ?hd (cs := #[.string a0_0, .int .i64 a0_1]) (t := 117) ?hr ?_; (case hd => rfl); (case hg => rfl); (case hr => first | (go_simp; done) | (go_simp; rfl)); intro gb135 hg w5 hbox hb; have n0_ := Aside0.mk (below_step (by repeat (first | (with_reducible first | exact HB.out | apply below_alloc | apply pw_below_drewN | apply below_drew1) | exact HB.out)) hb); have n1_ := Aside0.mk (hbox); have n2_ := Aside0.mk ((by rw [hg]; exact (below_size (by repeat (first | (with_reducible first | exact HB.out | apply below_alloc | apply pw_below_drewN | apply below_drew1) | exact HB.out))) : w.heap.size ≤ gb135)); have n3_ := Aside0.mk ((by rw [hg]; exact (below_size (by repeat (first | (with_reducible first | exact HB.out | apply below_alloc | apply pw_below_drewN | apply below_drew1) | exact HB.out))) : w.heap.size ≤ gb135)); clear HB; have HB := n0_; have BK135 := n1_; have GW135 := n2_; have GE135 := n3_; clear n0_ n1_ n2_ n3_; clear hb hbox hg; obtain ⟨hcz6_0, hcz6_1, hfz6_0, hfz6_1⟩ := blk2 BK135.out) | ((with_reducible refine gate_callee (f := 10) rfl ?_); refine goesL_ (some 5) rfl rfl Tryz.func10 (by kernel_rfl) rfl #[.string a0_0] rfl (by (try simp only [List.map_toArray, List.map_cons, List.map_nil]); first | done | rfl | (simp only [List.length_drop, List.length_take]; rfl)) ?_; (with_reducible refine (book_Name.calls k a0_0 true _ A2.out).mono ?_); rintro e w' ⟨rfl, ⟨nd, rfl⟩⟩; refine ⟨_, rfl, ?_⟩) | (go_at_call 33; (with_reducible refine (book_within.calls a0_1 1 32 t137 _ A4.out).mono ?_); rintro e w' ⟨rfl, ⟨nd, rfl⟩⟩))
  go_ret
  exact ⟨by first | rfl | (simp [errW_none, errW_some] <;> rfl) | (simp [*, errW_none, errW_some] <;> rfl), by repeat (first | (with_reducible first | exact HB.out | apply below_alloc | apply pw_below_drewN | apply below_drew1 | refine below_set ?_ GE135.out) | exact HB.out)⟩
 ·
  replace c3 := Bool.eq_false_iff.mpr c3
  subst c3
  have H1 : (some false) = some r := by rw [if_neg (show ¬ (false = true) by decide)] at H; exact H
  clear H
  have H := H1
  clear H1
  obtain rfl := Option.some.inj H
  go_enter Tryz.func109, Tryz.ntmps109
  go_wp2_with (first | ((with_reducible refine gate_dst (N := 1) rfl ?_); refine box_event ?hg (N := 1) ?hd (cs := #[.string a0_0, .int .i64 a0_1]) (t := 117) ?hr ?_; (case hd => rfl); (case hg => rfl); (case hr => first | (go_simp; done) | (go_simp; rfl)); intro gb135 hg w7 hbox hb; have n0_ := Aside0.mk (below_step (by repeat (first | (with_reducible first | exact HB.out | apply below_alloc | apply pw_below_drewN | apply below_drew1) | exact HB.out)) hb); have n1_ := Aside0.mk (hbox); have n2_ := Aside0.mk ((by rw [hg]; exact (below_size (by repeat (first | (with_reducible first | exact HB.out | apply below_alloc | apply pw_below_drewN | apply below_drew1) | exact HB.out))) : w.heap.size ≤ gb135)); have n3_ := Aside0.mk ((by rw [hg]; exact (below_size (by repeat (first | (with_reducible first | exact HB.out | apply below_alloc | apply pw_below_drewN | apply below_drew1) | exact HB.out))) : w.heap.size ≤ gb135)); clear HB; have HB := n0_; have BK135 := n1_; have GW135 := n2_; have GE135 := n3_; clear n0_ n1_ n2_ n3_; clear hb hbox hg; obtain ⟨hcz8_0, hcz8_1, hfz8_0, hfz8_1⟩ := blk2 BK135.out) | ((with_reducible refine gate_callee (f := 10) rfl ?_); refine goesL_ (some 5) rfl rfl Tryz.func10 (by kernel_rfl) rfl #[.string a0_0] rfl (by (try simp only [List.map_toArray, List.map_cons, List.map_nil]); first | done | rfl | (simp only [List.length_drop, List.length_take]; rfl)) ?_; (with_reducible refine (book_Name.calls k a0_0 false _ A2.out).mono ?_); rintro e w' ⟨rfl, ⟨nd, rfl⟩⟩; refine ⟨_, rfl, ?_⟩))
  go_ret
  exact ⟨by first | rfl | (simp [errW_none, errW_some] <;> rfl) | (simp [*, errW_none, errW_some] <;> rfl), by repeat (first | (with_reducible first | exact HB.out | apply below_alloc | apply pw_below_drewN | apply below_drew1 | refine below_set ?_ GE135.out) | exact HB.out)⟩

-- NOT PRINTED: function 149 (book_Buffer_1)

/-! ### book_Partition_right_6: function 111 -/
def book_Partition_right_6.f (k : Nat) (a0_0 : ByteArray) (a0_1 : Int) (a0_2 : Int) (a0_3 : Bool) : Option (Bool) := (book_Name.f k a0_0).bind fun t140 => (if t140 = true then ((book_within.f a0_1 1 32).bind fun t141 => (if t141 = true then ((book_within.f a0_2 1 32).bind fun t142 => (some t142)) else (some false))) else (some false))
theorem book_Partition_right_6.mono : ∀ a0 a1 a2 a3 k, LeO (book_Partition_right_6.f k a0 a1 a2 a3) (book_Partition_right_6.f (k + 1) a0 a1 a2 a3) := by
  intro a0 a1 a2 a3 k
  unfold book_Partition_right_6.f
  repeat' first
      | (with_reducible exact book_Name.mono _ _)
      | (with_reducible exact LeO.refl _)
      | (with_reducible exact LeO.none _)
      | (with_reducible refine LeO.ite ?_ ?_)
      | (with_reducible refine LeO.bind ?_ (fun _ => ?_))
      | exact book_Name.mono _ _
      | exact LeO.none _
      | refine LeO.ite ?_ ?_
      | refine LeO.bind ?_ (fun _ => ?_)
set_option maxHeartbeats 8000000 in
set_option maxRecDepth 100000 in
theorem book_Partition_right_6.calls (k : Nat) (a0_0 : ByteArray) (a0_1 : Int) (a0_2 : Int) (a0_3 : Bool) (r : Bool) (w : World) (h : book_Partition_right_6.f k a0_0 a0_1 a0_2 a0_3 = some r) :
    Calls Tryz.prog 111 #[.agg #[.string a0_0, .int .i64 a0_1, .int .i64 a0_2, .bool a0_3]] w fun e w' => e = .returned (.bool r) ∧ Below w.heap.size w w' := by
 unfold book_Partition_right_6.f at h
 have H := Aside0.mk h
 clear h
 have HB := Aside0.mk (Below.refl w.heap.size w)
 have hu119 := Tryz.underlying119
 go_enter Tryz.func111, Tryz.ntmps111
 have BK69 := Aside0.mk (pe_box0 w #[.string a0_0, .int .i64 a0_1, .int .i64 a0_2, .bool a0_3] 119)
 replace HB := Aside0.mk (below_alloc HB.out (.cells #[.string a0_0, .int .i64 a0_1, .int .i64 a0_2, .bool a0_3] 119))
 obtain ⟨t140, q70, H1⟩ := Option.bind_eq_some_iff.mp H.out
 replace H := Aside0.mk H1
 replace q70 := Aside0.mk q70
 clear H1
 go_wp2_with fail
 (with_reducible refine (book_Name.calls k a0_0 t140 _  q70.out).mono ?_)
 clear q70
 rintro e w71 ⟨rfl, hd⟩
 have hb := hd.below
 clear hd
 replace HB := Aside0.mk (below_step HB.out hb)
 replace BK69 := Aside0.mk (blk_below BK69.out hb)
 clear hb
 obtain ⟨hz72_69_0, hz72_69_1, hz72_69_2, hz72_69_3, hf72_69_0, hf72_69_1, hf72_69_2, hf72_69_3⟩ := blk4 BK69.out
 by_cases c73 : t140 = true
 · have H1 := H.out
   rw [if_pos c73] at H1
   replace H := Aside0.mk H1
   clear H1
   subst c73
   obtain ⟨t141, q74, H1⟩ := Option.bind_eq_some_iff.mp H.out
   replace H := Aside0.mk H1
   replace q74 := Aside0.mk q74
   clear H1
   go_wp2_with fail
   (with_reducible refine (book_within.calls a0_1 1 32 t141 _  q74.out).mono ?_)
   clear q74
   rintro e w75 ⟨rfl, hd⟩
   have hb := hd.below
   clear hd
   replace HB := Aside0.mk (below_step HB.out hb)
   replace BK69 := Aside0.mk (blk_below BK69.out hb)
   clear hb
   try clear hz72_69_0 hz72_69_1 hz72_69_2 hz72_69_3 hf72_69_0 hf72_69_1 hf72_69_2 hf72_69_3
   obtain ⟨hz76_69_0, hz76_69_1, hz76_69_2, hz76_69_3, hf76_69_0, hf76_69_1, hf76_69_2, hf76_69_3⟩ := blk4 BK69.out
   by_cases c77 : t141 = true
   · have H1 := H.out
     rw [if_pos c77] at H1
     replace H := Aside0.mk H1
     clear H1
     subst c77
     obtain ⟨t142, q78, H1⟩ := Option.bind_eq_some_iff.mp H.out
     replace H := Aside0.mk H1
     replace q78 := Aside0.mk q78
     clear H1
     go_wp2_with fail
     (with_reducible refine (book_within.calls a0_2 1 32 t142 _  q78.out).mono ?_)
     clear q78
     rintro e w79 ⟨rfl, hd⟩
     have hb := hd.below
     clear hd
     replace HB := Aside0.mk (below_step HB.out hb)
     replace BK69 := Aside0.mk (blk_below BK69.out hb)
     clear hb
     try clear hz76_69_0 hz76_69_1 hz76_69_2 hz76_69_3 hf76_69_0 hf76_69_1 hf76_69_2 hf76_69_3
     obtain ⟨hz80_69_0, hz80_69_1, hz80_69_2, hz80_69_3, hf80_69_0, hf80_69_1, hf80_69_2, hf80_69_3⟩ := blk4 BK69.out
     obtain rfl := Option.some.inj H.out
     go_wp2
     go_ret
     exact ⟨by first | rfl | (simp; done) | (simp [*]; done), HB.out⟩
   · have H1 := H.out
     rw [if_neg c77] at H1
     replace H := Aside0.mk H1
     clear H1
     replace c77 := Bool.eq_false_iff.mpr c77
     subst c77
     obtain rfl := Option.some.inj H.out
     go_wp2
     go_ret
     exact ⟨by first | rfl | (simp; done) | (simp [*]; done), HB.out⟩
 · have H1 := H.out
   rw [if_neg c73] at H1
   replace H := Aside0.mk H1
   clear H1
   replace c73 := Bool.eq_false_iff.mpr c73
   subst c73
   obtain rfl := Option.some.inj H.out
   go_wp2
   go_ret
   exact ⟨by first | rfl | (simp; done) | (simp [*]; done), HB.out⟩

-- NOT PRINTED: function 151 (book_Port_1)

/-! ### book_Partition_right_7: function 113 -/
def book_Partition_right_7.f (k : Nat) (a0_0 : ByteArray) (a0_1 : Bool) (a0_2 : Bool) (a0_3 : Int) (a0_4 : Int) (a0_5 : Int) : Option (Bool) := (book_Name.f k a0_0).bind fun t145 => (if t145 = true then ((book_within.f a0_3 1 32).bind fun t146 => (if t146 = true then ((book_within.f a0_4 0 32).bind fun t147 => (if t147 = true then ((book_within.f a0_5 0 1048576).bind fun t148 => (some t148)) else (some false))) else (some false))) else (some false))
theorem book_Partition_right_7.mono : ∀ a0 a1 a2 a3 a4 a5 k, LeO (book_Partition_right_7.f k a0 a1 a2 a3 a4 a5) (book_Partition_right_7.f (k + 1) a0 a1 a2 a3 a4 a5) := by
  intro a0 a1 a2 a3 a4 a5 k
  unfold book_Partition_right_7.f
  repeat' first
      | (with_reducible exact book_Name.mono _ _)
      | (with_reducible exact LeO.refl _)
      | (with_reducible exact LeO.none _)
      | (with_reducible refine LeO.ite ?_ ?_)
      | (with_reducible refine LeO.bind ?_ (fun _ => ?_))
      | exact book_Name.mono _ _
      | exact LeO.none _
      | refine LeO.ite ?_ ?_
      | refine LeO.bind ?_ (fun _ => ?_)
set_option maxHeartbeats 8000000 in
set_option maxRecDepth 100000 in
theorem book_Partition_right_7.calls (k : Nat) (a0_0 : ByteArray) (a0_1 : Bool) (a0_2 : Bool) (a0_3 : Int) (a0_4 : Int) (a0_5 : Int) (r : Bool) (w : World) (h : book_Partition_right_7.f k a0_0 a0_1 a0_2 a0_3 a0_4 a0_5 = some r) :
    Calls Tryz.prog 113 #[.agg #[.string a0_0, .bool a0_1, .bool a0_2, .int .i64 a0_3, .int .i64 a0_4, .int .i64 a0_5]] w fun e w' => e = .returned (.bool r) ∧ Below w.heap.size w w' := by
 unfold book_Partition_right_7.f at h
 have H := Aside0.mk h
 clear h
 have HB := Aside0.mk (Below.refl w.heap.size w)
 have hu60 := Tryz.underlying60
 go_enter Tryz.func113, Tryz.ntmps113
 have BK81 := Aside0.mk (pe_box0 w #[.string a0_0, .bool a0_1, .bool a0_2, .int .i64 a0_3, .int .i64 a0_4, .int .i64 a0_5] 60)
 replace HB := Aside0.mk (below_alloc HB.out (.cells #[.string a0_0, .bool a0_1, .bool a0_2, .int .i64 a0_3, .int .i64 a0_4, .int .i64 a0_5] 60))
 obtain ⟨t145, q82, H1⟩ := Option.bind_eq_some_iff.mp H.out
 replace H := Aside0.mk H1
 replace q82 := Aside0.mk q82
 clear H1
 go_wp2_with fail
 (with_reducible refine (book_Name.calls k a0_0 t145 _  q82.out).mono ?_)
 clear q82
 rintro e w83 ⟨rfl, hd⟩
 have hb := hd.below
 clear hd
 replace HB := Aside0.mk (below_step HB.out hb)
 replace BK81 := Aside0.mk (blk_below BK81.out hb)
 clear hb
 obtain ⟨hz84_81_0, hz84_81_1, hz84_81_2, hz84_81_3, hz84_81_4, hz84_81_5, hf84_81_0, hf84_81_1, hf84_81_2, hf84_81_3, hf84_81_4, hf84_81_5⟩ := blk6 BK81.out
 by_cases c85 : t145 = true
 · have H1 := H.out
   rw [if_pos c85] at H1
   replace H := Aside0.mk H1
   clear H1
   subst c85
   obtain ⟨t146, q86, H1⟩ := Option.bind_eq_some_iff.mp H.out
   replace H := Aside0.mk H1
   replace q86 := Aside0.mk q86
   clear H1
   go_wp2_with fail
   (with_reducible refine (book_within.calls a0_3 1 32 t146 _  q86.out).mono ?_)
   clear q86
   rintro e w87 ⟨rfl, hd⟩
   have hb := hd.below
   clear hd
   replace HB := Aside0.mk (below_step HB.out hb)
   replace BK81 := Aside0.mk (blk_below BK81.out hb)
   clear hb
   try clear hz84_81_0 hz84_81_1 hz84_81_2 hz84_81_3 hz84_81_4 hz84_81_5 hf84_81_0 hf84_81_1 hf84_81_2 hf84_81_3 hf84_81_4 hf84_81_5
   obtain ⟨hz88_81_0, hz88_81_1, hz88_81_2, hz88_81_3, hz88_81_4, hz88_81_5, hf88_81_0, hf88_81_1, hf88_81_2, hf88_81_3, hf88_81_4, hf88_81_5⟩ := blk6 BK81.out
   by_cases c89 : t146 = true
   · have H1 := H.out
     rw [if_pos c89] at H1
     replace H := Aside0.mk H1
     clear H1
     subst c89
     obtain ⟨t147, q90, H1⟩ := Option.bind_eq_some_iff.mp H.out
     replace H := Aside0.mk H1
     replace q90 := Aside0.mk q90
     clear H1
     go_wp2_with fail
     (with_reducible refine (book_within.calls a0_4 0 32 t147 _  q90.out).mono ?_)
     clear q90
     rintro e w91 ⟨rfl, hd⟩
     have hb := hd.below
     clear hd
     replace HB := Aside0.mk (below_step HB.out hb)
     replace BK81 := Aside0.mk (blk_below BK81.out hb)
     clear hb
     try clear hz88_81_0 hz88_81_1 hz88_81_2 hz88_81_3 hz88_81_4 hz88_81_5 hf88_81_0 hf88_81_1 hf88_81_2 hf88_81_3 hf88_81_4 hf88_81_5
     obtain ⟨hz92_81_0, hz92_81_1, hz92_81_2, hz92_81_3, hz92_81_4, hz92_81_5, hf92_81_0, hf92_81_1, hf92_81_2, hf92_81_3, hf92_81_4, hf92_81_5⟩ := blk6 BK81.out
     by_cases c93 : t147 = true
     · have H1 := H.out
       rw [if_pos c93] at H1
       replace H := Aside0.mk H1
       clear H1
       subst c93
       obtain ⟨t148, q94, H1⟩ := Option.bind_eq_some_iff.mp H.out
       replace H := Aside0.mk H1
       replace q94 := Aside0.mk q94
       clear H1
       go_wp2_with fail
       (with_reducible refine (book_within.calls a0_5 0 1048576 t148 _  q94.out).mono ?_)
       clear q94
       rintro e w95 ⟨rfl, hd⟩
       have hb := hd.below
       clear hd
       replace HB := Aside0.mk (below_step HB.out hb)
       replace BK81 := Aside0.mk (blk_below BK81.out hb)
       clear hb
       try clear hz92_81_0 hz92_81_1 hz92_81_2 hz92_81_3 hz92_81_4 hz92_81_5 hf92_81_0 hf92_81_1 hf92_81_2 hf92_81_3 hf92_81_4 hf92_81_5
       obtain ⟨hz96_81_0, hz96_81_1, hz96_81_2, hz96_81_3, hz96_81_4, hz96_81_5, hf96_81_0, hf96_81_1, hf96_81_2, hf96_81_3, hf96_81_4, hf96_81_5⟩ := blk6 BK81.out
       obtain rfl := Option.some.inj H.out
       go_wp2
       go_ret
       exact ⟨by first | rfl | (simp; done) | (simp [*]; done), HB.out⟩
     · have H1 := H.out
       rw [if_neg c93] at H1
       replace H := Aside0.mk H1
       clear H1
       replace c93 := Bool.eq_false_iff.mpr c93
       subst c93
       obtain rfl := Option.some.inj H.out
       go_wp2
       go_ret
       exact ⟨by first | rfl | (simp; done) | (simp [*]; done), HB.out⟩
   · have H1 := H.out
     rw [if_neg c89] at H1
     replace H := Aside0.mk H1
     clear H1
     replace c89 := Bool.eq_false_iff.mpr c89
     subst c89
     obtain rfl := Option.some.inj H.out
     go_wp2
     go_ret
     exact ⟨by first | rfl | (simp; done) | (simp [*]; done), HB.out⟩
 · have H1 := H.out
   rw [if_neg c85] at H1
   replace H := Aside0.mk H1
   clear H1
   replace c85 := Bool.eq_false_iff.mpr c85
   subst c85
   obtain rfl := Option.some.inj H.out
   go_wp2
   go_ret
   exact ⟨by first | rfl | (simp; done) | (simp [*]; done), HB.out⟩

/-! ### book_Area_98__99: function 98 at book_Partition_right_1 -/
def book_Area_98__99.f (k : Nat) (l : List (S62)) (n : Int) : Option (Bool) := if (l.length : Int) ≤ n then (if l.length ≤ 140737488351232 then (allO (fun x => book_Partition_right_1.f k (x.f0) (x.f1) (x.f2) (x.f3) (x.f4) (x.f5)) l) else none) else (some false)
theorem book_Area_98__99.mono : ∀ a0 a1 k, LeO (book_Area_98__99.f k a0 a1) (book_Area_98__99.f (k + 1) a0 a1) := by
 intro a0 a1 k
 unfold book_Area_98__99.f
 exact LeO.ite (LeO.ite (allO_mono (fun x => book_Partition_right_1.mono _ _ _ _ _ _ k) a0) (LeO.refl _)) (LeO.refl _)
set_option maxHeartbeats 800000 in
set_option maxRecDepth 100000 in
theorem book_Area_98__99.c1 (k : Nat) (x : S62) (r : Bool) (g : Nat) (w : World) (hg : w.cell? ⟨g, 0, none⟩ = some (.func (.func 99) #[] #[])) (h : book_Partition_right_1.f k (x.f0) (x.f1) (x.f2) (x.f3) (x.f4) (x.f5) = some r) :
  Calls Tryz.prog 137 #[.agg #[.string (x.f0), .int .i64 (x.f1), .int .i64 (x.f2), .bool (x.f3), .bool (x.f4), .bool (x.f5)], .pointer (some ⟨g, 0, none⟩)] w fun e w' => e = .returned (.bool (!r)) ∧ Below w.heap.size w w' := by
 have hgl := World.block_lt_of_cell? w _ hg
 have HH := Aside0.mk h
 clear h
 have hgw : (w.alloc (.cells #[.string (x.f0), .int .i64 (x.f1), .int .i64 (x.f2), .bool (x.f3), .bool (x.f4), .bool (x.f5)] 62)).cell? ⟨g, 0, none⟩ = some (.func (.func 99) #[] #[]) := ((alloc_below0 w _).cell hgl).trans hg
 go_enter Tryz.func137, Tryz.ntmps137
 go_wp2_with fail
 refine (book_Partition_right_1.calls k (x.f0) (x.f1) (x.f2) (x.f3) (x.f4) (x.f5) r _ HH.out).mono ?_
 rintro e w' ⟨rfl, hb⟩
 go_wp2
 go_ret
 exact ⟨by simp, below_step (alloc_below0 w _) hb⟩
set_option maxHeartbeats 2000000 in
set_option maxRecDepth 100000 in
theorem book_Area_98__99.c2 (k : Nat) (A0 : Option Addr) (c0 : Nat) (l : List (S62)) (r : Bool) (g : Nat) (w : World) (hr0 : Kd.C k62 w A0 l.length l) (hL : l.length ≤ 140737488351232) (hg : w.cell? ⟨g, 0, none⟩ = some (.func (.func 99) #[] #[])) (h : allO (fun x => book_Partition_right_1.f k (x.f0) (x.f1) (x.f2) (x.f3) (x.f4) (x.f5)) l = some r) :
  Calls Tryz.prog 159 #[.slice A0 l.length c0, .func (.func 137) #[] #[.pointer (some ⟨g, 0, none⟩)]] w fun e w' => (∃ q : Int, e = .returned (.int .i64 q) ∧ Hid (decide (0 ≤ q) = !r)) ∧ Below w.heap.size w w' := by
 have hgl := World.block_lt_of_cell? w _ hg
 have HR0 := Aside0.mk hr0
 have HG := Aside0.mk hg
 have H0 : Aside0 (allO (fun x => book_Partition_right_1.f k (x.f0) (x.f1) (x.f2) (x.f3) (x.f4) (x.f5)) (l.drop 0) = some r) := ⟨by simpa using h⟩
 clear hr0 hg h
 go_enter Tryz.func159, Tryz.ntmps159
 go_wp2
 go_loopw [8] (fun v8 wr => ∃ j : Nat, v8 = .int .i64 (j : Int) ∧ j ≤ l.length ∧ Aside0 (allO (fun x => book_Partition_right_1.f k (x.f0) (x.f1) (x.f2) (x.f3) (x.f4) (x.f5)) (l.drop j) = some r) ∧ Aside0 (Below w.heap.size w wr)) (fun v8 _ => l.length - (intOf v8).toNat)
 case atStart => exact ⟨0, rfl, Nat.zero_le _, H0, ⟨Below.refl _ _⟩⟩
 case round =>
  clear H0
  obtain ⟨j, rfl, hj, HA, HB⟩ := hrel
  by_cases hlt : j < l.length
  ·
   have p7 : (0 : Int) ≤ (j : Int) := by omega
   have q7 : (j : Int) < (l.length : Int) := by omega
   obtain ⟨b, hb1, hb2, hb3⟩ := allO_cons hlt HA.out
   have HB1 := Aside0.mk hb1
   have HB2 := Aside0.mk hb2
   have HB3 := Aside0.mk hb3
   clear hb1 hb2 hb3
   obtain ⟨ad7, e7, hx7_0, hx7_1, hx7_2, hx7_3, hx7_4, hx7_5⟩ := at_T62 HR0.out (j : Int) p7 q7
   cases e7
   replace hx7_0 := (HB.out.cell (World.block_lt_of_cell? w _ hx7_0)).trans hx7_0
   replace hx7_1 := (HB.out.cell (World.block_lt_of_cell? w _ hx7_1)).trans hx7_1
   replace hx7_2 := (HB.out.cell (World.block_lt_of_cell? w _ hx7_2)).trans hx7_2
   replace hx7_3 := (HB.out.cell (World.block_lt_of_cell? w _ hx7_3)).trans hx7_3
   replace hx7_4 := (HB.out.cell (World.block_lt_of_cell? w _ hx7_4)).trans hx7_4
   replace hx7_5 := (HB.out.cell (World.block_lt_of_cell? w _ hx7_5)).trans hx7_5
   have EX : Aside0 (rd_T62 l (j : Int) = l[j]) := ⟨by show l.getD _ _ = _; rw [Int.toNat_natCast, List.getD_eq_getElem?_getD, List.getElem?_eq_getElem hlt, Option.getD_some]⟩
   clear p7 q7
   generalize rd_T62 l (j : Int) = x at *
   have HC : Aside0 (book_Partition_right_1.f k (x.f0) (x.f1) (x.f2) (x.f3) (x.f4) (x.f5) = some b) := ⟨by rw [EX.out]; exact HB1.out⟩
   clear HB1 EX
   simp only [Int.toNat_natCast] at *
   go_wp2_with fail
   refine (book_Area_98__99.c1 k x b g wr ((HB.out.cell hgl).trans HG.out) HC.out).mono ?_
   rintro e w9 ⟨rfl, hb⟩
   have HB9 : Aside0 (Below w.heap.size w w9) := ⟨below_step HB.out hb⟩
   clear hb HB
   cases b with
   | true =>
    go_wp2
    go_roundw
    case rel => exact ⟨j + 1, by go_num, by omega, ⟨HB2.out (by simp)⟩, HB9⟩
    case measure => simp [intOf]; omega
   | false =>
    go_wp2
    go_ret
    exact ⟨⟨_, rfl, by rw [HB3.out (by simp)]; show _ = _; simp⟩, HB9.out⟩
  ·
   obtain rfl : j = l.length := by omega
   have hr : r = true := by have := HA.out; rw [List.drop_length] at this; simpa [allO] using this.symm
   subst hr
   go_wp2
   go_ret
   exact ⟨⟨_, rfl, by show _ = _; simp⟩, HB.out⟩
set_option maxHeartbeats 800000 in
theorem book_Area_98__99.c3 (k : Nat) (A0 : Option Addr) (c0 : Nat) (l : List (S62)) (r : Bool) (g : Nat) (w : World) (hr0 : Kd.C k62 w A0 l.length l) (hL : l.length ≤ 140737488351232) (hg : w.cell? ⟨g, 0, none⟩ = some (.func (.func 99) #[] #[])) (h : allO (fun x => book_Partition_right_1.f k (x.f0) (x.f1) (x.f2) (x.f3) (x.f4) (x.f5)) l = some r) :
  Calls Tryz.prog 136 #[.slice A0 l.length c0, .func (.func 137) #[] #[.pointer (some ⟨g, 0, none⟩)]] w fun e w' => e = .returned (.bool (!r)) ∧ Below w.heap.size w w' := by
 have HC := book_Area_98__99.c2 k A0 c0 l r g w hr0 hL hg h
 clear hr0 hg h
 go_enter Tryz.func136, Tryz.ntmps136
 go_wp2_with fail
 refine HC.mono ?_
 clear HC
 rintro e w' ⟨⟨q, rfl, hq⟩, hb⟩
 go_wp2
 go_ret
 exact ⟨by rw [← hq.out]; rfl, hb⟩
set_option maxHeartbeats 800000 in
theorem book_Area_98__99.calls (k : Nat) (A0 : Option Addr) (c0 : Nat) (l0 : List (S62)) (a1 : Int) (r : Bool) (w : World) (hr0 : Kd.C k62 w A0 l0.length l0) (hc0 : l0.length ≤ c0) (h : book_Area_98__99.f k l0 a1 = some r) :
  Calls Tryz.prog 98 #[.slice A0 l0.length c0, .int .i64 a1, .func (.func 99) #[] #[]] w fun e w' => e = .returned (.bool r) ∧ Below w.heap.size w w' := by
 unfold book_Area_98__99.f at h
 have HR := Aside0.mk hr0
 clear hr0
 have hbw : Below w.heap.size w (w.alloc (.cells #[.func (.func 99) #[] #[]] 153)) := alloc_below0 w _
 by_cases hle : (l0.length : Int) ≤ a1
 ·
  rw [if_pos hle] at h
  obtain ⟨hL, h2⟩ := if_some h
  clear h
  have h := h2
  clear h2
  have hd : decide ((l0.length : Int) ≤ a1) = true := decide_eq_true hle
  have HC := book_Area_98__99.c3 k A0 c0 l0 r w.heap.size (w.alloc (.cells #[.func (.func 99) #[] #[]] 153)) (Kd.C_alloc HR.out _) hL (by simp) h
  have HB := Aside0.mk hbw
  clear h hle hbw
  go_enter Tryz.func98, Tryz.ntmps98
  go_wp2_with fail
  refine HC.mono ?_
  clear HC
  rintro e w' ⟨rfl, hb⟩
  go_wp2
  go_ret
  exact ⟨by simp, below_step HB.out hb⟩
 ·
  rw [if_neg hle] at h
  obtain rfl := Option.some.inj h
  have hd : decide ((l0.length : Int) ≤ a1) = false := decide_eq_false hle
  clear h hle
  go_enter Tryz.func98, Tryz.ntmps98
  go_wp2
  go_ret
  exact ⟨rfl, hbw⟩

/-! ### book_Task_100__101: function 100 at book_Task_right -/
def book_Task_100__101.f (k : Nat) (l : List (S109)) (n : Int) : Option (Bool) := if (l.length : Int) ≤ n then (if l.length ≤ 140737488351232 then (allO (fun x => book_Task_right.f k (x.f0) (x.f1) (x.f2) (x.f3) (x.f4) (x.f5) (x.f6) (x.f7)) l) else none) else (some false)
theorem book_Task_100__101.mono : ∀ a0 a1 k, LeO (book_Task_100__101.f k a0 a1) (book_Task_100__101.f (k + 1) a0 a1) := by
 intro a0 a1 k
 unfold book_Task_100__101.f
 exact LeO.ite (LeO.ite (allO_mono (fun x => book_Task_right.mono _ _ _ _ _ _ _ _ k) a0) (LeO.refl _)) (LeO.refl _)
set_option maxHeartbeats 800000 in
set_option maxRecDepth 100000 in
theorem book_Task_100__101.c1 (k : Nat) (x : S109) (r : Bool) (g : Nat) (w : World) (hg : w.cell? ⟨g, 0, none⟩ = some (.func (.func 101) #[] #[])) (h : book_Task_right.f k (x.f0) (x.f1) (x.f2) (x.f3) (x.f4) (x.f5) (x.f6) (x.f7) = some r) :
  Calls Tryz.prog 139 #[.agg #[.string (x.f0), .int .i64 (x.f1), .int .i64 (x.f2), .int .i64 (x.f3), .int .i64 (x.f4), .int .i64 (x.f5), .int .i64 (x.f6), .int .i64 (x.f7)], .pointer (some ⟨g, 0, none⟩)] w fun e w' => e = .returned (.bool (!r)) ∧ Below w.heap.size w w' := by
 have hgl := World.block_lt_of_cell? w _ hg
 have HH := Aside0.mk h
 clear h
 have hgw : (w.alloc (.cells #[.string (x.f0), .int .i64 (x.f1), .int .i64 (x.f2), .int .i64 (x.f3), .int .i64 (x.f4), .int .i64 (x.f5), .int .i64 (x.f6), .int .i64 (x.f7)] 109)).cell? ⟨g, 0, none⟩ = some (.func (.func 101) #[] #[]) := ((alloc_below0 w _).cell hgl).trans hg
 go_enter Tryz.func139, Tryz.ntmps139
 go_wp2_with fail
 refine (book_Task_right.calls k (x.f0) (x.f1) (x.f2) (x.f3) (x.f4) (x.f5) (x.f6) (x.f7) r _ HH.out).mono ?_
 rintro e w' ⟨rfl, hb⟩
 go_wp2
 go_ret
 exact ⟨by simp, below_step (alloc_below0 w _) hb⟩
set_option maxHeartbeats 2000000 in
set_option maxRecDepth 100000 in
theorem book_Task_100__101.c2 (k : Nat) (A0 : Option Addr) (c0 : Nat) (l : List (S109)) (r : Bool) (g : Nat) (w : World) (hr0 : Kd.C k109 w A0 l.length l) (hL : l.length ≤ 140737488351232) (hg : w.cell? ⟨g, 0, none⟩ = some (.func (.func 101) #[] #[])) (h : allO (fun x => book_Task_right.f k (x.f0) (x.f1) (x.f2) (x.f3) (x.f4) (x.f5) (x.f6) (x.f7)) l = some r) :
  Calls Tryz.prog 160 #[.slice A0 l.length c0, .func (.func 139) #[] #[.pointer (some ⟨g, 0, none⟩)]] w fun e w' => (∃ q : Int, e = .returned (.int .i64 q) ∧ Hid (decide (0 ≤ q) = !r)) ∧ Below w.heap.size w w' := by
 have hgl := World.block_lt_of_cell? w _ hg
 have HR0 := Aside0.mk hr0
 have HG := Aside0.mk hg
 have H0 : Aside0 (allO (fun x => book_Task_right.f k (x.f0) (x.f1) (x.f2) (x.f3) (x.f4) (x.f5) (x.f6) (x.f7)) (l.drop 0) = some r) := ⟨by simpa using h⟩
 clear hr0 hg h
 go_enter Tryz.func160, Tryz.ntmps160
 go_wp2
 go_loopw [8] (fun v8 wr => ∃ j : Nat, v8 = .int .i64 (j : Int) ∧ j ≤ l.length ∧ Aside0 (allO (fun x => book_Task_right.f k (x.f0) (x.f1) (x.f2) (x.f3) (x.f4) (x.f5) (x.f6) (x.f7)) (l.drop j) = some r) ∧ Aside0 (Below w.heap.size w wr)) (fun v8 _ => l.length - (intOf v8).toNat)
 case atStart => exact ⟨0, rfl, Nat.zero_le _, H0, ⟨Below.refl _ _⟩⟩
 case round =>
  clear H0
  obtain ⟨j, rfl, hj, HA, HB⟩ := hrel
  by_cases hlt : j < l.length
  ·
   have p7 : (0 : Int) ≤ (j : Int) := by omega
   have q7 : (j : Int) < (l.length : Int) := by omega
   obtain ⟨b, hb1, hb2, hb3⟩ := allO_cons hlt HA.out
   have HB1 := Aside0.mk hb1
   have HB2 := Aside0.mk hb2
   have HB3 := Aside0.mk hb3
   clear hb1 hb2 hb3
   obtain ⟨ad7, e7, hx7_0, hx7_1, hx7_2, hx7_3, hx7_4, hx7_5, hx7_6, hx7_7⟩ := at_T109 HR0.out (j : Int) p7 q7
   cases e7
   replace hx7_0 := (HB.out.cell (World.block_lt_of_cell? w _ hx7_0)).trans hx7_0
   replace hx7_1 := (HB.out.cell (World.block_lt_of_cell? w _ hx7_1)).trans hx7_1
   replace hx7_2 := (HB.out.cell (World.block_lt_of_cell? w _ hx7_2)).trans hx7_2
   replace hx7_3 := (HB.out.cell (World.block_lt_of_cell? w _ hx7_3)).trans hx7_3
   replace hx7_4 := (HB.out.cell (World.block_lt_of_cell? w _ hx7_4)).trans hx7_4
   replace hx7_5 := (HB.out.cell (World.block_lt_of_cell? w _ hx7_5)).trans hx7_5
   replace hx7_6 := (HB.out.cell (World.block_lt_of_cell? w _ hx7_6)).trans hx7_6
   replace hx7_7 := (HB.out.cell (World.block_lt_of_cell? w _ hx7_7)).trans hx7_7
   have EX : Aside0 (rd_T109 l (j : Int) = l[j]) := ⟨by show l.getD _ _ = _; rw [Int.toNat_natCast, List.getD_eq_getElem?_getD, List.getElem?_eq_getElem hlt, Option.getD_some]⟩
   clear p7 q7
   generalize rd_T109 l (j : Int) = x at *
   have HC : Aside0 (book_Task_right.f k (x.f0) (x.f1) (x.f2) (x.f3) (x.f4) (x.f5) (x.f6) (x.f7) = some b) := ⟨by rw [EX.out]; exact HB1.out⟩
   clear HB1 EX
   simp only [Int.toNat_natCast] at *
   go_wp2_with fail
   refine (book_Task_100__101.c1 k x b g wr ((HB.out.cell hgl).trans HG.out) HC.out).mono ?_
   rintro e w9 ⟨rfl, hb⟩
   have HB9 : Aside0 (Below w.heap.size w w9) := ⟨below_step HB.out hb⟩
   clear hb HB
   cases b with
   | true =>
    go_wp2
    go_roundw
    case rel => exact ⟨j + 1, by go_num, by omega, ⟨HB2.out (by simp)⟩, HB9⟩
    case measure => simp [intOf]; omega
   | false =>
    go_wp2
    go_ret
    exact ⟨⟨_, rfl, by rw [HB3.out (by simp)]; show _ = _; simp⟩, HB9.out⟩
  ·
   obtain rfl : j = l.length := by omega
   have hr : r = true := by have := HA.out; rw [List.drop_length] at this; simpa [allO] using this.symm
   subst hr
   go_wp2
   go_ret
   exact ⟨⟨_, rfl, by show _ = _; simp⟩, HB.out⟩
set_option maxHeartbeats 800000 in
theorem book_Task_100__101.c3 (k : Nat) (A0 : Option Addr) (c0 : Nat) (l : List (S109)) (r : Bool) (g : Nat) (w : World) (hr0 : Kd.C k109 w A0 l.length l) (hL : l.length ≤ 140737488351232) (hg : w.cell? ⟨g, 0, none⟩ = some (.func (.func 101) #[] #[])) (h : allO (fun x => book_Task_right.f k (x.f0) (x.f1) (x.f2) (x.f3) (x.f4) (x.f5) (x.f6) (x.f7)) l = some r) :
  Calls Tryz.prog 138 #[.slice A0 l.length c0, .func (.func 139) #[] #[.pointer (some ⟨g, 0, none⟩)]] w fun e w' => e = .returned (.bool (!r)) ∧ Below w.heap.size w w' := by
 have HC := book_Task_100__101.c2 k A0 c0 l r g w hr0 hL hg h
 clear hr0 hg h
 go_enter Tryz.func138, Tryz.ntmps138
 go_wp2_with fail
 refine HC.mono ?_
 clear HC
 rintro e w' ⟨⟨q, rfl, hq⟩, hb⟩
 go_wp2
 go_ret
 exact ⟨by rw [← hq.out]; rfl, hb⟩
set_option maxHeartbeats 800000 in
theorem book_Task_100__101.calls (k : Nat) (A0 : Option Addr) (c0 : Nat) (l0 : List (S109)) (a1 : Int) (r : Bool) (w : World) (hr0 : Kd.C k109 w A0 l0.length l0) (hc0 : l0.length ≤ c0) (h : book_Task_100__101.f k l0 a1 = some r) :
  Calls Tryz.prog 100 #[.slice A0 l0.length c0, .int .i64 a1, .func (.func 101) #[] #[]] w fun e w' => e = .returned (.bool r) ∧ Below w.heap.size w w' := by
 unfold book_Task_100__101.f at h
 have HR := Aside0.mk hr0
 clear hr0
 have hbw : Below w.heap.size w (w.alloc (.cells #[.func (.func 101) #[] #[]] 155)) := alloc_below0 w _
 by_cases hle : (l0.length : Int) ≤ a1
 ·
  rw [if_pos hle] at h
  obtain ⟨hL, h2⟩ := if_some h
  clear h
  have h := h2
  clear h2
  have hd : decide ((l0.length : Int) ≤ a1) = true := decide_eq_true hle
  have HC := book_Task_100__101.c3 k A0 c0 l0 r w.heap.size (w.alloc (.cells #[.func (.func 101) #[] #[]] 155)) (Kd.C_alloc HR.out _) hL (by simp) h
  have HB := Aside0.mk hbw
  clear h hle hbw
  go_enter Tryz.func100, Tryz.ntmps100
  go_wp2_with fail
  refine HC.mono ?_
  clear HC
  rintro e w' ⟨rfl, hb⟩
  go_wp2
  go_ret
  exact ⟨by simp, below_step HB.out hb⟩
 ·
  rw [if_neg hle] at h
  obtain rfl := Option.some.inj h
  have hd : decide ((l0.length : Int) ≤ a1) = false := decide_eq_false hle
  clear h hle
  go_enter Tryz.func100, Tryz.ntmps100
  go_wp2
  go_ret
  exact ⟨rfl, hbw⟩

/-! ### book_Lock_102__103: function 102 at book_Partition_right_2 -/
def book_Lock_102__103.f (k : Nat) (l : List (S111)) (n : Int) : Option (Bool) := if (l.length : Int) ≤ n then (if l.length ≤ 140737488351232 then (allO (fun x => book_Partition_right_2.f k (x.f0) (x.f1)) l) else none) else (some false)
theorem book_Lock_102__103.mono : ∀ a0 a1 k, LeO (book_Lock_102__103.f k a0 a1) (book_Lock_102__103.f (k + 1) a0 a1) := by
 intro a0 a1 k
 unfold book_Lock_102__103.f
 exact LeO.ite (LeO.ite (allO_mono (fun x => book_Partition_right_2.mono _ _ k) a0) (LeO.refl _)) (LeO.refl _)
set_option maxHeartbeats 800000 in
set_option maxRecDepth 100000 in
theorem book_Lock_102__103.c1 (k : Nat) (x : S111) (r : Bool) (g : Nat) (w : World) (hg : w.cell? ⟨g, 0, none⟩ = some (.func (.func 103) #[] #[])) (h : book_Partition_right_2.f k (x.f0) (x.f1) = some r) :
  Calls Tryz.prog 141 #[.agg #[.string (x.f0), .int .i64 (x.f1)], .pointer (some ⟨g, 0, none⟩)] w fun e w' => e = .returned (.bool (!r)) ∧ Below w.heap.size w w' := by
 have hgl := World.block_lt_of_cell? w _ hg
 have HH := Aside0.mk h
 clear h
 have hgw : (w.alloc (.cells #[.string (x.f0), .int .i64 (x.f1)] 111)).cell? ⟨g, 0, none⟩ = some (.func (.func 103) #[] #[]) := ((alloc_below0 w _).cell hgl).trans hg
 go_enter Tryz.func141, Tryz.ntmps141
 go_wp2_with fail
 refine (book_Partition_right_2.calls k (x.f0) (x.f1) r _ HH.out).mono ?_
 rintro e w' ⟨rfl, hb⟩
 go_wp2
 go_ret
 exact ⟨by simp, below_step (alloc_below0 w _) hb⟩
set_option maxHeartbeats 2000000 in
set_option maxRecDepth 100000 in
theorem book_Lock_102__103.c2 (k : Nat) (A0 : Option Addr) (c0 : Nat) (l : List (S111)) (r : Bool) (g : Nat) (w : World) (hr0 : Kd.C k111 w A0 l.length l) (hL : l.length ≤ 140737488351232) (hg : w.cell? ⟨g, 0, none⟩ = some (.func (.func 103) #[] #[])) (h : allO (fun x => book_Partition_right_2.f k (x.f0) (x.f1)) l = some r) :
  Calls Tryz.prog 161 #[.slice A0 l.length c0, .func (.func 141) #[] #[.pointer (some ⟨g, 0, none⟩)]] w fun e w' => (∃ q : Int, e = .returned (.int .i64 q) ∧ Hid (decide (0 ≤ q) = !r)) ∧ Below w.heap.size w w' := by
 have hgl := World.block_lt_of_cell? w _ hg
 have HR0 := Aside0.mk hr0
 have HG := Aside0.mk hg
 have H0 : Aside0 (allO (fun x => book_Partition_right_2.f k (x.f0) (x.f1)) (l.drop 0) = some r) := ⟨by simpa using h⟩
 clear hr0 hg h
 go_enter Tryz.func161, Tryz.ntmps161
 go_wp2
 go_loopw [8] (fun v8 wr => ∃ j : Nat, v8 = .int .i64 (j : Int) ∧ j ≤ l.length ∧ Aside0 (allO (fun x => book_Partition_right_2.f k (x.f0) (x.f1)) (l.drop j) = some r) ∧ Aside0 (Below w.heap.size w wr)) (fun v8 _ => l.length - (intOf v8).toNat)
 case atStart => exact ⟨0, rfl, Nat.zero_le _, H0, ⟨Below.refl _ _⟩⟩
 case round =>
  clear H0
  obtain ⟨j, rfl, hj, HA, HB⟩ := hrel
  by_cases hlt : j < l.length
  ·
   have p7 : (0 : Int) ≤ (j : Int) := by omega
   have q7 : (j : Int) < (l.length : Int) := by omega
   obtain ⟨b, hb1, hb2, hb3⟩ := allO_cons hlt HA.out
   have HB1 := Aside0.mk hb1
   have HB2 := Aside0.mk hb2
   have HB3 := Aside0.mk hb3
   clear hb1 hb2 hb3
   obtain ⟨ad7, e7, hx7_0, hx7_1⟩ := at_T111 HR0.out (j : Int) p7 q7
   cases e7
   replace hx7_0 := (HB.out.cell (World.block_lt_of_cell? w _ hx7_0)).trans hx7_0
   replace hx7_1 := (HB.out.cell (World.block_lt_of_cell? w _ hx7_1)).trans hx7_1
   have EX : Aside0 (rd_T111 l (j : Int) = l[j]) := ⟨by show l.getD _ _ = _; rw [Int.toNat_natCast, List.getD_eq_getElem?_getD, List.getElem?_eq_getElem hlt, Option.getD_some]⟩
   clear p7 q7
   generalize rd_T111 l (j : Int) = x at *
   have HC : Aside0 (book_Partition_right_2.f k (x.f0) (x.f1) = some b) := ⟨by rw [EX.out]; exact HB1.out⟩
   clear HB1 EX
   simp only [Int.toNat_natCast] at *
   go_wp2_with fail
   refine (book_Lock_102__103.c1 k x b g wr ((HB.out.cell hgl).trans HG.out) HC.out).mono ?_
   rintro e w9 ⟨rfl, hb⟩
   have HB9 : Aside0 (Below w.heap.size w w9) := ⟨below_step HB.out hb⟩
   clear hb HB
   cases b with
   | true =>
    go_wp2
    go_roundw
    case rel => exact ⟨j + 1, by go_num, by omega, ⟨HB2.out (by simp)⟩, HB9⟩
    case measure => simp [intOf]; omega
   | false =>
    go_wp2
    go_ret
    exact ⟨⟨_, rfl, by rw [HB3.out (by simp)]; show _ = _; simp⟩, HB9.out⟩
  ·
   obtain rfl : j = l.length := by omega
   have hr : r = true := by have := HA.out; rw [List.drop_length] at this; simpa [allO] using this.symm
   subst hr
   go_wp2
   go_ret
   exact ⟨⟨_, rfl, by show _ = _; simp⟩, HB.out⟩
set_option maxHeartbeats 800000 in
theorem book_Lock_102__103.c3 (k : Nat) (A0 : Option Addr) (c0 : Nat) (l : List (S111)) (r : Bool) (g : Nat) (w : World) (hr0 : Kd.C k111 w A0 l.length l) (hL : l.length ≤ 140737488351232) (hg : w.cell? ⟨g, 0, none⟩ = some (.func (.func 103) #[] #[])) (h : allO (fun x => book_Partition_right_2.f k (x.f0) (x.f1)) l = some r) :
  Calls Tryz.prog 140 #[.slice A0 l.length c0, .func (.func 141) #[] #[.pointer (some ⟨g, 0, none⟩)]] w fun e w' => e = .returned (.bool (!r)) ∧ Below w.heap.size w w' := by
 have HC := book_Lock_102__103.c2 k A0 c0 l r g w hr0 hL hg h
 clear hr0 hg h
 go_enter Tryz.func140, Tryz.ntmps140
 go_wp2_with fail
 refine HC.mono ?_
 clear HC
 rintro e w' ⟨⟨q, rfl, hq⟩, hb⟩
 go_wp2
 go_ret
 exact ⟨by rw [← hq.out]; rfl, hb⟩
set_option maxHeartbeats 800000 in
theorem book_Lock_102__103.calls (k : Nat) (A0 : Option Addr) (c0 : Nat) (l0 : List (S111)) (a1 : Int) (r : Bool) (w : World) (hr0 : Kd.C k111 w A0 l0.length l0) (hc0 : l0.length ≤ c0) (h : book_Lock_102__103.f k l0 a1 = some r) :
  Calls Tryz.prog 102 #[.slice A0 l0.length c0, .int .i64 a1, .func (.func 103) #[] #[]] w fun e w' => e = .returned (.bool r) ∧ Below w.heap.size w w' := by
 unfold book_Lock_102__103.f at h
 have HR := Aside0.mk hr0
 clear hr0
 have hbw : Below w.heap.size w (w.alloc (.cells #[.func (.func 103) #[] #[]] 157)) := alloc_below0 w _
 by_cases hle : (l0.length : Int) ≤ a1
 ·
  rw [if_pos hle] at h
  obtain ⟨hL, h2⟩ := if_some h
  clear h
  have h := h2
  clear h2
  have hd : decide ((l0.length : Int) ≤ a1) = true := decide_eq_true hle
  have HC := book_Lock_102__103.c3 k A0 c0 l0 r w.heap.size (w.alloc (.cells #[.func (.func 103) #[] #[]] 157)) (Kd.C_alloc HR.out _) hL (by simp) h
  have HB := Aside0.mk hbw
  clear h hle hbw
  go_enter Tryz.func102, Tryz.ntmps102
  go_wp2_with fail
  refine HC.mono ?_
  clear HC
  rintro e w' ⟨rfl, hb⟩
  go_wp2
  go_ret
  exact ⟨by simp, below_step HB.out hb⟩
 ·
  rw [if_neg hle] at h
  obtain rfl := Option.some.inj h
  have hd : decide ((l0.length : Int) ≤ a1) = false := decide_eq_false hle
  clear h hle
  go_enter Tryz.func102, Tryz.ntmps102
  go_wp2
  go_ret
  exact ⟨rfl, hbw⟩

/-! ### book_Sema_104__105: function 104 at book_Partition_right_3 -/
def book_Sema_104__105.f (k : Nat) (l : List (S113)) (n : Int) : Option (Bool) := if (l.length : Int) ≤ n then (if l.length ≤ 140737488351232 then (allO (fun x => book_Partition_right_3.f k (x.f0) (x.f1) (x.f2) (x.f3)) l) else none) else (some false)
theorem book_Sema_104__105.mono : ∀ a0 a1 k, LeO (book_Sema_104__105.f k a0 a1) (book_Sema_104__105.f (k + 1) a0 a1) := by
 intro a0 a1 k
 unfold book_Sema_104__105.f
 exact LeO.ite (LeO.ite (allO_mono (fun x => book_Partition_right_3.mono _ _ _ _ k) a0) (LeO.refl _)) (LeO.refl _)
set_option maxHeartbeats 800000 in
set_option maxRecDepth 100000 in
theorem book_Sema_104__105.c1 (k : Nat) (x : S113) (r : Bool) (g : Nat) (w : World) (hg : w.cell? ⟨g, 0, none⟩ = some (.func (.func 105) #[] #[])) (h : book_Partition_right_3.f k (x.f0) (x.f1) (x.f2) (x.f3) = some r) :
  Calls Tryz.prog 143 #[.agg #[.string (x.f0), .int .i64 (x.f1), .int .i64 (x.f2), .bool (x.f3)], .pointer (some ⟨g, 0, none⟩)] w fun e w' => e = .returned (.bool (!r)) ∧ Below w.heap.size w w' := by
 have hgl := World.block_lt_of_cell? w _ hg
 have HH := Aside0.mk h
 clear h
 have hgw : (w.alloc (.cells #[.string (x.f0), .int .i64 (x.f1), .int .i64 (x.f2), .bool (x.f3)] 113)).cell? ⟨g, 0, none⟩ = some (.func (.func 105) #[] #[]) := ((alloc_below0 w _).cell hgl).trans hg
 go_enter Tryz.func143, Tryz.ntmps143
 go_wp2_with fail
 refine (book_Partition_right_3.calls k (x.f0) (x.f1) (x.f2) (x.f3) r _ HH.out).mono ?_
 rintro e w' ⟨rfl, hb⟩
 go_wp2
 go_ret
 exact ⟨by simp, below_step (alloc_below0 w _) hb⟩
set_option maxHeartbeats 2000000 in
set_option maxRecDepth 100000 in
theorem book_Sema_104__105.c2 (k : Nat) (A0 : Option Addr) (c0 : Nat) (l : List (S113)) (r : Bool) (g : Nat) (w : World) (hr0 : Kd.C k113 w A0 l.length l) (hL : l.length ≤ 140737488351232) (hg : w.cell? ⟨g, 0, none⟩ = some (.func (.func 105) #[] #[])) (h : allO (fun x => book_Partition_right_3.f k (x.f0) (x.f1) (x.f2) (x.f3)) l = some r) :
  Calls Tryz.prog 162 #[.slice A0 l.length c0, .func (.func 143) #[] #[.pointer (some ⟨g, 0, none⟩)]] w fun e w' => (∃ q : Int, e = .returned (.int .i64 q) ∧ Hid (decide (0 ≤ q) = !r)) ∧ Below w.heap.size w w' := by
 have hgl := World.block_lt_of_cell? w _ hg
 have HR0 := Aside0.mk hr0
 have HG := Aside0.mk hg
 have H0 : Aside0 (allO (fun x => book_Partition_right_3.f k (x.f0) (x.f1) (x.f2) (x.f3)) (l.drop 0) = some r) := ⟨by simpa using h⟩
 clear hr0 hg h
 go_enter Tryz.func162, Tryz.ntmps162
 go_wp2
 go_loopw [8] (fun v8 wr => ∃ j : Nat, v8 = .int .i64 (j : Int) ∧ j ≤ l.length ∧ Aside0 (allO (fun x => book_Partition_right_3.f k (x.f0) (x.f1) (x.f2) (x.f3)) (l.drop j) = some r) ∧ Aside0 (Below w.heap.size w wr)) (fun v8 _ => l.length - (intOf v8).toNat)
 case atStart => exact ⟨0, rfl, Nat.zero_le _, H0, ⟨Below.refl _ _⟩⟩
 case round =>
  clear H0
  obtain ⟨j, rfl, hj, HA, HB⟩ := hrel
  by_cases hlt : j < l.length
  ·
   have p7 : (0 : Int) ≤ (j : Int) := by omega
   have q7 : (j : Int) < (l.length : Int) := by omega
   obtain ⟨b, hb1, hb2, hb3⟩ := allO_cons hlt HA.out
   have HB1 := Aside0.mk hb1
   have HB2 := Aside0.mk hb2
   have HB3 := Aside0.mk hb3
   clear hb1 hb2 hb3
   obtain ⟨ad7, e7, hx7_0, hx7_1, hx7_2, hx7_3⟩ := at_T113 HR0.out (j : Int) p7 q7
   cases e7
   replace hx7_0 := (HB.out.cell (World.block_lt_of_cell? w _ hx7_0)).trans hx7_0
   replace hx7_1 := (HB.out.cell (World.block_lt_of_cell? w _ hx7_1)).trans hx7_1
   replace hx7_2 := (HB.out.cell (World.block_lt_of_cell? w _ hx7_2)).trans hx7_2
   replace hx7_3 := (HB.out.cell (World.block_lt_of_cell? w _ hx7_3)).trans hx7_3
   have EX : Aside0 (rd_T113 l (j : Int) = l[j]) := ⟨by show l.getD _ _ = _; rw [Int.toNat_natCast, List.getD_eq_getElem?_getD, List.getElem?_eq_getElem hlt, Option.getD_some]⟩
   clear p7 q7
   generalize rd_T113 l (j : Int) = x at *
   have HC : Aside0 (book_Partition_right_3.f k (x.f0) (x.f1) (x.f2) (x.f3) = some b) := ⟨by rw [EX.out]; exact HB1.out⟩
   clear HB1 EX
   simp only [Int.toNat_natCast] at *
   go_wp2_with fail
   refine (book_Sema_104__105.c1 k x b g wr ((HB.out.cell hgl).trans HG.out) HC.out).mono ?_
   rintro e w9 ⟨rfl, hb⟩
   have HB9 : Aside0 (Below w.heap.size w w9) := ⟨below_step HB.out hb⟩
   clear hb HB
   cases b with
   | true =>
    go_wp2
    go_roundw
    case rel => exact ⟨j + 1, by go_num, by omega, ⟨HB2.out (by simp)⟩, HB9⟩
    case measure => simp [intOf]; omega
   | false =>
    go_wp2
    go_ret
    exact ⟨⟨_, rfl, by rw [HB3.out (by simp)]; show _ = _; simp⟩, HB9.out⟩
  ·
   obtain rfl : j = l.length := by omega
   have hr : r = true := by have := HA.out; rw [List.drop_length] at this; simpa [allO] using this.symm
   subst hr
   go_wp2
   go_ret
   exact ⟨⟨_, rfl, by show _ = _; simp⟩, HB.out⟩
set_option maxHeartbeats 800000 in
theorem book_Sema_104__105.c3 (k : Nat) (A0 : Option Addr) (c0 : Nat) (l : List (S113)) (r : Bool) (g : Nat) (w : World) (hr0 : Kd.C k113 w A0 l.length l) (hL : l.length ≤ 140737488351232) (hg : w.cell? ⟨g, 0, none⟩ = some (.func (.func 105) #[] #[])) (h : allO (fun x => book_Partition_right_3.f k (x.f0) (x.f1) (x.f2) (x.f3)) l = some r) :
  Calls Tryz.prog 142 #[.slice A0 l.length c0, .func (.func 143) #[] #[.pointer (some ⟨g, 0, none⟩)]] w fun e w' => e = .returned (.bool (!r)) ∧ Below w.heap.size w w' := by
 have HC := book_Sema_104__105.c2 k A0 c0 l r g w hr0 hL hg h
 clear hr0 hg h
 go_enter Tryz.func142, Tryz.ntmps142
 go_wp2_with fail
 refine HC.mono ?_
 clear HC
 rintro e w' ⟨⟨q, rfl, hq⟩, hb⟩
 go_wp2
 go_ret
 exact ⟨by rw [← hq.out]; rfl, hb⟩
set_option maxHeartbeats 800000 in
theorem book_Sema_104__105.calls (k : Nat) (A0 : Option Addr) (c0 : Nat) (l0 : List (S113)) (a1 : Int) (r : Bool) (w : World) (hr0 : Kd.C k113 w A0 l0.length l0) (hc0 : l0.length ≤ c0) (h : book_Sema_104__105.f k l0 a1 = some r) :
  Calls Tryz.prog 104 #[.slice A0 l0.length c0, .int .i64 a1, .func (.func 105) #[] #[]] w fun e w' => e = .returned (.bool r) ∧ Below w.heap.size w w' := by
 unfold book_Sema_104__105.f at h
 have HR := Aside0.mk hr0
 clear hr0
 have hbw : Below w.heap.size w (w.alloc (.cells #[.func (.func 105) #[] #[]] 159)) := alloc_below0 w _
 by_cases hle : (l0.length : Int) ≤ a1
 ·
  rw [if_pos hle] at h
  obtain ⟨hL, h2⟩ := if_some h
  clear h
  have h := h2
  clear h2
  have hd : decide ((l0.length : Int) ≤ a1) = true := decide_eq_true hle
  have HC := book_Sema_104__105.c3 k A0 c0 l0 r w.heap.size (w.alloc (.cells #[.func (.func 105) #[] #[]] 159)) (Kd.C_alloc HR.out _) hL (by simp) h
  have HB := Aside0.mk hbw
  clear h hle hbw
  go_enter Tryz.func104, Tryz.ntmps104
  go_wp2_with fail
  refine HC.mono ?_
  clear HC
  rintro e w' ⟨rfl, hb⟩
  go_wp2
  go_ret
  exact ⟨by simp, below_step HB.out hb⟩
 ·
  rw [if_neg hle] at h
  obtain rfl := Option.some.inj h
  have hd : decide ((l0.length : Int) ≤ a1) = false := decide_eq_false hle
  clear h hle
  go_enter Tryz.func104, Tryz.ntmps104
  go_wp2
  go_ret
  exact ⟨rfl, hbw⟩

/-! ### book_Event_106__107: function 106 at book_Partition_right_4 -/
def book_Event_106__107.f (k : Nat) (l : List (S115)) (n : Int) : Option (Bool) := if (l.length : Int) ≤ n then (if l.length ≤ 140737488351232 then (allO (fun x => book_Partition_right_4.f k (x.f0)) l) else none) else (some false)
theorem book_Event_106__107.mono : ∀ a0 a1 k, LeO (book_Event_106__107.f k a0 a1) (book_Event_106__107.f (k + 1) a0 a1) := by
 intro a0 a1 k
 unfold book_Event_106__107.f
 exact LeO.ite (LeO.ite (allO_mono (fun x => book_Partition_right_4.mono _ k) a0) (LeO.refl _)) (LeO.refl _)
set_option maxHeartbeats 800000 in
set_option maxRecDepth 100000 in
theorem book_Event_106__107.c1 (k : Nat) (x : S115) (r : Bool) (g : Nat) (w : World) (hg : w.cell? ⟨g, 0, none⟩ = some (.func (.func 107) #[] #[])) (h : book_Partition_right_4.f k (x.f0) = some r) :
  Calls Tryz.prog 145 #[.agg #[.string (x.f0)], .pointer (some ⟨g, 0, none⟩)] w fun e w' => e = .returned (.bool (!r)) ∧ Below w.heap.size w w' := by
 have hgl := World.block_lt_of_cell? w _ hg
 have HH := Aside0.mk h
 clear h
 have hgw : (w.alloc (.cells #[.string (x.f0)] 115)).cell? ⟨g, 0, none⟩ = some (.func (.func 107) #[] #[]) := ((alloc_below0 w _).cell hgl).trans hg
 go_enter Tryz.func145, Tryz.ntmps145
 go_wp2_with fail
 refine (book_Partition_right_4.calls k (x.f0) r _ HH.out).mono ?_
 rintro e w' ⟨rfl, hb⟩
 go_wp2
 go_ret
 exact ⟨by simp, below_step (alloc_below0 w _) hb⟩
set_option maxHeartbeats 2000000 in
set_option maxRecDepth 100000 in
theorem book_Event_106__107.c2 (k : Nat) (A0 : Option Addr) (c0 : Nat) (l : List (S115)) (r : Bool) (g : Nat) (w : World) (hr0 : Kd.C k115 w A0 l.length l) (hL : l.length ≤ 140737488351232) (hg : w.cell? ⟨g, 0, none⟩ = some (.func (.func 107) #[] #[])) (h : allO (fun x => book_Partition_right_4.f k (x.f0)) l = some r) :
  Calls Tryz.prog 163 #[.slice A0 l.length c0, .func (.func 145) #[] #[.pointer (some ⟨g, 0, none⟩)]] w fun e w' => (∃ q : Int, e = .returned (.int .i64 q) ∧ Hid (decide (0 ≤ q) = !r)) ∧ Below w.heap.size w w' := by
 have hgl := World.block_lt_of_cell? w _ hg
 have HR0 := Aside0.mk hr0
 have HG := Aside0.mk hg
 have H0 : Aside0 (allO (fun x => book_Partition_right_4.f k (x.f0)) (l.drop 0) = some r) := ⟨by simpa using h⟩
 clear hr0 hg h
 go_enter Tryz.func163, Tryz.ntmps163
 go_wp2
 go_loopw [8] (fun v8 wr => ∃ j : Nat, v8 = .int .i64 (j : Int) ∧ j ≤ l.length ∧ Aside0 (allO (fun x => book_Partition_right_4.f k (x.f0)) (l.drop j) = some r) ∧ Aside0 (Below w.heap.size w wr)) (fun v8 _ => l.length - (intOf v8).toNat)
 case atStart => exact ⟨0, rfl, Nat.zero_le _, H0, ⟨Below.refl _ _⟩⟩
 case round =>
  clear H0
  obtain ⟨j, rfl, hj, HA, HB⟩ := hrel
  by_cases hlt : j < l.length
  ·
   have p7 : (0 : Int) ≤ (j : Int) := by omega
   have q7 : (j : Int) < (l.length : Int) := by omega
   obtain ⟨b, hb1, hb2, hb3⟩ := allO_cons hlt HA.out
   have HB1 := Aside0.mk hb1
   have HB2 := Aside0.mk hb2
   have HB3 := Aside0.mk hb3
   clear hb1 hb2 hb3
   obtain ⟨ad7, e7, hx7_0⟩ := at_T115 HR0.out (j : Int) p7 q7
   cases e7
   replace hx7_0 := (HB.out.cell (World.block_lt_of_cell? w _ hx7_0)).trans hx7_0
   have EX : Aside0 (rd_T115 l (j : Int) = l[j]) := ⟨by show l.getD _ _ = _; rw [Int.toNat_natCast, List.getD_eq_getElem?_getD, List.getElem?_eq_getElem hlt, Option.getD_some]⟩
   clear p7 q7
   generalize rd_T115 l (j : Int) = x at *
   have HC : Aside0 (book_Partition_right_4.f k (x.f0) = some b) := ⟨by rw [EX.out]; exact HB1.out⟩
   clear HB1 EX
   simp only [Int.toNat_natCast] at *
   go_wp2_with fail
   refine (book_Event_106__107.c1 k x b g wr ((HB.out.cell hgl).trans HG.out) HC.out).mono ?_
   rintro e w9 ⟨rfl, hb⟩
   have HB9 : Aside0 (Below w.heap.size w w9) := ⟨below_step HB.out hb⟩
   clear hb HB
   cases b with
   | true =>
    go_wp2
    go_roundw
    case rel => exact ⟨j + 1, by go_num, by omega, ⟨HB2.out (by simp)⟩, HB9⟩
    case measure => simp [intOf]; omega
   | false =>
    go_wp2
    go_ret
    exact ⟨⟨_, rfl, by rw [HB3.out (by simp)]; show _ = _; simp⟩, HB9.out⟩
  ·
   obtain rfl : j = l.length := by omega
   have hr : r = true := by have := HA.out; rw [List.drop_length] at this; simpa [allO] using this.symm
   subst hr
   go_wp2
   go_ret
   exact ⟨⟨_, rfl, by show _ = _; simp⟩, HB.out⟩
set_option maxHeartbeats 800000 in
theorem book_Event_106__107.c3 (k : Nat) (A0 : Option Addr) (c0 : Nat) (l : List (S115)) (r : Bool) (g : Nat) (w : World) (hr0 : Kd.C k115 w A0 l.length l) (hL : l.length ≤ 140737488351232) (hg : w.cell? ⟨g, 0, none⟩ = some (.func (.func 107) #[] #[])) (h : allO (fun x => book_Partition_right_4.f k (x.f0)) l = some r) :
  Calls Tryz.prog 144 #[.slice A0 l.length c0, .func (.func 145) #[] #[.pointer (some ⟨g, 0, none⟩)]] w fun e w' => e = .returned (.bool (!r)) ∧ Below w.heap.size w w' := by
 have HC := book_Event_106__107.c2 k A0 c0 l r g w hr0 hL hg h
 clear hr0 hg h
 go_enter Tryz.func144, Tryz.ntmps144
 go_wp2_with fail
 refine HC.mono ?_
 clear HC
 rintro e w' ⟨⟨q, rfl, hq⟩, hb⟩
 go_wp2
 go_ret
 exact ⟨by rw [← hq.out]; rfl, hb⟩
set_option maxHeartbeats 800000 in
theorem book_Event_106__107.calls (k : Nat) (A0 : Option Addr) (c0 : Nat) (l0 : List (S115)) (a1 : Int) (r : Bool) (w : World) (hr0 : Kd.C k115 w A0 l0.length l0) (hc0 : l0.length ≤ c0) (h : book_Event_106__107.f k l0 a1 = some r) :
  Calls Tryz.prog 106 #[.slice A0 l0.length c0, .int .i64 a1, .func (.func 107) #[] #[]] w fun e w' => e = .returned (.bool r) ∧ Below w.heap.size w w' := by
 unfold book_Event_106__107.f at h
 have HR := Aside0.mk hr0
 clear hr0
 have hbw : Below w.heap.size w (w.alloc (.cells #[.func (.func 107) #[] #[]] 161)) := alloc_below0 w _
 by_cases hle : (l0.length : Int) ≤ a1
 ·
  rw [if_pos hle] at h
  obtain ⟨hL, h2⟩ := if_some h
  clear h
  have h := h2
  clear h2
  have hd : decide ((l0.length : Int) ≤ a1) = true := decide_eq_true hle
  have HC := book_Event_106__107.c3 k A0 c0 l0 r w.heap.size (w.alloc (.cells #[.func (.func 107) #[] #[]] 161)) (Kd.C_alloc HR.out _) hL (by simp) h
  have HB := Aside0.mk hbw
  clear h hle hbw
  go_enter Tryz.func106, Tryz.ntmps106
  go_wp2_with fail
  refine HC.mono ?_
  clear HC
  rintro e w' ⟨rfl, hb⟩
  go_wp2
  go_ret
  exact ⟨by simp, below_step HB.out hb⟩
 ·
  rw [if_neg hle] at h
  obtain rfl := Option.some.inj h
  have hd : decide ((l0.length : Int) ≤ a1) = false := decide_eq_false hle
  clear h hle
  go_enter Tryz.func106, Tryz.ntmps106
  go_wp2
  go_ret
  exact ⟨rfl, hbw⟩

/-! ### book_Board_108__109: function 108 at book_Partition_right_5 -/
def book_Board_108__109.f (k : Nat) (l : List (S117)) (n : Int) : Option (Bool) := if (l.length : Int) ≤ n then (if l.length ≤ 140737488351232 then (allO (fun x => book_Partition_right_5.f k (x.f0) (x.f1)) l) else none) else (some false)
theorem book_Board_108__109.mono : ∀ a0 a1 k, LeO (book_Board_108__109.f k a0 a1) (book_Board_108__109.f (k + 1) a0 a1) := by
 intro a0 a1 k
 unfold book_Board_108__109.f
 exact LeO.ite (LeO.ite (allO_mono (fun x => book_Partition_right_5.mono _ _ k) a0) (LeO.refl _)) (LeO.refl _)
set_option maxHeartbeats 800000 in
set_option maxRecDepth 100000 in
theorem book_Board_108__109.c1 (k : Nat) (x : S117) (r : Bool) (g : Nat) (w : World) (hg : w.cell? ⟨g, 0, none⟩ = some (.func (.func 109) #[] #[])) (h : book_Partition_right_5.f k (x.f0) (x.f1) = some r) :
  Calls Tryz.prog 147 #[.agg #[.string (x.f0), .int .i64 (x.f1)], .pointer (some ⟨g, 0, none⟩)] w fun e w' => e = .returned (.bool (!r)) ∧ Below w.heap.size w w' := by
 have hgl := World.block_lt_of_cell? w _ hg
 have HH := Aside0.mk h
 clear h
 have hgw : (w.alloc (.cells #[.string (x.f0), .int .i64 (x.f1)] 117)).cell? ⟨g, 0, none⟩ = some (.func (.func 109) #[] #[]) := ((alloc_below0 w _).cell hgl).trans hg
 go_enter Tryz.func147, Tryz.ntmps147
 go_wp2_with fail
 refine (book_Partition_right_5.calls k (x.f0) (x.f1) r _ HH.out).mono ?_
 rintro e w' ⟨rfl, hb⟩
 go_wp2
 go_ret
 exact ⟨by simp, below_step (alloc_below0 w _) hb⟩
set_option maxHeartbeats 2000000 in
set_option maxRecDepth 100000 in
theorem book_Board_108__109.c2 (k : Nat) (A0 : Option Addr) (c0 : Nat) (l : List (S117)) (r : Bool) (g : Nat) (w : World) (hr0 : Kd.C k117 w A0 l.length l) (hL : l.length ≤ 140737488351232) (hg : w.cell? ⟨g, 0, none⟩ = some (.func (.func 109) #[] #[])) (h : allO (fun x => book_Partition_right_5.f k (x.f0) (x.f1)) l = some r) :
  Calls Tryz.prog 164 #[.slice A0 l.length c0, .func (.func 147) #[] #[.pointer (some ⟨g, 0, none⟩)]] w fun e w' => (∃ q : Int, e = .returned (.int .i64 q) ∧ Hid (decide (0 ≤ q) = !r)) ∧ Below w.heap.size w w' := by
 have hgl := World.block_lt_of_cell? w _ hg
 have HR0 := Aside0.mk hr0
 have HG := Aside0.mk hg
 have H0 : Aside0 (allO (fun x => book_Partition_right_5.f k (x.f0) (x.f1)) (l.drop 0) = some r) := ⟨by simpa using h⟩
 clear hr0 hg h
 go_enter Tryz.func164, Tryz.ntmps164
 go_wp2
 go_loopw [8] (fun v8 wr => ∃ j : Nat, v8 = .int .i64 (j : Int) ∧ j ≤ l.length ∧ Aside0 (allO (fun x => book_Partition_right_5.f k (x.f0) (x.f1)) (l.drop j) = some r) ∧ Aside0 (Below w.heap.size w wr)) (fun v8 _ => l.length - (intOf v8).toNat)
 case atStart => exact ⟨0, rfl, Nat.zero_le _, H0, ⟨Below.refl _ _⟩⟩
 case round =>
  clear H0
  obtain ⟨j, rfl, hj, HA, HB⟩ := hrel
  by_cases hlt : j < l.length
  ·
   have p7 : (0 : Int) ≤ (j : Int) := by omega
   have q7 : (j : Int) < (l.length : Int) := by omega
   obtain ⟨b, hb1, hb2, hb3⟩ := allO_cons hlt HA.out
   have HB1 := Aside0.mk hb1
   have HB2 := Aside0.mk hb2
   have HB3 := Aside0.mk hb3
   clear hb1 hb2 hb3
   obtain ⟨ad7, e7, hx7_0, hx7_1⟩ := at_T117 HR0.out (j : Int) p7 q7
   cases e7
   replace hx7_0 := (HB.out.cell (World.block_lt_of_cell? w _ hx7_0)).trans hx7_0
   replace hx7_1 := (HB.out.cell (World.block_lt_of_cell? w _ hx7_1)).trans hx7_1
   have EX : Aside0 (rd_T117 l (j : Int) = l[j]) := ⟨by show l.getD _ _ = _; rw [Int.toNat_natCast, List.getD_eq_getElem?_getD, List.getElem?_eq_getElem hlt, Option.getD_some]⟩
   clear p7 q7
   generalize rd_T117 l (j : Int) = x at *
   have HC : Aside0 (book_Partition_right_5.f k (x.f0) (x.f1) = some b) := ⟨by rw [EX.out]; exact HB1.out⟩
   clear HB1 EX
   simp only [Int.toNat_natCast] at *
   go_wp2_with fail
   refine (book_Board_108__109.c1 k x b g wr ((HB.out.cell hgl).trans HG.out) HC.out).mono ?_
   rintro e w9 ⟨rfl, hb⟩
   have HB9 : Aside0 (Below w.heap.size w w9) := ⟨below_step HB.out hb⟩
   clear hb HB
   cases b with
   | true =>
    go_wp2
    go_roundw
    case rel => exact ⟨j + 1, by go_num, by omega, ⟨HB2.out (by simp)⟩, HB9⟩
    case measure => simp [intOf]; omega
   | false =>
    go_wp2
    go_ret
    exact ⟨⟨_, rfl, by rw [HB3.out (by simp)]; show _ = _; simp⟩, HB9.out⟩
  ·
   obtain rfl : j = l.length := by omega
   have hr : r = true := by have := HA.out; rw [List.drop_length] at this; simpa [allO] using this.symm
   subst hr
   go_wp2
   go_ret
   exact ⟨⟨_, rfl, by show _ = _; simp⟩, HB.out⟩
set_option maxHeartbeats 800000 in
theorem book_Board_108__109.c3 (k : Nat) (A0 : Option Addr) (c0 : Nat) (l : List (S117)) (r : Bool) (g : Nat) (w : World) (hr0 : Kd.C k117 w A0 l.length l) (hL : l.length ≤ 140737488351232) (hg : w.cell? ⟨g, 0, none⟩ = some (.func (.func 109) #[] #[])) (h : allO (fun x => book_Partition_right_5.f k (x.f0) (x.f1)) l = some r) :
  Calls Tryz.prog 146 #[.slice A0 l.length c0, .func (.func 147) #[] #[.pointer (some ⟨g, 0, none⟩)]] w fun e w' => e = .returned (.bool (!r)) ∧ Below w.heap.size w w' := by
 have HC := book_Board_108__109.c2 k A0 c0 l r g w hr0 hL hg h
 clear hr0 hg h
 go_enter Tryz.func146, Tryz.ntmps146
 go_wp2_with fail
 refine HC.mono ?_
 clear HC
 rintro e w' ⟨⟨q, rfl, hq⟩, hb⟩
 go_wp2
 go_ret
 exact ⟨by rw [← hq.out]; rfl, hb⟩
set_option maxHeartbeats 800000 in
theorem book_Board_108__109.calls (k : Nat) (A0 : Option Addr) (c0 : Nat) (l0 : List (S117)) (a1 : Int) (r : Bool) (w : World) (hr0 : Kd.C k117 w A0 l0.length l0) (hc0 : l0.length ≤ c0) (h : book_Board_108__109.f k l0 a1 = some r) :
  Calls Tryz.prog 108 #[.slice A0 l0.length c0, .int .i64 a1, .func (.func 109) #[] #[]] w fun e w' => e = .returned (.bool r) ∧ Below w.heap.size w w' := by
 unfold book_Board_108__109.f at h
 have HR := Aside0.mk hr0
 clear hr0
 have hbw : Below w.heap.size w (w.alloc (.cells #[.func (.func 109) #[] #[]] 163)) := alloc_below0 w _
 by_cases hle : (l0.length : Int) ≤ a1
 ·
  rw [if_pos hle] at h
  obtain ⟨hL, h2⟩ := if_some h
  clear h
  have h := h2
  clear h2
  have hd : decide ((l0.length : Int) ≤ a1) = true := decide_eq_true hle
  have HC := book_Board_108__109.c3 k A0 c0 l0 r w.heap.size (w.alloc (.cells #[.func (.func 109) #[] #[]] 163)) (Kd.C_alloc HR.out _) hL (by simp) h
  have HB := Aside0.mk hbw
  clear h hle hbw
  go_enter Tryz.func108, Tryz.ntmps108
  go_wp2_with fail
  refine HC.mono ?_
  clear HC
  rintro e w' ⟨rfl, hb⟩
  go_wp2
  go_ret
  exact ⟨by simp, below_step HB.out hb⟩
 ·
  rw [if_neg hle] at h
  obtain rfl := Option.some.inj h
  have hd : decide ((l0.length : Int) ≤ a1) = false := decide_eq_false hle
  clear h hle
  go_enter Tryz.func108, Tryz.ntmps108
  go_wp2
  go_ret
  exact ⟨rfl, hbw⟩

/-! ### book_Buffer_110__111: function 110 at book_Partition_right_6 -/
def book_Buffer_110__111.f (k : Nat) (l : List (S119)) (n : Int) : Option (Bool) := if (l.length : Int) ≤ n then (if l.length ≤ 140737488351232 then (allO (fun x => book_Partition_right_6.f k (x.f0) (x.f1) (x.f2) (x.f3)) l) else none) else (some false)
theorem book_Buffer_110__111.mono : ∀ a0 a1 k, LeO (book_Buffer_110__111.f k a0 a1) (book_Buffer_110__111.f (k + 1) a0 a1) := by
 intro a0 a1 k
 unfold book_Buffer_110__111.f
 exact LeO.ite (LeO.ite (allO_mono (fun x => book_Partition_right_6.mono _ _ _ _ k) a0) (LeO.refl _)) (LeO.refl _)
set_option maxHeartbeats 800000 in
set_option maxRecDepth 100000 in
theorem book_Buffer_110__111.c1 (k : Nat) (x : S119) (r : Bool) (g : Nat) (w : World) (hg : w.cell? ⟨g, 0, none⟩ = some (.func (.func 111) #[] #[])) (h : book_Partition_right_6.f k (x.f0) (x.f1) (x.f2) (x.f3) = some r) :
  Calls Tryz.prog 149 #[.agg #[.string (x.f0), .int .i64 (x.f1), .int .i64 (x.f2), .bool (x.f3)], .pointer (some ⟨g, 0, none⟩)] w fun e w' => e = .returned (.bool (!r)) ∧ Below w.heap.size w w' := by
 have hgl := World.block_lt_of_cell? w _ hg
 have HH := Aside0.mk h
 clear h
 have hgw : (w.alloc (.cells #[.string (x.f0), .int .i64 (x.f1), .int .i64 (x.f2), .bool (x.f3)] 119)).cell? ⟨g, 0, none⟩ = some (.func (.func 111) #[] #[]) := ((alloc_below0 w _).cell hgl).trans hg
 go_enter Tryz.func149, Tryz.ntmps149
 go_wp2_with fail
 refine (book_Partition_right_6.calls k (x.f0) (x.f1) (x.f2) (x.f3) r _ HH.out).mono ?_
 rintro e w' ⟨rfl, hb⟩
 go_wp2
 go_ret
 exact ⟨by simp, below_step (alloc_below0 w _) hb⟩
set_option maxHeartbeats 2000000 in
set_option maxRecDepth 100000 in
theorem book_Buffer_110__111.c2 (k : Nat) (A0 : Option Addr) (c0 : Nat) (l : List (S119)) (r : Bool) (g : Nat) (w : World) (hr0 : Kd.C k119 w A0 l.length l) (hL : l.length ≤ 140737488351232) (hg : w.cell? ⟨g, 0, none⟩ = some (.func (.func 111) #[] #[])) (h : allO (fun x => book_Partition_right_6.f k (x.f0) (x.f1) (x.f2) (x.f3)) l = some r) :
  Calls Tryz.prog 165 #[.slice A0 l.length c0, .func (.func 149) #[] #[.pointer (some ⟨g, 0, none⟩)]] w fun e w' => (∃ q : Int, e = .returned (.int .i64 q) ∧ Hid (decide (0 ≤ q) = !r)) ∧ Below w.heap.size w w' := by
 have hgl := World.block_lt_of_cell? w _ hg
 have HR0 := Aside0.mk hr0
 have HG := Aside0.mk hg
 have H0 : Aside0 (allO (fun x => book_Partition_right_6.f k (x.f0) (x.f1) (x.f2) (x.f3)) (l.drop 0) = some r) := ⟨by simpa using h⟩
 clear hr0 hg h
 go_enter Tryz.func165, Tryz.ntmps165
 go_wp2
 go_loopw [8] (fun v8 wr => ∃ j : Nat, v8 = .int .i64 (j : Int) ∧ j ≤ l.length ∧ Aside0 (allO (fun x => book_Partition_right_6.f k (x.f0) (x.f1) (x.f2) (x.f3)) (l.drop j) = some r) ∧ Aside0 (Below w.heap.size w wr)) (fun v8 _ => l.length - (intOf v8).toNat)
 case atStart => exact ⟨0, rfl, Nat.zero_le _, H0, ⟨Below.refl _ _⟩⟩
 case round =>
  clear H0
  obtain ⟨j, rfl, hj, HA, HB⟩ := hrel
  by_cases hlt : j < l.length
  ·
   have p7 : (0 : Int) ≤ (j : Int) := by omega
   have q7 : (j : Int) < (l.length : Int) := by omega
   obtain ⟨b, hb1, hb2, hb3⟩ := allO_cons hlt HA.out
   have HB1 := Aside0.mk hb1
   have HB2 := Aside0.mk hb2
   have HB3 := Aside0.mk hb3
   clear hb1 hb2 hb3
   obtain ⟨ad7, e7, hx7_0, hx7_1, hx7_2, hx7_3⟩ := at_T119 HR0.out (j : Int) p7 q7
   cases e7
   replace hx7_0 := (HB.out.cell (World.block_lt_of_cell? w _ hx7_0)).trans hx7_0
   replace hx7_1 := (HB.out.cell (World.block_lt_of_cell? w _ hx7_1)).trans hx7_1
   replace hx7_2 := (HB.out.cell (World.block_lt_of_cell? w _ hx7_2)).trans hx7_2
   replace hx7_3 := (HB.out.cell (World.block_lt_of_cell? w _ hx7_3)).trans hx7_3
   have EX : Aside0 (rd_T119 l (j : Int) = l[j]) := ⟨by show l.getD _ _ = _; rw [Int.toNat_natCast, List.getD_eq_getElem?_getD, List.getElem?_eq_getElem hlt, Option.getD_some]⟩
   clear p7 q7
   generalize rd_T119 l (j : Int) = x at *
   have HC : Aside0 (book_Partition_right_6.f k (x.f0) (x.f1) (x.f2) (x.f3) = some b) := ⟨by rw [EX.out]; exact HB1.out⟩
   clear HB1 EX
   simp only [Int.toNat_natCast] at *
   go_wp2_with fail
   refine (book_Buffer_110__111.c1 k x b g wr ((HB.out.cell hgl).trans HG.out) HC.out).mono ?_
   rintro e w9 ⟨rfl, hb⟩
   have HB9 : Aside0 (Below w.heap.size w w9) := ⟨below_step HB.out hb⟩
   clear hb HB
   cases b with
   | true =>
    go_wp2
    go_roundw
    case rel => exact ⟨j + 1, by go_num, by omega, ⟨HB2.out (by simp)⟩, HB9⟩
    case measure => simp [intOf]; omega
   | false =>
    go_wp2
    go_ret
    exact ⟨⟨_, rfl, by rw [HB3.out (by simp)]; show _ = _; simp⟩, HB9.out⟩
  ·
   obtain rfl : j = l.length := by omega
   have hr : r = true := by have := HA.out; rw [List.drop_length] at this; simpa [allO] using this.symm
   subst hr
   go_wp2
   go_ret
   exact ⟨⟨_, rfl, by show _ = _; simp⟩, HB.out⟩
set_option maxHeartbeats 800000 in
theorem book_Buffer_110__111.c3 (k : Nat) (A0 : Option Addr) (c0 : Nat) (l : List (S119)) (r : Bool) (g : Nat) (w : World) (hr0 : Kd.C k119 w A0 l.length l) (hL : l.length ≤ 140737488351232) (hg : w.cell? ⟨g, 0, none⟩ = some (.func (.func 111) #[] #[])) (h : allO (fun x => book_Partition_right_6.f k (x.f0) (x.f1) (x.f2) (x.f3)) l = some r) :
  Calls Tryz.prog 148 #[.slice A0 l.length c0, .func (.func 149) #[] #[.pointer (some ⟨g, 0, none⟩)]] w fun e w' => e = .returned (.bool (!r)) ∧ Below w.heap.size w w' := by
 have HC := book_Buffer_110__111.c2 k A0 c0 l r g w hr0 hL hg h
 clear hr0 hg h
 go_enter Tryz.func148, Tryz.ntmps148
 go_wp2_with fail
 refine HC.mono ?_
 clear HC
 rintro e w' ⟨⟨q, rfl, hq⟩, hb⟩
 go_wp2
 go_ret
 exact ⟨by rw [← hq.out]; rfl, hb⟩
set_option maxHeartbeats 800000 in
theorem book_Buffer_110__111.calls (k : Nat) (A0 : Option Addr) (c0 : Nat) (l0 : List (S119)) (a1 : Int) (r : Bool) (w : World) (hr0 : Kd.C k119 w A0 l0.length l0) (hc0 : l0.length ≤ c0) (h : book_Buffer_110__111.f k l0 a1 = some r) :
  Calls Tryz.prog 110 #[.slice A0 l0.length c0, .int .i64 a1, .func (.func 111) #[] #[]] w fun e w' => e = .returned (.bool r) ∧ Below w.heap.size w w' := by
 unfold book_Buffer_110__111.f at h
 have HR := Aside0.mk hr0
 clear hr0
 have hbw : Below w.heap.size w (w.alloc (.cells #[.func (.func 111) #[] #[]] 165)) := alloc_below0 w _
 by_cases hle : (l0.length : Int) ≤ a1
 ·
  rw [if_pos hle] at h
  obtain ⟨hL, h2⟩ := if_some h
  clear h
  have h := h2
  clear h2
  have hd : decide ((l0.length : Int) ≤ a1) = true := decide_eq_true hle
  have HC := book_Buffer_110__111.c3 k A0 c0 l0 r w.heap.size (w.alloc (.cells #[.func (.func 111) #[] #[]] 165)) (Kd.C_alloc HR.out _) hL (by simp) h
  have HB := Aside0.mk hbw
  clear h hle hbw
  go_enter Tryz.func110, Tryz.ntmps110
  go_wp2_with fail
  refine HC.mono ?_
  clear HC
  rintro e w' ⟨rfl, hb⟩
  go_wp2
  go_ret
  exact ⟨by simp, below_step HB.out hb⟩
 ·
  rw [if_neg hle] at h
  obtain rfl := Option.some.inj h
  have hd : decide ((l0.length : Int) ≤ a1) = false := decide_eq_false hle
  clear h hle
  go_enter Tryz.func110, Tryz.ntmps110
  go_wp2
  go_ret
  exact ⟨rfl, hbw⟩

/-! ### book_Port_112__113: function 112 at book_Partition_right_7 -/
def book_Port_112__113.f (k : Nat) (l : List (S60)) (n : Int) : Option (Bool) := if (l.length : Int) ≤ n then (if l.length ≤ 140737488351232 then (allO (fun x => book_Partition_right_7.f k (x.f0) (x.f1) (x.f2) (x.f3) (x.f4) (x.f5)) l) else none) else (some false)
theorem book_Port_112__113.mono : ∀ a0 a1 k, LeO (book_Port_112__113.f k a0 a1) (book_Port_112__113.f (k + 1) a0 a1) := by
 intro a0 a1 k
 unfold book_Port_112__113.f
 exact LeO.ite (LeO.ite (allO_mono (fun x => book_Partition_right_7.mono _ _ _ _ _ _ k) a0) (LeO.refl _)) (LeO.refl _)
set_option maxHeartbeats 800000 in
set_option maxRecDepth 100000 in
theorem book_Port_112__113.c1 (k : Nat) (x : S60) (r : Bool) (g : Nat) (w : World) (hg : w.cell? ⟨g, 0, none⟩ = some (.func (.func 113) #[] #[])) (h : book_Partition_right_7.f k (x.f0) (x.f1) (x.f2) (x.f3) (x.f4) (x.f5) = some r) :
  Calls Tryz.prog 151 #[.agg #[.string (x.f0), .bool (x.f1), .bool (x.f2), .int .i64 (x.f3), .int .i64 (x.f4), .int .i64 (x.f5)], .pointer (some ⟨g, 0, none⟩)] w fun e w' => e = .returned (.bool (!r)) ∧ Below w.heap.size w w' := by
 have hgl := World.block_lt_of_cell? w _ hg
 have HH := Aside0.mk h
 clear h
 have hgw : (w.alloc (.cells #[.string (x.f0), .bool (x.f1), .bool (x.f2), .int .i64 (x.f3), .int .i64 (x.f4), .int .i64 (x.f5)] 60)).cell? ⟨g, 0, none⟩ = some (.func (.func 113) #[] #[]) := ((alloc_below0 w _).cell hgl).trans hg
 go_enter Tryz.func151, Tryz.ntmps151
 go_wp2_with fail
 refine (book_Partition_right_7.calls k (x.f0) (x.f1) (x.f2) (x.f3) (x.f4) (x.f5) r _ HH.out).mono ?_
 rintro e w' ⟨rfl, hb⟩
 go_wp2
 go_ret
 exact ⟨by simp, below_step (alloc_below0 w _) hb⟩
set_option maxHeartbeats 2000000 in
set_option maxRecDepth 100000 in
theorem book_Port_112__113.c2 (k : Nat) (A0 : Option Addr) (c0 : Nat) (l : List (S60)) (r : Bool) (g : Nat) (w : World) (hr0 : Kd.C k60 w A0 l.length l) (hL : l.length ≤ 140737488351232) (hg : w.cell? ⟨g, 0, none⟩ = some (.func (.func 113) #[] #[])) (h : allO (fun x => book_Partition_right_7.f k (x.f0) (x.f1) (x.f2) (x.f3) (x.f4) (x.f5)) l = some r) :
  Calls Tryz.prog 166 #[.slice A0 l.length c0, .func (.func 151) #[] #[.pointer (some ⟨g, 0, none⟩)]] w fun e w' => (∃ q : Int, e = .returned (.int .i64 q) ∧ Hid (decide (0 ≤ q) = !r)) ∧ Below w.heap.size w w' := by
 have hgl := World.block_lt_of_cell? w _ hg
 have HR0 := Aside0.mk hr0
 have HG := Aside0.mk hg
 have H0 : Aside0 (allO (fun x => book_Partition_right_7.f k (x.f0) (x.f1) (x.f2) (x.f3) (x.f4) (x.f5)) (l.drop 0) = some r) := ⟨by simpa using h⟩
 clear hr0 hg h
 go_enter Tryz.func166, Tryz.ntmps166
 go_wp2
 go_loopw [8] (fun v8 wr => ∃ j : Nat, v8 = .int .i64 (j : Int) ∧ j ≤ l.length ∧ Aside0 (allO (fun x => book_Partition_right_7.f k (x.f0) (x.f1) (x.f2) (x.f3) (x.f4) (x.f5)) (l.drop j) = some r) ∧ Aside0 (Below w.heap.size w wr)) (fun v8 _ => l.length - (intOf v8).toNat)
 case atStart => exact ⟨0, rfl, Nat.zero_le _, H0, ⟨Below.refl _ _⟩⟩
 case round =>
  clear H0
  obtain ⟨j, rfl, hj, HA, HB⟩ := hrel
  by_cases hlt : j < l.length
  ·
   have p7 : (0 : Int) ≤ (j : Int) := by omega
   have q7 : (j : Int) < (l.length : Int) := by omega
   obtain ⟨b, hb1, hb2, hb3⟩ := allO_cons hlt HA.out
   have HB1 := Aside0.mk hb1
   have HB2 := Aside0.mk hb2
   have HB3 := Aside0.mk hb3
   clear hb1 hb2 hb3
   obtain ⟨ad7, e7, hx7_0, hx7_1, hx7_2, hx7_3, hx7_4, hx7_5⟩ := at_T60 HR0.out (j : Int) p7 q7
   cases e7
   replace hx7_0 := (HB.out.cell (World.block_lt_of_cell? w _ hx7_0)).trans hx7_0
   replace hx7_1 := (HB.out.cell (World.block_lt_of_cell? w _ hx7_1)).trans hx7_1
   replace hx7_2 := (HB.out.cell (World.block_lt_of_cell? w _ hx7_2)).trans hx7_2
   replace hx7_3 := (HB.out.cell (World.block_lt_of_cell? w _ hx7_3)).trans hx7_3
   replace hx7_4 := (HB.out.cell (World.block_lt_of_cell? w _ hx7_4)).trans hx7_4
   replace hx7_5 := (HB.out.cell (World.block_lt_of_cell? w _ hx7_5)).trans hx7_5
   have EX : Aside0 (rd_T60 l (j : Int) = l[j]) := ⟨by show l.getD _ _ = _; rw [Int.toNat_natCast, List.getD_eq_getElem?_getD, List.getElem?_eq_getElem hlt, Option.getD_some]⟩
   clear p7 q7
   generalize rd_T60 l (j : Int) = x at *
   have HC : Aside0 (book_Partition_right_7.f k (x.f0) (x.f1) (x.f2) (x.f3) (x.f4) (x.f5) = some b) := ⟨by rw [EX.out]; exact HB1.out⟩
   clear HB1 EX
   simp only [Int.toNat_natCast] at *
   go_wp2_with fail
   refine (book_Port_112__113.c1 k x b g wr ((HB.out.cell hgl).trans HG.out) HC.out).mono ?_
   rintro e w9 ⟨rfl, hb⟩
   have HB9 : Aside0 (Below w.heap.size w w9) := ⟨below_step HB.out hb⟩
   clear hb HB
   cases b with
   | true =>
    go_wp2
    go_roundw
    case rel => exact ⟨j + 1, by go_num, by omega, ⟨HB2.out (by simp)⟩, HB9⟩
    case measure => simp [intOf]; omega
   | false =>
    go_wp2
    go_ret
    exact ⟨⟨_, rfl, by rw [HB3.out (by simp)]; show _ = _; simp⟩, HB9.out⟩
  ·
   obtain rfl : j = l.length := by omega
   have hr : r = true := by have := HA.out; rw [List.drop_length] at this; simpa [allO] using this.symm
   subst hr
   go_wp2
   go_ret
   exact ⟨⟨_, rfl, by show _ = _; simp⟩, HB.out⟩
set_option maxHeartbeats 800000 in
theorem book_Port_112__113.c3 (k : Nat) (A0 : Option Addr) (c0 : Nat) (l : List (S60)) (r : Bool) (g : Nat) (w : World) (hr0 : Kd.C k60 w A0 l.length l) (hL : l.length ≤ 140737488351232) (hg : w.cell? ⟨g, 0, none⟩ = some (.func (.func 113) #[] #[])) (h : allO (fun x => book_Partition_right_7.f k (x.f0) (x.f1) (x.f2) (x.f3) (x.f4) (x.f5)) l = some r) :
  Calls Tryz.prog 150 #[.slice A0 l.length c0, .func (.func 151) #[] #[.pointer (some ⟨g, 0, none⟩)]] w fun e w' => e = .returned (.bool (!r)) ∧ Below w.heap.size w w' := by
 have HC := book_Port_112__113.c2 k A0 c0 l r g w hr0 hL hg h
 clear hr0 hg h
 go_enter Tryz.func150, Tryz.ntmps150
 go_wp2_with fail
 refine HC.mono ?_
 clear HC
 rintro e w' ⟨⟨q, rfl, hq⟩, hb⟩
 go_wp2
 go_ret
 exact ⟨by rw [← hq.out]; rfl, hb⟩
set_option maxHeartbeats 800000 in
theorem book_Port_112__113.calls (k : Nat) (A0 : Option Addr) (c0 : Nat) (l0 : List (S60)) (a1 : Int) (r : Bool) (w : World) (hr0 : Kd.C k60 w A0 l0.length l0) (hc0 : l0.length ≤ c0) (h : book_Port_112__113.f k l0 a1 = some r) :
  Calls Tryz.prog 112 #[.slice A0 l0.length c0, .int .i64 a1, .func (.func 113) #[] #[]] w fun e w' => e = .returned (.bool r) ∧ Below w.heap.size w w' := by
 unfold book_Port_112__113.f at h
 have HR := Aside0.mk hr0
 clear hr0
 have hbw : Below w.heap.size w (w.alloc (.cells #[.func (.func 113) #[] #[]] 167)) := alloc_below0 w _
 by_cases hle : (l0.length : Int) ≤ a1
 ·
  rw [if_pos hle] at h
  obtain ⟨hL, h2⟩ := if_some h
  clear h
  have h := h2
  clear h2
  have hd : decide ((l0.length : Int) ≤ a1) = true := decide_eq_true hle
  have HC := book_Port_112__113.c3 k A0 c0 l0 r w.heap.size (w.alloc (.cells #[.func (.func 113) #[] #[]] 167)) (Kd.C_alloc HR.out _) hL (by simp) h
  have HB := Aside0.mk hbw
  clear h hle hbw
  go_enter Tryz.func112, Tryz.ntmps112
  go_wp2_with fail
  refine HC.mono ?_
  clear HC
  rintro e w' ⟨rfl, hb⟩
  go_wp2
  go_ret
  exact ⟨by simp, below_step HB.out hb⟩
 ·
  rw [if_neg hle] at h
  obtain rfl := Option.some.inj h
  have hd : decide ((l0.length : Int) ≤ a1) = false := decide_eq_false hle
  clear h hle
  go_enter Tryz.func112, Tryz.ntmps112
  go_wp2
  go_ret
  exact ⟨rfl, hbw⟩

/-! ### book_Rule_40__41: function 40 at book_Rule_right -/
def book_Rule_40__41.f (l : List (S64)) (n : Int) : Option (Bool) := if (l.length : Int) ≤ n then (if l.length ≤ 140737488351232 then (allO (fun x => book_Rule_right.f (x.f0) (x.f1) (x.f2)) l) else none) else (some false)
set_option maxHeartbeats 800000 in
set_option maxRecDepth 100000 in
theorem book_Rule_40__41.c1 (x : S64) (r : Bool) (g : Nat) (w : World) (hg : w.cell? ⟨g, 0, none⟩ = some (.func (.func 41) #[] #[])) (h : book_Rule_right.f (x.f0) (x.f1) (x.f2) = some r) :
  Calls Tryz.prog 125 #[.agg #[.int .i64 (x.f0), .int .i64 (x.f1), .int .i64 (x.f2)], .pointer (some ⟨g, 0, none⟩)] w fun e w' => e = .returned (.bool (!r)) ∧ Below w.heap.size w w' := by
 have hgl := World.block_lt_of_cell? w _ hg
 have HH := Aside0.mk h
 clear h
 have hgw : (w.alloc (.cells #[.int .i64 (x.f0), .int .i64 (x.f1), .int .i64 (x.f2)] 64)).cell? ⟨g, 0, none⟩ = some (.func (.func 41) #[] #[]) := ((alloc_below0 w _).cell hgl).trans hg
 go_enter Tryz.func125, Tryz.ntmps125
 go_wp2_with fail
 refine (book_Rule_right.calls (x.f0) (x.f1) (x.f2) r _ HH.out).mono ?_
 rintro e w' ⟨rfl, hb⟩
 go_wp2
 go_ret
 exact ⟨by simp, below_step (alloc_below0 w _) hb⟩
set_option maxHeartbeats 2000000 in
set_option maxRecDepth 100000 in
theorem book_Rule_40__41.c2 (A0 : Option Addr) (c0 : Nat) (l : List (S64)) (r : Bool) (g : Nat) (w : World) (hr0 : Kd.C k64 w A0 l.length l) (hL : l.length ≤ 140737488351232) (hg : w.cell? ⟨g, 0, none⟩ = some (.func (.func 41) #[] #[])) (h : allO (fun x => book_Rule_right.f (x.f0) (x.f1) (x.f2)) l = some r) :
  Calls Tryz.prog 158 #[.slice A0 l.length c0, .func (.func 125) #[] #[.pointer (some ⟨g, 0, none⟩)]] w fun e w' => (∃ q : Int, e = .returned (.int .i64 q) ∧ Hid (decide (0 ≤ q) = !r)) ∧ Below w.heap.size w w' := by
 have hgl := World.block_lt_of_cell? w _ hg
 have HR0 := Aside0.mk hr0
 have HG := Aside0.mk hg
 have H0 : Aside0 (allO (fun x => book_Rule_right.f (x.f0) (x.f1) (x.f2)) (l.drop 0) = some r) := ⟨by simpa using h⟩
 clear hr0 hg h
 go_enter Tryz.func158, Tryz.ntmps158
 go_wp2
 go_loopw [8] (fun v8 wr => ∃ j : Nat, v8 = .int .i64 (j : Int) ∧ j ≤ l.length ∧ Aside0 (allO (fun x => book_Rule_right.f (x.f0) (x.f1) (x.f2)) (l.drop j) = some r) ∧ Aside0 (Below w.heap.size w wr)) (fun v8 _ => l.length - (intOf v8).toNat)
 case atStart => exact ⟨0, rfl, Nat.zero_le _, H0, ⟨Below.refl _ _⟩⟩
 case round =>
  clear H0
  obtain ⟨j, rfl, hj, HA, HB⟩ := hrel
  by_cases hlt : j < l.length
  ·
   have p7 : (0 : Int) ≤ (j : Int) := by omega
   have q7 : (j : Int) < (l.length : Int) := by omega
   obtain ⟨b, hb1, hb2, hb3⟩ := allO_cons hlt HA.out
   have HB1 := Aside0.mk hb1
   have HB2 := Aside0.mk hb2
   have HB3 := Aside0.mk hb3
   clear hb1 hb2 hb3
   obtain ⟨ad7, e7, hx7_0, hx7_1, hx7_2⟩ := at_T64 HR0.out (j : Int) p7 q7
   cases e7
   replace hx7_0 := (HB.out.cell (World.block_lt_of_cell? w _ hx7_0)).trans hx7_0
   replace hx7_1 := (HB.out.cell (World.block_lt_of_cell? w _ hx7_1)).trans hx7_1
   replace hx7_2 := (HB.out.cell (World.block_lt_of_cell? w _ hx7_2)).trans hx7_2
   have EX : Aside0 (rd_T64 l (j : Int) = l[j]) := ⟨by show l.getD _ _ = _; rw [Int.toNat_natCast, List.getD_eq_getElem?_getD, List.getElem?_eq_getElem hlt, Option.getD_some]⟩
   clear p7 q7
   generalize rd_T64 l (j : Int) = x at *
   have HC : Aside0 (book_Rule_right.f (x.f0) (x.f1) (x.f2) = some b) := ⟨by rw [EX.out]; exact HB1.out⟩
   clear HB1 EX
   simp only [Int.toNat_natCast] at *
   go_wp2_with fail
   refine (book_Rule_40__41.c1 x b g wr ((HB.out.cell hgl).trans HG.out) HC.out).mono ?_
   rintro e w9 ⟨rfl, hb⟩
   have HB9 : Aside0 (Below w.heap.size w w9) := ⟨below_step HB.out hb⟩
   clear hb HB
   cases b with
   | true =>
    go_wp2
    go_roundw
    case rel => exact ⟨j + 1, by go_num, by omega, ⟨HB2.out (by simp)⟩, HB9⟩
    case measure => simp [intOf]; omega
   | false =>
    go_wp2
    go_ret
    exact ⟨⟨_, rfl, by rw [HB3.out (by simp)]; show _ = _; simp⟩, HB9.out⟩
  ·
   obtain rfl : j = l.length := by omega
   have hr : r = true := by have := HA.out; rw [List.drop_length] at this; simpa [allO] using this.symm
   subst hr
   go_wp2
   go_ret
   exact ⟨⟨_, rfl, by show _ = _; simp⟩, HB.out⟩
set_option maxHeartbeats 800000 in
theorem book_Rule_40__41.c3 (A0 : Option Addr) (c0 : Nat) (l : List (S64)) (r : Bool) (g : Nat) (w : World) (hr0 : Kd.C k64 w A0 l.length l) (hL : l.length ≤ 140737488351232) (hg : w.cell? ⟨g, 0, none⟩ = some (.func (.func 41) #[] #[])) (h : allO (fun x => book_Rule_right.f (x.f0) (x.f1) (x.f2)) l = some r) :
  Calls Tryz.prog 124 #[.slice A0 l.length c0, .func (.func 125) #[] #[.pointer (some ⟨g, 0, none⟩)]] w fun e w' => e = .returned (.bool (!r)) ∧ Below w.heap.size w w' := by
 have HC := book_Rule_40__41.c2 A0 c0 l r g w hr0 hL hg h
 clear hr0 hg h
 go_enter Tryz.func124, Tryz.ntmps124
 go_wp2_with fail
 refine HC.mono ?_
 clear HC
 rintro e w' ⟨⟨q, rfl, hq⟩, hb⟩
 go_wp2
 go_ret
 exact ⟨by rw [← hq.out]; rfl, hb⟩
set_option maxHeartbeats 800000 in
theorem book_Rule_40__41.calls (A0 : Option Addr) (c0 : Nat) (l0 : List (S64)) (a1 : Int) (r : Bool) (w : World) (hr0 : Kd.C k64 w A0 l0.length l0) (hc0 : l0.length ≤ c0) (h : book_Rule_40__41.f l0 a1 = some r) :
  Calls Tryz.prog 40 #[.slice A0 l0.length c0, .int .i64 a1, .func (.func 41) #[] #[]] w fun e w' => e = .returned (.bool r) ∧ Below w.heap.size w w' := by
 unfold book_Rule_40__41.f at h
 have HR := Aside0.mk hr0
 clear hr0
 have hbw : Below w.heap.size w (w.alloc (.cells #[.func (.func 41) #[] #[]] 90)) := alloc_below0 w _
 by_cases hle : (l0.length : Int) ≤ a1
 ·
  rw [if_pos hle] at h
  obtain ⟨hL, h2⟩ := if_some h
  clear h
  have h := h2
  clear h2
  have hd : decide ((l0.length : Int) ≤ a1) = true := decide_eq_true hle
  have HC := book_Rule_40__41.c3 A0 c0 l0 r w.heap.size (w.alloc (.cells #[.func (.func 41) #[] #[]] 90)) (Kd.C_alloc HR.out _) hL (by simp) h
  have HB := Aside0.mk hbw
  clear h hle hbw
  go_enter Tryz.func40, Tryz.ntmps40
  go_wp2_with fail
  refine HC.mono ?_
  clear HC
  rintro e w' ⟨rfl, hb⟩
  go_wp2
  go_ret
  exact ⟨by simp, below_step HB.out hb⟩
 ·
  rw [if_neg hle] at h
  obtain rfl := Option.some.inj h
  have hd : decide ((l0.length : Int) ≤ a1) = false := decide_eq_false hle
  clear h hle
  go_enter Tryz.func40, Tryz.ntmps40
  go_wp2
  go_ret
  exact ⟨rfl, hbw⟩

/-! ### book_Partition_right: function 30 -/
def book_Partition_right.f (k : Nat) (a0_0 : ByteArray) (l0_1 : List (S62)) (l0_2 : List (S109)) (l0_3 : List (S111)) (l0_4 : List (S113)) (l0_5 : List (S115)) (l0_6 : List (S117)) (l0_7 : List (S119)) (l0_8 : List (S60)) (l0_9 : List (S64)) (a0_10 : Int) (a0_11 : Int) (a0_12 : Int) : Option (Bool) := (book_Name.f k a0_0).bind fun t150 => (if t150 = true then ((book_Area_98__99.f k l0_1 16).bind fun t151 => (if t151 = true then ((book_Task_100__101.f k l0_2 16).bind fun t152 => (if t152 = true then ((book_Lock_102__103.f k l0_3 16).bind fun t153 => (if t153 = true then ((book_Sema_104__105.f k l0_4 16).bind fun t154 => (if t154 = true then ((book_Event_106__107.f k l0_5 16).bind fun t155 => (if t155 = true then ((book_Board_108__109.f k l0_6 16).bind fun t156 => (if t156 = true then ((book_Buffer_110__111.f k l0_7 16).bind fun t157 => (if t157 = true then ((book_Port_112__113.f k l0_8 16).bind fun t158 => (if t158 = true then ((book_Rule_40__41.f l0_9 32).bind fun t159 => (if t159 = true then ((book_within.f a0_10 0 1000).bind fun t160 => (if t160 = true then ((book_within.f a0_11 0 1048576).bind fun t161 => (if t161 = true then ((book_within.f a0_12 0 1048576).bind fun t162 => (some t162)) else (some false))) else (some false))) else (some false))) else (some false))) else (some false))) else (some false))) else (some false))) else (some false))) else (some false))) else (some false))) else (some false))) else (some false))
theorem book_Partition_right.mono : ∀ a0 a1 a2 a3 a4 a5 a6 a7 a8 a9 a10 a11 a12 k, LeO (book_Partition_right.f k a0 a1 a2 a3 a4 a5 a6 a7 a8 a9 a10 a11 a12) (book_Partition_right.f (k + 1) a0 a1 a2 a3 a4 a5 a6 a7 a8 a9 a10 a11 a12) := by
  intro a0 a1 a2 a3 a4 a5 a6 a7 a8 a9 a10 a11 a12 k
  unfold book_Partition_right.f
  repeat' first
      | (with_reducible exact book_Area_98__99.mono _ _ _)
      | (with_reducible exact book_Board_108__109.mono _ _ _)
      | (with_reducible exact book_Buffer_110__111.mono _ _ _)
      | (with_reducible exact book_Event_106__107.mono _ _ _)
      | (with_reducible exact book_Lock_102__103.mono _ _ _)
      | (with_reducible exact book_Name.mono _ _)
      | (with_reducible exact book_Port_112__113.mono _ _ _)
      | (with_reducible exact book_Sema_104__105.mono _ _ _)
      | (with_reducible exact book_Task_100__101.mono _ _ _)
      | (with_reducible exact LeO.refl _)
      | (with_reducible exact LeO.none _)
      | (with_reducible refine LeO.ite ?_ ?_)
      | (with_reducible refine LeO.bind ?_ (fun _ => ?_))
      | exact book_Area_98__99.mono _ _ _
      | exact book_Board_108__109.mono _ _ _
      | exact book_Buffer_110__111.mono _ _ _
      | exact book_Event_106__107.mono _ _ _
      | exact book_Lock_102__103.mono _ _ _
      | exact book_Name.mono _ _
      | exact book_Port_112__113.mono _ _ _
      | exact book_Sema_104__105.mono _ _ _
      | exact book_Task_100__101.mono _ _ _
      | exact LeO.none _
      | refine LeO.ite ?_ ?_
      | refine LeO.bind ?_ (fun _ => ?_)
set_option maxHeartbeats 8000000 in
set_option maxRecDepth 100000 in
theorem book_Partition_right.calls (k : Nat) (a0_0 : ByteArray) (A0_1 : Option Addr) (c0_1 : Nat) (l0_1 : List (S62)) (A0_2 : Option Addr) (c0_2 : Nat) (l0_2 : List (S109)) (A0_3 : Option Addr) (c0_3 : Nat) (l0_3 : List (S111)) (A0_4 : Option Addr) (c0_4 : Nat) (l0_4 : List (S113)) (A0_5 : Option Addr) (c0_5 : Nat) (l0_5 : List (S115)) (A0_6 : Option Addr) (c0_6 : Nat) (l0_6 : List (S117)) (A0_7 : Option Addr) (c0_7 : Nat) (l0_7 : List (S119)) (A0_8 : Option Addr) (c0_8 : Nat) (l0_8 : List (S60)) (A0_9 : Option Addr) (c0_9 : Nat) (l0_9 : List (S64)) (a0_10 : Int) (a0_11 : Int) (a0_12 : Int) (r : Bool) (w : World) (hr0_1 : Kd.C k62 w A0_1 l0_1.length l0_1) (hc0_1 : l0_1.length ≤ c0_1) (hr0_2 : Kd.C k109 w A0_2 l0_2.length l0_2) (hc0_2 : l0_2.length ≤ c0_2) (hr0_3 : Kd.C k111 w A0_3 l0_3.length l0_3) (hc0_3 : l0_3.length ≤ c0_3) (hr0_4 : Kd.C k113 w A0_4 l0_4.length l0_4) (hc0_4 : l0_4.length ≤ c0_4) (hr0_5 : Kd.C k115 w A0_5 l0_5.length l0_5) (hc0_5 : l0_5.length ≤ c0_5) (hr0_6 : Kd.C k117 w A0_6 l0_6.length l0_6) (hc0_6 : l0_6.length ≤ c0_6) (hr0_7 : Kd.C k119 w A0_7 l0_7.length l0_7) (hc0_7 : l0_7.length ≤ c0_7) (hr0_8 : Kd.C k60 w A0_8 l0_8.length l0_8) (hc0_8 : l0_8.length ≤ c0_8) (hr0_9 : Kd.C k64 w A0_9 l0_9.length l0_9) (hc0_9 : l0_9.length ≤ c0_9) (h : book_Partition_right.f k a0_0 l0_1 l0_2 l0_3 l0_4 l0_5 l0_6 l0_7 l0_8 l0_9 a0_10 a0_11 a0_12 = some r) :
    Calls Tryz.prog 30 #[.agg #[.string a0_0, .slice A0_1 l0_1.length c0_1, .slice A0_2 l0_2.length c0_2, .slice A0_3 l0_3.length c0_3, .slice A0_4 l0_4.length c0_4, .slice A0_5 l0_5.length c0_5, .slice A0_6 l0_6.length c0_6, .slice A0_7 l0_7.length c0_7, .slice A0_8 l0_8.length c0_8, .slice A0_9 l0_9.length c0_9, .int .i64 a0_10, .int .i64 a0_11, .int .i64 a0_12]] w fun e w' => e = .returned (.bool r) ∧ Below w.heap.size w w' := by
 have HR0_1 := Aside0.mk hr0_1
 have HC0_1 := Aside0.mk hc0_1
 clear hr0_1 hc0_1
 have HR0_2 := Aside0.mk hr0_2
 have HC0_2 := Aside0.mk hc0_2
 clear hr0_2 hc0_2
 have HR0_3 := Aside0.mk hr0_3
 have HC0_3 := Aside0.mk hc0_3
 clear hr0_3 hc0_3
 have HR0_4 := Aside0.mk hr0_4
 have HC0_4 := Aside0.mk hc0_4
 clear hr0_4 hc0_4
 have HR0_5 := Aside0.mk hr0_5
 have HC0_5 := Aside0.mk hc0_5
 clear hr0_5 hc0_5
 have HR0_6 := Aside0.mk hr0_6
 have HC0_6 := Aside0.mk hc0_6
 clear hr0_6 hc0_6
 have HR0_7 := Aside0.mk hr0_7
 have HC0_7 := Aside0.mk hc0_7
 clear hr0_7 hc0_7
 have HR0_8 := Aside0.mk hr0_8
 have HC0_8 := Aside0.mk hc0_8
 clear hr0_8 hc0_8
 have HR0_9 := Aside0.mk hr0_9
 have HC0_9 := Aside0.mk hc0_9
 clear hr0_9 hc0_9
 unfold book_Partition_right.f at h
 have H := Aside0.mk h
 clear h
 have HB := Aside0.mk (Below.refl w.heap.size w)
 have hu52 := Tryz.underlying52
 go_enter Tryz.func30, Tryz.ntmps30
 have BK97 := Aside0.mk (pe_box0 w #[.string a0_0, .slice A0_1 l0_1.length c0_1, .slice A0_2 l0_2.length c0_2, .slice A0_3 l0_3.length c0_3, .slice A0_4 l0_4.length c0_4, .slice A0_5 l0_5.length c0_5, .slice A0_6 l0_6.length c0_6, .slice A0_7 l0_7.length c0_7, .slice A0_8 l0_8.length c0_8, .slice A0_9 l0_9.length c0_9, .int .i64 a0_10, .int .i64 a0_11, .int .i64 a0_12] 52)
 replace HB := Aside0.mk (below_alloc HB.out (.cells #[.string a0_0, .slice A0_1 l0_1.length c0_1, .slice A0_2 l0_2.length c0_2, .slice A0_3 l0_3.length c0_3, .slice A0_4 l0_4.length c0_4, .slice A0_5 l0_5.length c0_5, .slice A0_6 l0_6.length c0_6, .slice A0_7 l0_7.length c0_7, .slice A0_8 l0_8.length c0_8, .slice A0_9 l0_9.length c0_9, .int .i64 a0_10, .int .i64 a0_11, .int .i64 a0_12] 52))
 obtain ⟨t150, q98, H1⟩ := Option.bind_eq_some_iff.mp H.out
 replace H := Aside0.mk H1
 replace q98 := Aside0.mk q98
 clear H1
 go_wp2_with fail
 (with_reducible refine (book_Name.calls k a0_0 t150 _  q98.out).mono ?_)
 clear q98
 rintro e w99 ⟨rfl, hd⟩
 have hb := hd.below
 clear hd
 replace HB := Aside0.mk (below_step HB.out hb)
 replace BK97 := Aside0.mk (blk_below BK97.out hb)
 clear hb
 obtain ⟨hz100_97_0, hz100_97_1, hz100_97_2, hz100_97_3, hz100_97_4, hz100_97_5, hz100_97_6, hz100_97_7, hz100_97_8, hz100_97_9, hz100_97_10, hz100_97_11, hz100_97_12, hf100_97_0, hf100_97_1, hf100_97_2, hf100_97_3, hf100_97_4, hf100_97_5, hf100_97_6, hf100_97_7, hf100_97_8, hf100_97_9, hf100_97_10, hf100_97_11, hf100_97_12⟩ := blk13 BK97.out
 by_cases c101 : t150 = true
 · have H1 := H.out
   rw [if_pos c101] at H1
   replace H := Aside0.mk H1
   clear H1
   subst c101
   obtain ⟨t151, q102, H1⟩ := Option.bind_eq_some_iff.mp H.out
   replace H := Aside0.mk H1
   replace q102 := Aside0.mk q102
   clear H1
   go_wp2_with fail
   (with_reducible refine (book_Area_98__99.calls k _ _ l0_1 16 t151 _ (Kd.C_below HR0_1.out HB.out) HC0_1.out q102.out).mono ?_)
   clear q102
   rintro e w103 ⟨rfl, hb⟩
   replace HB := Aside0.mk (below_step HB.out hb)
   replace BK97 := Aside0.mk (blk_below BK97.out hb)
   clear hb
   try clear hz100_97_0 hz100_97_1 hz100_97_2 hz100_97_3 hz100_97_4 hz100_97_5 hz100_97_6 hz100_97_7 hz100_97_8 hz100_97_9 hz100_97_10 hz100_97_11 hz100_97_12 hf100_97_0 hf100_97_1 hf100_97_2 hf100_97_3 hf100_97_4 hf100_97_5 hf100_97_6 hf100_97_7 hf100_97_8 hf100_97_9 hf100_97_10 hf100_97_11 hf100_97_12
   obtain ⟨hz104_97_0, hz104_97_1, hz104_97_2, hz104_97_3, hz104_97_4, hz104_97_5, hz104_97_6, hz104_97_7, hz104_97_8, hz104_97_9, hz104_97_10, hz104_97_11, hz104_97_12, hf104_97_0, hf104_97_1, hf104_97_2, hf104_97_3, hf104_97_4, hf104_97_5, hf104_97_6, hf104_97_7, hf104_97_8, hf104_97_9, hf104_97_10, hf104_97_11, hf104_97_12⟩ := blk13 BK97.out
   by_cases c105 : t151 = true
   · have H1 := H.out
     rw [if_pos c105] at H1
     replace H := Aside0.mk H1
     clear H1
     subst c105
     obtain ⟨t152, q106, H1⟩ := Option.bind_eq_some_iff.mp H.out
     replace H := Aside0.mk H1
     replace q106 := Aside0.mk q106
     clear H1
     go_wp2_with fail
     (with_reducible refine (book_Task_100__101.calls k _ _ l0_2 16 t152 _ (Kd.C_below HR0_2.out HB.out) HC0_2.out q106.out).mono ?_)
     clear q106
     rintro e w107 ⟨rfl, hb⟩
     replace HB := Aside0.mk (below_step HB.out hb)
     replace BK97 := Aside0.mk (blk_below BK97.out hb)
     clear hb
     try clear hz104_97_0 hz104_97_1 hz104_97_2 hz104_97_3 hz104_97_4 hz104_97_5 hz104_97_6 hz104_97_7 hz104_97_8 hz104_97_9 hz104_97_10 hz104_97_11 hz104_97_12 hf104_97_0 hf104_97_1 hf104_97_2 hf104_97_3 hf104_97_4 hf104_97_5 hf104_97_6 hf104_97_7 hf104_97_8 hf104_97_9 hf104_97_10 hf104_97_11 hf104_97_12
     obtain ⟨hz108_97_0, hz108_97_1, hz108_97_2, hz108_97_3, hz108_97_4, hz108_97_5, hz108_97_6, hz108_97_7, hz108_97_8, hz108_97_9, hz108_97_10, hz108_97_11, hz108_97_12, hf108_97_0, hf108_97_1, hf108_97_2, hf108_97_3, hf108_97_4, hf108_97_5, hf108_97_6, hf108_97_7, hf108_97_8, hf108_97_9, hf108_97_10, hf108_97_11, hf108_97_12⟩ := blk13 BK97.out
     by_cases c109 : t152 = true
     · have H1 := H.out
       rw [if_pos c109] at H1
       replace H := Aside0.mk H1
       clear H1
       subst c109
       obtain ⟨t153, q110, H1⟩ := Option.bind_eq_some_iff.mp H.out
       replace H := Aside0.mk H1
       replace q110 := Aside0.mk q110
       clear H1
       go_wp2_with fail
       (with_reducible refine (book_Lock_102__103.calls k _ _ l0_3 16 t153 _ (Kd.C_below HR0_3.out HB.out) HC0_3.out q110.out).mono ?_)
       clear q110
       rintro e w111 ⟨rfl, hb⟩
       replace HB := Aside0.mk (below_step HB.out hb)
       replace BK97 := Aside0.mk (blk_below BK97.out hb)
       clear hb
       try clear hz108_97_0 hz108_97_1 hz108_97_2 hz108_97_3 hz108_97_4 hz108_97_5 hz108_97_6 hz108_97_7 hz108_97_8 hz108_97_9 hz108_97_10 hz108_97_11 hz108_97_12 hf108_97_0 hf108_97_1 hf108_97_2 hf108_97_3 hf108_97_4 hf108_97_5 hf108_97_6 hf108_97_7 hf108_97_8 hf108_97_9 hf108_97_10 hf108_97_11 hf108_97_12
       obtain ⟨hz112_97_0, hz112_97_1, hz112_97_2, hz112_97_3, hz112_97_4, hz112_97_5, hz112_97_6, hz112_97_7, hz112_97_8, hz112_97_9, hz112_97_10, hz112_97_11, hz112_97_12, hf112_97_0, hf112_97_1, hf112_97_2, hf112_97_3, hf112_97_4, hf112_97_5, hf112_97_6, hf112_97_7, hf112_97_8, hf112_97_9, hf112_97_10, hf112_97_11, hf112_97_12⟩ := blk13 BK97.out
       by_cases c113 : t153 = true
       · have H1 := H.out
         rw [if_pos c113] at H1
         replace H := Aside0.mk H1
         clear H1
         subst c113
         obtain ⟨t154, q114, H1⟩ := Option.bind_eq_some_iff.mp H.out
         replace H := Aside0.mk H1
         replace q114 := Aside0.mk q114
         clear H1
         go_wp2_with fail
         (with_reducible refine (book_Sema_104__105.calls k _ _ l0_4 16 t154 _ (Kd.C_below HR0_4.out HB.out) HC0_4.out q114.out).mono ?_)
         clear q114
         rintro e w115 ⟨rfl, hb⟩
         replace HB := Aside0.mk (below_step HB.out hb)
         replace BK97 := Aside0.mk (blk_below BK97.out hb)
         clear hb
         try clear hz112_97_0 hz112_97_1 hz112_97_2 hz112_97_3 hz112_97_4 hz112_97_5 hz112_97_6 hz112_97_7 hz112_97_8 hz112_97_9 hz112_97_10 hz112_97_11 hz112_97_12 hf112_97_0 hf112_97_1 hf112_97_2 hf112_97_3 hf112_97_4 hf112_97_5 hf112_97_6 hf112_97_7 hf112_97_8 hf112_97_9 hf112_97_10 hf112_97_11 hf112_97_12
         obtain ⟨hz116_97_0, hz116_97_1, hz116_97_2, hz116_97_3, hz116_97_4, hz116_97_5, hz116_97_6, hz116_97_7, hz116_97_8, hz116_97_9, hz116_97_10, hz116_97_11, hz116_97_12, hf116_97_0, hf116_97_1, hf116_97_2, hf116_97_3, hf116_97_4, hf116_97_5, hf116_97_6, hf116_97_7, hf116_97_8, hf116_97_9, hf116_97_10, hf116_97_11, hf116_97_12⟩ := blk13 BK97.out
         by_cases c117 : t154 = true
         · have H1 := H.out
           rw [if_pos c117] at H1
           replace H := Aside0.mk H1
           clear H1
           subst c117
           obtain ⟨t155, q118, H1⟩ := Option.bind_eq_some_iff.mp H.out
           replace H := Aside0.mk H1
           replace q118 := Aside0.mk q118
           clear H1
           go_wp2_with fail
           (with_reducible refine (book_Event_106__107.calls k _ _ l0_5 16 t155 _ (Kd.C_below HR0_5.out HB.out) HC0_5.out q118.out).mono ?_)
           clear q118
           rintro e w119 ⟨rfl, hb⟩
           replace HB := Aside0.mk (below_step HB.out hb)
           replace BK97 := Aside0.mk (blk_below BK97.out hb)
           clear hb
           try clear hz116_97_0 hz116_97_1 hz116_97_2 hz116_97_3 hz116_97_4 hz116_97_5 hz116_97_6 hz116_97_7 hz116_97_8 hz116_97_9 hz116_97_10 hz116_97_11 hz116_97_12 hf116_97_0 hf116_97_1 hf116_97_2 hf116_97_3 hf116_97_4 hf116_97_5 hf116_97_6 hf116_97_7 hf116_97_8 hf116_97_9 hf116_97_10 hf116_97_11 hf116_97_12
           obtain ⟨hz120_97_0, hz120_97_1, hz120_97_2, hz120_97_3, hz120_97_4, hz120_97_5, hz120_97_6, hz120_97_7, hz120_97_8, hz120_97_9, hz120_97_10, hz120_97_11, hz120_97_12, hf120_97_0, hf120_97_1, hf120_97_2, hf120_97_3, hf120_97_4, hf120_97_5, hf120_97_6, hf120_97_7, hf120_97_8, hf120_97_9, hf120_97_10, hf120_97_11, hf120_97_12⟩ := blk13 BK97.out
           by_cases c121 : t155 = true
           · have H1 := H.out
             rw [if_pos c121] at H1
             replace H := Aside0.mk H1
             clear H1
             subst c121
             obtain ⟨t156, q122, H1⟩ := Option.bind_eq_some_iff.mp H.out
             replace H := Aside0.mk H1
             replace q122 := Aside0.mk q122
             clear H1
             go_wp2_with fail
             (with_reducible refine (book_Board_108__109.calls k _ _ l0_6 16 t156 _ (Kd.C_below HR0_6.out HB.out) HC0_6.out q122.out).mono ?_)
             clear q122
             rintro e w123 ⟨rfl, hb⟩
             replace HB := Aside0.mk (below_step HB.out hb)
             replace BK97 := Aside0.mk (blk_below BK97.out hb)
             clear hb
             try clear hz120_97_0 hz120_97_1 hz120_97_2 hz120_97_3 hz120_97_4 hz120_97_5 hz120_97_6 hz120_97_7 hz120_97_8 hz120_97_9 hz120_97_10 hz120_97_11 hz120_97_12 hf120_97_0 hf120_97_1 hf120_97_2 hf120_97_3 hf120_97_4 hf120_97_5 hf120_97_6 hf120_97_7 hf120_97_8 hf120_97_9 hf120_97_10 hf120_97_11 hf120_97_12
             obtain ⟨hz124_97_0, hz124_97_1, hz124_97_2, hz124_97_3, hz124_97_4, hz124_97_5, hz124_97_6, hz124_97_7, hz124_97_8, hz124_97_9, hz124_97_10, hz124_97_11, hz124_97_12, hf124_97_0, hf124_97_1, hf124_97_2, hf124_97_3, hf124_97_4, hf124_97_5, hf124_97_6, hf124_97_7, hf124_97_8, hf124_97_9, hf124_97_10, hf124_97_11, hf124_97_12⟩ := blk13 BK97.out
             by_cases c125 : t156 = true
             · have H1 := H.out
               rw [if_pos c125] at H1
               replace H := Aside0.mk H1
               clear H1
               subst c125
               obtain ⟨t157, q126, H1⟩ := Option.bind_eq_some_iff.mp H.out
               replace H := Aside0.mk H1
               replace q126 := Aside0.mk q126
               clear H1
               go_wp2_with fail
               (with_reducible refine (book_Buffer_110__111.calls k _ _ l0_7 16 t157 _ (Kd.C_below HR0_7.out HB.out) HC0_7.out q126.out).mono ?_)
               clear q126
               rintro e w127 ⟨rfl, hb⟩
               replace HB := Aside0.mk (below_step HB.out hb)
               replace BK97 := Aside0.mk (blk_below BK97.out hb)
               clear hb
               try clear hz124_97_0 hz124_97_1 hz124_97_2 hz124_97_3 hz124_97_4 hz124_97_5 hz124_97_6 hz124_97_7 hz124_97_8 hz124_97_9 hz124_97_10 hz124_97_11 hz124_97_12 hf124_97_0 hf124_97_1 hf124_97_2 hf124_97_3 hf124_97_4 hf124_97_5 hf124_97_6 hf124_97_7 hf124_97_8 hf124_97_9 hf124_97_10 hf124_97_11 hf124_97_12
               obtain ⟨hz128_97_0, hz128_97_1, hz128_97_2, hz128_97_3, hz128_97_4, hz128_97_5, hz128_97_6, hz128_97_7, hz128_97_8, hz128_97_9, hz128_97_10, hz128_97_11, hz128_97_12, hf128_97_0, hf128_97_1, hf128_97_2, hf128_97_3, hf128_97_4, hf128_97_5, hf128_97_6, hf128_97_7, hf128_97_8, hf128_97_9, hf128_97_10, hf128_97_11, hf128_97_12⟩ := blk13 BK97.out
               by_cases c129 : t157 = true
               · have H1 := H.out
                 rw [if_pos c129] at H1
                 replace H := Aside0.mk H1
                 clear H1
                 subst c129
                 obtain ⟨t158, q130, H1⟩ := Option.bind_eq_some_iff.mp H.out
                 replace H := Aside0.mk H1
                 replace q130 := Aside0.mk q130
                 clear H1
                 go_wp2_with fail
                 (with_reducible refine (book_Port_112__113.calls k _ _ l0_8 16 t158 _ (Kd.C_below HR0_8.out HB.out) HC0_8.out q130.out).mono ?_)
                 clear q130
                 rintro e w131 ⟨rfl, hb⟩
                 replace HB := Aside0.mk (below_step HB.out hb)
                 replace BK97 := Aside0.mk (blk_below BK97.out hb)
                 clear hb
                 try clear hz128_97_0 hz128_97_1 hz128_97_2 hz128_97_3 hz128_97_4 hz128_97_5 hz128_97_6 hz128_97_7 hz128_97_8 hz128_97_9 hz128_97_10 hz128_97_11 hz128_97_12 hf128_97_0 hf128_97_1 hf128_97_2 hf128_97_3 hf128_97_4 hf128_97_5 hf128_97_6 hf128_97_7 hf128_97_8 hf128_97_9 hf128_97_10 hf128_97_11 hf128_97_12
                 obtain ⟨hz132_97_0, hz132_97_1, hz132_97_2, hz132_97_3, hz132_97_4, hz132_97_5, hz132_97_6, hz132_97_7, hz132_97_8, hz132_97_9, hz132_97_10, hz132_97_11, hz132_97_12, hf132_97_0, hf132_97_1, hf132_97_2, hf132_97_3, hf132_97_4, hf132_97_5, hf132_97_6, hf132_97_7, hf132_97_8, hf132_97_9, hf132_97_10, hf132_97_11, hf132_97_12⟩ := blk13 BK97.out
                 by_cases c133 : t158 = true
                 · have H1 := H.out
                   rw [if_pos c133] at H1
                   replace H := Aside0.mk H1
                   clear H1
                   subst c133
                   obtain ⟨t159, q134, H1⟩ := Option.bind_eq_some_iff.mp H.out
                   replace H := Aside0.mk H1
                   replace q134 := Aside0.mk q134
                   clear H1
                   go_wp2_with fail
                   (with_reducible refine (book_Rule_40__41.calls _ _ l0_9 32 t159 _ (Kd.C_below HR0_9.out HB.out) HC0_9.out q134.out).mono ?_)
                   clear q134
                   rintro e w135 ⟨rfl, hb⟩
                   replace HB := Aside0.mk (below_step HB.out hb)
                   replace BK97 := Aside0.mk (blk_below BK97.out hb)
                   clear hb
                   try clear hz132_97_0 hz132_97_1 hz132_97_2 hz132_97_3 hz132_97_4 hz132_97_5 hz132_97_6 hz132_97_7 hz132_97_8 hz132_97_9 hz132_97_10 hz132_97_11 hz132_97_12 hf132_97_0 hf132_97_1 hf132_97_2 hf132_97_3 hf132_97_4 hf132_97_5 hf132_97_6 hf132_97_7 hf132_97_8 hf132_97_9 hf132_97_10 hf132_97_11 hf132_97_12
                   obtain ⟨hz136_97_0, hz136_97_1, hz136_97_2, hz136_97_3, hz136_97_4, hz136_97_5, hz136_97_6, hz136_97_7, hz136_97_8, hz136_97_9, hz136_97_10, hz136_97_11, hz136_97_12, hf136_97_0, hf136_97_1, hf136_97_2, hf136_97_3, hf136_97_4, hf136_97_5, hf136_97_6, hf136_97_7, hf136_97_8, hf136_97_9, hf136_97_10, hf136_97_11, hf136_97_12⟩ := blk13 BK97.out
                   by_cases c137 : t159 = true
                   · have H1 := H.out
                     rw [if_pos c137] at H1
                     replace H := Aside0.mk H1
                     clear H1
                     subst c137
                     obtain ⟨t160, q138, H1⟩ := Option.bind_eq_some_iff.mp H.out
                     replace H := Aside0.mk H1
                     replace q138 := Aside0.mk q138
                     clear H1
                     go_wp2_with fail
                     (with_reducible refine (book_within.calls a0_10 0 1000 t160 _  q138.out).mono ?_)
                     clear q138
                     rintro e w139 ⟨rfl, hd⟩
                     have hb := hd.below
                     clear hd
                     replace HB := Aside0.mk (below_step HB.out hb)
                     replace BK97 := Aside0.mk (blk_below BK97.out hb)
                     clear hb
                     try clear hz136_97_0 hz136_97_1 hz136_97_2 hz136_97_3 hz136_97_4 hz136_97_5 hz136_97_6 hz136_97_7 hz136_97_8 hz136_97_9 hz136_97_10 hz136_97_11 hz136_97_12 hf136_97_0 hf136_97_1 hf136_97_2 hf136_97_3 hf136_97_4 hf136_97_5 hf136_97_6 hf136_97_7 hf136_97_8 hf136_97_9 hf136_97_10 hf136_97_11 hf136_97_12
                     obtain ⟨hz140_97_0, hz140_97_1, hz140_97_2, hz140_97_3, hz140_97_4, hz140_97_5, hz140_97_6, hz140_97_7, hz140_97_8, hz140_97_9, hz140_97_10, hz140_97_11, hz140_97_12, hf140_97_0, hf140_97_1, hf140_97_2, hf140_97_3, hf140_97_4, hf140_97_5, hf140_97_6, hf140_97_7, hf140_97_8, hf140_97_9, hf140_97_10, hf140_97_11, hf140_97_12⟩ := blk13 BK97.out
                     by_cases c141 : t160 = true
                     · have H1 := H.out
                       rw [if_pos c141] at H1
                       replace H := Aside0.mk H1
                       clear H1
                       subst c141
                       obtain ⟨t161, q142, H1⟩ := Option.bind_eq_some_iff.mp H.out
                       replace H := Aside0.mk H1
                       replace q142 := Aside0.mk q142
                       clear H1
                       go_wp2_with fail
                       (with_reducible refine (book_within.calls a0_11 0 1048576 t161 _  q142.out).mono ?_)
                       clear q142
                       rintro e w143 ⟨rfl, hd⟩
                       have hb := hd.below
                       clear hd
                       replace HB := Aside0.mk (below_step HB.out hb)
                       replace BK97 := Aside0.mk (blk_below BK97.out hb)
                       clear hb
                       try clear hz140_97_0 hz140_97_1 hz140_97_2 hz140_97_3 hz140_97_4 hz140_97_5 hz140_97_6 hz140_97_7 hz140_97_8 hz140_97_9 hz140_97_10 hz140_97_11 hz140_97_12 hf140_97_0 hf140_97_1 hf140_97_2 hf140_97_3 hf140_97_4 hf140_97_5 hf140_97_6 hf140_97_7 hf140_97_8 hf140_97_9 hf140_97_10 hf140_97_11 hf140_97_12
                       obtain ⟨hz144_97_0, hz144_97_1, hz144_97_2, hz144_97_3, hz144_97_4, hz144_97_5, hz144_97_6, hz144_97_7, hz144_97_8, hz144_97_9, hz144_97_10, hz144_97_11, hz144_97_12, hf144_97_0, hf144_97_1, hf144_97_2, hf144_97_3, hf144_97_4, hf144_97_5, hf144_97_6, hf144_97_7, hf144_97_8, hf144_97_9, hf144_97_10, hf144_97_11, hf144_97_12⟩ := blk13 BK97.out
                       by_cases c145 : t161 = true
                       · have H1 := H.out
                         rw [if_pos c145] at H1
                         replace H := Aside0.mk H1
                         clear H1
                         subst c145
                         obtain ⟨t162, q146, H1⟩ := Option.bind_eq_some_iff.mp H.out
                         replace H := Aside0.mk H1
                         replace q146 := Aside0.mk q146
                         clear H1
                         go_wp2_with fail
                         (with_reducible refine (book_within.calls a0_12 0 1048576 t162 _  q146.out).mono ?_)
                         clear q146
                         rintro e w147 ⟨rfl, hd⟩
                         have hb := hd.below
                         clear hd
                         replace HB := Aside0.mk (below_step HB.out hb)
                         replace BK97 := Aside0.mk (blk_below BK97.out hb)
                         clear hb
                         try clear hz144_97_0 hz144_97_1 hz144_97_2 hz144_97_3 hz144_97_4 hz144_97_5 hz144_97_6 hz144_97_7 hz144_97_8 hz144_97_9 hz144_97_10 hz144_97_11 hz144_97_12 hf144_97_0 hf144_97_1 hf144_97_2 hf144_97_3 hf144_97_4 hf144_97_5 hf144_97_6 hf144_97_7 hf144_97_8 hf144_97_9 hf144_97_10 hf144_97_11 hf144_97_12
                         obtain ⟨hz148_97_0, hz148_97_1, hz148_97_2, hz148_97_3, hz148_97_4, hz148_97_5, hz148_97_6, hz148_97_7, hz148_97_8, hz148_97_9, hz148_97_10, hz148_97_11, hz148_97_12, hf148_97_0, hf148_97_1, hf148_97_2, hf148_97_3, hf148_97_4, hf148_97_5, hf148_97_6, hf148_97_7, hf148_97_8, hf148_97_9, hf148_97_10, hf148_97_11, hf148_97_12⟩ := blk13 BK97.out
                         obtain rfl := Option.some.inj H.out
                         go_wp2
                         go_ret
                         exact ⟨by first | rfl | (simp; done) | (simp [*]; done), HB.out⟩
                       · have H1 := H.out
                         rw [if_neg c145] at H1
                         replace H := Aside0.mk H1
                         clear H1
                         replace c145 := Bool.eq_false_iff.mpr c145
                         subst c145
                         obtain rfl := Option.some.inj H.out
                         go_wp2
                         go_ret
                         exact ⟨by first | rfl | (simp; done) | (simp [*]; done), HB.out⟩
                     · have H1 := H.out
                       rw [if_neg c141] at H1
                       replace H := Aside0.mk H1
                       clear H1
                       replace c141 := Bool.eq_false_iff.mpr c141
                       subst c141
                       obtain rfl := Option.some.inj H.out
                       go_wp2
                       go_ret
                       exact ⟨by first | rfl | (simp; done) | (simp [*]; done), HB.out⟩
                   · have H1 := H.out
                     rw [if_neg c137] at H1
                     replace H := Aside0.mk H1
                     clear H1
                     replace c137 := Bool.eq_false_iff.mpr c137
                     subst c137
                     obtain rfl := Option.some.inj H.out
                     go_wp2
                     go_ret
                     exact ⟨by first | rfl | (simp; done) | (simp [*]; done), HB.out⟩
                 · have H1 := H.out
                   rw [if_neg c133] at H1
                   replace H := Aside0.mk H1
                   clear H1
                   replace c133 := Bool.eq_false_iff.mpr c133
                   subst c133
                   obtain rfl := Option.some.inj H.out
                   go_wp2
                   go_ret
                   exact ⟨by first | rfl | (simp; done) | (simp [*]; done), HB.out⟩
               · have H1 := H.out
                 rw [if_neg c129] at H1
                 replace H := Aside0.mk H1
                 clear H1
                 replace c129 := Bool.eq_false_iff.mpr c129
                 subst c129
                 obtain rfl := Option.some.inj H.out
                 go_wp2
                 go_ret
                 exact ⟨by first | rfl | (simp; done) | (simp [*]; done), HB.out⟩
             · have H1 := H.out
               rw [if_neg c125] at H1
               replace H := Aside0.mk H1
               clear H1
               replace c125 := Bool.eq_false_iff.mpr c125
               subst c125
               obtain rfl := Option.some.inj H.out
               go_wp2
               go_ret
               exact ⟨by first | rfl | (simp; done) | (simp [*]; done), HB.out⟩
           · have H1 := H.out
             rw [if_neg c121] at H1
             replace H := Aside0.mk H1
             clear H1
             replace c121 := Bool.eq_false_iff.mpr c121
             subst c121
             obtain rfl := Option.some.inj H.out
             go_wp2
             go_ret
             exact ⟨by first | rfl | (simp; done) | (simp [*]; done), HB.out⟩
         · have H1 := H.out
           rw [if_neg c117] at H1
           replace H := Aside0.mk H1
           clear H1
           replace c117 := Bool.eq_false_iff.mpr c117
           subst c117
           obtain rfl := Option.some.inj H.out
           go_wp2
           go_ret
           exact ⟨by first | rfl | (simp; done) | (simp [*]; done), HB.out⟩
       · have H1 := H.out
         rw [if_neg c113] at H1
         replace H := Aside0.mk H1
         clear H1
         replace c113 := Bool.eq_false_iff.mpr c113
         subst c113
         obtain rfl := Option.some.inj H.out
         go_wp2
         go_ret
         exact ⟨by first | rfl | (simp; done) | (simp [*]; done), HB.out⟩
     · have H1 := H.out
       rw [if_neg c109] at H1
       replace H := Aside0.mk H1
       clear H1
       replace c109 := Bool.eq_false_iff.mpr c109
       subst c109
       obtain rfl := Option.some.inj H.out
       go_wp2
       go_ret
       exact ⟨by first | rfl | (simp; done) | (simp [*]; done), HB.out⟩
   · have H1 := H.out
     rw [if_neg c105] at H1
     replace H := Aside0.mk H1
     clear H1
     replace c105 := Bool.eq_false_iff.mpr c105
     subst c105
     obtain rfl := Option.some.inj H.out
     go_wp2
     go_ret
     exact ⟨by first | rfl | (simp; done) | (simp [*]; done), HB.out⟩
 · have H1 := H.out
   rw [if_neg c101] at H1
   replace H := Aside0.mk H1
   clear H1
   replace c101 := Bool.eq_false_iff.mpr c101
   subst c101
   obtain rfl := Option.some.inj H.out
   go_wp2
   go_ret
   exact ⟨by first | rfl | (simp; done) | (simp [*]; done), HB.out⟩

-- NOT PRINTED: function 115 (book_Schedule_1)

-- NOT PRINTED: function 154 (book_Window_1)

/-! ### book_Schedule_right_1: function 117 -/
def book_Schedule_right_1.f (a0_0 : Int) (a0_1 : Int) (a0_2 : Int) : Option (Bool) := (book_within.f a0_0 0 15).bind fun t166 => (if t166 = true then ((book_within.f a0_1 0 1048576).bind fun t167 => (if t167 = true then ((book_within.f a0_2 1 1048576).bind fun t168 => (some t168)) else (some false))) else (some false))
set_option maxHeartbeats 8000000 in
set_option maxRecDepth 100000 in
theorem book_Schedule_right_1.calls (a0_0 : Int) (a0_1 : Int) (a0_2 : Int) (r : Bool) (w : World) (h : book_Schedule_right_1.f a0_0 a0_1 a0_2 = some r) :
    Calls Tryz.prog 117 #[.agg #[.int .i64 a0_0, .int .i64 a0_1, .int .i64 a0_2]] w fun e w' => e = .returned (.bool r) ∧ Below w.heap.size w w' := by
 unfold book_Schedule_right_1.f at h
 have H := Aside0.mk h
 clear h
 have HB := Aside0.mk (Below.refl w.heap.size w)
 have hu69 := Tryz.underlying69
 go_enter Tryz.func117, Tryz.ntmps117
 have BK149 := Aside0.mk (pe_box0 w #[.int .i64 a0_0, .int .i64 a0_1, .int .i64 a0_2] 69)
 replace HB := Aside0.mk (below_alloc HB.out (.cells #[.int .i64 a0_0, .int .i64 a0_1, .int .i64 a0_2] 69))
 obtain ⟨t166, q150, H1⟩ := Option.bind_eq_some_iff.mp H.out
 replace H := Aside0.mk H1
 replace q150 := Aside0.mk q150
 clear H1
 go_wp2_with fail
 (with_reducible refine (book_within.calls a0_0 0 15 t166 _  q150.out).mono ?_)
 clear q150
 rintro e w151 ⟨rfl, hd⟩
 have hb := hd.below
 clear hd
 replace HB := Aside0.mk (below_step HB.out hb)
 replace BK149 := Aside0.mk (blk_below BK149.out hb)
 clear hb
 obtain ⟨hz152_149_0, hz152_149_1, hz152_149_2, hf152_149_0, hf152_149_1, hf152_149_2⟩ := blk3 BK149.out
 by_cases c153 : t166 = true
 · have H1 := H.out
   rw [if_pos c153] at H1
   replace H := Aside0.mk H1
   clear H1
   subst c153
   obtain ⟨t167, q154, H1⟩ := Option.bind_eq_some_iff.mp H.out
   replace H := Aside0.mk H1
   replace q154 := Aside0.mk q154
   clear H1
   go_wp2_with fail
   (with_reducible refine (book_within.calls a0_1 0 1048576 t167 _  q154.out).mono ?_)
   clear q154
   rintro e w155 ⟨rfl, hd⟩
   have hb := hd.below
   clear hd
   replace HB := Aside0.mk (below_step HB.out hb)
   replace BK149 := Aside0.mk (blk_below BK149.out hb)
   clear hb
   try clear hz152_149_0 hz152_149_1 hz152_149_2 hf152_149_0 hf152_149_1 hf152_149_2
   obtain ⟨hz156_149_0, hz156_149_1, hz156_149_2, hf156_149_0, hf156_149_1, hf156_149_2⟩ := blk3 BK149.out
   by_cases c157 : t167 = true
   · have H1 := H.out
     rw [if_pos c157] at H1
     replace H := Aside0.mk H1
     clear H1
     subst c157
     obtain ⟨t168, q158, H1⟩ := Option.bind_eq_some_iff.mp H.out
     replace H := Aside0.mk H1
     replace q158 := Aside0.mk q158
     clear H1
     go_wp2_with fail
     (with_reducible refine (book_within.calls a0_2 1 1048576 t168 _  q158.out).mono ?_)
     clear q158
     rintro e w159 ⟨rfl, hd⟩
     have hb := hd.below
     clear hd
     replace HB := Aside0.mk (below_step HB.out hb)
     replace BK149 := Aside0.mk (blk_below BK149.out hb)
     clear hb
     try clear hz156_149_0 hz156_149_1 hz156_149_2 hf156_149_0 hf156_149_1 hf156_149_2
     obtain ⟨hz160_149_0, hz160_149_1, hz160_149_2, hf160_149_0, hf160_149_1, hf160_149_2⟩ := blk3 BK149.out
     obtain rfl := Option.some.inj H.out
     go_wp2
     go_ret
     exact ⟨by first | rfl | (simp; done) | (simp [*]; done), HB.out⟩
   · have H1 := H.out
     rw [if_neg c157] at H1
     replace H := Aside0.mk H1
     clear H1
     replace c157 := Bool.eq_false_iff.mpr c157
     subst c157
     obtain rfl := Option.some.inj H.out
     go_wp2
     go_ret
     exact ⟨by first | rfl | (simp; done) | (simp [*]; done), HB.out⟩
 · have H1 := H.out
   rw [if_neg c153] at H1
   replace H := Aside0.mk H1
   clear H1
   replace c153 := Bool.eq_false_iff.mpr c153
   subst c153
   obtain rfl := Option.some.inj H.out
   go_wp2
   go_ret
   exact ⟨by first | rfl | (simp; done) | (simp [*]; done), HB.out⟩

/-! ### book_Window_116__117: function 116 at book_Schedule_right_1 -/
def book_Window_116__117.f (l : List (S69)) (n : Int) : Option (Bool) := if (l.length : Int) ≤ n then (if l.length ≤ 140737488351232 then (allO (fun x => book_Schedule_right_1.f (x.f0) (x.f1) (x.f2)) l) else none) else (some false)
set_option maxHeartbeats 800000 in
set_option maxRecDepth 100000 in
theorem book_Window_116__117.c1 (x : S69) (r : Bool) (g : Nat) (w : World) (hg : w.cell? ⟨g, 0, none⟩ = some (.func (.func 117) #[] #[])) (h : book_Schedule_right_1.f (x.f0) (x.f1) (x.f2) = some r) :
  Calls Tryz.prog 154 #[.agg #[.int .i64 (x.f0), .int .i64 (x.f1), .int .i64 (x.f2)], .pointer (some ⟨g, 0, none⟩)] w fun e w' => e = .returned (.bool (!r)) ∧ Below w.heap.size w w' := by
 have hgl := World.block_lt_of_cell? w _ hg
 have HH := Aside0.mk h
 clear h
 have hgw : (w.alloc (.cells #[.int .i64 (x.f0), .int .i64 (x.f1), .int .i64 (x.f2)] 69)).cell? ⟨g, 0, none⟩ = some (.func (.func 117) #[] #[]) := ((alloc_below0 w _).cell hgl).trans hg
 go_enter Tryz.func154, Tryz.ntmps154
 go_wp2_with fail
 refine (book_Schedule_right_1.calls (x.f0) (x.f1) (x.f2) r _ HH.out).mono ?_
 rintro e w' ⟨rfl, hb⟩
 go_wp2
 go_ret
 exact ⟨by simp, below_step (alloc_below0 w _) hb⟩
set_option maxHeartbeats 2000000 in
set_option maxRecDepth 100000 in
theorem book_Window_116__117.c2 (A0 : Option Addr) (c0 : Nat) (l : List (S69)) (r : Bool) (g : Nat) (w : World) (hr0 : Kd.C k69 w A0 l.length l) (hL : l.length ≤ 140737488351232) (hg : w.cell? ⟨g, 0, none⟩ = some (.func (.func 117) #[] #[])) (h : allO (fun x => book_Schedule_right_1.f (x.f0) (x.f1) (x.f2)) l = some r) :
  Calls Tryz.prog 167 #[.slice A0 l.length c0, .func (.func 154) #[] #[.pointer (some ⟨g, 0, none⟩)]] w fun e w' => (∃ q : Int, e = .returned (.int .i64 q) ∧ Hid (decide (0 ≤ q) = !r)) ∧ Below w.heap.size w w' := by
 have hgl := World.block_lt_of_cell? w _ hg
 have HR0 := Aside0.mk hr0
 have HG := Aside0.mk hg
 have H0 : Aside0 (allO (fun x => book_Schedule_right_1.f (x.f0) (x.f1) (x.f2)) (l.drop 0) = some r) := ⟨by simpa using h⟩
 clear hr0 hg h
 go_enter Tryz.func167, Tryz.ntmps167
 go_wp2
 go_loopw [8] (fun v8 wr => ∃ j : Nat, v8 = .int .i64 (j : Int) ∧ j ≤ l.length ∧ Aside0 (allO (fun x => book_Schedule_right_1.f (x.f0) (x.f1) (x.f2)) (l.drop j) = some r) ∧ Aside0 (Below w.heap.size w wr)) (fun v8 _ => l.length - (intOf v8).toNat)
 case atStart => exact ⟨0, rfl, Nat.zero_le _, H0, ⟨Below.refl _ _⟩⟩
 case round =>
  clear H0
  obtain ⟨j, rfl, hj, HA, HB⟩ := hrel
  by_cases hlt : j < l.length
  ·
   have p7 : (0 : Int) ≤ (j : Int) := by omega
   have q7 : (j : Int) < (l.length : Int) := by omega
   obtain ⟨b, hb1, hb2, hb3⟩ := allO_cons hlt HA.out
   have HB1 := Aside0.mk hb1
   have HB2 := Aside0.mk hb2
   have HB3 := Aside0.mk hb3
   clear hb1 hb2 hb3
   obtain ⟨ad7, e7, hx7_0, hx7_1, hx7_2⟩ := at_T69 HR0.out (j : Int) p7 q7
   cases e7
   replace hx7_0 := (HB.out.cell (World.block_lt_of_cell? w _ hx7_0)).trans hx7_0
   replace hx7_1 := (HB.out.cell (World.block_lt_of_cell? w _ hx7_1)).trans hx7_1
   replace hx7_2 := (HB.out.cell (World.block_lt_of_cell? w _ hx7_2)).trans hx7_2
   have EX : Aside0 (rd_T69 l (j : Int) = l[j]) := ⟨by show l.getD _ _ = _; rw [Int.toNat_natCast, List.getD_eq_getElem?_getD, List.getElem?_eq_getElem hlt, Option.getD_some]⟩
   clear p7 q7
   generalize rd_T69 l (j : Int) = x at *
   have HC : Aside0 (book_Schedule_right_1.f (x.f0) (x.f1) (x.f2) = some b) := ⟨by rw [EX.out]; exact HB1.out⟩
   clear HB1 EX
   simp only [Int.toNat_natCast] at *
   go_wp2_with fail
   refine (book_Window_116__117.c1 x b g wr ((HB.out.cell hgl).trans HG.out) HC.out).mono ?_
   rintro e w9 ⟨rfl, hb⟩
   have HB9 : Aside0 (Below w.heap.size w w9) := ⟨below_step HB.out hb⟩
   clear hb HB
   cases b with
   | true =>
    go_wp2
    go_roundw
    case rel => exact ⟨j + 1, by go_num, by omega, ⟨HB2.out (by simp)⟩, HB9⟩
    case measure => simp [intOf]; omega
   | false =>
    go_wp2
    go_ret
    exact ⟨⟨_, rfl, by rw [HB3.out (by simp)]; show _ = _; simp⟩, HB9.out⟩
  ·
   obtain rfl : j = l.length := by omega
   have hr : r = true := by have := HA.out; rw [List.drop_length] at this; simpa [allO] using this.symm
   subst hr
   go_wp2
   go_ret
   exact ⟨⟨_, rfl, by show _ = _; simp⟩, HB.out⟩
set_option maxHeartbeats 800000 in
theorem book_Window_116__117.c3 (A0 : Option Addr) (c0 : Nat) (l : List (S69)) (r : Bool) (g : Nat) (w : World) (hr0 : Kd.C k69 w A0 l.length l) (hL : l.length ≤ 140737488351232) (hg : w.cell? ⟨g, 0, none⟩ = some (.func (.func 117) #[] #[])) (h : allO (fun x => book_Schedule_right_1.f (x.f0) (x.f1) (x.f2)) l = some r) :
  Calls Tryz.prog 153 #[.slice A0 l.length c0, .func (.func 154) #[] #[.pointer (some ⟨g, 0, none⟩)]] w fun e w' => e = .returned (.bool (!r)) ∧ Below w.heap.size w w' := by
 have HC := book_Window_116__117.c2 A0 c0 l r g w hr0 hL hg h
 clear hr0 hg h
 go_enter Tryz.func153, Tryz.ntmps153
 go_wp2_with fail
 refine HC.mono ?_
 clear HC
 rintro e w' ⟨⟨q, rfl, hq⟩, hb⟩
 go_wp2
 go_ret
 exact ⟨by rw [← hq.out]; rfl, hb⟩
set_option maxHeartbeats 800000 in
theorem book_Window_116__117.calls (A0 : Option Addr) (c0 : Nat) (l0 : List (S69)) (a1 : Int) (r : Bool) (w : World) (hr0 : Kd.C k69 w A0 l0.length l0) (hc0 : l0.length ≤ c0) (h : book_Window_116__117.f l0 a1 = some r) :
  Calls Tryz.prog 116 #[.slice A0 l0.length c0, .int .i64 a1, .func (.func 117) #[] #[]] w fun e w' => e = .returned (.bool r) ∧ Below w.heap.size w w' := by
 unfold book_Window_116__117.f at h
 have HR := Aside0.mk hr0
 clear hr0
 have hbw : Below w.heap.size w (w.alloc (.cells #[.func (.func 117) #[] #[]] 170)) := alloc_below0 w _
 by_cases hle : (l0.length : Int) ≤ a1
 ·
  rw [if_pos hle] at h
  obtain ⟨hL, h2⟩ := if_some h
  clear h
  have h := h2
  clear h2
  have hd : decide ((l0.length : Int) ≤ a1) = true := decide_eq_true hle
  have HC := book_Window_116__117.c3 A0 c0 l0 r w.heap.size (w.alloc (.cells #[.func (.func 117) #[] #[]] 170)) (Kd.C_alloc HR.out _) hL (by simp) h
  have HB := Aside0.mk hbw
  clear h hle hbw
  go_enter Tryz.func116, Tryz.ntmps116
  go_wp2_with fail
  refine HC.mono ?_
  clear HC
  rintro e w' ⟨rfl, hb⟩
  go_wp2
  go_ret
  exact ⟨by simp, below_step HB.out hb⟩
 ·
  rw [if_neg hle] at h
  obtain rfl := Option.some.inj h
  have hd : decide ((l0.length : Int) ≤ a1) = false := decide_eq_false hle
  clear h hle
  go_enter Tryz.func116, Tryz.ntmps116
  go_wp2
  go_ret
  exact ⟨rfl, hbw⟩

/-! ### book_Schedule_right: function 32 -/
def book_Schedule_right.f (k : Nat) (a0_0 : ByteArray) (a0_1 : Int) (l0_2 : List (S69)) : Option (Bool) := (book_Name.f k a0_0).bind fun t170 => (if t170 = true then ((book_within.f a0_1 1 1048576).bind fun t171 => (if t171 = true then ((book_Window_116__117.f l0_2 64).bind fun t172 => (some t172)) else (some false))) else (some false))
theorem book_Schedule_right.mono : ∀ a0 a1 a2 k, LeO (book_Schedule_right.f k a0 a1 a2) (book_Schedule_right.f (k + 1) a0 a1 a2) := by
  intro a0 a1 a2 k
  unfold book_Schedule_right.f
  repeat' first
      | (with_reducible exact book_Name.mono _ _)
      | (with_reducible exact LeO.refl _)
      | (with_reducible exact LeO.none _)
      | (with_reducible refine LeO.ite ?_ ?_)
      | (with_reducible refine LeO.bind ?_ (fun _ => ?_))
      | exact book_Name.mono _ _
      | exact LeO.none _
      | refine LeO.ite ?_ ?_
      | refine LeO.bind ?_ (fun _ => ?_)
set_option maxHeartbeats 8000000 in
set_option maxRecDepth 100000 in
theorem book_Schedule_right.calls (k : Nat) (a0_0 : ByteArray) (a0_1 : Int) (A0_2 : Option Addr) (c0_2 : Nat) (l0_2 : List (S69)) (r : Bool) (w : World) (hr0_2 : Kd.C k69 w A0_2 l0_2.length l0_2) (hc0_2 : l0_2.length ≤ c0_2) (h : book_Schedule_right.f k a0_0 a0_1 l0_2 = some r) :
    Calls Tryz.prog 32 #[.agg #[.string a0_0, .int .i64 a0_1, .slice A0_2 l0_2.length c0_2]] w fun e w' => e = .returned (.bool r) ∧ Below w.heap.size w w' := by
 have HR0_2 := Aside0.mk hr0_2
 have HC0_2 := Aside0.mk hc0_2
 clear hr0_2 hc0_2
 unfold book_Schedule_right.f at h
 have H := Aside0.mk h
 clear h
 have HB := Aside0.mk (Below.refl w.heap.size w)
 have hu67 := Tryz.underlying67
 go_enter Tryz.func32, Tryz.ntmps32
 have BK161 := Aside0.mk (pe_box0 w #[.string a0_0, .int .i64 a0_1, .slice A0_2 l0_2.length c0_2] 67)
 replace HB := Aside0.mk (below_alloc HB.out (.cells #[.string a0_0, .int .i64 a0_1, .slice A0_2 l0_2.length c0_2] 67))
 obtain ⟨t170, q162, H1⟩ := Option.bind_eq_some_iff.mp H.out
 replace H := Aside0.mk H1
 replace q162 := Aside0.mk q162
 clear H1
 go_wp2_with fail
 (with_reducible refine (book_Name.calls k a0_0 t170 _  q162.out).mono ?_)
 clear q162
 rintro e w163 ⟨rfl, hd⟩
 have hb := hd.below
 clear hd
 replace HB := Aside0.mk (below_step HB.out hb)
 replace BK161 := Aside0.mk (blk_below BK161.out hb)
 clear hb
 obtain ⟨hz164_161_0, hz164_161_1, hz164_161_2, hf164_161_0, hf164_161_1, hf164_161_2⟩ := blk3 BK161.out
 by_cases c165 : t170 = true
 · have H1 := H.out
   rw [if_pos c165] at H1
   replace H := Aside0.mk H1
   clear H1
   subst c165
   obtain ⟨t171, q166, H1⟩ := Option.bind_eq_some_iff.mp H.out
   replace H := Aside0.mk H1
   replace q166 := Aside0.mk q166
   clear H1
   go_wp2_with fail
   (with_reducible refine (book_within.calls a0_1 1 1048576 t171 _  q166.out).mono ?_)
   clear q166
   rintro e w167 ⟨rfl, hd⟩
   have hb := hd.below
   clear hd
   replace HB := Aside0.mk (below_step HB.out hb)
   replace BK161 := Aside0.mk (blk_below BK161.out hb)
   clear hb
   try clear hz164_161_0 hz164_161_1 hz164_161_2 hf164_161_0 hf164_161_1 hf164_161_2
   obtain ⟨hz168_161_0, hz168_161_1, hz168_161_2, hf168_161_0, hf168_161_1, hf168_161_2⟩ := blk3 BK161.out
   by_cases c169 : t171 = true
   · have H1 := H.out
     rw [if_pos c169] at H1
     replace H := Aside0.mk H1
     clear H1
     subst c169
     obtain ⟨t172, q170, H1⟩ := Option.bind_eq_some_iff.mp H.out
     replace H := Aside0.mk H1
     replace q170 := Aside0.mk q170
     clear H1
     go_wp2_with fail
     (with_reducible refine (book_Window_116__117.calls _ _ l0_2 64 t172 _ (Kd.C_below HR0_2.out HB.out) HC0_2.out q170.out).mono ?_)
     clear q170
     rintro e w171 ⟨rfl, hb⟩
     replace HB := Aside0.mk (below_step HB.out hb)
     replace BK161 := Aside0.mk (blk_below BK161.out hb)
     clear hb
     try clear hz168_161_0 hz168_161_1 hz168_161_2 hf168_161_0 hf168_161_1 hf168_161_2
     obtain ⟨hz172_161_0, hz172_161_1, hz172_161_2, hf172_161_0, hf172_161_1, hf172_161_2⟩ := blk3 BK161.out
     obtain rfl := Option.some.inj H.out
     go_wp2
     go_ret
     exact ⟨by first | rfl | (simp; done) | (simp [*]; done), HB.out⟩
   · have H1 := H.out
     rw [if_neg c169] at H1
     replace H := Aside0.mk H1
     clear H1
     replace c169 := Bool.eq_false_iff.mpr c169
     subst c169
     obtain rfl := Option.some.inj H.out
     go_wp2
     go_ret
     exact ⟨by first | rfl | (simp; done) | (simp [*]; done), HB.out⟩
 · have H1 := H.out
   rw [if_neg c165] at H1
   replace H := Aside0.mk H1
   clear H1
   replace c165 := Bool.eq_false_iff.mpr c165
   subst c165
   obtain rfl := Option.some.inj H.out
   go_wp2
   go_ret
   exact ⟨by first | rfl | (simp; done) | (simp [*]; done), HB.out⟩

-- NOT PRINTED: function 119 (book_Channel_1)

/-! ### book_End_right: function 36 -/
def book_End_right.f (a0_0 : Int) (a0_1 : Int) : Option (Bool) := (book_within.f a0_0 (-1) 15).bind fun t175 => (if t175 = true then ((book_within.f a0_1 0 15).bind fun t176 => (some t176)) else (some false))
set_option maxHeartbeats 8000000 in
set_option maxRecDepth 100000 in
theorem book_End_right.calls (a0_0 : Int) (a0_1 : Int) (r : Bool) (w : World) (h : book_End_right.f a0_0 a0_1 = some r) :
  Calls Tryz.prog 36 #[.agg #[.int .i64 a0_0, .int .i64 a0_1]] w fun e w' => e = .returned (.bool r) ∧ Below w.heap.size w w' := by
 have hu71 := Tryz.underlying71
 have HB := Aside0.mk (Below.refl w.heap.size w)
 have H : ((book_within.f a0_0 (-1) 15).bind fun t175 => (if t175 = true then ((book_within.f a0_1 0 15).bind fun t176 => (some t176)) else (some false))) = some r := h
 clear h
 replace H := Option.bind_eq_some_iff.mp H
 obtain ⟨t175, A20, H⟩ := H
 replace H : (if t175 = true then ((book_within.f a0_1 0 15).bind fun t176 => (some t176)) else (some false)) = some r := H
 have A2 := Aside0.mk A20
 clear A20
 by_cases c3 : t175 = true
 ·
  subst c3
  have H1 : ((book_within.f a0_1 0 15).bind fun t176 => (some t176)) = some r := by rw [if_pos rfl] at H; exact H
  clear H
  have H := H1
  clear H1
  replace H := Option.bind_eq_some_iff.mp H
  obtain ⟨t176, A40, H⟩ := H
  replace H : (some t176) = some r := H
  have A4 := Aside0.mk A40
  clear A40
  obtain rfl := Option.some.inj H
  go_enter Tryz.func36, Tryz.ntmps36
  go_wp2_with (first | ((with_reducible refine gate_dst (N := 1) rfl ?_); refine box_event ?hg (N := 1) ?hd (cs := #[.int .i64 a0_0, .int .i64 a0_1]) (t := 71) ?hr ?_; (case hd => rfl); (case hg => rfl); (case hr => first | (go_simp; done) | (go_simp; rfl)); intro gb174 hg w5 hbox hb; have n0_ := Aside0.mk (below_step (by repeat (first | (with_reducible first | exact HB.out | apply below_alloc | apply pw_below_drewN | apply below_drew1) | exact HB.out)) hb); have n1_ := Aside0.mk (hbox); have n2_ := Aside0.mk ((by rw [hg]; exact (below_size (by repeat (first | (with_reducible first | exact HB.out | apply below_alloc | apply pw_below_drewN | apply below_drew1) | exact HB.out))) : w.heap.size ≤ gb174)); have n3_ := Aside0.mk ((by rw [hg]; exact (below_size (by repeat (first | (with_reducible first | exact HB.out | apply below_alloc | apply pw_below_drewN | apply below_drew1) | exact HB.out))) : w.heap.size ≤ gb174)); clear HB; have HB := n0_; have BK174 := n1_; have GW174 := n2_; have GE174 := n3_; clear n0_ n1_ n2_ n3_; clear hb hbox hg; obtain ⟨hcz6_0, hcz6_1, hfz6_0, hfz6_1⟩ := blk2 BK174.out) | ((with_reducible refine gate_callee (f := 33) rfl ?_); refine goesL_ (some 5) rfl rfl Tryz.func33 (by kernel_rfl) rfl #[.int .i64 a0_0, .int .i64 (-1), .int .i64 15] rfl (by (try simp only [List.map_toArray, List.map_cons, List.map_nil]); first | done | rfl | (simp only [List.length_drop, List.length_take]; rfl)) ?_; (with_reducible refine (book_within.calls a0_0 (-1) 15 true _ A2.out).mono ?_); rintro e w' ⟨rfl, ⟨nd, rfl⟩⟩; refine ⟨_, rfl, ?_⟩) | (go_at_call 33; (with_reducible refine (book_within.calls a0_1 0 15 t176 _ A4.out).mono ?_); rintro e w' ⟨rfl, ⟨nd, rfl⟩⟩))
  go_ret
  exact ⟨by first | rfl | (simp [errW_none, errW_some] <;> rfl) | (simp [*, errW_none, errW_some] <;> rfl), by repeat (first | (with_reducible first | exact HB.out | apply below_alloc | apply pw_below_drewN | apply below_drew1 | refine below_set ?_ GE174.out) | exact HB.out)⟩
 ·
  replace c3 := Bool.eq_false_iff.mpr c3
  subst c3
  have H1 : (some false) = some r := by rw [if_neg (show ¬ (false = true) by decide)] at H; exact H
  clear H
  have H := H1
  clear H1
  obtain rfl := Option.some.inj H
  go_enter Tryz.func36, Tryz.ntmps36
  go_wp2_with (first | ((with_reducible refine gate_dst (N := 1) rfl ?_); refine box_event ?hg (N := 1) ?hd (cs := #[.int .i64 a0_0, .int .i64 a0_1]) (t := 71) ?hr ?_; (case hd => rfl); (case hg => rfl); (case hr => first | (go_simp; done) | (go_simp; rfl)); intro gb174 hg w7 hbox hb; have n0_ := Aside0.mk (below_step (by repeat (first | (with_reducible first | exact HB.out | apply below_alloc | apply pw_below_drewN | apply below_drew1) | exact HB.out)) hb); have n1_ := Aside0.mk (hbox); have n2_ := Aside0.mk ((by rw [hg]; exact (below_size (by repeat (first | (with_reducible first | exact HB.out | apply below_alloc | apply pw_below_drewN | apply below_drew1) | exact HB.out))) : w.heap.size ≤ gb174)); have n3_ := Aside0.mk ((by rw [hg]; exact (below_size (by repeat (first | (with_reducible first | exact HB.out | apply below_alloc | apply pw_below_drewN | apply below_drew1) | exact HB.out))) : w.heap.size ≤ gb174)); clear HB; have HB := n0_; have BK174 := n1_; have GW174 := n2_; have GE174 := n3_; clear n0_ n1_ n2_ n3_; clear hb hbox hg; obtain ⟨hcz8_0, hcz8_1, hfz8_0, hfz8_1⟩ := blk2 BK174.out) | ((with_reducible refine gate_callee (f := 33) rfl ?_); refine goesL_ (some 5) rfl rfl Tryz.func33 (by kernel_rfl) rfl #[.int .i64 a0_0, .int .i64 (-1), .int .i64 15] rfl (by (try simp only [List.map_toArray, List.map_cons, List.map_nil]); first | done | rfl | (simp only [List.length_drop, List.length_take]; rfl)) ?_; (with_reducible refine (book_within.calls a0_0 (-1) 15 false _ A2.out).mono ?_); rintro e w' ⟨rfl, ⟨nd, rfl⟩⟩; refine ⟨_, rfl, ?_⟩))
  go_ret
  exact ⟨by first | rfl | (simp [errW_none, errW_some] <;> rfl) | (simp [*, errW_none, errW_some] <;> rfl), by repeat (first | (with_reducible first | exact HB.out | apply below_alloc | apply pw_below_drewN | apply below_drew1 | refine below_set ?_ GE174.out) | exact HB.out)⟩

-- NOT PRINTED: function 121 (book_End_1)

/-! ### book_End_37__36: function 37 at book_End_right -/
def book_End_37__36.f (l : List (S71)) (n : Int) : Option (Bool) := if (l.length : Int) ≤ n then (if l.length ≤ 140737488351232 then (allO (fun x => book_End_right.f (x.f0) (x.f1)) l) else none) else (some false)
set_option maxHeartbeats 800000 in
set_option maxRecDepth 100000 in
theorem book_End_37__36.c1 (x : S71) (r : Bool) (g : Nat) (w : World) (hg : w.cell? ⟨g, 0, none⟩ = some (.func (.func 36) #[] #[])) (h : book_End_right.f (x.f0) (x.f1) = some r) :
  Calls Tryz.prog 121 #[.agg #[.int .i64 (x.f0), .int .i64 (x.f1)], .pointer (some ⟨g, 0, none⟩)] w fun e w' => e = .returned (.bool (!r)) ∧ Below w.heap.size w w' := by
 have hgl := World.block_lt_of_cell? w _ hg
 have HH := Aside0.mk h
 clear h
 have hgw : (w.alloc (.cells #[.int .i64 (x.f0), .int .i64 (x.f1)] 71)).cell? ⟨g, 0, none⟩ = some (.func (.func 36) #[] #[]) := ((alloc_below0 w _).cell hgl).trans hg
 go_enter Tryz.func121, Tryz.ntmps121
 go_wp2_with fail
 refine (book_End_right.calls (x.f0) (x.f1) r _ HH.out).mono ?_
 rintro e w' ⟨rfl, hb⟩
 go_wp2
 go_ret
 exact ⟨by simp, below_step (alloc_below0 w _) hb⟩
set_option maxHeartbeats 2000000 in
set_option maxRecDepth 100000 in
theorem book_End_37__36.c2 (A0 : Option Addr) (c0 : Nat) (l : List (S71)) (r : Bool) (g : Nat) (w : World) (hr0 : Kd.C k71 w A0 l.length l) (hL : l.length ≤ 140737488351232) (hg : w.cell? ⟨g, 0, none⟩ = some (.func (.func 36) #[] #[])) (h : allO (fun x => book_End_right.f (x.f0) (x.f1)) l = some r) :
  Calls Tryz.prog 156 #[.slice A0 l.length c0, .func (.func 121) #[] #[.pointer (some ⟨g, 0, none⟩)]] w fun e w' => (∃ q : Int, e = .returned (.int .i64 q) ∧ Hid (decide (0 ≤ q) = !r)) ∧ Below w.heap.size w w' := by
 have hgl := World.block_lt_of_cell? w _ hg
 have HR0 := Aside0.mk hr0
 have HG := Aside0.mk hg
 have H0 : Aside0 (allO (fun x => book_End_right.f (x.f0) (x.f1)) (l.drop 0) = some r) := ⟨by simpa using h⟩
 clear hr0 hg h
 go_enter Tryz.func156, Tryz.ntmps156
 go_wp2
 go_loopw [8] (fun v8 wr => ∃ j : Nat, v8 = .int .i64 (j : Int) ∧ j ≤ l.length ∧ Aside0 (allO (fun x => book_End_right.f (x.f0) (x.f1)) (l.drop j) = some r) ∧ Aside0 (Below w.heap.size w wr)) (fun v8 _ => l.length - (intOf v8).toNat)
 case atStart => exact ⟨0, rfl, Nat.zero_le _, H0, ⟨Below.refl _ _⟩⟩
 case round =>
  clear H0
  obtain ⟨j, rfl, hj, HA, HB⟩ := hrel
  by_cases hlt : j < l.length
  ·
   have p7 : (0 : Int) ≤ (j : Int) := by omega
   have q7 : (j : Int) < (l.length : Int) := by omega
   obtain ⟨b, hb1, hb2, hb3⟩ := allO_cons hlt HA.out
   have HB1 := Aside0.mk hb1
   have HB2 := Aside0.mk hb2
   have HB3 := Aside0.mk hb3
   clear hb1 hb2 hb3
   obtain ⟨ad7, e7, hx7_0, hx7_1⟩ := at_T71 HR0.out (j : Int) p7 q7
   cases e7
   replace hx7_0 := (HB.out.cell (World.block_lt_of_cell? w _ hx7_0)).trans hx7_0
   replace hx7_1 := (HB.out.cell (World.block_lt_of_cell? w _ hx7_1)).trans hx7_1
   have EX : Aside0 (rd_T71 l (j : Int) = l[j]) := ⟨by show l.getD _ _ = _; rw [Int.toNat_natCast, List.getD_eq_getElem?_getD, List.getElem?_eq_getElem hlt, Option.getD_some]⟩
   clear p7 q7
   generalize rd_T71 l (j : Int) = x at *
   have HC : Aside0 (book_End_right.f (x.f0) (x.f1) = some b) := ⟨by rw [EX.out]; exact HB1.out⟩
   clear HB1 EX
   simp only [Int.toNat_natCast] at *
   go_wp2_with fail
   refine (book_End_37__36.c1 x b g wr ((HB.out.cell hgl).trans HG.out) HC.out).mono ?_
   rintro e w9 ⟨rfl, hb⟩
   have HB9 : Aside0 (Below w.heap.size w w9) := ⟨below_step HB.out hb⟩
   clear hb HB
   cases b with
   | true =>
    go_wp2
    go_roundw
    case rel => exact ⟨j + 1, by go_num, by omega, ⟨HB2.out (by simp)⟩, HB9⟩
    case measure => simp [intOf]; omega
   | false =>
    go_wp2
    go_ret
    exact ⟨⟨_, rfl, by rw [HB3.out (by simp)]; show _ = _; simp⟩, HB9.out⟩
  ·
   obtain rfl : j = l.length := by omega
   have hr : r = true := by have := HA.out; rw [List.drop_length] at this; simpa [allO] using this.symm
   subst hr
   go_wp2
   go_ret
   exact ⟨⟨_, rfl, by show _ = _; simp⟩, HB.out⟩
set_option maxHeartbeats 800000 in
theorem book_End_37__36.c3 (A0 : Option Addr) (c0 : Nat) (l : List (S71)) (r : Bool) (g : Nat) (w : World) (hr0 : Kd.C k71 w A0 l.length l) (hL : l.length ≤ 140737488351232) (hg : w.cell? ⟨g, 0, none⟩ = some (.func (.func 36) #[] #[])) (h : allO (fun x => book_End_right.f (x.f0) (x.f1)) l = some r) :
  Calls Tryz.prog 120 #[.slice A0 l.length c0, .func (.func 121) #[] #[.pointer (some ⟨g, 0, none⟩)]] w fun e w' => e = .returned (.bool (!r)) ∧ Below w.heap.size w w' := by
 have HC := book_End_37__36.c2 A0 c0 l r g w hr0 hL hg h
 clear hr0 hg h
 go_enter Tryz.func120, Tryz.ntmps120
 go_wp2_with fail
 refine HC.mono ?_
 clear HC
 rintro e w' ⟨⟨q, rfl, hq⟩, hb⟩
 go_wp2
 go_ret
 exact ⟨by rw [← hq.out]; rfl, hb⟩
set_option maxHeartbeats 800000 in
theorem book_End_37__36.calls (A0 : Option Addr) (c0 : Nat) (l0 : List (S71)) (a1 : Int) (r : Bool) (w : World) (hr0 : Kd.C k71 w A0 l0.length l0) (hc0 : l0.length ≤ c0) (h : book_End_37__36.f l0 a1 = some r) :
  Calls Tryz.prog 37 #[.slice A0 l0.length c0, .int .i64 a1, .func (.func 36) #[] #[]] w fun e w' => e = .returned (.bool r) ∧ Below w.heap.size w w' := by
 unfold book_End_37__36.f at h
 have HR := Aside0.mk hr0
 clear hr0
 have hbw : Below w.heap.size w (w.alloc (.cells #[.func (.func 36) #[] #[]] 85)) := alloc_below0 w _
 by_cases hle : (l0.length : Int) ≤ a1
 ·
  rw [if_pos hle] at h
  obtain ⟨hL, h2⟩ := if_some h
  clear h
  have h := h2
  clear h2
  have hd : decide ((l0.length : Int) ≤ a1) = true := decide_eq_true hle
  have HC := book_End_37__36.c3 A0 c0 l0 r w.heap.size (w.alloc (.cells #[.func (.func 36) #[] #[]] 85)) (Kd.C_alloc HR.out _) hL (by simp) h
  have HB := Aside0.mk hbw
  clear h hle hbw
  go_enter Tryz.func37, Tryz.ntmps37
  go_wp2_with fail
  refine HC.mono ?_
  clear HC
  rintro e w' ⟨rfl, hb⟩
  go_wp2
  go_ret
  exact ⟨by simp, below_step HB.out hb⟩
 ·
  rw [if_neg hle] at h
  obtain rfl := Option.some.inj h
  have hd : decide ((l0.length : Int) ≤ a1) = false := decide_eq_false hle
  clear h hle
  go_enter Tryz.func37, Tryz.ntmps37
  go_wp2
  go_ret
  exact ⟨rfl, hbw⟩

/-! ### book_Module_Right_1: function 35 -/
def book_Module_Right_1.f (a0_0 : Int) (a0_1 : Int) (l0_2 : List (S71)) : Option (Bool) := (book_End_right.f a0_0 a0_1).bind fun t179 => (if t179 = true then ((book_End_37__36.f l0_2 8).bind fun t180 => (some t180)) else (some false))
set_option maxHeartbeats 8000000 in
set_option maxRecDepth 100000 in
theorem book_Module_Right_1.calls (a0_0 : Int) (a0_1 : Int) (A0_2 : Option Addr) (c0_2 : Nat) (l0_2 : List (S71)) (r : Bool) (w : World) (hr0_2 : Kd.C k71 w A0_2 l0_2.length l0_2) (hc0_2 : l0_2.length ≤ c0_2) (h : book_Module_Right_1.f a0_0 a0_1 l0_2 = some r) :
    Calls Tryz.prog 35 #[.agg #[.int .i64 a0_0, .int .i64 a0_1, .slice A0_2 l0_2.length c0_2]] w fun e w' => e = .returned (.bool r) ∧ Below w.heap.size w w' := by
 have HR0_2 := Aside0.mk hr0_2
 have HC0_2 := Aside0.mk hc0_2
 clear hr0_2 hc0_2
 unfold book_Module_Right_1.f at h
 have H := Aside0.mk h
 clear h
 have HB := Aside0.mk (Below.refl w.heap.size w)
 have hu74 := Tryz.underlying74
 go_enter Tryz.func35, Tryz.ntmps35
 have BK173 := Aside0.mk (pe_box0 w #[.int .i64 a0_0, .int .i64 a0_1, .slice A0_2 l0_2.length c0_2] 74)
 replace HB := Aside0.mk (below_alloc HB.out (.cells #[.int .i64 a0_0, .int .i64 a0_1, .slice A0_2 l0_2.length c0_2] 74))
 obtain ⟨t179, q174, H1⟩ := Option.bind_eq_some_iff.mp H.out
 replace H := Aside0.mk H1
 replace q174 := Aside0.mk q174
 clear H1
 go_wp2_with fail
 (with_reducible refine (book_End_right.calls a0_0 a0_1 t179 _  q174.out).mono ?_)
 clear q174
 rintro e w175 ⟨rfl, hb⟩
 replace HB := Aside0.mk (below_step HB.out hb)
 replace BK173 := Aside0.mk (blk_below BK173.out hb)
 clear hb
 obtain ⟨hz176_173_0, hz176_173_1, hz176_173_2, hf176_173_0, hf176_173_1, hf176_173_2⟩ := blk3 BK173.out
 by_cases c177 : t179 = true
 · have H1 := H.out
   rw [if_pos c177] at H1
   replace H := Aside0.mk H1
   clear H1
   subst c177
   obtain ⟨t180, q178, H1⟩ := Option.bind_eq_some_iff.mp H.out
   replace H := Aside0.mk H1
   replace q178 := Aside0.mk q178
   clear H1
   go_wp2_with fail
   (with_reducible refine (book_End_37__36.calls _ _ l0_2 8 t180 _ (Kd.C_below HR0_2.out HB.out) HC0_2.out q178.out).mono ?_)
   clear q178
   rintro e w179 ⟨rfl, hb⟩
   replace HB := Aside0.mk (below_step HB.out hb)
   replace BK173 := Aside0.mk (blk_below BK173.out hb)
   clear hb
   try clear hz176_173_0 hz176_173_1 hz176_173_2 hf176_173_0 hf176_173_1 hf176_173_2
   obtain ⟨hz180_173_0, hz180_173_1, hz180_173_2, hf180_173_0, hf180_173_1, hf180_173_2⟩ := blk3 BK173.out
   obtain rfl := Option.some.inj H.out
   go_wp2
   go_ret
   exact ⟨by first | rfl | (simp; done) | (simp [*]; done), HB.out⟩
 · have H1 := H.out
   rw [if_neg c177] at H1
   replace H := Aside0.mk H1
   clear H1
   replace c177 := Bool.eq_false_iff.mpr c177
   subst c177
   obtain rfl := Option.some.inj H.out
   go_wp2
   go_ret
   exact ⟨by first | rfl | (simp; done) | (simp [*]; done), HB.out⟩

-- NOT PRINTED: function 123 (book_Link_1)

/-! ### book_Module_Right_2: function 39 -/
def book_Module_Right_2.f (k : Nat) (a0_0 : ByteArray) (a0_1 : Int) (a0_2 : Int) : Option (Bool) := (book_Name.f k a0_0).bind fun t183 => (if t183 = true then ((book_within.f a0_1 0 31).bind fun t184 => (if t184 = true then ((book_within.f a0_2 0 1048576).bind fun t185 => (some t185)) else (some false))) else (some false))
theorem book_Module_Right_2.mono : ∀ a0 a1 a2 k, LeO (book_Module_Right_2.f k a0 a1 a2) (book_Module_Right_2.f (k + 1) a0 a1 a2) := by
  intro a0 a1 a2 k
  unfold book_Module_Right_2.f
  repeat' first
      | (with_reducible exact book_Name.mono _ _)
      | (with_reducible exact LeO.refl _)
      | (with_reducible exact LeO.none _)
      | (with_reducible refine LeO.ite ?_ ?_)
      | (with_reducible refine LeO.bind ?_ (fun _ => ?_))
      | exact book_Name.mono _ _
      | exact LeO.none _
      | refine LeO.ite ?_ ?_
      | refine LeO.bind ?_ (fun _ => ?_)
set_option maxHeartbeats 8000000 in
set_option maxRecDepth 100000 in
theorem book_Module_Right_2.calls (k : Nat) (a0_0 : ByteArray) (a0_1 : Int) (a0_2 : Int) (r : Bool) (w : World) (h : book_Module_Right_2.f k a0_0 a0_1 a0_2 = some r) :
    Calls Tryz.prog 39 #[.agg #[.string a0_0, .int .i64 a0_1, .int .i64 a0_2]] w fun e w' => e = .returned (.bool r) ∧ Below w.heap.size w w' := by
 unfold book_Module_Right_2.f at h
 have H := Aside0.mk h
 clear h
 have HB := Aside0.mk (Below.refl w.heap.size w)
 have hu77 := Tryz.underlying77
 go_enter Tryz.func39, Tryz.ntmps39
 have BK181 := Aside0.mk (pe_box0 w #[.string a0_0, .int .i64 a0_1, .int .i64 a0_2] 77)
 replace HB := Aside0.mk (below_alloc HB.out (.cells #[.string a0_0, .int .i64 a0_1, .int .i64 a0_2] 77))
 obtain ⟨t183, q182, H1⟩ := Option.bind_eq_some_iff.mp H.out
 replace H := Aside0.mk H1
 replace q182 := Aside0.mk q182
 clear H1
 go_wp2_with fail
 (with_reducible refine (book_Name.calls k a0_0 t183 _  q182.out).mono ?_)
 clear q182
 rintro e w183 ⟨rfl, hd⟩
 have hb := hd.below
 clear hd
 replace HB := Aside0.mk (below_step HB.out hb)
 replace BK181 := Aside0.mk (blk_below BK181.out hb)
 clear hb
 obtain ⟨hz184_181_0, hz184_181_1, hz184_181_2, hf184_181_0, hf184_181_1, hf184_181_2⟩ := blk3 BK181.out
 by_cases c185 : t183 = true
 · have H1 := H.out
   rw [if_pos c185] at H1
   replace H := Aside0.mk H1
   clear H1
   subst c185
   obtain ⟨t184, q186, H1⟩ := Option.bind_eq_some_iff.mp H.out
   replace H := Aside0.mk H1
   replace q186 := Aside0.mk q186
   clear H1
   go_wp2_with fail
   (with_reducible refine (book_within.calls a0_1 0 31 t184 _  q186.out).mono ?_)
   clear q186
   rintro e w187 ⟨rfl, hd⟩
   have hb := hd.below
   clear hd
   replace HB := Aside0.mk (below_step HB.out hb)
   replace BK181 := Aside0.mk (blk_below BK181.out hb)
   clear hb
   try clear hz184_181_0 hz184_181_1 hz184_181_2 hf184_181_0 hf184_181_1 hf184_181_2
   obtain ⟨hz188_181_0, hz188_181_1, hz188_181_2, hf188_181_0, hf188_181_1, hf188_181_2⟩ := blk3 BK181.out
   by_cases c189 : t184 = true
   · have H1 := H.out
     rw [if_pos c189] at H1
     replace H := Aside0.mk H1
     clear H1
     subst c189
     obtain ⟨t185, q190, H1⟩ := Option.bind_eq_some_iff.mp H.out
     replace H := Aside0.mk H1
     replace q190 := Aside0.mk q190
     clear H1
     go_wp2_with fail
     (with_reducible refine (book_within.calls a0_2 0 1048576 t185 _  q190.out).mono ?_)
     clear q190
     rintro e w191 ⟨rfl, hd⟩
     have hb := hd.below
     clear hd
     replace HB := Aside0.mk (below_step HB.out hb)
     replace BK181 := Aside0.mk (blk_below BK181.out hb)
     clear hb
     try clear hz188_181_0 hz188_181_1 hz188_181_2 hf188_181_0 hf188_181_1 hf188_181_2
     obtain ⟨hz192_181_0, hz192_181_1, hz192_181_2, hf192_181_0, hf192_181_1, hf192_181_2⟩ := blk3 BK181.out
     obtain rfl := Option.some.inj H.out
     go_wp2
     go_ret
     exact ⟨by first | rfl | (simp; done) | (simp [*]; done), HB.out⟩
   · have H1 := H.out
     rw [if_neg c189] at H1
     replace H := Aside0.mk H1
     clear H1
     replace c189 := Bool.eq_false_iff.mpr c189
     subst c189
     obtain rfl := Option.some.inj H.out
     go_wp2
     go_ret
     exact ⟨by first | rfl | (simp; done) | (simp [*]; done), HB.out⟩
 · have H1 := H.out
   rw [if_neg c185] at H1
   replace H := Aside0.mk H1
   clear H1
   replace c185 := Bool.eq_false_iff.mpr c185
   subst c185
   obtain rfl := Option.some.inj H.out
   go_wp2
   go_ret
   exact ⟨by first | rfl | (simp; done) | (simp [*]; done), HB.out⟩

/-! ### book_Partition_29__30: function 29 at book_Partition_right -/
def book_Partition_29__30.f (k : Nat) (l : List (S52)) (n : Int) : Option (Bool) := if (l.length : Int) ≤ n then (if l.length ≤ 140737488351232 then (allO (fun x => book_Partition_right.f k (x.f0) (x.f1) (x.f2) (x.f3) (x.f4) (x.f5) (x.f6) (x.f7) (x.f8) (x.f9) (x.f10) (x.f11.f0) (x.f11.f1)) l) else none) else (some false)
theorem book_Partition_29__30.mono : ∀ a0 a1 k, LeO (book_Partition_29__30.f k a0 a1) (book_Partition_29__30.f (k + 1) a0 a1) := by
 intro a0 a1 k
 unfold book_Partition_29__30.f
 exact LeO.ite (LeO.ite (allO_mono (fun x => book_Partition_right.mono _ _ _ _ _ _ _ _ _ _ _ _ _ k) a0) (LeO.refl _)) (LeO.refl _)
set_option maxHeartbeats 800000 in
set_option maxRecDepth 100000 in
theorem book_Partition_29__30.c1 (k : Nat) (x : S52) (A1 : Option Addr) (c1 : Nat) (A2 : Option Addr) (c2 : Nat) (A3 : Option Addr) (c3 : Nat) (A4 : Option Addr) (c4 : Nat) (A5 : Option Addr) (c5 : Nat) (A6 : Option Addr) (c6 : Nat) (A7 : Option Addr) (c7 : Nat) (A8 : Option Addr) (c8 : Nat) (A9 : Option Addr) (c9 : Nat) (r : Bool) (g : Nat) (w : World) (hr1 : Kd.C k62 w A1 x.f1.length x.f1) (hc1 : x.f1.length ≤ c1) (hr2 : Kd.C k109 w A2 x.f2.length x.f2) (hc2 : x.f2.length ≤ c2) (hr3 : Kd.C k111 w A3 x.f3.length x.f3) (hc3 : x.f3.length ≤ c3) (hr4 : Kd.C k113 w A4 x.f4.length x.f4) (hc4 : x.f4.length ≤ c4) (hr5 : Kd.C k115 w A5 x.f5.length x.f5) (hc5 : x.f5.length ≤ c5) (hr6 : Kd.C k117 w A6 x.f6.length x.f6) (hc6 : x.f6.length ≤ c6) (hr7 : Kd.C k119 w A7 x.f7.length x.f7) (hc7 : x.f7.length ≤ c7) (hr8 : Kd.C k60 w A8 x.f8.length x.f8) (hc8 : x.f8.length ≤ c8) (hr9 : Kd.C k64 w A9 x.f9.length x.f9) (hc9 : x.f9.length ≤ c9) (hg : w.cell? ⟨g, 0, none⟩ = some (.func (.func 30) #[] #[])) (h : book_Partition_right.f k (x.f0) (x.f1) (x.f2) (x.f3) (x.f4) (x.f5) (x.f6) (x.f7) (x.f8) (x.f9) (x.f10) (x.f11.f0) (x.f11.f1) = some r) :
  Calls Tryz.prog 97 #[.agg #[.string (x.f0), .slice A1 x.f1.length c1, .slice A2 x.f2.length c2, .slice A3 x.f3.length c3, .slice A4 x.f4.length c4, .slice A5 x.f5.length c5, .slice A6 x.f6.length c6, .slice A7 x.f7.length c7, .slice A8 x.f8.length c8, .slice A9 x.f9.length c9, .int .i64 (x.f10), .int .i64 (x.f11.f0), .int .i64 (x.f11.f1)], .pointer (some ⟨g, 0, none⟩)] w fun e w' => e = .returned (.bool (!r)) ∧ Below w.heap.size w w' := by
 have hgl := World.block_lt_of_cell? w _ hg
 have HH := Aside0.mk h
 clear h
 have HR1 := Aside0.mk hr1
 have HC1 := Aside0.mk hc1
 clear hr1 hc1
 have HR2 := Aside0.mk hr2
 have HC2 := Aside0.mk hc2
 clear hr2 hc2
 have HR3 := Aside0.mk hr3
 have HC3 := Aside0.mk hc3
 clear hr3 hc3
 have HR4 := Aside0.mk hr4
 have HC4 := Aside0.mk hc4
 clear hr4 hc4
 have HR5 := Aside0.mk hr5
 have HC5 := Aside0.mk hc5
 clear hr5 hc5
 have HR6 := Aside0.mk hr6
 have HC6 := Aside0.mk hc6
 clear hr6 hc6
 have HR7 := Aside0.mk hr7
 have HC7 := Aside0.mk hc7
 clear hr7 hc7
 have HR8 := Aside0.mk hr8
 have HC8 := Aside0.mk hc8
 clear hr8 hc8
 have HR9 := Aside0.mk hr9
 have HC9 := Aside0.mk hc9
 clear hr9 hc9
 have hgw : (w.alloc (.cells #[.string (x.f0), .slice A1 x.f1.length c1, .slice A2 x.f2.length c2, .slice A3 x.f3.length c3, .slice A4 x.f4.length c4, .slice A5 x.f5.length c5, .slice A6 x.f6.length c6, .slice A7 x.f7.length c7, .slice A8 x.f8.length c8, .slice A9 x.f9.length c9, .int .i64 (x.f10), .int .i64 (x.f11.f0), .int .i64 (x.f11.f1)] 52)).cell? ⟨g, 0, none⟩ = some (.func (.func 30) #[] #[]) := ((alloc_below0 w _).cell hgl).trans hg
 go_enter Tryz.func97, Tryz.ntmps97
 go_wp2_with fail
 refine (book_Partition_right.calls k (x.f0) _ _ (x.f1) _ _ (x.f2) _ _ (x.f3) _ _ (x.f4) _ _ (x.f5) _ _ (x.f6) _ _ (x.f7) _ _ (x.f8) _ _ (x.f9) (x.f10) (x.f11.f0) (x.f11.f1) r _ (Kd.C_alloc HR1.out _) HC1.out (Kd.C_alloc HR2.out _) HC2.out (Kd.C_alloc HR3.out _) HC3.out (Kd.C_alloc HR4.out _) HC4.out (Kd.C_alloc HR5.out _) HC5.out (Kd.C_alloc HR6.out _) HC6.out (Kd.C_alloc HR7.out _) HC7.out (Kd.C_alloc HR8.out _) HC8.out (Kd.C_alloc HR9.out _) HC9.out HH.out).mono ?_
 rintro e w' ⟨rfl, hb⟩
 go_wp2
 go_ret
 exact ⟨by simp, below_step (alloc_below0 w _) hb⟩
set_option maxHeartbeats 2000000 in
set_option maxRecDepth 100000 in
theorem book_Partition_29__30.c2 (k : Nat) (A0 : Option Addr) (c0 : Nat) (l : List (S52)) (r : Bool) (g : Nat) (w : World) (hr0 : Kd.C k52 w A0 l.length l) (hL : l.length ≤ 140737488351232) (hg : w.cell? ⟨g, 0, none⟩ = some (.func (.func 30) #[] #[])) (h : allO (fun x => book_Partition_right.f k (x.f0) (x.f1) (x.f2) (x.f3) (x.f4) (x.f5) (x.f6) (x.f7) (x.f8) (x.f9) (x.f10) (x.f11.f0) (x.f11.f1)) l = some r) :
  Calls Tryz.prog 135 #[.slice A0 l.length c0, .func (.func 97) #[] #[.pointer (some ⟨g, 0, none⟩)]] w fun e w' => (∃ q : Int, e = .returned (.int .i64 q) ∧ Hid (decide (0 ≤ q) = !r)) ∧ Below w.heap.size w w' := by
 have hgl := World.block_lt_of_cell? w _ hg
 have HR0 := Aside0.mk hr0
 have HG := Aside0.mk hg
 have H0 : Aside0 (allO (fun x => book_Partition_right.f k (x.f0) (x.f1) (x.f2) (x.f3) (x.f4) (x.f5) (x.f6) (x.f7) (x.f8) (x.f9) (x.f10) (x.f11.f0) (x.f11.f1)) (l.drop 0) = some r) := ⟨by simpa using h⟩
 clear hr0 hg h
 go_enter Tryz.func135, Tryz.ntmps135
 go_wp2
 go_loopw [8] (fun v8 wr => ∃ j : Nat, v8 = .int .i64 (j : Int) ∧ j ≤ l.length ∧ Aside0 (allO (fun x => book_Partition_right.f k (x.f0) (x.f1) (x.f2) (x.f3) (x.f4) (x.f5) (x.f6) (x.f7) (x.f8) (x.f9) (x.f10) (x.f11.f0) (x.f11.f1)) (l.drop j) = some r) ∧ Aside0 (Below w.heap.size w wr)) (fun v8 _ => l.length - (intOf v8).toNat)
 case atStart => exact ⟨0, rfl, Nat.zero_le _, H0, ⟨Below.refl _ _⟩⟩
 case round =>
  clear H0
  obtain ⟨j, rfl, hj, HA, HB⟩ := hrel
  by_cases hlt : j < l.length
  ·
   have p7 : (0 : Int) ≤ (j : Int) := by omega
   have q7 : (j : Int) < (l.length : Int) := by omega
   obtain ⟨b, hb1, hb2, hb3⟩ := allO_cons hlt HA.out
   have HB1 := Aside0.mk hb1
   have HB2 := Aside0.mk hb2
   have HB3 := Aside0.mk hb3
   clear hb1 hb2 hb3
   obtain ⟨ad7, A7_1, c7_1, A7_2, c7_2, A7_3, c7_3, A7_4, c7_4, A7_5, c7_5, A7_6, c7_6, A7_7, c7_7, A7_8, c7_8, A7_9, c7_9, e7, hx7_0, hx7_1, hx7_2, hx7_3, hx7_4, hx7_5, hx7_6, hx7_7, hx7_8, hx7_9, hx7_10, hx7_11, hx7_12, hl7_1, hi7_1, hl7_2, hi7_2, hl7_3, hi7_3, hl7_4, hi7_4, hl7_5, hi7_5, hl7_6, hi7_6, hl7_7, hi7_7, hl7_8, hi7_8, hl7_9, hi7_9⟩ := at_T52 HR0.out (j : Int) p7 q7
   cases e7
   replace hx7_0 := (HB.out.cell (World.block_lt_of_cell? w _ hx7_0)).trans hx7_0
   replace hx7_1 := (HB.out.cell (World.block_lt_of_cell? w _ hx7_1)).trans hx7_1
   replace hx7_2 := (HB.out.cell (World.block_lt_of_cell? w _ hx7_2)).trans hx7_2
   replace hx7_3 := (HB.out.cell (World.block_lt_of_cell? w _ hx7_3)).trans hx7_3
   replace hx7_4 := (HB.out.cell (World.block_lt_of_cell? w _ hx7_4)).trans hx7_4
   replace hx7_5 := (HB.out.cell (World.block_lt_of_cell? w _ hx7_5)).trans hx7_5
   replace hx7_6 := (HB.out.cell (World.block_lt_of_cell? w _ hx7_6)).trans hx7_6
   replace hx7_7 := (HB.out.cell (World.block_lt_of_cell? w _ hx7_7)).trans hx7_7
   replace hx7_8 := (HB.out.cell (World.block_lt_of_cell? w _ hx7_8)).trans hx7_8
   replace hx7_9 := (HB.out.cell (World.block_lt_of_cell? w _ hx7_9)).trans hx7_9
   replace hx7_10 := (HB.out.cell (World.block_lt_of_cell? w _ hx7_10)).trans hx7_10
   replace hx7_11 := (HB.out.cell (World.block_lt_of_cell? w _ hx7_11)).trans hx7_11
   replace hx7_12 := (HB.out.cell (World.block_lt_of_cell? w _ hx7_12)).trans hx7_12
   have HR7_1 := Aside0.mk hi7_1
   have HC7_1 := Aside0.mk hl7_1
   clear hi7_1 hl7_1
   have HR7_2 := Aside0.mk hi7_2
   have HC7_2 := Aside0.mk hl7_2
   clear hi7_2 hl7_2
   have HR7_3 := Aside0.mk hi7_3
   have HC7_3 := Aside0.mk hl7_3
   clear hi7_3 hl7_3
   have HR7_4 := Aside0.mk hi7_4
   have HC7_4 := Aside0.mk hl7_4
   clear hi7_4 hl7_4
   have HR7_5 := Aside0.mk hi7_5
   have HC7_5 := Aside0.mk hl7_5
   clear hi7_5 hl7_5
   have HR7_6 := Aside0.mk hi7_6
   have HC7_6 := Aside0.mk hl7_6
   clear hi7_6 hl7_6
   have HR7_7 := Aside0.mk hi7_7
   have HC7_7 := Aside0.mk hl7_7
   clear hi7_7 hl7_7
   have HR7_8 := Aside0.mk hi7_8
   have HC7_8 := Aside0.mk hl7_8
   clear hi7_8 hl7_8
   have HR7_9 := Aside0.mk hi7_9
   have HC7_9 := Aside0.mk hl7_9
   clear hi7_9 hl7_9
   have EX : Aside0 (rd_T52 l (j : Int) = l[j]) := ⟨by show l.getD _ _ = _; rw [Int.toNat_natCast, List.getD_eq_getElem?_getD, List.getElem?_eq_getElem hlt, Option.getD_some]⟩
   clear p7 q7
   generalize rd_T52 l (j : Int) = x at *
   have HC : Aside0 (book_Partition_right.f k (x.f0) (x.f1) (x.f2) (x.f3) (x.f4) (x.f5) (x.f6) (x.f7) (x.f8) (x.f9) (x.f10) (x.f11.f0) (x.f11.f1) = some b) := ⟨by rw [EX.out]; exact HB1.out⟩
   clear HB1 EX
   simp only [Int.toNat_natCast] at *
   go_wp2_with fail
   refine (book_Partition_29__30.c1 k x _ _ _ _ _ _ _ _ _ _ _ _ _ _ _ _ _ _ b g wr (Kd.C_below HR7_1.out HB.out) HC7_1.out (Kd.C_below HR7_2.out HB.out) HC7_2.out (Kd.C_below HR7_3.out HB.out) HC7_3.out (Kd.C_below HR7_4.out HB.out) HC7_4.out (Kd.C_below HR7_5.out HB.out) HC7_5.out (Kd.C_below HR7_6.out HB.out) HC7_6.out (Kd.C_below HR7_7.out HB.out) HC7_7.out (Kd.C_below HR7_8.out HB.out) HC7_8.out (Kd.C_below HR7_9.out HB.out) HC7_9.out ((HB.out.cell hgl).trans HG.out) HC.out).mono ?_
   rintro e w9 ⟨rfl, hb⟩
   have HB9 : Aside0 (Below w.heap.size w w9) := ⟨below_step HB.out hb⟩
   clear hb HB
   cases b with
   | true =>
    go_wp2
    go_roundw
    case rel => exact ⟨j + 1, by go_num, by omega, ⟨HB2.out (by simp)⟩, HB9⟩
    case measure => simp [intOf]; omega
   | false =>
    go_wp2
    go_ret
    exact ⟨⟨_, rfl, by rw [HB3.out (by simp)]; show _ = _; simp⟩, HB9.out⟩
  ·
   obtain rfl : j = l.length := by omega
   have hr : r = true := by have := HA.out; rw [List.drop_length] at this; simpa [allO] using this.symm
   subst hr
   go_wp2
   go_ret
   exact ⟨⟨_, rfl, by show _ = _; simp⟩, HB.out⟩
set_option maxHeartbeats 800000 in
theorem book_Partition_29__30.c3 (k : Nat) (A0 : Option Addr) (c0 : Nat) (l : List (S52)) (r : Bool) (g : Nat) (w : World) (hr0 : Kd.C k52 w A0 l.length l) (hL : l.length ≤ 140737488351232) (hg : w.cell? ⟨g, 0, none⟩ = some (.func (.func 30) #[] #[])) (h : allO (fun x => book_Partition_right.f k (x.f0) (x.f1) (x.f2) (x.f3) (x.f4) (x.f5) (x.f6) (x.f7) (x.f8) (x.f9) (x.f10) (x.f11.f0) (x.f11.f1)) l = some r) :
  Calls Tryz.prog 96 #[.slice A0 l.length c0, .func (.func 97) #[] #[.pointer (some ⟨g, 0, none⟩)]] w fun e w' => e = .returned (.bool (!r)) ∧ Below w.heap.size w w' := by
 have HC := book_Partition_29__30.c2 k A0 c0 l r g w hr0 hL hg h
 clear hr0 hg h
 go_enter Tryz.func96, Tryz.ntmps96
 go_wp2_with fail
 refine HC.mono ?_
 clear HC
 rintro e w' ⟨⟨q, rfl, hq⟩, hb⟩
 go_wp2
 go_ret
 exact ⟨by rw [← hq.out]; rfl, hb⟩
set_option maxHeartbeats 800000 in
theorem book_Partition_29__30.calls (k : Nat) (A0 : Option Addr) (c0 : Nat) (l0 : List (S52)) (a1 : Int) (r : Bool) (w : World) (hr0 : Kd.C k52 w A0 l0.length l0) (hc0 : l0.length ≤ c0) (h : book_Partition_29__30.f k l0 a1 = some r) :
  Calls Tryz.prog 29 #[.slice A0 l0.length c0, .int .i64 a1, .func (.func 30) #[] #[]] w fun e w' => e = .returned (.bool r) ∧ Below w.heap.size w w' := by
 unfold book_Partition_29__30.f at h
 have HR := Aside0.mk hr0
 clear hr0
 have hbw : Below w.heap.size w (w.alloc (.cells #[.func (.func 30) #[] #[]] 79)) := alloc_below0 w _
 by_cases hle : (l0.length : Int) ≤ a1
 ·
  rw [if_pos hle] at h
  obtain ⟨hL, h2⟩ := if_some h
  clear h
  have h := h2
  clear h2
  have hd : decide ((l0.length : Int) ≤ a1) = true := decide_eq_true hle
  have HC := book_Partition_29__30.c3 k A0 c0 l0 r w.heap.size (w.alloc (.cells #[.func (.func 30) #[] #[]] 79)) (Kd.C_alloc HR.out _) hL (by simp) h
  have HB := Aside0.mk hbw
  clear h hle hbw
  go_enter Tryz.func29, Tryz.ntmps29
  go_wp2_with fail
  refine HC.mono ?_
  clear HC
  rintro e w' ⟨rfl, hb⟩
  go_wp2
  go_ret
  exact ⟨by simp, below_step HB.out hb⟩
 ·
  rw [if_neg hle] at h
  obtain rfl := Option.some.inj h
  have hd : decide ((l0.length : Int) ≤ a1) = false := decide_eq_false hle
  clear h hle
  go_enter Tryz.func29, Tryz.ntmps29
  go_wp2
  go_ret
  exact ⟨rfl, hbw⟩

/-! ### book_Schedule_31__32: function 31 at book_Schedule_right -/
def book_Schedule_31__32.f (k : Nat) (l : List (S67)) (n : Int) : Option (Bool) := if (l.length : Int) ≤ n then (if l.length ≤ 140737488351232 then (allO (fun x => book_Schedule_right.f k (x.f0) (x.f1) (x.f2)) l) else none) else (some false)
theorem book_Schedule_31__32.mono : ∀ a0 a1 k, LeO (book_Schedule_31__32.f k a0 a1) (book_Schedule_31__32.f (k + 1) a0 a1) := by
 intro a0 a1 k
 unfold book_Schedule_31__32.f
 exact LeO.ite (LeO.ite (allO_mono (fun x => book_Schedule_right.mono _ _ _ k) a0) (LeO.refl _)) (LeO.refl _)
set_option maxHeartbeats 800000 in
set_option maxRecDepth 100000 in
theorem book_Schedule_31__32.c1 (k : Nat) (x : S67) (A2 : Option Addr) (c2 : Nat) (r : Bool) (g : Nat) (w : World) (hr2 : Kd.C k69 w A2 x.f2.length x.f2) (hc2 : x.f2.length ≤ c2) (hg : w.cell? ⟨g, 0, none⟩ = some (.func (.func 32) #[] #[])) (h : book_Schedule_right.f k (x.f0) (x.f1) (x.f2) = some r) :
  Calls Tryz.prog 115 #[.agg #[.string (x.f0), .int .i64 (x.f1), .slice A2 x.f2.length c2], .pointer (some ⟨g, 0, none⟩)] w fun e w' => e = .returned (.bool (!r)) ∧ Below w.heap.size w w' := by
 have hgl := World.block_lt_of_cell? w _ hg
 have HH := Aside0.mk h
 clear h
 have HR2 := Aside0.mk hr2
 have HC2 := Aside0.mk hc2
 clear hr2 hc2
 have hgw : (w.alloc (.cells #[.string (x.f0), .int .i64 (x.f1), .slice A2 x.f2.length c2] 67)).cell? ⟨g, 0, none⟩ = some (.func (.func 32) #[] #[]) := ((alloc_below0 w _).cell hgl).trans hg
 go_enter Tryz.func115, Tryz.ntmps115
 go_wp2_with fail
 refine (book_Schedule_right.calls k (x.f0) (x.f1) _ _ (x.f2) r _ (Kd.C_alloc HR2.out _) HC2.out HH.out).mono ?_
 rintro e w' ⟨rfl, hb⟩
 go_wp2
 go_ret
 exact ⟨by simp, below_step (alloc_below0 w _) hb⟩
set_option maxHeartbeats 2000000 in
set_option maxRecDepth 100000 in
theorem book_Schedule_31__32.c2 (k : Nat) (A0 : Option Addr) (c0 : Nat) (l : List (S67)) (r : Bool) (g : Nat) (w : World) (hr0 : Kd.C k67 w A0 l.length l) (hL : l.length ≤ 140737488351232) (hg : w.cell? ⟨g, 0, none⟩ = some (.func (.func 32) #[] #[])) (h : allO (fun x => book_Schedule_right.f k (x.f0) (x.f1) (x.f2)) l = some r) :
  Calls Tryz.prog 152 #[.slice A0 l.length c0, .func (.func 115) #[] #[.pointer (some ⟨g, 0, none⟩)]] w fun e w' => (∃ q : Int, e = .returned (.int .i64 q) ∧ Hid (decide (0 ≤ q) = !r)) ∧ Below w.heap.size w w' := by
 have hgl := World.block_lt_of_cell? w _ hg
 have HR0 := Aside0.mk hr0
 have HG := Aside0.mk hg
 have H0 : Aside0 (allO (fun x => book_Schedule_right.f k (x.f0) (x.f1) (x.f2)) (l.drop 0) = some r) := ⟨by simpa using h⟩
 clear hr0 hg h
 go_enter Tryz.func152, Tryz.ntmps152
 go_wp2
 go_loopw [8] (fun v8 wr => ∃ j : Nat, v8 = .int .i64 (j : Int) ∧ j ≤ l.length ∧ Aside0 (allO (fun x => book_Schedule_right.f k (x.f0) (x.f1) (x.f2)) (l.drop j) = some r) ∧ Aside0 (Below w.heap.size w wr)) (fun v8 _ => l.length - (intOf v8).toNat)
 case atStart => exact ⟨0, rfl, Nat.zero_le _, H0, ⟨Below.refl _ _⟩⟩
 case round =>
  clear H0
  obtain ⟨j, rfl, hj, HA, HB⟩ := hrel
  by_cases hlt : j < l.length
  ·
   have p7 : (0 : Int) ≤ (j : Int) := by omega
   have q7 : (j : Int) < (l.length : Int) := by omega
   obtain ⟨b, hb1, hb2, hb3⟩ := allO_cons hlt HA.out
   have HB1 := Aside0.mk hb1
   have HB2 := Aside0.mk hb2
   have HB3 := Aside0.mk hb3
   clear hb1 hb2 hb3
   obtain ⟨ad7, A7_2, c7_2, e7, hx7_0, hx7_1, hx7_2, hl7_2, hi7_2⟩ := at_T67 HR0.out (j : Int) p7 q7
   cases e7
   replace hx7_0 := (HB.out.cell (World.block_lt_of_cell? w _ hx7_0)).trans hx7_0
   replace hx7_1 := (HB.out.cell (World.block_lt_of_cell? w _ hx7_1)).trans hx7_1
   replace hx7_2 := (HB.out.cell (World.block_lt_of_cell? w _ hx7_2)).trans hx7_2
   have HR7_2 := Aside0.mk hi7_2
   have HC7_2 := Aside0.mk hl7_2
   clear hi7_2 hl7_2
   have EX : Aside0 (rd_T67 l (j : Int) = l[j]) := ⟨by show l.getD _ _ = _; rw [Int.toNat_natCast, List.getD_eq_getElem?_getD, List.getElem?_eq_getElem hlt, Option.getD_some]⟩
   clear p7 q7
   generalize rd_T67 l (j : Int) = x at *
   have HC : Aside0 (book_Schedule_right.f k (x.f0) (x.f1) (x.f2) = some b) := ⟨by rw [EX.out]; exact HB1.out⟩
   clear HB1 EX
   simp only [Int.toNat_natCast] at *
   go_wp2_with fail
   refine (book_Schedule_31__32.c1 k x _ _ b g wr (Kd.C_below HR7_2.out HB.out) HC7_2.out ((HB.out.cell hgl).trans HG.out) HC.out).mono ?_
   rintro e w9 ⟨rfl, hb⟩
   have HB9 : Aside0 (Below w.heap.size w w9) := ⟨below_step HB.out hb⟩
   clear hb HB
   cases b with
   | true =>
    go_wp2
    go_roundw
    case rel => exact ⟨j + 1, by go_num, by omega, ⟨HB2.out (by simp)⟩, HB9⟩
    case measure => simp [intOf]; omega
   | false =>
    go_wp2
    go_ret
    exact ⟨⟨_, rfl, by rw [HB3.out (by simp)]; show _ = _; simp⟩, HB9.out⟩
  ·
   obtain rfl : j = l.length := by omega
   have hr : r = true := by have := HA.out; rw [List.drop_length] at this; simpa [allO] using this.symm
   subst hr
   go_wp2
   go_ret
   exact ⟨⟨_, rfl, by show _ = _; simp⟩, HB.out⟩
set_option maxHeartbeats 800000 in
theorem book_Schedule_31__32.c3 (k : Nat) (A0 : Option Addr) (c0 : Nat) (l : List (S67)) (r : Bool) (g : Nat) (w : World) (hr0 : Kd.C k67 w A0 l.length l) (hL : l.length ≤ 140737488351232) (hg : w.cell? ⟨g, 0, none⟩ = some (.func (.func 32) #[] #[])) (h : allO (fun x => book_Schedule_right.f k (x.f0) (x.f1) (x.f2)) l = some r) :
  Calls Tryz.prog 114 #[.slice A0 l.length c0, .func (.func 115) #[] #[.pointer (some ⟨g, 0, none⟩)]] w fun e w' => e = .returned (.bool (!r)) ∧ Below w.heap.size w w' := by
 have HC := book_Schedule_31__32.c2 k A0 c0 l r g w hr0 hL hg h
 clear hr0 hg h
 go_enter Tryz.func114, Tryz.ntmps114
 go_wp2_with fail
 refine HC.mono ?_
 clear HC
 rintro e w' ⟨⟨q, rfl, hq⟩, hb⟩
 go_wp2
 go_ret
 exact ⟨by rw [← hq.out]; rfl, hb⟩
set_option maxHeartbeats 800000 in
theorem book_Schedule_31__32.calls (k : Nat) (A0 : Option Addr) (c0 : Nat) (l0 : List (S67)) (a1 : Int) (r : Bool) (w : World) (hr0 : Kd.C k67 w A0 l0.length l0) (hc0 : l0.length ≤ c0) (h : book_Schedule_31__32.f k l0 a1 = some r) :
  Calls Tryz.prog 31 #[.slice A0 l0.length c0, .int .i64 a1, .func (.func 32) #[] #[]] w fun e w' => e = .returned (.bool r) ∧ Below w.heap.size w w' := by
 unfold book_Schedule_31__32.f at h
 have HR := Aside0.mk hr0
 clear hr0
 have hbw : Below w.heap.size w (w.alloc (.cells #[.func (.func 32) #[] #[]] 81)) := alloc_below0 w _
 by_cases hle : (l0.length : Int) ≤ a1
 ·
  rw [if_pos hle] at h
  obtain ⟨hL, h2⟩ := if_some h
  clear h
  have h := h2
  clear h2
  have hd : decide ((l0.length : Int) ≤ a1) = true := decide_eq_true hle
  have HC := book_Schedule_31__32.c3 k A0 c0 l0 r w.heap.size (w.alloc (.cells #[.func (.func 32) #[] #[]] 81)) (Kd.C_alloc HR.out _) hL (by simp) h
  have HB := Aside0.mk hbw
  clear h hle hbw
  go_enter Tryz.func31, Tryz.ntmps31
  go_wp2_with fail
  refine HC.mono ?_
  clear HC
  rintro e w' ⟨rfl, hb⟩
  go_wp2
  go_ret
  exact ⟨by simp, below_step HB.out hb⟩
 ·
  rw [if_neg hle] at h
  obtain rfl := Option.some.inj h
  have hd : decide ((l0.length : Int) ≤ a1) = false := decide_eq_false hle
  clear h hle
  go_enter Tryz.func31, Tryz.ntmps31
  go_wp2
  go_ret
  exact ⟨rfl, hbw⟩

/-! ### book_Channel_34__35: function 34 at book_Module_Right_1 -/
def book_Channel_34__35.f (l : List (S74)) (n : Int) : Option (Bool) := if (l.length : Int) ≤ n then (if l.length ≤ 140737488351232 then (allO (fun x => book_Module_Right_1.f (x.f0.f0) (x.f0.f1) (x.f1)) l) else none) else (some false)
set_option maxHeartbeats 800000 in
set_option maxRecDepth 100000 in
theorem book_Channel_34__35.c1 (x : S74) (A2 : Option Addr) (c2 : Nat) (r : Bool) (g : Nat) (w : World) (hr2 : Kd.C k71 w A2 x.f1.length x.f1) (hc2 : x.f1.length ≤ c2) (hg : w.cell? ⟨g, 0, none⟩ = some (.func (.func 35) #[] #[])) (h : book_Module_Right_1.f (x.f0.f0) (x.f0.f1) (x.f1) = some r) :
  Calls Tryz.prog 119 #[.agg #[.int .i64 (x.f0.f0), .int .i64 (x.f0.f1), .slice A2 x.f1.length c2], .pointer (some ⟨g, 0, none⟩)] w fun e w' => e = .returned (.bool (!r)) ∧ Below w.heap.size w w' := by
 have hgl := World.block_lt_of_cell? w _ hg
 have HH := Aside0.mk h
 clear h
 have HR2 := Aside0.mk hr2
 have HC2 := Aside0.mk hc2
 clear hr2 hc2
 have hgw : (w.alloc (.cells #[.int .i64 (x.f0.f0), .int .i64 (x.f0.f1), .slice A2 x.f1.length c2] 74)).cell? ⟨g, 0, none⟩ = some (.func (.func 35) #[] #[]) := ((alloc_below0 w _).cell hgl).trans hg
 go_enter Tryz.func119, Tryz.ntmps119
 go_wp2_with fail
 refine (book_Module_Right_1.calls (x.f0.f0) (x.f0.f1) _ _ (x.f1) r _ (Kd.C_alloc HR2.out _) HC2.out HH.out).mono ?_
 rintro e w' ⟨rfl, hb⟩
 go_wp2
 go_ret
 exact ⟨by simp, below_step (alloc_below0 w _) hb⟩
set_option maxHeartbeats 2000000 in
set_option maxRecDepth 100000 in
theorem book_Channel_34__35.c2 (A0 : Option Addr) (c0 : Nat) (l : List (S74)) (r : Bool) (g : Nat) (w : World) (hr0 : Kd.C k74 w A0 l.length l) (hL : l.length ≤ 140737488351232) (hg : w.cell? ⟨g, 0, none⟩ = some (.func (.func 35) #[] #[])) (h : allO (fun x => book_Module_Right_1.f (x.f0.f0) (x.f0.f1) (x.f1)) l = some r) :
  Calls Tryz.prog 155 #[.slice A0 l.length c0, .func (.func 119) #[] #[.pointer (some ⟨g, 0, none⟩)]] w fun e w' => (∃ q : Int, e = .returned (.int .i64 q) ∧ Hid (decide (0 ≤ q) = !r)) ∧ Below w.heap.size w w' := by
 have hgl := World.block_lt_of_cell? w _ hg
 have HR0 := Aside0.mk hr0
 have HG := Aside0.mk hg
 have H0 : Aside0 (allO (fun x => book_Module_Right_1.f (x.f0.f0) (x.f0.f1) (x.f1)) (l.drop 0) = some r) := ⟨by simpa using h⟩
 clear hr0 hg h
 go_enter Tryz.func155, Tryz.ntmps155
 go_wp2
 go_loopw [8] (fun v8 wr => ∃ j : Nat, v8 = .int .i64 (j : Int) ∧ j ≤ l.length ∧ Aside0 (allO (fun x => book_Module_Right_1.f (x.f0.f0) (x.f0.f1) (x.f1)) (l.drop j) = some r) ∧ Aside0 (Below w.heap.size w wr)) (fun v8 _ => l.length - (intOf v8).toNat)
 case atStart => exact ⟨0, rfl, Nat.zero_le _, H0, ⟨Below.refl _ _⟩⟩
 case round =>
  clear H0
  obtain ⟨j, rfl, hj, HA, HB⟩ := hrel
  by_cases hlt : j < l.length
  ·
   have p7 : (0 : Int) ≤ (j : Int) := by omega
   have q7 : (j : Int) < (l.length : Int) := by omega
   obtain ⟨b, hb1, hb2, hb3⟩ := allO_cons hlt HA.out
   have HB1 := Aside0.mk hb1
   have HB2 := Aside0.mk hb2
   have HB3 := Aside0.mk hb3
   clear hb1 hb2 hb3
   obtain ⟨ad7, A7_2, c7_2, e7, hx7_0, hx7_1, hx7_2, hl7_2, hi7_2⟩ := at_T74 HR0.out (j : Int) p7 q7
   cases e7
   replace hx7_0 := (HB.out.cell (World.block_lt_of_cell? w _ hx7_0)).trans hx7_0
   replace hx7_1 := (HB.out.cell (World.block_lt_of_cell? w _ hx7_1)).trans hx7_1
   replace hx7_2 := (HB.out.cell (World.block_lt_of_cell? w _ hx7_2)).trans hx7_2
   have HR7_2 := Aside0.mk hi7_2
   have HC7_2 := Aside0.mk hl7_2
   clear hi7_2 hl7_2
   have EX : Aside0 (rd_T74 l (j : Int) = l[j]) := ⟨by show l.getD _ _ = _; rw [Int.toNat_natCast, List.getD_eq_getElem?_getD, List.getElem?_eq_getElem hlt, Option.getD_some]⟩
   clear p7 q7
   generalize rd_T74 l (j : Int) = x at *
   have HC : Aside0 (book_Module_Right_1.f (x.f0.f0) (x.f0.f1) (x.f1) = some b) := ⟨by rw [EX.out]; exact HB1.out⟩
   clear HB1 EX
   simp only [Int.toNat_natCast] at *
   go_wp2_with fail
   refine (book_Channel_34__35.c1 x _ _ b g wr (Kd.C_below HR7_2.out HB.out) HC7_2.out ((HB.out.cell hgl).trans HG.out) HC.out).mono ?_
   rintro e w9 ⟨rfl, hb⟩
   have HB9 : Aside0 (Below w.heap.size w w9) := ⟨below_step HB.out hb⟩
   clear hb HB
   cases b with
   | true =>
    go_wp2
    go_roundw
    case rel => exact ⟨j + 1, by go_num, by omega, ⟨HB2.out (by simp)⟩, HB9⟩
    case measure => simp [intOf]; omega
   | false =>
    go_wp2
    go_ret
    exact ⟨⟨_, rfl, by rw [HB3.out (by simp)]; show _ = _; simp⟩, HB9.out⟩
  ·
   obtain rfl : j = l.length := by omega
   have hr : r = true := by have := HA.out; rw [List.drop_length] at this; simpa [allO] using this.symm
   subst hr
   go_wp2
   go_ret
   exact ⟨⟨_, rfl, by show _ = _; simp⟩, HB.out⟩
set_option maxHeartbeats 800000 in
theorem book_Channel_34__35.c3 (A0 : Option Addr) (c0 : Nat) (l : List (S74)) (r : Bool) (g : Nat) (w : World) (hr0 : Kd.C k74 w A0 l.length l) (hL : l.length ≤ 140737488351232) (hg : w.cell? ⟨g, 0, none⟩ = some (.func (.func 35) #[] #[])) (h : allO (fun x => book_Module_Right_1.f (x.f0.f0) (x.f0.f1) (x.f1)) l = some r) :
  Calls Tryz.prog 118 #[.slice A0 l.length c0, .func (.func 119) #[] #[.pointer (some ⟨g, 0, none⟩)]] w fun e w' => e = .returned (.bool (!r)) ∧ Below w.heap.size w w' := by
 have HC := book_Channel_34__35.c2 A0 c0 l r g w hr0 hL hg h
 clear hr0 hg h
 go_enter Tryz.func118, Tryz.ntmps118
 go_wp2_with fail
 refine HC.mono ?_
 clear HC
 rintro e w' ⟨⟨q, rfl, hq⟩, hb⟩
 go_wp2
 go_ret
 exact ⟨by rw [← hq.out]; rfl, hb⟩
set_option maxHeartbeats 800000 in
theorem book_Channel_34__35.calls (A0 : Option Addr) (c0 : Nat) (l0 : List (S74)) (a1 : Int) (r : Bool) (w : World) (hr0 : Kd.C k74 w A0 l0.length l0) (hc0 : l0.length ≤ c0) (h : book_Channel_34__35.f l0 a1 = some r) :
  Calls Tryz.prog 34 #[.slice A0 l0.length c0, .int .i64 a1, .func (.func 35) #[] #[]] w fun e w' => e = .returned (.bool r) ∧ Below w.heap.size w w' := by
 unfold book_Channel_34__35.f at h
 have HR := Aside0.mk hr0
 clear hr0
 have hbw : Below w.heap.size w (w.alloc (.cells #[.func (.func 35) #[] #[]] 86)) := alloc_below0 w _
 by_cases hle : (l0.length : Int) ≤ a1
 ·
  rw [if_pos hle] at h
  obtain ⟨hL, h2⟩ := if_some h
  clear h
  have h := h2
  clear h2
  have hd : decide ((l0.length : Int) ≤ a1) = true := decide_eq_true hle
  have HC := book_Channel_34__35.c3 A0 c0 l0 r w.heap.size (w.alloc (.cells #[.func (.func 35) #[] #[]] 86)) (Kd.C_alloc HR.out _) hL (by simp) h
  have HB := Aside0.mk hbw
  clear h hle hbw
  go_enter Tryz.func34, Tryz.ntmps34
  go_wp2_with fail
  refine HC.mono ?_
  clear HC
  rintro e w' ⟨rfl, hb⟩
  go_wp2
  go_ret
  exact ⟨by simp, below_step HB.out hb⟩
 ·
  rw [if_neg hle] at h
  obtain rfl := Option.some.inj h
  have hd : decide ((l0.length : Int) ≤ a1) = false := decide_eq_false hle
  clear h hle
  go_enter Tryz.func34, Tryz.ntmps34
  go_wp2
  go_ret
  exact ⟨rfl, hbw⟩

/-! ### book_Link_38__39: function 38 at book_Module_Right_2 -/
def book_Link_38__39.f (k : Nat) (l : List (S77)) (n : Int) : Option (Bool) := if (l.length : Int) ≤ n then (if l.length ≤ 140737488351232 then (allO (fun x => book_Module_Right_2.f k (x.f0) (x.f1) (x.f2)) l) else none) else (some false)
theorem book_Link_38__39.mono : ∀ a0 a1 k, LeO (book_Link_38__39.f k a0 a1) (book_Link_38__39.f (k + 1) a0 a1) := by
 intro a0 a1 k
 unfold book_Link_38__39.f
 exact LeO.ite (LeO.ite (allO_mono (fun x => book_Module_Right_2.mono _ _ _ k) a0) (LeO.refl _)) (LeO.refl _)
set_option maxHeartbeats 800000 in
set_option maxRecDepth 100000 in
theorem book_Link_38__39.c1 (k : Nat) (x : S77) (r : Bool) (g : Nat) (w : World) (hg : w.cell? ⟨g, 0, none⟩ = some (.func (.func 39) #[] #[])) (h : book_Module_Right_2.f k (x.f0) (x.f1) (x.f2) = some r) :
  Calls Tryz.prog 123 #[.agg #[.string (x.f0), .int .i64 (x.f1), .int .i64 (x.f2)], .pointer (some ⟨g, 0, none⟩)] w fun e w' => e = .returned (.bool (!r)) ∧ Below w.heap.size w w' := by
 have hgl := World.block_lt_of_cell? w _ hg
 have HH := Aside0.mk h
 clear h
 have hgw : (w.alloc (.cells #[.string (x.f0), .int .i64 (x.f1), .int .i64 (x.f2)] 77)).cell? ⟨g, 0, none⟩ = some (.func (.func 39) #[] #[]) := ((alloc_below0 w _).cell hgl).trans hg
 go_enter Tryz.func123, Tryz.ntmps123
 go_wp2_with fail
 refine (book_Module_Right_2.calls k (x.f0) (x.f1) (x.f2) r _ HH.out).mono ?_
 rintro e w' ⟨rfl, hb⟩
 go_wp2
 go_ret
 exact ⟨by simp, below_step (alloc_below0 w _) hb⟩
set_option maxHeartbeats 2000000 in
set_option maxRecDepth 100000 in
theorem book_Link_38__39.c2 (k : Nat) (A0 : Option Addr) (c0 : Nat) (l : List (S77)) (r : Bool) (g : Nat) (w : World) (hr0 : Kd.C k77 w A0 l.length l) (hL : l.length ≤ 140737488351232) (hg : w.cell? ⟨g, 0, none⟩ = some (.func (.func 39) #[] #[])) (h : allO (fun x => book_Module_Right_2.f k (x.f0) (x.f1) (x.f2)) l = some r) :
  Calls Tryz.prog 157 #[.slice A0 l.length c0, .func (.func 123) #[] #[.pointer (some ⟨g, 0, none⟩)]] w fun e w' => (∃ q : Int, e = .returned (.int .i64 q) ∧ Hid (decide (0 ≤ q) = !r)) ∧ Below w.heap.size w w' := by
 have hgl := World.block_lt_of_cell? w _ hg
 have HR0 := Aside0.mk hr0
 have HG := Aside0.mk hg
 have H0 : Aside0 (allO (fun x => book_Module_Right_2.f k (x.f0) (x.f1) (x.f2)) (l.drop 0) = some r) := ⟨by simpa using h⟩
 clear hr0 hg h
 go_enter Tryz.func157, Tryz.ntmps157
 go_wp2
 go_loopw [8] (fun v8 wr => ∃ j : Nat, v8 = .int .i64 (j : Int) ∧ j ≤ l.length ∧ Aside0 (allO (fun x => book_Module_Right_2.f k (x.f0) (x.f1) (x.f2)) (l.drop j) = some r) ∧ Aside0 (Below w.heap.size w wr)) (fun v8 _ => l.length - (intOf v8).toNat)
 case atStart => exact ⟨0, rfl, Nat.zero_le _, H0, ⟨Below.refl _ _⟩⟩
 case round =>
  clear H0
  obtain ⟨j, rfl, hj, HA, HB⟩ := hrel
  by_cases hlt : j < l.length
  ·
   have p7 : (0 : Int) ≤ (j : Int) := by omega
   have q7 : (j : Int) < (l.length : Int) := by omega
   obtain ⟨b, hb1, hb2, hb3⟩ := allO_cons hlt HA.out
   have HB1 := Aside0.mk hb1
   have HB2 := Aside0.mk hb2
   have HB3 := Aside0.mk hb3
   clear hb1 hb2 hb3
   obtain ⟨ad7, e7, hx7_0, hx7_1, hx7_2⟩ := at_T77 HR0.out (j : Int) p7 q7
   cases e7
   replace hx7_0 := (HB.out.cell (World.block_lt_of_cell? w _ hx7_0)).trans hx7_0
   replace hx7_1 := (HB.out.cell (World.block_lt_of_cell? w _ hx7_1)).trans hx7_1
   replace hx7_2 := (HB.out.cell (World.block_lt_of_cell? w _ hx7_2)).trans hx7_2
   have EX : Aside0 (rd_T77 l (j : Int) = l[j]) := ⟨by show l.getD _ _ = _; rw [Int.toNat_natCast, List.getD_eq_getElem?_getD, List.getElem?_eq_getElem hlt, Option.getD_some]⟩
   clear p7 q7
   generalize rd_T77 l (j : Int) = x at *
   have HC : Aside0 (book_Module_Right_2.f k (x.f0) (x.f1) (x.f2) = some b) := ⟨by rw [EX.out]; exact HB1.out⟩
   clear HB1 EX
   simp only [Int.toNat_natCast] at *
   go_wp2_with fail
   refine (book_Link_38__39.c1 k x b g wr ((HB.out.cell hgl).trans HG.out) HC.out).mono ?_
   rintro e w9 ⟨rfl, hb⟩
   have HB9 : Aside0 (Below w.heap.size w w9) := ⟨below_step HB.out hb⟩
   clear hb HB
   cases b with
   | true =>
    go_wp2
    go_roundw
    case rel => exact ⟨j + 1, by go_num, by omega, ⟨HB2.out (by simp)⟩, HB9⟩
    case measure => simp [intOf]; omega
   | false =>
    go_wp2
    go_ret
    exact ⟨⟨_, rfl, by rw [HB3.out (by simp)]; show _ = _; simp⟩, HB9.out⟩
  ·
   obtain rfl : j = l.length := by omega
   have hr : r = true := by have := HA.out; rw [List.drop_length] at this; simpa [allO] using this.symm
   subst hr
   go_wp2
   go_ret
   exact ⟨⟨_, rfl, by show _ = _; simp⟩, HB.out⟩
set_option maxHeartbeats 800000 in
theorem book_Link_38__39.c3 (k : Nat) (A0 : Option Addr) (c0 : Nat) (l : List (S77)) (r : Bool) (g : Nat) (w : World) (hr0 : Kd.C k77 w A0 l.length l) (hL : l.length ≤ 140737488351232) (hg : w.cell? ⟨g, 0, none⟩ = some (.func (.func 39) #[] #[])) (h : allO (fun x => book_Module_Right_2.f k (x.f0) (x.f1) (x.f2)) l = some r) :
  Calls Tryz.prog 122 #[.slice A0 l.length c0, .func (.func 123) #[] #[.pointer (some ⟨g, 0, none⟩)]] w fun e w' => e = .returned (.bool (!r)) ∧ Below w.heap.size w w' := by
 have HC := book_Link_38__39.c2 k A0 c0 l r g w hr0 hL hg h
 clear hr0 hg h
 go_enter Tryz.func122, Tryz.ntmps122
 go_wp2_with fail
 refine HC.mono ?_
 clear HC
 rintro e w' ⟨⟨q, rfl, hq⟩, hb⟩
 go_wp2
 go_ret
 exact ⟨by rw [← hq.out]; rfl, hb⟩
set_option maxHeartbeats 800000 in
theorem book_Link_38__39.calls (k : Nat) (A0 : Option Addr) (c0 : Nat) (l0 : List (S77)) (a1 : Int) (r : Bool) (w : World) (hr0 : Kd.C k77 w A0 l0.length l0) (hc0 : l0.length ≤ c0) (h : book_Link_38__39.f k l0 a1 = some r) :
  Calls Tryz.prog 38 #[.slice A0 l0.length c0, .int .i64 a1, .func (.func 39) #[] #[]] w fun e w' => e = .returned (.bool r) ∧ Below w.heap.size w w' := by
 unfold book_Link_38__39.f at h
 have HR := Aside0.mk hr0
 clear hr0
 have hbw : Below w.heap.size w (w.alloc (.cells #[.func (.func 39) #[] #[]] 88)) := alloc_below0 w _
 by_cases hle : (l0.length : Int) ≤ a1
 ·
  rw [if_pos hle] at h
  obtain ⟨hL, h2⟩ := if_some h
  clear h
  have h := h2
  clear h2
  have hd : decide ((l0.length : Int) ≤ a1) = true := decide_eq_true hle
  have HC := book_Link_38__39.c3 k A0 c0 l0 r w.heap.size (w.alloc (.cells #[.func (.func 39) #[] #[]] 88)) (Kd.C_alloc HR.out _) hL (by simp) h
  have HB := Aside0.mk hbw
  clear h hle hbw
  go_enter Tryz.func38, Tryz.ntmps38
  go_wp2_with fail
  refine HC.mono ?_
  clear HC
  rintro e w' ⟨rfl, hb⟩
  go_wp2
  go_ret
  exact ⟨by simp, below_step HB.out hb⟩
 ·
  rw [if_neg hle] at h
  obtain rfl := Option.some.inj h
  have hd : decide ((l0.length : Int) ≤ a1) = false := decide_eq_false hle
  clear h hle
  go_enter Tryz.func38, Tryz.ntmps38
  go_wp2
  go_ret
  exact ⟨rfl, hbw⟩

/-! ### book_Module_Right: function 13 -/
def book_Module_Right.f (k : Nat) (a0_0 : ByteArray) (l0_1 : List (S52)) (l0_2 : List (S67)) (a0_3 : Int) (l0_4 : List (S74)) (l0_5 : List (S77)) (l0_6 : List (S64)) : Option (Bool) := (book_Name.f k a0_0).bind fun t187 => (if t187 = true then ((book_Partition_29__30.f k l0_1 16).bind fun t188 => (if t188 = true then ((book_Schedule_31__32.f k l0_2 8).bind fun t189 => (if t189 = true then ((book_within.f a0_3 0 7).bind fun t190 => (if t190 = true then ((book_Channel_34__35.f l0_4 32).bind fun t191 => (if t191 = true then ((book_Link_38__39.f k l0_5 32).bind fun t192 => (if t192 = true then ((book_Rule_40__41.f l0_6 32).bind fun t193 => (some t193)) else (some false))) else (some false))) else (some false))) else (some false))) else (some false))) else (some false))
theorem book_Module_Right.mono : ∀ a0 a1 a2 a3 a4 a5 a6 k, LeO (book_Module_Right.f k a0 a1 a2 a3 a4 a5 a6) (book_Module_Right.f (k + 1) a0 a1 a2 a3 a4 a5 a6) := by
  intro a0 a1 a2 a3 a4 a5 a6 k
  unfold book_Module_Right.f
  repeat' first
      | (with_reducible exact book_Link_38__39.mono _ _ _)
      | (with_reducible exact book_Name.mono _ _)
      | (with_reducible exact book_Partition_29__30.mono _ _ _)
      | (with_reducible exact book_Schedule_31__32.mono _ _ _)
      | (with_reducible exact LeO.refl _)
      | (with_reducible exact LeO.none _)
      | (with_reducible refine LeO.ite ?_ ?_)
      | (with_reducible refine LeO.bind ?_ (fun _ => ?_))
      | exact book_Link_38__39.mono _ _ _
      | exact book_Name.mono _ _
      | exact book_Partition_29__30.mono _ _ _
      | exact book_Schedule_31__32.mono _ _ _
      | exact LeO.none _
      | refine LeO.ite ?_ ?_
      | refine LeO.bind ?_ (fun _ => ?_)
set_option maxHeartbeats 8000000 in
set_option maxRecDepth 100000 in
theorem book_Module_Right.calls (k : Nat) (a0_0 : ByteArray) (A0_1 : Option Addr) (c0_1 : Nat) (l0_1 : List (S52)) (A0_2 : Option Addr) (c0_2 : Nat) (l0_2 : List (S67)) (a0_3 : Int) (A0_4 : Option Addr) (c0_4 : Nat) (l0_4 : List (S74)) (A0_5 : Option Addr) (c0_5 : Nat) (l0_5 : List (S77)) (A0_6 : Option Addr) (c0_6 : Nat) (l0_6 : List (S64)) (r : Bool) (w : World) (hr0_1 : Kd.C k52 w A0_1 l0_1.length l0_1) (hc0_1 : l0_1.length ≤ c0_1) (hr0_2 : Kd.C k67 w A0_2 l0_2.length l0_2) (hc0_2 : l0_2.length ≤ c0_2) (hr0_4 : Kd.C k74 w A0_4 l0_4.length l0_4) (hc0_4 : l0_4.length ≤ c0_4) (hr0_5 : Kd.C k77 w A0_5 l0_5.length l0_5) (hc0_5 : l0_5.length ≤ c0_5) (hr0_6 : Kd.C k64 w A0_6 l0_6.length l0_6) (hc0_6 : l0_6.length ≤ c0_6) (h : book_Module_Right.f k a0_0 l0_1 l0_2 a0_3 l0_4 l0_5 l0_6 = some r) :
    Calls Tryz.prog 13 #[.agg #[.string a0_0, .slice A0_1 l0_1.length c0_1, .slice A0_2 l0_2.length c0_2, .int .i64 a0_3, .slice A0_4 l0_4.length c0_4, .slice A0_5 l0_5.length c0_5, .slice A0_6 l0_6.length c0_6]] w fun e w' => e = .returned (.bool r) ∧ Below w.heap.size w w' := by
 have HR0_1 := Aside0.mk hr0_1
 have HC0_1 := Aside0.mk hc0_1
 clear hr0_1 hc0_1
 have HR0_2 := Aside0.mk hr0_2
 have HC0_2 := Aside0.mk hc0_2
 clear hr0_2 hc0_2
 have HR0_4 := Aside0.mk hr0_4
 have HC0_4 := Aside0.mk hc0_4
 clear hr0_4 hc0_4
 have HR0_5 := Aside0.mk hr0_5
 have HC0_5 := Aside0.mk hc0_5
 clear hr0_5 hc0_5
 have HR0_6 := Aside0.mk hr0_6
 have HC0_6 := Aside0.mk hc0_6
 clear hr0_6 hc0_6
 unfold book_Module_Right.f at h
 have H := Aside0.mk h
 clear h
 have HB := Aside0.mk (Below.refl w.heap.size w)
 have hu30 := Tryz.underlying30
 go_enter Tryz.func13, Tryz.ntmps13
 have BK193 := Aside0.mk (pe_box0 w #[.string a0_0, .slice A0_1 l0_1.length c0_1, .slice A0_2 l0_2.length c0_2, .int .i64 a0_3, .slice A0_4 l0_4.length c0_4, .slice A0_5 l0_5.length c0_5, .slice A0_6 l0_6.length c0_6] 30)
 replace HB := Aside0.mk (below_alloc HB.out (.cells #[.string a0_0, .slice A0_1 l0_1.length c0_1, .slice A0_2 l0_2.length c0_2, .int .i64 a0_3, .slice A0_4 l0_4.length c0_4, .slice A0_5 l0_5.length c0_5, .slice A0_6 l0_6.length c0_6] 30))
 obtain ⟨t187, q194, H1⟩ := Option.bind_eq_some_iff.mp H.out
 replace H := Aside0.mk H1
 replace q194 := Aside0.mk q194
 clear H1
 go_wp2_with fail
 (with_reducible refine (book_Name.calls k a0_0 t187 _  q194.out).mono ?_)
 clear q194
 rintro e w195 ⟨rfl, hd⟩
 have hb := hd.below
 clear hd
 replace HB := Aside0.mk (below_step HB.out hb)
 replace BK193 := Aside0.mk (blk_below BK193.out hb)
 clear hb
 obtain ⟨hz196_193_0, hz196_193_1, hz196_193_2, hz196_193_3, hz196_193_4, hz196_193_5, hz196_193_6, hf196_193_0, hf196_193_1, hf196_193_2, hf196_193_3, hf196_193_4, hf196_193_5, hf196_193_6⟩ := blk7 BK193.out
 by_cases c197 : t187 = true
 · have H1 := H.out
   rw [if_pos c197] at H1
   replace H := Aside0.mk H1
   clear H1
   subst c197
   obtain ⟨t188, q198, H1⟩ := Option.bind_eq_some_iff.mp H.out
   replace H := Aside0.mk H1
   replace q198 := Aside0.mk q198
   clear H1
   go_wp2_with fail
   (with_reducible refine (book_Partition_29__30.calls k _ _ l0_1 16 t188 _ (Kd.C_below HR0_1.out HB.out) HC0_1.out q198.out).mono ?_)
   clear q198
   rintro e w199 ⟨rfl, hb⟩
   replace HB := Aside0.mk (below_step HB.out hb)
   replace BK193 := Aside0.mk (blk_below BK193.out hb)
   clear hb
   try clear hz196_193_0 hz196_193_1 hz196_193_2 hz196_193_3 hz196_193_4 hz196_193_5 hz196_193_6 hf196_193_0 hf196_193_1 hf196_193_2 hf196_193_3 hf196_193_4 hf196_193_5 hf196_193_6
   obtain ⟨hz200_193_0, hz200_193_1, hz200_193_2, hz200_193_3, hz200_193_4, hz200_193_5, hz200_193_6, hf200_193_0, hf200_193_1, hf200_193_2, hf200_193_3, hf200_193_4, hf200_193_5, hf200_193_6⟩ := blk7 BK193.out
   by_cases c201 : t188 = true
   · have H1 := H.out
     rw [if_pos c201] at H1
     replace H := Aside0.mk H1
     clear H1
     subst c201
     obtain ⟨t189, q202, H1⟩ := Option.bind_eq_some_iff.mp H.out
     replace H := Aside0.mk H1
     replace q202 := Aside0.mk q202
     clear H1
     go_wp2_with fail
     (with_reducible refine (book_Schedule_31__32.calls k _ _ l0_2 8 t189 _ (Kd.C_below HR0_2.out HB.out) HC0_2.out q202.out).mono ?_)
     clear q202
     rintro e w203 ⟨rfl, hb⟩
     replace HB := Aside0.mk (below_step HB.out hb)
     replace BK193 := Aside0.mk (blk_below BK193.out hb)
     clear hb
     try clear hz200_193_0 hz200_193_1 hz200_193_2 hz200_193_3 hz200_193_4 hz200_193_5 hz200_193_6 hf200_193_0 hf200_193_1 hf200_193_2 hf200_193_3 hf200_193_4 hf200_193_5 hf200_193_6
     obtain ⟨hz204_193_0, hz204_193_1, hz204_193_2, hz204_193_3, hz204_193_4, hz204_193_5, hz204_193_6, hf204_193_0, hf204_193_1, hf204_193_2, hf204_193_3, hf204_193_4, hf204_193_5, hf204_193_6⟩ := blk7 BK193.out
     by_cases c205 : t189 = true
     · have H1 := H.out
       rw [if_pos c205] at H1
       replace H := Aside0.mk H1
       clear H1
       subst c205
       obtain ⟨t190, q206, H1⟩ := Option.bind_eq_some_iff.mp H.out
       replace H := Aside0.mk H1
       replace q206 := Aside0.mk q206
       clear H1
       go_wp2_with fail
       (with_reducible refine (book_within.calls a0_3 0 7 t190 _  q206.out).mono ?_)
       clear q206
       rintro e w207 ⟨rfl, hd⟩
       have hb := hd.below
       clear hd
       replace HB := Aside0.mk (below_step HB.out hb)
       replace BK193 := Aside0.mk (blk_below BK193.out hb)
       clear hb
       try clear hz204_193_0 hz204_193_1 hz204_193_2 hz204_193_3 hz204_193_4 hz204_193_5 hz204_193_6 hf204_193_0 hf204_193_1 hf204_193_2 hf204_193_3 hf204_193_4 hf204_193_5 hf204_193_6
       obtain ⟨hz208_193_0, hz208_193_1, hz208_193_2, hz208_193_3, hz208_193_4, hz208_193_5, hz208_193_6, hf208_193_0, hf208_193_1, hf208_193_2, hf208_193_3, hf208_193_4, hf208_193_5, hf208_193_6⟩ := blk7 BK193.out
       by_cases c209 : t190 = true
       · have H1 := H.out
         rw [if_pos c209] at H1
         replace H := Aside0.mk H1
         clear H1
         subst c209
         obtain ⟨t191, q210, H1⟩ := Option.bind_eq_some_iff.mp H.out
         replace H := Aside0.mk H1
         replace q210 := Aside0.mk q210
         clear H1
         go_wp2_with fail
         (with_reducible refine (book_Channel_34__35.calls _ _ l0_4 32 t191 _ (Kd.C_below HR0_4.out HB.out) HC0_4.out q210.out).mono ?_)
         clear q210
         rintro e w211 ⟨rfl, hb⟩
         replace HB := Aside0.mk (below_step HB.out hb)
         replace BK193 := Aside0.mk (blk_below BK193.out hb)
         clear hb
         try clear hz208_193_0 hz208_193_1 hz208_193_2 hz208_193_3 hz208_193_4 hz208_193_5 hz208_193_6 hf208_193_0 hf208_193_1 hf208_193_2 hf208_193_3 hf208_193_4 hf208_193_5 hf208_193_6
         obtain ⟨hz212_193_0, hz212_193_1, hz212_193_2, hz212_193_3, hz212_193_4, hz212_193_5, hz212_193_6, hf212_193_0, hf212_193_1, hf212_193_2, hf212_193_3, hf212_193_4, hf212_193_5, hf212_193_6⟩ := blk7 BK193.out
         by_cases c213 : t191 = true
         · have H1 := H.out
           rw [if_pos c213] at H1
           replace H := Aside0.mk H1
           clear H1
           subst c213
           obtain ⟨t192, q214, H1⟩ := Option.bind_eq_some_iff.mp H.out
           replace H := Aside0.mk H1
           replace q214 := Aside0.mk q214
           clear H1
           go_wp2_with fail
           (with_reducible refine (book_Link_38__39.calls k _ _ l0_5 32 t192 _ (Kd.C_below HR0_5.out HB.out) HC0_5.out q214.out).mono ?_)
           clear q214
           rintro e w215 ⟨rfl, hb⟩
           replace HB := Aside0.mk (below_step HB.out hb)
           replace BK193 := Aside0.mk (blk_below BK193.out hb)
           clear hb
           try clear hz212_193_0 hz212_193_1 hz212_193_2 hz212_193_3 hz212_193_4 hz212_193_5 hz212_193_6 hf212_193_0 hf212_193_1 hf212_193_2 hf212_193_3 hf212_193_4 hf212_193_5 hf212_193_6
           obtain ⟨hz216_193_0, hz216_193_1, hz216_193_2, hz216_193_3, hz216_193_4, hz216_193_5, hz216_193_6, hf216_193_0, hf216_193_1, hf216_193_2, hf216_193_3, hf216_193_4, hf216_193_5, hf216_193_6⟩ := blk7 BK193.out
           by_cases c217 : t192 = true
           · have H1 := H.out
             rw [if_pos c217] at H1
             replace H := Aside0.mk H1
             clear H1
             subst c217
             obtain ⟨t193, q218, H1⟩ := Option.bind_eq_some_iff.mp H.out
             replace H := Aside0.mk H1
             replace q218 := Aside0.mk q218
             clear H1
             go_wp2_with fail
             (with_reducible refine (book_Rule_40__41.calls _ _ l0_6 32 t193 _ (Kd.C_below HR0_6.out HB.out) HC0_6.out q218.out).mono ?_)
             clear q218
             rintro e w219 ⟨rfl, hb⟩
             replace HB := Aside0.mk (below_step HB.out hb)
             replace BK193 := Aside0.mk (blk_below BK193.out hb)
             clear hb
             try clear hz216_193_0 hz216_193_1 hz216_193_2 hz216_193_3 hz216_193_4 hz216_193_5 hz216_193_6 hf216_193_0 hf216_193_1 hf216_193_2 hf216_193_3 hf216_193_4 hf216_193_5 hf216_193_6
             obtain ⟨hz220_193_0, hz220_193_1, hz220_193_2, hz220_193_3, hz220_193_4, hz220_193_5, hz220_193_6, hf220_193_0, hf220_193_1, hf220_193_2, hf220_193_3, hf220_193_4, hf220_193_5, hf220_193_6⟩ := blk7 BK193.out
             obtain rfl := Option.some.inj H.out
             go_wp2
             go_ret
             exact ⟨by first | rfl | (simp; done) | (simp [*]; done), HB.out⟩
           · have H1 := H.out
             rw [if_neg c217] at H1
             replace H := Aside0.mk H1
             clear H1
             replace c217 := Bool.eq_false_iff.mpr c217
             subst c217
             obtain rfl := Option.some.inj H.out
             go_wp2
             go_ret
             exact ⟨by first | rfl | (simp; done) | (simp [*]; done), HB.out⟩
         · have H1 := H.out
           rw [if_neg c213] at H1
           replace H := Aside0.mk H1
           clear H1
           replace c213 := Bool.eq_false_iff.mpr c213
           subst c213
           obtain rfl := Option.some.inj H.out
           go_wp2
           go_ret
           exact ⟨by first | rfl | (simp; done) | (simp [*]; done), HB.out⟩
       · have H1 := H.out
         rw [if_neg c209] at H1
         replace H := Aside0.mk H1
         clear H1
         replace c209 := Bool.eq_false_iff.mpr c209
         subst c209
         obtain rfl := Option.some.inj H.out
         go_wp2
         go_ret
         exact ⟨by first | rfl | (simp; done) | (simp [*]; done), HB.out⟩
     · have H1 := H.out
       rw [if_neg c205] at H1
       replace H := Aside0.mk H1
       clear H1
       replace c205 := Bool.eq_false_iff.mpr c205
       subst c205
       obtain rfl := Option.some.inj H.out
       go_wp2
       go_ret
       exact ⟨by first | rfl | (simp; done) | (simp [*]; done), HB.out⟩
   · have H1 := H.out
     rw [if_neg c201] at H1
     replace H := Aside0.mk H1
     clear H1
     replace c201 := Bool.eq_false_iff.mpr c201
     subst c201
     obtain rfl := Option.some.inj H.out
     go_wp2
     go_ret
     exact ⟨by first | rfl | (simp; done) | (simp [*]; done), HB.out⟩
 · have H1 := H.out
   rw [if_neg c197] at H1
   replace H := Aside0.mk H1
   clear H1
   replace c197 := Bool.eq_false_iff.mpr c197
   subst c197
   obtain rfl := Option.some.inj H.out
   go_wp2
   go_ret
   exact ⟨by first | rfl | (simp; done) | (simp [*]; done), HB.out⟩

/-! ### book_Rule_57: function 57 -/
def book_Rule_57.l0 : Nat → List (S64) → List (S64) → Int → Int → Option (Bool)
 | 0, _, _, _, _ => none
 | k + 1, x0, x1, x12, x13 => if x13 < x12 then (if 0 ≤ x13 then (if x13 < (x0.length : Int) then (if x13 < (x1.length : Int) then (if (!(((rd_T64 x0 x13).f0) == ((rd_T64 x1 x13).f0)) || (!(((rd_T64 x0 x13).f1) == ((rd_T64 x1 x13).f1)) || (!(((rd_T64 x0 x13).f2) == ((rd_T64 x1 x13).f2))))) = true then (some false) else (book_Rule_57.l0 k x0 x1 x12 (wrap64 (x13 + 1)))) else (none)) else (none)) else (none)) else (some true)
def book_Rule_57.f (k : Nat) (l0 : List (S64)) (l1 : List (S64)) : Option (Bool) := if (l0.length : Int) = (l1.length : Int) then (book_Rule_57.l0 k l0 l1 (l0.length : Int) 0) else (some false)
theorem book_Rule_57.mono_l : ∀ k, (∀ y0 y1 y2 y3, LeO (book_Rule_57.l0 k y0 y1 y2 y3) (book_Rule_57.l0 (k + 1) y0 y1 y2 y3))
 | 0 => fun _ _ _ _ r h => by simp [book_Rule_57.l0] at h
 | k + 1 => by
  have ih0 := book_Rule_57.mono_l k
  ·
   intro y0 y1 y2 y3
   unfold book_Rule_57.l0
   repeat' first
   | (with_reducible exact ih0 _ _ _ _)
   | (with_reducible exact LeO.refl _)
   | (with_reducible exact LeO.none _)
   | (with_reducible refine LeO.ite ?_ ?_)
   | (with_reducible refine LeO.bind ?_ (fun _ => ?_))
   | exact ih0 _ _ _ _
   | exact LeO.none _
   | refine LeO.ite ?_ ?_
   | refine LeO.bind ?_ (fun _ => ?_)
theorem book_Rule_57.mono : ∀ a0 a1 k, LeO (book_Rule_57.f k a0 a1) (book_Rule_57.f (k + 1) a0 a1) := by
 intro a0 a1 k
 have ih0 := book_Rule_57.mono_l k
 unfold book_Rule_57.f
 repeat' first
   | (with_reducible exact ih0 _ _ _ _)
   | (with_reducible exact LeO.refl _)
   | (with_reducible exact LeO.none _)
   | (with_reducible refine LeO.ite ?_ ?_)
   | (with_reducible refine LeO.bind ?_ (fun _ => ?_))
   | exact ih0 _ _ _ _
   | exact LeO.none _
   | refine LeO.ite ?_ ?_
   | refine LeO.bind ?_ (fun _ => ?_)
set_option maxHeartbeats 8000000 in
set_option maxRecDepth 100000 in
theorem book_Rule_57.calls (k : Nat) (A0 : Option Addr) (c0 : Nat) (l0 : List (S64)) (A1 : Option Addr) (c1 : Nat) (l1 : List (S64)) (r : Bool) (w : World) (hr0 : Kd.C k64 w A0 l0.length l0) (hc0 : l0.length ≤ c0) (hr1 : Kd.C k64 w A1 l1.length l1) (hc1 : l1.length ≤ c1) (h : book_Rule_57.f k l0 l1 = some r) :
  Calls Tryz.prog 57 #[.slice A0 l0.length c0, .slice A1 l1.length c1] w fun e w' => e = .returned (.bool r) ∧ Drawn0 w w' := by
 have hu64 := Tryz.underlying64
 have HR0 := Aside0.mk hr0
 have HC0 := Aside0.mk hc0
 clear hr0 hc0
 have HR1 := Aside0.mk hr1
 have HC1 := Aside0.mk hc1
 clear hr1 hc1
 have H : (if (l0.length : Int) = (l1.length : Int) then (book_Rule_57.l0 k l0 l1 (l0.length : Int) 0) else (some false)) = some r := h
 clear h
 by_cases c3 : (l0.length : Int) = (l1.length : Int)
 ·
  rw [if_pos c3] at H
  have c3b0 : ((l0.length : Int) == (l1.length : Int)) = true := beq_iff_eq.mpr c3
  have c3b1 : ((l0.length : Int) != (l1.length : Int)) = false := bne_eq_false_iff_eq.mpr c3
  have c3b2 : (l0.length == l1.length) = true := by first | simpa using c3 | (simp at c3 ⊢; omega)
  clear c3
  have H' := Aside0.mk H
  clear H
  go_enter Tryz.func57, Tryz.ntmps57
  go_wp2
  repeat (go_quiet (fail); try go_wp2)
  go_loopg [13] k (fun kq v13 w' => ∃ (x13_1 : Int), v13 = .int .i64 x13_1 ∧ Aside0 (book_Rule_57.l0 kq l0 l1 (l0.length : Int) x13_1 = some r) ∧ Aside0 (kq ≤ k) ∧ Drawn0 w w')
  case atStart => exact ⟨(0), (by first | rfl | (simp; done) | (simp [*]; done)), H', ⟨Nat.le_refl _⟩, by repeat (first | exact Drawn0.refl _ | apply Drawn0.step)⟩
  case round =>
   clear H'
   try clear c1
   try clear p2
   try clear c3
   try clear c3b0
   try clear c3b1
   try clear c3b2
   obtain ⟨x13_1, rfl, HA, HK1, ⟨m1, rfl⟩⟩ := hrel
   cases gk with
   | zero => exact absurd HA.out (by simp [book_Rule_57.l0])
   | succ k1 =>
    have H := HA.out
    clear HA
    simp only [book_Rule_57.l0] at H
    by_cases c4 : x13_1 < (l0.length : Int)
    ·
     rw [if_pos c4] at H
     have c4b0 : decide (x13_1 < (l0.length : Int)) = true := decide_eq_true c4
     clear c4
     by_cases c5 : 0 ≤ x13_1
     ·
      rw [if_pos c5] at H
      have c5b0 : decide (0 ≤ x13_1) = true := decide_eq_true c5
      clear c5
      by_cases c6 : x13_1 < (l0.length : Int)
      ·
       rw [if_pos c6] at H
       have c6b0 : decide (x13_1 < (l0.length : Int)) = true := decide_eq_true c6
       clear c6
       by_cases c7 : x13_1 < (l1.length : Int)
       ·
        rw [if_pos c7] at H
        have c7b0 : decide (x13_1 < (l1.length : Int)) = true := decide_eq_true c7
        clear c7
        by_cases c8 : (!(((rd_T64 l0 x13_1).f0) == ((rd_T64 l1 x13_1).f0)) || (!(((rd_T64 l0 x13_1).f1) == ((rd_T64 l1 x13_1).f1)) || (!(((rd_T64 l0 x13_1).f2) == ((rd_T64 l1 x13_1).f2))))) = true
        ·
         rw [if_pos c8] at H
         have c8b0 : (!(((rd_T64 l0 x13_1).f0) == ((rd_T64 l1 x13_1).f0)) || (!(((rd_T64 l0 x13_1).f1) == ((rd_T64 l1 x13_1).f1)) || (!(((rd_T64 l0 x13_1).f2) == ((rd_T64 l1 x13_1).f2))))) = true := c8
         clear c8
         obtain rfl := Option.some.inj H
         have p194 : 0 ≤ (x13_1 : Int) := of_decide_eq_true (by first | (with_reducible assumption) | assumption)
         have q194 : x13_1 < (l0.length : Int) := of_decide_eq_true (by first | (with_reducible assumption) | assumption)
         obtain ⟨ad194, e194, hx194_0, hx194_1, hx194_2⟩ := at_T64 HR0.out x13_1 p194 q194
         cases e194
         replace p194 := eq_true p194
         replace q194 := eq_true q194
         have p195 : 0 ≤ (x13_1 : Int) := of_decide_eq_true (by first | (with_reducible assumption) | assumption)
         have q195 : x13_1 < (l1.length : Int) := of_decide_eq_true (by first | (with_reducible assumption) | assumption)
         obtain ⟨ad195, e195, hx195_0, hx195_1, hx195_2⟩ := at_T64 HR1.out x13_1 p195 q195
         cases e195
         replace p195 := eq_true p195
         replace q195 := eq_true q195
         go_wp2
         repeat (go_quiet (fail); try go_wp2)
         go_ret
         exact ⟨by first | rfl | (simp; done) | (simp [*]; done), by repeat (first | exact Drawn0.refl _ | apply Drawn0.step)⟩
        ·
         rw [if_neg c8] at H
         have c8b0 : (!(((rd_T64 l0 x13_1).f0) == ((rd_T64 l1 x13_1).f0)) || (!(((rd_T64 l0 x13_1).f1) == ((rd_T64 l1 x13_1).f1)) || (!(((rd_T64 l0 x13_1).f2) == ((rd_T64 l1 x13_1).f2))))) = false := by simpa using c8
         clear c8
         have H' := Aside0.mk H
         clear H
         have p194 : 0 ≤ (x13_1 : Int) := of_decide_eq_true (by first | (with_reducible assumption) | assumption)
         have q194 : x13_1 < (l0.length : Int) := of_decide_eq_true (by first | (with_reducible assumption) | assumption)
         obtain ⟨ad194, e194, hx194_0, hx194_1, hx194_2⟩ := at_T64 HR0.out x13_1 p194 q194
         cases e194
         replace p194 := eq_true p194
         replace q194 := eq_true q194
         have p195 : 0 ≤ (x13_1 : Int) := of_decide_eq_true (by first | (with_reducible assumption) | assumption)
         have q195 : x13_1 < (l1.length : Int) := of_decide_eq_true (by first | (with_reducible assumption) | assumption)
         obtain ⟨ad195, e195, hx195_0, hx195_1, hx195_2⟩ := at_T64 HR1.out x13_1 p195 q195
         cases e195
         replace p195 := eq_true p195
         replace q195 := eq_true q195
         go_wp2
         repeat (go_quiet (fail); try go_wp2)
         go_roundg k1
         case measure => have := HK1.out; omega
         case rel => exact ⟨(wrap64 (x13_1 + 1)), (by first | rfl | (simp; done) | (simp [*]; done)), H', ⟨by have := HK1.out; omega⟩, by repeat (first | exact Drawn0.refl _ | apply Drawn0.step)⟩
       ·
        rw [if_neg c7] at H
        exact absurd H (by simp)
      ·
       rw [if_neg c6] at H
       exact absurd H (by simp)
     ·
      rw [if_neg c5] at H
      exact absurd H (by simp)
    ·
     rw [if_neg c4] at H
     have c4b0 : decide (x13_1 < (l0.length : Int)) = false := decide_eq_false c4
     clear c4
     obtain rfl := Option.some.inj H
     go_wp2
     repeat (go_quiet (fail); try go_wp2)
     go_ret
     exact ⟨by first | rfl | (simp; done) | (simp [*]; done), by repeat (first | exact Drawn0.refl _ | apply Drawn0.step)⟩
 ·
  rw [if_neg c3] at H
  have c3b0 : ((l0.length : Int) == (l1.length : Int)) = false := beq_eq_false_iff_ne.mpr c3
  have c3b1 : ((l0.length : Int) != (l1.length : Int)) = true := bne_iff_ne.mpr c3
  have c3b2 : (l0.length == l1.length) = false := by first | simpa using c3 | (simp at c3 ⊢; omega)
  obtain rfl := Option.some.inj H
  go_enter Tryz.func57, Tryz.ntmps57
  go_wp2
  repeat (go_quiet (fail); try go_wp2)
  go_ret
  exact ⟨by first | rfl | (simp; done) | (simp [*]; done), by repeat (first | exact Drawn0.refl _ | apply Drawn0.step)⟩

/-! ### book_Area_127: function 127 -/
def book_Area_127.l0 : Nat → List (S62) → List (S62) → Int → Int → Option (Bool)
 | 0, _, _, _, _ => none
 | k + 1, x0, x1, x12, x13 => if x13 < x12 then (if 0 ≤ x13 then (if x13 < (x0.length : Int) then (if x13 < (x1.length : Int) then (if (!((((rd_T62 x0 x13).f0).toList) == (((rd_T62 x1 x13).f0).toList)) || (!(((rd_T62 x0 x13).f1) == ((rd_T62 x1 x13).f1)) || (!(((rd_T62 x0 x13).f2) == ((rd_T62 x1 x13).f2)) || (!(((rd_T62 x0 x13).f3) == ((rd_T62 x1 x13).f3)) || (!(((rd_T62 x0 x13).f4) == ((rd_T62 x1 x13).f4)) || (!(((rd_T62 x0 x13).f5) == ((rd_T62 x1 x13).f5)))))))) = true then (some false) else (book_Area_127.l0 k x0 x1 x12 (wrap64 (x13 + 1)))) else (none)) else (none)) else (none)) else (some true)
def book_Area_127.f (k : Nat) (l0 : List (S62)) (l1 : List (S62)) : Option (Bool) := if (l0.length : Int) = (l1.length : Int) then (book_Area_127.l0 k l0 l1 (l0.length : Int) 0) else (some false)
theorem book_Area_127.mono_l : ∀ k, (∀ y0 y1 y2 y3, LeO (book_Area_127.l0 k y0 y1 y2 y3) (book_Area_127.l0 (k + 1) y0 y1 y2 y3))
 | 0 => fun _ _ _ _ r h => by simp [book_Area_127.l0] at h
 | k + 1 => by
  have ih0 := book_Area_127.mono_l k
  ·
   intro y0 y1 y2 y3
   unfold book_Area_127.l0
   repeat' first
   | (with_reducible exact ih0 _ _ _ _)
   | (with_reducible exact LeO.refl _)
   | (with_reducible exact LeO.none _)
   | (with_reducible refine LeO.ite ?_ ?_)
   | (with_reducible refine LeO.bind ?_ (fun _ => ?_))
   | exact ih0 _ _ _ _
   | exact LeO.none _
   | refine LeO.ite ?_ ?_
   | refine LeO.bind ?_ (fun _ => ?_)
theorem book_Area_127.mono : ∀ a0 a1 k, LeO (book_Area_127.f k a0 a1) (book_Area_127.f (k + 1) a0 a1) := by
 intro a0 a1 k
 have ih0 := book_Area_127.mono_l k
 unfold book_Area_127.f
 repeat' first
   | (with_reducible exact ih0 _ _ _ _)
   | (with_reducible exact LeO.refl _)
   | (with_reducible exact LeO.none _)
   | (with_reducible refine LeO.ite ?_ ?_)
   | (with_reducible refine LeO.bind ?_ (fun _ => ?_))
   | exact ih0 _ _ _ _
   | exact LeO.none _
   | refine LeO.ite ?_ ?_
   | refine LeO.bind ?_ (fun _ => ?_)
set_option maxHeartbeats 8000000 in
set_option maxRecDepth 100000 in
theorem book_Area_127.calls (k : Nat) (A0 : Option Addr) (c0 : Nat) (l0 : List (S62)) (A1 : Option Addr) (c1 : Nat) (l1 : List (S62)) (r : Bool) (w : World) (hr0 : Kd.C k62 w A0 l0.length l0) (hc0 : l0.length ≤ c0) (hr1 : Kd.C k62 w A1 l1.length l1) (hc1 : l1.length ≤ c1) (h : book_Area_127.f k l0 l1 = some r) :
  Calls Tryz.prog 127 #[.slice A0 l0.length c0, .slice A1 l1.length c1] w fun e w' => e = .returned (.bool r) ∧ Drawn0 w w' := by
 have hu62 := Tryz.underlying62
 have HR0 := Aside0.mk hr0
 have HC0 := Aside0.mk hc0
 clear hr0 hc0
 have HR1 := Aside0.mk hr1
 have HC1 := Aside0.mk hc1
 clear hr1 hc1
 have H : (if (l0.length : Int) = (l1.length : Int) then (book_Area_127.l0 k l0 l1 (l0.length : Int) 0) else (some false)) = some r := h
 clear h
 by_cases c3 : (l0.length : Int) = (l1.length : Int)
 ·
  rw [if_pos c3] at H
  have c3b0 : ((l0.length : Int) == (l1.length : Int)) = true := beq_iff_eq.mpr c3
  have c3b1 : ((l0.length : Int) != (l1.length : Int)) = false := bne_eq_false_iff_eq.mpr c3
  have c3b2 : (l0.length == l1.length) = true := by first | simpa using c3 | (simp at c3 ⊢; omega)
  clear c3
  have H' := Aside0.mk H
  clear H
  go_enter Tryz.func127, Tryz.ntmps127
  go_wp2
  repeat (go_quiet (fail); try go_wp2)
  go_loopg [13] k (fun kq v13 w' => ∃ (x13_1 : Int), v13 = .int .i64 x13_1 ∧ Aside0 (book_Area_127.l0 kq l0 l1 (l0.length : Int) x13_1 = some r) ∧ Aside0 (kq ≤ k) ∧ Drawn0 w w')
  case atStart => exact ⟨(0), (by first | rfl | (simp; done) | (simp [*]; done)), H', ⟨Nat.le_refl _⟩, by repeat (first | exact Drawn0.refl _ | apply Drawn0.step)⟩
  case round =>
   clear H'
   try clear c1
   try clear p2
   try clear c3
   try clear c3b0
   try clear c3b1
   try clear c3b2
   obtain ⟨x13_1, rfl, HA, HK1, ⟨m1, rfl⟩⟩ := hrel
   cases gk with
   | zero => exact absurd HA.out (by simp [book_Area_127.l0])
   | succ k1 =>
    have H := HA.out
    clear HA
    simp only [book_Area_127.l0] at H
    by_cases c4 : x13_1 < (l0.length : Int)
    ·
     rw [if_pos c4] at H
     have c4b0 : decide (x13_1 < (l0.length : Int)) = true := decide_eq_true c4
     clear c4
     by_cases c5 : 0 ≤ x13_1
     ·
      rw [if_pos c5] at H
      have c5b0 : decide (0 ≤ x13_1) = true := decide_eq_true c5
      clear c5
      by_cases c6 : x13_1 < (l0.length : Int)
      ·
       rw [if_pos c6] at H
       have c6b0 : decide (x13_1 < (l0.length : Int)) = true := decide_eq_true c6
       clear c6
       by_cases c7 : x13_1 < (l1.length : Int)
       ·
        rw [if_pos c7] at H
        have c7b0 : decide (x13_1 < (l1.length : Int)) = true := decide_eq_true c7
        clear c7
        by_cases c8 : (!((((rd_T62 l0 x13_1).f0).toList) == (((rd_T62 l1 x13_1).f0).toList)) || (!(((rd_T62 l0 x13_1).f1) == ((rd_T62 l1 x13_1).f1)) || (!(((rd_T62 l0 x13_1).f2) == ((rd_T62 l1 x13_1).f2)) || (!(((rd_T62 l0 x13_1).f3) == ((rd_T62 l1 x13_1).f3)) || (!(((rd_T62 l0 x13_1).f4) == ((rd_T62 l1 x13_1).f4)) || (!(((rd_T62 l0 x13_1).f5) == ((rd_T62 l1 x13_1).f5)))))))) = true
        ·
         rw [if_pos c8] at H
         have c8b0 : (!((((rd_T62 l0 x13_1).f0).toList) == (((rd_T62 l1 x13_1).f0).toList)) || (!(((rd_T62 l0 x13_1).f1) == ((rd_T62 l1 x13_1).f1)) || (!(((rd_T62 l0 x13_1).f2) == ((rd_T62 l1 x13_1).f2)) || (!(((rd_T62 l0 x13_1).f3) == ((rd_T62 l1 x13_1).f3)) || (!(((rd_T62 l0 x13_1).f4) == ((rd_T62 l1 x13_1).f4)) || (!(((rd_T62 l0 x13_1).f5) == ((rd_T62 l1 x13_1).f5)))))))) = true := c8
         clear c8
         obtain rfl := Option.some.inj H
         have p196 : 0 ≤ (x13_1 : Int) := of_decide_eq_true (by first | (with_reducible assumption) | assumption)
         have q196 : x13_1 < (l0.length : Int) := of_decide_eq_true (by first | (with_reducible assumption) | assumption)
         obtain ⟨ad196, e196, hx196_0, hx196_1, hx196_2, hx196_3, hx196_4, hx196_5⟩ := at_T62 HR0.out x13_1 p196 q196
         cases e196
         replace p196 := eq_true p196
         replace q196 := eq_true q196
         have p197 : 0 ≤ (x13_1 : Int) := of_decide_eq_true (by first | (with_reducible assumption) | assumption)
         have q197 : x13_1 < (l1.length : Int) := of_decide_eq_true (by first | (with_reducible assumption) | assumption)
         obtain ⟨ad197, e197, hx197_0, hx197_1, hx197_2, hx197_3, hx197_4, hx197_5⟩ := at_T62 HR1.out x13_1 p197 q197
         cases e197
         replace p197 := eq_true p197
         replace q197 := eq_true q197
         go_wp2
         repeat (go_quiet (fail); try go_wp2)
         go_ret
         exact ⟨by first | rfl | (simp; done) | (simp [*]; done), by repeat (first | exact Drawn0.refl _ | apply Drawn0.step)⟩
        ·
         rw [if_neg c8] at H
         have c8b0 : (!((((rd_T62 l0 x13_1).f0).toList) == (((rd_T62 l1 x13_1).f0).toList)) || (!(((rd_T62 l0 x13_1).f1) == ((rd_T62 l1 x13_1).f1)) || (!(((rd_T62 l0 x13_1).f2) == ((rd_T62 l1 x13_1).f2)) || (!(((rd_T62 l0 x13_1).f3) == ((rd_T62 l1 x13_1).f3)) || (!(((rd_T62 l0 x13_1).f4) == ((rd_T62 l1 x13_1).f4)) || (!(((rd_T62 l0 x13_1).f5) == ((rd_T62 l1 x13_1).f5)))))))) = false := by simpa using c8
         clear c8
         have H' := Aside0.mk H
         clear H
         have p196 : 0 ≤ (x13_1 : Int) := of_decide_eq_true (by first | (with_reducible assumption) | assumption)
         have q196 : x13_1 < (l0.length : Int) := of_decide_eq_true (by first | (with_reducible assumption) | assumption)
         obtain ⟨ad196, e196, hx196_0, hx196_1, hx196_2, hx196_3, hx196_4, hx196_5⟩ := at_T62 HR0.out x13_1 p196 q196
         cases e196
         replace p196 := eq_true p196
         replace q196 := eq_true q196
         have p197 : 0 ≤ (x13_1 : Int) := of_decide_eq_true (by first | (with_reducible assumption) | assumption)
         have q197 : x13_1 < (l1.length : Int) := of_decide_eq_true (by first | (with_reducible assumption) | assumption)
         obtain ⟨ad197, e197, hx197_0, hx197_1, hx197_2, hx197_3, hx197_4, hx197_5⟩ := at_T62 HR1.out x13_1 p197 q197
         cases e197
         replace p197 := eq_true p197
         replace q197 := eq_true q197
         go_wp2
         repeat (go_quiet (fail); try go_wp2)
         go_roundg k1
         case measure => have := HK1.out; omega
         case rel => exact ⟨(wrap64 (x13_1 + 1)), (by first | rfl | (simp; done) | (simp [*]; done)), H', ⟨by have := HK1.out; omega⟩, by repeat (first | exact Drawn0.refl _ | apply Drawn0.step)⟩
       ·
        rw [if_neg c7] at H
        exact absurd H (by simp)
      ·
       rw [if_neg c6] at H
       exact absurd H (by simp)
     ·
      rw [if_neg c5] at H
      exact absurd H (by simp)
    ·
     rw [if_neg c4] at H
     have c4b0 : decide (x13_1 < (l0.length : Int)) = false := decide_eq_false c4
     clear c4
     obtain rfl := Option.some.inj H
     go_wp2
     repeat (go_quiet (fail); try go_wp2)
     go_ret
     exact ⟨by first | rfl | (simp; done) | (simp [*]; done), by repeat (first | exact Drawn0.refl _ | apply Drawn0.step)⟩
 ·
  rw [if_neg c3] at H
  have c3b0 : ((l0.length : Int) == (l1.length : Int)) = false := beq_eq_false_iff_ne.mpr c3
  have c3b1 : ((l0.length : Int) != (l1.length : Int)) = true := bne_iff_ne.mpr c3
  have c3b2 : (l0.length == l1.length) = false := by first | simpa using c3 | (simp at c3 ⊢; omega)
  obtain rfl := Option.some.inj H
  go_enter Tryz.func127, Tryz.ntmps127
  go_wp2
  repeat (go_quiet (fail); try go_wp2)
  go_ret
  exact ⟨by first | rfl | (simp; done) | (simp [*]; done), by repeat (first | exact Drawn0.refl _ | apply Drawn0.step)⟩

end Go.Proofs.YthpdlgamicmhaaaGreat.PN
