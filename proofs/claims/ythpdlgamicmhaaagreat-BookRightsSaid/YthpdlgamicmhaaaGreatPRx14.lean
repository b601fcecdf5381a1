/- Written by a program (pe.py): functions of the program as Lean functions, and that each call answers as they do. -/
import Derived.Test.YthpdlgamicmhaaaGreatPRx0
namespace Go.Proofs.YthpdlgamicmhaaaGreat.PR
open Go.RowKit Go.Proofs.YthpdlgamicmhaaaGreatW.PrintWords Go.Proofs.YthpdlgamicmhaaaGreatW.PrintLast Go.Proofs.YthpdlgamicmhaaaGreatW.PrintMore
attribute [local go_sem] max2_int min2_int max_two min_two max_three min_three max_four min_four   -- for this text's walks alone
set_option linter.unusedVariables false
set_option linter.unusedSimpArgs false

/-! ### book_Name: function 10 -/
mutual
def book_Name.j0 : Nat → ByteArray → Bool → Option (Bool)
 | 0, _, _ => none
 | k + 1, x0, x13 => if x13 = true then (some false) else (book_Name.l0 k x0 (x0.size : Int) 0)
def book_Name.l0 : Nat → ByteArray → Int → Int → Option (Bool)
 | 0, _, _, _ => none
 | k + 1, x0, x15, x16 => if x16 < x15 then (if 0 ≤ x16 then (if x16 < (x0.size : Int) then (if (bt x0 x16) ≥ 97 then (if ((bt x0 x16) ≤ 122) then (book_Name.l0 k x0 x15 (wrap64 (x16 + 1))) else (if x16 = 0 then (some false) else (if (bt x0 x16) < 48 then (if (bt x0 x16) = 95 then (book_Name.l0 k x0 x15 (wrap64 (x16 + 1))) else (some false)) else (if (bt x0 x16) > 57 then (if (bt x0 x16) = 95 then (book_Name.l0 k x0 x15 (wrap64 (x16 + 1))) else (some false)) else (book_Name.l0 k x0 x15 (wrap64 (x16 + 1))))))) else (if x16 = 0 then (some false) else (if (bt x0 x16) < 48 then (if (bt x0 x16) = 95 then (book_Name.l0 k x0 x15 (wrap64 (x16 + 1))) else (some false)) else (if (bt x0 x16) > 57 then (if (bt x0 x16) = 95 then (book_Name.l0 k x0 x15 (wrap64 (x16 + 1))) else (some false)) else (book_Name.l0 k x0 x15 (wrap64 (x16 + 1))))))) else (none)) else (none)) else (some true)
end
def book_Name.f (k : Nat) (a0 : ByteArray) : Option (Bool) := if (a0.size : Int) = 0 then (book_Name.j0 k a0 true) else (book_Name.j0 k a0 (decide ((a0.size : Int) > 30)))
theorem book_Name.mono_l : ∀ k, (∀ y0 y1, LeO (book_Name.j0 k y0 y1) (book_Name.j0 (k + 1) y0 y1)) ∧ (∀ y0 y1 y2, LeO (book_Name.l0 k y0 y1 y2) (book_Name.l0 (k + 1) y0 y1 y2))
 | 0 => ⟨fun _ _ r h => by simp [book_Name.j0] at h, fun _ _ _ r h => by simp [book_Name.l0] at h⟩
 | k + 1 => by
  obtain ⟨ih0, ih1⟩ := book_Name.mono_l k
  refine ⟨?_, ?_⟩
  ·
   intro y0 y1
   unfold book_Name.j0
   repeat' first | (with_reducible apply ih0) | (with_reducible apply ih1) | (with_reducible exact LeO.refl _) | (with_reducible exact LeO.none _) | (with_reducible refine LeO.ite ?_ ?_) | (with_reducible refine LeO.bind ?_ (fun _ => ?_)) | apply LeO.none | apply LeO.ite | (refine LeO.bind ?_ (fun _ => ?_))
  ·
   intro y0 y1 y2
   unfold book_Name.l0
   repeat' first | (with_reducible apply ih0) | (with_reducible apply ih1) | (with_reducible exact LeO.refl _) | (with_reducible exact LeO.none _) | (with_reducible refine LeO.ite ?_ ?_) | (with_reducible refine LeO.bind ?_ (fun _ => ?_)) | apply LeO.none | apply LeO.ite | (refine LeO.bind ?_ (fun _ => ?_))
theorem book_Name.mono : ∀ a0 k, LeO (book_Name.f k a0) (book_Name.f (k + 1) a0) := by
 intro a0 k
 obtain ⟨ih0, ih1⟩ := book_Name.mono_l k
 unfold book_Name.f
 repeat' first | (with_reducible apply ih0) | (with_reducible apply ih1) | (with_reducible exact LeO.refl _) | (with_reducible exact LeO.none _) | (with_reducible refine LeO.ite ?_ ?_) | (with_reducible refine LeO.bind ?_ (fun _ => ?_)) | apply LeO.none | apply LeO.ite | (refine LeO.bind ?_ (fun _ => ?_))
set_option maxHeartbeats 8000000 in
set_option maxRecDepth 100000 in
theorem book_Name.calls (k : Nat) (a0 : ByteArray) (r : Bool) (w : World) (h : book_Name.f k a0 = some r) :
  Calls Tryz.prog 10 #[.string a0] w fun e w' => e = .returned (.bool r) ∧ Drawn0 w w' := by
 have H : (if (a0.size : Int) = 0 then (book_Name.j0 k a0 true) else (book_Name.j0 k a0 (decide ((a0.size : Int) > 30)))) = some r := h
 clear h
 have HC2 := Aside0.mk H
 clear H
 go_enter Tryz.func10, Tryz.ntmps10
 go_upto_region 1 with (fail)
 go_cut [13] (fun v13 wc => ∃ (kq : Nat) (x13_1 : Bool), v13 = .bool x13_1 ∧ Aside0 (book_Name.j0 kq a0 x13_1 = some r) ∧ Aside0 (kq ≤ k) ∧ Drawn0 w wc)
 case first =>
  have H := HC2.out
  clear HC2
  by_cases c3 : (a0.size : Int) = 0
  ·
   rw [if_pos c3] at H
   have c3b0 : ((a0.size : Int) == 0) = true := beq_iff_eq.mpr c3
   have c3b1 : ((a0.size : Int) != 0) = false := bne_eq_false_iff_eq.mpr c3
   clear c3
   (first | rw [c3b0] | (simp only [i64_w, i32_w]; rw [c3b0]) | skip)
   have H' := Aside0.mk H
   clear H
   go_wp2
   go_meet
   case rel => exact ⟨_, (true), (by first | rfl | (simp; done) | (simp [*]; done)), H', ⟨by first | omega | exact Nat.le_refl _⟩, by repeat (first | exact Drawn0.refl _ | apply Drawn0.step)⟩
  ·
   rw [if_neg c3] at H
   have c3b0 : ((a0.size : Int) == 0) = false := beq_eq_false_iff_ne.mpr c3
   have c3b1 : ((a0.size : Int) != 0) = true := bne_iff_ne.mpr c3
   (first | rw [c3b0] | (simp only [i64_w, i32_w]; rw [c3b0]) | skip)
   have H' := Aside0.mk H
   clear H
   go_wp2
   go_meet
   case rel => exact ⟨_, (decide ((a0.size : Int) > 30)), (by first | rfl | (simp; done) | (simp [*]; done)), H', ⟨by first | omega | exact Nat.le_refl _⟩, by repeat (first | exact Drawn0.refl _ | apply Drawn0.step)⟩
 case rest =>
  clear HC2
  try clear c1
  try clear p2
  try clear c3
  try clear c3b0
  try clear c3b1
  obtain ⟨kq, x13_1, rfl, HA, HJ1, ⟨mc1, rfl⟩⟩ := hcut
  cases kq with
  | zero => exact absurd HA.out (by simp [book_Name.j0])
  | succ kj1 =>
   have H := HA.out
   clear HA
   simp only [book_Name.j0] at H
   by_cases c4 : x13_1 = true
   ·
    subst c4
    have H1 : (some false) = some r := by rw [if_pos rfl] at H; exact H
    clear H
    have H := H1
    clear H1
    obtain rfl := Option.some.inj H
    go_wp2
    go_ret
    exact ⟨by first | rfl | (simp; done) | (simp [*]; done), by repeat (first | exact Drawn0.refl _ | apply Drawn0.step)⟩
   ·
    replace c4 := Bool.eq_false_iff.mpr c4
    subst c4
    have H1 : (book_Name.l0 kj1 a0 (a0.size : Int) 0) = some r := by rw [if_neg (show ¬ (false = true) by decide)] at H; exact H
    clear H
    have H := H1
    clear H1
    have H' := Aside0.mk H
    clear H
    go_wp2
    go_loopg [16] kj1 (fun kq v16 w' => ∃ (x16_2 : Int), v16 = .int .i64 x16_2 ∧ Aside0 (book_Name.l0 kq a0 (a0.size : Int) x16_2 = some r) ∧ Aside0 (kq ≤ kj1) ∧ Drawn0 w w')
    case atStart => exact ⟨(0), (by first | rfl | (simp; done) | (simp [*]; done)), H', ⟨Nat.le_refl _⟩, by repeat (first | exact Drawn0.refl _ | apply Drawn0.step)⟩
    case round =>
     clear H'
     try clear c1
     try clear p2
     try clear c3
     try clear c3b0
     try clear c3b1
     try clear c4
     try clear p2
     obtain ⟨x16_2, rfl, HA, HK2, ⟨m2, rfl⟩⟩ := hrel
     cases gk with
     | zero => exact absurd HA.out (by simp [book_Name.l0])
     | succ k2 =>
      have H := HA.out
      clear HA
      simp only [book_Name.l0] at H
      by_cases c5 : x16_2 < (a0.size : Int)
      ·
       rw [if_pos c5] at H
       have c5b0 : decide (x16_2 < (a0.size : Int)) = true := decide_eq_true c5
       clear c5
       by_cases c6 : 0 ≤ x16_2
       ·
        rw [if_pos c6] at H
        have c6b0 : decide (0 ≤ x16_2) = true := decide_eq_true c6
        clear c6
        by_cases c7 : x16_2 < (a0.size : Int)
        ·
         rw [if_pos c7] at H
         have c7b0 : decide (x16_2 < (a0.size : Int)) = true := decide_eq_true c7
         clear c7
         by_cases c9 : (bt a0 x16_2) ≥ 97
         ·
          rw [if_pos c9] at H
          have c9b0 : decide (97 ≤ (bt a0 x16_2)) = true := decide_eq_true c9
          clear c9
          by_cases c10 : ((bt a0 x16_2) ≤ 122)
          ·
           rw [if_pos c10] at H
           have c10b0 : decide ((bt a0 x16_2) ≤ 122) = true := decide_eq_true c10
           clear c10
           have H' := Aside0.mk H
           clear H
           have p8 : 0 ≤ (x16_2 : Int) := of_decide_eq_true (by first | (with_reducible assumption) | assumption)
           have q8 : x16_2 < (a0.size : Int) := of_decide_eq_true (by first | (with_reducible assumption) | assumption)
           have hx8 := bt_at a0 x16_2
           replace p8 := eq_true p8
           replace q8 := eq_true q8
           go_wp2
           go_roundg k2
           case measure => have := HJ1.out; have := HK2.out; omega
           case rel => exact ⟨(wrap64 (x16_2 + 1)), (by first | rfl | (simp; done) | (simp [*]; done)), H', ⟨by have := HJ1.out; have := HK2.out; omega⟩, by repeat (first | exact Drawn0.refl _ | apply Drawn0.step)⟩
          ·
           rw [if_neg c10] at H
           have c10b0 : decide ((bt a0 x16_2) ≤ 122) = false := decide_eq_false c10
           clear c10
           by_cases c11 : x16_2 = 0
           ·
            rw [if_pos c11] at H
            have c11b0 : (x16_2 == 0) = true := beq_iff_eq.mpr c11
            have c11b1 : (x16_2 != 0) = false := bne_eq_false_iff_eq.mpr c11
            clear c11
            obtain rfl := Option.some.inj H
            have p8 : 0 ≤ (x16_2 : Int) := of_decide_eq_true (by first | (with_reducible assumption) | assumption)
            have q8 : x16_2 < (a0.size : Int) := of_decide_eq_true (by first | (with_reducible assumption) | assumption)
            have hx8 := bt_at a0 x16_2
            replace p8 := eq_true p8
            replace q8 := eq_true q8
            go_wp2
            go_ret
            exact ⟨by first | rfl | (simp; done) | (simp [*]; done), by repeat (first | exact Drawn0.refl _ | apply Drawn0.step)⟩
           ·
            rw [if_neg c11] at H
            have c11b0 : (x16_2 == 0) = false := beq_eq_false_iff_ne.mpr c11
            have c11b1 : (x16_2 != 0) = true := bne_iff_ne.mpr c11
            by_cases c12 : (bt a0 x16_2) < 48
            ·
             rw [if_pos c12] at H
             have c12b0 : decide ((bt a0 x16_2) < 48) = true := decide_eq_true c12
             clear c12
             by_cases c13 : (bt a0 x16_2) = 95
             ·
              rw [if_pos c13] at H
              have c13b0 : ((bt a0 x16_2) == 95) = true := beq_iff_eq.mpr c13
              have c13b1 : ((bt a0 x16_2) != 95) = false := bne_eq_false_iff_eq.mpr c13
              clear c13
              have H' := Aside0.mk H
              clear H
              have p8 : 0 ≤ (x16_2 : Int) := of_decide_eq_true (by first | (with_reducible assumption) | assumption)
              have q8 : x16_2 < (a0.size : Int) := of_decide_eq_true (by first | (with_reducible assumption) | assumption)
              have hx8 := bt_at a0 x16_2
              replace p8 := eq_true p8
              replace q8 := eq_true q8
              go_wp2
              go_roundg k2
              case measure => have := HJ1.out; have := HK2.out; omega
              case rel => exact ⟨(wrap64 (x16_2 + 1)), (by first | rfl | (simp; done) | (simp [*]; done)), H', ⟨by have := HJ1.out; have := HK2.out; omega⟩, by repeat (first | exact Drawn0.refl _ | apply Drawn0.step)⟩
             ·
              rw [if_neg c13] at H
              have c13b0 : ((bt a0 x16_2) == 95) = false := beq_eq_false_iff_ne.mpr c13
              have c13b1 : ((bt a0 x16_2) != 95) = true := bne_iff_ne.mpr c13
              obtain rfl := Option.some.inj H
              have p8 : 0 ≤ (x16_2 : Int) := of_decide_eq_true (by first | (with_reducible assumption) | assumption)
              have q8 : x16_2 < (a0.size : Int) := of_decide_eq_true (by first | (with_reducible assumption) | assumption)
              have hx8 := bt_at a0 x16_2
              replace p8 := eq_true p8
              replace q8 := eq_true q8
              go_wp2
              go_ret
              exact ⟨by first | rfl | (simp; done) | (simp [*]; done), by repeat (first | exact Drawn0.refl _ | apply Drawn0.step)⟩
            ·
             rw [if_neg c12] at H
             have c12b0 : decide ((bt a0 x16_2) < 48) = false := decide_eq_false c12
             clear c12
             by_cases c14 : (bt a0 x16_2) > 57
             ·
              rw [if_pos c14] at H
              have c14b0 : decide (57 < (bt a0 x16_2)) = true := decide_eq_true c14
              clear c14
              by_cases c15 : (bt a0 x16_2) = 95
              ·
               rw [if_pos c15] at H
               have c15b0 : ((bt a0 x16_2) == 95) = true := beq_iff_eq.mpr c15
               have c15b1 : ((bt a0 x16_2) != 95) = false := bne_eq_false_iff_eq.mpr c15
               clear c15
               have H' := Aside0.mk H
               clear H
               have p8 : 0 ≤ (x16_2 : Int) := of_decide_eq_true (by first | (with_reducible assumption) | assumption)
               have q8 : x16_2 < (a0.size : Int) := of_decide_eq_true (by first | (with_reducible assumption) | assumption)
               have hx8 := bt_at a0 x16_2
               replace p8 := eq_true p8
               replace q8 := eq_true q8
               go_wp2
               go_roundg k2
               case measure => have := HJ1.out; have := HK2.out; omega
               case rel => exact ⟨(wrap64 (x16_2 + 1)), (by first | rfl | (simp; done) | (simp [*]; done)), H', ⟨by have := HJ1.out; have := HK2.out; omega⟩, by repeat (first | exact Drawn0.refl _ | apply Drawn0.step)⟩
              ·
               rw [if_neg c15] at H
               have c15b0 : ((bt a0 x16_2) == 95) = false := beq_eq_false_iff_ne.mpr c15
               have c15b1 : ((bt a0 x16_2) != 95) = true := bne_iff_ne.mpr c15
               obtain rfl := Option.some.inj H
               have p8 : 0 ≤ (x16_2 : Int) := of_decide_eq_true (by first | (with_reducible assumption) | assumption)
               have q8 : x16_2 < (a0.size : Int) := of_decide_eq_true (by first | (with_reducible assumption) | assumption)
               have hx8 := bt_at a0 x16_2
               replace p8 := eq_true p8
               replace q8 := eq_true q8
               go_wp2
               go_ret
               exact ⟨by first | rfl | (simp; done) | (simp [*]; done), by repeat (first | exact Drawn0.refl _ | apply Drawn0.step)⟩
             ·
              rw [if_neg c14] at H
              have c14b0 : decide (57 < (bt a0 x16_2)) = false := decide_eq_false c14
              clear c14
              have H' := Aside0.mk H
              clear H
              have p8 : 0 ≤ (x16_2 : Int) := of_decide_eq_true (by first | (with_reducible assumption) | assumption)
              have q8 : x16_2 < (a0.size : Int) := of_decide_eq_true (by first | (with_reducible assumption) | assumption)
              have hx8 := bt_at a0 x16_2
              replace p8 := eq_true p8
              replace q8 := eq_true q8
              go_wp2
              go_roundg k2
              case measure => have := HJ1.out; have := HK2.out; omega
              case rel => exact ⟨(wrap64 (x16_2 + 1)), (by first | rfl | (simp; done) | (simp [*]; done)), H', ⟨by have := HJ1.out; have := HK2.out; omega⟩, by repeat (first | exact Drawn0.refl _ | apply Drawn0.step)⟩
         ·
          rw [if_neg c9] at H
          have c9b0 : decide (97 ≤ (bt a0 x16_2)) = false := decide_eq_false c9
          clear c9
          by_cases c16 : x16_2 = 0
          ·
           rw [if_pos c16] at H
           have c16b0 : (x16_2 == 0) = true := beq_iff_eq.mpr c16
           have c16b1 : (x16_2 != 0) = false := bne_eq_false_iff_eq.mpr c16
           clear c16
           obtain rfl := Option.some.inj H
           have p8 : 0 ≤ (x16_2 : Int) := of_decide_eq_true (by first | (with_reducible assumption) | assumption)
           have q8 : x16_2 < (a0.size : Int) := of_decide_eq_true (by first | (with_reducible assumption) | assumption)
           have hx8 := bt_at a0 x16_2
           replace p8 := eq_true p8
           replace q8 := eq_true q8
           go_wp2
           go_ret
           exact ⟨by first | rfl | (simp; done) | (simp [*]; done), by repeat (first | exact Drawn0.refl _ | apply Drawn0.step)⟩
          ·
           rw [if_neg c16] at H
           have c16b0 : (x16_2 == 0) = false := beq_eq_false_iff_ne.mpr c16
           have c16b1 : (x16_2 != 0) = true := bne_iff_ne.mpr c16
           by_cases c17 : (bt a0 x16_2) < 48
           ·
            rw [if_pos c17] at H
            have c17b0 : decide ((bt a0 x16_2) < 48) = true := decide_eq_true c17
            clear c17
            by_cases c18 : (bt a0 x16_2) = 95
            ·
             rw [if_pos c18] at H
             have c18b0 : ((bt a0 x16_2) == 95) = true := beq_iff_eq.mpr c18
             have c18b1 : ((bt a0 x16_2) != 95) = false := bne_eq_false_iff_eq.mpr c18
             clear c18
             have H' := Aside0.mk H
             clear H
             have p8 : 0 ≤ (x16_2 : Int) := of_decide_eq_true (by first | (with_reducible assumption) | assumption)
             have q8 : x16_2 < (a0.size : Int) := of_decide_eq_true (by first | (with_reducible assumption) | assumption)
             have hx8 := bt_at a0 x16_2
             replace p8 := eq_true p8
             replace q8 := eq_true q8
             go_wp2
             go_roundg k2
             case measure => have := HJ1.out; have := HK2.out; omega
             case rel => exact ⟨(wrap64 (x16_2 + 1)), (by first | rfl | (simp; done) | (simp [*]; done)), H', ⟨by have := HJ1.out; have := HK2.out; omega⟩, by repeat (first | exact Drawn0.refl _ | apply Drawn0.step)⟩
            ·
             rw [if_neg c18] at H
             have c18b0 : ((bt a0 x16_2) == 95) = false := beq_eq_false_iff_ne.mpr c18
             have c18b1 : ((bt a0 x16_2) != 95) = true := bne_iff_ne.mpr c18
             obtain rfl := Option.some.inj H
             have p8 : 0 ≤ (x16_2 : Int) := of_decide_eq_true (by first | (with_reducible assumption) | assumption)
             have q8 : x16_2 < (a0.size : Int) := of_decide_eq_true (by first | (with_reducible assumption) | assumption)
             have hx8 := bt_at a0 x16_2
             replace p8 := eq_true p8
             replace q8 := eq_true q8
             go_wp2
             go_ret
             exact ⟨by first | rfl | (simp; done) | (simp [*]; done), by repeat (first | exact Drawn0.refl _ | apply Drawn0.step)⟩
           ·
            rw [if_neg c17] at H
            have c17b0 : decide ((bt a0 x16_2) < 48) = false := decide_eq_false c17
            clear c17
            by_cases c19 : (bt a0 x16_2) > 57
            ·
             rw [if_pos c19] at H
             have c19b0 : decide (57 < (bt a0 x16_2)) = true := decide_eq_true c19
             clear c19
             by_cases c20 : (bt a0 x16_2) = 95
             ·
              rw [if_pos c20] at H
              have c20b0 : ((bt a0 x16_2) == 95) = true := beq_iff_eq.mpr c20
              have c20b1 : ((bt a0 x16_2) != 95) = false := bne_eq_false_iff_eq.mpr c20
              clear c20
              have H' := Aside0.mk H
              clear H
              have p8 : 0 ≤ (x16_2 : Int) := of_decide_eq_true (by first | (with_reducible assumption) | assumption)
              have q8 : x16_2 < (a0.size : Int) := of_decide_eq_true (by first | (with_reducible assumption) | assumption)
              have hx8 := bt_at a0 x16_2
              replace p8 := eq_true p8
              replace q8 := eq_true q8
              go_wp2
              go_roundg k2
              case measure => have := HJ1.out; have := HK2.out; omega
              case rel => exact ⟨(wrap64 (x16_2 + 1)), (by first | rfl | (simp; done) | (simp [*]; done)), H', ⟨by have := HJ1.out; have := HK2.out; omega⟩, by repeat (first | exact Drawn0.refl _ | apply Drawn0.step)⟩
             ·
              rw [if_neg c20] at H
              have c20b0 : ((bt a0 x16_2) == 95) = false := beq_eq_false_iff_ne.mpr c20
              have c20b1 : ((bt a0 x16_2) != 95) = true := bne_iff_ne.mpr c20
              obtain rfl := Option.some.inj H
              have p8 : 0 ≤ (x16_2 : Int) := of_decide_eq_true (by first | (with_reducible assumption) | assumption)
              have q8 : x16_2 < (a0.size : Int) := of_decide_eq_true (by first | (with_reducible assumption) | assumption)
              have hx8 := bt_at a0 x16_2
              replace p8 := eq_true p8
              replace q8 := eq_true q8
              go_wp2
              go_ret
              exact ⟨by first | rfl | (simp; done) | (simp [*]; done), by repeat (first | exact Drawn0.refl _ | apply Drawn0.step)⟩
            ·
             rw [if_neg c19] at H
             have c19b0 : decide (57 < (bt a0 x16_2)) = false := decide_eq_false c19
             clear c19
             have H' := Aside0.mk H
             clear H
             have p8 : 0 ≤ (x16_2 : Int) := of_decide_eq_true (by first | (with_reducible assumption) | assumption)
             have q8 : x16_2 < (a0.size : Int) := of_decide_eq_true (by first | (with_reducible assumption) | assumption)
             have hx8 := bt_at a0 x16_2
             replace p8 := eq_true p8
             replace q8 := eq_true q8
             go_wp2
             go_roundg k2
             case measure => have := HJ1.out; have := HK2.out; omega
             case rel => exact ⟨(wrap64 (x16_2 + 1)), (by first | rfl | (simp; done) | (simp [*]; done)), H', ⟨by have := HJ1.out; have := HK2.out; omega⟩, by repeat (first | exact Drawn0.refl _ | apply Drawn0.step)⟩
        ·
         rw [if_neg c7] at H
         exact absurd H (by simp)
       ·
        rw [if_neg c6] at H
        exact absurd H (by simp)
      ·
       rw [if_neg c5] at H
       have c5b0 : decide (x16_2 < (a0.size : Int)) = false := decide_eq_false c5
       clear c5
       obtain rfl := Option.some.inj H
       go_wp2
       go_ret
       exact ⟨by first | rfl | (simp; done) | (simp [*]; done), by repeat (first | exact Drawn0.refl _ | apply Drawn0.step)⟩

-- NOT PRINTED: function 97 (book_Partition_1)

/-! ### book_within: function 33 -/
def book_within.f (a0 : Int) (a1 : Int) (a2 : Int) : Option (Bool) := if a0 ≥ a1 then (some (decide (a0 ≤ a2))) else (some false)
set_option maxHeartbeats 8000000 in
set_option maxRecDepth 100000 in
theorem book_within.calls (a0 : Int) (a1 : Int) (a2 : Int) (r : Bool) (w : World) (h : book_within.f a0 a1 a2 = some r) :
  Calls Tryz.prog 33 #[.int .i64 a0, .int .i64 a1, .int .i64 a2] w fun e w' => e = .returned (.bool r) ∧ Drawn0 w w' := by
 have H : (if a0 ≥ a1 then (some (decide (a0 ≤ a2))) else (some false)) = some r := h
 clear h
 by_cases c4 : a0 ≥ a1
 ·
  rw [if_pos c4] at H
  have c4b0 : decide (a1 ≤ a0) = true := decide_eq_true c4
  clear c4
  obtain rfl := Option.some.inj H
  go_enter Tryz.func33, Tryz.ntmps33
  go_wp2
  go_ret
  exact ⟨by first | rfl | (simp; done) | (simp [*]; done), by repeat (first | exact Drawn0.refl _ | apply Drawn0.step)⟩
 ·
  rw [if_neg c4] at H
  have c4b0 : decide (a1 ≤ a0) = false := decide_eq_false c4
  clear c4
  obtain rfl := Option.some.inj H
  go_enter Tryz.func33, Tryz.ntmps33
  go_wp2
  go_ret
  exact ⟨by first | rfl | (simp; done) | (simp [*]; done), by repeat (first | exact Drawn0.refl _ | apply Drawn0.step)⟩

-- NOT PRINTED: function 125 (book_Rule_1)

/-! own words -/
theorem if_some {α : Type} {p : Prop} [Decidable p] {x : Option α} {r : α} (h : (if p then x else none) = some r) : p ∧ x = some r := by
 by_cases hp : p
 ·
  exact ⟨hp, by rwa [if_pos hp] at h⟩
 ·
  rw [if_neg hp] at h; cases h
theorem alloc_below0 (w : World) (o : Obj) : Below w.heap.size w (w.alloc o) := below_alloc (Below.refl _ _) o
theorem a0p {α : Type} {p : Prop} [Decidable p] {a b : Option α} {r : Option α} (hp : p) (h : Aside0 ((if p then a else b) = r)) : Aside0 (a = r) := ⟨by have := h.out; rwa [if_pos hp] at this⟩
theorem a0n {α : Type} {p : Prop} [Decidable p] {a b : Option α} {r : Option α} (hp : ¬ p) (h : Aside0 ((if p then a else b) = r)) : Aside0 (b = r) := ⟨by have := h.out; rwa [if_neg hp] at this⟩
theorem a0b {α β : Type} {x : Option α} {f : α → Option β} {r : β} (h : Aside0 (x.bind f = some r)) : ∃ t, Aside0 (x = some t) ∧ Aside0 (f t = some r) := by
 obtain ⟨t, h1, h2⟩ := Option.bind_eq_some_iff.mp h.out
 exact ⟨t, ⟨h1⟩, ⟨h2⟩⟩
theorem World.cell_drew_ {w : World} {p : Addr} {v : Value} (h : w.cell? p = some v) : w.drew.cell? p = some v := h
def allO {α : Type} (f : α → Option Bool) : List α → Option Bool
 | [] => some true
 | x :: l => (f x).bind fun b => if b = true then allO f l else some false
theorem allO_mono {α : Type} {f g : α → Option Bool} (h : ∀ x, LeO (f x) (g x)) : ∀ l, LeO (allO f l) (allO g l)
 | [] => LeO.refl _
 | x :: l => by
  unfold allO
  exact LeO.bind (h x) (fun b => LeO.ite (allO_mono h l) (LeO.refl _))
theorem allO_cons {α : Type} {f : α → Option Bool} {l : List α} {i : Nat} {r : Bool} (hi : i < l.length) (h : allO f (l.drop i) = some r) : ∃ b, f (l[i]) = some b ∧ (b = true → allO f (l.drop (i + 1)) = some r) ∧ (b = false → r = false) := by
 rw [List.drop_eq_getElem_cons hi] at h
 unfold allO at h
 cases hb : f l[i] with
 | none => rw [hb] at h; cases h
 | some b =>
  rw [hb] at h
  refine ⟨b, rfl, ?_, ?_⟩
  ·
   rintro rfl; simpa using h
  ·
   rintro rfl; simpa using h.symm
def zipO {α : Type} (f : α → α → Option Bool) : List α → List α → Option Bool
 | x :: l, y :: m => (f x y).bind fun b => if b = true then zipO f l m else some false
 | _, _ => some true
theorem zipO_mono {α : Type} {f g : α → α → Option Bool} (h : ∀ x y, LeO (f x y) (g x y)) : ∀ l m, LeO (zipO f l m) (zipO g l m)
 | x :: l, y :: m => by
  unfold zipO
  exact LeO.bind (h x y) (fun b => LeO.ite (zipO_mono h l m) (LeO.refl _))
 | [], _ => by unfold zipO; exact LeO.refl _
 | _ :: _, [] => by unfold zipO; exact LeO.refl _
theorem zipO_cons {α : Type} {f : α → α → Option Bool} {l m : List α} {i : Nat} {r : Bool} (hi : i < l.length) (hm : i < m.length) (h : zipO f (l.drop i) (m.drop i) = some r) : ∃ b, f (l[i]) (m[i]) = some b ∧ (b = true → zipO f (l.drop (i + 1)) (m.drop (i + 1)) = some r) ∧ (b = false → r = false) := by
 rw [List.drop_eq_getElem_cons hi, List.drop_eq_getElem_cons hm] at h
 unfold zipO at h
 cases hb : f l[i] m[i] with
 | none => rw [hb] at h; cases h
 | some b =>
  rw [hb] at h
  refine ⟨b, rfl, ?_, ?_⟩
  ·
   rintro rfl; simpa using h
  ·
   rintro rfl; simpa using h.symm
def mapO {α β : Type} (f : α → Option β) : List α → Option (List β)
 | [] => some []
 | x :: l => (f x).bind fun b => (mapO f l).bind fun m => some (b :: m)
theorem mapO_mono {α β : Type} {f g : α → Option β} (h : ∀ x, LeO (f x) (g x)) : ∀ l, LeO (mapO f l) (mapO g l)
 | [] => LeO.refl _
 | x :: l => by
  unfold mapO
  exact LeO.bind (h x) (fun b => LeO.bind (mapO_mono h l) (fun _ => LeO.refl _))
theorem mapO_cons {α β : Type} {f : α → Option β} {l : List α} {i : Nat} {r : List β} (hi : i < l.length) (h : mapO f (l.drop i) = some r) : ∃ b m, f (l[i]) = some b ∧ mapO f (l.drop (i + 1)) = some m ∧ r = b :: m := by
 rw [List.drop_eq_getElem_cons hi] at h
 unfold mapO at h
 cases hb : f l[i] with
 | none => rw [hb] at h; cases h
 | some b =>
  rw [hb] at h
  cases hm : mapO f (l.drop (i + 1)) with
  | none => rw [hm] at h; cases h
  | some m => rw [hm] at h; exact ⟨b, m, rfl, rfl, by simpa using h.symm⟩

theorem pe_box0 (w : World) (cs : Array Value) (t : TypeId) : (w.alloc (.cells cs t)).heap[w.heap.size]? = some (.cells cs t (0, 0)) := heap_alloc_new w _
theorem pe_box1 (w : World) (o : Obj) (cs : Array Value) (t : TypeId) : ((w.alloc o).alloc (.cells cs t)).heap[w.heap.size + 1]? = some (.cells cs t (0, 0)) := by
 have h := heap_alloc_new (w.alloc o) (.cells cs t)
 simpa using h
theorem pe_box2 (w : World) (o o2 : Obj) (cs : Array Value) (t : TypeId) : (((w.alloc o).alloc o2).alloc (.cells cs t)).heap[w.heap.size + 2]? = some (.cells cs t (0, 0)) := by
 have h := heap_alloc_new ((w.alloc o).alloc o2) (.cells cs t)
 simpa using h

/-! ### book_Rule_right: function 41 -/
def book_Rule_right.f (a0_0 : Int) (a0_1 : Int) (a0_2 : Int) : Option (Bool) := (book_within.f a0_0 1 27).bind fun t104 => (if t104 = true then ((book_within.f a0_1 0 2).bind fun t105 => (if t105 = true then ((book_within.f a0_2 0 6).bind fun t106 => (some t106)) else (some false))) else (some false))
set_option maxHeartbeats 8000000 in
set_option maxRecDepth 100000 in
theorem book_Rule_right.calls (a0_0 : Int) (a0_1 : Int) (a0_2 : Int) (r : Bool) (w : World) (h : book_Rule_right.f a0_0 a0_1 a0_2 = some r) :
    Calls Tryz.prog 41 #[.agg #[.int .i64 a0_0, .int .i64 a0_1, .int .i64 a0_2]] w fun e w' => e = .returned (.bool r) ∧ Below w.heap.size w w' := by
 unfold book_Rule_right.f at h; have H := Aside0.mk h; clear h; have HB := Aside0.mk (Below.refl w.heap.size w); have hu64 := Tryz.underlying64; go_enter Tryz.func41, Tryz.ntmps41; have BK10 := Aside0.mk (pe_box0 w #[.int .i64 a0_0, .int .i64 a0_1, .int .i64 a0_2] 64); replace HB := Aside0.mk (below_alloc HB.out (.cells #[.int .i64 a0_0, .int .i64 a0_1, .int .i64 a0_2] 64)); obtain ⟨t104, q11, H1⟩ := a0b H; clear H; have H := H1; clear H1; go_wp2_with fail; (with_reducible refine (book_within.calls a0_0 1 27 t104 _  q11.out).mono ?_); clear q11; (rintro e w12 ⟨rfl, hd⟩); have hb := hd.below; clear hd; replace HB := Aside0.mk (below_step HB.out hb); replace BK10 := Aside0.mk (blk_below BK10.out hb); clear hb; have Z10 := blk3 BK10.out; by_cases c13 : t104 = true
 · replace H := a0p c13 H; subst c13; obtain ⟨t105, q14, H1⟩ := a0b H; clear H; have H := H1; clear H1; go_wp2_with fail; (with_reducible refine (book_within.calls a0_1 0 2 t105 _  q14.out).mono ?_); clear q14; (rintro e w15 ⟨rfl, hd⟩); have hb := hd.below; clear hd; replace HB := Aside0.mk (below_step HB.out hb); replace BK10 := Aside0.mk (blk_below BK10.out hb); clear hb
   try clear Z10
   have Z10 := blk3 BK10.out; by_cases c16 : t105 = true
   · replace H := a0p c16 H; subst c16; obtain ⟨t106, q17, H1⟩ := a0b H; clear H; have H := H1; clear H1; go_wp2_with fail; (with_reducible refine (book_within.calls a0_2 0 6 t106 _  q17.out).mono ?_); clear q17; (rintro e w18 ⟨rfl, hd⟩); have hb := hd.below; clear hd; replace HB := Aside0.mk (below_step HB.out hb); replace BK10 := Aside0.mk (blk_below BK10.out hb); clear hb
     try clear Z10
     have Z10 := blk3 BK10.out; obtain rfl := Option.some.inj H.out; go_wp2; go_ret; exact ⟨by first | rfl | (simp; done) | (simp [*]; done), HB.out⟩
   · replace H := a0n c16 H; replace c16 := Bool.eq_false_iff.mpr c16; subst c16; obtain rfl := Option.some.inj H.out; go_wp2; go_ret; exact ⟨by first | rfl | (simp; done) | (simp [*]; done), HB.out⟩
 · replace H := a0n c13 H; replace c13 := Bool.eq_false_iff.mpr c13; subst c13; obtain rfl := Option.some.inj H.out; go_wp2; go_ret; exact ⟨by first | rfl | (simp; done) | (simp [*]; done), HB.out⟩

-- NOT PRINTED: function 137 (book_Area_1)

/-! ### book_Partition_right_1: function 99 -/
def book_Partition_right_1.f (k : Nat) (a0_0 : ByteArray) (a0_1 : Int) (a0_2 : Int) (a0_3 : Bool) (a0_4 : Bool) (a0_5 : Bool) : Option (Bool) := (book_Name.f k a0_0).bind fun t109 => (if t109 = true then ((book_within.f a0_1 0 4095).bind fun t110 => (if t110 = true then ((book_within.f a0_2 1 4096).bind fun t111 => (some t111)) else (some false))) else (some false))
theorem book_Partition_right_1.mono : ∀ a0 a1 a2 a3 a4 a5 k, LeO (book_Partition_right_1.f k a0 a1 a2 a3 a4 a5) (book_Partition_right_1.f (k + 1) a0 a1 a2 a3 a4 a5) := by
  intro a0 a1 a2 a3 a4 a5 k
  unfold book_Partition_right_1.f
  repeat' first | (with_reducible apply book_Name.mono) | (with_reducible exact LeO.refl _) | (with_reducible exact LeO.none _) | (with_reducible refine LeO.ite ?_ ?_) | (with_reducible refine LeO.bind ?_ (fun _ => ?_)) | apply LeO.none | apply LeO.ite | (refine LeO.bind ?_ (fun _ => ?_))
set_option maxHeartbeats 8000000 in
set_option maxRecDepth 100000 in
theorem book_Partition_right_1.calls (k : Nat) (a0_0 : ByteArray) (a0_1 : Int) (a0_2 : Int) (a0_3 : Bool) (a0_4 : Bool) (a0_5 : Bool) (r : Bool) (w : World) (h : book_Partition_right_1.f k a0_0 a0_1 a0_2 a0_3 a0_4 a0_5 = some r) :
    Calls Tryz.prog 99 #[.agg #[.string a0_0, .int .i64 a0_1, .int .i64 a0_2, .bool a0_3, .bool a0_4, .bool a0_5]] w fun e w' => e = .returned (.bool r) ∧ Below w.heap.size w w' := by
 unfold book_Partition_right_1.f at h; have H := Aside0.mk h; clear h; have HB := Aside0.mk (Below.refl w.heap.size w); have hu62 := Tryz.underlying62; go_enter Tryz.func99, Tryz.ntmps99; have BK19 := Aside0.mk (pe_box0 w #[.string a0_0, .int .i64 a0_1, .int .i64 a0_2, .bool a0_3, .bool a0_4, .bool a0_5] 62); replace HB := Aside0.mk (below_alloc HB.out (.cells #[.string a0_0, .int .i64 a0_1, .int .i64 a0_2, .bool a0_3, .bool a0_4, .bool a0_5] 62)); obtain ⟨t109, q20, H1⟩ := a0b H; clear H; have H := H1; clear H1; go_wp2_with fail; (with_reducible refine (book_Name.calls k a0_0 t109 _  q20.out).mono ?_); clear q20; (rintro e w21 ⟨rfl, hd⟩); have hb := hd.below; clear hd; replace HB := Aside0.mk (below_step HB.out hb); replace BK19 := Aside0.mk (blk_below BK19.out hb); clear hb; have Z19 := blk6 BK19.out; by_cases c22 : t109 = true
 · replace H := a0p c22 H; subst c22; obtain ⟨t110, q23, H1⟩ := a0b H; clear H; have H := H1; clear H1; go_wp2_with fail; (with_reducible refine (book_within.calls a0_1 0 4095 t110 _  q23.out).mono ?_); clear q23; (rintro e w24 ⟨rfl, hd⟩); have hb := hd.below; clear hd; replace HB := Aside0.mk (below_step HB.out hb); replace BK19 := Aside0.mk (blk_below BK19.out hb); clear hb
   try clear Z19
   have Z19 := blk6 BK19.out; by_cases c25 : t110 = true
   · replace H := a0p c25 H; subst c25; obtain ⟨t111, q26, H1⟩ := a0b H; clear H; have H := H1; clear H1; go_wp2_with fail; (with_reducible refine (book_within.calls a0_2 1 4096 t111 _  q26.out).mono ?_); clear q26; (rintro e w27 ⟨rfl, hd⟩); have hb := hd.below; clear hd; replace HB := Aside0.mk (below_step HB.out hb); replace BK19 := Aside0.mk (blk_below BK19.out hb); clear hb
     try clear Z19
     have Z19 := blk6 BK19.out; obtain rfl := Option.some.inj H.out; go_wp2; go_ret; exact ⟨by first | rfl | (simp; done) | (simp [*]; done), HB.out⟩
   · replace H := a0n c25 H; replace c25 := Bool.eq_false_iff.mpr c25; subst c25; obtain rfl := Option.some.inj H.out; go_wp2; go_ret; exact ⟨by first | rfl | (simp; done) | (simp [*]; done), HB.out⟩
 · replace H := a0n c22 H; replace c22 := Bool.eq_false_iff.mpr c22; subst c22; obtain rfl := Option.some.inj H.out; go_wp2; go_ret; exact ⟨by first | rfl | (simp; done) | (simp [*]; done), HB.out⟩

-- NOT PRINTED: function 139 (book_Task_1)

/-! ### book_Task_right: function 101 -/
def book_Task_right.f (k : Nat) (a0_0 : ByteArray) (a0_1 : Int) (a0_2 : Int) (a0_3 : Int) (a0_4 : Int) (a0_5 : Int) (a0_6 : Int) (a0_7 : Int) : Option (Bool) := (book_Name.f k a0_0).bind fun t114 => (if t114 = true then ((book_within.f a0_1 0 4095).bind fun t115 => (if t115 = true then ((book_within.f a0_2 0 4096).bind fun t116 => (if t116 = true then ((book_within.f a0_3 1 63).bind fun t117 => (if t117 = true then ((book_within.f a0_4 0 1048576).bind fun t118 => (if t118 = true then ((book_within.f a0_5 0 1048576).bind fun t119 => (if t119 = true then ((book_within.f a0_6 0 1048576).bind fun t120 => (if t120 = true then ((book_within.f a0_7 0 1048576).bind fun t121 => (some t121)) else (some false))) else (some false))) else (some false))) else (some false))) else (some false))) else (some false))) else (some false))
theorem book_Task_right.mono : ∀ a0 a1 a2 a3 a4 a5 a6 a7 k, LeO (book_Task_right.f k a0 a1 a2 a3 a4 a5 a6 a7) (book_Task_right.f (k + 1) a0 a1 a2 a3 a4 a5 a6 a7) := by
  intro a0 a1 a2 a3 a4 a5 a6 a7 k
  unfold book_Task_right.f
  repeat' first | (with_reducible apply book_Name.mono) | (with_reducible exact LeO.refl _) | (with_reducible exact LeO.none _) | (with_reducible refine LeO.ite ?_ ?_) | (with_reducible refine LeO.bind ?_ (fun _ => ?_)) | apply LeO.none | apply LeO.ite | (refine LeO.bind ?_ (fun _ => ?_))
set_option maxHeartbeats 8000000 in
set_option maxRecDepth 100000 in
theorem book_Task_right.calls (k : Nat) (a0_0 : ByteArray) (a0_1 : Int) (a0_2 : Int) (a0_3 : Int) (a0_4 : Int) (a0_5 : Int) (a0_6 : Int) (a0_7 : Int) (r : Bool) (w : World) (h : book_Task_right.f k a0_0 a0_1 a0_2 a0_3 a0_4 a0_5 a0_6 a0_7 = some r) :
    Calls Tryz.prog 101 #[.agg #[.string a0_0, .int .i64 a0_1, .int .i64 a0_2, .int .i64 a0_3, .int .i64 a0_4, .int .i64 a0_5, .int .i64 a0_6, .int .i64 a0_7]] w fun e w' => e = .returned (.bool r) ∧ Below w.heap.size w w' := by
 unfold book_Task_right.f at h; have H := Aside0.mk h; clear h; have HB := Aside0.mk (Below.refl w.heap.size w); have hu109 := Tryz.underlying109; go_enter Tryz.func101, Tryz.ntmps101; have BK28 := Aside0.mk (pe_box0 w #[.string a0_0, .int .i64 a0_1, .int .i64 a0_2, .int .i64 a0_3, .int .i64 a0_4, .int .i64 a0_5, .int .i64 a0_6, .int .i64 a0_7] 109); replace HB := Aside0.mk (below_alloc HB.out (.cells #[.string a0_0, .int .i64 a0_1, .int .i64 a0_2, .int .i64 a0_3, .int .i64 a0_4, .int .i64 a0_5, .int .i64 a0_6, .int .i64 a0_7] 109)); obtain ⟨t114, q29, H1⟩ := a0b H; clear H; have H := H1; clear H1; go_wp2_with fail; (with_reducible refine (book_Name.calls k a0_0 t114 _  q29.out).mono ?_); clear q29; (rintro e w30 ⟨rfl, hd⟩); have hb := hd.below; clear hd; replace HB := Aside0.mk (below_step HB.out hb); replace BK28 := Aside0.mk (blk_below BK28.out hb); clear hb; have Z28 := blk8 BK28.out; by_cases c31 : t114 = true
 · replace H := a0p c31 H; subst c31; obtain ⟨t115, q32, H1⟩ := a0b H; clear H; have H := H1; clear H1; go_wp2_with fail; (with_reducible refine (book_within.calls a0_1 0 4095 t115 _  q32.out).mono ?_); clear q32; (rintro e w33 ⟨rfl, hd⟩); have hb := hd.below; clear hd; replace HB := Aside0.mk (below_step HB.out hb); replace BK28 := Aside0.mk (blk_below BK28.out hb); clear hb
   try clear Z28
   have Z28 := blk8 BK28.out; by_cases c34 : t115 = true
   · replace H := a0p c34 H; subst c34; obtain ⟨t116, q35, H1⟩ := a0b H; clear H; have H := H1; clear H1; go_wp2_with fail; (with_reducible refine (book_within.calls a0_2 0 4096 t116 _  q35.out).mono ?_); clear q35; (rintro e w36 ⟨rfl, hd⟩); have hb := hd.below; clear hd; replace HB := Aside0.mk (below_step HB.out hb); replace BK28 := Aside0.mk (blk_below BK28.out hb); clear hb
     try clear Z28
     have Z28 := blk8 BK28.out; by_cases c37 : t116 = true
     · replace H := a0p c37 H; subst c37; obtain ⟨t117, q38, H1⟩ := a0b H; clear H; have H := H1; clear H1; go_wp2_with fail; (with_reducible refine (book_within.calls a0_3 1 63 t117 _  q38.out).mono ?_); clear q38; (rintro e w39 ⟨rfl, hd⟩); have hb := hd.below; clear hd; replace HB := Aside0.mk (below_step HB.out hb); replace BK28 := Aside0.mk (blk_below BK28.out hb); clear hb
       try clear Z28
       have Z28 := blk8 BK28.out; by_cases c40 : t117 = true
       · replace H := a0p c40 H; subst c40; obtain ⟨t118, q41, H1⟩ := a0b H; clear H; have H := H1; clear H1; go_wp2_with fail; (with_reducible refine (book_within.calls a0_4 0 1048576 t118 _  q41.out).mono ?_); clear q41; (rintro e w42 ⟨rfl, hd⟩); have hb := hd.below; clear hd; replace HB := Aside0.mk (below_step HB.out hb); replace BK28 := Aside0.mk (blk_below BK28.out hb); clear hb
         try clear Z28
         have Z28 := blk8 BK28.out; by_cases c43 : t118 = true
         · replace H := a0p c43 H; subst c43; obtain ⟨t119, q44, H1⟩ := a0b H; clear H; have H := H1; clear H1; go_wp2_with fail; (with_reducible refine (book_within.calls a0_5 0 1048576 t119 _  q44.out).mono ?_); clear q44; (rintro e w45 ⟨rfl, hd⟩); have hb := hd.below; clear hd; replace HB := Aside0.mk (below_step HB.out hb); replace BK28 := Aside0.mk (blk_below BK28.out hb); clear hb
           try clear Z28
           have Z28 := blk8 BK28.out; by_cases c46 : t119 = true
           · replace H := a0p c46 H; subst c46; obtain ⟨t120, q47, H1⟩ := a0b H; clear H; have H := H1; clear H1; go_wp2_with fail; (with_reducible refine (book_within.calls a0_6 0 1048576 t120 _  q47.out).mono ?_); clear q47; (rintro e w48 ⟨rfl, hd⟩); have hb := hd.below; clear hd; replace HB := Aside0.mk (below_step HB.out hb); replace BK28 := Aside0.mk (blk_below BK28.out hb); clear hb
             try clear Z28
             have Z28 := blk8 BK28.out; by_cases c49 : t120 = true
             · replace H := a0p c49 H; subst c49; obtain ⟨t121, q50, H1⟩ := a0b H; clear H; have H := H1; clear H1; go_wp2_with fail; (with_reducible refine (book_within.calls a0_7 0 1048576 t121 _  q50.out).mono ?_); clear q50; (rintro e w51 ⟨rfl, hd⟩); have hb := hd.below; clear hd; replace HB := Aside0.mk (below_step HB.out hb); replace BK28 := Aside0.mk (blk_below BK28.out hb); clear hb
               try clear Z28
               have Z28 := blk8 BK28.out; obtain rfl := Option.some.inj H.out; go_wp2; go_ret; exact ⟨by first | rfl | (simp; done) | (simp [*]; done), HB.out⟩
             · replace H := a0n c49 H; replace c49 := Bool.eq_false_iff.mpr c49; subst c49; obtain rfl := Option.some.inj H.out; go_wp2; go_ret; exact ⟨by first | rfl | (simp; done) | (simp [*]; done), HB.out⟩
           · replace H := a0n c46 H; replace c46 := Bool.eq_false_iff.mpr c46; subst c46; obtain rfl := Option.some.inj H.out; go_wp2; go_ret; exact ⟨by first | rfl | (simp; done) | (simp [*]; done), HB.out⟩
         · replace H := a0n c43 H; replace c43 := Bool.eq_false_iff.mpr c43; subst c43; obtain rfl := Option.some.inj H.out; go_wp2; go_ret; exact ⟨by first | rfl | (simp; done) | (simp [*]; done), HB.out⟩
       · replace H := a0n c40 H; replace c40 := Bool.eq_false_iff.mpr c40; subst c40; obtain rfl := Option.some.inj H.out; go_wp2; go_ret; exact ⟨by first | rfl | (simp; done) | (simp [*]; done), HB.out⟩
     · replace H := a0n c37 H; replace c37 := Bool.eq_false_iff.mpr c37; subst c37; obtain rfl := Option.some.inj H.out; go_wp2; go_ret; exact ⟨by first | rfl | (simp; done) | (simp [*]; done), HB.out⟩
   · replace H := a0n c34 H; replace c34 := Bool.eq_false_iff.mpr c34; subst c34; obtain rfl := Option.some.inj H.out; go_wp2; go_ret; exact ⟨by first | rfl | (simp; done) | (simp [*]; done), HB.out⟩
 · replace H := a0n c31 H; replace c31 := Bool.eq_false_iff.mpr c31; subst c31; obtain rfl := Option.some.inj H.out; go_wp2; go_ret; exact ⟨by first | rfl | (simp; done) | (simp [*]; done), HB.out⟩

-- NOT PRINTED: function 141 (book_Lock_1)

/-! ### book_Partition_right_2: function 103 -/
def book_Partition_right_2.f (k : Nat) (a0_0 : ByteArray) (a0_1 : Int) : Option (Bool) := (book_Name.f k a0_0).bind fun t124 => (if t124 = true then ((book_within.f a0_1 1 63).bind fun t125 => (some t125)) else (some false))
theorem book_Partition_right_2.mono : ∀ a0 a1 k, LeO (book_Partition_right_2.f k a0 a1) (book_Partition_right_2.f (k + 1) a0 a1) := by
  intro a0 a1 k
  unfold book_Partition_right_2.f
  repeat' first | (with_reducible apply book_Name.mono) | (with_reducible exact LeO.refl _) | (with_reducible exact LeO.none _) | (with_reducible refine LeO.ite ?_ ?_) | (with_reducible refine LeO.bind ?_ (fun _ => ?_)) | apply LeO.none | apply LeO.ite | (refine LeO.bind ?_ (fun _ => ?_))
set_option maxHeartbeats 8000000 in
set_option maxRecDepth 100000 in
theorem book_Partition_right_2.calls (k : Nat) (a0_0 : ByteArray) (a0_1 : Int) (r : Bool) (w : World) (h : book_Partition_right_2.f k a0_0 a0_1 = some r) :
    Calls Tryz.prog 103 #[.agg #[.string a0_0, .int .i64 a0_1]] w fun e w' => e = .returned (.bool r) ∧ Below w.heap.size w w' := by
 unfold book_Partition_right_2.f at h; have H := Aside0.mk h; clear h; have HB := Aside0.mk (Below.refl w.heap.size w); have hu111 := Tryz.underlying111; go_enter Tryz.func103, Tryz.ntmps103; have BK52 := Aside0.mk (pe_box0 w #[.string a0_0, .int .i64 a0_1] 111); replace HB := Aside0.mk (below_alloc HB.out (.cells #[.string a0_0, .int .i64 a0_1] 111)); obtain ⟨t124, q53, H1⟩ := a0b H; clear H; have H := H1; clear H1; go_wp2_with fail; (with_reducible refine (book_Name.calls k a0_0 t124 _  q53.out).mono ?_); clear q53; (rintro e w54 ⟨rfl, hd⟩); have hb := hd.below; clear hd; replace HB := Aside0.mk (below_step HB.out hb); replace BK52 := Aside0.mk (blk_below BK52.out hb); clear hb; have Z52 := blk2 BK52.out; by_cases c55 : t124 = true
 · replace H := a0p c55 H; subst c55; obtain ⟨t125, q56, H1⟩ := a0b H; clear H; have H := H1; clear H1; go_wp2_with fail; (with_reducible refine (book_within.calls a0_1 1 63 t125 _  q56.out).mono ?_); clear q56; (rintro e w57 ⟨rfl, hd⟩); have hb := hd.below; clear hd; replace HB := Aside0.mk (below_step HB.out hb); replace BK52 := Aside0.mk (blk_below BK52.out hb); clear hb
   try clear Z52
   have Z52 := blk2 BK52.out; obtain rfl := Option.some.inj H.out; go_wp2; go_ret; exact ⟨by first | rfl | (simp; done) | (simp [*]; done), HB.out⟩
 · replace H := a0n c55 H; replace c55 := Bool.eq_false_iff.mpr c55; subst c55; obtain rfl := Option.some.inj H.out; go_wp2; go_ret; exact ⟨by first | rfl | (simp; done) | (simp [*]; done), HB.out⟩

-- NOT PRINTED: function 143 (book_Sema_1)

/-! ### book_Partition_right_3: function 105 -/
def book_Partition_right_3.f (k : Nat) (a0_0 : ByteArray) (a0_1 : Int) (a0_2 : Int) (a0_3 : Bool) : Option (Bool) := (book_Name.f k a0_0).bind fun t128 => (if t128 = true then ((book_within.f a0_1 0 65535).bind fun t129 => (if t129 = true then ((book_within.f a0_2 1 65535).bind fun t130 => (some t130)) else (some false))) else (some false))
theorem book_Partition_right_3.mono : ∀ a0 a1 a2 a3 k, LeO (book_Partition_right_3.f k a0 a1 a2 a3) (book_Partition_right_3.f (k + 1) a0 a1 a2 a3) := by
  intro a0 a1 a2 a3 k
  unfold book_Partition_right_3.f
  repeat' first | (with_reducible apply book_Name.mono) | (with_reducible exact LeO.refl _) | (with_reducible exact LeO.none _) | (with_reducible refine LeO.ite ?_ ?_) | (with_reducible refine LeO.bind ?_ (fun _ => ?_)) | apply LeO.none | apply LeO.ite | (refine LeO.bind ?_ (fun _ => ?_))
set_option maxHeartbeats 8000000 in
set_option maxRecDepth 100000 in
theorem book_Partition_right_3.calls (k : Nat) (a0_0 : ByteArray) (a0_1 : Int) (a0_2 : Int) (a0_3 : Bool) (r : Bool) (w : World) (h : book_Partition_right_3.f k a0_0 a0_1 a0_2 a0_3 = some r) :
    Calls Tryz.prog 105 #[.agg #[.string a0_0, .int .i64 a0_1, .int .i64 a0_2, .bool a0_3]] w fun e w' => e = .returned (.bool r) ∧ Below w.heap.size w w' := by
 unfold book_Partition_right_3.f at h; have H := Aside0.mk h; clear h; have HB := Aside0.mk (Below.refl w.heap.size w); have hu113 := Tryz.underlying113; go_enter Tryz.func105, Tryz.ntmps105; have BK58 := Aside0.mk (pe_box0 w #[.string a0_0, .int .i64 a0_1, .int .i64 a0_2, .bool a0_3] 113); replace HB := Aside0.mk (below_alloc HB.out (.cells #[.string a0_0, .int .i64 a0_1, .int .i64 a0_2, .bool a0_3] 113)); obtain ⟨t128, q59, H1⟩ := a0b H; clear H; have H := H1; clear H1; go_wp2_with fail; (with_reducible refine (book_Name.calls k a0_0 t128 _  q59.out).mono ?_); clear q59; (rintro e w60 ⟨rfl, hd⟩); have hb := hd.below; clear hd; replace HB := Aside0.mk (below_step HB.out hb); replace BK58 := Aside0.mk (blk_below BK58.out hb); clear hb; have Z58 := blk4 BK58.out; by_cases c61 : t128 = true
 · replace H := a0p c61 H; subst c61; obtain ⟨t129, q62, H1⟩ := a0b H; clear H; have H := H1; clear H1; go_wp2_with fail; (with_reducible refine (book_within.calls a0_1 0 65535 t129 _  q62.out).mono ?_); clear q62; (rintro e w63 ⟨rfl, hd⟩); have hb := hd.below; clear hd; replace HB := Aside0.mk (below_step HB.out hb); replace BK58 := Aside0.mk (blk_below BK58.out hb); clear hb
   try clear Z58
   have Z58 := blk4 BK58.out; by_cases c64 : t129 = true
   · replace H := a0p c64 H; subst c64; obtain ⟨t130, q65, H1⟩ := a0b H; clear H; have H := H1; clear H1; go_wp2_with fail; (with_reducible refine (book_within.calls a0_2 1 65535 t130 _  q65.out).mono ?_); clear q65; (rintro e w66 ⟨rfl, hd⟩); have hb := hd.below; clear hd; replace HB := Aside0.mk (below_step HB.out hb); replace BK58 := Aside0.mk (blk_below BK58.out hb); clear hb
     try clear Z58
     have Z58 := blk4 BK58.out; obtain rfl := Option.some.inj H.out; go_wp2; go_ret; exact ⟨by first | rfl | (simp; done) | (simp [*]; done), HB.out⟩
   · replace H := a0n c64 H; replace c64 := Bool.eq_false_iff.mpr c64; subst c64; obtain rfl := Option.some.inj H.out; go_wp2; go_ret; exact ⟨by first | rfl | (simp; done) | (simp [*]; done), HB.out⟩
 · replace H := a0n c61 H; replace c61 := Bool.eq_false_iff.mpr c61; subst c61; obtain rfl := Option.some.inj H.out; go_wp2; go_ret; exact ⟨by first | rfl | (simp; done) | (simp [*]; done), HB.out⟩

-- NOT PRINTED: function 145 (book_Event_1)

/-! ### book_Partition_right_4: function 107 -/
def book_Partition_right_4.f (k : Nat) (a0_0 : ByteArray) : Option (Bool) := (book_Name.f k a0_0).bind fun t133 => (some t133)
theorem book_Partition_right_4.mono : ∀ a0 k, LeO (book_Partition_right_4.f k a0) (book_Partition_right_4.f (k + 1) a0) := by
 intro a0 k
 unfold book_Partition_right_4.f
 repeat' first | (with_reducible apply book_Name.mono) | (with_reducible exact LeO.refl _) | (with_reducible exact LeO.none _) | (with_reducible refine LeO.ite ?_ ?_) | (with_reducible refine LeO.bind ?_ (fun _ => ?_)) | apply LeO.none | apply LeO.ite | (refine LeO.bind ?_ (fun _ => ?_))
set_option maxHeartbeats 8000000 in
set_option maxRecDepth 100000 in
theorem book_Partition_right_4.calls (k : Nat) (a0_0 : ByteArray) (r : Bool) (w : World) (h : book_Partition_right_4.f k a0_0 = some r) :
  Calls Tryz.prog 107 #[.agg #[.string a0_0]] w fun e w' => e = .returned (.bool r) ∧ Below w.heap.size w w' := by
 have hu115 := Tryz.underlying115
 have HB := Aside0.mk (Below.refl w.heap.size w)
 have H : ((book_Name.f k a0_0).bind fun t133 => (some t133)) = some r := h
 clear h
 replace H := Option.bind_eq_some_iff.mp H
 obtain ⟨t133, A20, H⟩ := H
 replace H : (some t133) = some r := H
 have A2 := Aside0.mk A20
 clear A20
 obtain rfl := Option.some.inj H
 go_enter Tryz.func107, Tryz.ntmps107
 go_wp2_with (first | ((with_reducible refine gate_dst (N := 1) rfl ?_); refine box_event ?hg (N := 1) ?hd (cs := #[.string a0_0]) (t := 115) ?hr ?_; (case hd => rfl); (case hg => rfl); (case hr => first | (go_simp; done) | (go_simp; rfl)); intro gb132 hg w3 hbox hb; have n0_ := Aside0.mk (below_step (by repeat (first | (with_reducible first | exact HB.out | apply below_alloc | apply pw_below_drewN | apply below_drew1) | exact HB.out)) hb); have n1_ := Aside0.mk (hbox); have n2_ := Aside0.mk ((by rw [hg]; exact (below_size (by repeat (first | (with_reducible first | exact HB.out | apply below_alloc | apply pw_below_drewN | apply below_drew1) | exact HB.out))) : w.heap.size ≤ gb132)); have n3_ := Aside0.mk ((by rw [hg]; exact (below_size (by repeat (first | (with_reducible first | exact HB.out | apply below_alloc | apply pw_below_drewN | apply below_drew1) | exact HB.out))) : w.heap.size ≤ gb132)); clear HB; have HB := n0_; have BK132 := n1_; have GW132 := n2_; have GE132 := n3_; clear n0_ n1_ n2_ n3_; clear hb hbox hg; have hcz4_0 : w3.cell? ⟨gb132, 0, none⟩ = some (.string a0_0) := (blk_cell BK132.out 0).trans rfl; have hfz4_0 := blk_frozen BK132.out 0) | ((with_reducible refine gate_callee (f := 10) rfl ?_); refine goesL_ (some 5) rfl rfl Tryz.func10 (by kernel_rfl) rfl #[.string a0_0] rfl (by (try simp only [List.map_toArray, List.map_cons, List.map_nil]); first | done | rfl | (simp only [List.length_drop, List.length_take]; rfl)) ?_; (with_reducible refine (book_Name.calls k a0_0 t133 _ A2.out).mono ?_); rintro e w' ⟨rfl, ⟨nd, rfl⟩⟩; refine ⟨_, rfl, ?_⟩))
 go_ret
 exact ⟨by first | rfl | (simp [errW_none, errW_some] <;> rfl) | (simp [*, errW_none, errW_some] <;> rfl), by repeat (first | (with_reducible first | exact HB.out | apply below_alloc | apply pw_below_drewN | apply below_drew1 | refine below_set ?_ GE132.out) | exact HB.out)⟩

-- NOT PRINTED: function 147 (book_Board_1)

/-! ### book_Partition_right_5: function 109 -/
def book_Partition_right_5.f (k : Nat) (a0_0 : ByteArray) (a0_1 : Int) : Option (Bool) := (book_Name.f k a0_0).bind fun t136 => (if t136 = true then ((book_within.f a0_1 1 32).bind fun t137 => (some t137)) else (some false))
theorem book_Partition_right_5.mono : ∀ a0 a1 k, LeO (book_Partition_right_5.f k a0 a1) (book_Partition_right_5.f (k + 1) a0 a1) := by
  intro a0 a1 k
  unfold book_Partition_right_5.f
  repeat' first | (with_reducible apply book_Name.mono) | (with_reducible exact LeO.refl _) | (with_reducible exact LeO.none _) | (with_reducible refine LeO.ite ?_ ?_) | (with_reducible refine LeO.bind ?_ (fun _ => ?_)) | apply LeO.none | apply LeO.ite | (refine LeO.bind ?_ (fun _ => ?_))
set_option maxHeartbeats 8000000 in
set_option maxRecDepth 100000 in
theorem book_Partition_right_5.calls (k : Nat) (a0_0 : ByteArray) (a0_1 : Int) (r : Bool) (w : World) (h : book_Partition_right_5.f k a0_0 a0_1 = some r) :
    Calls Tryz.prog 109 #[.agg #[.string a0_0, .int .i64 a0_1]] w fun e w' => e = .returned (.bool r) ∧ Below w.heap.size w w' := by
 unfold book_Partition_right_5.f at h; have H := Aside0.mk h; clear h; have HB := Aside0.mk (Below.refl w.heap.size w); have hu117 := Tryz.underlying117; go_enter Tryz.func109, Tryz.ntmps109; have BK67 := Aside0.mk (pe_box0 w #[.string a0_0, .int .i64 a0_1] 117); replace HB := Aside0.mk (below_alloc HB.out (.cells #[.string a0_0, .int .i64 a0_1] 117)); obtain ⟨t136, q68, H1⟩ := a0b H; clear H; have H := H1; clear H1; go_wp2_with fail; (with_reducible refine (book_Name.calls k a0_0 t136 _  q68.out).mono ?_); clear q68; (rintro e w69 ⟨rfl, hd⟩); have hb := hd.below; clear hd; replace HB := Aside0.mk (below_step HB.out hb); replace BK67 := Aside0.mk (blk_below BK67.out hb); clear hb; have Z67 := blk2 BK67.out; by_cases c70 : t136 = true
 · replace H := a0p c70 H; subst c70; obtain ⟨t137, q71, H1⟩ := a0b H; clear H; have H := H1; clear H1; go_wp2_with fail; (with_reducible refine (book_within.calls a0_1 1 32 t137 _  q71.out).mono ?_); clear q71; (rintro e w72 ⟨rfl, hd⟩); have hb := hd.below; clear hd; replace HB := Aside0.mk (below_step HB.out hb); replace BK67 := Aside0.mk (blk_below BK67.out hb); clear hb
   try clear Z67
   have Z67 := blk2 BK67.out; obtain rfl := Option.some.inj H.out; go_wp2; go_ret; exact ⟨by first | rfl | (simp; done) | (simp [*]; done), HB.out⟩
 · replace H := a0n c70 H; replace c70 := Bool.eq_false_iff.mpr c70; subst c70; obtain rfl := Option.some.inj H.out; go_wp2; go_ret; exact ⟨by first | rfl | (simp; done) | (simp [*]; done), HB.out⟩

-- NOT PRINTED: function 149 (book_Buffer_1)

/-! ### book_Partition_right_6: function 111 -/
def book_Partition_right_6.f (k : Nat) (a0_0 : ByteArray) (a0_1 : Int) (a0_2 : Int) (a0_3 : Bool) : Option (Bool) := (book_Name.f k a0_0).bind fun t140 => (if t140 = true then ((book_within.f a0_1 1 32).bind fun t141 => (if t141 = true then ((book_within.f a0_2 1 32).bind fun t142 => (some t142)) else (some false))) else (some false))
theorem book_Partition_right_6.mono : ∀ a0 a1 a2 a3 k, LeO (book_Partition_right_6.f k a0 a1 a2 a3) (book_Partition_right_6.f (k + 1) a0 a1 a2 a3) := by
  intro a0 a1 a2 a3 k
  unfold book_Partition_right_6.f
  repeat' first | (with_reducible apply book_Name.mono) | (with_reducible exact LeO.refl _) | (with_reducible exact LeO.none _) | (with_reducible refine LeO.ite ?_ ?_) | (with_reducible refine LeO.bind ?_ (fun _ => ?_)) | apply LeO.none | apply LeO.ite | (refine LeO.bind ?_ (fun _ => ?_))
set_option maxHeartbeats 8000000 in
set_option maxRecDepth 100000 in
theorem book_Partition_right_6.calls (k : Nat) (a0_0 : ByteArray) (a0_1 : Int) (a0_2 : Int) (a0_3 : Bool) (r : Bool) (w : World) (h : book_Partition_right_6.f k a0_0 a0_1 a0_2 a0_3 = some r) :
    Calls Tryz.prog 111 #[.agg #[.string a0_0, .int .i64 a0_1, .int .i64 a0_2, .bool a0_3]] w fun e w' => e = .returned (.bool r) ∧ Below w.heap.size w w' := by
 unfold book_Partition_right_6.f at h; have H := Aside0.mk h; clear h; have HB := Aside0.mk (Below.refl w.heap.size w); have hu119 := Tryz.underlying119; go_enter Tryz.func111, Tryz.ntmps111; have BK73 := Aside0.mk (pe_box0 w #[.string a0_0, .int .i64 a0_1, .int .i64 a0_2, .bool a0_3] 119); replace HB := Aside0.mk (below_alloc HB.out (.cells #[.string a0_0, .int .i64 a0_1, .int .i64 a0_2, .bool a0_3] 119)); obtain ⟨t140, q74, H1⟩ := a0b H; clear H; have H := H1; clear H1; go_wp2_with fail; (with_reducible refine (book_Name.calls k a0_0 t140 _  q74.out).mono ?_); clear q74; (rintro e w75 ⟨rfl, hd⟩); have hb := hd.below; clear hd; replace HB := Aside0.mk (below_step HB.out hb); replace BK73 := Aside0.mk (blk_below BK73.out hb); clear hb; have Z73 := blk4 BK73.out; by_cases c76 : t140 = true
 · replace H := a0p c76 H; subst c76; obtain ⟨t141, q77, H1⟩ := a0b H; clear H; have H := H1; clear H1; go_wp2_with fail; (with_reducible refine (book_within.calls a0_1 1 32 t141 _  q77.out).mono ?_); clear q77; (rintro e w78 ⟨rfl, hd⟩); have hb := hd.below; clear hd; replace HB := Aside0.mk (below_step HB.out hb); replace BK73 := Aside0.mk (blk_below BK73.out hb); clear hb
   try clear Z73
   have Z73 := blk4 BK73.out; by_cases c79 : t141 = true
   · replace H := a0p c79 H; subst c79; obtain ⟨t142, q80, H1⟩ := a0b H; clear H; have H := H1; clear H1; go_wp2_with fail; (with_reducible refine (book_within.calls a0_2 1 32 t142 _  q80.out).mono ?_); clear q80; (rintro e w81 ⟨rfl, hd⟩); have hb := hd.below; clear hd; replace HB := Aside0.mk (below_step HB.out hb); replace BK73 := Aside0.mk (blk_below BK73.out hb); clear hb
     try clear Z73
     have Z73 := blk4 BK73.out; obtain rfl := Option.some.inj H.out; go_wp2; go_ret; exact ⟨by first | rfl | (simp; done) | (simp [*]; done), HB.out⟩
   · replace H := a0n c79 H; replace c79 := Bool.eq_false_iff.mpr c79; subst c79; obtain rfl := Option.some.inj H.out; go_wp2; go_ret; exact ⟨by first | rfl | (simp; done) | (simp [*]; done), HB.out⟩
 · replace H := a0n c76 H; replace c76 := Bool.eq_false_iff.mpr c76; subst c76; obtain rfl := Option.some.inj H.out; go_wp2; go_ret; exact ⟨by first | rfl | (simp; done) | (simp [*]; done), HB.out⟩

-- NOT PRINTED: function 151 (book_Port_1)

/-! ### book_Partition_right_7: function 113 -/
def book_Partition_right_7.f (k : Nat) (a0_0 : ByteArray) (a0_1 : Bool) (a0_2 : Bool) (a0_3 : Int) (a0_4 : Int) (a0_5 : Int) : Option (Bool) := (book_Name.f k a0_0).bind fun t145 => (if t145 = true then ((book_within.f a0_3 1 32).bind fun t146 => (if t146 = true then ((book_within.f a0_4 0 32).bind fun t147 => (if t147 = true then ((book_within.f a0_5 0 1048576).bind fun t148 => (some t148)) else (some false))) else (some false))) else (some false))
theorem book_Partition_right_7.mono : ∀ a0 a1 a2 a3 a4 a5 k, LeO (book_Partition_right_7.f k a0 a1 a2 a3 a4 a5) (book_Partition_right_7.f (k + 1) a0 a1 a2 a3 a4 a5) := by
  intro a0 a1 a2 a3 a4 a5 k
  unfold book_Partition_right_7.f
  repeat' first | (with_reducible apply book_Name.mono) | (with_reducible exact LeO.refl _) | (with_reducible exact LeO.none _) | (with_reducible refine LeO.ite ?_ ?_) | (with_reducible refine LeO.bind ?_ (fun _ => ?_)) | apply LeO.none | apply LeO.ite | (refine LeO.bind ?_ (fun _ => ?_))
set_option maxHeartbeats 8000000 in
set_option maxRecDepth 100000 in
theorem book_Partition_right_7.calls (k : Nat) (a0_0 : ByteArray) (a0_1 : Bool) (a0_2 : Bool) (a0_3 : Int) (a0_4 : Int) (a0_5 : Int) (r : Bool) (w : World) (h : book_Partition_right_7.f k a0_0 a0_1 a0_2 a0_3 a0_4 a0_5 = some r) :
    Calls Tryz.prog 113 #[.agg #[.string a0_0, .bool a0_1, .bool a0_2, .int .i64 a0_3, .int .i64 a0_4, .int .i64 a0_5]] w fun e w' => e = .returned (.bool r) ∧ Below w.heap.size w w' := by
 unfold book_Partition_right_7.f at h; have H := Aside0.mk h; clear h; have HB := Aside0.mk (Below.refl w.heap.size w); have hu60 := Tryz.underlying60; go_enter Tryz.func113, Tryz.ntmps113; have BK82 := Aside0.mk (pe_box0 w #[.string a0_0, .bool a0_1, .bool a0_2, .int .i64 a0_3, .int .i64 a0_4, .int .i64 a0_5] 60); replace HB := Aside0.mk (below_alloc HB.out (.cells #[.string a0_0, .bool a0_1, .bool a0_2, .int .i64 a0_3, .int .i64 a0_4, .int .i64 a0_5] 60)); obtain ⟨t145, q83, H1⟩ := a0b H; clear H; have H := H1; clear H1; go_wp2_with fail; (with_reducible refine (book_Name.calls k a0_0 t145 _  q83.out).mono ?_); clear q83; (rintro e w84 ⟨rfl, hd⟩); have hb := hd.below; clear hd; replace HB := Aside0.mk (below_step HB.out hb); replace BK82 := Aside0.mk (blk_below BK82.out hb); clear hb; have Z82 := blk6 BK82.out; by_cases c85 : t145 = true
 · replace H := a0p c85 H; subst c85; obtain ⟨t146, q86, H1⟩ := a0b H; clear H; have H := H1; clear H1; go_wp2_with fail; (with_reducible refine (book_within.calls a0_3 1 32 t146 _  q86.out).mono ?_); clear q86; (rintro e w87 ⟨rfl, hd⟩); have hb := hd.below; clear hd; replace HB := Aside0.mk (below_step HB.out hb); replace BK82 := Aside0.mk (blk_below BK82.out hb); clear hb
   try clear Z82
   have Z82 := blk6 BK82.out; by_cases c88 : t146 = true
   · replace H := a0p c88 H; subst c88; obtain ⟨t147, q89, H1⟩ := a0b H; clear H; have H := H1; clear H1; go_wp2_with fail; (with_reducible refine (book_within.calls a0_4 0 32 t147 _  q89.out).mono ?_); clear q89; (rintro e w90 ⟨rfl, hd⟩); have hb := hd.below; clear hd; replace HB := Aside0.mk (below_step HB.out hb); replace BK82 := Aside0.mk (blk_below BK82.out hb); clear hb
     try clear Z82
     have Z82 := blk6 BK82.out; by_cases c91 : t147 = true
     · replace H := a0p c91 H; subst c91; obtain ⟨t148, q92, H1⟩ := a0b H; clear H; have H := H1; clear H1; go_wp2_with fail; (with_reducible refine (book_within.calls a0_5 0 1048576 t148 _  q92.out).mono ?_); clear q92; (rintro e w93 ⟨rfl, hd⟩); have hb := hd.below; clear hd; replace HB := Aside0.mk (below_step HB.out hb); replace BK82 := Aside0.mk (blk_below BK82.out hb); clear hb
       try clear Z82
       have Z82 := blk6 BK82.out; obtain rfl := Option.some.inj H.out; go_wp2; go_ret; exact ⟨by first | rfl | (simp; done) | (simp [*]; done), HB.out⟩
     · replace H := a0n c91 H; replace c91 := Bool.eq_false_iff.mpr c91; subst c91; obtain rfl := Option.some.inj H.out; go_wp2; go_ret; exact ⟨by first | rfl | (simp; done) | (simp [*]; done), HB.out⟩
   · replace H := a0n c88 H; replace c88 := Bool.eq_false_iff.mpr c88; subst c88; obtain rfl := Option.some.inj H.out; go_wp2; go_ret; exact ⟨by first | rfl | (simp; done) | (simp [*]; done), HB.out⟩
 · replace H := a0n c85 H; replace c85 := Bool.eq_false_iff.mpr c85; subst c85; obtain rfl := Option.some.inj H.out; go_wp2; go_ret; exact ⟨by first | rfl | (simp; done) | (simp [*]; done), HB.out⟩

/-! ### book_Area_98__99: function 98 at book_Partition_right_1 -/
def book_Area_98__99.f (k : Nat) (l : List (S62)) (n : Int) : Option (Bool) := if (l.length : Int) ≤ n then (if l.length ≤ 140737488351232 then (allO (fun x => book_Partition_right_1.f k (x.f0) (x.f1) (x.f2) (x.f3) (x.f4) (x.f5)) l) else none) else (some false)
theorem book_Area_98__99.mono : ∀ a0 a1 k, LeO (book_Area_98__99.f k a0 a1) (book_Area_98__99.f (k + 1) a0 a1) := by
 intro a0 a1 k
 unfold book_Area_98__99.f
 exact LeO.ite (LeO.ite (allO_mono (fun x => book_Partition_right_1.mono _ _ _ _ _ _ k) a0) (LeO.refl _)) (LeO.refl _)
set_option maxHeartbeats 800000 in
set_option maxRecDepth 100000 in
theorem book_Area_98__99.c1 (k : Nat) (x : S62) (r : Bool) (g : Nat) (w : World) (hg : w.cell? ⟨g, 0, none⟩ = some (.func (.func 99) #[] #[])) (h : book_Partition_right_1.f k (x.f0) (x.f1) (x.f2) (x.f3) (x.f4) (x.f5) = some r) :
  Calls Tryz.prog 137 #[.agg #[.string (x.f0), .int .i64 (x.f1), .int .i64 (x.f2), .bool (x.f3), .bool (x.f4), .bool (x.f5)], .pointer (some ⟨g, 0, none⟩)] w fun e w' => e = .returned (.bool (!r)) ∧ Below w.heap.size w w' := by
 have hgl := World.block_lt_of_cell? w _ hg
 have HH := Aside0.mk h
 clear h
 have hgw : (w.alloc (.cells #[.string (x.f0), .int .i64 (x.f1), .int .i64 (x.f2), .bool (x.f3), .bool (x.f4), .bool (x.f5)] 62)).cell? ⟨g, 0, none⟩ = some (.func (.func 99) #[] #[]) := ((alloc_below0 w _).cell hgl).trans hg
 go_enter Tryz.func137, Tryz.ntmps137
 go_wp2_with fail
 refine (book_Partition_right_1.calls k (x.f0) (x.f1) (x.f2) (x.f3) (x.f4) (x.f5) r _ HH.out).mono ?_
 rintro e w' ⟨rfl, hb⟩
 go_wp2
 go_ret
 exact ⟨by simp, below_step (alloc_below0 w _) hb⟩
set_option maxHeartbeats 2000000 in
set_option maxRecDepth 100000 in
theorem book_Area_98__99.c2 (k : Nat) (A0 : Option Addr) (c0 : Nat) (l : List (S62)) (r : Bool) (g : Nat) (w : World) (hr0 : Kd.C k62 w A0 l.length l) (hL : l.length ≤ 140737488351232) (hg : w.cell? ⟨g, 0, none⟩ = some (.func (.func 99) #[] #[])) (h : allO (fun x => book_Partition_right_1.f k (x.f0) (x.f1) (x.f2) (x.f3) (x.f4) (x.f5)) l = some r) :
  Calls Tryz.prog 159 #[.slice A0 l.length c0, .func (.func 137) #[] #[.pointer (some ⟨g, 0, none⟩)]] w fun e w' => (∃ q : Int, e = .returned (.int .i64 q) ∧ Hid (decide (0 ≤ q) = !r)) ∧ Below w.heap.size w w' := by
 have hgl := World.block_lt_of_cell? w _ hg
 have HR0 := Aside0.mk hr0
 have HG := Aside0.mk hg
 have H0 : Aside0 (allO (fun x => book_Partition_right_1.f k (x.f0) (x.f1) (x.f2) (x.f3) (x.f4) (x.f5)) (l.drop 0) = some r) := ⟨by simpa using h⟩
 clear hr0 hg h
 go_enter Tryz.func159, Tryz.ntmps159
 go_wp2
 go_loopw [8] (fun v8 wr => ∃ j : Nat, v8 = .int .i64 (j : Int) ∧ j ≤ l.length ∧ Aside0 (allO (fun x => book_Partition_right_1.f k (x.f0) (x.f1) (x.f2) (x.f3) (x.f4) (x.f5)) (l.drop j) = some r) ∧ Aside0 (Below w.heap.size w wr)) (fun v8 _ => l.length - (intOf v8).toNat)
 case atStart => exact ⟨0, rfl, Nat.zero_le _, H0, ⟨Below.refl _ _⟩⟩
 case round =>
  clear H0
  obtain ⟨j, rfl, hj, HA, HB⟩ := hrel
  by_cases hlt : j < l.length
  ·
   have p7 : (0 : Int) ≤ (j : Int) := by omega
   have q7 : (j : Int) < (l.length : Int) := by omega
   obtain ⟨b, hb1, hb2, hb3⟩ := allO_cons hlt HA.out
   have HB1 := Aside0.mk hb1
   have HB2 := Aside0.mk hb2
   have HB3 := Aside0.mk hb3
   clear hb1 hb2 hb3
   obtain ⟨ad7, e7, hx7_0, hx7_1, hx7_2, hx7_3, hx7_4, hx7_5⟩ := at_T62 HR0.out (j : Int) p7 q7
   cases e7
   replace hx7_0 := (HB.out.cell (World.block_lt_of_cell? w _ hx7_0)).trans hx7_0
   replace hx7_1 := (HB.out.cell (World.block_lt_of_cell? w _ hx7_1)).trans hx7_1
   replace hx7_2 := (HB.out.cell (World.block_lt_of_cell? w _ hx7_2)).trans hx7_2
   replace hx7_3 := (HB.out.cell (World.block_lt_of_cell? w _ hx7_3)).trans hx7_3
   replace hx7_4 := (HB.out.cell (World.block_lt_of_cell? w _ hx7_4)).trans hx7_4
   replace hx7_5 := (HB.out.cell (World.block_lt_of_cell? w _ hx7_5)).trans hx7_5
   have EX : Aside0 (rd_T62 l (j : Int) = l[j]) := ⟨by show l.getD _ _ = _; rw [Int.toNat_natCast, List.getD_eq_getElem?_getD, List.getElem?_eq_getElem hlt, Option.getD_some]⟩
   clear p7 q7
   generalize rd_T62 l (j : Int) = x at *
   have HC : Aside0 (book_Partition_right_1.f k (x.f0) (x.f1) (x.f2) (x.f3) (x.f4) (x.f5) = some b) := ⟨by rw [EX.out]; exact HB1.out⟩
   clear HB1 EX
   simp only [Int.toNat_natCast] at *
   go_wp2_with fail
   refine (book_Area_98__99.c1 k x b g wr ((HB.out.cell hgl).trans HG.out) HC.out).mono ?_
   rintro e w9 ⟨rfl, hb⟩
   have HB9 : Aside0 (Below w.heap.size w w9) := ⟨below_step HB.out hb⟩
   clear hb HB
   cases b with
   | true =>
    go_wp2
    go_roundw
    case rel => exact ⟨j + 1, by go_num, by omega, ⟨HB2.out (by simp)⟩, HB9⟩
    case measure => simp [intOf]; omega
   | false =>
    go_wp2
    go_ret
    exact ⟨⟨_, rfl, by rw [HB3.out (by simp)]; show _ = _; simp⟩, HB9.out⟩
  ·
   obtain rfl : j = l.length := by omega
   have hr : r = true := by have := HA.out; rw [List.drop_length] at this; simpa [allO] using this.symm
   subst hr
   go_wp2
   go_ret
   exact ⟨⟨_, rfl, by show _ = _; simp⟩, HB.out⟩
set_option maxHeartbeats 800000 in
theorem book_Area_98__99.c3 (k : Nat) (A0 : Option Addr) (c0 : Nat) (l : List (S62)) (r : Bool) (g : Nat) (w : World) (hr0 : Kd.C k62 w A0 l.length l) (hL : l.length ≤ 140737488351232) (hg : w.cell? ⟨g, 0, none⟩ = some (.func (.func 99) #[] #[])) (h : allO (fun x => book_Partition_right_1.f k (x.f0) (x.f1) (x.f2) (x.f3) (x.f4) (x.f5)) l = some r) :
  Calls Tryz.prog 136 #[.slice A0 l.length c0, .func (.func 137) #[] #[.pointer (some ⟨g, 0, none⟩)]] w fun e w' => e = .returned (.bool (!r)) ∧ Below w.heap.size w w' := by
 have HC := book_Area_98__99.c2 k A0 c0 l r g w hr0 hL hg h
 clear hr0 hg h
 go_enter Tryz.func136, Tryz.ntmps136
 go_wp2_with fail
 refine HC.mono ?_
 clear HC
 rintro e w' ⟨⟨q, rfl, hq⟩, hb⟩
 go_wp2
 go_ret
 exact ⟨by rw [← hq.out]; rfl, hb⟩
set_option maxHeartbeats 800000 in
theorem book_Area_98__99.calls (k : Nat) (A0 : Option Addr) (c0 : Nat) (l0 : List (S62)) (a1 : Int) (r : Bool) (w : World) (hr0 : Kd.C k62 w A0 l0.length l0) (hc0 : l0.length ≤ c0) (h : book_Area_98__99.f k l0 a1 = some r) :
  Calls Tryz.prog 98 #[.slice A0 l0.length c0, .int .i64 a1, .func (.func 99) #[] #[]] w fun e w' => e = .returned (.bool r) ∧ Below w.heap.size w w' := by
 unfold book_Area_98__99.f at h
 have HR := Aside0.mk hr0
 clear hr0
 have hbw : Below w.heap.size w (w.alloc (.cells #[.func (.func 99) #[] #[]] 153)) := alloc_below0 w _
 by_cases hle : (l0.length : Int) ≤ a1
 ·
  rw [if_pos hle] at h
  obtain ⟨hL, h2⟩ := if_some h
  clear h
  have h := h2
  clear h2
  have hd : decide ((l0.length : Int) ≤ a1) = true := decide_eq_true hle
  have HC := book_Area_98__99.c3 k A0 c0 l0 r w.heap.size (w.alloc (.cells #[.func (.func 99) #[] #[]] 153)) (Kd.C_alloc HR.out _) hL (by simp) h
  have HB := Aside0.mk hbw
  clear h hle hbw
  go_enter Tryz.func98, Tryz.ntmps98
  go_wp2_with fail
  refine HC.mono ?_
  clear HC
  rintro e w' ⟨rfl, hb⟩
  go_wp2
  go_ret
  exact ⟨by simp, below_step HB.out hb⟩
 ·
  rw [if_neg hle] at h
  obtain rfl := Option.some.inj h
  have hd : decide ((l0.length : Int) ≤ a1) = false := decide_eq_false hle
  clear h hle
  go_enter Tryz.func98, Tryz.ntmps98
  go_wp2
  go_ret
  exact ⟨rfl, hbw⟩

/-! ### book_Task_100__101: function 100 at book_Task_right -/
def book_Task_100__101.f (k : Nat) (l : List (S109)) (n : Int) : Option (Bool) := if (l.length : Int) ≤ n then (if l.length ≤ 140737488351232 then (allO (fun x => book_Task_right.f k (x.f0) (x.f1) (x.f2) (x.f3) (x.f4) (x.f5) (x.f6) (x.f7)) l) else none) else (some false)
theorem book_Task_100__101.mono : ∀ a0 a1 k, LeO (book_Task_100__101.f k a0 a1) (book_Task_100__101.f (k + 1) a0 a1) := by
 intro a0 a1 k
 unfold book_Task_100__101.f
 exact LeO.ite (LeO.ite (allO_mono (fun x => book_Task_right.mono _ _ _ _ _ _ _ _ k) a0) (LeO.refl _)) (LeO.refl _)
set_option maxHeartbeats 800000 in
set_option maxRecDepth 100000 in
theorem book_Task_100__101.c1 (k : Nat) (x : S109) (r : Bool) (g : Nat) (w : World) (hg : w.cell? ⟨g, 0, none⟩ = some (.func (.func 101) #[] #[])) (h : book_Task_right.f k (x.f0) (x.f1) (x.f2) (x.f3) (x.f4) (x.f5) (x.f6) (x.f7) = some r) :
  Calls Tryz.prog 139 #[.agg #[.string (x.f0), .int .i64 (x.f1), .int .i64 (x.f2), .int .i64 (x.f3), .int .i64 (x.f4), .int .i64 (x.f5), .int .i64 (x.f6), .int .i64 (x.f7)], .pointer (some ⟨g, 0, none⟩)] w fun e w' => e = .returned (.bool (!r)) ∧ Below w.heap.size w w' := by
 have hgl := World.block_lt_of_cell? w _ hg
 have HH := Aside0.mk h
 clear h
 have hgw : (w.alloc (.cells #[.string (x.f0), .int .i64 (x.f1), .int .i64 (x.f2), .int .i64 (x.f3), .int .i64 (x.f4), .int .i64 (x.f5), .int .i64 (x.f6), .int .i64 (x.f7)] 109)).cell? ⟨g, 0, none⟩ = some (.func (.func 101) #[] #[]) := ((alloc_below0 w _).cell hgl).trans hg
 go_enter Tryz.func139, Tryz.ntmps139
 go_wp2_with fail
 refine (book_Task_right.calls k (x.f0) (x.f1) (x.f2) (x.f3) (x.f4) (x.f5) (x.f6) (x.f7) r _ HH.out).mono ?_
 rintro e w' ⟨rfl, hb⟩
 go_wp2
 go_ret
 exact ⟨by simp, below_step (alloc_below0 w _) hb⟩
set_option maxHeartbeats 2000000 in
set_option maxRecDepth 100000 in
theorem book_Task_100__101.c2 (k : Nat) (A0 : Option Addr) (c0 : Nat) (l : List (S109)) (r : Bool) (g : Nat) (w : World) (hr0 : Kd.C k109 w A0 l.length l) (hL : l.length ≤ 140737488351232) (hg : w.cell? ⟨g, 0, none⟩ = some (.func (.func 101) #[] #[])) (h : allO (fun x => book_Task_right.f k (x.f0) (x.f1) (x.f2) (x.f3) (x.f4) (x.f5) (x.f6) (x.f7)) l = some r) :
  Calls Tryz.prog 160 #[.slice A0 l.length c0, .func (.func 139) #[] #[.pointer (some ⟨g, 0, none⟩)]] w fun e w' => (∃ q : Int, e = .returned (.int .i64 q) ∧ Hid (decide (0 ≤ q) = !r)) ∧ Below w.heap.size w w' := by
 have hgl := World.block_lt_of_cell? w _ hg
 have HR0 := Aside0.mk hr0
 have HG := Aside0.mk hg
 have H0 : Aside0 (allO (fun x => book_Task_right.f k (x.f0) (x.f1) (x.f2) (x.f3) (x.f4) (x.f5) (x.f6) (x.f7)) (l.drop 0) = some r) := ⟨by simpa using h⟩
 clear hr0 hg h
 go_enter Tryz.func160, Tryz.ntmps160
 go_wp2
 go_loopw [8] (fun v8 wr => ∃ j : Nat, v8 = .int .i64 (j : Int) ∧ j ≤ l.length ∧ Aside0 (allO (fun x => book_Task_right.f k (x.f0) (x.f1) (x.f2) (x.f3) (x.f4) (x.f5) (x.f6) (x.f7)) (l.drop j) = some r) ∧ Aside0 (Below w.heap.size w wr)) (fun v8 _ => l.length - (intOf v8).toNat)
 case atStart => exact ⟨0, rfl, Nat.zero_le _, H0, ⟨Below.refl _ _⟩⟩
 case round =>
  clear H0
  obtain ⟨j, rfl, hj, HA, HB⟩ := hrel
  by_cases hlt : j < l.length
  ·
   have p7 : (0 : Int) ≤ (j : Int) := by omega
   have q7 : (j : Int) < (l.length : Int) := by omega
   obtain ⟨b, hb1, hb2, hb3⟩ := allO_cons hlt HA.out
   have HB1 := Aside0.mk hb1
   have HB2 := Aside0.mk hb2
   have HB3 := Aside0.mk hb3
   clear hb1 hb2 hb3
   obtain ⟨ad7, e7, hx7_0, hx7_1, hx7_2, hx7_3, hx7_4, hx7_5, hx7_6, hx7_7⟩ := at_T109 HR0.out (j : Int) p7 q7
   cases e7
   replace hx7_0 := (HB.out.cell (World.block_lt_of_cell? w _ hx7_0)).trans hx7_0
   replace hx7_1 := (HB.out.cell (World.block_lt_of_cell? w _ hx7_1)).trans hx7_1
   replace hx7_2 := (HB.out.cell (World.block_lt_of_cell? w _ hx7_2)).trans hx7_2
   replace hx7_3 := (HB.out.cell (World.block_lt_of_cell? w _ hx7_3)).trans hx7_3
   replace hx7_4 := (HB.out.cell (World.block_lt_of_cell? w _ hx7_4)).trans hx7_4
   replace hx7_5 := (HB.out.cell (World.block_lt_of_cell? w _ hx7_5)).trans hx7_5
   replace hx7_6 := (HB.out.cell (World.block_lt_of_cell? w _ hx7_6)).trans hx7_6
   replace hx7_7 := (HB.out.cell (World.block_lt_of_cell? w _ hx7_7)).trans hx7_7
   have EX : Aside0 (rd_T109 l (j : Int) = l[j]) := ⟨by show l.getD _ _ = _; rw [Int.toNat_natCast, List.getD_eq_getElem?_getD, List.getElem?_eq_getElem hlt, Option.getD_some]⟩
   clear p7 q7
   generalize rd_T109 l (j : Int) = x at *
   have HC : Aside0 (book_Task_right.f k (x.f0) (x.f1) (x.f2) (x.f3) (x.f4) (x.f5) (x.f6) (x.f7) = some b) := ⟨by rw [EX.out]; exact HB1.out⟩
   clear HB1 EX
   simp only [Int.toNat_natCast] at *
   go_wp2_with fail
   refine (book_Task_100__101.c1 k x b g wr ((HB.out.cell hgl).trans HG.out) HC.out).mono ?_
   rintro e w9 ⟨rfl, hb⟩
   have HB9 : Aside0 (Below w.heap.size w w9) := ⟨below_step HB.out hb⟩
   clear hb HB
   cases b with
   | true =>
    go_wp2
    go_roundw
    case rel => exact ⟨j + 1, by go_num, by omega, ⟨HB2.out (by simp)⟩, HB9⟩
    case measure => simp [intOf]; omega
   | false =>
    go_wp2
    go_ret
    exact ⟨⟨_, rfl, by rw [HB3.out (by simp)]; show _ = _; simp⟩, HB9.out⟩
  ·
   obtain rfl : j = l.length := by omega
   have hr : r = true := by have := HA.out; rw [List.drop_length] at this; simpa [allO] using this.symm
   subst hr
   go_wp2
   go_ret
   exact ⟨⟨_, rfl, by show _ = _; simp⟩, HB.out⟩
set_option maxHeartbeats 800000 in
theorem book_Task_100__101.c3 (k : Nat) (A0 : Option Addr) (c0 : Nat) (l : List (S109)) (r : Bool) (g : Nat) (w : World) (hr0 : Kd.C k109 w A0 l.length l) (hL : l.length ≤ 140737488351232) (hg : w.cell? ⟨g, 0, none⟩ = some (.func (.func 101) #[] #[])) (h : allO (fun x => book_Task_right.f k (x.f0) (x.f1) (x.f2) (x.f3) (x.f4) (x.f5) (x.f6) (x.f7)) l = some r) :
  Calls Tryz.prog 138 #[.slice A0 l.length c0, .func (.func 139) #[] #[.pointer (some ⟨g, 0, none⟩)]] w fun e w' => e = .returned (.bool (!r)) ∧ Below w.heap.size w w' := by
 have HC := book_Task_100__101.c2 k A0 c0 l r g w hr0 hL hg h
 clear hr0 hg h
 go_enter Tryz.func138, Tryz.ntmps138
 go_wp2_with fail
 refine HC.mono ?_
 clear HC
 rintro e w' ⟨⟨q, rfl, hq⟩, hb⟩
 go_wp2
 go_ret
 exact ⟨by rw [← hq.out]; rfl, hb⟩
set_option maxHeartbeats 800000 in
theorem book_Task_100__101.calls (k : Nat) (A0 : Option Addr) (c0 : Nat) (l0 : List (S109)) (a1 : Int) (r : Bool) (w : World) (hr0 : Kd.C k109 w A0 l0.length l0) (hc0 : l0.length ≤ c0) (h : book_Task_100__101.f k l0 a1 = some r) :
  Calls Tryz.prog 100 #[.slice A0 l0.length c0, .int .i64 a1, .func (.func 101) #[] #[]] w fun e w' => e = .returned (.bool r) ∧ Below w.heap.size w w' := by
 unfold book_Task_100__101.f at h
 have HR := Aside0.mk hr0
 clear hr0
 have hbw : Below w.heap.size w (w.alloc (.cells #[.func (.func 101) #[] #[]] 155)) := alloc_below0 w _
 by_cases hle : (l0.length : Int) ≤ a1
 ·
  rw [if_pos hle] at h
  obtain ⟨hL, h2⟩ := if_some h
  clear h
  have h := h2
  clear h2
  have hd : decide ((l0.length : Int) ≤ a1) = true := decide_eq_true hle
  have HC := book_Task_100__101.c3 k A0 c0 l0 r w.heap.size (w.alloc (.cells #[.func (.func 101) #[] #[]] 155)) (Kd.C_alloc HR.out _) hL (by simp) h
  have HB := Aside0.mk hbw
  clear h hle hbw
  go_enter Tryz.func100, Tryz.ntmps100
  go_wp2_with fail
  refine HC.mono ?_
  clear HC
  rintro e w' ⟨rfl, hb⟩
  go_wp2
  go_ret
  exact ⟨by simp, below_step HB.out hb⟩
 ·
  rw [if_neg hle] at h
  obtain rfl := Option.some.inj h
  have hd : decide ((l0.length : Int) ≤ a1) = false := decide_eq_false hle
  clear h hle
  go_enter Tryz.func100, Tryz.ntmps100
  go_wp2
  go_ret
  exact ⟨rfl, hbw⟩

/-! ### book_Lock_102__103: function 102 at book_Partition_right_2 -/
def book_Lock_102__103.f (k : Nat) (l : List (S111)) (n : Int) : Option (Bool) := if (l.length : Int) ≤ n then (if l.length ≤ 140737488351232 then (allO (fun x => book_Partition_right_2.f k (x.f0) (x.f1)) l) else none) else (some false)
theorem book_Lock_102__103.mono : ∀ a0 a1 k, LeO (book_Lock_102__103.f k a0 a1) (book_Lock_102__103.f (k + 1) a0 a1) := by
 intro a0 a1 k
 unfold book_Lock_102__103.f
 exact LeO.ite (LeO.ite (allO_mono (fun x => book_Partition_right_2.mono _ _ k) a0) (LeO.refl _)) (LeO.refl _)
set_option maxHeartbeats 800000 in
set_option maxRecDepth 100000 in
theorem book_Lock_102__103.c1 (k : Nat) (x : S111) (r : Bool) (g : Nat) (w : World) (hg : w.cell? ⟨g, 0, none⟩ = some (.func (.func 103) #[] #[])) (h : book_Partition_right_2.f k (x.f0) (x.f1) = some r) :
  Calls Tryz.prog 141 #[.agg #[.string (x.f0), .int .i64 (x.f1)], .pointer (some ⟨g, 0, none⟩)] w fun e w' => e = .returned (.bool (!r)) ∧ Below w.heap.size w w' := by
 have hgl := World.block_lt_of_cell? w _ hg
 have HH := Aside0.mk h
 clear h
 have hgw : (w.alloc (.cells #[.string (x.f0), .int .i64 (x.f1)] 111)).cell? ⟨g, 0, none⟩ = some (.func (.func 103) #[] #[]) := ((alloc_below0 w _).cell hgl).trans hg
 go_enter Tryz.func141, Tryz.ntmps141
 go_wp2_with fail
 refine (book_Partition_right_2.calls k (x.f0) (x.f1) r _ HH.out).mono ?_
 rintro e w' ⟨rfl, hb⟩
 go_wp2
 go_ret
 exact ⟨by simp, below_step (alloc_below0 w _) hb⟩
set_option maxHeartbeats 2000000 in
set_option maxRecDepth 100000 in
theorem book_Lock_102__103.c2 (k : Nat) (A0 : Option Addr) (c0 : Nat) (l : List (S111)) (r : Bool) (g : Nat) (w : World) (hr0 : Kd.C k111 w A0 l.length l) (hL : l.length ≤ 140737488351232) (hg : w.cell? ⟨g, 0, none⟩ = some (.func (.func 103) #[] #[])) (h : allO (fun x => book_Partition_right_2.f k (x.f0) (x.f1)) l = some r) :
  Calls Tryz.prog 161 #[.slice A0 l.length c0, .func (.func 141) #[] #[.pointer (some ⟨g, 0, none⟩)]] w fun e w' => (∃ q : Int, e = .returned (.int .i64 q) ∧ Hid (decide (0 ≤ q) = !r)) ∧ Below w.heap.size w w' := by
 have hgl := World.block_lt_of_cell? w _ hg
 have HR0 := Aside0.mk hr0
 have HG := Aside0.mk hg
 have H0 : Aside0 (allO (fun x => book_Partition_right_2.f k (x.f0) (x.f1)) (l.drop 0) = some r) := ⟨by simpa using h⟩
 clear hr0 hg h
 go_enter Tryz.func161, Tryz.ntmps161
 go_wp2
 go_loopw [8] (fun v8 wr => ∃ j : Nat, v8 = .int .i64 (j : Int) ∧ j ≤ l.length ∧ Aside0 (allO (fun x => book_Partition_right_2.f k (x.f0) (x.f1)) (l.drop j) = some r) ∧ Aside0 (Below w.heap.size w wr)) (fun v8 _ => l.length - (intOf v8).toNat)
 case atStart => exact ⟨0, rfl, Nat.zero_le _, H0, ⟨Below.refl _ _⟩⟩
 case round =>
  clear H0
  obtain ⟨j, rfl, hj, HA, HB⟩ := hrel
  by_cases hlt : j < l.length
  ·
   have p7 : (0 : Int) ≤ (j : Int) := by omega
   have q7 : (j : Int) < (l.length : Int) := by omega
   obtain ⟨b, hb1, hb2, hb3⟩ := allO_cons hlt HA.out
   have HB1 := Aside0.mk hb1
   have HB2 := Aside0.mk hb2
   have HB3 := Aside0.mk hb3
   clear hb1 hb2 hb3
   obtain ⟨ad7, e7, hx7_0, hx7_1⟩ := at_T111 HR0.out (j : Int) p7 q7
   cases e7
   replace hx7_0 := (HB.out.cell (World.block_lt_of_cell? w _ hx7_0)).trans hx7_0
   replace hx7_1 := (HB.out.cell (World.block_lt_of_cell? w _ hx7_1)).trans hx7_1
   have EX : Aside0 (rd_T111 l (j : Int) = l[j]) := ⟨by show l.getD _ _ = _; rw [Int.toNat_natCast, List.getD_eq_getElem?_getD, List.getElem?_eq_getElem hlt, Option.getD_some]⟩
   clear p7 q7
   generalize rd_T111 l (j : Int) = x at *
   have HC : Aside0 (book_Partition_right_2.f k (x.f0) (x.f1) = some b) := ⟨by rw [EX.out]; exact HB1.out⟩
   clear HB1 EX
   simp only [Int.toNat_natCast] at *
   go_wp2_with fail
   refine (book_Lock_102__103.c1 k x b g wr ((HB.out.cell hgl).trans HG.out) HC.out).mono ?_
   rintro e w9 ⟨rfl, hb⟩
   have HB9 : Aside0 (Below w.heap.size w w9) := ⟨below_step HB.out hb⟩
   clear hb HB
   cases b with
   | true =>
    go_wp2
    go_roundw
    case rel => exact ⟨j + 1, by go_num, by omega, ⟨HB2.out (by simp)⟩, HB9⟩
    case measure => simp [intOf]; omega
   | false =>
    go_wp2
    go_ret
    exact ⟨⟨_, rfl, by rw [HB3.out (by simp)]; show _ = _; simp⟩, HB9.out⟩
  ·
   obtain rfl : j = l.length := by omega
   have hr : r = true := by have := HA.out; rw [List.drop_length] at this; simpa [allO] using this.symm
   subst hr
   go_wp2
   go_ret
   exact ⟨⟨_, rfl, by show _ = _; simp⟩, HB.out⟩
set_option maxHeartbeats 800000 in
theorem book_Lock_102__103.c3 (k : Nat) (A0 : Option Addr) (c0 : Nat) (l : List (S111)) (r : Bool) (g : Nat) (w : World) (hr0 : Kd.C k111 w A0 l.length l) (hL : l.length ≤ 140737488351232) (hg : w.cell? ⟨g, 0, none⟩ = some (.func (.func 103) #[] #[])) (h : allO (fun x => book_Partition_right_2.f k (x.f0) (x.f1)) l = some r) :
  Calls Tryz.prog 140 #[.slice A0 l.length c0, .func (.func 141) #[] #[.pointer (some ⟨g, 0, none⟩)]] w fun e w' => e = .returned (.bool (!r)) ∧ Below w.heap.size w w' := by
 have HC := book_Lock_102__103.c2 k A0 c0 l r g w hr0 hL hg h
 clear hr0 hg h
 go_enter Tryz.func140, Tryz.ntmps140
 go_wp2_with fail
 refine HC.mono ?_
 clear HC
 rintro e w' ⟨⟨q, rfl, hq⟩, hb⟩
 go_wp2
 go_ret
 exact ⟨by rw [← hq.out]; rfl, hb⟩
set_option maxHeartbeats 800000 in
theorem book_Lock_102__103.calls (k : Nat) (A0 : Option Addr) (c0 : Nat) (l0 : List (S111)) (a1 : Int) (r : Bool) (w : World) (hr0 : Kd.C k111 w A0 l0.length l0) (hc0 : l0.length ≤ c0) (h : book_Lock_102__103.f k l0 a1 = some r) :
  Calls Tryz.prog 102 #[.slice A0 l0.length c0, .int .i64 a1, .func (.func 103) #[] #[]] w fun e w' => e = .returned (.bool r) ∧ Below w.heap.size w w' := by
 unfold book_Lock_102__103.f at h
 have HR := Aside0.mk hr0
 clear hr0
 have hbw : Below w.heap.size w (w.alloc (.cells #[.func (.func 103) #[] #[]] 157)) := alloc_below0 w _
 by_cases hle : (l0.length : Int) ≤ a1
 ·
  rw [if_pos hle] at h
  obtain ⟨hL, h2⟩ := if_some h
  clear h
  have h := h2
  clear h2
  have hd : decide ((l0.length : Int) ≤ a1) = true := decide_eq_true hle
  have HC := book_Lock_102__103.c3 k A0 c0 l0 r w.heap.size (w.alloc (.cells #[.func (.func 103) #[] #[]] 157)) (Kd.C_alloc HR.out _) hL (by simp) h
  have HB := Aside0.mk hbw
  clear h hle hbw
  go_enter Tryz.func102, Tryz.ntmps102
  go_wp2_with fail
  refine HC.mono ?_
  clear HC
  rintro e w' ⟨rfl, hb⟩
  go_wp2
  go_ret
  exact ⟨by simp, below_step HB.out hb⟩
 ·
  rw [if_neg hle] at h
  obtain rfl := Option.some.inj h
  have hd : decide ((l0.length : Int) ≤ a1) = false := decide_eq_false hle
  clear h hle
  go_enter Tryz.func102, Tryz.ntmps102
  go_wp2
  go_ret
  exact ⟨rfl, hbw⟩

/-! ### book_Sema_104__105: function 104 at book_Partition_right_3 -/
def book_Sema_104__105.f (k : Nat) (l : List (S113)) (n : Int) : Option (Bool) := if (l.length : Int) ≤ n then (if l.length ≤ 140737488351232 then (allO (fun x => book_Partition_right_3.f k (x.f0) (x.f1) (x.f2) (x.f3)) l) else none) else (some false)
theorem book_Sema_104__105.mono : ∀ a0 a1 k, LeO (book_Sema_104__105.f k a0 a1) (book_Sema_104__105.f (k + 1) a0 a1) := by
 intro a0 a1 k
 unfold book_Sema_104__105.f
 exact LeO.ite (LeO.ite (allO_mono (fun x => book_Partition_right_3.mono _ _ _ _ k) a0) (LeO.refl _)) (LeO.refl _)
set_option maxHeartbeats 800000 in
set_option maxRecDepth 100000 in
theorem book_Sema_104__105.c1 (k : Nat) (x : S113) (r : Bool) (g : Nat) (w : World) (hg : w.cell? ⟨g, 0, none⟩ = some (.func (.func 105) #[] #[])) (h : book_Partition_right_3.f k (x.f0) (x.f1) (x.f2) (x.f3) = some r) :
  Calls Tryz.prog 143 #[.agg #[.string (x.f0), .int .i64 (x.f1), .int .i64 (x.f2), .bool (x.f3)], .pointer (some ⟨g, 0, none⟩)] w fun e w' => e = .returned (.bool (!r)) ∧ Below w.heap.size w w' := by
 have hgl := World.block_lt_of_cell? w _ hg
 have HH := Aside0.mk h
 clear h
 have hgw : (w.alloc (.cells #[.string (x.f0), .int .i64 (x.f1), .int .i64 (x.f2), .bool (x.f3)] 113)).cell? ⟨g, 0, none⟩ = some (.func (.func 105) #[] #[]) := ((alloc_below0 w _).cell hgl).trans hg
 go_enter Tryz.func143, Tryz.ntmps143
 go_wp2_with fail
 refine (book_Partition_right_3.calls k (x.f0) (x.f1) (x.f2) (x.f3) r _ HH.out).mono ?_
 rintro e w' ⟨rfl, hb⟩
 go_wp2
 go_ret
 exact ⟨by simp, below_step (alloc_below0 w _) hb⟩
set_option maxHeartbeats 2000000 in
set_option maxRecDepth 100000 in
theorem book_Sema_104__105.c2 (k : Nat) (A0 : Option Addr) (c0 : Nat) (l : List (S113)) (r : Bool) (g : Nat) (w : World) (hr0 : Kd.C k113 w A0 l.length l) (hL : l.length ≤ 140737488351232) (hg : w.cell? ⟨g, 0, none⟩ = some (.func (.func 105) #[] #[])) (h : allO (fun x => book_Partition_right_3.f k (x.f0) (x.f1) (x.f2) (x.f3)) l = some r) :
  Calls Tryz.prog 162 #[.slice A0 l.length c0, .func (.func 143) #[] #[.pointer (some ⟨g, 0, none⟩)]] w fun e w' => (∃ q : Int, e = .returned (.int .i64 q) ∧ Hid (decide (0 ≤ q) = !r)) ∧ Below w.heap.size w w' := by
 have hgl := World.block_lt_of_cell? w _ hg
 have HR0 := Aside0.mk hr0
 have HG := Aside0.mk hg
 have H0 : Aside0 (allO (fun x => book_Partition_right_3.f k (x.f0) (x.f1) (x.f2) (x.f3)) (l.drop 0) = some r) := ⟨by simpa using h⟩
 clear hr0 hg h
 go_enter Tryz.func162, Tryz.ntmps162
 go_wp2
 go_loopw [8] (fun v8 wr => ∃ j : Nat, v8 = .int .i64 (j : Int) ∧ j ≤ l.length ∧ Aside0 (allO (fun x => book_Partition_right_3.f k (x.f0) (x.f1) (x.f2) (x.f3)) (l.drop j) = some r) ∧ Aside0 (Below w.heap.size w wr)) (fun v8 _ => l.length - (intOf v8).toNat)
 case atStart => exact ⟨0, rfl, Nat.zero_le _, H0, ⟨Below.refl _ _⟩⟩
 case round =>
  clear H0
  obtain ⟨j, rfl, hj, HA, HB⟩ := hrel
  by_cases hlt : j < l.length
  ·
   have p7 : (0 : Int) ≤ (j : Int) := by omega
   have q7 : (j : Int) < (l.length : Int) := by omega
   obtain ⟨b, hb1, hb2, hb3⟩ := allO_cons hlt HA.out
   have HB1 := Aside0.mk hb1
   have HB2 := Aside0.mk hb2
   have HB3 := Aside0.mk hb3
   clear hb1 hb2 hb3
   obtain ⟨ad7, e7, hx7_0, hx7_1, hx7_2, hx7_3⟩ := at_T113 HR0.out (j : Int) p7 q7
   cases e7
   replace hx7_0 := (HB.out.cell (World.block_lt_of_cell? w _ hx7_0)).trans hx7_0
   replace hx7_1 := (HB.out.cell (World.block_lt_of_cell? w _ hx7_1)).trans hx7_1
   replace hx7_2 := (HB.out.cell (World.block_lt_of_cell? w _ hx7_2)).trans hx7_2
   replace hx7_3 := (HB.out.cell (World.block_lt_of_cell? w _ hx7_3)).trans hx7_3
   have EX : Aside0 (rd_T113 l (j : Int) = l[j]) := ⟨by show l.getD _ _ = _; rw [Int.toNat_natCast, List.getD_eq_getElem?_getD, List.getElem?_eq_getElem hlt, Option.getD_some]⟩
   clear p7 q7
   generalize rd_T113 l (j : Int) = x at *
   have HC : Aside0 (book_Partition_right_3.f k (x.f0) (x.f1) (x.f2) (x.f3) = some b) := ⟨by rw [EX.out]; exact HB1.out⟩
   clear HB1 EX
   simp only [Int.toNat_natCast] at *
   go_wp2_with fail
   refine (book_Sema_104__105.c1 k x b g wr ((HB.out.cell hgl).trans HG.out) HC.out).mono ?_
   rintro e w9 ⟨rfl, hb⟩
   have HB9 : Aside0 (Below w.heap.size w w9) := ⟨below_step HB.out hb⟩
   clear hb HB
   cases b with
   | true =>
    go_wp2
    go_roundw
    case rel => exact ⟨j + 1, by go_num, by omega, ⟨HB2.out (by simp)⟩, HB9⟩
    case measure => simp [intOf]; omega
   | false =>
    go_wp2
    go_ret
    exact ⟨⟨_, rfl, by rw [HB3.out (by simp)]; show _ = _; simp⟩, HB9.out⟩
  ·
   obtain rfl : j = l.length := by omega
   have hr : r = true := by have := HA.out; rw [List.drop_length] at this; simpa [allO] using this.symm
   subst hr
   go_wp2
   go_ret
   exact ⟨⟨_, rfl, by show _ = _; simp⟩, HB.out⟩
set_option maxHeartbeats 800000 in
theorem book_Sema_104__105.c3 (k : Nat) (A0 : Option Addr) (c0 : Nat) (l : List (S113)) (r : Bool) (g : Nat) (w : World) (hr0 : Kd.C k113 w A0 l.length l) (hL : l.length ≤ 140737488351232) (hg : w.cell? ⟨g, 0, none⟩ = some (.func (.func 105) #[] #[])) (h : allO (fun x => book_Partition_right_3.f k (x.f0) (x.f1) (x.f2) (x.f3)) l = some r) :
  Calls Tryz.prog 142 #[.slice A0 l.length c0, .func (.func 143) #[] #[.pointer (some ⟨g, 0, none⟩)]] w fun e w' => e = .returned (.bool (!r)) ∧ Below w.heap.size w w' := by
 have HC := book_Sema_104__105.c2 k A0 c0 l r g w hr0 hL hg h
 clear hr0 hg h
 go_enter Tryz.func142, Tryz.ntmps142
 go_wp2_with fail
 refine HC.mono ?_
 clear HC
 rintro e w' ⟨⟨q, rfl, hq⟩, hb⟩
 go_wp2
 go_ret
 exact ⟨by rw [← hq.out]; rfl, hb⟩
set_option maxHeartbeats 800000 in
theorem book_Sema_104__105.calls (k : Nat) (A0 : Option Addr) (c0 : Nat) (l0 : List (S113)) (a1 : Int) (r : Bool) (w : World) (hr0 : Kd.C k113 w A0 l0.length l0) (hc0 : l0.length ≤ c0) (h : book_Sema_104__105.f k l0 a1 = some r) :
  Calls Tryz.prog 104 #[.slice A0 l0.length c0, .int .i64 a1, .func (.func 105) #[] #[]] w fun e w' => e = .returned (.bool r) ∧ Below w.heap.size w w' := by
 unfold book_Sema_104__105.f at h
 have HR := Aside0.mk hr0
 clear hr0
 have hbw : Below w.heap.size w (w.alloc (.cells #[.func (.func 105) #[] #[]] 159)) := alloc_below0 w _
 by_cases hle : (l0.length : Int) ≤ a1
 ·
  rw [if_pos hle] at h
  obtain ⟨hL, h2⟩ := if_some h
  clear h
  have h := h2
  clear h2
  have hd : decide ((l0.length : Int) ≤ a1) = true := decide_eq_true hle
  have HC := book_Sema_104__105.c3 k A0 c0 l0 r w.heap.size (w.alloc (.cells #[.func (.func 105) #[] #[]] 159)) (Kd.C_alloc HR.out _) hL (by simp) h
  have HB := Aside0.mk hbw
  clear h hle hbw
  go_enter Tryz.func104, Tryz.ntmps104
  go_wp2_with fail
  refine HC.mono ?_
  clear HC
  rintro e w' ⟨rfl, hb⟩
  go_wp2
  go_ret
  exact ⟨by simp, below_step HB.out hb⟩
 ·
  rw [if_neg hle] at h
  obtain rfl := Option.some.inj h
  have hd : decide ((l0.length : Int) ≤ a1) = false := decide_eq_false hle
  clear h hle
  go_enter Tryz.func104, Tryz.ntmps104
  go_wp2
  go_ret
  exact ⟨rfl, hbw⟩

/-! ### book_Event_106__107: function 106 at book_Partition_right_4 -/
def book_Event_106__107.f (k : Nat) (l : List (S115)) (n : Int) : Option (Bool) := if (l.length : Int) ≤ n then (if l.length ≤ 140737488351232 then (allO (fun x => book_Partition_right_4.f k (x.f0)) l) else none) else (some false)
theorem book_Event_106__107.mono : ∀ a0 a1 k, LeO (book_Event_106__107.f k a0 a1) (book_Event_106__107.f (k + 1) a0 a1) := by
 intro a0 a1 k
 unfold book_Event_106__107.f
 exact LeO.ite (LeO.ite (allO_mono (fun x => book_Partition_right_4.mono _ k) a0) (LeO.refl _)) (LeO.refl _)
set_option maxHeartbeats 800000 in
set_option maxRecDepth 100000 in
theorem book_Event_106__107.c1 (k : Nat) (x : S115) (r : Bool) (g : Nat) (w : World) (hg : w.cell? ⟨g, 0, none⟩ = some (.func (.func 107) #[] #[])) (h : book_Partition_right_4.f k (x.f0) = some r) :
  Calls Tryz.prog 145 #[.agg #[.string (x.f0)], .pointer (some ⟨g, 0, none⟩)] w fun e w' => e = .returned (.bool (!r)) ∧ Below w.heap.size w w' := by
 have hgl := World.block_lt_of_cell? w _ hg
 have HH := Aside0.mk h
 clear h
 have hgw : (w.alloc (.cells #[.string (x.f0)] 115)).cell? ⟨g, 0, none⟩ = some (.func (.func 107) #[] #[]) := ((alloc_below0 w _).cell hgl).trans hg
 go_enter Tryz.func145, Tryz.ntmps145
 go_wp2_with fail
 refine (book_Partition_right_4.calls k (x.f0) r _ HH.out).mono ?_
 rintro e w' ⟨rfl, hb⟩
 go_wp2
 go_ret
 exact ⟨by simp, below_step (alloc_below0 w _) hb⟩
set_option maxHeartbeats 2000000 in
set_option maxRecDepth 100000 in
theorem book_Event_106__107.c2 (k : Nat) (A0 : Option Addr) (c0 : Nat) (l : List (S115)) (r : Bool) (g : Nat) (w : World) (hr0 : Kd.C k115 w A0 l.length l) (hL : l.length ≤ 140737488351232) (hg : w.cell? ⟨g, 0, none⟩ = some (.func (.func 107) #[] #[])) (h : allO (fun x => book_Partition_right_4.f k (x.f0)) l = some r) :
  Calls Tryz.prog 163 #[.slice A0 l.length c0, .func (.func 145) #[] #[.pointer (some ⟨g, 0, none⟩)]] w fun e w' => (∃ q : Int, e = .returned (.int .i64 q) ∧ Hid (decide (0 ≤ q) = !r)) ∧ Below w.heap.size w w' := by
 have hgl := World.block_lt_of_cell? w _ hg
 have HR0 := Aside0.mk hr0
 have HG := Aside0.mk hg
 have H0 : Aside0 (allO (fun x => book_Partition_right_4.f k (x.f0)) (l.drop 0) = some r) := ⟨by simpa using h⟩
 clear hr0 hg h
 go_enter Tryz.func163, Tryz.ntmps163
 go_wp2
 go_loopw [8] (fun v8 wr => ∃ j : Nat, v8 = .int .i64 (j : Int) ∧ j ≤ l.length ∧ Aside0 (allO (fun x => book_Partition_right_4.f k (x.f0)) (l.drop j) = some r) ∧ Aside0 (Below w.heap.size w wr)) (fun v8 _ => l.length - (intOf v8).toNat)
 case atStart => exact ⟨0, rfl, Nat.zero_le _, H0, ⟨Below.refl _ _⟩⟩
 case round =>
  clear H0
  obtain ⟨j, rfl, hj, HA, HB⟩ := hrel
  by_cases hlt : j < l.length
  ·
   have p7 : (0 : Int) ≤ (j : Int) := by omega
   have q7 : (j : Int) < (l.length : Int) := by omega
   obtain ⟨b, hb1, hb2, hb3⟩ := allO_cons hlt HA.out
   have HB1 := Aside0.mk hb1
   have HB2 := Aside0.mk hb2
   have HB3 := Aside0.mk hb3
   clear hb1 hb2 hb3
   obtain ⟨ad7, e7, hx7_0⟩ := at_T115 HR0.out (j : Int) p7 q7
   cases e7
   replace hx7_0 := (HB.out.cell (World.block_lt_of_cell? w _ hx7_0)).trans hx7_0
   have EX : Aside0 (rd_T115 l (j : Int) = l[j]) := ⟨by show l.getD _ _ = _; rw [Int.toNat_natCast, List.getD_eq_getElem?_getD, List.getElem?_eq_getElem hlt, Option.getD_some]⟩
   clear p7 q7
   generalize rd_T115 l (j : Int) = x at *
   have HC : Aside0 (book_Partition_right_4.f k (x.f0) = some b) := ⟨by rw [EX.out]; exact HB1.out⟩
   clear HB1 EX
   simp only [Int.toNat_natCast] at *
   go_wp2_with fail
   refine (book_Event_106__107.c1 k x b g wr ((HB.out.cell hgl).trans HG.out) HC.out).mono ?_
   rintro e w9 ⟨rfl, hb⟩
   have HB9 : Aside0 (Below w.heap.size w w9) := ⟨below_step HB.out hb⟩
   clear hb HB
   cases b with
   | true =>
    go_wp2
    go_roundw
    case rel => exact ⟨j + 1, by go_num, by omega, ⟨HB2.out (by simp)⟩, HB9⟩
    case measure => simp [intOf]; omega
   | false =>
    go_wp2
    go_ret
    exact ⟨⟨_, rfl, by rw [HB3.out (by simp)]; show _ = _; simp⟩, HB9.out⟩
  ·
   obtain rfl : j = l.length := by omega
   have hr : r = true := by have := HA.out; rw [List.drop_length] at this; simpa [allO] using this.symm
   subst hr
   go_wp2
   go_ret
   exact ⟨⟨_, rfl, by show _ = _; simp⟩, HB.out⟩
set_option maxHeartbeats 800000 in
theorem book_Event_106__107.c3 (k : Nat) (A0 : Option Addr) (c0 : Nat) (l : List (S115)) (r : Bool) (g : Nat) (w : World) (hr0 : Kd.C k115 w A0 l.length l) (hL : l.length ≤ 140737488351232) (hg : w.cell? ⟨g, 0, none⟩ = some (.func (.func 107) #[] #[])) (h : allO (fun x => book_Partition_right_4.f k (x.f0)) l = some r) :
  Calls Tryz.prog 144 #[.slice A0 l.length c0, .func (.func 145) #[] #[.pointer (some ⟨g, 0, none⟩)]] w fun e w' => e = .returned (.bool (!r)) ∧ Below w.heap.size w w' := by
 have HC := book_Event_106__107.c2 k A0 c0 l r g w hr0 hL hg h
 clear hr0 hg h
 go_enter Tryz.func144, Tryz.ntmps144
 go_wp2_with fail
 refine HC.mono ?_
 clear HC
 rintro e w' ⟨⟨q, rfl, hq⟩, hb⟩
 go_wp2
 go_ret
 exact ⟨by rw [← hq.out]; rfl, hb⟩
set_option maxHeartbeats 800000 in
theorem book_Event_106__107.calls (k : Nat) (A0 : Option Addr) (c0 : Nat) (l0 : List (S115)) (a1 : Int) (r : Bool) (w : World) (hr0 : Kd.C k115 w A0 l0.length l0) (hc0 : l0.length ≤ c0) (h : book_Event_106__107.f k l0 a1 = some r) :
  Calls Tryz.prog 106 #[.slice A0 l0.length c0, .int .i64 a1, .func (.func 107) #[] #[]] w fun e w' => e = .returned (.bool r) ∧ Below w.heap.size w w' := by
 unfold book_Event_106__107.f at h
 have HR := Aside0.mk hr0
 clear hr0
 have hbw : Below w.heap.size w (w.alloc (.cells #[.func (.func 107) #[] #[]] 161)) := alloc_below0 w _
 by_cases hle : (l0.length : Int) ≤ a1
 ·
  rw [if_pos hle] at h
  obtain ⟨hL, h2⟩ := if_some h
  clear h
  have h := h2
  clear h2
  have hd : decide ((l0.length : Int) ≤ a1) = true := decide_eq_true hle
  have HC := book_Event_106__107.c3 k A0 c0 l0 r w.heap.size (w.alloc (.cells #[.func (.func 107) #[] #[]] 161)) (Kd.C_alloc HR.out _) hL (by simp) h
  have HB := Aside0.mk hbw
  clear h hle hbw
  go_enter Tryz.func106, Tryz.ntmps106
  go_wp2_with fail
  refine HC.mono ?_
  clear HC
  rintro e w' ⟨rfl, hb⟩
  go_wp2
  go_ret
  exact ⟨by simp, below_step HB.out hb⟩
 ·
  rw [if_neg hle] at h
  obtain rfl := Option.some.inj h
  have hd : decide ((l0.length : Int) ≤ a1) = false := decide_eq_false hle
  clear h hle
  go_enter Tryz.func106, Tryz.ntmps106
  go_wp2
  go_ret
  exact ⟨rfl, hbw⟩

end Go.Proofs.YthpdlgamicmhaaaGreat.PR
