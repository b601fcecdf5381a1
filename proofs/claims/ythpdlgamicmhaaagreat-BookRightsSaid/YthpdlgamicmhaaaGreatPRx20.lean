/- Written by a program (pe.py): functions of the program as Lean functions, and that each call answers as they do. -/
import Derived.Test.YthpdlgamicmhaaaGreatPRx0
import Derived.Test.YthpdlgamicmhaaaGreatPRx14
import Derived.Test.YthpdlgamicmhaaaGreatPRx19
namespace Go.Proofs.YthpdlgamicmhaaaGreat.PR
open Go.RowKit Go.Proofs.YthpdlgamicmhaaaGreatW.PrintWords Go.Proofs.YthpdlgamicmhaaaGreatW.PrintLast Go.Proofs.YthpdlgamicmhaaaGreatW.PrintMore
attribute [local go_sem] max2_int min2_int max_two min_two max_three min_three max_four min_four   -- for this text's walks alone
set_option linter.unusedVariables false
set_option linter.unusedSimpArgs false

/-! ### L06_Few: function 12 -/
def L06_Few.f (k : Nat) (a0_0 : ByteArray) (l0_1 : List (S52)) (l0_2 : List (S67)) (a0_3 : Int) (l0_4 : List (S74)) (l0_5 : List (S77)) (l0_6 : List (S64)) : Option (Bool) := if (l0_1.length : Int) > 40 then (some false) else (if (l0_2.length : Int) > 20 then (some false) else (if (l0_4.length : Int) > 60 then (some false) else (if (l0_5.length : Int) > 60 then (some false) else ((R06_Size.f k a0_0 l0_1 l0_2 a0_3 l0_4 l0_5 l0_6).bind fun t312 => (some (decide (t312 ≤ 1000)))))))
theorem L06_Few.mono : ∀ a0 a1 a2 a3 a4 a5 a6 k, LeO (L06_Few.f k a0 a1 a2 a3 a4 a5 a6) (L06_Few.f (k + 1) a0 a1 a2 a3 a4 a5 a6) := by
  intro a0 a1 a2 a3 a4 a5 a6 k
  unfold L06_Few.f
  repeat' first | (with_reducible apply R06_Size.mono) | (with_reducible exact LeO.refl _) | (with_reducible exact LeO.none _) | (with_reducible refine LeO.ite ?_ ?_) | (with_reducible refine LeO.bind ?_ (fun _ => ?_)) | apply LeO.none | apply LeO.ite | (refine LeO.bind ?_ (fun _ => ?_))
set_option maxHeartbeats 8000000 in
set_option maxRecDepth 100000 in
theorem L06_Few.calls (k : Nat) (a0_0 : ByteArray) (A0_1 : Option Addr) (c0_1 : Nat) (l0_1 : List (S52)) (A0_2 : Option Addr) (c0_2 : Nat) (l0_2 : List (S67)) (a0_3 : Int) (A0_4 : Option Addr) (c0_4 : Nat) (l0_4 : List (S74)) (A0_5 : Option Addr) (c0_5 : Nat) (l0_5 : List (S77)) (A0_6 : Option Addr) (c0_6 : Nat) (l0_6 : List (S64)) (r : Bool) (w : World) (hr0_1 : Kd.C k52 w A0_1 l0_1.length l0_1) (hc0_1 : l0_1.length ≤ c0_1) (hr0_2 : Kd.C k67 w A0_2 l0_2.length l0_2) (hc0_2 : l0_2.length ≤ c0_2) (hr0_4 : Kd.C k74 w A0_4 l0_4.length l0_4) (hc0_4 : l0_4.length ≤ c0_4) (hr0_5 : Kd.C k77 w A0_5 l0_5.length l0_5) (hc0_5 : l0_5.length ≤ c0_5) (hr0_6 : Kd.C k64 w A0_6 l0_6.length l0_6) (hc0_6 : l0_6.length ≤ c0_6) (h : L06_Few.f k a0_0 l0_1 l0_2 a0_3 l0_4 l0_5 l0_6 = some r) :
    Calls Tryz.prog 12 #[.agg #[.string a0_0, .slice A0_1 l0_1.length c0_1, .slice A0_2 l0_2.length c0_2, .int .i64 a0_3, .slice A0_4 l0_4.length c0_4, .slice A0_5 l0_5.length c0_5, .slice A0_6 l0_6.length c0_6]] w fun e w' => e = .returned (.bool r) ∧ Below w.heap.size w w' := by
 have HR0_1 := Aside0.mk hr0_1; have HC0_1 := Aside0.mk hc0_1; clear hr0_1 hc0_1; have HR0_2 := Aside0.mk hr0_2; have HC0_2 := Aside0.mk hc0_2; clear hr0_2 hc0_2; have HR0_4 := Aside0.mk hr0_4; have HC0_4 := Aside0.mk hc0_4; clear hr0_4 hc0_4; have HR0_5 := Aside0.mk hr0_5; have HC0_5 := Aside0.mk hc0_5; clear hr0_5 hc0_5; have HR0_6 := Aside0.mk hr0_6; have HC0_6 := Aside0.mk hc0_6; clear hr0_6 hc0_6; unfold L06_Few.f at h; have H := Aside0.mk h; clear h; have HB := Aside0.mk (Below.refl w.heap.size w); have hu30 := Tryz.underlying30; go_enter Tryz.func12, Tryz.ntmps12; by_cases c450 : (l0_1.length : Int) > 40
 · replace H := a0p c450 H; have c450b0 : decide (40 < (l0_1.length : Int)) = true := decide_eq_true c450; (have c450b1 : decide (40 < l0_1.length) = true := decide_eq_true (by omega)); have Kc450 := Aside0.mk c450; clear c450; have BK449 := Aside0.mk (pe_box0 w #[.string a0_0, .slice A0_1 l0_1.length c0_1, .slice A0_2 l0_2.length c0_2, .int .i64 a0_3, .slice A0_4 l0_4.length c0_4, .slice A0_5 l0_5.length c0_5, .slice A0_6 l0_6.length c0_6] 30); replace HB := Aside0.mk (below_alloc HB.out (.cells #[.string a0_0, .slice A0_1 l0_1.length c0_1, .slice A0_2 l0_2.length c0_2, .int .i64 a0_3, .slice A0_4 l0_4.length c0_4, .slice A0_5 l0_5.length c0_5, .slice A0_6 l0_6.length c0_6] 30)); obtain rfl := Option.some.inj H.out; go_wp2; go_ret; exact ⟨by first | rfl | (simp; done) | (simp [*]; done), HB.out⟩
 · replace H := a0n c450 H; have c450b0 : decide (40 < (l0_1.length : Int)) = false := decide_eq_false c450; (have c450b1 : decide (40 < l0_1.length) = false := decide_eq_false (by omega)); have Kc450 := Aside0.mk c450; clear c450; by_cases c451 : (l0_2.length : Int) > 20
   · replace H := a0p c451 H; have c451b0 : decide (20 < (l0_2.length : Int)) = true := decide_eq_true c451; (have c451b1 : decide (20 < l0_2.length) = true := decide_eq_true (by omega)); have Kc451 := Aside0.mk c451; clear c451; have BK449 := Aside0.mk (pe_box0 w #[.string a0_0, .slice A0_1 l0_1.length c0_1, .slice A0_2 l0_2.length c0_2, .int .i64 a0_3, .slice A0_4 l0_4.length c0_4, .slice A0_5 l0_5.length c0_5, .slice A0_6 l0_6.length c0_6] 30); replace HB := Aside0.mk (below_alloc HB.out (.cells #[.string a0_0, .slice A0_1 l0_1.length c0_1, .slice A0_2 l0_2.length c0_2, .int .i64 a0_3, .slice A0_4 l0_4.length c0_4, .slice A0_5 l0_5.length c0_5, .slice A0_6 l0_6.length c0_6] 30)); obtain rfl := Option.some.inj H.out; go_wp2; go_ret; exact ⟨by first | rfl | (simp; done) | (simp [*]; done), HB.out⟩
   · replace H := a0n c451 H; have c451b0 : decide (20 < (l0_2.length : Int)) = false := decide_eq_false c451; (have c451b1 : decide (20 < l0_2.length) = false := decide_eq_false (by omega)); have Kc451 := Aside0.mk c451; clear c451; by_cases c452 : (l0_4.length : Int) > 60
     · replace H := a0p c452 H; have c452b0 : decide (60 < (l0_4.length : Int)) = true := decide_eq_true c452; (have c452b1 : decide (60 < l0_4.length) = true := decide_eq_true (by omega)); have Kc452 := Aside0.mk c452; clear c452; have BK449 := Aside0.mk (pe_box0 w #[.string a0_0, .slice A0_1 l0_1.length c0_1, .slice A0_2 l0_2.length c0_2, .int .i64 a0_3, .slice A0_4 l0_4.length c0_4, .slice A0_5 l0_5.length c0_5, .slice A0_6 l0_6.length c0_6] 30); replace HB := Aside0.mk (below_alloc HB.out (.cells #[.string a0_0, .slice A0_1 l0_1.length c0_1, .slice A0_2 l0_2.length c0_2, .int .i64 a0_3, .slice A0_4 l0_4.length c0_4, .slice A0_5 l0_5.length c0_5, .slice A0_6 l0_6.length c0_6] 30)); obtain rfl := Option.some.inj H.out; go_wp2; go_ret; exact ⟨by first | rfl | (simp; done) | (simp [*]; done), HB.out⟩
     · replace H := a0n c452 H; have c452b0 : decide (60 < (l0_4.length : Int)) = false := decide_eq_false c452; (have c452b1 : decide (60 < l0_4.length) = false := decide_eq_false (by omega)); have Kc452 := Aside0.mk c452; clear c452; by_cases c453 : (l0_5.length : Int) > 60
       · replace H := a0p c453 H; have c453b0 : decide (60 < (l0_5.length : Int)) = true := decide_eq_true c453; (have c453b1 : decide (60 < l0_5.length) = true := decide_eq_true (by omega)); have Kc453 := Aside0.mk c453; clear c453; have BK449 := Aside0.mk (pe_box0 w #[.string a0_0, .slice A0_1 l0_1.length c0_1, .slice A0_2 l0_2.length c0_2, .int .i64 a0_3, .slice A0_4 l0_4.length c0_4, .slice A0_5 l0_5.length c0_5, .slice A0_6 l0_6.length c0_6] 30); replace HB := Aside0.mk (below_alloc HB.out (.cells #[.string a0_0, .slice A0_1 l0_1.length c0_1, .slice A0_2 l0_2.length c0_2, .int .i64 a0_3, .slice A0_4 l0_4.length c0_4, .slice A0_5 l0_5.length c0_5, .slice A0_6 l0_6.length c0_6] 30)); obtain rfl := Option.some.inj H.out; go_wp2; go_ret; exact ⟨by first | rfl | (simp; done) | (simp [*]; done), HB.out⟩
       · replace H := a0n c453 H; have c453b0 : decide (60 < (l0_5.length : Int)) = false := decide_eq_false c453; (have c453b1 : decide (60 < l0_5.length) = false := decide_eq_false (by omega)); have Kc453 := Aside0.mk c453; clear c453; have BK449 := Aside0.mk (pe_box0 w #[.string a0_0, .slice A0_1 l0_1.length c0_1, .slice A0_2 l0_2.length c0_2, .int .i64 a0_3, .slice A0_4 l0_4.length c0_4, .slice A0_5 l0_5.length c0_5, .slice A0_6 l0_6.length c0_6] 30); replace HB := Aside0.mk (below_alloc HB.out (.cells #[.string a0_0, .slice A0_1 l0_1.length c0_1, .slice A0_2 l0_2.length c0_2, .int .i64 a0_3, .slice A0_4 l0_4.length c0_4, .slice A0_5 l0_5.length c0_5, .slice A0_6 l0_6.length c0_6] 30)); obtain ⟨t312, q454, H1⟩ := a0b H; clear H; have H := H1; clear H1; go_wp2_with fail; (with_reducible refine (R06_Size.calls k a0_0 _ _ l0_1 _ _ l0_2 a0_3 _ _ l0_4 _ _ l0_5 _ _ l0_6 t312 _ (Kd.C_below HR0_1.out HB.out) HC0_1.out (Kd.C_below HR0_2.out HB.out) HC0_2.out (Kd.C_below HR0_4.out HB.out) HC0_4.out (Kd.C_below HR0_5.out HB.out) HC0_5.out (Kd.C_below HR0_6.out HB.out) HC0_6.out q454.out).mono ?_); clear q454; (rintro e w455 ⟨rfl, hb⟩); replace HB := Aside0.mk (below_step HB.out hb); replace BK449 := Aside0.mk (blk_below BK449.out hb); clear hb; have Z449 := blk7 BK449.out; obtain rfl := Option.some.inj H.out; go_wp2; go_ret; exact ⟨by first | rfl | (simp; done) | (simp [*]; done), HB.out⟩

/-! ### R06_Name: function 11 -/
mutual
def R06_Name.j0 : Nat → ByteArray → Bool → Option (Bool)
 | 0, _, _ => none
 | k + 1, x0, x22 => if x22 = true then (some false) else (R06_Name.l0 k x0 0)
def R06_Name.l0 : Nat → ByteArray → Int → Option (Bool)
 | 0, _, _ => none
 | k + 1, x0, x3 => if x3 < (x0.size : Int) then (if 0 ≤ x3 then (if (bt x0 x3) < 97 then (if (bt x0 x3) < 48 then (if (bt x0 x3) = 95 then (R06_Name.l0 k x0 (wrap64 (x3 + 1))) else (some false)) else (if (bt x0 x3) > 57 then (if (bt x0 x3) = 95 then (R06_Name.l0 k x0 (wrap64 (x3 + 1))) else (some false)) else (R06_Name.l0 k x0 (wrap64 (x3 + 1))))) else (if (bt x0 x3) > 122 then (if (bt x0 x3) < 48 then (if (bt x0 x3) = 95 then (R06_Name.l0 k x0 (wrap64 (x3 + 1))) else (some false)) else (if (bt x0 x3) > 57 then (if (bt x0 x3) = 95 then (R06_Name.l0 k x0 (wrap64 (x3 + 1))) else (some false)) else (R06_Name.l0 k x0 (wrap64 (x3 + 1))))) else (R06_Name.l0 k x0 (wrap64 (x3 + 1))))) else (none)) else (some true)
end
def R06_Name.f (k : Nat) (a0 : ByteArray) : Option (Bool) := if (a0.size : Int) < 1 then (R06_Name.j0 k a0 true) else (if (a0.size : Int) > 30 then (R06_Name.j0 k a0 true) else (if 0 < (a0.size : Int) then (if (bt a0 0) < 97 then (R06_Name.j0 k a0 true) else (R06_Name.j0 k a0 (decide ((bt a0 0) > 122)))) else (none)))
theorem R06_Name.mono_l : ∀ k, (∀ y0 y1, LeO (R06_Name.j0 k y0 y1) (R06_Name.j0 (k + 1) y0 y1)) ∧ (∀ y0 y1, LeO (R06_Name.l0 k y0 y1) (R06_Name.l0 (k + 1) y0 y1))
 | 0 => ⟨fun _ _ r h => by simp [R06_Name.j0] at h, fun _ _ r h => by simp [R06_Name.l0] at h⟩
 | k + 1 => by
  obtain ⟨ih0, ih1⟩ := R06_Name.mono_l k
  refine ⟨?_, ?_⟩
  ·
   intro y0 y1
   unfold R06_Name.j0
   repeat' first | (with_reducible apply ih0) | (with_reducible apply ih1) | (with_reducible exact LeO.refl _) | (with_reducible exact LeO.none _) | (with_reducible refine LeO.ite ?_ ?_) | (with_reducible refine LeO.bind ?_ (fun _ => ?_)) | apply LeO.none | apply LeO.ite | (refine LeO.bind ?_ (fun _ => ?_))
  ·
   intro y0 y1
   unfold R06_Name.l0
   repeat' first | (with_reducible apply ih0) | (with_reducible apply ih1) | (with_reducible exact LeO.refl _) | (with_reducible exact LeO.none _) | (with_reducible refine LeO.ite ?_ ?_) | (with_reducible refine LeO.bind ?_ (fun _ => ?_)) | apply LeO.none | apply LeO.ite | (refine LeO.bind ?_ (fun _ => ?_))
theorem R06_Name.mono : ∀ a0 k, LeO (R06_Name.f k a0) (R06_Name.f (k + 1) a0) := by
 intro a0 k
 obtain ⟨ih0, ih1⟩ := R06_Name.mono_l k
 unfold R06_Name.f
 repeat' first | (with_reducible apply ih0) | (with_reducible apply ih1) | (with_reducible exact LeO.refl _) | (with_reducible exact LeO.none _) | (with_reducible refine LeO.ite ?_ ?_) | (with_reducible refine LeO.bind ?_ (fun _ => ?_)) | apply LeO.none | apply LeO.ite | (refine LeO.bind ?_ (fun _ => ?_))
set_option maxHeartbeats 8000000 in
set_option maxRecDepth 100000 in
theorem R06_Name.calls (k : Nat) (a0 : ByteArray) (r : Bool) (w : World) (h : R06_Name.f k a0 = some r) :
  Calls Tryz.prog 11 #[.string a0] w fun e w' => e = .returned (.bool r) ∧ Drawn0 w w' := by
 have H : (if (a0.size : Int) < 1 then (R06_Name.j0 k a0 true) else (if (a0.size : Int) > 30 then (R06_Name.j0 k a0 true) else (if 0 < (a0.size : Int) then (if (bt a0 0) < 97 then (R06_Name.j0 k a0 true) else (R06_Name.j0 k a0 (decide ((bt a0 0) > 122)))) else (none)))) = some r := h
 clear h
 have HC2 := Aside0.mk H
 clear H
 go_enter Tryz.func11, Tryz.ntmps11
 go_upto_region 1 with (fail)
 go_cut [22] (fun v22 wc => ∃ (kq : Nat) (x22_1 : Bool), v22 = .bool x22_1 ∧ Aside0 (R06_Name.j0 kq a0 x22_1 = some r) ∧ Aside0 (kq ≤ k) ∧ Drawn0 w wc)
 case first =>
  have H := HC2.out
  clear HC2
  by_cases c3 : (a0.size : Int) < 1
  ·
   rw [if_pos c3] at H
   have c3b0 : decide ((a0.size : Int) < 1) = true := decide_eq_true c3
   have c3b1 : decide (a0.size < 1) = true := decide_eq_true (by omega)
   clear c3
   (first | rw [c3b0] | (simp only [i64_w, i32_w]; rw [c3b0]) | skip)
   have H' := Aside0.mk H
   clear H
   go_wp2
   go_meet
   case rel => exact ⟨_, (true), (by first | rfl | (simp; done) | (simp [*]; done)), H', ⟨by first | omega | exact Nat.le_refl _⟩, by repeat (first | exact Drawn0.refl _ | apply Drawn0.step)⟩
  ·
   rw [if_neg c3] at H
   have c3b0 : decide ((a0.size : Int) < 1) = false := decide_eq_false c3
   have c3b1 : decide (a0.size < 1) = false := decide_eq_false (by omega)
   clear c3
   (first | rw [c3b0] | (simp only [i64_w, i32_w]; rw [c3b0]) | skip)
   by_cases c4 : (a0.size : Int) > 30
   ·
    rw [if_pos c4] at H
    have c4b0 : decide (30 < (a0.size : Int)) = true := decide_eq_true c4
    have c4b1 : decide (30 < a0.size) = true := decide_eq_true (by omega)
    clear c4
    have H' := Aside0.mk H
    clear H
    go_wp2
    go_meet
    case rel => exact ⟨_, (true), (by first | rfl | (simp; done) | (simp [*]; done)), H', ⟨by first | omega | exact Nat.le_refl _⟩, by repeat (first | exact Drawn0.refl _ | apply Drawn0.step)⟩
   ·
    rw [if_neg c4] at H
    have c4b0 : decide (30 < (a0.size : Int)) = false := decide_eq_false c4
    have c4b1 : decide (30 < a0.size) = false := decide_eq_false (by omega)
    clear c4
    by_cases c5 : 0 < (a0.size : Int)
    ·
     rw [if_pos c5] at H
     have c5b0 : decide (0 < (a0.size : Int)) = true := decide_eq_true c5
     have c5b1 : decide (0 < a0.size) = true := decide_eq_true (by omega)
     clear c5
     by_cases c7 : (bt a0 0) < 97
     ·
      rw [if_pos c7] at H
      have c7b0 : decide ((bt a0 0) < 97) = true := decide_eq_true c7
      clear c7
      have H' := Aside0.mk H
      clear H
      have p6 : 0 ≤ (0 : Int) := (by omega)
      have q6 : 0 < a0.size := (by have : (0 : Int) < (a0.size : Int) := of_decide_eq_true (by first | (with_reducible assumption) | assumption); omega)
      have hx6 : ∀ h : 0 < a0.size, ((a0[0]'h).toNat : Int) = bt a0 0 := bt_at a0 0
      clear p6
      have qi6 : (0 < (a0.size : Int)) = True := eq_true (of_decide_eq_true (by first | (with_reducible assumption) | assumption))
      replace q6 := eq_true q6
      go_wp2
      go_meet
      case rel => exact ⟨_, (true), (by first | rfl | (simp; done) | (simp [*]; done)), H', ⟨by first | omega | exact Nat.le_refl _⟩, by repeat (first | exact Drawn0.refl _ | apply Drawn0.step)⟩
     ·
      rw [if_neg c7] at H
      have c7b0 : decide ((bt a0 0) < 97) = false := decide_eq_false c7
      clear c7
      have H' := Aside0.mk H
      clear H
      have p6 : 0 ≤ (0 : Int) := (by omega)
      have q6 : 0 < a0.size := (by have : (0 : Int) < (a0.size : Int) := of_decide_eq_true (by first | (with_reducible assumption) | assumption); omega)
      have hx6 : ∀ h : 0 < a0.size, ((a0[0]'h).toNat : Int) = bt a0 0 := bt_at a0 0
      clear p6
      have qi6 : (0 < (a0.size : Int)) = True := eq_true (of_decide_eq_true (by first | (with_reducible assumption) | assumption))
      replace q6 := eq_true q6
      have p8 : 0 ≤ (0 : Int) := (by omega)
      have q8 : 0 < a0.size := (by have : (0 : Int) < (a0.size : Int) := of_decide_eq_true (by first | (with_reducible assumption) | assumption); omega)
      have hx8 : ∀ h : 0 < a0.size, ((a0[0]'h).toNat : Int) = bt a0 0 := bt_at a0 0
      clear p8
      have qi8 : (0 < (a0.size : Int)) = True := eq_true (of_decide_eq_true (by first | (with_reducible assumption) | assumption))
      replace q8 := eq_true q8
      go_wp2
      go_meet
      case rel => exact ⟨_, (decide ((bt a0 0) > 122)), (by first | rfl | (simp; done) | (simp [*]; done)), H', ⟨by first | omega | exact Nat.le_refl _⟩, by repeat (first | exact Drawn0.refl _ | apply Drawn0.step)⟩
    ·
     rw [if_neg c5] at H
     exact absurd H (by simp)
 case rest =>
  clear HC2
  try clear c1
  try clear p2
  try clear c3
  try clear c3b0
  try clear c3b1
  try clear c4
  try clear c4b0
  try clear c4b1
  try clear c5
  try clear c5b0
  try clear c5b1
  try clear p6
  try clear q6
  try clear hx6
  try clear qi6
  try clear c7
  try clear c7b0
  try clear p8
  try clear q8
  try clear hx8
  try clear qi8
  try clear p6
  try clear p8
  try clear q6
  try clear q8
  obtain ⟨kq, x22_1, rfl, HA, HJ1, ⟨mc1, rfl⟩⟩ := hcut
  cases kq with
  | zero => exact absurd HA.out (by simp [R06_Name.j0])
  | succ kj1 =>
   have H := HA.out
   clear HA
   simp only [R06_Name.j0] at H
   by_cases c9 : x22_1 = true
   ·
    subst c9
    have H1 : (some false) = some r := by rw [if_pos rfl] at H; exact H
    clear H
    have H := H1
    clear H1
    obtain rfl := Option.some.inj H
    go_wp2
    go_ret
    exact ⟨by first | rfl | (simp; done) | (simp [*]; done), by repeat (first | exact Drawn0.refl _ | apply Drawn0.step)⟩
   ·
    replace c9 := Bool.eq_false_iff.mpr c9
    subst c9
    have H1 : (R06_Name.l0 kj1 a0 0) = some r := by rw [if_neg (show ¬ (false = true) by decide)] at H; exact H
    clear H
    have H := H1
    clear H1
    have H' := Aside0.mk H
    clear H
    go_wp2
    go_loopg [3] kj1 (fun kq v3 w' => ∃ (x3_2 : Int), v3 = .int .i64 x3_2 ∧ Aside0 (R06_Name.l0 kq a0 x3_2 = some r) ∧ Aside0 (kq ≤ kj1) ∧ Drawn0 w w')
    case atStart => exact ⟨(0), (by first | rfl | (simp; done) | (simp [*]; done)), H', ⟨Nat.le_refl _⟩, by repeat (first | exact Drawn0.refl _ | apply Drawn0.step)⟩
    case round =>
     clear H'
     try clear c1
     try clear p2
     try clear c3
     try clear c3b0
     try clear c3b1
     try clear c4
     try clear c4b0
     try clear c4b1
     try clear c5
     try clear c5b0
     try clear c5b1
     try clear p6
     try clear q6
     try clear hx6
     try clear qi6
     try clear c7
     try clear c7b0
     try clear p8
     try clear q8
     try clear hx8
     try clear qi8
     try clear c9
     try clear p2
     try clear p6
     try clear p8
     try clear q6
     try clear q8
     obtain ⟨x3_2, rfl, HA, HK2, ⟨m2, rfl⟩⟩ := hrel
     cases gk with
     | zero => exact absurd HA.out (by simp [R06_Name.l0])
     | succ k2 =>
      have H := HA.out
      clear HA
      simp only [R06_Name.l0] at H
      by_cases c10 : x3_2 < (a0.size : Int)
      ·
       rw [if_pos c10] at H
       have c10b0 : decide (x3_2 < (a0.size : Int)) = true := decide_eq_true c10
       clear c10
       by_cases c11 : 0 ≤ x3_2
       ·
        rw [if_pos c11] at H
        have c11b0 : decide (0 ≤ x3_2) = true := decide_eq_true c11
        clear c11
        by_cases c13 : (bt a0 x3_2) < 97
        ·
         rw [if_pos c13] at H
         have c13b0 : decide ((bt a0 x3_2) < 97) = true := decide_eq_true c13
         clear c13
         by_cases c14 : (bt a0 x3_2) < 48
         ·
          rw [if_pos c14] at H
          have c14b0 : decide ((bt a0 x3_2) < 48) = true := decide_eq_true c14
          clear c14
          by_cases c15 : (bt a0 x3_2) = 95
          ·
           rw [if_pos c15] at H
           have c15b0 : ((bt a0 x3_2) == 95) = true := beq_iff_eq.mpr c15
           have c15b1 : ((bt a0 x3_2) != 95) = false := bne_eq_false_iff_eq.mpr c15
           clear c15
           have H' := Aside0.mk H
           clear H
           have p12 : 0 ≤ (x3_2 : Int) := of_decide_eq_true (by first | (with_reducible assumption) | assumption)
           have q12 : x3_2 < (a0.size : Int) := of_decide_eq_true (by first | (with_reducible assumption) | assumption)
           have hx12 := bt_at a0 x3_2
           replace p12 := eq_true p12
           replace q12 := eq_true q12
           go_wp2
           go_roundg k2
           case measure => have := HJ1.out; have := HK2.out; omega
           case rel => exact ⟨(wrap64 (x3_2 + 1)), (by first | rfl | (simp; done) | (simp [*]; done)), H', ⟨by have := HJ1.out; have := HK2.out; omega⟩, by repeat (first | exact Drawn0.refl _ | apply Drawn0.step)⟩
          ·
           rw [if_neg c15] at H
           have c15b0 : ((bt a0 x3_2) == 95) = false := beq_eq_false_iff_ne.mpr c15
           have c15b1 : ((bt a0 x3_2) != 95) = true := bne_iff_ne.mpr c15
           obtain rfl := Option.some.inj H
           have p12 : 0 ≤ (x3_2 : Int) := of_decide_eq_true (by first | (with_reducible assumption) | assumption)
           have q12 : x3_2 < (a0.size : Int) := of_decide_eq_true (by first | (with_reducible assumption) | assumption)
           have hx12 := bt_at a0 x3_2
           replace p12 := eq_true p12
           replace q12 := eq_true q12
           go_wp2
           go_ret
           exact ⟨by first | rfl | (simp; done) | (simp [*]; done), by repeat (first | exact Drawn0.refl _ | apply Drawn0.step)⟩
         ·
          rw [if_neg c14] at H
          have c14b0 : decide ((bt a0 x3_2) < 48) = false := decide_eq_false c14
          clear c14
          by_cases c16 : (bt a0 x3_2) > 57
          ·
           rw [if_pos c16] at H
           have c16b0 : decide (57 < (bt a0 x3_2)) = true := decide_eq_true c16
           clear c16
           by_cases c17 : (bt a0 x3_2) = 95
           ·
            rw [if_pos c17] at H
            have c17b0 : ((bt a0 x3_2) == 95) = true := beq_iff_eq.mpr c17
            have c17b1 : ((bt a0 x3_2) != 95) = false := bne_eq_false_iff_eq.mpr c17
            clear c17
            have H' := Aside0.mk H
            clear H
            have p12 : 0 ≤ (x3_2 : Int) := of_decide_eq_true (by first | (with_reducible assumption) | assumption)
            have q12 : x3_2 < (a0.size : Int) := of_decide_eq_true (by first | (with_reducible assumption) | assumption)
            have hx12 := bt_at a0 x3_2
            replace p12 := eq_true p12
            replace q12 := eq_true q12
            go_wp2
            go_roundg k2
            case measure => have := HJ1.out; have := HK2.out; omega
            case rel => exact ⟨(wrap64 (x3_2 + 1)), (by first | rfl | (simp; done) | (simp [*]; done)), H', ⟨by have := HJ1.out; have := HK2.out; omega⟩, by repeat (first | exact Drawn0.refl _ | apply Drawn0.step)⟩
           ·
            rw [if_neg c17] at H
            have c17b0 : ((bt a0 x3_2) == 95) = false := beq_eq_false_iff_ne.mpr c17
            have c17b1 : ((bt a0 x3_2) != 95) = true := bne_iff_ne.mpr c17
            obtain rfl := Option.some.inj H
            have p12 : 0 ≤ (x3_2 : Int) := of_decide_eq_true (by first | (with_reducible assumption) | assumption)
            have q12 : x3_2 < (a0.size : Int) := of_decide_eq_true (by first | (with_reducible assumption) | assumption)
            have hx12 := bt_at a0 x3_2
            replace p12 := eq_true p12
            replace q12 := eq_true q12
            go_wp2
            go_ret
            exact ⟨by first | rfl | (simp; done) | (simp [*]; done), by repeat (first | exact Drawn0.refl _ | apply Drawn0.step)⟩
          ·
           rw [if_neg c16] at H
           have c16b0 : decide (57 < (bt a0 x3_2)) = false := decide_eq_false c16
           clear c16
           have H' := Aside0.mk H
           clear H
           have p12 : 0 ≤ (x3_2 : Int) := of_decide_eq_true (by first | (with_reducible assumption) | assumption)
           have q12 : x3_2 < (a0.size : Int) := of_decide_eq_true (by first | (with_reducible assumption) | assumption)
           have hx12 := bt_at a0 x3_2
           replace p12 := eq_true p12
           replace q12 := eq_true q12
           go_wp2
           go_roundg k2
           case measure => have := HJ1.out; have := HK2.out; omega
           case rel => exact ⟨(wrap64 (x3_2 + 1)), (by first | rfl | (simp; done) | (simp [*]; done)), H', ⟨by have := HJ1.out; have := HK2.out; omega⟩, by repeat (first | exact Drawn0.refl _ | apply Drawn0.step)⟩
        ·
         rw [if_neg c13] at H
         have c13b0 : decide ((bt a0 x3_2) < 97) = false := decide_eq_false c13
         clear c13
         by_cases c18 : (bt a0 x3_2) > 122
         ·
          rw [if_pos c18] at H
          have c18b0 : decide (122 < (bt a0 x3_2)) = true := decide_eq_true c18
          clear c18
          by_cases c19 : (bt a0 x3_2) < 48
          ·
           rw [if_pos c19] at H
           have c19b0 : decide ((bt a0 x3_2) < 48) = true := decide_eq_true c19
           clear c19
           by_cases c20 : (bt a0 x3_2) = 95
           ·
            rw [if_pos c20] at H
            have c20b0 : ((bt a0 x3_2) == 95) = true := beq_iff_eq.mpr c20
            have c20b1 : ((bt a0 x3_2) != 95) = false := bne_eq_false_iff_eq.mpr c20
            clear c20
            have H' := Aside0.mk H
            clear H
            have p12 : 0 ≤ (x3_2 : Int) := of_decide_eq_true (by first | (with_reducible assumption) | assumption)
            have q12 : x3_2 < (a0.size : Int) := of_decide_eq_true (by first | (with_reducible assumption) | assumption)
            have hx12 := bt_at a0 x3_2
            replace p12 := eq_true p12
            replace q12 := eq_true q12
            go_wp2
            go_roundg k2
            case measure => have := HJ1.out; have := HK2.out; omega
            case rel => exact ⟨(wrap64 (x3_2 + 1)), (by first | rfl | (simp; done) | (simp [*]; done)), H', ⟨by have := HJ1.out; have := HK2.out; omega⟩, by repeat (first | exact Drawn0.refl _ | apply Drawn0.step)⟩
           ·
            rw [if_neg c20] at H
            have c20b0 : ((bt a0 x3_2) == 95) = false := beq_eq_false_iff_ne.mpr c20
            have c20b1 : ((bt a0 x3_2) != 95) = true := bne_iff_ne.mpr c20
            obtain rfl := Option.some.inj H
            have p12 : 0 ≤ (x3_2 : Int) := of_decide_eq_true (by first | (with_reducible assumption) | assumption)
            have q12 : x3_2 < (a0.size : Int) := of_decide_eq_true (by first | (with_reducible assumption) | assumption)
            have hx12 := bt_at a0 x3_2
            replace p12 := eq_true p12
            replace q12 := eq_true q12
            go_wp2
            go_ret
            exact ⟨by first | rfl | (simp; done) | (simp [*]; done), by repeat (first | exact Drawn0.refl _ | apply Drawn0.step)⟩
          ·
           rw [if_neg c19] at H
           have c19b0 : decide ((bt a0 x3_2) < 48) = false := decide_eq_false c19
           clear c19
           by_cases c21 : (bt a0 x3_2) > 57
           ·
            rw [if_pos c21] at H
            have c21b0 : decide (57 < (bt a0 x3_2)) = true := decide_eq_true c21
            clear c21
            by_cases c22 : (bt a0 x3_2) = 95
            ·
             rw [if_pos c22] at H
             have c22b0 : ((bt a0 x3_2) == 95) = true := beq_iff_eq.mpr c22
             have c22b1 : ((bt a0 x3_2) != 95) = false := bne_eq_false_iff_eq.mpr c22
             clear c22
             have H' := Aside0.mk H
             clear H
             have p12 : 0 ≤ (x3_2 : Int) := of_decide_eq_true (by first | (with_reducible assumption) | assumption)
             have q12 : x3_2 < (a0.size : Int) := of_decide_eq_true (by first | (with_reducible assumption) | assumption)
             have hx12 := bt_at a0 x3_2
             replace p12 := eq_true p12
             replace q12 := eq_true q12
             go_wp2
             go_roundg k2
             case measure => have := HJ1.out; have := HK2.out; omega
             case rel => exact ⟨(wrap64 (x3_2 + 1)), (by first | rfl | (simp; done) | (simp [*]; done)), H', ⟨by have := HJ1.out; have := HK2.out; omega⟩, by repeat (first | exact Drawn0.refl _ | apply Drawn0.step)⟩
            ·
             rw [if_neg c22] at H
             have c22b0 : ((bt a0 x3_2) == 95) = false := beq_eq_false_iff_ne.mpr c22
             have c22b1 : ((bt a0 x3_2) != 95) = true := bne_iff_ne.mpr c22
             obtain rfl := Option.some.inj H
             have p12 : 0 ≤ (x3_2 : Int) := of_decide_eq_true (by first | (with_reducible assumption) | assumption)
             have q12 : x3_2 < (a0.size : Int) := of_decide_eq_true (by first | (with_reducible assumption) | assumption)
             have hx12 := bt_at a0 x3_2
             replace p12 := eq_true p12
             replace q12 := eq_true q12
             go_wp2
             go_ret
             exact ⟨by first | rfl | (simp; done) | (simp [*]; done), by repeat (first | exact Drawn0.refl _ | apply Drawn0.step)⟩
           ·
            rw [if_neg c21] at H
            have c21b0 : decide (57 < (bt a0 x3_2)) = false := decide_eq_false c21
            clear c21
            have H' := Aside0.mk H
            clear H
            have p12 : 0 ≤ (x3_2 : Int) := of_decide_eq_true (by first | (with_reducible assumption) | assumption)
            have q12 : x3_2 < (a0.size : Int) := of_decide_eq_true (by first | (with_reducible assumption) | assumption)
            have hx12 := bt_at a0 x3_2
            replace p12 := eq_true p12
            replace q12 := eq_true q12
            go_wp2
            go_roundg k2
            case measure => have := HJ1.out; have := HK2.out; omega
            case rel => exact ⟨(wrap64 (x3_2 + 1)), (by first | rfl | (simp; done) | (simp [*]; done)), H', ⟨by have := HJ1.out; have := HK2.out; omega⟩, by repeat (first | exact Drawn0.refl _ | apply Drawn0.step)⟩
         ·
          rw [if_neg c18] at H
          have c18b0 : decide (122 < (bt a0 x3_2)) = false := decide_eq_false c18
          clear c18
          have H' := Aside0.mk H
          clear H
          have p12 : 0 ≤ (x3_2 : Int) := of_decide_eq_true (by first | (with_reducible assumption) | assumption)
          have q12 : x3_2 < (a0.size : Int) := of_decide_eq_true (by first | (with_reducible assumption) | assumption)
          have hx12 := bt_at a0 x3_2
          replace p12 := eq_true p12
          replace q12 := eq_true q12
          go_wp2
          go_roundg k2
          case measure => have := HJ1.out; have := HK2.out; omega
          case rel => exact ⟨(wrap64 (x3_2 + 1)), (by first | rfl | (simp; done) | (simp [*]; done)), H', ⟨by have := HJ1.out; have := HK2.out; omega⟩, by repeat (first | exact Drawn0.refl _ | apply Drawn0.step)⟩
       ·
        rw [if_neg c11] at H
        exact absurd H (by simp)
      ·
       rw [if_neg c10] at H
       have c10b0 : decide (x3_2 < (a0.size : Int)) = false := decide_eq_false c10
       clear c10
       obtain rfl := Option.some.inj H
       go_wp2
       go_ret
       exact ⟨by first | rfl | (simp; done) | (simp [*]; done), by repeat (first | exact Drawn0.refl _ | apply Drawn0.step)⟩

/-! ### R06_in: function 42 -/
def R06_in.f (a0 : Int) (a1 : Int) (a2 : Int) : Option (Bool) := if a0 ≥ a1 then (some (decide (a0 ≤ a2))) else (some false)
set_option maxHeartbeats 8000000 in
set_option maxRecDepth 100000 in
theorem R06_in.calls (a0 : Int) (a1 : Int) (a2 : Int) (r : Bool) (w : World) (h : R06_in.f a0 a1 a2 = some r) :
  Calls Tryz.prog 42 #[.int .i64 a0, .int .i64 a1, .int .i64 a2] w fun e w' => e = .returned (.bool r) ∧ Drawn0 w w' := by
 have H : (if a0 ≥ a1 then (some (decide (a0 ≤ a2))) else (some false)) = some r := h
 clear h
 by_cases c4 : a0 ≥ a1
 ·
  rw [if_pos c4] at H
  have c4b0 : decide (a1 ≤ a0) = true := decide_eq_true c4
  clear c4
  obtain rfl := Option.some.inj H
  go_enter Tryz.func42, Tryz.ntmps42
  go_wp2
  go_ret
  exact ⟨by first | rfl | (simp; done) | (simp [*]; done), by repeat (first | exact Drawn0.refl _ | apply Drawn0.step)⟩
 ·
  rw [if_neg c4] at H
  have c4b0 : decide (a1 ≤ a0) = false := decide_eq_false c4
  clear c4
  obtain rfl := Option.some.inj H
  go_enter Tryz.func42, Tryz.ntmps42
  go_wp2
  go_ret
  exact ⟨by first | rfl | (simp; done) | (simp [*]; done), by repeat (first | exact Drawn0.refl _ | apply Drawn0.step)⟩

/-! ### R06_rules: function 43 -/
def R06_rules.l0 : Nat → List (S64) → Int → Option (Bool)
  | 0, _, _ => none
  | k + 1, x0, x3 => if x3 < (x0.length : Int) then (if 0 ≤ x3 then ((R06_in.f ((rd_T64 x0 x3).f0) 1 27).bind fun t314 => (if t314 = true then ((R06_in.f ((rd_T64 x0 x3).f1) 0 2).bind fun t316 => (if t316 = true then ((R06_in.f ((rd_T64 x0 x3).f2) 0 6).bind fun t318 => (if t318 = true then (R06_rules.l0 k x0 (wrap64 (x3 + 1))) else (some false))) else (some false))) else (some false))) else (none)) else (some true)
def R06_rules.f (k : Nat) (l0 : List (S64)) : Option (Bool) := if (l0.length : Int) > 32 then (some false) else (R06_rules.l0 k l0 0)
theorem R06_rules.mono_l : ∀ k, (∀ y0 y1, LeO (R06_rules.l0 k y0 y1) (R06_rules.l0 (k + 1) y0 y1))
  | 0 => fun _ _ r h => by simp [R06_rules.l0] at h
  | k + 1 => by
    have ih0 := R06_rules.mono_l k
    · intro y0 y1
      unfold R06_rules.l0
      repeat' first | (with_reducible apply ih0) | (with_reducible exact LeO.refl _) | (with_reducible exact LeO.none _) | (with_reducible refine LeO.ite ?_ ?_) | (with_reducible refine LeO.bind ?_ (fun _ => ?_)) | apply LeO.none | apply LeO.ite | (refine LeO.bind ?_ (fun _ => ?_))
theorem R06_rules.mono : ∀ a0 k, LeO (R06_rules.f k a0) (R06_rules.f (k + 1) a0) := by
  intro a0 k
  have ih0 := R06_rules.mono_l k
  unfold R06_rules.f
  repeat' first | (with_reducible apply ih0) | (with_reducible exact LeO.refl _) | (with_reducible exact LeO.none _) | (with_reducible refine LeO.ite ?_ ?_) | (with_reducible refine LeO.bind ?_ (fun _ => ?_)) | apply LeO.none | apply LeO.ite | (refine LeO.bind ?_ (fun _ => ?_))
set_option maxHeartbeats 8000000 in
set_option maxRecDepth 100000 in
theorem R06_rules.calls (k : Nat) (A0 : Option Addr) (c0 : Nat) (l0 : List (S64)) (r : Bool) (w : World) (hr0 : Kd.C k64 w A0 l0.length l0) (hc0 : l0.length ≤ c0) (h : R06_rules.f k l0 = some r) :
    Calls Tryz.prog 43 #[.slice A0 l0.length c0] w fun e w' => e = .returned (.bool r) ∧ Drawn0 w w' := by
 have HR0 := Aside0.mk hr0; have HC0 := Aside0.mk hc0; clear hr0 hc0; unfold R06_rules.f at h; have H := Aside0.mk h; clear h; go_enter Tryz.func43, Tryz.ntmps43; by_cases c461 : (l0.length : Int) > 32
 · replace H := a0p c461 H; have c461b0 : decide (32 < (l0.length : Int)) = true := decide_eq_true c461; (have c461b1 : decide (32 < l0.length) = true := decide_eq_true (by omega)); have Kc461 := Aside0.mk c461; clear c461; obtain rfl := Option.some.inj H.out; go_wp2; go_ret; exact ⟨by first | rfl | (simp; done) | (simp [*]; done), (by repeat (first | exact Drawn0.refl _ | apply Drawn0.step))⟩
 · replace H := a0n c461 H; have c461b0 : decide (32 < (l0.length : Int)) = false := decide_eq_false c461; (have c461b1 : decide (32 < l0.length) = false := decide_eq_false (by omega)); have Kc461 := Aside0.mk c461; clear c461; go_wp2_with fail; go_loopg [3] k (fun kq v3 w' => ∃ (x3_462 : Int), v3 = .int .i64 x3_462 ∧ Aside0 (R06_rules.l0 kq l0 x3_462 = some r) ∧ Aside0 (kq ≤ k) ∧ Drawn0 w w')
   case atStart => exact ⟨0, (by first | rfl | (simp; done) | (simp [*]; done)), H, ⟨Nat.le_refl _⟩, (by repeat (first | exact Drawn0.refl _ | apply Drawn0.step))⟩
   case round =>
    clear H  ; obtain ⟨x3_462, rfl, HA, HK462, ⟨nd462, rfl⟩⟩ := hrel
    cases gk with
    | zero => exact absurd HA.out (by simp [R06_rules.l0])
    | succ k462 =>
     have H1 := HA.out; simp only [R06_rules.l0] at H1; have H := Aside0.mk H1; clear H1 HA; by_cases c463 : x3_462 < (l0.length : Int)
     · replace H := a0p c463 H; have c463b0 : decide (x3_462 < (l0.length : Int)) = true := decide_eq_true c463; have Kc463 := Aside0.mk c463; clear c463; by_cases c464 : 0 ≤ x3_462
       · replace H := a0p c464 H; have c464b0 : decide (0 ≤ x3_462) = true := decide_eq_true c464; have Kc464 := Aside0.mk c464; clear c464; have p313 : 0 ≤ (x3_462 : Int) := Kc464.out; have q313 : x3_462 < (l0.length : Int) := Kc463.out; obtain ⟨ad313, e313, hx313_0, hx313_1, hx313_2⟩ := at_T64 HR0.out (x3_462) p313 q313
         cases e313
         obtain ⟨t314, q465, H1⟩ := a0b H; clear H; have H := H1; clear H1; go_wp2_with fail; (with_reducible refine (R06_in.calls ((rd_T64 l0 x3_462).f0) 1 27 t314 _  q465.out).mono ?_); clear q465; (rintro e w466 ⟨rfl, ⟨nd, rfl⟩⟩); by_cases c467 : t314 = true
         · replace H := a0p c467 H; subst c467; have p315 : 0 ≤ (x3_462 : Int) := Kc464.out; have q315 : x3_462 < (l0.length : Int) := Kc463.out; obtain ⟨ad315, e315, hx315_0, hx315_1, hx315_2⟩ := at_T64 HR0.out (x3_462) p315 q315; obtain rfl := Option.some.inj e315; obtain ⟨t316, q468, H1⟩ := a0b H; clear H; have H := H1; clear H1; go_wp2_with fail; (with_reducible refine (R06_in.calls ((rd_T64 l0 x3_462).f1) 0 2 t316 _  q468.out).mono ?_); clear q468; (rintro e w469 ⟨rfl, ⟨nd, rfl⟩⟩); by_cases c470 : t316 = true
           · replace H := a0p c470 H; subst c470; have p317 : 0 ≤ (x3_462 : Int) := Kc464.out; have q317 : x3_462 < (l0.length : Int) := Kc463.out; obtain ⟨ad317, e317, hx317_0, hx317_1, hx317_2⟩ := at_T64 HR0.out (x3_462) p317 q317; obtain rfl := Option.some.inj e317; obtain ⟨t318, q471, H1⟩ := a0b H; clear H; have H := H1; clear H1; go_wp2_with fail; (with_reducible refine (R06_in.calls ((rd_T64 l0 x3_462).f2) 0 6 t318 _  q471.out).mono ?_); clear q471; (rintro e w472 ⟨rfl, ⟨nd, rfl⟩⟩); by_cases c473 : t318 = true
             · replace H := a0p c473 H; subst c473; go_wp2; go_roundg k462
               case measure => have := HK462.out; omega
               case rel => exact ⟨(wrap64 (x3_462 + 1)), (by first | rfl | (simp; done) | (simp [*]; done)), H, ⟨by have := HK462.out; omega⟩, (by repeat (first | exact Drawn0.refl _ | apply Drawn0.step))⟩
             · replace H := a0n c473 H; replace c473 := Bool.eq_false_iff.mpr c473; subst c473; obtain rfl := Option.some.inj H.out; go_wp2; go_ret; exact ⟨by first | rfl | (simp; done) | (simp [*]; done), (by repeat (first | exact Drawn0.refl _ | apply Drawn0.step))⟩
           · replace H := a0n c470 H; replace c470 := Bool.eq_false_iff.mpr c470; subst c470; obtain rfl := Option.some.inj H.out; go_wp2; go_ret; exact ⟨by first | rfl | (simp; done) | (simp [*]; done), (by repeat (first | exact Drawn0.refl _ | apply Drawn0.step))⟩
         · replace H := a0n c467 H; replace c467 := Bool.eq_false_iff.mpr c467; subst c467; obtain rfl := Option.some.inj H.out; go_wp2; go_ret; exact ⟨by first | rfl | (simp; done) | (simp [*]; done), (by repeat (first | exact Drawn0.refl _ | apply Drawn0.step))⟩
       · replace H := a0n c464 H; exact absurd H.out (by simp)
     · replace H := a0n c463 H; have c463b0 : decide (x3_462 < (l0.length : Int)) = false := decide_eq_false c463; have Kc463 := Aside0.mk c463; clear c463; obtain rfl := Option.some.inj H.out; go_wp2; go_ret; exact ⟨by first | rfl | (simp; done) | (simp [*]; done), (by repeat (first | exact Drawn0.refl _ | apply Drawn0.step))⟩

/-! ### R06_spoken: function 126 -/
mutual
def R06_spoken.l0 : Nat → Int → ByteArray → List (S62) → List (S109) → List (S111) → List (S113) → List (S115) → List (S117) → List (S119) → List (S60) → List (S64) → Int → Int → Int → Option (Bool)
  | 0, _, _, _, _, _, _, _, _, _, _, _, _, _, _ => none
  | k + 1, x3, x320000, x320001, x320002, x320003, x320004, x320005, x320006, x320007, x320008, x320009, x320010, x320011, x320012 => if x3 < (x320006.length : Int) then (if 0 ≤ x3 then ((R06_Name.f k ((rd_T117 x320006 x3).f0)).bind fun t321 => (if t321 = true then ((R06_in.f ((rd_T117 x320006 x3).f1) 1 32).bind fun t323 => (if t323 = true then (R06_spoken.l0 k (wrap64 (x3 + 1)) x320000 x320001 x320002 x320003 x320004 x320005 x320006 x320007 x320008 x320009 x320010 x320011 x320012) else (some false))) else (some false))) else (none)) else (R06_spoken.l1 k 0 x320000 x320001 x320002 x320003 x320004 x320005 x320006 x320007 x320008 x320009 x320010 x320011 x320012)
def R06_spoken.l1 : Nat → Int → ByteArray → List (S62) → List (S109) → List (S111) → List (S113) → List (S115) → List (S117) → List (S119) → List (S60) → List (S64) → Int → Int → Int → Option (Bool)
  | 0, _, _, _, _, _, _, _, _, _, _, _, _, _, _ => none
  | k + 1, x4, x320000, x320001, x320002, x320003, x320004, x320005, x320006, x320007, x320008, x320009, x320010, x320011, x320012 => if x4 < (x320007.length : Int) then (if 0 ≤ x4 then ((R06_Name.f k ((rd_T119 x320007 x4).f0)).bind fun t326 => (if t326 = true then ((R06_in.f ((rd_T119 x320007 x4).f1) 1 32).bind fun t327 => (if t327 = true then ((R06_in.f ((rd_T119 x320007 x4).f2) 1 32).bind fun t328 => (if t328 = true then (R06_spoken.l1 k (wrap64 (x4 + 1)) x320000 x320001 x320002 x320003 x320004 x320005 x320006 x320007 x320008 x320009 x320010 x320011 x320012) else (some false))) else (some false))) else (some false))) else (none)) else (R06_spoken.l2 k 0 x320000 x320001 x320002 x320003 x320004 x320005 x320006 x320007 x320008 x320009 x320010 x320011 x320012)
def R06_spoken.l2 : Nat → Int → ByteArray → List (S62) → List (S109) → List (S111) → List (S113) → List (S115) → List (S117) → List (S119) → List (S60) → List (S64) → Int → Int → Int → Option (Bool)
  | 0, _, _, _, _, _, _, _, _, _, _, _, _, _, _ => none
  | k + 1, x6, x320000, x320001, x320002, x320003, x320004, x320005, x320006, x320007, x320008, x320009, x320010, x320011, x320012 => if x6 < (x320008.length : Int) then (if 0 ≤ x6 then ((R06_Name.f k ((rd_T60 x320008 x6).f0)).bind fun t331 => (if t331 = true then ((R06_in.f ((rd_T60 x320008 x6).f3) 1 32).bind fun t332 => (if t332 = true then ((R06_in.f ((rd_T60 x320008 x6).f4) 0 32).bind fun t333 => (if t333 = true then ((R06_in.f ((rd_T60 x320008 x6).f5) 0 1048576).bind fun t334 => (if t334 = true then (R06_spoken.l2 k (wrap64 (x6 + 1)) x320000 x320001 x320002 x320003 x320004 x320005 x320006 x320007 x320008 x320009 x320010 x320011 x320012) else (some false))) else (some false))) else (some false))) else (some false))) else (none)) else (some true)
end
def R06_spoken.f (k : Nat) (a0_0 : ByteArray) (l0_1 : List (S62)) (l0_2 : List (S109)) (l0_3 : List (S111)) (l0_4 : List (S113)) (l0_5 : List (S115)) (l0_6 : List (S117)) (l0_7 : List (S119)) (l0_8 : List (S60)) (l0_9 : List (S64)) (a0_10 : Int) (a0_11 : Int) (a0_12 : Int) : Option (Bool) := R06_spoken.l0 k 0 a0_0 l0_1 l0_2 l0_3 l0_4 l0_5 l0_6 l0_7 l0_8 l0_9 a0_10 a0_11 a0_12
theorem R06_spoken.mono_l : ∀ k, (∀ y0 y1 y2 y3 y4 y5 y6 y7 y8 y9 y10 y11 y12 y13, LeO (R06_spoken.l0 k y0 y1 y2 y3 y4 y5 y6 y7 y8 y9 y10 y11 y12 y13) (R06_spoken.l0 (k + 1) y0 y1 y2 y3 y4 y5 y6 y7 y8 y9 y10 y11 y12 y13)) ∧ (∀ y0 y1 y2 y3 y4 y5 y6 y7 y8 y9 y10 y11 y12 y13, LeO (R06_spoken.l1 k y0 y1 y2 y3 y4 y5 y6 y7 y8 y9 y10 y11 y12 y13) (R06_spoken.l1 (k + 1) y0 y1 y2 y3 y4 y5 y6 y7 y8 y9 y10 y11 y12 y13)) ∧ (∀ y0 y1 y2 y3 y4 y5 y6 y7 y8 y9 y10 y11 y12 y13, LeO (R06_spoken.l2 k y0 y1 y2 y3 y4 y5 y6 y7 y8 y9 y10 y11 y12 y13) (R06_spoken.l2 (k + 1) y0 y1 y2 y3 y4 y5 y6 y7 y8 y9 y10 y11 y12 y13))
  | 0 => ⟨fun _ _ _ _ _ _ _ _ _ _ _ _ _ _ r h => by simp [R06_spoken.l0] at h, fun _ _ _ _ _ _ _ _ _ _ _ _ _ _ r h => by simp [R06_spoken.l1] at h, fun _ _ _ _ _ _ _ _ _ _ _ _ _ _ r h => by simp [R06_spoken.l2] at h⟩
  | k + 1 => by
    obtain ⟨ih0, ih1, ih2⟩ := R06_spoken.mono_l k
    refine ⟨?_, ?_, ?_⟩
    · intro y0 y1 y2 y3 y4 y5 y6 y7 y8 y9 y10 y11 y12 y13
      unfold R06_spoken.l0
      repeat' first | (with_reducible apply ih0) | (with_reducible apply ih1) | (with_reducible apply ih2) | (with_reducible apply R06_Name.mono) | (with_reducible exact LeO.refl _) | (with_reducible exact LeO.none _) | (with_reducible refine LeO.ite ?_ ?_) | (with_reducible refine LeO.bind ?_ (fun _ => ?_)) | apply LeO.none | apply LeO.ite | (refine LeO.bind ?_ (fun _ => ?_))
    · intro y0 y1 y2 y3 y4 y5 y6 y7 y8 y9 y10 y11 y12 y13
      unfold R06_spoken.l1
      repeat' first | (with_reducible apply ih0) | (with_reducible apply ih1) | (with_reducible apply ih2) | (with_reducible apply R06_Name.mono) | (with_reducible exact LeO.refl _) | (with_reducible exact LeO.none _) | (with_reducible refine LeO.ite ?_ ?_) | (with_reducible refine LeO.bind ?_ (fun _ => ?_)) | apply LeO.none | apply LeO.ite | (refine LeO.bind ?_ (fun _ => ?_))
    · intro y0 y1 y2 y3 y4 y5 y6 y7 y8 y9 y10 y11 y12 y13
      unfold R06_spoken.l2
      repeat' first | (with_reducible apply ih0) | (with_reducible apply ih1) | (with_reducible apply ih2) | (with_reducible apply R06_Name.mono) | (with_reducible exact LeO.refl _) | (with_reducible exact LeO.none _) | (with_reducible refine LeO.ite ?_ ?_) | (with_reducible refine LeO.bind ?_ (fun _ => ?_)) | apply LeO.none | apply LeO.ite | (refine LeO.bind ?_ (fun _ => ?_))
theorem R06_spoken.mono : ∀ a0 a1 a2 a3 a4 a5 a6 a7 a8 a9 a10 a11 a12 k, LeO (R06_spoken.f k a0 a1 a2 a3 a4 a5 a6 a7 a8 a9 a10 a11 a12) (R06_spoken.f (k + 1) a0 a1 a2 a3 a4 a5 a6 a7 a8 a9 a10 a11 a12) := by
  intro a0 a1 a2 a3 a4 a5 a6 a7 a8 a9 a10 a11 a12 k
  obtain ⟨ih0, ih1, ih2⟩ := R06_spoken.mono_l k
  unfold R06_spoken.f
  repeat' first | (with_reducible apply ih0) | (with_reducible apply ih1) | (with_reducible apply ih2) | (with_reducible apply R06_Name.mono) | (with_reducible exact LeO.refl _) | (with_reducible exact LeO.none _) | (with_reducible refine LeO.ite ?_ ?_) | (with_reducible refine LeO.bind ?_ (fun _ => ?_)) | apply LeO.none | apply LeO.ite | (refine LeO.bind ?_ (fun _ => ?_))
set_option maxHeartbeats 8000000 in
set_option maxRecDepth 100000 in
theorem R06_spoken.calls (k : Nat) (a0_0 : ByteArray) (A0_1 : Option Addr) (c0_1 : Nat) (l0_1 : List (S62)) (A0_2 : Option Addr) (c0_2 : Nat) (l0_2 : List (S109)) (A0_3 : Option Addr) (c0_3 : Nat) (l0_3 : List (S111)) (A0_4 : Option Addr) (c0_4 : Nat) (l0_4 : List (S113)) (A0_5 : Option Addr) (c0_5 : Nat) (l0_5 : List (S115)) (A0_6 : Option Addr) (c0_6 : Nat) (l0_6 : List (S117)) (A0_7 : Option Addr) (c0_7 : Nat) (l0_7 : List (S119)) (A0_8 : Option Addr) (c0_8 : Nat) (l0_8 : List (S60)) (A0_9 : Option Addr) (c0_9 : Nat) (l0_9 : List (S64)) (a0_10 : Int) (a0_11 : Int) (a0_12 : Int) (r : Bool) (w : World) (hr0_1 : Kd.C k62 w A0_1 l0_1.length l0_1) (hc0_1 : l0_1.length ≤ c0_1) (hr0_2 : Kd.C k109 w A0_2 l0_2.length l0_2) (hc0_2 : l0_2.length ≤ c0_2) (hr0_3 : Kd.C k111 w A0_3 l0_3.length l0_3) (hc0_3 : l0_3.length ≤ c0_3) (hr0_4 : Kd.C k113 w A0_4 l0_4.length l0_4) (hc0_4 : l0_4.length ≤ c0_4) (hr0_5 : Kd.C k115 w A0_5 l0_5.length l0_5) (hc0_5 : l0_5.length ≤ c0_5) (hr0_6 : Kd.C k117 w A0_6 l0_6.length l0_6) (hc0_6 : l0_6.length ≤ c0_6) (hr0_7 : Kd.C k119 w A0_7 l0_7.length l0_7) (hc0_7 : l0_7.length ≤ c0_7) (hr0_8 : Kd.C k60 w A0_8 l0_8.length l0_8) (hc0_8 : l0_8.length ≤ c0_8) (hr0_9 : Kd.C k64 w A0_9 l0_9.length l0_9) (hc0_9 : l0_9.length ≤ c0_9) (h : R06_spoken.f k a0_0 l0_1 l0_2 l0_3 l0_4 l0_5 l0_6 l0_7 l0_8 l0_9 a0_10 a0_11 a0_12 = some r) :
    Calls Tryz.prog 126 #[.agg #[.string a0_0, .slice A0_1 l0_1.length c0_1, .slice A0_2 l0_2.length c0_2, .slice A0_3 l0_3.length c0_3, .slice A0_4 l0_4.length c0_4, .slice A0_5 l0_5.length c0_5, .slice A0_6 l0_6.length c0_6, .slice A0_7 l0_7.length c0_7, .slice A0_8 l0_8.length c0_8, .slice A0_9 l0_9.length c0_9, .int .i64 a0_10, .int .i64 a0_11, .int .i64 a0_12]] w fun e w' => e = .returned (.bool r) ∧ Below w.heap.size w w' := by
 have HR0_1 := Aside0.mk hr0_1; have HC0_1 := Aside0.mk hc0_1; clear hr0_1 hc0_1; have HR0_2 := Aside0.mk hr0_2; have HC0_2 := Aside0.mk hc0_2; clear hr0_2 hc0_2; have HR0_3 := Aside0.mk hr0_3; have HC0_3 := Aside0.mk hc0_3; clear hr0_3 hc0_3; have HR0_4 := Aside0.mk hr0_4; have HC0_4 := Aside0.mk hc0_4; clear hr0_4 hc0_4; have HR0_5 := Aside0.mk hr0_5; have HC0_5 := Aside0.mk hc0_5; clear hr0_5 hc0_5; have HR0_6 := Aside0.mk hr0_6; have HC0_6 := Aside0.mk hc0_6; clear hr0_6 hc0_6; have HR0_7 := Aside0.mk hr0_7; have HC0_7 := Aside0.mk hc0_7; clear hr0_7 hc0_7; have HR0_8 := Aside0.mk hr0_8; have HC0_8 := Aside0.mk hc0_8; clear hr0_8 hc0_8; have HR0_9 := Aside0.mk hr0_9; have HC0_9 := Aside0.mk hc0_9; clear hr0_9 hc0_9; unfold R06_spoken.f at h; have H := Aside0.mk h; clear h; have HB := Aside0.mk (Below.refl w.heap.size w); have hu52 := Tryz.underlying52; have hu60 := Tryz.underlying60; have hu119 := Tryz.underlying119; go_enter Tryz.func126, Tryz.ntmps126; have BK474 := Aside0.mk (pe_box0 w #[.string a0_0, .slice A0_1 l0_1.length c0_1, .slice A0_2 l0_2.length c0_2, .slice A0_3 l0_3.length c0_3, .slice A0_4 l0_4.length c0_4, .slice A0_5 l0_5.length c0_5, .slice A0_6 l0_6.length c0_6, .slice A0_7 l0_7.length c0_7, .slice A0_8 l0_8.length c0_8, .slice A0_9 l0_9.length c0_9, .int .i64 a0_10, .int .i64 a0_11, .int .i64 a0_12] 52); replace HB := Aside0.mk (below_alloc HB.out (.cells #[.string a0_0, .slice A0_1 l0_1.length c0_1, .slice A0_2 l0_2.length c0_2, .slice A0_3 l0_3.length c0_3, .slice A0_4 l0_4.length c0_4, .slice A0_5 l0_5.length c0_5, .slice A0_6 l0_6.length c0_6, .slice A0_7 l0_7.length c0_7, .slice A0_8 l0_8.length c0_8, .slice A0_9 l0_9.length c0_9, .int .i64 a0_10, .int .i64 a0_11, .int .i64 a0_12] 52)); go_wp2_with fail; go_loopg [3] k (fun kq v3 w' => ∃ (x3_475 : Int), v3 = .int .i64 x3_475 ∧ Aside0 (R06_spoken.l0 kq x3_475 a0_0 l0_1 l0_2 l0_3 l0_4 l0_5 l0_6 l0_7 l0_8 l0_9 a0_10 a0_11 a0_12 = some r) ∧ Aside0 (kq ≤ k) ∧ Aside0 (w'.heap[w.heap.size]? = some (.cells #[.string a0_0, .slice A0_1 l0_1.length c0_1, .slice A0_2 l0_2.length c0_2, .slice A0_3 l0_3.length c0_3, .slice A0_4 l0_4.length c0_4, .slice A0_5 l0_5.length c0_5, .slice A0_6 l0_6.length c0_6, .slice A0_7 l0_7.length c0_7, .slice A0_8 l0_8.length c0_8, .slice A0_9 l0_9.length c0_9, .int .i64 a0_10, .int .i64 a0_11, .int .i64 a0_12] 52 (0, 0))) ∧ Aside0 (Below w.heap.size w w'))
 case atStart => exact ⟨0, (by first | rfl | (simp; done) | (simp [*]; done)), H, ⟨Nat.le_refl _⟩, BK474, HB⟩
 case round =>
  clear H HB BK474; obtain ⟨x3_475, rfl, HA, HK475, BK474, HB⟩ := hrel
  cases gk with
  | zero => exact absurd HA.out (by simp [R06_spoken.l0])
  | succ k475 =>
   have H1 := HA.out; simp only [R06_spoken.l0] at H1; have H := Aside0.mk H1; clear H1 HA; have Z474 := blk13 BK474.out; by_cases c476 : x3_475 < (l0_6.length : Int)
   · replace H := a0p c476 H; have c476b0 : decide (x3_475 < (l0_6.length : Int)) = true := decide_eq_true c476; have Kc476 := Aside0.mk c476; clear c476; by_cases c477 : 0 ≤ x3_475
     · replace H := a0p c477 H; have c477b0 : decide (0 ≤ x3_475) = true := decide_eq_true c477; have Kc477 := Aside0.mk c477; clear c477; have p320 : 0 ≤ (x3_475 : Int) := Kc477.out; have q320 : x3_475 < (l0_6.length : Int) := Kc476.out; obtain ⟨ad320, e320, hx320_0, hx320_1⟩ := at_T117 HR0_6.out (x3_475) p320 q320
       cases e320
       replace hx320_0 := (HB.out.cell (World.block_lt_of_cell? w _ hx320_0)).trans hx320_0; replace hx320_1 := (HB.out.cell (World.block_lt_of_cell? w _ hx320_1)).trans hx320_1; obtain ⟨t321, q478, H1⟩ := a0b H; clear H; have H := H1; clear H1; go_wp2_with fail; (with_reducible refine (R06_Name.calls k475 ((rd_T117 l0_6 x3_475).f0) t321 _  q478.out).mono ?_); clear q478; (rintro e w479 ⟨rfl, hd⟩); have hb := hd.below; clear hd; replace HB := Aside0.mk (below_step HB.out hb); replace BK474 := Aside0.mk (blk_below BK474.out hb)
       try clear hx320_0 hx320_1
       clear hb
       try clear Z474
       have Z474 := blk13 BK474.out; by_cases c480 : t321 = true
       · replace H := a0p c480 H; subst c480; have p322 : 0 ≤ (x3_475 : Int) := Kc477.out; have q322 : x3_475 < (l0_6.length : Int) := Kc476.out; obtain ⟨ad322, e322, hx322_0, hx322_1⟩ := at_T117 HR0_6.out (x3_475) p322 q322; obtain rfl := Option.some.inj e322; replace hx322_0 := (HB.out.cell (World.block_lt_of_cell? w _ hx322_0)).trans hx322_0; replace hx322_1 := (HB.out.cell (World.block_lt_of_cell? w _ hx322_1)).trans hx322_1; obtain ⟨t323, q481, H1⟩ := a0b H; clear H; have H := H1; clear H1; go_wp2_with fail; (with_reducible refine (R06_in.calls ((rd_T117 l0_6 x3_475).f1) 1 32 t323 _  q481.out).mono ?_); clear q481; (rintro e w482 ⟨rfl, hd⟩); have hb := hd.below; clear hd; replace HB := Aside0.mk (below_step HB.out hb); replace BK474 := Aside0.mk (blk_below BK474.out hb)
         try clear hx322_0 hx322_1
         clear hb
         try clear Z474
         have Z474 := blk13 BK474.out; by_cases c483 : t323 = true
         · replace H := a0p c483 H; subst c483; go_wp2; go_roundg k475
           case measure => have := HK475.out; omega
           case rel => exact ⟨(wrap64 (x3_475 + 1)), (by first | rfl | (simp; done) | (simp [*]; done)), H, ⟨by have := HK475.out; omega⟩, BK474, HB⟩
         · replace H := a0n c483 H; replace c483 := Bool.eq_false_iff.mpr c483; subst c483; obtain rfl := Option.some.inj H.out; go_wp2; go_ret; exact ⟨by first | rfl | (simp; done) | (simp [*]; done), HB.out⟩
       · replace H := a0n c480 H; replace c480 := Bool.eq_false_iff.mpr c480; subst c480; obtain rfl := Option.some.inj H.out; go_wp2; go_ret; exact ⟨by first | rfl | (simp; done) | (simp [*]; done), HB.out⟩
     · replace H := a0n c477 H; exact absurd H.out (by simp)
   · replace H := a0n c476 H; have c476b0 : decide (x3_475 < (l0_6.length : Int)) = false := decide_eq_false c476; have Kc476 := Aside0.mk c476; clear c476; go_wp2_with fail; go_loopg [4] k475 (fun kq v4 w' => ∃ (x4_484 : Int), v4 = .int .i64 x4_484 ∧ Aside0 (R06_spoken.l1 kq x4_484 a0_0 l0_1 l0_2 l0_3 l0_4 l0_5 l0_6 l0_7 l0_8 l0_9 a0_10 a0_11 a0_12 = some r) ∧ Aside0 (kq ≤ k475) ∧ Aside0 (w'.heap[w.heap.size]? = some (.cells #[.string a0_0, .slice A0_1 l0_1.length c0_1, .slice A0_2 l0_2.length c0_2, .slice A0_3 l0_3.length c0_3, .slice A0_4 l0_4.length c0_4, .slice A0_5 l0_5.length c0_5, .slice A0_6 l0_6.length c0_6, .slice A0_7 l0_7.length c0_7, .slice A0_8 l0_8.length c0_8, .slice A0_9 l0_9.length c0_9, .int .i64 a0_10, .int .i64 a0_11, .int .i64 a0_12] 52 (0, 0))) ∧ Aside0 (Below w.heap.size w w'))
     case atStart => exact ⟨0, (by first | rfl | (simp; done) | (simp [*]; done)), H, ⟨Nat.le_refl _⟩, BK474, HB⟩
     case round =>
      clear H HB BK474
      try clear Z474
      obtain ⟨x4_484, rfl, HA, HK484, BK474, HB⟩ := hrel
      cases gk with
      | zero => exact absurd HA.out (by simp [R06_spoken.l1])
      | succ k484 =>
       have H1 := HA.out; simp only [R06_spoken.l1] at H1; have H := Aside0.mk H1; clear H1 HA; have Z474 := blk13 BK474.out; by_cases c485 : x4_484 < (l0_7.length : Int)
       · replace H := a0p c485 H; have c485b0 : decide (x4_484 < (l0_7.length : Int)) = true := decide_eq_true c485; have Kc485 := Aside0.mk c485; clear c485; by_cases c486 : 0 ≤ x4_484
         · replace H := a0p c486 H; have c486b0 : decide (0 ≤ x4_484) = true := decide_eq_true c486; have Kc486 := Aside0.mk c486; clear c486; have p324 : 0 ≤ (x4_484 : Int) := Kc486.out; have q324 : x4_484 < (l0_7.length : Int) := Kc485.out; obtain ⟨ad324, e324, hx324_0, hx324_1, hx324_2, hx324_3⟩ := at_T119 HR0_7.out (x4_484) p324 q324
           cases e324
           replace hx324_0 := (HB.out.cell (World.block_lt_of_cell? w _ hx324_0)).trans hx324_0; replace hx324_1 := (HB.out.cell (World.block_lt_of_cell? w _ hx324_1)).trans hx324_1; replace hx324_2 := (HB.out.cell (World.block_lt_of_cell? w _ hx324_2)).trans hx324_2; replace hx324_3 := (HB.out.cell (World.block_lt_of_cell? w _ hx324_3)).trans hx324_3; (have ha488 := fun o_ => blk13 (blk_below BK474.out (alloc_below0 wr o_))); (have ha489 := fun o_ => ((alloc_below0 wr o_).cell (World.block_lt_of_cell? wr _ hx324_0)).trans hx324_0); (have ha490 := fun o_ => ((alloc_below0 wr o_).cell (World.block_lt_of_cell? wr _ hx324_1)).trans hx324_1); (have ha491 := fun o_ => ((alloc_below0 wr o_).cell (World.block_lt_of_cell? wr _ hx324_2)).trans hx324_2); (have ha492 := fun o_ => ((alloc_below0 wr o_).cell (World.block_lt_of_cell? wr _ hx324_3)).trans hx324_3); have BK487 := Aside0.mk (pe_box0 wr #[.string ((rd_T119 l0_7 x4_484).f0), .int .i64 ((rd_T119 l0_7 x4_484).f1), .int .i64 ((rd_T119 l0_7 x4_484).f2), .bool ((rd_T119 l0_7 x4_484).f3)] 119); replace BK474 := Aside0.mk (blk_below BK474.out (alloc_below0 _ (.cells #[.string ((rd_T119 l0_7 x4_484).f0), .int .i64 ((rd_T119 l0_7 x4_484).f1), .int .i64 ((rd_T119 l0_7 x4_484).f2), .bool ((rd_T119 l0_7 x4_484).f3)] 119))); replace HB := Aside0.mk (below_alloc HB.out (.cells #[.string ((rd_T119 l0_7 x4_484).f0), .int .i64 ((rd_T119 l0_7 x4_484).f1), .int .i64 ((rd_T119 l0_7 x4_484).f2), .bool ((rd_T119 l0_7 x4_484).f3)] 119)); obtain ⟨t326, q493, H1⟩ := a0b H; clear H; have H := H1; clear H1; go_wp2_with fail; (with_reducible refine (R06_Name.calls k484 ((rd_T119 l0_7 x4_484).f0) t326 _  q493.out).mono ?_); clear q493; (rintro e w494 ⟨rfl, hd⟩); have hb := hd.below; clear hd; replace HB := Aside0.mk (below_step HB.out hb); replace BK474 := Aside0.mk (blk_below BK474.out hb); replace BK487 := Aside0.mk (blk_below BK487.out hb)
           try clear hx324_0 hx324_1 hx324_2 hx324_3
           clear hb
           try clear Z474 ha488 ha489 ha490 ha491 ha492
           have Z474 := blk13 BK474.out; have Z487 := blk4 BK487.out; by_cases c495 : t326 = true
           · replace H := a0p c495 H; subst c495; obtain ⟨t327, q496, H1⟩ := a0b H; clear H; have H := H1; clear H1; go_wp2_with fail; (with_reducible refine (R06_in.calls ((rd_T119 l0_7 x4_484).f1) 1 32 t327 _  q496.out).mono ?_); clear q496; (rintro e w497 ⟨rfl, hd⟩); have hb := hd.below; clear hd; replace HB := Aside0.mk (below_step HB.out hb); replace BK474 := Aside0.mk (blk_below BK474.out hb); replace BK487 := Aside0.mk (blk_below BK487.out hb); clear hb
             try clear Z474 Z487
             have Z474 := blk13 BK474.out; have Z487 := blk4 BK487.out; by_cases c498 : t327 = true
             · replace H := a0p c498 H; subst c498; obtain ⟨t328, q499, H1⟩ := a0b H; clear H; have H := H1; clear H1; go_wp2_with fail; (with_reducible refine (R06_in.calls ((rd_T119 l0_7 x4_484).f2) 1 32 t328 _  q499.out).mono ?_); clear q499; (rintro e w500 ⟨rfl, hd⟩); have hb := hd.below; clear hd; replace HB := Aside0.mk (below_step HB.out hb); replace BK474 := Aside0.mk (blk_below BK474.out hb); replace BK487 := Aside0.mk (blk_below BK487.out hb); clear hb
               try clear Z474 Z487
               have Z474 := blk13 BK474.out; have Z487 := blk4 BK487.out; by_cases c501 : t328 = true
               · replace H := a0p c501 H; subst c501; go_wp2; go_roundg k484
                 case measure => have := HK475.out; have := HK484.out; omega
                 case rel => exact ⟨(wrap64 (x4_484 + 1)), (by first | rfl | (simp; done) | (simp [*]; done)), H, ⟨by have := HK475.out; have := HK484.out; omega⟩, BK474, HB⟩
               · replace H := a0n c501 H; replace c501 := Bool.eq_false_iff.mpr c501; subst c501; obtain rfl := Option.some.inj H.out; go_wp2; go_ret; exact ⟨by first | rfl | (simp; done) | (simp [*]; done), HB.out⟩
             · replace H := a0n c498 H; replace c498 := Bool.eq_false_iff.mpr c498; subst c498; obtain rfl := Option.some.inj H.out; go_wp2; go_ret; exact ⟨by first | rfl | (simp; done) | (simp [*]; done), HB.out⟩
           · replace H := a0n c495 H; replace c495 := Bool.eq_false_iff.mpr c495; subst c495; obtain rfl := Option.some.inj H.out; go_wp2; go_ret; exact ⟨by first | rfl | (simp; done) | (simp [*]; done), HB.out⟩
         · replace H := a0n c486 H; exact absurd H.out (by simp)
       · replace H := a0n c485 H; have c485b0 : decide (x4_484 < (l0_7.length : Int)) = false := decide_eq_false c485; have Kc485 := Aside0.mk c485; clear c485; go_wp2_with fail; go_loopg [6] k484 (fun kq v6 w' => ∃ (x6_502 : Int), v6 = .int .i64 x6_502 ∧ Aside0 (R06_spoken.l2 kq x6_502 a0_0 l0_1 l0_2 l0_3 l0_4 l0_5 l0_6 l0_7 l0_8 l0_9 a0_10 a0_11 a0_12 = some r) ∧ Aside0 (kq ≤ k484) ∧ Aside0 (w'.heap[w.heap.size]? = some (.cells #[.string a0_0, .slice A0_1 l0_1.length c0_1, .slice A0_2 l0_2.length c0_2, .slice A0_3 l0_3.length c0_3, .slice A0_4 l0_4.length c0_4, .slice A0_5 l0_5.length c0_5, .slice A0_6 l0_6.length c0_6, .slice A0_7 l0_7.length c0_7, .slice A0_8 l0_8.length c0_8, .slice A0_9 l0_9.length c0_9, .int .i64 a0_10, .int .i64 a0_11, .int .i64 a0_12] 52 (0, 0))) ∧ Aside0 (Below w.heap.size w w'))
         case atStart => exact ⟨0, (by first | rfl | (simp; done) | (simp [*]; done)), H, ⟨Nat.le_refl _⟩, BK474, HB⟩
         case round =>
          clear H HB BK474
          try clear Z474
          obtain ⟨x6_502, rfl, HA, HK502, BK474, HB⟩ := hrel
          cases gk with
          | zero => exact absurd HA.out (by simp [R06_spoken.l2])
          | succ k502 =>
           have H1 := HA.out; simp only [R06_spoken.l2] at H1; have H := Aside0.mk H1; clear H1 HA; have Z474 := blk13 BK474.out; by_cases c503 : x6_502 < (l0_8.length : Int)
           · replace H := a0p c503 H; have c503b0 : decide (x6_502 < (l0_8.length : Int)) = true := decide_eq_true c503; have Kc503 := Aside0.mk c503; clear c503; by_cases c504 : 0 ≤ x6_502
             · replace H := a0p c504 H; have c504b0 : decide (0 ≤ x6_502) = true := decide_eq_true c504; have Kc504 := Aside0.mk c504; clear c504; have p329 : 0 ≤ (x6_502 : Int) := Kc504.out; have q329 : x6_502 < (l0_8.length : Int) := Kc503.out; obtain ⟨ad329, e329, hx329_0, hx329_1, hx329_2, hx329_3, hx329_4, hx329_5⟩ := at_T60 HR0_8.out (x6_502) p329 q329
               cases e329
               replace hx329_0 := (HB.out.cell (World.block_lt_of_cell? w _ hx329_0)).trans hx329_0; replace hx329_1 := (HB.out.cell (World.block_lt_of_cell? w _ hx329_1)).trans hx329_1; replace hx329_2 := (HB.out.cell (World.block_lt_of_cell? w _ hx329_2)).trans hx329_2; replace hx329_3 := (HB.out.cell (World.block_lt_of_cell? w _ hx329_3)).trans hx329_3; replace hx329_4 := (HB.out.cell (World.block_lt_of_cell? w _ hx329_4)).trans hx329_4; replace hx329_5 := (HB.out.cell (World.block_lt_of_cell? w _ hx329_5)).trans hx329_5; (have ha506 := fun o_ => blk13 (blk_below BK474.out (alloc_below0 wr o_))); (have ha507 := fun o_ => ((alloc_below0 wr o_).cell (World.block_lt_of_cell? wr _ hx329_0)).trans hx329_0); (have ha508 := fun o_ => ((alloc_below0 wr o_).cell (World.block_lt_of_cell? wr _ hx329_1)).trans hx329_1); (have ha509 := fun o_ => ((alloc_below0 wr o_).cell (World.block_lt_of_cell? wr _ hx329_2)).trans hx329_2); (have ha510 := fun o_ => ((alloc_below0 wr o_).cell (World.block_lt_of_cell? wr _ hx329_3)).trans hx329_3); (have ha511 := fun o_ => ((alloc_below0 wr o_).cell (World.block_lt_of_cell? wr _ hx329_4)).trans hx329_4); (have ha512 := fun o_ => ((alloc_below0 wr o_).cell (World.block_lt_of_cell? wr _ hx329_5)).trans hx329_5); have BK505 := Aside0.mk (pe_box0 wr #[.string ((rd_T60 l0_8 x6_502).f0), .bool ((rd_T60 l0_8 x6_502).f1), .bool ((rd_T60 l0_8 x6_502).f2), .int .i64 ((rd_T60 l0_8 x6_502).f3), .int .i64 ((rd_T60 l0_8 x6_502).f4), .int .i64 ((rd_T60 l0_8 x6_502).f5)] 60); replace BK474 := Aside0.mk (blk_below BK474.out (alloc_below0 _ (.cells #[.string ((rd_T60 l0_8 x6_502).f0), .bool ((rd_T60 l0_8 x6_502).f1), .bool ((rd_T60 l0_8 x6_502).f2), .int .i64 ((rd_T60 l0_8 x6_502).f3), .int .i64 ((rd_T60 l0_8 x6_502).f4), .int .i64 ((rd_T60 l0_8 x6_502).f5)] 60))); replace HB := Aside0.mk (below_alloc HB.out (.cells #[.string ((rd_T60 l0_8 x6_502).f0), .bool ((rd_T60 l0_8 x6_502).f1), .bool ((rd_T60 l0_8 x6_502).f2), .int .i64 ((rd_T60 l0_8 x6_502).f3), .int .i64 ((rd_T60 l0_8 x6_502).f4), .int .i64 ((rd_T60 l0_8 x6_502).f5)] 60)); obtain ⟨t331, q513, H1⟩ := a0b H; clear H; have H := H1; clear H1; go_wp2_with fail; (with_reducible refine (R06_Name.calls k502 ((rd_T60 l0_8 x6_502).f0) t331 _  q513.out).mono ?_); clear q513; (rintro e w514 ⟨rfl, hd⟩); have hb := hd.below; clear hd; replace HB := Aside0.mk (below_step HB.out hb); replace BK474 := Aside0.mk (blk_below BK474.out hb); replace BK505 := Aside0.mk (blk_below BK505.out hb)
               try clear hx329_0 hx329_1 hx329_2 hx329_3 hx329_4 hx329_5
               clear hb
               try clear Z474 ha506 ha507 ha508 ha509 ha510 ha511 ha512
               have Z474 := blk13 BK474.out; have Z505 := blk6 BK505.out; by_cases c515 : t331 = true
               · replace H := a0p c515 H; subst c515; obtain ⟨t332, q516, H1⟩ := a0b H; clear H; have H := H1; clear H1; go_wp2_with fail; (with_reducible refine (R06_in.calls ((rd_T60 l0_8 x6_502).f3) 1 32 t332 _  q516.out).mono ?_); clear q516; (rintro e w517 ⟨rfl, hd⟩); have hb := hd.below; clear hd; replace HB := Aside0.mk (below_step HB.out hb); replace BK474 := Aside0.mk (blk_below BK474.out hb); replace BK505 := Aside0.mk (blk_below BK505.out hb); clear hb
                 try clear Z474 Z505
                 have Z474 := blk13 BK474.out; have Z505 := blk6 BK505.out; by_cases c518 : t332 = true
                 · replace H := a0p c518 H; subst c518; obtain ⟨t333, q519, H1⟩ := a0b H; clear H; have H := H1; clear H1; go_wp2_with fail; (with_reducible refine (R06_in.calls ((rd_T60 l0_8 x6_502).f4) 0 32 t333 _  q519.out).mono ?_); clear q519; (rintro e w520 ⟨rfl, hd⟩); have hb := hd.below; clear hd; replace HB := Aside0.mk (below_step HB.out hb); replace BK474 := Aside0.mk (blk_below BK474.out hb); replace BK505 := Aside0.mk (blk_below BK505.out hb); clear hb
                   try clear Z474 Z505
                   have Z474 := blk13 BK474.out; have Z505 := blk6 BK505.out; by_cases c521 : t333 = true
                   · replace H := a0p c521 H; subst c521; obtain ⟨t334, q522, H1⟩ := a0b H; clear H; have H := H1; clear H1; go_wp2_with fail; (with_reducible refine (R06_in.calls ((rd_T60 l0_8 x6_502).f5) 0 1048576 t334 _  q522.out).mono ?_); clear q522; (rintro e w523 ⟨rfl, hd⟩); have hb := hd.below; clear hd; replace HB := Aside0.mk (below_step HB.out hb); replace BK474 := Aside0.mk (blk_below BK474.out hb); replace BK505 := Aside0.mk (blk_below BK505.out hb); clear hb
                     try clear Z474 Z505
                     have Z474 := blk13 BK474.out; have Z505 := blk6 BK505.out; by_cases c524 : t334 = true
                     · replace H := a0p c524 H; subst c524; go_wp2; go_roundg k502
                       case measure => have := HK475.out; have := HK484.out; have := HK502.out; omega
                       case rel => exact ⟨(wrap64 (x6_502 + 1)), (by first | rfl | (simp; done) | (simp [*]; done)), H, ⟨by have := HK475.out; have := HK484.out; have := HK502.out; omega⟩, BK474, HB⟩
                     · replace H := a0n c524 H; replace c524 := Bool.eq_false_iff.mpr c524; subst c524; obtain rfl := Option.some.inj H.out; go_wp2; go_ret; exact ⟨by first | rfl | (simp; done) | (simp [*]; done), HB.out⟩
                   · replace H := a0n c521 H; replace c521 := Bool.eq_false_iff.mpr c521; subst c521; obtain rfl := Option.some.inj H.out; go_wp2; go_ret; exact ⟨by first | rfl | (simp; done) | (simp [*]; done), HB.out⟩
                 · replace H := a0n c518 H; replace c518 := Bool.eq_false_iff.mpr c518; subst c518; obtain rfl := Option.some.inj H.out; go_wp2; go_ret; exact ⟨by first | rfl | (simp; done) | (simp [*]; done), HB.out⟩
               · replace H := a0n c515 H; replace c515 := Bool.eq_false_iff.mpr c515; subst c515; obtain rfl := Option.some.inj H.out; go_wp2; go_ret; exact ⟨by first | rfl | (simp; done) | (simp [*]; done), HB.out⟩
             · replace H := a0n c504 H; exact absurd H.out (by simp)
           · replace H := a0n c503 H; have c503b0 : decide (x6_502 < (l0_8.length : Int)) = false := decide_eq_false c503; have Kc503 := Aside0.mk c503; clear c503; obtain rfl := Option.some.inj H.out; go_wp2; go_ret; exact ⟨by first | rfl | (simp; done) | (simp [*]; done), HB.out⟩

end Go.Proofs.YthpdlgamicmhaaaGreat.PR
