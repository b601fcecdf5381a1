/- Written by a program (pe.py): functions of the program as Lean functions, and that each call answers as they do. -/
import Derived.Test.YthpdlgamicmhaaaGreatPRx0
import Derived.Test.YthpdlgamicmhaaaGreatPRx1
import Derived.Test.YthpdlgamicmhaaaGreatPRx5
import Derived.Test.YthpdlgamicmhaaaGreatPRx6
import Derived.Test.YthpdlgamicmhaaaGreatPRx7
import Derived.Test.YthpdlgamicmhaaaGreatPRx14
import Derived.Test.YthpdlgamicmhaaaGreatPRx16
namespace Go.Proofs.YthpdlgamicmhaaaGreat.PR
open Go.RowKit Go.Proofs.YthpdlgamicmhaaaGreatW.PrintWords Go.Proofs.YthpdlgamicmhaaaGreatW.PrintLast Go.Proofs.YthpdlgamicmhaaaGreatW.PrintMore
attribute [local go_sem] max2_int min2_int max_two min_two max_three min_three max_four min_four   -- for this text's walks alone
set_option linter.unusedVariables false
set_option linter.unusedSimpArgs false

attribute [local go_sem high] eqA50 eqA69 eqA71 eqA77
/-! ### book_Partition_same: function 49 -/
def book_Partition_same.f (k : Nat) (a0_0 : ByteArray) (l0_1 : List (S62)) (l0_2 : List (S109)) (l0_3 : List (S111)) (l0_4 : List (S113)) (l0_5 : List (S115)) (l0_6 : List (S117)) (l0_7 : List (S119)) (l0_8 : List (S60)) (l0_9 : List (S64)) (a0_10 : Int) (a0_11 : Int) (a0_12 : Int) (a1_0 : ByteArray) (l1_1 : List (S62)) (l1_2 : List (S109)) (l1_3 : List (S111)) (l1_4 : List (S113)) (l1_5 : List (S115)) (l1_6 : List (S117)) (l1_7 : List (S119)) (l1_8 : List (S60)) (l1_9 : List (S64)) (a1_10 : Int) (a1_11 : Int) (a1_12 : Int) : Option (Bool) := if a0_0.toList = a1_0.toList then ((book_Area_127.f k l0_1 l1_1).bind fun t214 => (if t214 = true then ((book_Task_128.f k l0_2 l1_2).bind fun t215 => (if t215 = true then ((book_Lock_129.f k l0_3 l1_3).bind fun t216 => (if t216 = true then ((book_Sema_130.f k l0_4 l1_4).bind fun t217 => (if t217 = true then ((book_Event_131.f k l0_5 l1_5).bind fun t218 => (if t218 = true then ((book_Board_132.f k l0_6 l1_6).bind fun t219 => (if t219 = true then ((book_Buffer_133.f k l0_7 l1_7).bind fun t220 => (if t220 = true then ((book_Port_134.f k l0_8 l1_8).bind fun t221 => (if t221 = true then ((book_Rule_57.f k l0_9 l1_9).bind fun t222 => (if t222 = true then (if a0_10 = a1_10 then (some (a0_11 == a1_11 && (a0_12 == a1_12))) else (some false)) else (some false))) else (some false))) else (some false))) else (some false))) else (some false))) else (some false))) else (some false))) else (some false))) else (some false))) else (some false)
theorem book_Partition_same.mono : ∀ a0 a1 a2 a3 a4 a5 a6 a7 a8 a9 a10 a11 a12 a13 a14 a15 a16 a17 a18 a19 a20 a21 a22 a23 a24 a25 k, LeO (book_Partition_same.f k a0 a1 a2 a3 a4 a5 a6 a7 a8 a9 a10 a11 a12 a13 a14 a15 a16 a17 a18 a19 a20 a21 a22 a23 a24 a25) (book_Partition_same.f (k + 1) a0 a1 a2 a3 a4 a5 a6 a7 a8 a9 a10 a11 a12 a13 a14 a15 a16 a17 a18 a19 a20 a21 a22 a23 a24 a25) := by
  intro a0 a1 a2 a3 a4 a5 a6 a7 a8 a9 a10 a11 a12 a13 a14 a15 a16 a17 a18 a19 a20 a21 a22 a23 a24 a25 k
  unfold book_Partition_same.f
  repeat' first | (with_reducible apply book_Area_127.mono) | (with_reducible apply book_Board_132.mono) | (with_reducible apply book_Buffer_133.mono) | (with_reducible apply book_Event_131.mono) | (with_reducible apply book_Lock_129.mono) | (with_reducible apply book_Port_134.mono) | (with_reducible apply book_Rule_57.mono) | (with_reducible apply book_Sema_130.mono) | (with_reducible apply book_Task_128.mono) | (with_reducible exact LeO.refl _) | (with_reducible exact LeO.none _) | (with_reducible refine LeO.ite ?_ ?_) | (with_reducible refine LeO.bind ?_ (fun _ => ?_)) | apply LeO.none | apply LeO.ite | (refine LeO.bind ?_ (fun _ => ?_))
set_option maxHeartbeats 8000000 in
set_option maxRecDepth 100000 in
theorem book_Partition_same.calls (k : Nat) (a0_0 : ByteArray) (A0_1 : Option Addr) (c0_1 : Nat) (l0_1 : List (S62)) (A0_2 : Option Addr) (c0_2 : Nat) (l0_2 : List (S109)) (A0_3 : Option Addr) (c0_3 : Nat) (l0_3 : List (S111)) (A0_4 : Option Addr) (c0_4 : Nat) (l0_4 : List (S113)) (A0_5 : Option Addr) (c0_5 : Nat) (l0_5 : List (S115)) (A0_6 : Option Addr) (c0_6 : Nat) (l0_6 : List (S117)) (A0_7 : Option Addr) (c0_7 : Nat) (l0_7 : List (S119)) (A0_8 : Option Addr) (c0_8 : Nat) (l0_8 : List (S60)) (A0_9 : Option Addr) (c0_9 : Nat) (l0_9 : List (S64)) (a0_10 : Int) (a0_11 : Int) (a0_12 : Int) (a1_0 : ByteArray) (A1_1 : Option Addr) (c1_1 : Nat) (l1_1 : List (S62)) (A1_2 : Option Addr) (c1_2 : Nat) (l1_2 : List (S109)) (A1_3 : Option Addr) (c1_3 : Nat) (l1_3 : List (S111)) (A1_4 : Option Addr) (c1_4 : Nat) (l1_4 : List (S113)) (A1_5 : Option Addr) (c1_5 : Nat) (l1_5 : List (S115)) (A1_6 : Option Addr) (c1_6 : Nat) (l1_6 : List (S117)) (A1_7 : Option Addr) (c1_7 : Nat) (l1_7 : List (S119)) (A1_8 : Option Addr) (c1_8 : Nat) (l1_8 : List (S60)) (A1_9 : Option Addr) (c1_9 : Nat) (l1_9 : List (S64)) (a1_10 : Int) (a1_11 : Int) (a1_12 : Int) (r : Bool) (w : World) (hr0_1 : Kd.C k62 w A0_1 l0_1.length l0_1) (hc0_1 : l0_1.length ≤ c0_1) (hr0_2 : Kd.C k109 w A0_2 l0_2.length l0_2) (hc0_2 : l0_2.length ≤ c0_2) (hr0_3 : Kd.C k111 w A0_3 l0_3.length l0_3) (hc0_3 : l0_3.length ≤ c0_3) (hr0_4 : Kd.C k113 w A0_4 l0_4.length l0_4) (hc0_4 : l0_4.length ≤ c0_4) (hr0_5 : Kd.C k115 w A0_5 l0_5.length l0_5) (hc0_5 : l0_5.length ≤ c0_5) (hr0_6 : Kd.C k117 w A0_6 l0_6.length l0_6) (hc0_6 : l0_6.length ≤ c0_6) (hr0_7 : Kd.C k119 w A0_7 l0_7.length l0_7) (hc0_7 : l0_7.length ≤ c0_7) (hr0_8 : Kd.C k60 w A0_8 l0_8.length l0_8) (hc0_8 : l0_8.length ≤ c0_8) (hr0_9 : Kd.C k64 w A0_9 l0_9.length l0_9) (hc0_9 : l0_9.length ≤ c0_9) (hr1_1 : Kd.C k62 w A1_1 l1_1.length l1_1) (hc1_1 : l1_1.length ≤ c1_1) (hr1_2 : Kd.C k109 w A1_2 l1_2.length l1_2) (hc1_2 : l1_2.length ≤ c1_2) (hr1_3 : Kd.C k111 w A1_3 l1_3.length l1_3) (hc1_3 : l1_3.length ≤ c1_3) (hr1_4 : Kd.C k113 w A1_4 l1_4.length l1_4) (hc1_4 : l1_4.length ≤ c1_4) (hr1_5 : Kd.C k115 w A1_5 l1_5.length l1_5) (hc1_5 : l1_5.length ≤ c1_5) (hr1_6 : Kd.C k117 w A1_6 l1_6.length l1_6) (hc1_6 : l1_6.length ≤ c1_6) (hr1_7 : Kd.C k119 w A1_7 l1_7.length l1_7) (hc1_7 : l1_7.length ≤ c1_7) (hr1_8 : Kd.C k60 w A1_8 l1_8.length l1_8) (hc1_8 : l1_8.length ≤ c1_8) (hr1_9 : Kd.C k64 w A1_9 l1_9.length l1_9) (hc1_9 : l1_9.length ≤ c1_9) (h : book_Partition_same.f k a0_0 l0_1 l0_2 l0_3 l0_4 l0_5 l0_6 l0_7 l0_8 l0_9 a0_10 a0_11 a0_12 a1_0 l1_1 l1_2 l1_3 l1_4 l1_5 l1_6 l1_7 l1_8 l1_9 a1_10 a1_11 a1_12 = some r) :
    Calls Tryz.prog 49 #[.agg #[.string a0_0, .slice A0_1 l0_1.length c0_1, .slice A0_2 l0_2.length c0_2, .slice A0_3 l0_3.length c0_3, .slice A0_4 l0_4.length c0_4, .slice A0_5 l0_5.length c0_5, .slice A0_6 l0_6.length c0_6, .slice A0_7 l0_7.length c0_7, .slice A0_8 l0_8.length c0_8, .slice A0_9 l0_9.length c0_9, .int .i64 a0_10, .int .i64 a0_11, .int .i64 a0_12], .agg #[.string a1_0, .slice A1_1 l1_1.length c1_1, .slice A1_2 l1_2.length c1_2, .slice A1_3 l1_3.length c1_3, .slice A1_4 l1_4.length c1_4, .slice A1_5 l1_5.length c1_5, .slice A1_6 l1_6.length c1_6, .slice A1_7 l1_7.length c1_7, .slice A1_8 l1_8.length c1_8, .slice A1_9 l1_9.length c1_9, .int .i64 a1_10, .int .i64 a1_11, .int .i64 a1_12]] w fun e w' => e = .returned (.bool r) ∧ Below w.heap.size w w' := by
 have HR0_1 := Aside0.mk hr0_1; have HC0_1 := Aside0.mk hc0_1; clear hr0_1 hc0_1; have HR0_2 := Aside0.mk hr0_2; have HC0_2 := Aside0.mk hc0_2; clear hr0_2 hc0_2; have HR0_3 := Aside0.mk hr0_3; have HC0_3 := Aside0.mk hc0_3; clear hr0_3 hc0_3; have HR0_4 := Aside0.mk hr0_4; have HC0_4 := Aside0.mk hc0_4; clear hr0_4 hc0_4; have HR0_5 := Aside0.mk hr0_5; have HC0_5 := Aside0.mk hc0_5; clear hr0_5 hc0_5; have HR0_6 := Aside0.mk hr0_6; have HC0_6 := Aside0.mk hc0_6; clear hr0_6 hc0_6; have HR0_7 := Aside0.mk hr0_7; have HC0_7 := Aside0.mk hc0_7; clear hr0_7 hc0_7; have HR0_8 := Aside0.mk hr0_8; have HC0_8 := Aside0.mk hc0_8; clear hr0_8 hc0_8; have HR0_9 := Aside0.mk hr0_9; have HC0_9 := Aside0.mk hc0_9; clear hr0_9 hc0_9; have HR1_1 := Aside0.mk hr1_1; have HC1_1 := Aside0.mk hc1_1; clear hr1_1 hc1_1; have HR1_2 := Aside0.mk hr1_2; have HC1_2 := Aside0.mk hc1_2; clear hr1_2 hc1_2; have HR1_3 := Aside0.mk hr1_3; have HC1_3 := Aside0.mk hc1_3; clear hr1_3 hc1_3; have HR1_4 := Aside0.mk hr1_4; have HC1_4 := Aside0.mk hc1_4; clear hr1_4 hc1_4; have HR1_5 := Aside0.mk hr1_5; have HC1_5 := Aside0.mk hc1_5; clear hr1_5 hc1_5; have HR1_6 := Aside0.mk hr1_6; have HC1_6 := Aside0.mk hc1_6; clear hr1_6 hc1_6; have HR1_7 := Aside0.mk hr1_7; have HC1_7 := Aside0.mk hc1_7; clear hr1_7 hc1_7; have HR1_8 := Aside0.mk hr1_8; have HC1_8 := Aside0.mk hc1_8; clear hr1_8 hc1_8; have HR1_9 := Aside0.mk hr1_9; have HC1_9 := Aside0.mk hc1_9; clear hr1_9 hc1_9; unfold book_Partition_same.f at h; have H := Aside0.mk h; clear h; have HB := Aside0.mk (Below.refl w.heap.size w); have hu52 := Tryz.underlying52; go_enter Tryz.func49, Tryz.ntmps49; have BK256 := Aside0.mk (pe_box0 w #[.string a0_0, .slice A0_1 l0_1.length c0_1, .slice A0_2 l0_2.length c0_2, .slice A0_3 l0_3.length c0_3, .slice A0_4 l0_4.length c0_4, .slice A0_5 l0_5.length c0_5, .slice A0_6 l0_6.length c0_6, .slice A0_7 l0_7.length c0_7, .slice A0_8 l0_8.length c0_8, .slice A0_9 l0_9.length c0_9, .int .i64 a0_10, .int .i64 a0_11, .int .i64 a0_12] 52); replace HB := Aside0.mk (below_alloc HB.out (.cells #[.string a0_0, .slice A0_1 l0_1.length c0_1, .slice A0_2 l0_2.length c0_2, .slice A0_3 l0_3.length c0_3, .slice A0_4 l0_4.length c0_4, .slice A0_5 l0_5.length c0_5, .slice A0_6 l0_6.length c0_6, .slice A0_7 l0_7.length c0_7, .slice A0_8 l0_8.length c0_8, .slice A0_9 l0_9.length c0_9, .int .i64 a0_10, .int .i64 a0_11, .int .i64 a0_12] 52)); by_cases c258 : a0_0.toList = a1_0.toList
 · replace H := a0p c258 H; have c258b0 : (a0_0.toList == a1_0.toList) = true := beq_iff_eq.mpr c258; have c258b1 : (a0_0.toList != a1_0.toList) = false := bne_eq_false_iff_eq.mpr c258; have Kc258 := Aside0.mk c258; clear c258; have BK257 := Aside0.mk (pe_box1 w (.cells #[.string a0_0, .slice A0_1 l0_1.length c0_1, .slice A0_2 l0_2.length c0_2, .slice A0_3 l0_3.length c0_3, .slice A0_4 l0_4.length c0_4, .slice A0_5 l0_5.length c0_5, .slice A0_6 l0_6.length c0_6, .slice A0_7 l0_7.length c0_7, .slice A0_8 l0_8.length c0_8, .slice A0_9 l0_9.length c0_9, .int .i64 a0_10, .int .i64 a0_11, .int .i64 a0_12] 52) #[.string a1_0, .slice A1_1 l1_1.length c1_1, .slice A1_2 l1_2.length c1_2, .slice A1_3 l1_3.length c1_3, .slice A1_4 l1_4.length c1_4, .slice A1_5 l1_5.length c1_5, .slice A1_6 l1_6.length c1_6, .slice A1_7 l1_7.length c1_7, .slice A1_8 l1_8.length c1_8, .slice A1_9 l1_9.length c1_9, .int .i64 a1_10, .int .i64 a1_11, .int .i64 a1_12] 52); replace BK256 := Aside0.mk (blk_below BK256.out (alloc_below0 _ (.cells #[.string a1_0, .slice A1_1 l1_1.length c1_1, .slice A1_2 l1_2.length c1_2, .slice A1_3 l1_3.length c1_3, .slice A1_4 l1_4.length c1_4, .slice A1_5 l1_5.length c1_5, .slice A1_6 l1_6.length c1_6, .slice A1_7 l1_7.length c1_7, .slice A1_8 l1_8.length c1_8, .slice A1_9 l1_9.length c1_9, .int .i64 a1_10, .int .i64 a1_11, .int .i64 a1_12] 52))); replace HB := Aside0.mk (below_alloc HB.out (.cells #[.string a1_0, .slice A1_1 l1_1.length c1_1, .slice A1_2 l1_2.length c1_2, .slice A1_3 l1_3.length c1_3, .slice A1_4 l1_4.length c1_4, .slice A1_5 l1_5.length c1_5, .slice A1_6 l1_6.length c1_6, .slice A1_7 l1_7.length c1_7, .slice A1_8 l1_8.length c1_8, .slice A1_9 l1_9.length c1_9, .int .i64 a1_10, .int .i64 a1_11, .int .i64 a1_12] 52)); obtain ⟨t214, q259, H1⟩ := a0b H; clear H; have H := H1; clear H1; go_wp2_with fail; (with_reducible refine (book_Area_127.calls k _ _ l0_1 _ _ l1_1 t214 _ (Kd.C_below HR0_1.out HB.out) HC0_1.out (Kd.C_below HR1_1.out HB.out) HC1_1.out q259.out).mono ?_); clear q259; (rintro e w260 ⟨rfl, hd⟩); have hb := hd.below; clear hd; replace HB := Aside0.mk (below_step HB.out hb); replace BK256 := Aside0.mk (blk_below BK256.out hb); replace BK257 := Aside0.mk (blk_below BK257.out hb); clear hb; have Z256 := blk13 BK256.out; have Z257 := blk13 BK257.out; by_cases c261 : t214 = true
   · replace H := a0p c261 H; subst c261; obtain ⟨t215, q262, H1⟩ := a0b H; clear H; have H := H1; clear H1; go_wp2_with fail; (with_reducible refine (book_Task_128.calls k _ _ l0_2 _ _ l1_2 t215 _ (Kd.C_below HR0_2.out HB.out) HC0_2.out (Kd.C_below HR1_2.out HB.out) HC1_2.out q262.out).mono ?_); clear q262; (rintro e w263 ⟨rfl, hd⟩); have hb := hd.below; clear hd; replace HB := Aside0.mk (below_step HB.out hb); replace BK256 := Aside0.mk (blk_below BK256.out hb); replace BK257 := Aside0.mk (blk_below BK257.out hb); clear hb
     try clear Z256 Z257
     have Z256 := blk13 BK256.out; have Z257 := blk13 BK257.out; by_cases c264 : t215 = true
     · replace H := a0p c264 H; subst c264; obtain ⟨t216, q265, H1⟩ := a0b H; clear H; have H := H1; clear H1; go_wp2_with fail; (with_reducible refine (book_Lock_129.calls k _ _ l0_3 _ _ l1_3 t216 _ (Kd.C_below HR0_3.out HB.out) HC0_3.out (Kd.C_below HR1_3.out HB.out) HC1_3.out q265.out).mono ?_); clear q265; (rintro e w266 ⟨rfl, hd⟩); have hb := hd.below; clear hd; replace HB := Aside0.mk (below_step HB.out hb); replace BK256 := Aside0.mk (blk_below BK256.out hb); replace BK257 := Aside0.mk (blk_below BK257.out hb); clear hb
       try clear Z256 Z257
       have Z256 := blk13 BK256.out; have Z257 := blk13 BK257.out; by_cases c267 : t216 = true
       · replace H := a0p c267 H; subst c267; obtain ⟨t217, q268, H1⟩ := a0b H; clear H; have H := H1; clear H1; go_wp2_with fail; (with_reducible refine (book_Sema_130.calls k _ _ l0_4 _ _ l1_4 t217 _ (Kd.C_below HR0_4.out HB.out) HC0_4.out (Kd.C_below HR1_4.out HB.out) HC1_4.out q268.out).mono ?_); clear q268; (rintro e w269 ⟨rfl, hd⟩); have hb := hd.below; clear hd; replace HB := Aside0.mk (below_step HB.out hb); replace BK256 := Aside0.mk (blk_below BK256.out hb); replace BK257 := Aside0.mk (blk_below BK257.out hb); clear hb
         try clear Z256 Z257
         have Z256 := blk13 BK256.out; have Z257 := blk13 BK257.out; by_cases c270 : t217 = true
         · replace H := a0p c270 H; subst c270; obtain ⟨t218, q271, H1⟩ := a0b H; clear H; have H := H1; clear H1; go_wp2_with fail; (with_reducible refine (book_Event_131.calls k _ _ l0_5 _ _ l1_5 t218 _ (Kd.C_below HR0_5.out HB.out) HC0_5.out (Kd.C_below HR1_5.out HB.out) HC1_5.out q271.out).mono ?_); clear q271; (rintro e w272 ⟨rfl, hd⟩); have hb := hd.below; clear hd; replace HB := Aside0.mk (below_step HB.out hb); replace BK256 := Aside0.mk (blk_below BK256.out hb); replace BK257 := Aside0.mk (blk_below BK257.out hb); clear hb
           try clear Z256 Z257
           have Z256 := blk13 BK256.out; have Z257 := blk13 BK257.out; by_cases c273 : t218 = true
           · replace H := a0p c273 H; subst c273; obtain ⟨t219, q274, H1⟩ := a0b H; clear H; have H := H1; clear H1; go_wp2_with fail; (with_reducible refine (book_Board_132.calls k _ _ l0_6 _ _ l1_6 t219 _ (Kd.C_below HR0_6.out HB.out) HC0_6.out (Kd.C_below HR1_6.out HB.out) HC1_6.out q274.out).mono ?_); clear q274; (rintro e w275 ⟨rfl, hd⟩); have hb := hd.below; clear hd; replace HB := Aside0.mk (below_step HB.out hb); replace BK256 := Aside0.mk (blk_below BK256.out hb); replace BK257 := Aside0.mk (blk_below BK257.out hb); clear hb
             try clear Z256 Z257
             have Z256 := blk13 BK256.out; have Z257 := blk13 BK257.out; by_cases c276 : t219 = true
             · replace H := a0p c276 H; subst c276; obtain ⟨t220, q277, H1⟩ := a0b H; clear H; have H := H1; clear H1; go_wp2_with fail; (with_reducible refine (book_Buffer_133.calls k _ _ l0_7 _ _ l1_7 t220 _ (Kd.C_below HR0_7.out HB.out) HC0_7.out (Kd.C_below HR1_7.out HB.out) HC1_7.out q277.out).mono ?_); clear q277; (rintro e w278 ⟨rfl, hd⟩); have hb := hd.below; clear hd; replace HB := Aside0.mk (below_step HB.out hb); replace BK256 := Aside0.mk (blk_below BK256.out hb); replace BK257 := Aside0.mk (blk_below BK257.out hb); clear hb
               try clear Z256 Z257
               have Z256 := blk13 BK256.out; have Z257 := blk13 BK257.out; by_cases c279 : t220 = true
               · replace H := a0p c279 H; subst c279; obtain ⟨t221, q280, H1⟩ := a0b H; clear H; have H := H1; clear H1; go_wp2_with fail; (with_reducible refine (book_Port_134.calls k _ _ l0_8 _ _ l1_8 t221 _ (Kd.C_below HR0_8.out HB.out) HC0_8.out (Kd.C_below HR1_8.out HB.out) HC1_8.out q280.out).mono ?_); clear q280; (rintro e w281 ⟨rfl, hd⟩); have hb := hd.below; clear hd; replace HB := Aside0.mk (below_step HB.out hb); replace BK256 := Aside0.mk (blk_below BK256.out hb); replace BK257 := Aside0.mk (blk_below BK257.out hb); clear hb
                 try clear Z256 Z257
                 have Z256 := blk13 BK256.out; have Z257 := blk13 BK257.out; by_cases c282 : t221 = true
                 · replace H := a0p c282 H; subst c282; obtain ⟨t222, q283, H1⟩ := a0b H; clear H; have H := H1; clear H1; go_wp2_with fail; (with_reducible refine (book_Rule_57.calls k _ _ l0_9 _ _ l1_9 t222 _ (Kd.C_below HR0_9.out HB.out) HC0_9.out (Kd.C_below HR1_9.out HB.out) HC1_9.out q283.out).mono ?_); clear q283; (rintro e w284 ⟨rfl, hd⟩); have hb := hd.below; clear hd; replace HB := Aside0.mk (below_step HB.out hb); replace BK256 := Aside0.mk (blk_below BK256.out hb); replace BK257 := Aside0.mk (blk_below BK257.out hb); clear hb
                   try clear Z256 Z257
                   have Z256 := blk13 BK256.out; have Z257 := blk13 BK257.out; by_cases c285 : t222 = true
                   · replace H := a0p c285 H; subst c285; by_cases c286 : a0_10 = a1_10
                     · replace H := a0p c286 H; have c286b0 : (a0_10 == a1_10) = true := beq_iff_eq.mpr c286; have c286b1 : (a0_10 != a1_10) = false := bne_eq_false_iff_eq.mpr c286; have Kc286 := Aside0.mk c286; clear c286; obtain rfl := Option.some.inj H.out; go_wp2; go_ret; exact ⟨by first | rfl | (simp; done) | (simp [*]; done), HB.out⟩
                     · replace H := a0n c286 H; have c286b0 : (a0_10 == a1_10) = false := beq_eq_false_iff_ne.mpr c286; have c286b1 : (a0_10 != a1_10) = true := bne_iff_ne.mpr c286; have Kc286 := Aside0.mk c286; clear c286; obtain rfl := Option.some.inj H.out; go_wp2; go_ret; exact ⟨by first | rfl | (simp; done) | (simp [*]; done), HB.out⟩
                   · replace H := a0n c285 H; replace c285 := Bool.eq_false_iff.mpr c285; subst c285; obtain rfl := Option.some.inj H.out; go_wp2; go_ret; exact ⟨by first | rfl | (simp; done) | (simp [*]; done), HB.out⟩
                 · replace H := a0n c282 H; replace c282 := Bool.eq_false_iff.mpr c282; subst c282; obtain rfl := Option.some.inj H.out; go_wp2; go_ret; exact ⟨by first | rfl | (simp; done) | (simp [*]; done), HB.out⟩
               · replace H := a0n c279 H; replace c279 := Bool.eq_false_iff.mpr c279; subst c279; obtain rfl := Option.some.inj H.out; go_wp2; go_ret; exact ⟨by first | rfl | (simp; done) | (simp [*]; done), HB.out⟩
             · replace H := a0n c276 H; replace c276 := Bool.eq_false_iff.mpr c276; subst c276; obtain rfl := Option.some.inj H.out; go_wp2; go_ret; exact ⟨by first | rfl | (simp; done) | (simp [*]; done), HB.out⟩
           · replace H := a0n c273 H; replace c273 := Bool.eq_false_iff.mpr c273; subst c273; obtain rfl := Option.some.inj H.out; go_wp2; go_ret; exact ⟨by first | rfl | (simp; done) | (simp [*]; done), HB.out⟩
         · replace H := a0n c270 H; replace c270 := Bool.eq_false_iff.mpr c270; subst c270; obtain rfl := Option.some.inj H.out; go_wp2; go_ret; exact ⟨by first | rfl | (simp; done) | (simp [*]; done), HB.out⟩
       · replace H := a0n c267 H; replace c267 := Bool.eq_false_iff.mpr c267; subst c267; obtain rfl := Option.some.inj H.out; go_wp2; go_ret; exact ⟨by first | rfl | (simp; done) | (simp [*]; done), HB.out⟩
     · replace H := a0n c264 H; replace c264 := Bool.eq_false_iff.mpr c264; subst c264; obtain rfl := Option.some.inj H.out; go_wp2; go_ret; exact ⟨by first | rfl | (simp; done) | (simp [*]; done), HB.out⟩
   · replace H := a0n c261 H; replace c261 := Bool.eq_false_iff.mpr c261; subst c261; obtain rfl := Option.some.inj H.out; go_wp2; go_ret; exact ⟨by first | rfl | (simp; done) | (simp [*]; done), HB.out⟩
 · replace H := a0n c258 H; have c258b0 : (a0_0.toList == a1_0.toList) = false := beq_eq_false_iff_ne.mpr c258; have c258b1 : (a0_0.toList != a1_0.toList) = true := bne_iff_ne.mpr c258; have Kc258 := Aside0.mk c258; clear c258; have BK257 := Aside0.mk (pe_box1 w (.cells #[.string a0_0, .slice A0_1 l0_1.length c0_1, .slice A0_2 l0_2.length c0_2, .slice A0_3 l0_3.length c0_3, .slice A0_4 l0_4.length c0_4, .slice A0_5 l0_5.length c0_5, .slice A0_6 l0_6.length c0_6, .slice A0_7 l0_7.length c0_7, .slice A0_8 l0_8.length c0_8, .slice A0_9 l0_9.length c0_9, .int .i64 a0_10, .int .i64 a0_11, .int .i64 a0_12] 52) #[.string a1_0, .slice A1_1 l1_1.length c1_1, .slice A1_2 l1_2.length c1_2, .slice A1_3 l1_3.length c1_3, .slice A1_4 l1_4.length c1_4, .slice A1_5 l1_5.length c1_5, .slice A1_6 l1_6.length c1_6, .slice A1_7 l1_7.length c1_7, .slice A1_8 l1_8.length c1_8, .slice A1_9 l1_9.length c1_9, .int .i64 a1_10, .int .i64 a1_11, .int .i64 a1_12] 52); replace BK256 := Aside0.mk (blk_below BK256.out (alloc_below0 _ (.cells #[.string a1_0, .slice A1_1 l1_1.length c1_1, .slice A1_2 l1_2.length c1_2, .slice A1_3 l1_3.length c1_3, .slice A1_4 l1_4.length c1_4, .slice A1_5 l1_5.length c1_5, .slice A1_6 l1_6.length c1_6, .slice A1_7 l1_7.length c1_7, .slice A1_8 l1_8.length c1_8, .slice A1_9 l1_9.length c1_9, .int .i64 a1_10, .int .i64 a1_11, .int .i64 a1_12] 52))); replace HB := Aside0.mk (below_alloc HB.out (.cells #[.string a1_0, .slice A1_1 l1_1.length c1_1, .slice A1_2 l1_2.length c1_2, .slice A1_3 l1_3.length c1_3, .slice A1_4 l1_4.length c1_4, .slice A1_5 l1_5.length c1_5, .slice A1_6 l1_6.length c1_6, .slice A1_7 l1_7.length c1_7, .slice A1_8 l1_8.length c1_8, .slice A1_9 l1_9.length c1_9, .int .i64 a1_10, .int .i64 a1_11, .int .i64 a1_12] 52)); obtain rfl := Option.some.inj H.out; go_wp2; go_ret; exact ⟨by first | rfl | (simp; done) | (simp [*]; done), HB.out⟩

/-! ### book_Window_52: function 52 -/
def book_Window_52.l0 : Nat → List (S69) → List (S69) → Int → Int → Option (Bool)
  | 0, _, _, _, _ => none
  | k + 1, x0, x1, x12, x13 => if x13 < x12 then (if 0 ≤ x13 then (if x13 < (x0.length : Int) then (if x13 < (x1.length : Int) then (if (!(((rd_T69 x0 x13).f0) == ((rd_T69 x1 x13).f0)) || (!(((rd_T69 x0 x13).f1) == ((rd_T69 x1 x13).f1)) || (!(((rd_T69 x0 x13).f2) == ((rd_T69 x1 x13).f2))))) = true then (some false) else (book_Window_52.l0 k x0 x1 x12 (wrap64 (x13 + 1)))) else (none)) else (none)) else (none)) else (some true)
def book_Window_52.f (k : Nat) (l0 : List (S69)) (l1 : List (S69)) : Option (Bool) := if (l0.length : Int) = (l1.length : Int) then (book_Window_52.l0 k l0 l1 (l0.length : Int) 0) else (some false)
theorem book_Window_52.mono_l : ∀ k, (∀ y0 y1 y2 y3, LeO (book_Window_52.l0 k y0 y1 y2 y3) (book_Window_52.l0 (k + 1) y0 y1 y2 y3))
  | 0 => fun _ _ _ _ r h => by simp [book_Window_52.l0] at h
  | k + 1 => by
    have ih0 := book_Window_52.mono_l k
    · intro y0 y1 y2 y3
      unfold book_Window_52.l0
      repeat' first | (with_reducible apply ih0) | (with_reducible exact LeO.refl _) | (with_reducible exact LeO.none _) | (with_reducible refine LeO.ite ?_ ?_) | (with_reducible refine LeO.bind ?_ (fun _ => ?_)) | apply LeO.none | apply LeO.ite | (refine LeO.bind ?_ (fun _ => ?_))
theorem book_Window_52.mono : ∀ a0 a1 k, LeO (book_Window_52.f k a0 a1) (book_Window_52.f (k + 1) a0 a1) := by
  intro a0 a1 k
  have ih0 := book_Window_52.mono_l k
  unfold book_Window_52.f
  repeat' first | (with_reducible apply ih0) | (with_reducible exact LeO.refl _) | (with_reducible exact LeO.none _) | (with_reducible refine LeO.ite ?_ ?_) | (with_reducible refine LeO.bind ?_ (fun _ => ?_)) | apply LeO.none | apply LeO.ite | (refine LeO.bind ?_ (fun _ => ?_))
set_option maxHeartbeats 8000000 in
set_option maxRecDepth 100000 in
theorem book_Window_52.calls (k : Nat) (A0 : Option Addr) (c0 : Nat) (l0 : List (S69)) (A1 : Option Addr) (c1 : Nat) (l1 : List (S69)) (r : Bool) (w : World) (hr0 : Kd.C k69 w A0 l0.length l0) (hc0 : l0.length ≤ c0) (hr1 : Kd.C k69 w A1 l1.length l1) (hc1 : l1.length ≤ c1) (h : book_Window_52.f k l0 l1 = some r) :
    Calls Tryz.prog 52 #[.slice A0 l0.length c0, .slice A1 l1.length c1] w fun e w' => e = .returned (.bool r) ∧ Drawn0 w w' := by
 have HR0 := Aside0.mk hr0; have HC0 := Aside0.mk hc0; clear hr0 hc0; have HR1 := Aside0.mk hr1; have HC1 := Aside0.mk hc1; clear hr1 hc1; unfold book_Window_52.f at h; have H := Aside0.mk h; clear h; go_enter Tryz.func52, Tryz.ntmps52; by_cases c287 : (l0.length : Int) = (l1.length : Int)
 · replace H := a0p c287 H; have c287b0 : ((l0.length : Int) == (l1.length : Int)) = true := beq_iff_eq.mpr c287; have c287b1 : ((l0.length : Int) != (l1.length : Int)) = false := bne_eq_false_iff_eq.mpr c287; (have c287b2 : (l0.length == l1.length) = true := by first | simpa using c287 | (simp at c287 ⊢; omega)); have Kc287 := Aside0.mk c287; clear c287; go_wp2_with fail; (try (go_quiet (fail); go_wp2_with fail)); go_loopg [13] k (fun kq v13 w' => ∃ (x13_288 : Int), v13 = .int .i64 x13_288 ∧ Aside0 (book_Window_52.l0 kq l0 l1 (l0.length : Int) x13_288 = some r) ∧ Aside0 (kq ≤ k) ∧ Drawn0 w w')
   case atStart => exact ⟨0, (by first | rfl | (simp; done) | (simp [*]; done)), H, ⟨Nat.le_refl _⟩, (by repeat (first | exact Drawn0.refl _ | apply Drawn0.step))⟩
   case round =>
    clear H  ; obtain ⟨x13_288, rfl, HA, HK288, ⟨nd288, rfl⟩⟩ := hrel
    cases gk with
    | zero => exact absurd HA.out (by simp [book_Window_52.l0])
    | succ k288 =>
     have H1 := HA.out; simp only [book_Window_52.l0] at H1; have H := Aside0.mk H1; clear H1 HA; by_cases c289 : x13_288 < ((l0.length : Int))
     · replace H := a0p c289 H; have c289b0 : decide (x13_288 < ((l0.length : Int))) = true := decide_eq_true c289; have Kc289 := Aside0.mk c289; clear c289; by_cases c290 : 0 ≤ x13_288
       · replace H := a0p c290 H; have c290b0 : decide (0 ≤ x13_288) = true := decide_eq_true c290; have Kc290 := Aside0.mk c290; clear c290; by_cases c291 : x13_288 < (l0.length : Int)
         · replace H := a0p c291 H; have c291b0 : decide (x13_288 < (l0.length : Int)) = true := decide_eq_true c291; have Kc291 := Aside0.mk c291; clear c291; have p223 : 0 ≤ (x13_288 : Int) := Kc290.out; have q223 : x13_288 < (l0.length : Int) := Kc291.out; obtain ⟨ad223, e223, hx223_0, hx223_1, hx223_2⟩ := at_T69 HR0.out (x13_288) p223 q223
           cases e223
           by_cases c292 : x13_288 < (l1.length : Int)
           · replace H := a0p c292 H; have c292b0 : decide (x13_288 < (l1.length : Int)) = true := decide_eq_true c292; have Kc292 := Aside0.mk c292; clear c292; have p224 : 0 ≤ (x13_288 : Int) := Kc290.out; have q224 : x13_288 < (l1.length : Int) := Kc292.out; obtain ⟨ad224, e224, hx224_0, hx224_1, hx224_2⟩ := at_T69 HR1.out (x13_288) p224 q224
             cases e224
             by_cases c293 : (!(((rd_T69 l0 x13_288).f0) == ((rd_T69 l1 x13_288).f0)) || (!(((rd_T69 l0 x13_288).f1) == ((rd_T69 l1 x13_288).f1)) || (!(((rd_T69 l0 x13_288).f2) == ((rd_T69 l1 x13_288).f2))))) = true
             · replace H := a0p c293 H; have c293b0 : (!(((rd_T69 l0 x13_288).f0) == ((rd_T69 l1 x13_288).f0)) || (!(((rd_T69 l0 x13_288).f1) == ((rd_T69 l1 x13_288).f1)) || (!(((rd_T69 l0 x13_288).f2) == ((rd_T69 l1 x13_288).f2))))) = true := c293; have Kc293 := Aside0.mk c293; clear c293; obtain rfl := Option.some.inj H.out; go_wp2; (try (go_quiet (fail); go_wp2)); go_ret; exact ⟨by first | rfl | (simp; done) | (simp [*]; done), (by repeat (first | exact Drawn0.refl _ | apply Drawn0.step))⟩
             · replace H := a0n c293 H; (have c293b0 : (!(((rd_T69 l0 x13_288).f0) == ((rd_T69 l1 x13_288).f0)) || (!(((rd_T69 l0 x13_288).f1) == ((rd_T69 l1 x13_288).f1)) || (!(((rd_T69 l0 x13_288).f2) == ((rd_T69 l1 x13_288).f2))))) = false := by simpa using c293); have Kc293 := Aside0.mk c293; clear c293; go_wp2_with fail; (try (go_quiet (fail); go_wp2_with fail)); go_roundg k288
               case measure => have := HK288.out; omega
               case rel => exact ⟨(wrap64 (x13_288 + 1)), (by first | rfl | (simp; done) | (simp [*]; done)), H, ⟨by have := HK288.out; omega⟩, (by repeat (first | exact Drawn0.refl _ | apply Drawn0.step))⟩
           · replace H := a0n c292 H; exact absurd H.out (by simp)
         · replace H := a0n c291 H; exact absurd H.out (by simp)
       · replace H := a0n c290 H; exact absurd H.out (by simp)
     · replace H := a0n c289 H; have c289b0 : decide (x13_288 < ((l0.length : Int))) = false := decide_eq_false c289; have Kc289 := Aside0.mk c289; clear c289; obtain rfl := Option.some.inj H.out; go_wp2; (try (go_quiet (fail); go_wp2)); go_ret; exact ⟨by first | rfl | (simp; done) | (simp [*]; done), (by repeat (first | exact Drawn0.refl _ | apply Drawn0.step))⟩
 · replace H := a0n c287 H; have c287b0 : ((l0.length : Int) == (l1.length : Int)) = false := beq_eq_false_iff_ne.mpr c287; have c287b1 : ((l0.length : Int) != (l1.length : Int)) = true := bne_iff_ne.mpr c287; (have c287b2 : (l0.length == l1.length) = false := by first | simpa using c287 | (simp at c287 ⊢; omega)); have Kc287 := Aside0.mk c287; clear c287; obtain rfl := Option.some.inj H.out; go_wp2; (try (go_quiet (fail); go_wp2)); go_ret; exact ⟨by first | rfl | (simp; done) | (simp [*]; done), (by repeat (first | exact Drawn0.refl _ | apply Drawn0.step))⟩

/-! ### book_Same_1: function 51 -/
def book_Same_1.f (k : Nat) (a0_0 : ByteArray) (a0_1 : Int) (l0_2 : List (S69)) (a1_0 : ByteArray) (a1_1 : Int) (l1_2 : List (S69)) : Option (Bool) := if a0_0.toList = a1_0.toList then (if a0_1 = a1_1 then ((book_Window_52.f k l0_2 l1_2).bind fun t227 => (some t227)) else (some false)) else (some false)
theorem book_Same_1.mono : ∀ a0 a1 a2 a3 a4 a5 k, LeO (book_Same_1.f k a0 a1 a2 a3 a4 a5) (book_Same_1.f (k + 1) a0 a1 a2 a3 a4 a5) := by
  intro a0 a1 a2 a3 a4 a5 k
  unfold book_Same_1.f
  repeat' first | (with_reducible apply book_Window_52.mono) | (with_reducible exact LeO.refl _) | (with_reducible exact LeO.none _) | (with_reducible refine LeO.ite ?_ ?_) | (with_reducible refine LeO.bind ?_ (fun _ => ?_)) | apply LeO.none | apply LeO.ite | (refine LeO.bind ?_ (fun _ => ?_))
set_option maxHeartbeats 8000000 in
set_option maxRecDepth 100000 in
theorem book_Same_1.calls (k : Nat) (a0_0 : ByteArray) (a0_1 : Int) (A0_2 : Option Addr) (c0_2 : Nat) (l0_2 : List (S69)) (a1_0 : ByteArray) (a1_1 : Int) (A1_2 : Option Addr) (c1_2 : Nat) (l1_2 : List (S69)) (r : Bool) (w : World) (hr0_2 : Kd.C k69 w A0_2 l0_2.length l0_2) (hc0_2 : l0_2.length ≤ c0_2) (hr1_2 : Kd.C k69 w A1_2 l1_2.length l1_2) (hc1_2 : l1_2.length ≤ c1_2) (h : book_Same_1.f k a0_0 a0_1 l0_2 a1_0 a1_1 l1_2 = some r) :
    Calls Tryz.prog 51 #[.agg #[.string a0_0, .int .i64 a0_1, .slice A0_2 l0_2.length c0_2], .agg #[.string a1_0, .int .i64 a1_1, .slice A1_2 l1_2.length c1_2]] w fun e w' => e = .returned (.bool r) ∧ Below w.heap.size w w' := by
 have HR0_2 := Aside0.mk hr0_2; have HC0_2 := Aside0.mk hc0_2; clear hr0_2 hc0_2; have HR1_2 := Aside0.mk hr1_2; have HC1_2 := Aside0.mk hc1_2; clear hr1_2 hc1_2; unfold book_Same_1.f at h; have H := Aside0.mk h; clear h; have HB := Aside0.mk (Below.refl w.heap.size w); have hu67 := Tryz.underlying67; go_enter Tryz.func51, Tryz.ntmps51; have BK294 := Aside0.mk (pe_box0 w #[.string a0_0, .int .i64 a0_1, .slice A0_2 l0_2.length c0_2] 67); replace HB := Aside0.mk (below_alloc HB.out (.cells #[.string a0_0, .int .i64 a0_1, .slice A0_2 l0_2.length c0_2] 67)); by_cases c296 : a0_0.toList = a1_0.toList
 · replace H := a0p c296 H; have c296b0 : (a0_0.toList == a1_0.toList) = true := beq_iff_eq.mpr c296; have c296b1 : (a0_0.toList != a1_0.toList) = false := bne_eq_false_iff_eq.mpr c296; have Kc296 := Aside0.mk c296; clear c296; by_cases c297 : a0_1 = a1_1
   · replace H := a0p c297 H; have c297b0 : (a0_1 == a1_1) = true := beq_iff_eq.mpr c297; have c297b1 : (a0_1 != a1_1) = false := bne_eq_false_iff_eq.mpr c297; have Kc297 := Aside0.mk c297; clear c297; have BK295 := Aside0.mk (pe_box1 w (.cells #[.string a0_0, .int .i64 a0_1, .slice A0_2 l0_2.length c0_2] 67) #[.string a1_0, .int .i64 a1_1, .slice A1_2 l1_2.length c1_2] 67); replace BK294 := Aside0.mk (blk_below BK294.out (alloc_below0 _ (.cells #[.string a1_0, .int .i64 a1_1, .slice A1_2 l1_2.length c1_2] 67))); replace HB := Aside0.mk (below_alloc HB.out (.cells #[.string a1_0, .int .i64 a1_1, .slice A1_2 l1_2.length c1_2] 67)); obtain ⟨t227, q298, H1⟩ := a0b H; clear H; have H := H1; clear H1; go_wp2_with fail; (with_reducible refine (book_Window_52.calls k _ _ l0_2 _ _ l1_2 t227 _ (Kd.C_below HR0_2.out HB.out) HC0_2.out (Kd.C_below HR1_2.out HB.out) HC1_2.out q298.out).mono ?_); clear q298; (rintro e w299 ⟨rfl, hd⟩); have hb := hd.below; clear hd; replace HB := Aside0.mk (below_step HB.out hb); replace BK294 := Aside0.mk (blk_below BK294.out hb); replace BK295 := Aside0.mk (blk_below BK295.out hb); clear hb; have Z294 := blk3 BK294.out; have Z295 := blk3 BK295.out; obtain rfl := Option.some.inj H.out; go_wp2; go_ret; exact ⟨by first | rfl | (simp; done) | (simp [*]; done), HB.out⟩
   · replace H := a0n c297 H; have c297b0 : (a0_1 == a1_1) = false := beq_eq_false_iff_ne.mpr c297; have c297b1 : (a0_1 != a1_1) = true := bne_iff_ne.mpr c297; have Kc297 := Aside0.mk c297; clear c297; have BK295 := Aside0.mk (pe_box1 w (.cells #[.string a0_0, .int .i64 a0_1, .slice A0_2 l0_2.length c0_2] 67) #[.string a1_0, .int .i64 a1_1, .slice A1_2 l1_2.length c1_2] 67); replace BK294 := Aside0.mk (blk_below BK294.out (alloc_below0 _ (.cells #[.string a1_0, .int .i64 a1_1, .slice A1_2 l1_2.length c1_2] 67))); replace HB := Aside0.mk (below_alloc HB.out (.cells #[.string a1_0, .int .i64 a1_1, .slice A1_2 l1_2.length c1_2] 67)); obtain rfl := Option.some.inj H.out; go_wp2; go_ret; exact ⟨by first | rfl | (simp; done) | (simp [*]; done), HB.out⟩
 · replace H := a0n c296 H; have c296b0 : (a0_0.toList == a1_0.toList) = false := beq_eq_false_iff_ne.mpr c296; have c296b1 : (a0_0.toList != a1_0.toList) = true := bne_iff_ne.mpr c296; have Kc296 := Aside0.mk c296; clear c296; have BK295 := Aside0.mk (pe_box1 w (.cells #[.string a0_0, .int .i64 a0_1, .slice A0_2 l0_2.length c0_2] 67) #[.string a1_0, .int .i64 a1_1, .slice A1_2 l1_2.length c1_2] 67); replace BK294 := Aside0.mk (blk_below BK294.out (alloc_below0 _ (.cells #[.string a1_0, .int .i64 a1_1, .slice A1_2 l1_2.length c1_2] 67))); replace HB := Aside0.mk (below_alloc HB.out (.cells #[.string a1_0, .int .i64 a1_1, .slice A1_2 l1_2.length c1_2] 67)); obtain rfl := Option.some.inj H.out; go_wp2; go_ret; exact ⟨by first | rfl | (simp; done) | (simp [*]; done), HB.out⟩

/-! ### book_End_55: function 55 -/
def book_End_55.l0 : Nat → List (S71) → List (S71) → Int → Int → Option (Bool)
  | 0, _, _, _, _ => none
  | k + 1, x0, x1, x12, x13 => if x13 < x12 then (if 0 ≤ x13 then (if x13 < (x0.length : Int) then (if x13 < (x1.length : Int) then (if (!(((rd_T71 x0 x13).f0) == ((rd_T71 x1 x13).f0)) || (!(((rd_T71 x0 x13).f1) == ((rd_T71 x1 x13).f1)))) = true then (some false) else (book_End_55.l0 k x0 x1 x12 (wrap64 (x13 + 1)))) else (none)) else (none)) else (none)) else (some true)
def book_End_55.f (k : Nat) (l0 : List (S71)) (l1 : List (S71)) : Option (Bool) := if (l0.length : Int) = (l1.length : Int) then (book_End_55.l0 k l0 l1 (l0.length : Int) 0) else (some false)
theorem book_End_55.mono_l : ∀ k, (∀ y0 y1 y2 y3, LeO (book_End_55.l0 k y0 y1 y2 y3) (book_End_55.l0 (k + 1) y0 y1 y2 y3))
  | 0 => fun _ _ _ _ r h => by simp [book_End_55.l0] at h
  | k + 1 => by
    have ih0 := book_End_55.mono_l k
    · intro y0 y1 y2 y3
      unfold book_End_55.l0
      repeat' first | (with_reducible apply ih0) | (with_reducible exact LeO.refl _) | (with_reducible exact LeO.none _) | (with_reducible refine LeO.ite ?_ ?_) | (with_reducible refine LeO.bind ?_ (fun _ => ?_)) | apply LeO.none | apply LeO.ite | (refine LeO.bind ?_ (fun _ => ?_))
theorem book_End_55.mono : ∀ a0 a1 k, LeO (book_End_55.f k a0 a1) (book_End_55.f (k + 1) a0 a1) := by
  intro a0 a1 k
  have ih0 := book_End_55.mono_l k
  unfold book_End_55.f
  repeat' first | (with_reducible apply ih0) | (with_reducible exact LeO.refl _) | (with_reducible exact LeO.none _) | (with_reducible refine LeO.ite ?_ ?_) | (with_reducible refine LeO.bind ?_ (fun _ => ?_)) | apply LeO.none | apply LeO.ite | (refine LeO.bind ?_ (fun _ => ?_))
set_option maxHeartbeats 8000000 in
set_option maxRecDepth 100000 in
theorem book_End_55.calls (k : Nat) (A0 : Option Addr) (c0 : Nat) (l0 : List (S71)) (A1 : Option Addr) (c1 : Nat) (l1 : List (S71)) (r : Bool) (w : World) (hr0 : Kd.C k71 w A0 l0.length l0) (hc0 : l0.length ≤ c0) (hr1 : Kd.C k71 w A1 l1.length l1) (hc1 : l1.length ≤ c1) (h : book_End_55.f k l0 l1 = some r) :
    Calls Tryz.prog 55 #[.slice A0 l0.length c0, .slice A1 l1.length c1] w fun e w' => e = .returned (.bool r) ∧ Drawn0 w w' := by
 have HR0 := Aside0.mk hr0; have HC0 := Aside0.mk hc0; clear hr0 hc0; have HR1 := Aside0.mk hr1; have HC1 := Aside0.mk hc1; clear hr1 hc1; unfold book_End_55.f at h; have H := Aside0.mk h; clear h; go_enter Tryz.func55, Tryz.ntmps55; by_cases c300 : (l0.length : Int) = (l1.length : Int)
 · replace H := a0p c300 H; have c300b0 : ((l0.length : Int) == (l1.length : Int)) = true := beq_iff_eq.mpr c300; have c300b1 : ((l0.length : Int) != (l1.length : Int)) = false := bne_eq_false_iff_eq.mpr c300; (have c300b2 : (l0.length == l1.length) = true := by first | simpa using c300 | (simp at c300 ⊢; omega)); have Kc300 := Aside0.mk c300; clear c300; go_wp2_with fail; (try (go_quiet (fail); go_wp2_with fail)); go_loopg [13] k (fun kq v13 w' => ∃ (x13_301 : Int), v13 = .int .i64 x13_301 ∧ Aside0 (book_End_55.l0 kq l0 l1 (l0.length : Int) x13_301 = some r) ∧ Aside0 (kq ≤ k) ∧ Drawn0 w w')
   case atStart => exact ⟨0, (by first | rfl | (simp; done) | (simp [*]; done)), H, ⟨Nat.le_refl _⟩, (by repeat (first | exact Drawn0.refl _ | apply Drawn0.step))⟩
   case round =>
    clear H  ; obtain ⟨x13_301, rfl, HA, HK301, ⟨nd301, rfl⟩⟩ := hrel
    cases gk with
    | zero => exact absurd HA.out (by simp [book_End_55.l0])
    | succ k301 =>
     have H1 := HA.out; simp only [book_End_55.l0] at H1; have H := Aside0.mk H1; clear H1 HA; by_cases c302 : x13_301 < ((l0.length : Int))
     · replace H := a0p c302 H; have c302b0 : decide (x13_301 < ((l0.length : Int))) = true := decide_eq_true c302; have Kc302 := Aside0.mk c302; clear c302; by_cases c303 : 0 ≤ x13_301
       · replace H := a0p c303 H; have c303b0 : decide (0 ≤ x13_301) = true := decide_eq_true c303; have Kc303 := Aside0.mk c303; clear c303; by_cases c304 : x13_301 < (l0.length : Int)
         · replace H := a0p c304 H; have c304b0 : decide (x13_301 < (l0.length : Int)) = true := decide_eq_true c304; have Kc304 := Aside0.mk c304; clear c304; have p228 : 0 ≤ (x13_301 : Int) := Kc303.out; have q228 : x13_301 < (l0.length : Int) := Kc304.out; obtain ⟨ad228, e228, hx228_0, hx228_1⟩ := at_T71 HR0.out (x13_301) p228 q228
           cases e228
           by_cases c305 : x13_301 < (l1.length : Int)
           · replace H := a0p c305 H; have c305b0 : decide (x13_301 < (l1.length : Int)) = true := decide_eq_true c305; have Kc305 := Aside0.mk c305; clear c305; have p229 : 0 ≤ (x13_301 : Int) := Kc303.out; have q229 : x13_301 < (l1.length : Int) := Kc305.out; obtain ⟨ad229, e229, hx229_0, hx229_1⟩ := at_T71 HR1.out (x13_301) p229 q229
             cases e229
             by_cases c306 : (!(((rd_T71 l0 x13_301).f0) == ((rd_T71 l1 x13_301).f0)) || (!(((rd_T71 l0 x13_301).f1) == ((rd_T71 l1 x13_301).f1)))) = true
             · replace H := a0p c306 H; have c306b0 : (!(((rd_T71 l0 x13_301).f0) == ((rd_T71 l1 x13_301).f0)) || (!(((rd_T71 l0 x13_301).f1) == ((rd_T71 l1 x13_301).f1)))) = true := c306; have Kc306 := Aside0.mk c306; clear c306; obtain rfl := Option.some.inj H.out; go_wp2; (try (go_quiet (fail); go_wp2)); go_ret; exact ⟨by first | rfl | (simp; done) | (simp [*]; done), (by repeat (first | exact Drawn0.refl _ | apply Drawn0.step))⟩
             · replace H := a0n c306 H; (have c306b0 : (!(((rd_T71 l0 x13_301).f0) == ((rd_T71 l1 x13_301).f0)) || (!(((rd_T71 l0 x13_301).f1) == ((rd_T71 l1 x13_301).f1)))) = false := by simpa using c306); have Kc306 := Aside0.mk c306; clear c306; go_wp2_with fail; (try (go_quiet (fail); go_wp2_with fail)); go_roundg k301
               case measure => have := HK301.out; omega
               case rel => exact ⟨(wrap64 (x13_301 + 1)), (by first | rfl | (simp; done) | (simp [*]; done)), H, ⟨by have := HK301.out; omega⟩, (by repeat (first | exact Drawn0.refl _ | apply Drawn0.step))⟩
           · replace H := a0n c305 H; exact absurd H.out (by simp)
         · replace H := a0n c304 H; exact absurd H.out (by simp)
       · replace H := a0n c303 H; exact absurd H.out (by simp)
     · replace H := a0n c302 H; have c302b0 : decide (x13_301 < ((l0.length : Int))) = false := decide_eq_false c302; have Kc302 := Aside0.mk c302; clear c302; obtain rfl := Option.some.inj H.out; go_wp2; (try (go_quiet (fail); go_wp2)); go_ret; exact ⟨by first | rfl | (simp; done) | (simp [*]; done), (by repeat (first | exact Drawn0.refl _ | apply Drawn0.step))⟩
 · replace H := a0n c300 H; have c300b0 : ((l0.length : Int) == (l1.length : Int)) = false := beq_eq_false_iff_ne.mpr c300; have c300b1 : ((l0.length : Int) != (l1.length : Int)) = true := bne_iff_ne.mpr c300; (have c300b2 : (l0.length == l1.length) = false := by first | simpa using c300 | (simp at c300 ⊢; omega)); have Kc300 := Aside0.mk c300; clear c300; obtain rfl := Option.some.inj H.out; go_wp2; (try (go_quiet (fail); go_wp2)); go_ret; exact ⟨by first | rfl | (simp; done) | (simp [*]; done), (by repeat (first | exact Drawn0.refl _ | apply Drawn0.step))⟩

/-! ### book_Same_2: function 54 -/
def book_Same_2.f (k : Nat) (a0_0 : Int) (a0_1 : Int) (l0_2 : List (S71)) (a1_0 : Int) (a1_1 : Int) (l1_2 : List (S71)) : Option (Bool) := if (a0_0 == a1_0 && (a0_1 == a1_1)) = true then ((book_End_55.f k l0_2 l1_2).bind fun t232 => (some t232)) else (some false)
theorem book_Same_2.mono : ∀ a0 a1 a2 a3 a4 a5 k, LeO (book_Same_2.f k a0 a1 a2 a3 a4 a5) (book_Same_2.f (k + 1) a0 a1 a2 a3 a4 a5) := by
  intro a0 a1 a2 a3 a4 a5 k
  unfold book_Same_2.f
  repeat' first | (with_reducible apply book_End_55.mono) | (with_reducible exact LeO.refl _) | (with_reducible exact LeO.none _) | (with_reducible refine LeO.ite ?_ ?_) | (with_reducible refine LeO.bind ?_ (fun _ => ?_)) | apply LeO.none | apply LeO.ite | (refine LeO.bind ?_ (fun _ => ?_))
set_option maxHeartbeats 8000000 in
set_option maxRecDepth 100000 in
theorem book_Same_2.calls (k : Nat) (a0_0 : Int) (a0_1 : Int) (A0_2 : Option Addr) (c0_2 : Nat) (l0_2 : List (S71)) (a1_0 : Int) (a1_1 : Int) (A1_2 : Option Addr) (c1_2 : Nat) (l1_2 : List (S71)) (r : Bool) (w : World) (hr0_2 : Kd.C k71 w A0_2 l0_2.length l0_2) (hc0_2 : l0_2.length ≤ c0_2) (hr1_2 : Kd.C k71 w A1_2 l1_2.length l1_2) (hc1_2 : l1_2.length ≤ c1_2) (h : book_Same_2.f k a0_0 a0_1 l0_2 a1_0 a1_1 l1_2 = some r) :
    Calls Tryz.prog 54 #[.agg #[.int .i64 a0_0, .int .i64 a0_1, .slice A0_2 l0_2.length c0_2], .agg #[.int .i64 a1_0, .int .i64 a1_1, .slice A1_2 l1_2.length c1_2]] w fun e w' => e = .returned (.bool r) ∧ Below w.heap.size w w' := by
 have HR0_2 := Aside0.mk hr0_2; have HC0_2 := Aside0.mk hc0_2; clear hr0_2 hc0_2; have HR1_2 := Aside0.mk hr1_2; have HC1_2 := Aside0.mk hc1_2; clear hr1_2 hc1_2; unfold book_Same_2.f at h; have H := Aside0.mk h; clear h; have HB := Aside0.mk (Below.refl w.heap.size w); have hu74 := Tryz.underlying74; go_enter Tryz.func54, Tryz.ntmps54; have BK307 := Aside0.mk (pe_box0 w #[.int .i64 a0_0, .int .i64 a0_1, .slice A0_2 l0_2.length c0_2] 74); replace HB := Aside0.mk (below_alloc HB.out (.cells #[.int .i64 a0_0, .int .i64 a0_1, .slice A0_2 l0_2.length c0_2] 74)); by_cases c309 : (a0_0 == a1_0 && (a0_1 == a1_1)) = true
 · replace H := a0p c309 H; have c309b0 : (a0_0 == a1_0 && (a0_1 == a1_1)) = true := c309; ((try (have c309b1 : decide (a0_0 = a1_0 && (a0_1 == a1_1)) = true := by simpa using c309))); ((try (have c309b2 : (a0_0 == a1_0 && (a0_1 == a1_1)) = true := by simpa using c309))); have Kc309 := Aside0.mk c309; clear c309; have BK308 := Aside0.mk (pe_box1 w (.cells #[.int .i64 a0_0, .int .i64 a0_1, .slice A0_2 l0_2.length c0_2] 74) #[.int .i64 a1_0, .int .i64 a1_1, .slice A1_2 l1_2.length c1_2] 74); replace BK307 := Aside0.mk (blk_below BK307.out (alloc_below0 _ (.cells #[.int .i64 a1_0, .int .i64 a1_1, .slice A1_2 l1_2.length c1_2] 74))); replace HB := Aside0.mk (below_alloc HB.out (.cells #[.int .i64 a1_0, .int .i64 a1_1, .slice A1_2 l1_2.length c1_2] 74)); obtain ⟨t232, q310, H1⟩ := a0b H; clear H; have H := H1; clear H1; go_wp2_with fail; (with_reducible refine (book_End_55.calls k _ _ l0_2 _ _ l1_2 t232 _ (Kd.C_below HR0_2.out HB.out) HC0_2.out (Kd.C_below HR1_2.out HB.out) HC1_2.out q310.out).mono ?_); clear q310; (rintro e w311 ⟨rfl, hd⟩); have hb := hd.below; clear hd; replace HB := Aside0.mk (below_step HB.out hb); replace BK307 := Aside0.mk (blk_below BK307.out hb); replace BK308 := Aside0.mk (blk_below BK308.out hb); clear hb; have Z307 := blk3 BK307.out; have Z308 := blk3 BK308.out; obtain rfl := Option.some.inj H.out; go_wp2; go_ret; exact ⟨by first | rfl | (simp; done) | (simp [*]; done), HB.out⟩
 · replace H := a0n c309 H; (have c309b0 : (a0_0 == a1_0 && (a0_1 == a1_1)) = false := by simpa using c309); ((try (have c309b1 : decide (a0_0 = a1_0 && (a0_1 == a1_1)) = false := by simpa using c309))); ((try (have c309b2 : (a0_0 == a1_0 && (a0_1 == a1_1)) = false := by simpa using c309))); ((try (have c309b3 : ¬ (a0_0 = a1_0 && (a0_1 == a1_1)) := by simpa using c309))); have Kc309 := Aside0.mk c309; clear c309; have BK308 := Aside0.mk (pe_box1 w (.cells #[.int .i64 a0_0, .int .i64 a0_1, .slice A0_2 l0_2.length c0_2] 74) #[.int .i64 a1_0, .int .i64 a1_1, .slice A1_2 l1_2.length c1_2] 74); replace BK307 := Aside0.mk (blk_below BK307.out (alloc_below0 _ (.cells #[.int .i64 a1_0, .int .i64 a1_1, .slice A1_2 l1_2.length c1_2] 74))); replace HB := Aside0.mk (below_alloc HB.out (.cells #[.int .i64 a1_0, .int .i64 a1_1, .slice A1_2 l1_2.length c1_2] 74)); obtain rfl := Option.some.inj H.out; go_wp2; go_ret; exact ⟨by first | rfl | (simp; done) | (simp [*]; done), HB.out⟩

/-! ### book_Link_56: function 56 -/
def book_Link_56.l0 : Nat → List (S77) → List (S77) → Int → Int → Option (Bool)
  | 0, _, _, _, _ => none
  | k + 1, x0, x1, x12, x13 => if x13 < x12 then (if 0 ≤ x13 then (if x13 < (x0.length : Int) then (if x13 < (x1.length : Int) then (if (!((((rd_T77 x0 x13).f0).toList) == (((rd_T77 x1 x13).f0).toList)) || (!(((rd_T77 x0 x13).f1) == ((rd_T77 x1 x13).f1)) || (!(((rd_T77 x0 x13).f2) == ((rd_T77 x1 x13).f2))))) = true then (some false) else (book_Link_56.l0 k x0 x1 x12 (wrap64 (x13 + 1)))) else (none)) else (none)) else (none)) else (some true)
def book_Link_56.f (k : Nat) (l0 : List (S77)) (l1 : List (S77)) : Option (Bool) := if (l0.length : Int) = (l1.length : Int) then (book_Link_56.l0 k l0 l1 (l0.length : Int) 0) else (some false)
theorem book_Link_56.mono_l : ∀ k, (∀ y0 y1 y2 y3, LeO (book_Link_56.l0 k y0 y1 y2 y3) (book_Link_56.l0 (k + 1) y0 y1 y2 y3))
  | 0 => fun _ _ _ _ r h => by simp [book_Link_56.l0] at h
  | k + 1 => by
    have ih0 := book_Link_56.mono_l k
    · intro y0 y1 y2 y3
      unfold book_Link_56.l0
      repeat' first | (with_reducible apply ih0) | (with_reducible exact LeO.refl _) | (with_reducible exact LeO.none _) | (with_reducible refine LeO.ite ?_ ?_) | (with_reducible refine LeO.bind ?_ (fun _ => ?_)) | apply LeO.none | apply LeO.ite | (refine LeO.bind ?_ (fun _ => ?_))
theorem book_Link_56.mono : ∀ a0 a1 k, LeO (book_Link_56.f k a0 a1) (book_Link_56.f (k + 1) a0 a1) := by
  intro a0 a1 k
  have ih0 := book_Link_56.mono_l k
  unfold book_Link_56.f
  repeat' first | (with_reducible apply ih0) | (with_reducible exact LeO.refl _) | (with_reducible exact LeO.none _) | (with_reducible refine LeO.ite ?_ ?_) | (with_reducible refine LeO.bind ?_ (fun _ => ?_)) | apply LeO.none | apply LeO.ite | (refine LeO.bind ?_ (fun _ => ?_))
set_option maxHeartbeats 8000000 in
set_option maxRecDepth 100000 in
theorem book_Link_56.calls (k : Nat) (A0 : Option Addr) (c0 : Nat) (l0 : List (S77)) (A1 : Option Addr) (c1 : Nat) (l1 : List (S77)) (r : Bool) (w : World) (hr0 : Kd.C k77 w A0 l0.length l0) (hc0 : l0.length ≤ c0) (hr1 : Kd.C k77 w A1 l1.length l1) (hc1 : l1.length ≤ c1) (h : book_Link_56.f k l0 l1 = some r) :
    Calls Tryz.prog 56 #[.slice A0 l0.length c0, .slice A1 l1.length c1] w fun e w' => e = .returned (.bool r) ∧ Drawn0 w w' := by
 have HR0 := Aside0.mk hr0; have HC0 := Aside0.mk hc0; clear hr0 hc0; have HR1 := Aside0.mk hr1; have HC1 := Aside0.mk hc1; clear hr1 hc1; unfold book_Link_56.f at h; have H := Aside0.mk h; clear h; go_enter Tryz.func56, Tryz.ntmps56; by_cases c312 : (l0.length : Int) = (l1.length : Int)
 · replace H := a0p c312 H; have c312b0 : ((l0.length : Int) == (l1.length : Int)) = true := beq_iff_eq.mpr c312; have c312b1 : ((l0.length : Int) != (l1.length : Int)) = false := bne_eq_false_iff_eq.mpr c312; (have c312b2 : (l0.length == l1.length) = true := by first | simpa using c312 | (simp at c312 ⊢; omega)); have Kc312 := Aside0.mk c312; clear c312; go_wp2_with fail; (try (go_quiet (fail); go_wp2_with fail)); go_loopg [13] k (fun kq v13 w' => ∃ (x13_313 : Int), v13 = .int .i64 x13_313 ∧ Aside0 (book_Link_56.l0 kq l0 l1 (l0.length : Int) x13_313 = some r) ∧ Aside0 (kq ≤ k) ∧ Drawn0 w w')
   case atStart => exact ⟨0, (by first | rfl | (simp; done) | (simp [*]; done)), H, ⟨Nat.le_refl _⟩, (by repeat (first | exact Drawn0.refl _ | apply Drawn0.step))⟩
   case round =>
    clear H  ; obtain ⟨x13_313, rfl, HA, HK313, ⟨nd313, rfl⟩⟩ := hrel
    cases gk with
    | zero => exact absurd HA.out (by simp [book_Link_56.l0])
    | succ k313 =>
     have H1 := HA.out; simp only [book_Link_56.l0] at H1; have H := Aside0.mk H1; clear H1 HA; by_cases c314 : x13_313 < ((l0.length : Int))
     · replace H := a0p c314 H; have c314b0 : decide (x13_313 < ((l0.length : Int))) = true := decide_eq_true c314; have Kc314 := Aside0.mk c314; clear c314; by_cases c315 : 0 ≤ x13_313
       · replace H := a0p c315 H; have c315b0 : decide (0 ≤ x13_313) = true := decide_eq_true c315; have Kc315 := Aside0.mk c315; clear c315; by_cases c316 : x13_313 < (l0.length : Int)
         · replace H := a0p c316 H; have c316b0 : decide (x13_313 < (l0.length : Int)) = true := decide_eq_true c316; have Kc316 := Aside0.mk c316; clear c316; have p233 : 0 ≤ (x13_313 : Int) := Kc315.out; have q233 : x13_313 < (l0.length : Int) := Kc316.out; obtain ⟨ad233, e233, hx233_0, hx233_1, hx233_2⟩ := at_T77 HR0.out (x13_313) p233 q233
           cases e233
           by_cases c317 : x13_313 < (l1.length : Int)
           · replace H := a0p c317 H; have c317b0 : decide (x13_313 < (l1.length : Int)) = true := decide_eq_true c317; have Kc317 := Aside0.mk c317; clear c317; have p234 : 0 ≤ (x13_313 : Int) := Kc315.out; have q234 : x13_313 < (l1.length : Int) := Kc317.out; obtain ⟨ad234, e234, hx234_0, hx234_1, hx234_2⟩ := at_T77 HR1.out (x13_313) p234 q234
             cases e234
             by_cases c318 : (!((((rd_T77 l0 x13_313).f0).toList) == (((rd_T77 l1 x13_313).f0).toList)) || (!(((rd_T77 l0 x13_313).f1) == ((rd_T77 l1 x13_313).f1)) || (!(((rd_T77 l0 x13_313).f2) == ((rd_T77 l1 x13_313).f2))))) = true
             · replace H := a0p c318 H; have c318b0 : (!((((rd_T77 l0 x13_313).f0).toList) == (((rd_T77 l1 x13_313).f0).toList)) || (!(((rd_T77 l0 x13_313).f1) == ((rd_T77 l1 x13_313).f1)) || (!(((rd_T77 l0 x13_313).f2) == ((rd_T77 l1 x13_313).f2))))) = true := c318; have Kc318 := Aside0.mk c318; clear c318; obtain rfl := Option.some.inj H.out; go_wp2; (try (go_quiet (fail); go_wp2)); go_ret; exact ⟨by first | rfl | (simp; done) | (simp [*]; done), (by repeat (first | exact Drawn0.refl _ | apply Drawn0.step))⟩
             · replace H := a0n c318 H; (have c318b0 : (!((((rd_T77 l0 x13_313).f0).toList) == (((rd_T77 l1 x13_313).f0).toList)) || (!(((rd_T77 l0 x13_313).f1) == ((rd_T77 l1 x13_313).f1)) || (!(((rd_T77 l0 x13_313).f2) == ((rd_T77 l1 x13_313).f2))))) = false := by simpa using c318); have Kc318 := Aside0.mk c318; clear c318; go_wp2_with fail; (try (go_quiet (fail); go_wp2_with fail)); go_roundg k313
               case measure => have := HK313.out; omega
               case rel => exact ⟨(wrap64 (x13_313 + 1)), (by first | rfl | (simp; done) | (simp [*]; done)), H, ⟨by have := HK313.out; omega⟩, (by repeat (first | exact Drawn0.refl _ | apply Drawn0.step))⟩
           · replace H := a0n c317 H; exact absurd H.out (by simp)
         · replace H := a0n c316 H; exact absurd H.out (by simp)
       · replace H := a0n c315 H; exact absurd H.out (by simp)
     · replace H := a0n c314 H; have c314b0 : decide (x13_313 < ((l0.length : Int))) = false := decide_eq_false c314; have Kc314 := Aside0.mk c314; clear c314; obtain rfl := Option.some.inj H.out; go_wp2; (try (go_quiet (fail); go_wp2)); go_ret; exact ⟨by first | rfl | (simp; done) | (simp [*]; done), (by repeat (first | exact Drawn0.refl _ | apply Drawn0.step))⟩
 · replace H := a0n c312 H; have c312b0 : ((l0.length : Int) == (l1.length : Int)) = false := beq_eq_false_iff_ne.mpr c312; have c312b1 : ((l0.length : Int) != (l1.length : Int)) = true := bne_iff_ne.mpr c312; (have c312b2 : (l0.length == l1.length) = false := by first | simpa using c312 | (simp at c312 ⊢; omega)); have Kc312 := Aside0.mk c312; clear c312; obtain rfl := Option.some.inj H.out; go_wp2; (try (go_quiet (fail); go_wp2)); go_ret; exact ⟨by first | rfl | (simp; done) | (simp [*]; done), (by repeat (first | exact Drawn0.refl _ | apply Drawn0.step))⟩

/-! ### book_Partition_48__49: function 48 at book_Partition_same -/
def book_Partition_48__49.f (k : Nat) (l m : List (S52)) : Option (Bool) := if (l.length : Int) = (m.length : Int) then (if l.length ≤ 140737488351232 then (zipO (fun x y => book_Partition_same.f k (x.f0) (x.f1) (x.f2) (x.f3) (x.f4) (x.f5) (x.f6) (x.f7) (x.f8) (x.f9) (x.f10) (x.f11.f0) (x.f11.f1) (y.f0) (y.f1) (y.f2) (y.f3) (y.f4) (y.f5) (y.f6) (y.f7) (y.f8) (y.f9) (y.f10) (y.f11.f0) (y.f11.f1)) l m) else none) else (some false)
theorem book_Partition_48__49.mono : ∀ a0 a1 k, LeO (book_Partition_48__49.f k a0 a1) (book_Partition_48__49.f (k + 1) a0 a1) := by
  intro a0 a1 k
  unfold book_Partition_48__49.f
  exact LeO.ite (LeO.ite (zipO_mono (fun x y => book_Partition_same.mono _ _ _ _ _ _ _ _ _ _ _ _ _ _ _ _ _ _ _ _ _ _ _ _ _ _ k) a0 a1) (LeO.refl _)) (LeO.refl _)
set_option maxHeartbeats 4000000 in
set_option maxRecDepth 100000 in
theorem book_Partition_48__49.calls (k : Nat) (A0 : Option Addr) (c0 : Nat) (l : List (S52)) (A1 : Option Addr) (c1 : Nat) (m : List (S52)) (r : Bool) (w : World) (hr0 : Kd.C k52 w A0 l.length l) (hc0 : l.length ≤ c0) (hr1 : Kd.C k52 w A1 m.length m) (hc1 : m.length ≤ c1) (h : book_Partition_48__49.f k l m = some r) :
    Calls Tryz.prog 48 #[.slice A0 l.length c0, .slice A1 m.length c1, .func (.func 49) #[] #[]] w fun e w' => e = .returned (.bool r) ∧ Below w.heap.size w w' := by
  unfold book_Partition_48__49.f at h
  have HR0 := Aside0.mk hr0
  have HR1 := Aside0.mk hr1
  clear hr0 hr1
  by_cases hle : (l.length : Int) = (m.length : Int)
  · rw [if_pos hle] at h
    obtain ⟨hL, h2⟩ := if_some h
    clear h
    have h := h2
    clear h2
    have hd : ((l.length : Int) != (m.length : Int)) = false := by rw [hle]; simp
    have hd2 : (l.length != m.length) = false := by have : l.length = m.length := by omega
                                                    rw [this]; simp
    have HE : Aside0 (l.length = m.length) := ⟨by omega⟩
    have H0 : Aside0 (zipO (fun x y => book_Partition_same.f k (x.f0) (x.f1) (x.f2) (x.f3) (x.f4) (x.f5) (x.f6) (x.f7) (x.f8) (x.f9) (x.f10) (x.f11.f0) (x.f11.f1) (y.f0) (y.f1) (y.f2) (y.f3) (y.f4) (y.f5) (y.f6) (y.f7) (y.f8) (y.f9) (y.f10) (y.f11.f0) (y.f11.f1)) (l.drop 0) (m.drop 0) = some r) := ⟨by simpa using h⟩
    clear h hle
    go_enter Tryz.func48, Tryz.ntmps48
    go_wp2
    go_loopw [17] (fun v17 wr => ∃ j : Nat, v17 = .int .i64 (j : Int) ∧ j ≤ l.length ∧ Aside0 (zipO (fun x y => book_Partition_same.f k (x.f0) (x.f1) (x.f2) (x.f3) (x.f4) (x.f5) (x.f6) (x.f7) (x.f8) (x.f9) (x.f10) (x.f11.f0) (x.f11.f1) (y.f0) (y.f1) (y.f2) (y.f3) (y.f4) (y.f5) (y.f6) (y.f7) (y.f8) (y.f9) (y.f10) (y.f11.f0) (y.f11.f1)) (l.drop j) (m.drop j) = some r) ∧ Aside0 (Below w.heap.size w wr)) (fun v17 _ => l.length - (intOf v17).toNat)
    case atStart => exact ⟨0, rfl, Nat.zero_le _, H0, ⟨Below.refl _ _⟩⟩
    case round =>
      clear H0
      obtain ⟨j, rfl, hj, HA, HB⟩ := hrel
      by_cases hlt : j < l.length
      · have hlm : j < m.length := by have := HE.out; omega
        have p7 : (0 : Int) ≤ (j : Int) := by omega
        have q7 : (j : Int) < (l.length : Int) := by omega
        have p8 : (0 : Int) ≤ (j : Int) := by omega
        have q8 : (j : Int) < (m.length : Int) := by omega
        obtain ⟨b, hb1, hb2, hb3⟩ := zipO_cons hlt hlm HA.out
        have HB1 := Aside0.mk hb1
        have HB2 := Aside0.mk hb2
        have HB3 := Aside0.mk hb3
        clear hb1 hb2 hb3
        obtain ⟨ad7, A7_1, c7_1, A7_2, c7_2, A7_3, c7_3, A7_4, c7_4, A7_5, c7_5, A7_6, c7_6, A7_7, c7_7, A7_8, c7_8, A7_9, c7_9, e7, hx7_0, hx7_1, hx7_2, hx7_3, hx7_4, hx7_5, hx7_6, hx7_7, hx7_8, hx7_9, hx7_10, hx7_11, hx7_12, hl7_1, hi7_1, hl7_2, hi7_2, hl7_3, hi7_3, hl7_4, hi7_4, hl7_5, hi7_5, hl7_6, hi7_6, hl7_7, hi7_7, hl7_8, hi7_8, hl7_9, hi7_9⟩ := at_T52 HR0.out (j : Int) p7 q7
        cases e7
        replace hx7_0 := (HB.out.cell (World.block_lt_of_cell? w _ hx7_0)).trans hx7_0
        replace hx7_1 := (HB.out.cell (World.block_lt_of_cell? w _ hx7_1)).trans hx7_1
        replace hx7_2 := (HB.out.cell (World.block_lt_of_cell? w _ hx7_2)).trans hx7_2
        replace hx7_3 := (HB.out.cell (World.block_lt_of_cell? w _ hx7_3)).trans hx7_3
        replace hx7_4 := (HB.out.cell (World.block_lt_of_cell? w _ hx7_4)).trans hx7_4
        replace hx7_5 := (HB.out.cell (World.block_lt_of_cell? w _ hx7_5)).trans hx7_5
        replace hx7_6 := (HB.out.cell (World.block_lt_of_cell? w _ hx7_6)).trans hx7_6
        replace hx7_7 := (HB.out.cell (World.block_lt_of_cell? w _ hx7_7)).trans hx7_7
        replace hx7_8 := (HB.out.cell (World.block_lt_of_cell? w _ hx7_8)).trans hx7_8
        replace hx7_9 := (HB.out.cell (World.block_lt_of_cell? w _ hx7_9)).trans hx7_9
        replace hx7_10 := (HB.out.cell (World.block_lt_of_cell? w _ hx7_10)).trans hx7_10
        replace hx7_11 := (HB.out.cell (World.block_lt_of_cell? w _ hx7_11)).trans hx7_11
        replace hx7_12 := (HB.out.cell (World.block_lt_of_cell? w _ hx7_12)).trans hx7_12
        have HR7_1 := Aside0.mk hi7_1
        have HC7_1 := Aside0.mk hl7_1
        clear hi7_1 hl7_1
        have HR7_2 := Aside0.mk hi7_2
        have HC7_2 := Aside0.mk hl7_2
        clear hi7_2 hl7_2
        have HR7_3 := Aside0.mk hi7_3
        have HC7_3 := Aside0.mk hl7_3
        clear hi7_3 hl7_3
        have HR7_4 := Aside0.mk hi7_4
        have HC7_4 := Aside0.mk hl7_4
        clear hi7_4 hl7_4
        have HR7_5 := Aside0.mk hi7_5
        have HC7_5 := Aside0.mk hl7_5
        clear hi7_5 hl7_5
        have HR7_6 := Aside0.mk hi7_6
        have HC7_6 := Aside0.mk hl7_6
        clear hi7_6 hl7_6
        have HR7_7 := Aside0.mk hi7_7
        have HC7_7 := Aside0.mk hl7_7
        clear hi7_7 hl7_7
        have HR7_8 := Aside0.mk hi7_8
        have HC7_8 := Aside0.mk hl7_8
        clear hi7_8 hl7_8
        have HR7_9 := Aside0.mk hi7_9
        have HC7_9 := Aside0.mk hl7_9
        clear hi7_9 hl7_9
        obtain ⟨ad8, A8_1, c8_1, A8_2, c8_2, A8_3, c8_3, A8_4, c8_4, A8_5, c8_5, A8_6, c8_6, A8_7, c8_7, A8_8, c8_8, A8_9, c8_9, e8, hx8_0, hx8_1, hx8_2, hx8_3, hx8_4, hx8_5, hx8_6, hx8_7, hx8_8, hx8_9, hx8_10, hx8_11, hx8_12, hl8_1, hi8_1, hl8_2, hi8_2, hl8_3, hi8_3, hl8_4, hi8_4, hl8_5, hi8_5, hl8_6, hi8_6, hl8_7, hi8_7, hl8_8, hi8_8, hl8_9, hi8_9⟩ := at_T52 HR1.out (j : Int) p8 q8
        cases e8
        replace hx8_0 := (HB.out.cell (World.block_lt_of_cell? w _ hx8_0)).trans hx8_0
        replace hx8_1 := (HB.out.cell (World.block_lt_of_cell? w _ hx8_1)).trans hx8_1
        replace hx8_2 := (HB.out.cell (World.block_lt_of_cell? w _ hx8_2)).trans hx8_2
        replace hx8_3 := (HB.out.cell (World.block_lt_of_cell? w _ hx8_3)).trans hx8_3
        replace hx8_4 := (HB.out.cell (World.block_lt_of_cell? w _ hx8_4)).trans hx8_4
        replace hx8_5 := (HB.out.cell (World.block_lt_of_cell? w _ hx8_5)).trans hx8_5
        replace hx8_6 := (HB.out.cell (World.block_lt_of_cell? w _ hx8_6)).trans hx8_6
        replace hx8_7 := (HB.out.cell (World.block_lt_of_cell? w _ hx8_7)).trans hx8_7
        replace hx8_8 := (HB.out.cell (World.block_lt_of_cell? w _ hx8_8)).trans hx8_8
        replace hx8_9 := (HB.out.cell (World.block_lt_of_cell? w _ hx8_9)).trans hx8_9
        replace hx8_10 := (HB.out.cell (World.block_lt_of_cell? w _ hx8_10)).trans hx8_10
        replace hx8_11 := (HB.out.cell (World.block_lt_of_cell? w _ hx8_11)).trans hx8_11
        replace hx8_12 := (HB.out.cell (World.block_lt_of_cell? w _ hx8_12)).trans hx8_12
        have HR8_1 := Aside0.mk hi8_1
        have HC8_1 := Aside0.mk hl8_1
        clear hi8_1 hl8_1
        have HR8_2 := Aside0.mk hi8_2
        have HC8_2 := Aside0.mk hl8_2
        clear hi8_2 hl8_2
        have HR8_3 := Aside0.mk hi8_3
        have HC8_3 := Aside0.mk hl8_3
        clear hi8_3 hl8_3
        have HR8_4 := Aside0.mk hi8_4
        have HC8_4 := Aside0.mk hl8_4
        clear hi8_4 hl8_4
        have HR8_5 := Aside0.mk hi8_5
        have HC8_5 := Aside0.mk hl8_5
        clear hi8_5 hl8_5
        have HR8_6 := Aside0.mk hi8_6
        have HC8_6 := Aside0.mk hl8_6
        clear hi8_6 hl8_6
        have HR8_7 := Aside0.mk hi8_7
        have HC8_7 := Aside0.mk hl8_7
        clear hi8_7 hl8_7
        have HR8_8 := Aside0.mk hi8_8
        have HC8_8 := Aside0.mk hl8_8
        clear hi8_8 hl8_8
        have HR8_9 := Aside0.mk hi8_9
        have HC8_9 := Aside0.mk hl8_9
        clear hi8_9 hl8_9
        have EX : Aside0 (rd_T52 l (j : Int) = l[j]) := ⟨by show l.getD _ _ = _; rw [Int.toNat_natCast, List.getD_eq_getElem?_getD, List.getElem?_eq_getElem hlt, Option.getD_some]⟩
        have EY : Aside0 (rd_T52 m (j : Int) = m[j]) := ⟨by show m.getD _ _ = _; rw [Int.toNat_natCast, List.getD_eq_getElem?_getD, List.getElem?_eq_getElem hlm, Option.getD_some]⟩
        clear p7 q7 p8 q8
        have hz8_0 := fun o => ((alloc_below0 wr o).cell (World.block_lt_of_cell? wr _ hx8_0)).trans hx8_0
        clear hx8_0
        have hz8_1 := fun o => ((alloc_below0 wr o).cell (World.block_lt_of_cell? wr _ hx8_1)).trans hx8_1
        clear hx8_1
        have hz8_2 := fun o => ((alloc_below0 wr o).cell (World.block_lt_of_cell? wr _ hx8_2)).trans hx8_2
        clear hx8_2
        have hz8_3 := fun o => ((alloc_below0 wr o).cell (World.block_lt_of_cell? wr _ hx8_3)).trans hx8_3
        clear hx8_3
        have hz8_4 := fun o => ((alloc_below0 wr o).cell (World.block_lt_of_cell? wr _ hx8_4)).trans hx8_4
        clear hx8_4
        have hz8_5 := fun o => ((alloc_below0 wr o).cell (World.block_lt_of_cell? wr _ hx8_5)).trans hx8_5
        clear hx8_5
        have hz8_6 := fun o => ((alloc_below0 wr o).cell (World.block_lt_of_cell? wr _ hx8_6)).trans hx8_6
        clear hx8_6
        have hz8_7 := fun o => ((alloc_below0 wr o).cell (World.block_lt_of_cell? wr _ hx8_7)).trans hx8_7
        clear hx8_7
        have hz8_8 := fun o => ((alloc_below0 wr o).cell (World.block_lt_of_cell? wr _ hx8_8)).trans hx8_8
        clear hx8_8
        have hz8_9 := fun o => ((alloc_below0 wr o).cell (World.block_lt_of_cell? wr _ hx8_9)).trans hx8_9
        clear hx8_9
        have hz8_10 := fun o => ((alloc_below0 wr o).cell (World.block_lt_of_cell? wr _ hx8_10)).trans hx8_10
        clear hx8_10
        have hz8_11 := fun o => ((alloc_below0 wr o).cell (World.block_lt_of_cell? wr _ hx8_11)).trans hx8_11
        clear hx8_11
        have hz8_12 := fun o => ((alloc_below0 wr o).cell (World.block_lt_of_cell? wr _ hx8_12)).trans hx8_12
        clear hx8_12
        generalize rd_T52 l (j : Int) = x at *
        generalize rd_T52 m (j : Int) = y at *
        have HC : Aside0 (book_Partition_same.f k (x.f0) (x.f1) (x.f2) (x.f3) (x.f4) (x.f5) (x.f6) (x.f7) (x.f8) (x.f9) (x.f10) (x.f11.f0) (x.f11.f1) (y.f0) (y.f1) (y.f2) (y.f3) (y.f4) (y.f5) (y.f6) (y.f7) (y.f8) (y.f9) (y.f10) (y.f11.f0) (y.f11.f1) = some b) := ⟨by rw [EX.out, EY.out]; exact HB1.out⟩
        clear HB1 EX EY
        simp only [Int.toNat_natCast] at *
        have HB9 := Aside0.mk (below_alloc (below_alloc HB.out (.cells #[.string (x.f0), .slice A7_1 (x.f1).length c7_1, .slice A7_2 (x.f2).length c7_2, .slice A7_3 (x.f3).length c7_3, .slice A7_4 (x.f4).length c7_4, .slice A7_5 (x.f5).length c7_5, .slice A7_6 (x.f6).length c7_6, .slice A7_7 (x.f7).length c7_7, .slice A7_8 (x.f8).length c7_8, .slice A7_9 (x.f9).length c7_9, .int .i64 (x.f10), .int .i64 (x.f11.f0), .int .i64 (x.f11.f1)] 52)) (.cells #[.string (y.f0), .slice A8_1 (y.f1).length c8_1, .slice A8_2 (y.f2).length c8_2, .slice A8_3 (y.f3).length c8_3, .slice A8_4 (y.f4).length c8_4, .slice A8_5 (y.f5).length c8_5, .slice A8_6 (y.f6).length c8_6, .slice A8_7 (y.f7).length c8_7, .slice A8_8 (y.f8).length c8_8, .slice A8_9 (y.f9).length c8_9, .int .i64 (y.f10), .int .i64 (y.f11.f0), .int .i64 (y.f11.f1)] 52))
        go_wp2_with fail
        refine (book_Partition_same.calls k (x.f0) _ _ (x.f1) _ _ (x.f2) _ _ (x.f3) _ _ (x.f4) _ _ (x.f5) _ _ (x.f6) _ _ (x.f7) _ _ (x.f8) _ _ (x.f9) (x.f10) (x.f11.f0) (x.f11.f1) (y.f0) _ _ (y.f1) _ _ (y.f2) _ _ (y.f3) _ _ (y.f4) _ _ (y.f5) _ _ (y.f6) _ _ (y.f7) _ _ (y.f8) _ _ (y.f9) (y.f10) (y.f11.f0) (y.f11.f1) b _ (Kd.C_below HR7_1.out HB9.out) HC7_1.out (Kd.C_below HR7_2.out HB9.out) HC7_2.out (Kd.C_below HR7_3.out HB9.out) HC7_3.out (Kd.C_below HR7_4.out HB9.out) HC7_4.out (Kd.C_below HR7_5.out HB9.out) HC7_5.out (Kd.C_below HR7_6.out HB9.out) HC7_6.out (Kd.C_below HR7_7.out HB9.out) HC7_7.out (Kd.C_below HR7_8.out HB9.out) HC7_8.out (Kd.C_below HR7_9.out HB9.out) HC7_9.out (Kd.C_below HR8_1.out HB9.out) HC8_1.out (Kd.C_below HR8_2.out HB9.out) HC8_2.out (Kd.C_below HR8_3.out HB9.out) HC8_3.out (Kd.C_below HR8_4.out HB9.out) HC8_4.out (Kd.C_below HR8_5.out HB9.out) HC8_5.out (Kd.C_below HR8_6.out HB9.out) HC8_6.out (Kd.C_below HR8_7.out HB9.out) HC8_7.out (Kd.C_below HR8_8.out HB9.out) HC8_8.out (Kd.C_below HR8_9.out HB9.out) HC8_9.out HC.out).mono ?_
        rintro e w9 ⟨rfl, hb⟩
        have HB10 := Aside0.mk (below_step (HB9.out) hb)
        clear hb HB HB9
        cases b with
        | true =>
          go_wp2
          go_roundw
          case rel => exact ⟨j + 1, by go_num, by omega, ⟨HB2.out (by simp)⟩, HB10⟩
          case measure => simp [intOf]; omega
        | false =>
          go_wp2
          go_ret
          exact ⟨by rw [HB3.out (by simp)]; rfl, HB10.out⟩
      · obtain rfl : j = l.length := by omega
        have hr : r = true := by have := HA.out; rw [List.drop_length] at this; simpa [zipO] using this.symm
        subst hr
        go_wp2
        go_ret
        exact ⟨rfl, HB.out⟩
  · rw [if_neg hle] at h
    obtain rfl := Option.some.inj h
    have hd : ((l.length : Int) != (m.length : Int)) = true := by simpa using hle
    have hd2 : (l.length != m.length) = true := by have : l.length ≠ m.length := by omega
                                                   simpa using this
    clear h hle
    go_enter Tryz.func48, Tryz.ntmps48
    go_wp2
    go_ret
    exact ⟨rfl, Below.refl _ _⟩

/-! ### book_Schedule_50__51: function 50 at book_Same_1 -/
def book_Schedule_50__51.f (k : Nat) (l m : List (S67)) : Option (Bool) := if (l.length : Int) = (m.length : Int) then (if l.length ≤ 140737488351232 then (zipO (fun x y => book_Same_1.f k (x.f0) (x.f1) (x.f2) (y.f0) (y.f1) (y.f2)) l m) else none) else (some false)
theorem book_Schedule_50__51.mono : ∀ a0 a1 k, LeO (book_Schedule_50__51.f k a0 a1) (book_Schedule_50__51.f (k + 1) a0 a1) := by
  intro a0 a1 k
  unfold book_Schedule_50__51.f
  exact LeO.ite (LeO.ite (zipO_mono (fun x y => book_Same_1.mono _ _ _ _ _ _ k) a0 a1) (LeO.refl _)) (LeO.refl _)
set_option maxHeartbeats 4000000 in
set_option maxRecDepth 100000 in
theorem book_Schedule_50__51.calls (k : Nat) (A0 : Option Addr) (c0 : Nat) (l : List (S67)) (A1 : Option Addr) (c1 : Nat) (m : List (S67)) (r : Bool) (w : World) (hr0 : Kd.C k67 w A0 l.length l) (hc0 : l.length ≤ c0) (hr1 : Kd.C k67 w A1 m.length m) (hc1 : m.length ≤ c1) (h : book_Schedule_50__51.f k l m = some r) :
    Calls Tryz.prog 50 #[.slice A0 l.length c0, .slice A1 m.length c1, .func (.func 51) #[] #[]] w fun e w' => e = .returned (.bool r) ∧ Below w.heap.size w w' := by
  unfold book_Schedule_50__51.f at h
  have HR0 := Aside0.mk hr0
  have HR1 := Aside0.mk hr1
  clear hr0 hr1
  by_cases hle : (l.length : Int) = (m.length : Int)
  · rw [if_pos hle] at h
    obtain ⟨hL, h2⟩ := if_some h
    clear h
    have h := h2
    clear h2
    have hd : ((l.length : Int) != (m.length : Int)) = false := by rw [hle]; simp
    have hd2 : (l.length != m.length) = false := by have : l.length = m.length := by omega
                                                    rw [this]; simp
    have HE : Aside0 (l.length = m.length) := ⟨by omega⟩
    have H0 : Aside0 (zipO (fun x y => book_Same_1.f k (x.f0) (x.f1) (x.f2) (y.f0) (y.f1) (y.f2)) (l.drop 0) (m.drop 0) = some r) := ⟨by simpa using h⟩
    clear h hle
    go_enter Tryz.func50, Tryz.ntmps50
    go_wp2
    go_loopw [17] (fun v17 wr => ∃ j : Nat, v17 = .int .i64 (j : Int) ∧ j ≤ l.length ∧ Aside0 (zipO (fun x y => book_Same_1.f k (x.f0) (x.f1) (x.f2) (y.f0) (y.f1) (y.f2)) (l.drop j) (m.drop j) = some r) ∧ Aside0 (Below w.heap.size w wr)) (fun v17 _ => l.length - (intOf v17).toNat)
    case atStart => exact ⟨0, rfl, Nat.zero_le _, H0, ⟨Below.refl _ _⟩⟩
    case round =>
      clear H0
      obtain ⟨j, rfl, hj, HA, HB⟩ := hrel
      by_cases hlt : j < l.length
      · have hlm : j < m.length := by have := HE.out; omega
        have p7 : (0 : Int) ≤ (j : Int) := by omega
        have q7 : (j : Int) < (l.length : Int) := by omega
        have p8 : (0 : Int) ≤ (j : Int) := by omega
        have q8 : (j : Int) < (m.length : Int) := by omega
        obtain ⟨b, hb1, hb2, hb3⟩ := zipO_cons hlt hlm HA.out
        have HB1 := Aside0.mk hb1
        have HB2 := Aside0.mk hb2
        have HB3 := Aside0.mk hb3
        clear hb1 hb2 hb3
        obtain ⟨ad7, A7_2, c7_2, e7, hx7_0, hx7_1, hx7_2, hl7_2, hi7_2⟩ := at_T67 HR0.out (j : Int) p7 q7
        cases e7
        replace hx7_0 := (HB.out.cell (World.block_lt_of_cell? w _ hx7_0)).trans hx7_0
        replace hx7_1 := (HB.out.cell (World.block_lt_of_cell? w _ hx7_1)).trans hx7_1
        replace hx7_2 := (HB.out.cell (World.block_lt_of_cell? w _ hx7_2)).trans hx7_2
        have HR7_2 := Aside0.mk hi7_2
        have HC7_2 := Aside0.mk hl7_2
        clear hi7_2 hl7_2
        obtain ⟨ad8, A8_2, c8_2, e8, hx8_0, hx8_1, hx8_2, hl8_2, hi8_2⟩ := at_T67 HR1.out (j : Int) p8 q8
        cases e8
        replace hx8_0 := (HB.out.cell (World.block_lt_of_cell? w _ hx8_0)).trans hx8_0
        replace hx8_1 := (HB.out.cell (World.block_lt_of_cell? w _ hx8_1)).trans hx8_1
        replace hx8_2 := (HB.out.cell (World.block_lt_of_cell? w _ hx8_2)).trans hx8_2
        have HR8_2 := Aside0.mk hi8_2
        have HC8_2 := Aside0.mk hl8_2
        clear hi8_2 hl8_2
        have EX : Aside0 (rd_T67 l (j : Int) = l[j]) := ⟨by show l.getD _ _ = _; rw [Int.toNat_natCast, List.getD_eq_getElem?_getD, List.getElem?_eq_getElem hlt, Option.getD_some]⟩
        have EY : Aside0 (rd_T67 m (j : Int) = m[j]) := ⟨by show m.getD _ _ = _; rw [Int.toNat_natCast, List.getD_eq_getElem?_getD, List.getElem?_eq_getElem hlm, Option.getD_some]⟩
        clear p7 q7 p8 q8
        have hz8_0 := fun o => ((alloc_below0 wr o).cell (World.block_lt_of_cell? wr _ hx8_0)).trans hx8_0
        clear hx8_0
        have hz8_1 := fun o => ((alloc_below0 wr o).cell (World.block_lt_of_cell? wr _ hx8_1)).trans hx8_1
        clear hx8_1
        have hz8_2 := fun o => ((alloc_below0 wr o).cell (World.block_lt_of_cell? wr _ hx8_2)).trans hx8_2
        clear hx8_2
        generalize rd_T67 l (j : Int) = x at *
        generalize rd_T67 m (j : Int) = y at *
        have HC : Aside0 (book_Same_1.f k (x.f0) (x.f1) (x.f2) (y.f0) (y.f1) (y.f2) = some b) := ⟨by rw [EX.out, EY.out]; exact HB1.out⟩
        clear HB1 EX EY
        simp only [Int.toNat_natCast] at *
        have HB9 := Aside0.mk (below_alloc (below_alloc HB.out (.cells #[.string (x.f0), .int .i64 (x.f1), .slice A7_2 (x.f2).length c7_2] 67)) (.cells #[.string (y.f0), .int .i64 (y.f1), .slice A8_2 (y.f2).length c8_2] 67))
        go_wp2_with fail
        refine (book_Same_1.calls k (x.f0) (x.f1) _ _ (x.f2) (y.f0) (y.f1) _ _ (y.f2) b _ (Kd.C_below HR7_2.out HB9.out) HC7_2.out (Kd.C_below HR8_2.out HB9.out) HC8_2.out HC.out).mono ?_
        rintro e w9 ⟨rfl, hb⟩
        have HB10 := Aside0.mk (below_step (HB9.out) hb)
        clear hb HB HB9
        cases b with
        | true =>
          go_wp2
          go_roundw
          case rel => exact ⟨j + 1, by go_num, by omega, ⟨HB2.out (by simp)⟩, HB10⟩
          case measure => simp [intOf]; omega
        | false =>
          go_wp2
          go_ret
          exact ⟨by rw [HB3.out (by simp)]; rfl, HB10.out⟩
      · obtain rfl : j = l.length := by omega
        have hr : r = true := by have := HA.out; rw [List.drop_length] at this; simpa [zipO] using this.symm
        subst hr
        go_wp2
        go_ret
        exact ⟨rfl, HB.out⟩
  · rw [if_neg hle] at h
    obtain rfl := Option.some.inj h
    have hd : ((l.length : Int) != (m.length : Int)) = true := by simpa using hle
    have hd2 : (l.length != m.length) = true := by have : l.length ≠ m.length := by omega
                                                   simpa using this
    clear h hle
    go_enter Tryz.func50, Tryz.ntmps50
    go_wp2
    go_ret
    exact ⟨rfl, Below.refl _ _⟩

/-! ### book_Channel_53__54: function 53 at book_Same_2 -/
def book_Channel_53__54.f (k : Nat) (l m : List (S74)) : Option (Bool) := if (l.length : Int) = (m.length : Int) then (if l.length ≤ 140737488351232 then (zipO (fun x y => book_Same_2.f k (x.f0.f0) (x.f0.f1) (x.f1) (y.f0.f0) (y.f0.f1) (y.f1)) l m) else none) else (some false)
theorem book_Channel_53__54.mono : ∀ a0 a1 k, LeO (book_Channel_53__54.f k a0 a1) (book_Channel_53__54.f (k + 1) a0 a1) := by
  intro a0 a1 k
  unfold book_Channel_53__54.f
  exact LeO.ite (LeO.ite (zipO_mono (fun x y => book_Same_2.mono _ _ _ _ _ _ k) a0 a1) (LeO.refl _)) (LeO.refl _)
set_option maxHeartbeats 4000000 in
set_option maxRecDepth 100000 in
theorem book_Channel_53__54.calls (k : Nat) (A0 : Option Addr) (c0 : Nat) (l : List (S74)) (A1 : Option Addr) (c1 : Nat) (m : List (S74)) (r : Bool) (w : World) (hr0 : Kd.C k74 w A0 l.length l) (hc0 : l.length ≤ c0) (hr1 : Kd.C k74 w A1 m.length m) (hc1 : m.length ≤ c1) (h : book_Channel_53__54.f k l m = some r) :
    Calls Tryz.prog 53 #[.slice A0 l.length c0, .slice A1 m.length c1, .func (.func 54) #[] #[]] w fun e w' => e = .returned (.bool r) ∧ Below w.heap.size w w' := by
  unfold book_Channel_53__54.f at h
  have HR0 := Aside0.mk hr0
  have HR1 := Aside0.mk hr1
  clear hr0 hr1
  by_cases hle : (l.length : Int) = (m.length : Int)
  · rw [if_pos hle] at h
    obtain ⟨hL, h2⟩ := if_some h
    clear h
    have h := h2
    clear h2
    have hd : ((l.length : Int) != (m.length : Int)) = false := by rw [hle]; simp
    have hd2 : (l.length != m.length) = false := by have : l.length = m.length := by omega
                                                    rw [this]; simp
    have HE : Aside0 (l.length = m.length) := ⟨by omega⟩
    have H0 : Aside0 (zipO (fun x y => book_Same_2.f k (x.f0.f0) (x.f0.f1) (x.f1) (y.f0.f0) (y.f0.f1) (y.f1)) (l.drop 0) (m.drop 0) = some r) := ⟨by simpa using h⟩
    clear h hle
    go_enter Tryz.func53, Tryz.ntmps53
    go_wp2
    go_loopw [17] (fun v17 wr => ∃ j : Nat, v17 = .int .i64 (j : Int) ∧ j ≤ l.length ∧ Aside0 (zipO (fun x y => book_Same_2.f k (x.f0.f0) (x.f0.f1) (x.f1) (y.f0.f0) (y.f0.f1) (y.f1)) (l.drop j) (m.drop j) = some r) ∧ Aside0 (Below w.heap.size w wr)) (fun v17 _ => l.length - (intOf v17).toNat)
    case atStart => exact ⟨0, rfl, Nat.zero_le _, H0, ⟨Below.refl _ _⟩⟩
    case round =>
      clear H0
      obtain ⟨j, rfl, hj, HA, HB⟩ := hrel
      by_cases hlt : j < l.length
      · have hlm : j < m.length := by have := HE.out; omega
        have p7 : (0 : Int) ≤ (j : Int) := by omega
        have q7 : (j : Int) < (l.length : Int) := by omega
        have p8 : (0 : Int) ≤ (j : Int) := by omega
        have q8 : (j : Int) < (m.length : Int) := by omega
        obtain ⟨b, hb1, hb2, hb3⟩ := zipO_cons hlt hlm HA.out
        have HB1 := Aside0.mk hb1
        have HB2 := Aside0.mk hb2
        have HB3 := Aside0.mk hb3
        clear hb1 hb2 hb3
        obtain ⟨ad7, A7_2, c7_2, e7, hx7_0, hx7_1, hx7_2, hl7_2, hi7_2⟩ := at_T74 HR0.out (j : Int) p7 q7
        cases e7
        replace hx7_0 := (HB.out.cell (World.block_lt_of_cell? w _ hx7_0)).trans hx7_0
        replace hx7_1 := (HB.out.cell (World.block_lt_of_cell? w _ hx7_1)).trans hx7_1
        replace hx7_2 := (HB.out.cell (World.block_lt_of_cell? w _ hx7_2)).trans hx7_2
        have HR7_2 := Aside0.mk hi7_2
        have HC7_2 := Aside0.mk hl7_2
        clear hi7_2 hl7_2
        obtain ⟨ad8, A8_2, c8_2, e8, hx8_0, hx8_1, hx8_2, hl8_2, hi8_2⟩ := at_T74 HR1.out (j : Int) p8 q8
        cases e8
        replace hx8_0 := (HB.out.cell (World.block_lt_of_cell? w _ hx8_0)).trans hx8_0
        replace hx8_1 := (HB.out.cell (World.block_lt_of_cell? w _ hx8_1)).trans hx8_1
        replace hx8_2 := (HB.out.cell (World.block_lt_of_cell? w _ hx8_2)).trans hx8_2
        have HR8_2 := Aside0.mk hi8_2
        have HC8_2 := Aside0.mk hl8_2
        clear hi8_2 hl8_2
        have EX : Aside0 (rd_T74 l (j : Int) = l[j]) := ⟨by show l.getD _ _ = _; rw [Int.toNat_natCast, List.getD_eq_getElem?_getD, List.getElem?_eq_getElem hlt, Option.getD_some]⟩
        have EY : Aside0 (rd_T74 m (j : Int) = m[j]) := ⟨by show m.getD _ _ = _; rw [Int.toNat_natCast, List.getD_eq_getElem?_getD, List.getElem?_eq_getElem hlm, Option.getD_some]⟩
        clear p7 q7 p8 q8
        have hz8_0 := fun o => ((alloc_below0 wr o).cell (World.block_lt_of_cell? wr _ hx8_0)).trans hx8_0
        clear hx8_0
        have hz8_1 := fun o => ((alloc_below0 wr o).cell (World.block_lt_of_cell? wr _ hx8_1)).trans hx8_1
        clear hx8_1
        have hz8_2 := fun o => ((alloc_below0 wr o).cell (World.block_lt_of_cell? wr _ hx8_2)).trans hx8_2
        clear hx8_2
        generalize rd_T74 l (j : Int) = x at *
        generalize rd_T74 m (j : Int) = y at *
        have HC : Aside0 (book_Same_2.f k (x.f0.f0) (x.f0.f1) (x.f1) (y.f0.f0) (y.f0.f1) (y.f1) = some b) := ⟨by rw [EX.out, EY.out]; exact HB1.out⟩
        clear HB1 EX EY
        simp only [Int.toNat_natCast] at *
        have HB9 := Aside0.mk (below_alloc (below_alloc HB.out (.cells #[.int .i64 (x.f0.f0), .int .i64 (x.f0.f1), .slice A7_2 (x.f1).length c7_2] 74)) (.cells #[.int .i64 (y.f0.f0), .int .i64 (y.f0.f1), .slice A8_2 (y.f1).length c8_2] 74))
        go_wp2_with fail
        refine (book_Same_2.calls k (x.f0.f0) (x.f0.f1) _ _ (x.f1) (y.f0.f0) (y.f0.f1) _ _ (y.f1) b _ (Kd.C_below HR7_2.out HB9.out) HC7_2.out (Kd.C_below HR8_2.out HB9.out) HC8_2.out HC.out).mono ?_
        rintro e w9 ⟨rfl, hb⟩
        have HB10 := Aside0.mk (below_step (HB9.out) hb)
        clear hb HB HB9
        cases b with
        | true =>
          go_wp2
          go_roundw
          case rel => exact ⟨j + 1, by go_num, by omega, ⟨HB2.out (by simp)⟩, HB10⟩
          case measure => simp [intOf]; omega
        | false =>
          go_wp2
          go_ret
          exact ⟨by rw [HB3.out (by simp)]; rfl, HB10.out⟩
      · obtain rfl : j = l.length := by omega
        have hr : r = true := by have := HA.out; rw [List.drop_length] at this; simpa [zipO] using this.symm
        subst hr
        go_wp2
        go_ret
        exact ⟨rfl, HB.out⟩
  · rw [if_neg hle] at h
    obtain rfl := Option.some.inj h
    have hd : ((l.length : Int) != (m.length : Int)) = true := by simpa using hle
    have hd2 : (l.length != m.length) = true := by have : l.length ≠ m.length := by omega
                                                   simpa using this
    clear h hle
    go_enter Tryz.func53, Tryz.ntmps53
    go_wp2
    go_ret
    exact ⟨rfl, Below.refl _ _⟩

/-! ### book_Same: function 16 -/
def book_Same.f (k : Nat) (a0_0 : ByteArray) (l0_1 : List (S52)) (l0_2 : List (S67)) (a0_3 : Int) (l0_4 : List (S74)) (l0_5 : List (S77)) (l0_6 : List (S64)) (a1_0 : ByteArray) (l1_1 : List (S52)) (l1_2 : List (S67)) (a1_3 : Int) (l1_4 : List (S74)) (l1_5 : List (S77)) (l1_6 : List (S64)) : Option (Bool) := if a0_0.toList = a1_0.toList then (if a0_3 = a1_3 then ((book_Partition_48__49.f k l0_1 l1_1).bind fun t237 => (if t237 = true then ((book_Schedule_50__51.f k l0_2 l1_2).bind fun t238 => (if t238 = true then ((book_Channel_53__54.f k l0_4 l1_4).bind fun t239 => (if t239 = true then ((book_Link_56.f k l0_5 l1_5).bind fun t240 => (if t240 = true then ((book_Rule_57.f k l0_6 l1_6).bind fun t241 => (some t241)) else (some false))) else (some false))) else (some false))) else (some false))) else (some false)) else (some false)
theorem book_Same.mono : ∀ a0 a1 a2 a3 a4 a5 a6 a7 a8 a9 a10 a11 a12 a13 k, LeO (book_Same.f k a0 a1 a2 a3 a4 a5 a6 a7 a8 a9 a10 a11 a12 a13) (book_Same.f (k + 1) a0 a1 a2 a3 a4 a5 a6 a7 a8 a9 a10 a11 a12 a13) := by
  intro a0 a1 a2 a3 a4 a5 a6 a7 a8 a9 a10 a11 a12 a13 k
  unfold book_Same.f
  repeat' first | (with_reducible apply book_Channel_53__54.mono) | (with_reducible apply book_Link_56.mono) | (with_reducible apply book_Partition_48__49.mono) | (with_reducible apply book_Rule_57.mono) | (with_reducible apply book_Schedule_50__51.mono) | (with_reducible exact LeO.refl _) | (with_reducible exact LeO.none _) | (with_reducible refine LeO.ite ?_ ?_) | (with_reducible refine LeO.bind ?_ (fun _ => ?_)) | apply LeO.none | apply LeO.ite | (refine LeO.bind ?_ (fun _ => ?_))
set_option maxHeartbeats 8000000 in
set_option maxRecDepth 100000 in
theorem book_Same.calls (k : Nat) (a0_0 : ByteArray) (A0_1 : Option Addr) (c0_1 : Nat) (l0_1 : List (S52)) (A0_2 : Option Addr) (c0_2 : Nat) (l0_2 : List (S67)) (a0_3 : Int) (A0_4 : Option Addr) (c0_4 : Nat) (l0_4 : List (S74)) (A0_5 : Option Addr) (c0_5 : Nat) (l0_5 : List (S77)) (A0_6 : Option Addr) (c0_6 : Nat) (l0_6 : List (S64)) (a1_0 : ByteArray) (A1_1 : Option Addr) (c1_1 : Nat) (l1_1 : List (S52)) (A1_2 : Option Addr) (c1_2 : Nat) (l1_2 : List (S67)) (a1_3 : Int) (A1_4 : Option Addr) (c1_4 : Nat) (l1_4 : List (S74)) (A1_5 : Option Addr) (c1_5 : Nat) (l1_5 : List (S77)) (A1_6 : Option Addr) (c1_6 : Nat) (l1_6 : List (S64)) (r : Bool) (w : World) (hr0_1 : Kd.C k52 w A0_1 l0_1.length l0_1) (hc0_1 : l0_1.length ≤ c0_1) (hr0_2 : Kd.C k67 w A0_2 l0_2.length l0_2) (hc0_2 : l0_2.length ≤ c0_2) (hr0_4 : Kd.C k74 w A0_4 l0_4.length l0_4) (hc0_4 : l0_4.length ≤ c0_4) (hr0_5 : Kd.C k77 w A0_5 l0_5.length l0_5) (hc0_5 : l0_5.length ≤ c0_5) (hr0_6 : Kd.C k64 w A0_6 l0_6.length l0_6) (hc0_6 : l0_6.length ≤ c0_6) (hr1_1 : Kd.C k52 w A1_1 l1_1.length l1_1) (hc1_1 : l1_1.length ≤ c1_1) (hr1_2 : Kd.C k67 w A1_2 l1_2.length l1_2) (hc1_2 : l1_2.length ≤ c1_2) (hr1_4 : Kd.C k74 w A1_4 l1_4.length l1_4) (hc1_4 : l1_4.length ≤ c1_4) (hr1_5 : Kd.C k77 w A1_5 l1_5.length l1_5) (hc1_5 : l1_5.length ≤ c1_5) (hr1_6 : Kd.C k64 w A1_6 l1_6.length l1_6) (hc1_6 : l1_6.length ≤ c1_6) (h : book_Same.f k a0_0 l0_1 l0_2 a0_3 l0_4 l0_5 l0_6 a1_0 l1_1 l1_2 a1_3 l1_4 l1_5 l1_6 = some r) :
    Calls Tryz.prog 16 #[.agg #[.string a0_0, .slice A0_1 l0_1.length c0_1, .slice A0_2 l0_2.length c0_2, .int .i64 a0_3, .slice A0_4 l0_4.length c0_4, .slice A0_5 l0_5.length c0_5, .slice A0_6 l0_6.length c0_6], .agg #[.string a1_0, .slice A1_1 l1_1.length c1_1, .slice A1_2 l1_2.length c1_2, .int .i64 a1_3, .slice A1_4 l1_4.length c1_4, .slice A1_5 l1_5.length c1_5, .slice A1_6 l1_6.length c1_6]] w fun e w' => e = .returned (.bool r) ∧ Below w.heap.size w w' := by
 have HR0_1 := Aside0.mk hr0_1; have HC0_1 := Aside0.mk hc0_1; clear hr0_1 hc0_1; have HR0_2 := Aside0.mk hr0_2; have HC0_2 := Aside0.mk hc0_2; clear hr0_2 hc0_2; have HR0_4 := Aside0.mk hr0_4; have HC0_4 := Aside0.mk hc0_4; clear hr0_4 hc0_4; have HR0_5 := Aside0.mk hr0_5; have HC0_5 := Aside0.mk hc0_5; clear hr0_5 hc0_5; have HR0_6 := Aside0.mk hr0_6; have HC0_6 := Aside0.mk hc0_6; clear hr0_6 hc0_6; have HR1_1 := Aside0.mk hr1_1; have HC1_1 := Aside0.mk hc1_1; clear hr1_1 hc1_1; have HR1_2 := Aside0.mk hr1_2; have HC1_2 := Aside0.mk hc1_2; clear hr1_2 hc1_2; have HR1_4 := Aside0.mk hr1_4; have HC1_4 := Aside0.mk hc1_4; clear hr1_4 hc1_4; have HR1_5 := Aside0.mk hr1_5; have HC1_5 := Aside0.mk hc1_5; clear hr1_5 hc1_5; have HR1_6 := Aside0.mk hr1_6; have HC1_6 := Aside0.mk hc1_6; clear hr1_6 hc1_6; unfold book_Same.f at h; have H := Aside0.mk h; clear h; have HB := Aside0.mk (Below.refl w.heap.size w); have hu30 := Tryz.underlying30; go_enter Tryz.func16, Tryz.ntmps16; have BK319 := Aside0.mk (pe_box0 w #[.string a0_0, .slice A0_1 l0_1.length c0_1, .slice A0_2 l0_2.length c0_2, .int .i64 a0_3, .slice A0_4 l0_4.length c0_4, .slice A0_5 l0_5.length c0_5, .slice A0_6 l0_6.length c0_6] 30); replace HB := Aside0.mk (below_alloc HB.out (.cells #[.string a0_0, .slice A0_1 l0_1.length c0_1, .slice A0_2 l0_2.length c0_2, .int .i64 a0_3, .slice A0_4 l0_4.length c0_4, .slice A0_5 l0_5.length c0_5, .slice A0_6 l0_6.length c0_6] 30)); by_cases c321 : a0_0.toList = a1_0.toList
 · replace H := a0p c321 H; have c321b0 : (a0_0.toList == a1_0.toList) = true := beq_iff_eq.mpr c321; have c321b1 : (a0_0.toList != a1_0.toList) = false := bne_eq_false_iff_eq.mpr c321; have Kc321 := Aside0.mk c321; clear c321; by_cases c322 : a0_3 = a1_3
   · replace H := a0p c322 H; have c322b0 : (a0_3 == a1_3) = true := beq_iff_eq.mpr c322; have c322b1 : (a0_3 != a1_3) = false := bne_eq_false_iff_eq.mpr c322; have Kc322 := Aside0.mk c322; clear c322; have BK320 := Aside0.mk (pe_box1 w (.cells #[.string a0_0, .slice A0_1 l0_1.length c0_1, .slice A0_2 l0_2.length c0_2, .int .i64 a0_3, .slice A0_4 l0_4.length c0_4, .slice A0_5 l0_5.length c0_5, .slice A0_6 l0_6.length c0_6] 30) #[.string a1_0, .slice A1_1 l1_1.length c1_1, .slice A1_2 l1_2.length c1_2, .int .i64 a1_3, .slice A1_4 l1_4.length c1_4, .slice A1_5 l1_5.length c1_5, .slice A1_6 l1_6.length c1_6] 30); replace BK319 := Aside0.mk (blk_below BK319.out (alloc_below0 _ (.cells #[.string a1_0, .slice A1_1 l1_1.length c1_1, .slice A1_2 l1_2.length c1_2, .int .i64 a1_3, .slice A1_4 l1_4.length c1_4, .slice A1_5 l1_5.length c1_5, .slice A1_6 l1_6.length c1_6] 30))); replace HB := Aside0.mk (below_alloc HB.out (.cells #[.string a1_0, .slice A1_1 l1_1.length c1_1, .slice A1_2 l1_2.length c1_2, .int .i64 a1_3, .slice A1_4 l1_4.length c1_4, .slice A1_5 l1_5.length c1_5, .slice A1_6 l1_6.length c1_6] 30)); obtain ⟨t237, q323, H1⟩ := a0b H; clear H; have H := H1; clear H1; go_wp2_with fail; (with_reducible refine (book_Partition_48__49.calls k _ _ l0_1 _ _ l1_1 t237 _ (Kd.C_below HR0_1.out HB.out) HC0_1.out (Kd.C_below HR1_1.out HB.out) HC1_1.out q323.out).mono ?_); clear q323; (rintro e w324 ⟨rfl, hb⟩); replace HB := Aside0.mk (below_step HB.out hb); replace BK319 := Aside0.mk (blk_below BK319.out hb); replace BK320 := Aside0.mk (blk_below BK320.out hb); clear hb; have Z319 := blk7 BK319.out; have Z320 := blk7 BK320.out; by_cases c325 : t237 = true
     · replace H := a0p c325 H; subst c325; obtain ⟨t238, q326, H1⟩ := a0b H; clear H; have H := H1; clear H1; go_wp2_with fail; (with_reducible refine (book_Schedule_50__51.calls k _ _ l0_2 _ _ l1_2 t238 _ (Kd.C_below HR0_2.out HB.out) HC0_2.out (Kd.C_below HR1_2.out HB.out) HC1_2.out q326.out).mono ?_); clear q326; (rintro e w327 ⟨rfl, hb⟩); replace HB := Aside0.mk (below_step HB.out hb); replace BK319 := Aside0.mk (blk_below BK319.out hb); replace BK320 := Aside0.mk (blk_below BK320.out hb); clear hb
       try clear Z319 Z320
       have Z319 := blk7 BK319.out; have Z320 := blk7 BK320.out; by_cases c328 : t238 = true
       · replace H := a0p c328 H; subst c328; obtain ⟨t239, q329, H1⟩ := a0b H; clear H; have H := H1; clear H1; go_wp2_with fail; (with_reducible refine (book_Channel_53__54.calls k _ _ l0_4 _ _ l1_4 t239 _ (Kd.C_below HR0_4.out HB.out) HC0_4.out (Kd.C_below HR1_4.out HB.out) HC1_4.out q329.out).mono ?_); clear q329; (rintro e w330 ⟨rfl, hb⟩); replace HB := Aside0.mk (below_step HB.out hb); replace BK319 := Aside0.mk (blk_below BK319.out hb); replace BK320 := Aside0.mk (blk_below BK320.out hb); clear hb
         try clear Z319 Z320
         have Z319 := blk7 BK319.out; have Z320 := blk7 BK320.out; by_cases c331 : t239 = true
         · replace H := a0p c331 H; subst c331; obtain ⟨t240, q332, H1⟩ := a0b H; clear H; have H := H1; clear H1; go_wp2_with fail; (with_reducible refine (book_Link_56.calls k _ _ l0_5 _ _ l1_5 t240 _ (Kd.C_below HR0_5.out HB.out) HC0_5.out (Kd.C_below HR1_5.out HB.out) HC1_5.out q332.out).mono ?_); clear q332; (rintro e w333 ⟨rfl, hd⟩); have hb := hd.below; clear hd; replace HB := Aside0.mk (below_step HB.out hb); replace BK319 := Aside0.mk (blk_below BK319.out hb); replace BK320 := Aside0.mk (blk_below BK320.out hb); clear hb
           try clear Z319 Z320
           have Z319 := blk7 BK319.out; have Z320 := blk7 BK320.out; by_cases c334 : t240 = true
           · replace H := a0p c334 H; subst c334; obtain ⟨t241, q335, H1⟩ := a0b H; clear H; have H := H1; clear H1; go_wp2_with fail; (with_reducible refine (book_Rule_57.calls k _ _ l0_6 _ _ l1_6 t241 _ (Kd.C_below HR0_6.out HB.out) HC0_6.out (Kd.C_below HR1_6.out HB.out) HC1_6.out q335.out).mono ?_); clear q335; (rintro e w336 ⟨rfl, hd⟩); have hb := hd.below; clear hd; replace HB := Aside0.mk (below_step HB.out hb); replace BK319 := Aside0.mk (blk_below BK319.out hb); replace BK320 := Aside0.mk (blk_below BK320.out hb); clear hb
             try clear Z319 Z320
             have Z319 := blk7 BK319.out; have Z320 := blk7 BK320.out; obtain rfl := Option.some.inj H.out; go_wp2; go_ret; exact ⟨by first | rfl | (simp; done) | (simp [*]; done), HB.out⟩
           · replace H := a0n c334 H; replace c334 := Bool.eq_false_iff.mpr c334; subst c334; obtain rfl := Option.some.inj H.out; go_wp2; go_ret; exact ⟨by first | rfl | (simp; done) | (simp [*]; done), HB.out⟩
         · replace H := a0n c331 H; replace c331 := Bool.eq_false_iff.mpr c331; subst c331; obtain rfl := Option.some.inj H.out; go_wp2; go_ret; exact ⟨by first | rfl | (simp; done) | (simp [*]; done), HB.out⟩
       · replace H := a0n c328 H; replace c328 := Bool.eq_false_iff.mpr c328; subst c328; obtain rfl := Option.some.inj H.out; go_wp2; go_ret; exact ⟨by first | rfl | (simp; done) | (simp [*]; done), HB.out⟩
     · replace H := a0n c325 H; replace c325 := Bool.eq_false_iff.mpr c325; subst c325; obtain rfl := Option.some.inj H.out; go_wp2; go_ret; exact ⟨by first | rfl | (simp; done) | (simp [*]; done), HB.out⟩
   · replace H := a0n c322 H; have c322b0 : (a0_3 == a1_3) = false := beq_eq_false_iff_ne.mpr c322; have c322b1 : (a0_3 != a1_3) = true := bne_iff_ne.mpr c322; have Kc322 := Aside0.mk c322; clear c322; have BK320 := Aside0.mk (pe_box1 w (.cells #[.string a0_0, .slice A0_1 l0_1.length c0_1, .slice A0_2 l0_2.length c0_2, .int .i64 a0_3, .slice A0_4 l0_4.length c0_4, .slice A0_5 l0_5.length c0_5, .slice A0_6 l0_6.length c0_6] 30) #[.string a1_0, .slice A1_1 l1_1.length c1_1, .slice A1_2 l1_2.length c1_2, .int .i64 a1_3, .slice A1_4 l1_4.length c1_4, .slice A1_5 l1_5.length c1_5, .slice A1_6 l1_6.length c1_6] 30); replace BK319 := Aside0.mk (blk_below BK319.out (alloc_below0 _ (.cells #[.string a1_0, .slice A1_1 l1_1.length c1_1, .slice A1_2 l1_2.length c1_2, .int .i64 a1_3, .slice A1_4 l1_4.length c1_4, .slice A1_5 l1_5.length c1_5, .slice A1_6 l1_6.length c1_6] 30))); replace HB := Aside0.mk (below_alloc HB.out (.cells #[.string a1_0, .slice A1_1 l1_1.length c1_1, .slice A1_2 l1_2.length c1_2, .int .i64 a1_3, .slice A1_4 l1_4.length c1_4, .slice A1_5 l1_5.length c1_5, .slice A1_6 l1_6.length c1_6] 30)); obtain rfl := Option.some.inj H.out; go_wp2; go_ret; exact ⟨by first | rfl | (simp; done) | (simp [*]; done), HB.out⟩
 · replace H := a0n c321 H; have c321b0 : (a0_0.toList == a1_0.toList) = false := beq_eq_false_iff_ne.mpr c321; have c321b1 : (a0_0.toList != a1_0.toList) = true := bne_iff_ne.mpr c321; have Kc321 := Aside0.mk c321; clear c321; have BK320 := Aside0.mk (pe_box1 w (.cells #[.string a0_0, .slice A0_1 l0_1.length c0_1, .slice A0_2 l0_2.length c0_2, .int .i64 a0_3, .slice A0_4 l0_4.length c0_4, .slice A0_5 l0_5.length c0_5, .slice A0_6 l0_6.length c0_6] 30) #[.string a1_0, .slice A1_1 l1_1.length c1_1, .slice A1_2 l1_2.length c1_2, .int .i64 a1_3, .slice A1_4 l1_4.length c1_4, .slice A1_5 l1_5.length c1_5, .slice A1_6 l1_6.length c1_6] 30); replace BK319 := Aside0.mk (blk_below BK319.out (alloc_below0 _ (.cells #[.string a1_0, .slice A1_1 l1_1.length c1_1, .slice A1_2 l1_2.length c1_2, .int .i64 a1_3, .slice A1_4 l1_4.length c1_4, .slice A1_5 l1_5.length c1_5, .slice A1_6 l1_6.length c1_6] 30))); replace HB := Aside0.mk (below_alloc HB.out (.cells #[.string a1_0, .slice A1_1 l1_1.length c1_1, .slice A1_2 l1_2.length c1_2, .int .i64 a1_3, .slice A1_4 l1_4.length c1_4, .slice A1_5 l1_5.length c1_5, .slice A1_6 l1_6.length c1_6] 30)); obtain rfl := Option.some.inj H.out; go_wp2; go_ret; exact ⟨by first | rfl | (simp; done) | (simp [*]; done), HB.out⟩

end Go.Proofs.YthpdlgamicmhaaaGreat.PR
