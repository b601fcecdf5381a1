/- Written by a program (pe.py): functions of the program as Lean functions, and that each call answers as they do. -/
import Derived.Test.YthpdlgamicmhaaaGreatPRx0
import Derived.Test.YthpdlgamicmhaaaGreatPRx2
import Derived.Test.YthpdlgamicmhaaaGreatPRx3
import Derived.Test.YthpdlgamicmhaaaGreatPRx4
import Derived.Test.YthpdlgamicmhaaaGreatPRx8
import Derived.Test.YthpdlgamicmhaaaGreatPRx9
import Derived.Test.YthpdlgamicmhaaaGreatPRx10
import Derived.Test.YthpdlgamicmhaaaGreatPRx11
import Derived.Test.YthpdlgamicmhaaaGreatPRx12
import Derived.Test.YthpdlgamicmhaaaGreatPRx13
import Derived.Test.YthpdlgamicmhaaaGreatPRx14
import Derived.Test.YthpdlgamicmhaaaGreatPRx15
namespace Go.Proofs.YthpdlgamicmhaaaGreat.PR
open Go.RowKit Go.Proofs.YthpdlgamicmhaaaGreatW.PrintWords Go.Proofs.YthpdlgamicmhaaaGreatW.PrintLast Go.Proofs.YthpdlgamicmhaaaGreatW.PrintMore
attribute [local go_sem] max2_int min2_int max_two min_two max_three min_three max_four min_four   -- for this text's walks alone
set_option linter.unusedVariables false
set_option linter.unusedSimpArgs false

attribute [local go_sem high] eqA60 eqA62 eqA64 eqA109 eqA111 eqA113 eqA115 eqA117 eqA119
/-! ### book_Link_38__39: function 38 at book_Module_Right_2 -/
def book_Link_38__39.f (k : Nat) (l : List (S77)) (n : Int) : Option (Bool) := if (l.length : Int) ≤ n then (if l.length ≤ 140737488351232 then (allO (fun x => book_Module_Right_2.f k (x.f0) (x.f1) (x.f2)) l) else none) else (some false)
theorem book_Link_38__39.mono : ∀ a0 a1 k, LeO (book_Link_38__39.f k a0 a1) (book_Link_38__39.f (k + 1) a0 a1) := by
 intro a0 a1 k
 unfold book_Link_38__39.f
 exact LeO.ite (LeO.ite (allO_mono (fun x => book_Module_Right_2.mono _ _ _ k) a0) (LeO.refl _)) (LeO.refl _)
set_option maxHeartbeats 800000 in
set_option maxRecDepth 100000 in
theorem book_Link_38__39.c1 (k : Nat) (x : S77) (r : Bool) (g : Nat) (w : World) (hg : w.cell? ⟨g, 0, none⟩ = some (.func (.func 39) #[] #[])) (h : book_Module_Right_2.f k (x.f0) (x.f1) (x.f2) = some r) :
  Calls Tryz.prog 123 #[.agg #[.string (x.f0), .int .i64 (x.f1), .int .i64 (x.f2)], .pointer (some ⟨g, 0, none⟩)] w fun e w' => e = .returned (.bool (!r)) ∧ Below w.heap.size w w' := by
 have hgl := World.block_lt_of_cell? w _ hg
 have HH := Aside0.mk h
 clear h
 have hgw : (w.alloc (.cells #[.string (x.f0), .int .i64 (x.f1), .int .i64 (x.f2)] 77)).cell? ⟨g, 0, none⟩ = some (.func (.func 39) #[] #[]) := ((alloc_below0 w _).cell hgl).trans hg
 go_enter Tryz.func123, Tryz.ntmps123
 go_wp2_with fail
 refine (book_Module_Right_2.calls k (x.f0) (x.f1) (x.f2) r _ HH.out).mono ?_
 rintro e w' ⟨rfl, hb⟩
 go_wp2
 go_ret
 exact ⟨by simp, below_step (alloc_below0 w _) hb⟩
set_option maxHeartbeats 2000000 in
set_option maxRecDepth 100000 in
theorem book_Link_38__39.c2 (k : Nat) (A0 : Option Addr) (c0 : Nat) (l : List (S77)) (r : Bool) (g : Nat) (w : World) (hr0 : Kd.C k77 w A0 l.length l) (hL : l.length ≤ 140737488351232) (hg : w.cell? ⟨g, 0, none⟩ = some (.func (.func 39) #[] #[])) (h : allO (fun x => book_Module_Right_2.f k (x.f0) (x.f1) (x.f2)) l = some r) :
  Calls Tryz.prog 157 #[.slice A0 l.length c0, .func (.func 123) #[] #[.pointer (some ⟨g, 0, none⟩)]] w fun e w' => (∃ q : Int, e = .returned (.int .i64 q) ∧ Hid (decide (0 ≤ q) = !r)) ∧ Below w.heap.size w w' := by
 have hgl := World.block_lt_of_cell? w _ hg
 have HR0 := Aside0.mk hr0
 have HG := Aside0.mk hg
 have H0 : Aside0 (allO (fun x => book_Module_Right_2.f k (x.f0) (x.f1) (x.f2)) (l.drop 0) = some r) := ⟨by simpa using h⟩
 clear hr0 hg h
 go_enter Tryz.func157, Tryz.ntmps157
 go_wp2
 go_loopw [8] (fun v8 wr => ∃ j : Nat, v8 = .int .i64 (j : Int) ∧ j ≤ l.length ∧ Aside0 (allO (fun x => book_Module_Right_2.f k (x.f0) (x.f1) (x.f2)) (l.drop j) = some r) ∧ Aside0 (Below w.heap.size w wr)) (fun v8 _ => l.length - (intOf v8).toNat)
 case atStart => exact ⟨0, rfl, Nat.zero_le _, H0, ⟨Below.refl _ _⟩⟩
 case round =>
  clear H0
  obtain ⟨j, rfl, hj, HA, HB⟩ := hrel
  by_cases hlt : j < l.length
  ·
   have p7 : (0 : Int) ≤ (j : Int) := by omega
   have q7 : (j : Int) < (l.length : Int) := by omega
   obtain ⟨b, hb1, hb2, hb3⟩ := allO_cons hlt HA.out
   have HB1 := Aside0.mk hb1
   have HB2 := Aside0.mk hb2
   have HB3 := Aside0.mk hb3
   clear hb1 hb2 hb3
   obtain ⟨ad7, e7, hx7_0, hx7_1, hx7_2⟩ := at_T77 HR0.out (j : Int) p7 q7
   cases e7
   replace hx7_0 := (HB.out.cell (World.block_lt_of_cell? w _ hx7_0)).trans hx7_0
   replace hx7_1 := (HB.out.cell (World.block_lt_of_cell? w _ hx7_1)).trans hx7_1
   replace hx7_2 := (HB.out.cell (World.block_lt_of_cell? w _ hx7_2)).trans hx7_2
   have EX : Aside0 (rd_T77 l (j : Int) = l[j]) := ⟨by show l.getD _ _ = _; rw [Int.toNat_natCast, List.getD_eq_getElem?_getD, List.getElem?_eq_getElem hlt, Option.getD_some]⟩
   clear p7 q7
   generalize rd_T77 l (j : Int) = x at *
   have HC : Aside0 (book_Module_Right_2.f k (x.f0) (x.f1) (x.f2) = some b) := ⟨by rw [EX.out]; exact HB1.out⟩
   clear HB1 EX
   simp only [Int.toNat_natCast] at *
   go_wp2_with fail
   refine (book_Link_38__39.c1 k x b g wr ((HB.out.cell hgl).trans HG.out) HC.out).mono ?_
   rintro e w9 ⟨rfl, hb⟩
   have HB9 : Aside0 (Below w.heap.size w w9) := ⟨below_step HB.out hb⟩
   clear hb HB
   cases b with
   | true =>
    go_wp2
    go_roundw
    case rel => exact ⟨j + 1, by go_num, by omega, ⟨HB2.out (by simp)⟩, HB9⟩
    case measure => simp [intOf]; omega
   | false =>
    go_wp2
    go_ret
    exact ⟨⟨_, rfl, by rw [HB3.out (by simp)]; show _ = _; simp⟩, HB9.out⟩
  ·
   obtain rfl : j = l.length := by omega
   have hr : r = true := by have := HA.out; rw [List.drop_length] at this; simpa [allO] using this.symm
   subst hr
   go_wp2
   go_ret
   exact ⟨⟨_, rfl, by show _ = _; simp⟩, HB.out⟩
set_option maxHeartbeats 800000 in
theorem book_Link_38__39.c3 (k : Nat) (A0 : Option Addr) (c0 : Nat) (l : List (S77)) (r : Bool) (g : Nat) (w : World) (hr0 : Kd.C k77 w A0 l.length l) (hL : l.length ≤ 140737488351232) (hg : w.cell? ⟨g, 0, none⟩ = some (.func (.func 39) #[] #[])) (h : allO (fun x => book_Module_Right_2.f k (x.f0) (x.f1) (x.f2)) l = some r) :
  Calls Tryz.prog 122 #[.slice A0 l.length c0, .func (.func 123) #[] #[.pointer (some ⟨g, 0, none⟩)]] w fun e w' => e = .returned (.bool (!r)) ∧ Below w.heap.size w w' := by
 have HC := book_Link_38__39.c2 k A0 c0 l r g w hr0 hL hg h
 clear hr0 hg h
 go_enter Tryz.func122, Tryz.ntmps122
 go_wp2_with fail
 refine HC.mono ?_
 clear HC
 rintro e w' ⟨⟨q, rfl, hq⟩, hb⟩
 go_wp2
 go_ret
 exact ⟨by rw [← hq.out]; rfl, hb⟩
set_option maxHeartbeats 800000 in
theorem book_Link_38__39.calls (k : Nat) (A0 : Option Addr) (c0 : Nat) (l0 : List (S77)) (a1 : Int) (r : Bool) (w : World) (hr0 : Kd.C k77 w A0 l0.length l0) (hc0 : l0.length ≤ c0) (h : book_Link_38__39.f k l0 a1 = some r) :
  Calls Tryz.prog 38 #[.slice A0 l0.length c0, .int .i64 a1, .func (.func 39) #[] #[]] w fun e w' => e = .returned (.bool r) ∧ Below w.heap.size w w' := by
 unfold book_Link_38__39.f at h
 have HR := Aside0.mk hr0
 clear hr0
 have hbw : Below w.heap.size w (w.alloc (.cells #[.func (.func 39) #[] #[]] 88)) := alloc_below0 w _
 by_cases hle : (l0.length : Int) ≤ a1
 ·
  rw [if_pos hle] at h
  obtain ⟨hL, h2⟩ := if_some h
  clear h
  have h := h2
  clear h2
  have hd : decide ((l0.length : Int) ≤ a1) = true := decide_eq_true hle
  have HC := book_Link_38__39.c3 k A0 c0 l0 r w.heap.size (w.alloc (.cells #[.func (.func 39) #[] #[]] 88)) (Kd.C_alloc HR.out _) hL (by simp) h
  have HB := Aside0.mk hbw
  clear h hle hbw
  go_enter Tryz.func38, Tryz.ntmps38
  go_wp2_with fail
  refine HC.mono ?_
  clear HC
  rintro e w' ⟨rfl, hb⟩
  go_wp2
  go_ret
  exact ⟨by simp, below_step HB.out hb⟩
 ·
  rw [if_neg hle] at h
  obtain rfl := Option.some.inj h
  have hd : decide ((l0.length : Int) ≤ a1) = false := decide_eq_false hle
  clear h hle
  go_enter Tryz.func38, Tryz.ntmps38
  go_wp2
  go_ret
  exact ⟨rfl, hbw⟩

/-! ### book_Module_Right: function 13 -/
def book_Module_Right.f (k : Nat) (a0_0 : ByteArray) (l0_1 : List (S52)) (l0_2 : List (S67)) (a0_3 : Int) (l0_4 : List (S74)) (l0_5 : List (S77)) (l0_6 : List (S64)) : Option (Bool) := (book_Name.f k a0_0).bind fun t187 => (if t187 = true then ((book_Partition_29__30.f k l0_1 16).bind fun t188 => (if t188 = true then ((book_Schedule_31__32.f k l0_2 8).bind fun t189 => (if t189 = true then ((book_within.f a0_3 0 7).bind fun t190 => (if t190 = true then ((book_Channel_34__35.f l0_4 32).bind fun t191 => (if t191 = true then ((book_Link_38__39.f k l0_5 32).bind fun t192 => (if t192 = true then ((book_Rule_40__41.f l0_6 32).bind fun t193 => (some t193)) else (some false))) else (some false))) else (some false))) else (some false))) else (some false))) else (some false))
theorem book_Module_Right.mono : ∀ a0 a1 a2 a3 a4 a5 a6 k, LeO (book_Module_Right.f k a0 a1 a2 a3 a4 a5 a6) (book_Module_Right.f (k + 1) a0 a1 a2 a3 a4 a5 a6) := by
  intro a0 a1 a2 a3 a4 a5 a6 k
  unfold book_Module_Right.f
  repeat' first | (with_reducible apply book_Link_38__39.mono) | (with_reducible apply book_Name.mono) | (with_reducible apply book_Partition_29__30.mono) | (with_reducible apply book_Schedule_31__32.mono) | (with_reducible exact LeO.refl _) | (with_reducible exact LeO.none _) | (with_reducible refine LeO.ite ?_ ?_) | (with_reducible refine LeO.bind ?_ (fun _ => ?_)) | apply LeO.none | apply LeO.ite | (refine LeO.bind ?_ (fun _ => ?_))
set_option maxHeartbeats 8000000 in
set_option maxRecDepth 100000 in
theorem book_Module_Right.calls (k : Nat) (a0_0 : ByteArray) (A0_1 : Option Addr) (c0_1 : Nat) (l0_1 : List (S52)) (A0_2 : Option Addr) (c0_2 : Nat) (l0_2 : List (S67)) (a0_3 : Int) (A0_4 : Option Addr) (c0_4 : Nat) (l0_4 : List (S74)) (A0_5 : Option Addr) (c0_5 : Nat) (l0_5 : List (S77)) (A0_6 : Option Addr) (c0_6 : Nat) (l0_6 : List (S64)) (r : Bool) (w : World) (hr0_1 : Kd.C k52 w A0_1 l0_1.length l0_1) (hc0_1 : l0_1.length ≤ c0_1) (hr0_2 : Kd.C k67 w A0_2 l0_2.length l0_2) (hc0_2 : l0_2.length ≤ c0_2) (hr0_4 : Kd.C k74 w A0_4 l0_4.length l0_4) (hc0_4 : l0_4.length ≤ c0_4) (hr0_5 : Kd.C k77 w A0_5 l0_5.length l0_5) (hc0_5 : l0_5.length ≤ c0_5) (hr0_6 : Kd.C k64 w A0_6 l0_6.length l0_6) (hc0_6 : l0_6.length ≤ c0_6) (h : book_Module_Right.f k a0_0 l0_1 l0_2 a0_3 l0_4 l0_5 l0_6 = some r) :
    Calls Tryz.prog 13 #[.agg #[.string a0_0, .slice A0_1 l0_1.length c0_1, .slice A0_2 l0_2.length c0_2, .int .i64 a0_3, .slice A0_4 l0_4.length c0_4, .slice A0_5 l0_5.length c0_5, .slice A0_6 l0_6.length c0_6]] w fun e w' => e = .returned (.bool r) ∧ Below w.heap.size w w' := by
 have HR0_1 := Aside0.mk hr0_1; have HC0_1 := Aside0.mk hc0_1; clear hr0_1 hc0_1; have HR0_2 := Aside0.mk hr0_2; have HC0_2 := Aside0.mk hc0_2; clear hr0_2 hc0_2; have HR0_4 := Aside0.mk hr0_4; have HC0_4 := Aside0.mk hc0_4; clear hr0_4 hc0_4; have HR0_5 := Aside0.mk hr0_5; have HC0_5 := Aside0.mk hc0_5; clear hr0_5 hc0_5; have HR0_6 := Aside0.mk hr0_6; have HC0_6 := Aside0.mk hc0_6; clear hr0_6 hc0_6; unfold book_Module_Right.f at h; have H := Aside0.mk h; clear h; have HB := Aside0.mk (Below.refl w.heap.size w); have hu30 := Tryz.underlying30; go_enter Tryz.func13, Tryz.ntmps13; have BK172 := Aside0.mk (pe_box0 w #[.string a0_0, .slice A0_1 l0_1.length c0_1, .slice A0_2 l0_2.length c0_2, .int .i64 a0_3, .slice A0_4 l0_4.length c0_4, .slice A0_5 l0_5.length c0_5, .slice A0_6 l0_6.length c0_6] 30); replace HB := Aside0.mk (below_alloc HB.out (.cells #[.string a0_0, .slice A0_1 l0_1.length c0_1, .slice A0_2 l0_2.length c0_2, .int .i64 a0_3, .slice A0_4 l0_4.length c0_4, .slice A0_5 l0_5.length c0_5, .slice A0_6 l0_6.length c0_6] 30)); obtain ⟨t187, q173, H1⟩ := a0b H; clear H; have H := H1; clear H1; go_wp2_with fail; (with_reducible refine (book_Name.calls k a0_0 t187 _  q173.out).mono ?_); clear q173; (rintro e w174 ⟨rfl, hd⟩); have hb := hd.below; clear hd; replace HB := Aside0.mk (below_step HB.out hb); replace BK172 := Aside0.mk (blk_below BK172.out hb); clear hb; have Z172 := blk7 BK172.out; by_cases c175 : t187 = true
 · replace H := a0p c175 H; subst c175; obtain ⟨t188, q176, H1⟩ := a0b H; clear H; have H := H1; clear H1; go_wp2_with fail; (with_reducible refine (book_Partition_29__30.calls k _ _ l0_1 16 t188 _ (Kd.C_below HR0_1.out HB.out) HC0_1.out q176.out).mono ?_); clear q176; (rintro e w177 ⟨rfl, hb⟩); replace HB := Aside0.mk (below_step HB.out hb); replace BK172 := Aside0.mk (blk_below BK172.out hb); clear hb
   try clear Z172
   have Z172 := blk7 BK172.out; by_cases c178 : t188 = true
   · replace H := a0p c178 H; subst c178; obtain ⟨t189, q179, H1⟩ := a0b H; clear H; have H := H1; clear H1; go_wp2_with fail; (with_reducible refine (book_Schedule_31__32.calls k _ _ l0_2 8 t189 _ (Kd.C_below HR0_2.out HB.out) HC0_2.out q179.out).mono ?_); clear q179; (rintro e w180 ⟨rfl, hb⟩); replace HB := Aside0.mk (below_step HB.out hb); replace BK172 := Aside0.mk (blk_below BK172.out hb); clear hb
     try clear Z172
     have Z172 := blk7 BK172.out; by_cases c181 : t189 = true
     · replace H := a0p c181 H; subst c181; obtain ⟨t190, q182, H1⟩ := a0b H; clear H; have H := H1; clear H1; go_wp2_with fail; (with_reducible refine (book_within.calls a0_3 0 7 t190 _  q182.out).mono ?_); clear q182; (rintro e w183 ⟨rfl, hd⟩); have hb := hd.below; clear hd; replace HB := Aside0.mk (below_step HB.out hb); replace BK172 := Aside0.mk (blk_below BK172.out hb); clear hb
       try clear Z172
       have Z172 := blk7 BK172.out; by_cases c184 : t190 = true
       · replace H := a0p c184 H; subst c184; obtain ⟨t191, q185, H1⟩ := a0b H; clear H; have H := H1; clear H1; go_wp2_with fail; (with_reducible refine (book_Channel_34__35.calls _ _ l0_4 32 t191 _ (Kd.C_below HR0_4.out HB.out) HC0_4.out q185.out).mono ?_); clear q185; (rintro e w186 ⟨rfl, hb⟩); replace HB := Aside0.mk (below_step HB.out hb); replace BK172 := Aside0.mk (blk_below BK172.out hb); clear hb
         try clear Z172
         have Z172 := blk7 BK172.out; by_cases c187 : t191 = true
         · replace H := a0p c187 H; subst c187; obtain ⟨t192, q188, H1⟩ := a0b H; clear H; have H := H1; clear H1; go_wp2_with fail; (with_reducible refine (book_Link_38__39.calls k _ _ l0_5 32 t192 _ (Kd.C_below HR0_5.out HB.out) HC0_5.out q188.out).mono ?_); clear q188; (rintro e w189 ⟨rfl, hb⟩); replace HB := Aside0.mk (below_step HB.out hb); replace BK172 := Aside0.mk (blk_below BK172.out hb); clear hb
           try clear Z172
           have Z172 := blk7 BK172.out; by_cases c190 : t192 = true
           · replace H := a0p c190 H; subst c190; obtain ⟨t193, q191, H1⟩ := a0b H; clear H; have H := H1; clear H1; go_wp2_with fail; (with_reducible refine (book_Rule_40__41.calls _ _ l0_6 32 t193 _ (Kd.C_below HR0_6.out HB.out) HC0_6.out q191.out).mono ?_); clear q191; (rintro e w192 ⟨rfl, hb⟩); replace HB := Aside0.mk (below_step HB.out hb); replace BK172 := Aside0.mk (blk_below BK172.out hb); clear hb
             try clear Z172
             have Z172 := blk7 BK172.out; obtain rfl := Option.some.inj H.out; go_wp2; go_ret; exact ⟨by first | rfl | (simp; done) | (simp [*]; done), HB.out⟩
           · replace H := a0n c190 H; replace c190 := Bool.eq_false_iff.mpr c190; subst c190; obtain rfl := Option.some.inj H.out; go_wp2; go_ret; exact ⟨by first | rfl | (simp; done) | (simp [*]; done), HB.out⟩
         · replace H := a0n c187 H; replace c187 := Bool.eq_false_iff.mpr c187; subst c187; obtain rfl := Option.some.inj H.out; go_wp2; go_ret; exact ⟨by first | rfl | (simp; done) | (simp [*]; done), HB.out⟩
       · replace H := a0n c184 H; replace c184 := Bool.eq_false_iff.mpr c184; subst c184; obtain rfl := Option.some.inj H.out; go_wp2; go_ret; exact ⟨by first | rfl | (simp; done) | (simp [*]; done), HB.out⟩
     · replace H := a0n c181 H; replace c181 := Bool.eq_false_iff.mpr c181; subst c181; obtain rfl := Option.some.inj H.out; go_wp2; go_ret; exact ⟨by first | rfl | (simp; done) | (simp [*]; done), HB.out⟩
   · replace H := a0n c178 H; replace c178 := Bool.eq_false_iff.mpr c178; subst c178; obtain rfl := Option.some.inj H.out; go_wp2; go_ret; exact ⟨by first | rfl | (simp; done) | (simp [*]; done), HB.out⟩
 · replace H := a0n c175 H; replace c175 := Bool.eq_false_iff.mpr c175; subst c175; obtain rfl := Option.some.inj H.out; go_wp2; go_ret; exact ⟨by first | rfl | (simp; done) | (simp [*]; done), HB.out⟩

/-! ### book_Rule_57: function 57 -/
def book_Rule_57.l0 : Nat → List (S64) → List (S64) → Int → Int → Option (Bool)
  | 0, _, _, _, _ => none
  | k + 1, x0, x1, x12, x13 => if x13 < x12 then (if 0 ≤ x13 then (if x13 < (x0.length : Int) then (if x13 < (x1.length : Int) then (if (!(((rd_T64 x0 x13).f0) == ((rd_T64 x1 x13).f0)) || (!(((rd_T64 x0 x13).f1) == ((rd_T64 x1 x13).f1)) || (!(((rd_T64 x0 x13).f2) == ((rd_T64 x1 x13).f2))))) = true then (some false) else (book_Rule_57.l0 k x0 x1 x12 (wrap64 (x13 + 1)))) else (none)) else (none)) else (none)) else (some true)
def book_Rule_57.f (k : Nat) (l0 : List (S64)) (l1 : List (S64)) : Option (Bool) := if (l0.length : Int) = (l1.length : Int) then (book_Rule_57.l0 k l0 l1 (l0.length : Int) 0) else (some false)
theorem book_Rule_57.mono_l : ∀ k, (∀ y0 y1 y2 y3, LeO (book_Rule_57.l0 k y0 y1 y2 y3) (book_Rule_57.l0 (k + 1) y0 y1 y2 y3))
  | 0 => fun _ _ _ _ r h => by simp [book_Rule_57.l0] at h
  | k + 1 => by
    have ih0 := book_Rule_57.mono_l k
    · intro y0 y1 y2 y3
      unfold book_Rule_57.l0
      repeat' first | (with_reducible apply ih0) | (with_reducible exact LeO.refl _) | (with_reducible exact LeO.none _) | (with_reducible refine LeO.ite ?_ ?_) | (with_reducible refine LeO.bind ?_ (fun _ => ?_)) | apply LeO.none | apply LeO.ite | (refine LeO.bind ?_ (fun _ => ?_))
theorem book_Rule_57.mono : ∀ a0 a1 k, LeO (book_Rule_57.f k a0 a1) (book_Rule_57.f (k + 1) a0 a1) := by
  intro a0 a1 k
  have ih0 := book_Rule_57.mono_l k
  unfold book_Rule_57.f
  repeat' first | (with_reducible apply ih0) | (with_reducible exact LeO.refl _) | (with_reducible exact LeO.none _) | (with_reducible refine LeO.ite ?_ ?_) | (with_reducible refine LeO.bind ?_ (fun _ => ?_)) | apply LeO.none | apply LeO.ite | (refine LeO.bind ?_ (fun _ => ?_))
set_option maxHeartbeats 8000000 in
set_option maxRecDepth 100000 in
theorem book_Rule_57.calls (k : Nat) (A0 : Option Addr) (c0 : Nat) (l0 : List (S64)) (A1 : Option Addr) (c1 : Nat) (l1 : List (S64)) (r : Bool) (w : World) (hr0 : Kd.C k64 w A0 l0.length l0) (hc0 : l0.length ≤ c0) (hr1 : Kd.C k64 w A1 l1.length l1) (hc1 : l1.length ≤ c1) (h : book_Rule_57.f k l0 l1 = some r) :
    Calls Tryz.prog 57 #[.slice A0 l0.length c0, .slice A1 l1.length c1] w fun e w' => e = .returned (.bool r) ∧ Drawn0 w w' := by
 have HR0 := Aside0.mk hr0; have HC0 := Aside0.mk hc0; clear hr0 hc0; have HR1 := Aside0.mk hr1; have HC1 := Aside0.mk hc1; clear hr1 hc1; unfold book_Rule_57.f at h; have H := Aside0.mk h; clear h; go_enter Tryz.func57, Tryz.ntmps57; by_cases c193 : (l0.length : Int) = (l1.length : Int)
 · replace H := a0p c193 H; have c193b0 : ((l0.length : Int) == (l1.length : Int)) = true := beq_iff_eq.mpr c193; have c193b1 : ((l0.length : Int) != (l1.length : Int)) = false := bne_eq_false_iff_eq.mpr c193; (have c193b2 : (l0.length == l1.length) = true := by first | simpa using c193 | (simp at c193 ⊢; omega)); have Kc193 := Aside0.mk c193; clear c193; go_wp2_with fail; (try (go_quiet (fail); go_wp2_with fail)); go_loopg [13] k (fun kq v13 w' => ∃ (x13_194 : Int), v13 = .int .i64 x13_194 ∧ Aside0 (book_Rule_57.l0 kq l0 l1 (l0.length : Int) x13_194 = some r) ∧ Aside0 (kq ≤ k) ∧ Drawn0 w w')
   case atStart => exact ⟨0, (by first | rfl | (simp; done) | (simp [*]; done)), H, ⟨Nat.le_refl _⟩, (by repeat (first | exact Drawn0.refl _ | apply Drawn0.step))⟩
   case round =>
    clear H  ; obtain ⟨x13_194, rfl, HA, HK194, ⟨nd194, rfl⟩⟩ := hrel
    cases gk with
    | zero => exact absurd HA.out (by simp [book_Rule_57.l0])
    | succ k194 =>
     have H1 := HA.out; simp only [book_Rule_57.l0] at H1; have H := Aside0.mk H1; clear H1 HA; by_cases c195 : x13_194 < ((l0.length : Int))
     · replace H := a0p c195 H; have c195b0 : decide (x13_194 < ((l0.length : Int))) = true := decide_eq_true c195; have Kc195 := Aside0.mk c195; clear c195; by_cases c196 : 0 ≤ x13_194
       · replace H := a0p c196 H; have c196b0 : decide (0 ≤ x13_194) = true := decide_eq_true c196; have Kc196 := Aside0.mk c196; clear c196; by_cases c197 : x13_194 < (l0.length : Int)
         · replace H := a0p c197 H; have c197b0 : decide (x13_194 < (l0.length : Int)) = true := decide_eq_true c197; have Kc197 := Aside0.mk c197; clear c197; have p194 : 0 ≤ (x13_194 : Int) := Kc196.out; have q194 : x13_194 < (l0.length : Int) := Kc197.out; obtain ⟨ad194, e194, hx194_0, hx194_1, hx194_2⟩ := at_T64 HR0.out (x13_194) p194 q194
           cases e194
           by_cases c198 : x13_194 < (l1.length : Int)
           · replace H := a0p c198 H; have c198b0 : decide (x13_194 < (l1.length : Int)) = true := decide_eq_true c198; have Kc198 := Aside0.mk c198; clear c198; have p195 : 0 ≤ (x13_194 : Int) := Kc196.out; have q195 : x13_194 < (l1.length : Int) := Kc198.out; obtain ⟨ad195, e195, hx195_0, hx195_1, hx195_2⟩ := at_T64 HR1.out (x13_194) p195 q195
             cases e195
             by_cases c199 : (!(((rd_T64 l0 x13_194).f0) == ((rd_T64 l1 x13_194).f0)) || (!(((rd_T64 l0 x13_194).f1) == ((rd_T64 l1 x13_194).f1)) || (!(((rd_T64 l0 x13_194).f2) == ((rd_T64 l1 x13_194).f2))))) = true
             · replace H := a0p c199 H; have c199b0 : (!(((rd_T64 l0 x13_194).f0) == ((rd_T64 l1 x13_194).f0)) || (!(((rd_T64 l0 x13_194).f1) == ((rd_T64 l1 x13_194).f1)) || (!(((rd_T64 l0 x13_194).f2) == ((rd_T64 l1 x13_194).f2))))) = true := c199; have Kc199 := Aside0.mk c199; clear c199; obtain rfl := Option.some.inj H.out; go_wp2; (try (go_quiet (fail); go_wp2)); go_ret; exact ⟨by first | rfl | (simp; done) | (simp [*]; done), (by repeat (first | exact Drawn0.refl _ | apply Drawn0.step))⟩
             · replace H := a0n c199 H; (have c199b0 : (!(((rd_T64 l0 x13_194).f0) == ((rd_T64 l1 x13_194).f0)) || (!(((rd_T64 l0 x13_194).f1) == ((rd_T64 l1 x13_194).f1)) || (!(((rd_T64 l0 x13_194).f2) == ((rd_T64 l1 x13_194).f2))))) = false := by simpa using c199); have Kc199 := Aside0.mk c199; clear c199; go_wp2_with fail; (try (go_quiet (fail); go_wp2_with fail)); go_roundg k194
               case measure => have := HK194.out; omega
               case rel => exact ⟨(wrap64 (x13_194 + 1)), (by first | rfl | (simp; done) | (simp [*]; done)), H, ⟨by have := HK194.out; omega⟩, (by repeat (first | exact Drawn0.refl _ | apply Drawn0.step))⟩
           · replace H := a0n c198 H; exact absurd H.out (by simp)
         · replace H := a0n c197 H; exact absurd H.out (by simp)
       · replace H := a0n c196 H; exact absurd H.out (by simp)
     · replace H := a0n c195 H; have c195b0 : decide (x13_194 < ((l0.length : Int))) = false := decide_eq_false c195; have Kc195 := Aside0.mk c195; clear c195; obtain rfl := Option.some.inj H.out; go_wp2; (try (go_quiet (fail); go_wp2)); go_ret; exact ⟨by first | rfl | (simp; done) | (simp [*]; done), (by repeat (first | exact Drawn0.refl _ | apply Drawn0.step))⟩
 · replace H := a0n c193 H; have c193b0 : ((l0.length : Int) == (l1.length : Int)) = false := beq_eq_false_iff_ne.mpr c193; have c193b1 : ((l0.length : Int) != (l1.length : Int)) = true := bne_iff_ne.mpr c193; (have c193b2 : (l0.length == l1.length) = false := by first | simpa using c193 | (simp at c193 ⊢; omega)); have Kc193 := Aside0.mk c193; clear c193; obtain rfl := Option.some.inj H.out; go_wp2; (try (go_quiet (fail); go_wp2)); go_ret; exact ⟨by first | rfl | (simp; done) | (simp [*]; done), (by repeat (first | exact Drawn0.refl _ | apply Drawn0.step))⟩

/-! ### book_Area_127: function 127 -/
def book_Area_127.l0 : Nat → List (S62) → List (S62) → Int → Int → Option (Bool)
  | 0, _, _, _, _ => none
  | k + 1, x0, x1, x12, x13 => if x13 < x12 then (if 0 ≤ x13 then (if x13 < (x0.length : Int) then (if x13 < (x1.length : Int) then (if (!((((rd_T62 x0 x13).f0).toList) == (((rd_T62 x1 x13).f0).toList)) || (!(((rd_T62 x0 x13).f1) == ((rd_T62 x1 x13).f1)) || (!(((rd_T62 x0 x13).f2) == ((rd_T62 x1 x13).f2)) || (!(((rd_T62 x0 x13).f3) == ((rd_T62 x1 x13).f3)) || (!(((rd_T62 x0 x13).f4) == ((rd_T62 x1 x13).f4)) || (!(((rd_T62 x0 x13).f5) == ((rd_T62 x1 x13).f5)))))))) = true then (some false) else (book_Area_127.l0 k x0 x1 x12 (wrap64 (x13 + 1)))) else (none)) else (none)) else (none)) else (some true)
def book_Area_127.f (k : Nat) (l0 : List (S62)) (l1 : List (S62)) : Option (Bool) := if (l0.length : Int) = (l1.length : Int) then (book_Area_127.l0 k l0 l1 (l0.length : Int) 0) else (some false)
theorem book_Area_127.mono_l : ∀ k, (∀ y0 y1 y2 y3, LeO (book_Area_127.l0 k y0 y1 y2 y3) (book_Area_127.l0 (k + 1) y0 y1 y2 y3))
  | 0 => fun _ _ _ _ r h => by simp [book_Area_127.l0] at h
  | k + 1 => by
    have ih0 := book_Area_127.mono_l k
    · intro y0 y1 y2 y3
      unfold book_Area_127.l0
      repeat' first | (with_reducible apply ih0) | (with_reducible exact LeO.refl _) | (with_reducible exact LeO.none _) | (with_reducible refine LeO.ite ?_ ?_) | (with_reducible refine LeO.bind ?_ (fun _ => ?_)) | apply LeO.none | apply LeO.ite | (refine LeO.bind ?_ (fun _ => ?_))
theorem book_Area_127.mono : ∀ a0 a1 k, LeO (book_Area_127.f k a0 a1) (book_Area_127.f (k + 1) a0 a1) := by
  intro a0 a1 k
  have ih0 := book_Area_127.mono_l k
  unfold book_Area_127.f
  repeat' first | (with_reducible apply ih0) | (with_reducible exact LeO.refl _) | (with_reducible exact LeO.none _) | (with_reducible refine LeO.ite ?_ ?_) | (with_reducible refine LeO.bind ?_ (fun _ => ?_)) | apply LeO.none | apply LeO.ite | (refine LeO.bind ?_ (fun _ => ?_))
set_option maxHeartbeats 8000000 in
set_option maxRecDepth 100000 in
theorem book_Area_127.calls (k : Nat) (A0 : Option Addr) (c0 : Nat) (l0 : List (S62)) (A1 : Option Addr) (c1 : Nat) (l1 : List (S62)) (r : Bool) (w : World) (hr0 : Kd.C k62 w A0 l0.length l0) (hc0 : l0.length ≤ c0) (hr1 : Kd.C k62 w A1 l1.length l1) (hc1 : l1.length ≤ c1) (h : book_Area_127.f k l0 l1 = some r) :
    Calls Tryz.prog 127 #[.slice A0 l0.length c0, .slice A1 l1.length c1] w fun e w' => e = .returned (.bool r) ∧ Drawn0 w w' := by
 have HR0 := Aside0.mk hr0; have HC0 := Aside0.mk hc0; clear hr0 hc0; have HR1 := Aside0.mk hr1; have HC1 := Aside0.mk hc1; clear hr1 hc1; unfold book_Area_127.f at h; have H := Aside0.mk h; clear h; go_enter Tryz.func127, Tryz.ntmps127; by_cases c200 : (l0.length : Int) = (l1.length : Int)
 · replace H := a0p c200 H; have c200b0 : ((l0.length : Int) == (l1.length : Int)) = true := beq_iff_eq.mpr c200; have c200b1 : ((l0.length : Int) != (l1.length : Int)) = false := bne_eq_false_iff_eq.mpr c200; (have c200b2 : (l0.length == l1.length) = true := by first | simpa using c200 | (simp at c200 ⊢; omega)); have Kc200 := Aside0.mk c200; clear c200; go_wp2_with fail; (try (go_quiet (fail); go_wp2_with fail)); go_loopg [13] k (fun kq v13 w' => ∃ (x13_201 : Int), v13 = .int .i64 x13_201 ∧ Aside0 (book_Area_127.l0 kq l0 l1 (l0.length : Int) x13_201 = some r) ∧ Aside0 (kq ≤ k) ∧ Drawn0 w w')
   case atStart => exact ⟨0, (by first | rfl | (simp; done) | (simp [*]; done)), H, ⟨Nat.le_refl _⟩, (by repeat (first | exact Drawn0.refl _ | apply Drawn0.step))⟩
   case round =>
    clear H  ; obtain ⟨x13_201, rfl, HA, HK201, ⟨nd201, rfl⟩⟩ := hrel
    cases gk with
    | zero => exact absurd HA.out (by simp [book_Area_127.l0])
    | succ k201 =>
     have H1 := HA.out; simp only [book_Area_127.l0] at H1; have H := Aside0.mk H1; clear H1 HA; by_cases c202 : x13_201 < ((l0.length : Int))
     · replace H := a0p c202 H; have c202b0 : decide (x13_201 < ((l0.length : Int))) = true := decide_eq_true c202; have Kc202 := Aside0.mk c202; clear c202; by_cases c203 : 0 ≤ x13_201
       · replace H := a0p c203 H; have c203b0 : decide (0 ≤ x13_201) = true := decide_eq_true c203; have Kc203 := Aside0.mk c203; clear c203; by_cases c204 : x13_201 < (l0.length : Int)
         · replace H := a0p c204 H; have c204b0 : decide (x13_201 < (l0.length : Int)) = true := decide_eq_true c204; have Kc204 := Aside0.mk c204; clear c204; have p196 : 0 ≤ (x13_201 : Int) := Kc203.out; have q196 : x13_201 < (l0.length : Int) := Kc204.out; obtain ⟨ad196, e196, hx196_0, hx196_1, hx196_2, hx196_3, hx196_4, hx196_5⟩ := at_T62 HR0.out (x13_201) p196 q196
           cases e196
           by_cases c205 : x13_201 < (l1.length : Int)
           · replace H := a0p c205 H; have c205b0 : decide (x13_201 < (l1.length : Int)) = true := decide_eq_true c205; have Kc205 := Aside0.mk c205; clear c205; have p197 : 0 ≤ (x13_201 : Int) := Kc203.out; have q197 : x13_201 < (l1.length : Int) := Kc205.out; obtain ⟨ad197, e197, hx197_0, hx197_1, hx197_2, hx197_3, hx197_4, hx197_5⟩ := at_T62 HR1.out (x13_201) p197 q197
             cases e197
             by_cases c206 : (!((((rd_T62 l0 x13_201).f0).toList) == (((rd_T62 l1 x13_201).f0).toList)) || (!(((rd_T62 l0 x13_201).f1) == ((rd_T62 l1 x13_201).f1)) || (!(((rd_T62 l0 x13_201).f2) == ((rd_T62 l1 x13_201).f2)) || (!(((rd_T62 l0 x13_201).f3) == ((rd_T62 l1 x13_201).f3)) || (!(((rd_T62 l0 x13_201).f4) == ((rd_T62 l1 x13_201).f4)) || (!(((rd_T62 l0 x13_201).f5) == ((rd_T62 l1 x13_201).f5)))))))) = true
             · replace H := a0p c206 H; have c206b0 : (!((((rd_T62 l0 x13_201).f0).toList) == (((rd_T62 l1 x13_201).f0).toList)) || (!(((rd_T62 l0 x13_201).f1) == ((rd_T62 l1 x13_201).f1)) || (!(((rd_T62 l0 x13_201).f2) == ((rd_T62 l1 x13_201).f2)) || (!(((rd_T62 l0 x13_201).f3) == ((rd_T62 l1 x13_201).f3)) || (!(((rd_T62 l0 x13_201).f4) == ((rd_T62 l1 x13_201).f4)) || (!(((rd_T62 l0 x13_201).f5) == ((rd_T62 l1 x13_201).f5)))))))) = true := c206; have Kc206 := Aside0.mk c206; clear c206; obtain rfl := Option.some.inj H.out; go_wp2; (try (go_quiet (fail); go_wp2)); go_ret; exact ⟨by first | rfl | (simp; done) | (simp [*]; done), (by repeat (first | exact Drawn0.refl _ | apply Drawn0.step))⟩
             · replace H := a0n c206 H; (have c206b0 : (!((((rd_T62 l0 x13_201).f0).toList) == (((rd_T62 l1 x13_201).f0).toList)) || (!(((rd_T62 l0 x13_201).f1) == ((rd_T62 l1 x13_201).f1)) || (!(((rd_T62 l0 x13_201).f2) == ((rd_T62 l1 x13_201).f2)) || (!(((rd_T62 l0 x13_201).f3) == ((rd_T62 l1 x13_201).f3)) || (!(((rd_T62 l0 x13_201).f4) == ((rd_T62 l1 x13_201).f4)) || (!(((rd_T62 l0 x13_201).f5) == ((rd_T62 l1 x13_201).f5)))))))) = false := by simpa using c206); have Kc206 := Aside0.mk c206; clear c206; go_wp2_with fail; (try (go_quiet (fail); go_wp2_with fail)); go_roundg k201
               case measure => have := HK201.out; omega
               case rel => exact ⟨(wrap64 (x13_201 + 1)), (by first | rfl | (simp; done) | (simp [*]; done)), H, ⟨by have := HK201.out; omega⟩, (by repeat (first | exact Drawn0.refl _ | apply Drawn0.step))⟩
           · replace H := a0n c205 H; exact absurd H.out (by simp)
         · replace H := a0n c204 H; exact absurd H.out (by simp)
       · replace H := a0n c203 H; exact absurd H.out (by simp)
     · replace H := a0n c202 H; have c202b0 : decide (x13_201 < ((l0.length : Int))) = false := decide_eq_false c202; have Kc202 := Aside0.mk c202; clear c202; obtain rfl := Option.some.inj H.out; go_wp2; (try (go_quiet (fail); go_wp2)); go_ret; exact ⟨by first | rfl | (simp; done) | (simp [*]; done), (by repeat (first | exact Drawn0.refl _ | apply Drawn0.step))⟩
 · replace H := a0n c200 H; have c200b0 : ((l0.length : Int) == (l1.length : Int)) = false := beq_eq_false_iff_ne.mpr c200; have c200b1 : ((l0.length : Int) != (l1.length : Int)) = true := bne_iff_ne.mpr c200; (have c200b2 : (l0.length == l1.length) = false := by first | simpa using c200 | (simp at c200 ⊢; omega)); have Kc200 := Aside0.mk c200; clear c200; obtain rfl := Option.some.inj H.out; go_wp2; (try (go_quiet (fail); go_wp2)); go_ret; exact ⟨by first | rfl | (simp; done) | (simp [*]; done), (by repeat (first | exact Drawn0.refl _ | apply Drawn0.step))⟩

/-! ### book_Task_128: function 128 -/
def book_Task_128.l0 : Nat → List (S109) → List (S109) → Int → Int → Option (Bool)
  | 0, _, _, _, _ => none
  | k + 1, x0, x1, x12, x13 => if x13 < x12 then (if 0 ≤ x13 then (if x13 < (x0.length : Int) then (if x13 < (x1.length : Int) then (if (!((((rd_T109 x0 x13).f0).toList) == (((rd_T109 x1 x13).f0).toList)) || (!(((rd_T109 x0 x13).f1) == ((rd_T109 x1 x13).f1)) || (!(((rd_T109 x0 x13).f2) == ((rd_T109 x1 x13).f2)) || (!(((rd_T109 x0 x13).f3) == ((rd_T109 x1 x13).f3)) || (!(((rd_T109 x0 x13).f4) == ((rd_T109 x1 x13).f4)) || (!(((rd_T109 x0 x13).f5) == ((rd_T109 x1 x13).f5)) || (!(((rd_T109 x0 x13).f6) == ((rd_T109 x1 x13).f6)) || (!(((rd_T109 x0 x13).f7) == ((rd_T109 x1 x13).f7)))))))))) = true then (some false) else (book_Task_128.l0 k x0 x1 x12 (wrap64 (x13 + 1)))) else (none)) else (none)) else (none)) else (some true)
def book_Task_128.f (k : Nat) (l0 : List (S109)) (l1 : List (S109)) : Option (Bool) := if (l0.length : Int) = (l1.length : Int) then (book_Task_128.l0 k l0 l1 (l0.length : Int) 0) else (some false)
theorem book_Task_128.mono_l : ∀ k, (∀ y0 y1 y2 y3, LeO (book_Task_128.l0 k y0 y1 y2 y3) (book_Task_128.l0 (k + 1) y0 y1 y2 y3))
  | 0 => fun _ _ _ _ r h => by simp [book_Task_128.l0] at h
  | k + 1 => by
    have ih0 := book_Task_128.mono_l k
    · intro y0 y1 y2 y3
      unfold book_Task_128.l0
      repeat' first | (with_reducible apply ih0) | (with_reducible exact LeO.refl _) | (with_reducible exact LeO.none _) | (with_reducible refine LeO.ite ?_ ?_) | (with_reducible refine LeO.bind ?_ (fun _ => ?_)) | apply LeO.none | apply LeO.ite | (refine LeO.bind ?_ (fun _ => ?_))
theorem book_Task_128.mono : ∀ a0 a1 k, LeO (book_Task_128.f k a0 a1) (book_Task_128.f (k + 1) a0 a1) := by
  intro a0 a1 k
  have ih0 := book_Task_128.mono_l k
  unfold book_Task_128.f
  repeat' first | (with_reducible apply ih0) | (with_reducible exact LeO.refl _) | (with_reducible exact LeO.none _) | (with_reducible refine LeO.ite ?_ ?_) | (with_reducible refine LeO.bind ?_ (fun _ => ?_)) | apply LeO.none | apply LeO.ite | (refine LeO.bind ?_ (fun _ => ?_))
set_option maxHeartbeats 8000000 in
set_option maxRecDepth 100000 in
theorem book_Task_128.calls (k : Nat) (A0 : Option Addr) (c0 : Nat) (l0 : List (S109)) (A1 : Option Addr) (c1 : Nat) (l1 : List (S109)) (r : Bool) (w : World) (hr0 : Kd.C k109 w A0 l0.length l0) (hc0 : l0.length ≤ c0) (hr1 : Kd.C k109 w A1 l1.length l1) (hc1 : l1.length ≤ c1) (h : book_Task_128.f k l0 l1 = some r) :
    Calls Tryz.prog 128 #[.slice A0 l0.length c0, .slice A1 l1.length c1] w fun e w' => e = .returned (.bool r) ∧ Drawn0 w w' := by
 have HR0 := Aside0.mk hr0; have HC0 := Aside0.mk hc0; clear hr0 hc0; have HR1 := Aside0.mk hr1; have HC1 := Aside0.mk hc1; clear hr1 hc1; unfold book_Task_128.f at h; have H := Aside0.mk h; clear h; go_enter Tryz.func128, Tryz.ntmps128; by_cases c207 : (l0.length : Int) = (l1.length : Int)
 · replace H := a0p c207 H; have c207b0 : ((l0.length : Int) == (l1.length : Int)) = true := beq_iff_eq.mpr c207; have c207b1 : ((l0.length : Int) != (l1.length : Int)) = false := bne_eq_false_iff_eq.mpr c207; (have c207b2 : (l0.length == l1.length) = true := by first | simpa using c207 | (simp at c207 ⊢; omega)); have Kc207 := Aside0.mk c207; clear c207; go_wp2_with fail; (try (go_quiet (fail); go_wp2_with fail)); go_loopg [13] k (fun kq v13 w' => ∃ (x13_208 : Int), v13 = .int .i64 x13_208 ∧ Aside0 (book_Task_128.l0 kq l0 l1 (l0.length : Int) x13_208 = some r) ∧ Aside0 (kq ≤ k) ∧ Drawn0 w w')
   case atStart => exact ⟨0, (by first | rfl | (simp; done) | (simp [*]; done)), H, ⟨Nat.le_refl _⟩, (by repeat (first | exact Drawn0.refl _ | apply Drawn0.step))⟩
   case round =>
    clear H  ; obtain ⟨x13_208, rfl, HA, HK208, ⟨nd208, rfl⟩⟩ := hrel
    cases gk with
    | zero => exact absurd HA.out (by simp [book_Task_128.l0])
    | succ k208 =>
     have H1 := HA.out; simp only [book_Task_128.l0] at H1; have H := Aside0.mk H1; clear H1 HA; by_cases c209 : x13_208 < ((l0.length : Int))
     · replace H := a0p c209 H; have c209b0 : decide (x13_208 < ((l0.length : Int))) = true := decide_eq_true c209; have Kc209 := Aside0.mk c209; clear c209; by_cases c210 : 0 ≤ x13_208
       · replace H := a0p c210 H; have c210b0 : decide (0 ≤ x13_208) = true := decide_eq_true c210; have Kc210 := Aside0.mk c210; clear c210; by_cases c211 : x13_208 < (l0.length : Int)
         · replace H := a0p c211 H; have c211b0 : decide (x13_208 < (l0.length : Int)) = true := decide_eq_true c211; have Kc211 := Aside0.mk c211; clear c211; have p198 : 0 ≤ (x13_208 : Int) := Kc210.out; have q198 : x13_208 < (l0.length : Int) := Kc211.out; obtain ⟨ad198, e198, hx198_0, hx198_1, hx198_2, hx198_3, hx198_4, hx198_5, hx198_6, hx198_7⟩ := at_T109 HR0.out (x13_208) p198 q198
           cases e198
           by_cases c212 : x13_208 < (l1.length : Int)
           · replace H := a0p c212 H; have c212b0 : decide (x13_208 < (l1.length : Int)) = true := decide_eq_true c212; have Kc212 := Aside0.mk c212; clear c212; have p199 : 0 ≤ (x13_208 : Int) := Kc210.out; have q199 : x13_208 < (l1.length : Int) := Kc212.out; obtain ⟨ad199, e199, hx199_0, hx199_1, hx199_2, hx199_3, hx199_4, hx199_5, hx199_6, hx199_7⟩ := at_T109 HR1.out (x13_208) p199 q199
             cases e199
             by_cases c213 : (!((((rd_T109 l0 x13_208).f0).toList) == (((rd_T109 l1 x13_208).f0).toList)) || (!(((rd_T109 l0 x13_208).f1) == ((rd_T109 l1 x13_208).f1)) || (!(((rd_T109 l0 x13_208).f2) == ((rd_T109 l1 x13_208).f2)) || (!(((rd_T109 l0 x13_208).f3) == ((rd_T109 l1 x13_208).f3)) || (!(((rd_T109 l0 x13_208).f4) == ((rd_T109 l1 x13_208).f4)) || (!(((rd_T109 l0 x13_208).f5) == ((rd_T109 l1 x13_208).f5)) || (!(((rd_T109 l0 x13_208).f6) == ((rd_T109 l1 x13_208).f6)) || (!(((rd_T109 l0 x13_208).f7) == ((rd_T109 l1 x13_208).f7)))))))))) = true
             · replace H := a0p c213 H; have c213b0 : (!((((rd_T109 l0 x13_208).f0).toList) == (((rd_T109 l1 x13_208).f0).toList)) || (!(((rd_T109 l0 x13_208).f1) == ((rd_T109 l1 x13_208).f1)) || (!(((rd_T109 l0 x13_208).f2) == ((rd_T109 l1 x13_208).f2)) || (!(((rd_T109 l0 x13_208).f3) == ((rd_T109 l1 x13_208).f3)) || (!(((rd_T109 l0 x13_208).f4) == ((rd_T109 l1 x13_208).f4)) || (!(((rd_T109 l0 x13_208).f5) == ((rd_T109 l1 x13_208).f5)) || (!(((rd_T109 l0 x13_208).f6) == ((rd_T109 l1 x13_208).f6)) || (!(((rd_T109 l0 x13_208).f7) == ((rd_T109 l1 x13_208).f7)))))))))) = true := c213; have Kc213 := Aside0.mk c213; clear c213; obtain rfl := Option.some.inj H.out; go_wp2; (try (go_quiet (fail); go_wp2)); go_ret; exact ⟨by first | rfl | (simp; done) | (simp [*]; done), (by repeat (first | exact Drawn0.refl _ | apply Drawn0.step))⟩
             · replace H := a0n c213 H; (have c213b0 : (!((((rd_T109 l0 x13_208).f0).toList) == (((rd_T109 l1 x13_208).f0).toList)) || (!(((rd_T109 l0 x13_208).f1) == ((rd_T109 l1 x13_208).f1)) || (!(((rd_T109 l0 x13_208).f2) == ((rd_T109 l1 x13_208).f2)) || (!(((rd_T109 l0 x13_208).f3) == ((rd_T109 l1 x13_208).f3)) || (!(((rd_T109 l0 x13_208).f4) == ((rd_T109 l1 x13_208).f4)) || (!(((rd_T109 l0 x13_208).f5) == ((rd_T109 l1 x13_208).f5)) || (!(((rd_T109 l0 x13_208).f6) == ((rd_T109 l1 x13_208).f6)) || (!(((rd_T109 l0 x13_208).f7) == ((rd_T109 l1 x13_208).f7)))))))))) = false := by simpa using c213); have Kc213 := Aside0.mk c213; clear c213; go_wp2_with fail; (try (go_quiet (fail); go_wp2_with fail)); go_roundg k208
               case measure => have := HK208.out; omega
               case rel => exact ⟨(wrap64 (x13_208 + 1)), (by first | rfl | (simp; done) | (simp [*]; done)), H, ⟨by have := HK208.out; omega⟩, (by repeat (first | exact Drawn0.refl _ | apply Drawn0.step))⟩
           · replace H := a0n c212 H; exact absurd H.out (by simp)
         · replace H := a0n c211 H; exact absurd H.out (by simp)
       · replace H := a0n c210 H; exact absurd H.out (by simp)
     · replace H := a0n c209 H; have c209b0 : decide (x13_208 < ((l0.length : Int))) = false := decide_eq_false c209; have Kc209 := Aside0.mk c209; clear c209; obtain rfl := Option.some.inj H.out; go_wp2; (try (go_quiet (fail); go_wp2)); go_ret; exact ⟨by first | rfl | (simp; done) | (simp [*]; done), (by repeat (first | exact Drawn0.refl _ | apply Drawn0.step))⟩
 · replace H := a0n c207 H; have c207b0 : ((l0.length : Int) == (l1.length : Int)) = false := beq_eq_false_iff_ne.mpr c207; have c207b1 : ((l0.length : Int) != (l1.length : Int)) = true := bne_iff_ne.mpr c207; (have c207b2 : (l0.length == l1.length) = false := by first | simpa using c207 | (simp at c207 ⊢; omega)); have Kc207 := Aside0.mk c207; clear c207; obtain rfl := Option.some.inj H.out; go_wp2; (try (go_quiet (fail); go_wp2)); go_ret; exact ⟨by first | rfl | (simp; done) | (simp [*]; done), (by repeat (first | exact Drawn0.refl _ | apply Drawn0.step))⟩

/-! ### book_Lock_129: function 129 -/
def book_Lock_129.l0 : Nat → List (S111) → List (S111) → Int → Int → Option (Bool)
  | 0, _, _, _, _ => none
  | k + 1, x0, x1, x12, x13 => if x13 < x12 then (if 0 ≤ x13 then (if x13 < (x0.length : Int) then (if x13 < (x1.length : Int) then (if (!((((rd_T111 x0 x13).f0).toList) == (((rd_T111 x1 x13).f0).toList)) || (!(((rd_T111 x0 x13).f1) == ((rd_T111 x1 x13).f1)))) = true then (some false) else (book_Lock_129.l0 k x0 x1 x12 (wrap64 (x13 + 1)))) else (none)) else (none)) else (none)) else (some true)
def book_Lock_129.f (k : Nat) (l0 : List (S111)) (l1 : List (S111)) : Option (Bool) := if (l0.length : Int) = (l1.length : Int) then (book_Lock_129.l0 k l0 l1 (l0.length : Int) 0) else (some false)
theorem book_Lock_129.mono_l : ∀ k, (∀ y0 y1 y2 y3, LeO (book_Lock_129.l0 k y0 y1 y2 y3) (book_Lock_129.l0 (k + 1) y0 y1 y2 y3))
  | 0 => fun _ _ _ _ r h => by simp [book_Lock_129.l0] at h
  | k + 1 => by
    have ih0 := book_Lock_129.mono_l k
    · intro y0 y1 y2 y3
      unfold book_Lock_129.l0
      repeat' first | (with_reducible apply ih0) | (with_reducible exact LeO.refl _) | (with_reducible exact LeO.none _) | (with_reducible refine LeO.ite ?_ ?_) | (with_reducible refine LeO.bind ?_ (fun _ => ?_)) | apply LeO.none | apply LeO.ite | (refine LeO.bind ?_ (fun _ => ?_))
theorem book_Lock_129.mono : ∀ a0 a1 k, LeO (book_Lock_129.f k a0 a1) (book_Lock_129.f (k + 1) a0 a1) := by
  intro a0 a1 k
  have ih0 := book_Lock_129.mono_l k
  unfold book_Lock_129.f
  repeat' first | (with_reducible apply ih0) | (with_reducible exact LeO.refl _) | (with_reducible exact LeO.none _) | (with_reducible refine LeO.ite ?_ ?_) | (with_reducible refine LeO.bind ?_ (fun _ => ?_)) | apply LeO.none | apply LeO.ite | (refine LeO.bind ?_ (fun _ => ?_))
set_option maxHeartbeats 8000000 in
set_option maxRecDepth 100000 in
theorem book_Lock_129.calls (k : Nat) (A0 : Option Addr) (c0 : Nat) (l0 : List (S111)) (A1 : Option Addr) (c1 : Nat) (l1 : List (S111)) (r : Bool) (w : World) (hr0 : Kd.C k111 w A0 l0.length l0) (hc0 : l0.length ≤ c0) (hr1 : Kd.C k111 w A1 l1.length l1) (hc1 : l1.length ≤ c1) (h : book_Lock_129.f k l0 l1 = some r) :
    Calls Tryz.prog 129 #[.slice A0 l0.length c0, .slice A1 l1.length c1] w fun e w' => e = .returned (.bool r) ∧ Drawn0 w w' := by
 have HR0 := Aside0.mk hr0; have HC0 := Aside0.mk hc0; clear hr0 hc0; have HR1 := Aside0.mk hr1; have HC1 := Aside0.mk hc1; clear hr1 hc1; unfold book_Lock_129.f at h; have H := Aside0.mk h; clear h; go_enter Tryz.func129, Tryz.ntmps129; by_cases c214 : (l0.length : Int) = (l1.length : Int)
 · replace H := a0p c214 H; have c214b0 : ((l0.length : Int) == (l1.length : Int)) = true := beq_iff_eq.mpr c214; have c214b1 : ((l0.length : Int) != (l1.length : Int)) = false := bne_eq_false_iff_eq.mpr c214; (have c214b2 : (l0.length == l1.length) = true := by first | simpa using c214 | (simp at c214 ⊢; omega)); have Kc214 := Aside0.mk c214; clear c214; go_wp2_with fail; (try (go_quiet (fail); go_wp2_with fail)); go_loopg [13] k (fun kq v13 w' => ∃ (x13_215 : Int), v13 = .int .i64 x13_215 ∧ Aside0 (book_Lock_129.l0 kq l0 l1 (l0.length : Int) x13_215 = some r) ∧ Aside0 (kq ≤ k) ∧ Drawn0 w w')
   case atStart => exact ⟨0, (by first | rfl | (simp; done) | (simp [*]; done)), H, ⟨Nat.le_refl _⟩, (by repeat (first | exact Drawn0.refl _ | apply Drawn0.step))⟩
   case round =>
    clear H  ; obtain ⟨x13_215, rfl, HA, HK215, ⟨nd215, rfl⟩⟩ := hrel
    cases gk with
    | zero => exact absurd HA.out (by simp [book_Lock_129.l0])
    | succ k215 =>
     have H1 := HA.out; simp only [book_Lock_129.l0] at H1; have H := Aside0.mk H1; clear H1 HA; by_cases c216 : x13_215 < ((l0.length : Int))
     · replace H := a0p c216 H; have c216b0 : decide (x13_215 < ((l0.length : Int))) = true := decide_eq_true c216; have Kc216 := Aside0.mk c216; clear c216; by_cases c217 : 0 ≤ x13_215
       · replace H := a0p c217 H; have c217b0 : decide (0 ≤ x13_215) = true := decide_eq_true c217; have Kc217 := Aside0.mk c217; clear c217; by_cases c218 : x13_215 < (l0.length : Int)
         · replace H := a0p c218 H; have c218b0 : decide (x13_215 < (l0.length : Int)) = true := decide_eq_true c218; have Kc218 := Aside0.mk c218; clear c218; have p200 : 0 ≤ (x13_215 : Int) := Kc217.out; have q200 : x13_215 < (l0.length : Int) := Kc218.out; obtain ⟨ad200, e200, hx200_0, hx200_1⟩ := at_T111 HR0.out (x13_215) p200 q200
           cases e200
           by_cases c219 : x13_215 < (l1.length : Int)
           · replace H := a0p c219 H; have c219b0 : decide (x13_215 < (l1.length : Int)) = true := decide_eq_true c219; have Kc219 := Aside0.mk c219; clear c219; have p201 : 0 ≤ (x13_215 : Int) := Kc217.out; have q201 : x13_215 < (l1.length : Int) := Kc219.out; obtain ⟨ad201, e201, hx201_0, hx201_1⟩ := at_T111 HR1.out (x13_215) p201 q201
             cases e201
             by_cases c220 : (!((((rd_T111 l0 x13_215).f0).toList) == (((rd_T111 l1 x13_215).f0).toList)) || (!(((rd_T111 l0 x13_215).f1) == ((rd_T111 l1 x13_215).f1)))) = true
             · replace H := a0p c220 H; have c220b0 : (!((((rd_T111 l0 x13_215).f0).toList) == (((rd_T111 l1 x13_215).f0).toList)) || (!(((rd_T111 l0 x13_215).f1) == ((rd_T111 l1 x13_215).f1)))) = true := c220; have Kc220 := Aside0.mk c220; clear c220; obtain rfl := Option.some.inj H.out; go_wp2; (try (go_quiet (fail); go_wp2)); go_ret; exact ⟨by first | rfl | (simp; done) | (simp [*]; done), (by repeat (first | exact Drawn0.refl _ | apply Drawn0.step))⟩
             · replace H := a0n c220 H; (have c220b0 : (!((((rd_T111 l0 x13_215).f0).toList) == (((rd_T111 l1 x13_215).f0).toList)) || (!(((rd_T111 l0 x13_215).f1) == ((rd_T111 l1 x13_215).f1)))) = false := by simpa using c220); have Kc220 := Aside0.mk c220; clear c220; go_wp2_with fail; (try (go_quiet (fail); go_wp2_with fail)); go_roundg k215
               case measure => have := HK215.out; omega
               case rel => exact ⟨(wrap64 (x13_215 + 1)), (by first | rfl | (simp; done) | (simp [*]; done)), H, ⟨by have := HK215.out; omega⟩, (by repeat (first | exact Drawn0.refl _ | apply Drawn0.step))⟩
           · replace H := a0n c219 H; exact absurd H.out (by simp)
         · replace H := a0n c218 H; exact absurd H.out (by simp)
       · replace H := a0n c217 H; exact absurd H.out (by simp)
     · replace H := a0n c216 H; have c216b0 : decide (x13_215 < ((l0.length : Int))) = false := decide_eq_false c216; have Kc216 := Aside0.mk c216; clear c216; obtain rfl := Option.some.inj H.out; go_wp2; (try (go_quiet (fail); go_wp2)); go_ret; exact ⟨by first | rfl | (simp; done) | (simp [*]; done), (by repeat (first | exact Drawn0.refl _ | apply Drawn0.step))⟩
 · replace H := a0n c214 H; have c214b0 : ((l0.length : Int) == (l1.length : Int)) = false := beq_eq_false_iff_ne.mpr c214; have c214b1 : ((l0.length : Int) != (l1.length : Int)) = true := bne_iff_ne.mpr c214; (have c214b2 : (l0.length == l1.length) = false := by first | simpa using c214 | (simp at c214 ⊢; omega)); have Kc214 := Aside0.mk c214; clear c214; obtain rfl := Option.some.inj H.out; go_wp2; (try (go_quiet (fail); go_wp2)); go_ret; exact ⟨by first | rfl | (simp; done) | (simp [*]; done), (by repeat (first | exact Drawn0.refl _ | apply Drawn0.step))⟩

/-! ### book_Sema_130: function 130 -/
def book_Sema_130.l0 : Nat → List (S113) → List (S113) → Int → Int → Option (Bool)
  | 0, _, _, _, _ => none
  | k + 1, x0, x1, x12, x13 => if x13 < x12 then (if 0 ≤ x13 then (if x13 < (x0.length : Int) then (if x13 < (x1.length : Int) then (if (!((((rd_T113 x0 x13).f0).toList) == (((rd_T113 x1 x13).f0).toList)) || (!(((rd_T113 x0 x13).f1) == ((rd_T113 x1 x13).f1)) || (!(((rd_T113 x0 x13).f2) == ((rd_T113 x1 x13).f2)) || (!(((rd_T113 x0 x13).f3) == ((rd_T113 x1 x13).f3)))))) = true then (some false) else (book_Sema_130.l0 k x0 x1 x12 (wrap64 (x13 + 1)))) else (none)) else (none)) else (none)) else (some true)
def book_Sema_130.f (k : Nat) (l0 : List (S113)) (l1 : List (S113)) : Option (Bool) := if (l0.length : Int) = (l1.length : Int) then (book_Sema_130.l0 k l0 l1 (l0.length : Int) 0) else (some false)
theorem book_Sema_130.mono_l : ∀ k, (∀ y0 y1 y2 y3, LeO (book_Sema_130.l0 k y0 y1 y2 y3) (book_Sema_130.l0 (k + 1) y0 y1 y2 y3))
  | 0 => fun _ _ _ _ r h => by simp [book_Sema_130.l0] at h
  | k + 1 => by
    have ih0 := book_Sema_130.mono_l k
    · intro y0 y1 y2 y3
      unfold book_Sema_130.l0
      repeat' first | (with_reducible apply ih0) | (with_reducible exact LeO.refl _) | (with_reducible exact LeO.none _) | (with_reducible refine LeO.ite ?_ ?_) | (with_reducible refine LeO.bind ?_ (fun _ => ?_)) | apply LeO.none | apply LeO.ite | (refine LeO.bind ?_ (fun _ => ?_))
theorem book_Sema_130.mono : ∀ a0 a1 k, LeO (book_Sema_130.f k a0 a1) (book_Sema_130.f (k + 1) a0 a1) := by
  intro a0 a1 k
  have ih0 := book_Sema_130.mono_l k
  unfold book_Sema_130.f
  repeat' first | (with_reducible apply ih0) | (with_reducible exact LeO.refl _) | (with_reducible exact LeO.none _) | (with_reducible refine LeO.ite ?_ ?_) | (with_reducible refine LeO.bind ?_ (fun _ => ?_)) | apply LeO.none | apply LeO.ite | (refine LeO.bind ?_ (fun _ => ?_))
set_option maxHeartbeats 8000000 in
set_option maxRecDepth 100000 in
theorem book_Sema_130.calls (k : Nat) (A0 : Option Addr) (c0 : Nat) (l0 : List (S113)) (A1 : Option Addr) (c1 : Nat) (l1 : List (S113)) (r : Bool) (w : World) (hr0 : Kd.C k113 w A0 l0.length l0) (hc0 : l0.length ≤ c0) (hr1 : Kd.C k113 w A1 l1.length l1) (hc1 : l1.length ≤ c1) (h : book_Sema_130.f k l0 l1 = some r) :
    Calls Tryz.prog 130 #[.slice A0 l0.length c0, .slice A1 l1.length c1] w fun e w' => e = .returned (.bool r) ∧ Drawn0 w w' := by
 have HR0 := Aside0.mk hr0; have HC0 := Aside0.mk hc0; clear hr0 hc0; have HR1 := Aside0.mk hr1; have HC1 := Aside0.mk hc1; clear hr1 hc1; unfold book_Sema_130.f at h; have H := Aside0.mk h; clear h; go_enter Tryz.func130, Tryz.ntmps130; by_cases c221 : (l0.length : Int) = (l1.length : Int)
 · replace H := a0p c221 H; have c221b0 : ((l0.length : Int) == (l1.length : Int)) = true := beq_iff_eq.mpr c221; have c221b1 : ((l0.length : Int) != (l1.length : Int)) = false := bne_eq_false_iff_eq.mpr c221; (have c221b2 : (l0.length == l1.length) = true := by first | simpa using c221 | (simp at c221 ⊢; omega)); have Kc221 := Aside0.mk c221; clear c221; go_wp2_with fail; (try (go_quiet (fail); go_wp2_with fail)); go_loopg [13] k (fun kq v13 w' => ∃ (x13_222 : Int), v13 = .int .i64 x13_222 ∧ Aside0 (book_Sema_130.l0 kq l0 l1 (l0.length : Int) x13_222 = some r) ∧ Aside0 (kq ≤ k) ∧ Drawn0 w w')
   case atStart => exact ⟨0, (by first | rfl | (simp; done) | (simp [*]; done)), H, ⟨Nat.le_refl _⟩, (by repeat (first | exact Drawn0.refl _ | apply Drawn0.step))⟩
   case round =>
    clear H  ; obtain ⟨x13_222, rfl, HA, HK222, ⟨nd222, rfl⟩⟩ := hrel
    cases gk with
    | zero => exact absurd HA.out (by simp [book_Sema_130.l0])
    | succ k222 =>
     have H1 := HA.out; simp only [book_Sema_130.l0] at H1; have H := Aside0.mk H1; clear H1 HA; by_cases c223 : x13_222 < ((l0.length : Int))
     · replace H := a0p c223 H; have c223b0 : decide (x13_222 < ((l0.length : Int))) = true := decide_eq_true c223; have Kc223 := Aside0.mk c223; clear c223; by_cases c224 : 0 ≤ x13_222
       · replace H := a0p c224 H; have c224b0 : decide (0 ≤ x13_222) = true := decide_eq_true c224; have Kc224 := Aside0.mk c224; clear c224; by_cases c225 : x13_222 < (l0.length : Int)
         · replace H := a0p c225 H; have c225b0 : decide (x13_222 < (l0.length : Int)) = true := decide_eq_true c225; have Kc225 := Aside0.mk c225; clear c225; have p202 : 0 ≤ (x13_222 : Int) := Kc224.out; have q202 : x13_222 < (l0.length : Int) := Kc225.out; obtain ⟨ad202, e202, hx202_0, hx202_1, hx202_2, hx202_3⟩ := at_T113 HR0.out (x13_222) p202 q202
           cases e202
           by_cases c226 : x13_222 < (l1.length : Int)
           · replace H := a0p c226 H; have c226b0 : decide (x13_222 < (l1.length : Int)) = true := decide_eq_true c226; have Kc226 := Aside0.mk c226; clear c226; have p203 : 0 ≤ (x13_222 : Int) := Kc224.out; have q203 : x13_222 < (l1.length : Int) := Kc226.out; obtain ⟨ad203, e203, hx203_0, hx203_1, hx203_2, hx203_3⟩ := at_T113 HR1.out (x13_222) p203 q203
             cases e203
             by_cases c227 : (!((((rd_T113 l0 x13_222).f0).toList) == (((rd_T113 l1 x13_222).f0).toList)) || (!(((rd_T113 l0 x13_222).f1) == ((rd_T113 l1 x13_222).f1)) || (!(((rd_T113 l0 x13_222).f2) == ((rd_T113 l1 x13_222).f2)) || (!(((rd_T113 l0 x13_222).f3) == ((rd_T113 l1 x13_222).f3)))))) = true
             · replace H := a0p c227 H; have c227b0 : (!((((rd_T113 l0 x13_222).f0).toList) == (((rd_T113 l1 x13_222).f0).toList)) || (!(((rd_T113 l0 x13_222).f1) == ((rd_T113 l1 x13_222).f1)) || (!(((rd_T113 l0 x13_222).f2) == ((rd_T113 l1 x13_222).f2)) || (!(((rd_T113 l0 x13_222).f3) == ((rd_T113 l1 x13_222).f3)))))) = true := c227; have Kc227 := Aside0.mk c227; clear c227; obtain rfl := Option.some.inj H.out; go_wp2; (try (go_quiet (fail); go_wp2)); go_ret; exact ⟨by first | rfl | (simp; done) | (simp [*]; done), (by repeat (first | exact Drawn0.refl _ | apply Drawn0.step))⟩
             · replace H := a0n c227 H; (have c227b0 : (!((((rd_T113 l0 x13_222).f0).toList) == (((rd_T113 l1 x13_222).f0).toList)) || (!(((rd_T113 l0 x13_222).f1) == ((rd_T113 l1 x13_222).f1)) || (!(((rd_T113 l0 x13_222).f2) == ((rd_T113 l1 x13_222).f2)) || (!(((rd_T113 l0 x13_222).f3) == ((rd_T113 l1 x13_222).f3)))))) = false := by simpa using c227); have Kc227 := Aside0.mk c227; clear c227; go_wp2_with fail; (try (go_quiet (fail); go_wp2_with fail)); go_roundg k222
               case measure => have := HK222.out; omega
               case rel => exact ⟨(wrap64 (x13_222 + 1)), (by first | rfl | (simp; done) | (simp [*]; done)), H, ⟨by have := HK222.out; omega⟩, (by repeat (first | exact Drawn0.refl _ | apply Drawn0.step))⟩
           · replace H := a0n c226 H; exact absurd H.out (by simp)
         · replace H := a0n c225 H; exact absurd H.out (by simp)
       · replace H := a0n c224 H; exact absurd H.out (by simp)
     · replace H := a0n c223 H; have c223b0 : decide (x13_222 < ((l0.length : Int))) = false := decide_eq_false c223; have Kc223 := Aside0.mk c223; clear c223; obtain rfl := Option.some.inj H.out; go_wp2; (try (go_quiet (fail); go_wp2)); go_ret; exact ⟨by first | rfl | (simp; done) | (simp [*]; done), (by repeat (first | exact Drawn0.refl _ | apply Drawn0.step))⟩
 · replace H := a0n c221 H; have c221b0 : ((l0.length : Int) == (l1.length : Int)) = false := beq_eq_false_iff_ne.mpr c221; have c221b1 : ((l0.length : Int) != (l1.length : Int)) = true := bne_iff_ne.mpr c221; (have c221b2 : (l0.length == l1.length) = false := by first | simpa using c221 | (simp at c221 ⊢; omega)); have Kc221 := Aside0.mk c221; clear c221; obtain rfl := Option.some.inj H.out; go_wp2; (try (go_quiet (fail); go_wp2)); go_ret; exact ⟨by first | rfl | (simp; done) | (simp [*]; done), (by repeat (first | exact Drawn0.refl _ | apply Drawn0.step))⟩

/-! ### book_Event_131: function 131 -/
def book_Event_131.l0 : Nat → List (S115) → List (S115) → Int → Int → Option (Bool)
  | 0, _, _, _, _ => none
  | k + 1, x0, x1, x12, x13 => if x13 < x12 then (if 0 ≤ x13 then (if x13 < (x0.length : Int) then (if x13 < (x1.length : Int) then (if (!((((rd_T115 x0 x13).f0).toList) == (((rd_T115 x1 x13).f0).toList))) = true then (some false) else (book_Event_131.l0 k x0 x1 x12 (wrap64 (x13 + 1)))) else (none)) else (none)) else (none)) else (some true)
def book_Event_131.f (k : Nat) (l0 : List (S115)) (l1 : List (S115)) : Option (Bool) := if (l0.length : Int) = (l1.length : Int) then (book_Event_131.l0 k l0 l1 (l0.length : Int) 0) else (some false)
theorem book_Event_131.mono_l : ∀ k, (∀ y0 y1 y2 y3, LeO (book_Event_131.l0 k y0 y1 y2 y3) (book_Event_131.l0 (k + 1) y0 y1 y2 y3))
  | 0 => fun _ _ _ _ r h => by simp [book_Event_131.l0] at h
  | k + 1 => by
    have ih0 := book_Event_131.mono_l k
    · intro y0 y1 y2 y3
      unfold book_Event_131.l0
      repeat' first | (with_reducible apply ih0) | (with_reducible exact LeO.refl _) | (with_reducible exact LeO.none _) | (with_reducible refine LeO.ite ?_ ?_) | (with_reducible refine LeO.bind ?_ (fun _ => ?_)) | apply LeO.none | apply LeO.ite | (refine LeO.bind ?_ (fun _ => ?_))
theorem book_Event_131.mono : ∀ a0 a1 k, LeO (book_Event_131.f k a0 a1) (book_Event_131.f (k + 1) a0 a1) := by
  intro a0 a1 k
  have ih0 := book_Event_131.mono_l k
  unfold book_Event_131.f
  repeat' first | (with_reducible apply ih0) | (with_reducible exact LeO.refl _) | (with_reducible exact LeO.none _) | (with_reducible refine LeO.ite ?_ ?_) | (with_reducible refine LeO.bind ?_ (fun _ => ?_)) | apply LeO.none | apply LeO.ite | (refine LeO.bind ?_ (fun _ => ?_))
set_option maxHeartbeats 8000000 in
set_option maxRecDepth 100000 in
theorem book_Event_131.calls (k : Nat) (A0 : Option Addr) (c0 : Nat) (l0 : List (S115)) (A1 : Option Addr) (c1 : Nat) (l1 : List (S115)) (r : Bool) (w : World) (hr0 : Kd.C k115 w A0 l0.length l0) (hc0 : l0.length ≤ c0) (hr1 : Kd.C k115 w A1 l1.length l1) (hc1 : l1.length ≤ c1) (h : book_Event_131.f k l0 l1 = some r) :
    Calls Tryz.prog 131 #[.slice A0 l0.length c0, .slice A1 l1.length c1] w fun e w' => e = .returned (.bool r) ∧ Drawn0 w w' := by
 have HR0 := Aside0.mk hr0; have HC0 := Aside0.mk hc0; clear hr0 hc0; have HR1 := Aside0.mk hr1; have HC1 := Aside0.mk hc1; clear hr1 hc1; unfold book_Event_131.f at h; have H := Aside0.mk h; clear h; go_enter Tryz.func131, Tryz.ntmps131; by_cases c228 : (l0.length : Int) = (l1.length : Int)
 · replace H := a0p c228 H; have c228b0 : ((l0.length : Int) == (l1.length : Int)) = true := beq_iff_eq.mpr c228; have c228b1 : ((l0.length : Int) != (l1.length : Int)) = false := bne_eq_false_iff_eq.mpr c228; (have c228b2 : (l0.length == l1.length) = true := by first | simpa using c228 | (simp at c228 ⊢; omega)); have Kc228 := Aside0.mk c228; clear c228; go_wp2_with fail; (try (go_quiet (fail); go_wp2_with fail)); go_loopg [13] k (fun kq v13 w' => ∃ (x13_229 : Int), v13 = .int .i64 x13_229 ∧ Aside0 (book_Event_131.l0 kq l0 l1 (l0.length : Int) x13_229 = some r) ∧ Aside0 (kq ≤ k) ∧ Drawn0 w w')
   case atStart => exact ⟨0, (by first | rfl | (simp; done) | (simp [*]; done)), H, ⟨Nat.le_refl _⟩, (by repeat (first | exact Drawn0.refl _ | apply Drawn0.step))⟩
   case round =>
    clear H  ; obtain ⟨x13_229, rfl, HA, HK229, ⟨nd229, rfl⟩⟩ := hrel
    cases gk with
    | zero => exact absurd HA.out (by simp [book_Event_131.l0])
    | succ k229 =>
     have H1 := HA.out; simp only [book_Event_131.l0] at H1; have H := Aside0.mk H1; clear H1 HA; by_cases c230 : x13_229 < ((l0.length : Int))
     · replace H := a0p c230 H; have c230b0 : decide (x13_229 < ((l0.length : Int))) = true := decide_eq_true c230; have Kc230 := Aside0.mk c230; clear c230; by_cases c231 : 0 ≤ x13_229
       · replace H := a0p c231 H; have c231b0 : decide (0 ≤ x13_229) = true := decide_eq_true c231; have Kc231 := Aside0.mk c231; clear c231; by_cases c232 : x13_229 < (l0.length : Int)
         · replace H := a0p c232 H; have c232b0 : decide (x13_229 < (l0.length : Int)) = true := decide_eq_true c232; have Kc232 := Aside0.mk c232; clear c232; have p204 : 0 ≤ (x13_229 : Int) := Kc231.out; have q204 : x13_229 < (l0.length : Int) := Kc232.out; obtain ⟨ad204, e204, hx204_0⟩ := at_T115 HR0.out (x13_229) p204 q204
           cases e204
           by_cases c233 : x13_229 < (l1.length : Int)
           · replace H := a0p c233 H; have c233b0 : decide (x13_229 < (l1.length : Int)) = true := decide_eq_true c233; have Kc233 := Aside0.mk c233; clear c233; have p205 : 0 ≤ (x13_229 : Int) := Kc231.out; have q205 : x13_229 < (l1.length : Int) := Kc233.out; obtain ⟨ad205, e205, hx205_0⟩ := at_T115 HR1.out (x13_229) p205 q205
             cases e205
             by_cases c234 : (!((((rd_T115 l0 x13_229).f0).toList) == (((rd_T115 l1 x13_229).f0).toList))) = true
             · replace H := a0p c234 H; have c234b0 : (!((((rd_T115 l0 x13_229).f0).toList) == (((rd_T115 l1 x13_229).f0).toList))) = true := c234; have Kc234 := Aside0.mk c234; clear c234; obtain rfl := Option.some.inj H.out; go_wp2; (try (go_quiet (fail); go_wp2)); go_ret; exact ⟨by first | rfl | (simp; done) | (simp [*]; done), (by repeat (first | exact Drawn0.refl _ | apply Drawn0.step))⟩
             · replace H := a0n c234 H; (have c234b0 : (!((((rd_T115 l0 x13_229).f0).toList) == (((rd_T115 l1 x13_229).f0).toList))) = false := by simpa using c234); have Kc234 := Aside0.mk c234; clear c234; go_wp2_with fail; (try (go_quiet (fail); go_wp2_with fail)); go_roundg k229
               case measure => have := HK229.out; omega
               case rel => exact ⟨(wrap64 (x13_229 + 1)), (by first | rfl | (simp; done) | (simp [*]; done)), H, ⟨by have := HK229.out; omega⟩, (by repeat (first | exact Drawn0.refl _ | apply Drawn0.step))⟩
           · replace H := a0n c233 H; exact absurd H.out (by simp)
         · replace H := a0n c232 H; exact absurd H.out (by simp)
       · replace H := a0n c231 H; exact absurd H.out (by simp)
     · replace H := a0n c230 H; have c230b0 : decide (x13_229 < ((l0.length : Int))) = false := decide_eq_false c230; have Kc230 := Aside0.mk c230; clear c230; obtain rfl := Option.some.inj H.out; go_wp2; (try (go_quiet (fail); go_wp2)); go_ret; exact ⟨by first | rfl | (simp; done) | (simp [*]; done), (by repeat (first | exact Drawn0.refl _ | apply Drawn0.step))⟩
 · replace H := a0n c228 H; have c228b0 : ((l0.length : Int) == (l1.length : Int)) = false := beq_eq_false_iff_ne.mpr c228; have c228b1 : ((l0.length : Int) != (l1.length : Int)) = true := bne_iff_ne.mpr c228; (have c228b2 : (l0.length == l1.length) = false := by first | simpa using c228 | (simp at c228 ⊢; omega)); have Kc228 := Aside0.mk c228; clear c228; obtain rfl := Option.some.inj H.out; go_wp2; (try (go_quiet (fail); go_wp2)); go_ret; exact ⟨by first | rfl | (simp; done) | (simp [*]; done), (by repeat (first | exact Drawn0.refl _ | apply Drawn0.step))⟩

/-! ### book_Board_132: function 132 -/
def book_Board_132.l0 : Nat → List (S117) → List (S117) → Int → Int → Option (Bool)
  | 0, _, _, _, _ => none
  | k + 1, x0, x1, x12, x13 => if x13 < x12 then (if 0 ≤ x13 then (if x13 < (x0.length : Int) then (if x13 < (x1.length : Int) then (if (!((((rd_T117 x0 x13).f0).toList) == (((rd_T117 x1 x13).f0).toList)) || (!(((rd_T117 x0 x13).f1) == ((rd_T117 x1 x13).f1)))) = true then (some false) else (book_Board_132.l0 k x0 x1 x12 (wrap64 (x13 + 1)))) else (none)) else (none)) else (none)) else (some true)
def book_Board_132.f (k : Nat) (l0 : List (S117)) (l1 : List (S117)) : Option (Bool) := if (l0.length : Int) = (l1.length : Int) then (book_Board_132.l0 k l0 l1 (l0.length : Int) 0) else (some false)
theorem book_Board_132.mono_l : ∀ k, (∀ y0 y1 y2 y3, LeO (book_Board_132.l0 k y0 y1 y2 y3) (book_Board_132.l0 (k + 1) y0 y1 y2 y3))
  | 0 => fun _ _ _ _ r h => by simp [book_Board_132.l0] at h
  | k + 1 => by
    have ih0 := book_Board_132.mono_l k
    · intro y0 y1 y2 y3
      unfold book_Board_132.l0
      repeat' first | (with_reducible apply ih0) | (with_reducible exact LeO.refl _) | (with_reducible exact LeO.none _) | (with_reducible refine LeO.ite ?_ ?_) | (with_reducible refine LeO.bind ?_ (fun _ => ?_)) | apply LeO.none | apply LeO.ite | (refine LeO.bind ?_ (fun _ => ?_))
theorem book_Board_132.mono : ∀ a0 a1 k, LeO (book_Board_132.f k a0 a1) (book_Board_132.f (k + 1) a0 a1) := by
  intro a0 a1 k
  have ih0 := book_Board_132.mono_l k
  unfold book_Board_132.f
  repeat' first | (with_reducible apply ih0) | (with_reducible exact LeO.refl _) | (with_reducible exact LeO.none _) | (with_reducible refine LeO.ite ?_ ?_) | (with_reducible refine LeO.bind ?_ (fun _ => ?_)) | apply LeO.none | apply LeO.ite | (refine LeO.bind ?_ (fun _ => ?_))
set_option maxHeartbeats 8000000 in
set_option maxRecDepth 100000 in
theorem book_Board_132.calls (k : Nat) (A0 : Option Addr) (c0 : Nat) (l0 : List (S117)) (A1 : Option Addr) (c1 : Nat) (l1 : List (S117)) (r : Bool) (w : World) (hr0 : Kd.C k117 w A0 l0.length l0) (hc0 : l0.length ≤ c0) (hr1 : Kd.C k117 w A1 l1.length l1) (hc1 : l1.length ≤ c1) (h : book_Board_132.f k l0 l1 = some r) :
    Calls Tryz.prog 132 #[.slice A0 l0.length c0, .slice A1 l1.length c1] w fun e w' => e = .returned (.bool r) ∧ Drawn0 w w' := by
 have HR0 := Aside0.mk hr0; have HC0 := Aside0.mk hc0; clear hr0 hc0; have HR1 := Aside0.mk hr1; have HC1 := Aside0.mk hc1; clear hr1 hc1; unfold book_Board_132.f at h; have H := Aside0.mk h; clear h; go_enter Tryz.func132, Tryz.ntmps132; by_cases c235 : (l0.length : Int) = (l1.length : Int)
 · replace H := a0p c235 H; have c235b0 : ((l0.length : Int) == (l1.length : Int)) = true := beq_iff_eq.mpr c235; have c235b1 : ((l0.length : Int) != (l1.length : Int)) = false := bne_eq_false_iff_eq.mpr c235; (have c235b2 : (l0.length == l1.length) = true := by first | simpa using c235 | (simp at c235 ⊢; omega)); have Kc235 := Aside0.mk c235; clear c235; go_wp2_with fail; (try (go_quiet (fail); go_wp2_with fail)); go_loopg [13] k (fun kq v13 w' => ∃ (x13_236 : Int), v13 = .int .i64 x13_236 ∧ Aside0 (book_Board_132.l0 kq l0 l1 (l0.length : Int) x13_236 = some r) ∧ Aside0 (kq ≤ k) ∧ Drawn0 w w')
   case atStart => exact ⟨0, (by first | rfl | (simp; done) | (simp [*]; done)), H, ⟨Nat.le_refl _⟩, (by repeat (first | exact Drawn0.refl _ | apply Drawn0.step))⟩
   case round =>
    clear H  ; obtain ⟨x13_236, rfl, HA, HK236, ⟨nd236, rfl⟩⟩ := hrel
    cases gk with
    | zero => exact absurd HA.out (by simp [book_Board_132.l0])
    | succ k236 =>
     have H1 := HA.out; simp only [book_Board_132.l0] at H1; have H := Aside0.mk H1; clear H1 HA; by_cases c237 : x13_236 < ((l0.length : Int))
     · replace H := a0p c237 H; have c237b0 : decide (x13_236 < ((l0.length : Int))) = true := decide_eq_true c237; have Kc237 := Aside0.mk c237; clear c237; by_cases c238 : 0 ≤ x13_236
       · replace H := a0p c238 H; have c238b0 : decide (0 ≤ x13_236) = true := decide_eq_true c238; have Kc238 := Aside0.mk c238; clear c238; by_cases c239 : x13_236 < (l0.length : Int)
         · replace H := a0p c239 H; have c239b0 : decide (x13_236 < (l0.length : Int)) = true := decide_eq_true c239; have Kc239 := Aside0.mk c239; clear c239; have p206 : 0 ≤ (x13_236 : Int) := Kc238.out; have q206 : x13_236 < (l0.length : Int) := Kc239.out; obtain ⟨ad206, e206, hx206_0, hx206_1⟩ := at_T117 HR0.out (x13_236) p206 q206
           cases e206
           by_cases c240 : x13_236 < (l1.length : Int)
           · replace H := a0p c240 H; have c240b0 : decide (x13_236 < (l1.length : Int)) = true := decide_eq_true c240; have Kc240 := Aside0.mk c240; clear c240; have p207 : 0 ≤ (x13_236 : Int) := Kc238.out; have q207 : x13_236 < (l1.length : Int) := Kc240.out; obtain ⟨ad207, e207, hx207_0, hx207_1⟩ := at_T117 HR1.out (x13_236) p207 q207
             cases e207
             by_cases c241 : (!((((rd_T117 l0 x13_236).f0).toList) == (((rd_T117 l1 x13_236).f0).toList)) || (!(((rd_T117 l0 x13_236).f1) == ((rd_T117 l1 x13_236).f1)))) = true
             · replace H := a0p c241 H; have c241b0 : (!((((rd_T117 l0 x13_236).f0).toList) == (((rd_T117 l1 x13_236).f0).toList)) || (!(((rd_T117 l0 x13_236).f1) == ((rd_T117 l1 x13_236).f1)))) = true := c241; have Kc241 := Aside0.mk c241; clear c241; obtain rfl := Option.some.inj H.out; go_wp2; (try (go_quiet (fail); go_wp2)); go_ret; exact ⟨by first | rfl | (simp; done) | (simp [*]; done), (by repeat (first | exact Drawn0.refl _ | apply Drawn0.step))⟩
             · replace H := a0n c241 H; (have c241b0 : (!((((rd_T117 l0 x13_236).f0).toList) == (((rd_T117 l1 x13_236).f0).toList)) || (!(((rd_T117 l0 x13_236).f1) == ((rd_T117 l1 x13_236).f1)))) = false := by simpa using c241); have Kc241 := Aside0.mk c241; clear c241; go_wp2_with fail; (try (go_quiet (fail); go_wp2_with fail)); go_roundg k236
               case measure => have := HK236.out; omega
               case rel => exact ⟨(wrap64 (x13_236 + 1)), (by first | rfl | (simp; done) | (simp [*]; done)), H, ⟨by have := HK236.out; omega⟩, (by repeat (first | exact Drawn0.refl _ | apply Drawn0.step))⟩
           · replace H := a0n c240 H; exact absurd H.out (by simp)
         · replace H := a0n c239 H; exact absurd H.out (by simp)
       · replace H := a0n c238 H; exact absurd H.out (by simp)
     · replace H := a0n c237 H; have c237b0 : decide (x13_236 < ((l0.length : Int))) = false := decide_eq_false c237; have Kc237 := Aside0.mk c237; clear c237; obtain rfl := Option.some.inj H.out; go_wp2; (try (go_quiet (fail); go_wp2)); go_ret; exact ⟨by first | rfl | (simp; done) | (simp [*]; done), (by repeat (first | exact Drawn0.refl _ | apply Drawn0.step))⟩
 · replace H := a0n c235 H; have c235b0 : ((l0.length : Int) == (l1.length : Int)) = false := beq_eq_false_iff_ne.mpr c235; have c235b1 : ((l0.length : Int) != (l1.length : Int)) = true := bne_iff_ne.mpr c235; (have c235b2 : (l0.length == l1.length) = false := by first | simpa using c235 | (simp at c235 ⊢; omega)); have Kc235 := Aside0.mk c235; clear c235; obtain rfl := Option.some.inj H.out; go_wp2; (try (go_quiet (fail); go_wp2)); go_ret; exact ⟨by first | rfl | (simp; done) | (simp [*]; done), (by repeat (first | exact Drawn0.refl _ | apply Drawn0.step))⟩

/-! ### book_Buffer_133: function 133 -/
def book_Buffer_133.l0 : Nat → List (S119) → List (S119) → Int → Int → Option (Bool)
  | 0, _, _, _, _ => none
  | k + 1, x0, x1, x12, x13 => if x13 < x12 then (if 0 ≤ x13 then (if x13 < (x0.length : Int) then (if x13 < (x1.length : Int) then (if (!((((rd_T119 x0 x13).f0).toList) == (((rd_T119 x1 x13).f0).toList)) || (!(((rd_T119 x0 x13).f1) == ((rd_T119 x1 x13).f1)) || (!(((rd_T119 x0 x13).f2) == ((rd_T119 x1 x13).f2)) || (!(((rd_T119 x0 x13).f3) == ((rd_T119 x1 x13).f3)))))) = true then (some false) else (book_Buffer_133.l0 k x0 x1 x12 (wrap64 (x13 + 1)))) else (none)) else (none)) else (none)) else (some true)
def book_Buffer_133.f (k : Nat) (l0 : List (S119)) (l1 : List (S119)) : Option (Bool) := if (l0.length : Int) = (l1.length : Int) then (book_Buffer_133.l0 k l0 l1 (l0.length : Int) 0) else (some false)
theorem book_Buffer_133.mono_l : ∀ k, (∀ y0 y1 y2 y3, LeO (book_Buffer_133.l0 k y0 y1 y2 y3) (book_Buffer_133.l0 (k + 1) y0 y1 y2 y3))
  | 0 => fun _ _ _ _ r h => by simp [book_Buffer_133.l0] at h
  | k + 1 => by
    have ih0 := book_Buffer_133.mono_l k
    · intro y0 y1 y2 y3
      unfold book_Buffer_133.l0
      repeat' first | (with_reducible apply ih0) | (with_reducible exact LeO.refl _) | (with_reducible exact LeO.none _) | (with_reducible refine LeO.ite ?_ ?_) | (with_reducible refine LeO.bind ?_ (fun _ => ?_)) | apply LeO.none | apply LeO.ite | (refine LeO.bind ?_ (fun _ => ?_))
theorem book_Buffer_133.mono : ∀ a0 a1 k, LeO (book_Buffer_133.f k a0 a1) (book_Buffer_133.f (k + 1) a0 a1) := by
  intro a0 a1 k
  have ih0 := book_Buffer_133.mono_l k
  unfold book_Buffer_133.f
  repeat' first | (with_reducible apply ih0) | (with_reducible exact LeO.refl _) | (with_reducible exact LeO.none _) | (with_reducible refine LeO.ite ?_ ?_) | (with_reducible refine LeO.bind ?_ (fun _ => ?_)) | apply LeO.none | apply LeO.ite | (refine LeO.bind ?_ (fun _ => ?_))
set_option maxHeartbeats 8000000 in
set_option maxRecDepth 100000 in
theorem book_Buffer_133.calls (k : Nat) (A0 : Option Addr) (c0 : Nat) (l0 : List (S119)) (A1 : Option Addr) (c1 : Nat) (l1 : List (S119)) (r : Bool) (w : World) (hr0 : Kd.C k119 w A0 l0.length l0) (hc0 : l0.length ≤ c0) (hr1 : Kd.C k119 w A1 l1.length l1) (hc1 : l1.length ≤ c1) (h : book_Buffer_133.f k l0 l1 = some r) :
    Calls Tryz.prog 133 #[.slice A0 l0.length c0, .slice A1 l1.length c1] w fun e w' => e = .returned (.bool r) ∧ Drawn0 w w' := by
 have HR0 := Aside0.mk hr0; have HC0 := Aside0.mk hc0; clear hr0 hc0; have HR1 := Aside0.mk hr1; have HC1 := Aside0.mk hc1; clear hr1 hc1; unfold book_Buffer_133.f at h; have H := Aside0.mk h; clear h; go_enter Tryz.func133, Tryz.ntmps133; by_cases c242 : (l0.length : Int) = (l1.length : Int)
 · replace H := a0p c242 H; have c242b0 : ((l0.length : Int) == (l1.length : Int)) = true := beq_iff_eq.mpr c242; have c242b1 : ((l0.length : Int) != (l1.length : Int)) = false := bne_eq_false_iff_eq.mpr c242; (have c242b2 : (l0.length == l1.length) = true := by first | simpa using c242 | (simp at c242 ⊢; omega)); have Kc242 := Aside0.mk c242; clear c242; go_wp2_with fail; (try (go_quiet (fail); go_wp2_with fail)); go_loopg [13] k (fun kq v13 w' => ∃ (x13_243 : Int), v13 = .int .i64 x13_243 ∧ Aside0 (book_Buffer_133.l0 kq l0 l1 (l0.length : Int) x13_243 = some r) ∧ Aside0 (kq ≤ k) ∧ Drawn0 w w')
   case atStart => exact ⟨0, (by first | rfl | (simp; done) | (simp [*]; done)), H, ⟨Nat.le_refl _⟩, (by repeat (first | exact Drawn0.refl _ | apply Drawn0.step))⟩
   case round =>
    clear H  ; obtain ⟨x13_243, rfl, HA, HK243, ⟨nd243, rfl⟩⟩ := hrel
    cases gk with
    | zero => exact absurd HA.out (by simp [book_Buffer_133.l0])
    | succ k243 =>
     have H1 := HA.out; simp only [book_Buffer_133.l0] at H1; have H := Aside0.mk H1; clear H1 HA; by_cases c244 : x13_243 < ((l0.length : Int))
     · replace H := a0p c244 H; have c244b0 : decide (x13_243 < ((l0.length : Int))) = true := decide_eq_true c244; have Kc244 := Aside0.mk c244; clear c244; by_cases c245 : 0 ≤ x13_243
       · replace H := a0p c245 H; have c245b0 : decide (0 ≤ x13_243) = true := decide_eq_true c245; have Kc245 := Aside0.mk c245; clear c245; by_cases c246 : x13_243 < (l0.length : Int)
         · replace H := a0p c246 H; have c246b0 : decide (x13_243 < (l0.length : Int)) = true := decide_eq_true c246; have Kc246 := Aside0.mk c246; clear c246; have p208 : 0 ≤ (x13_243 : Int) := Kc245.out; have q208 : x13_243 < (l0.length : Int) := Kc246.out; obtain ⟨ad208, e208, hx208_0, hx208_1, hx208_2, hx208_3⟩ := at_T119 HR0.out (x13_243) p208 q208
           cases e208
           by_cases c247 : x13_243 < (l1.length : Int)
           · replace H := a0p c247 H; have c247b0 : decide (x13_243 < (l1.length : Int)) = true := decide_eq_true c247; have Kc247 := Aside0.mk c247; clear c247; have p209 : 0 ≤ (x13_243 : Int) := Kc245.out; have q209 : x13_243 < (l1.length : Int) := Kc247.out; obtain ⟨ad209, e209, hx209_0, hx209_1, hx209_2, hx209_3⟩ := at_T119 HR1.out (x13_243) p209 q209
             cases e209
             by_cases c248 : (!((((rd_T119 l0 x13_243).f0).toList) == (((rd_T119 l1 x13_243).f0).toList)) || (!(((rd_T119 l0 x13_243).f1) == ((rd_T119 l1 x13_243).f1)) || (!(((rd_T119 l0 x13_243).f2) == ((rd_T119 l1 x13_243).f2)) || (!(((rd_T119 l0 x13_243).f3) == ((rd_T119 l1 x13_243).f3)))))) = true
             · replace H := a0p c248 H; have c248b0 : (!((((rd_T119 l0 x13_243).f0).toList) == (((rd_T119 l1 x13_243).f0).toList)) || (!(((rd_T119 l0 x13_243).f1) == ((rd_T119 l1 x13_243).f1)) || (!(((rd_T119 l0 x13_243).f2) == ((rd_T119 l1 x13_243).f2)) || (!(((rd_T119 l0 x13_243).f3) == ((rd_T119 l1 x13_243).f3)))))) = true := c248; have Kc248 := Aside0.mk c248; clear c248; obtain rfl := Option.some.inj H.out; go_wp2; (try (go_quiet (fail); go_wp2)); go_ret; exact ⟨by first | rfl | (simp; done) | (simp [*]; done), (by repeat (first | exact Drawn0.refl _ | apply Drawn0.step))⟩
             · replace H := a0n c248 H; (have c248b0 : (!((((rd_T119 l0 x13_243).f0).toList) == (((rd_T119 l1 x13_243).f0).toList)) || (!(((rd_T119 l0 x13_243).f1) == ((rd_T119 l1 x13_243).f1)) || (!(((rd_T119 l0 x13_243).f2) == ((rd_T119 l1 x13_243).f2)) || (!(((rd_T119 l0 x13_243).f3) == ((rd_T119 l1 x13_243).f3)))))) = false := by simpa using c248); have Kc248 := Aside0.mk c248; clear c248; go_wp2_with fail; (try (go_quiet (fail); go_wp2_with fail)); go_roundg k243
               case measure => have := HK243.out; omega
               case rel => exact ⟨(wrap64 (x13_243 + 1)), (by first | rfl | (simp; done) | (simp [*]; done)), H, ⟨by have := HK243.out; omega⟩, (by repeat (first | exact Drawn0.refl _ | apply Drawn0.step))⟩
           · replace H := a0n c247 H; exact absurd H.out (by simp)
         · replace H := a0n c246 H; exact absurd H.out (by simp)
       · replace H := a0n c245 H; exact absurd H.out (by simp)
     · replace H := a0n c244 H; have c244b0 : decide (x13_243 < ((l0.length : Int))) = false := decide_eq_false c244; have Kc244 := Aside0.mk c244; clear c244; obtain rfl := Option.some.inj H.out; go_wp2; (try (go_quiet (fail); go_wp2)); go_ret; exact ⟨by first | rfl | (simp; done) | (simp [*]; done), (by repeat (first | exact Drawn0.refl _ | apply Drawn0.step))⟩
 · replace H := a0n c242 H; have c242b0 : ((l0.length : Int) == (l1.length : Int)) = false := beq_eq_false_iff_ne.mpr c242; have c242b1 : ((l0.length : Int) != (l1.length : Int)) = true := bne_iff_ne.mpr c242; (have c242b2 : (l0.length == l1.length) = false := by first | simpa using c242 | (simp at c242 ⊢; omega)); have Kc242 := Aside0.mk c242; clear c242; obtain rfl := Option.some.inj H.out; go_wp2; (try (go_quiet (fail); go_wp2)); go_ret; exact ⟨by first | rfl | (simp; done) | (simp [*]; done), (by repeat (first | exact Drawn0.refl _ | apply Drawn0.step))⟩

/-! ### book_Port_134: function 134 -/
def book_Port_134.l0 : Nat → List (S60) → List (S60) → Int → Int → Option (Bool)
  | 0, _, _, _, _ => none
  | k + 1, x0, x1, x12, x13 => if x13 < x12 then (if 0 ≤ x13 then (if x13 < (x0.length : Int) then (if x13 < (x1.length : Int) then (if (!((((rd_T60 x0 x13).f0).toList) == (((rd_T60 x1 x13).f0).toList)) || (!(((rd_T60 x0 x13).f1) == ((rd_T60 x1 x13).f1)) || (!(((rd_T60 x0 x13).f2) == ((rd_T60 x1 x13).f2)) || (!(((rd_T60 x0 x13).f3) == ((rd_T60 x1 x13).f3)) || (!(((rd_T60 x0 x13).f4) == ((rd_T60 x1 x13).f4)) || (!(((rd_T60 x0 x13).f5) == ((rd_T60 x1 x13).f5)))))))) = true then (some false) else (book_Port_134.l0 k x0 x1 x12 (wrap64 (x13 + 1)))) else (none)) else (none)) else (none)) else (some true)
def book_Port_134.f (k : Nat) (l0 : List (S60)) (l1 : List (S60)) : Option (Bool) := if (l0.length : Int) = (l1.length : Int) then (book_Port_134.l0 k l0 l1 (l0.length : Int) 0) else (some false)
theorem book_Port_134.mono_l : ∀ k, (∀ y0 y1 y2 y3, LeO (book_Port_134.l0 k y0 y1 y2 y3) (book_Port_134.l0 (k + 1) y0 y1 y2 y3))
  | 0 => fun _ _ _ _ r h => by simp [book_Port_134.l0] at h
  | k + 1 => by
    have ih0 := book_Port_134.mono_l k
    · intro y0 y1 y2 y3
      unfold book_Port_134.l0
      repeat' first | (with_reducible apply ih0) | (with_reducible exact LeO.refl _) | (with_reducible exact LeO.none _) | (with_reducible refine LeO.ite ?_ ?_) | (with_reducible refine LeO.bind ?_ (fun _ => ?_)) | apply LeO.none | apply LeO.ite | (refine LeO.bind ?_ (fun _ => ?_))
theorem book_Port_134.mono : ∀ a0 a1 k, LeO (book_Port_134.f k a0 a1) (book_Port_134.f (k + 1) a0 a1) := by
  intro a0 a1 k
  have ih0 := book_Port_134.mono_l k
  unfold book_Port_134.f
  repeat' first | (with_reducible apply ih0) | (with_reducible exact LeO.refl _) | (with_reducible exact LeO.none _) | (with_reducible refine LeO.ite ?_ ?_) | (with_reducible refine LeO.bind ?_ (fun _ => ?_)) | apply LeO.none | apply LeO.ite | (refine LeO.bind ?_ (fun _ => ?_))
set_option maxHeartbeats 8000000 in
set_option maxRecDepth 100000 in
theorem book_Port_134.calls (k : Nat) (A0 : Option Addr) (c0 : Nat) (l0 : List (S60)) (A1 : Option Addr) (c1 : Nat) (l1 : List (S60)) (r : Bool) (w : World) (hr0 : Kd.C k60 w A0 l0.length l0) (hc0 : l0.length ≤ c0) (hr1 : Kd.C k60 w A1 l1.length l1) (hc1 : l1.length ≤ c1) (h : book_Port_134.f k l0 l1 = some r) :
    Calls Tryz.prog 134 #[.slice A0 l0.length c0, .slice A1 l1.length c1] w fun e w' => e = .returned (.bool r) ∧ Drawn0 w w' := by
 have HR0 := Aside0.mk hr0; have HC0 := Aside0.mk hc0; clear hr0 hc0; have HR1 := Aside0.mk hr1; have HC1 := Aside0.mk hc1; clear hr1 hc1; unfold book_Port_134.f at h; have H := Aside0.mk h; clear h; go_enter Tryz.func134, Tryz.ntmps134; by_cases c249 : (l0.length : Int) = (l1.length : Int)
 · replace H := a0p c249 H; have c249b0 : ((l0.length : Int) == (l1.length : Int)) = true := beq_iff_eq.mpr c249; have c249b1 : ((l0.length : Int) != (l1.length : Int)) = false := bne_eq_false_iff_eq.mpr c249; (have c249b2 : (l0.length == l1.length) = true := by first | simpa using c249 | (simp at c249 ⊢; omega)); have Kc249 := Aside0.mk c249; clear c249; go_wp2_with fail; (try (go_quiet (fail); go_wp2_with fail)); go_loopg [13] k (fun kq v13 w' => ∃ (x13_250 : Int), v13 = .int .i64 x13_250 ∧ Aside0 (book_Port_134.l0 kq l0 l1 (l0.length : Int) x13_250 = some r) ∧ Aside0 (kq ≤ k) ∧ Drawn0 w w')
   case atStart => exact ⟨0, (by first | rfl | (simp; done) | (simp [*]; done)), H, ⟨Nat.le_refl _⟩, (by repeat (first | exact Drawn0.refl _ | apply Drawn0.step))⟩
   case round =>
    clear H  ; obtain ⟨x13_250, rfl, HA, HK250, ⟨nd250, rfl⟩⟩ := hrel
    cases gk with
    | zero => exact absurd HA.out (by simp [book_Port_134.l0])
    | succ k250 =>
     have H1 := HA.out; simp only [book_Port_134.l0] at H1; have H := Aside0.mk H1; clear H1 HA; by_cases c251 : x13_250 < ((l0.length : Int))
     · replace H := a0p c251 H; have c251b0 : decide (x13_250 < ((l0.length : Int))) = true := decide_eq_true c251; have Kc251 := Aside0.mk c251; clear c251; by_cases c252 : 0 ≤ x13_250
       · replace H := a0p c252 H; have c252b0 : decide (0 ≤ x13_250) = true := decide_eq_true c252; have Kc252 := Aside0.mk c252; clear c252; by_cases c253 : x13_250 < (l0.length : Int)
         · replace H := a0p c253 H; have c253b0 : decide (x13_250 < (l0.length : Int)) = true := decide_eq_true c253; have Kc253 := Aside0.mk c253; clear c253; have p210 : 0 ≤ (x13_250 : Int) := Kc252.out; have q210 : x13_250 < (l0.length : Int) := Kc253.out; obtain ⟨ad210, e210, hx210_0, hx210_1, hx210_2, hx210_3, hx210_4, hx210_5⟩ := at_T60 HR0.out (x13_250) p210 q210
           cases e210
           by_cases c254 : x13_250 < (l1.length : Int)
           · replace H := a0p c254 H; have c254b0 : decide (x13_250 < (l1.length : Int)) = true := decide_eq_true c254; have Kc254 := Aside0.mk c254; clear c254; have p211 : 0 ≤ (x13_250 : Int) := Kc252.out; have q211 : x13_250 < (l1.length : Int) := Kc254.out; obtain ⟨ad211, e211, hx211_0, hx211_1, hx211_2, hx211_3, hx211_4, hx211_5⟩ := at_T60 HR1.out (x13_250) p211 q211
             cases e211
             by_cases c255 : (!((((rd_T60 l0 x13_250).f0).toList) == (((rd_T60 l1 x13_250).f0).toList)) || (!(((rd_T60 l0 x13_250).f1) == ((rd_T60 l1 x13_250).f1)) || (!(((rd_T60 l0 x13_250).f2) == ((rd_T60 l1 x13_250).f2)) || (!(((rd_T60 l0 x13_250).f3) == ((rd_T60 l1 x13_250).f3)) || (!(((rd_T60 l0 x13_250).f4) == ((rd_T60 l1 x13_250).f4)) || (!(((rd_T60 l0 x13_250).f5) == ((rd_T60 l1 x13_250).f5)))))))) = true
             · replace H := a0p c255 H; have c255b0 : (!((((rd_T60 l0 x13_250).f0).toList) == (((rd_T60 l1 x13_250).f0).toList)) || (!(((rd_T60 l0 x13_250).f1) == ((rd_T60 l1 x13_250).f1)) || (!(((rd_T60 l0 x13_250).f2) == ((rd_T60 l1 x13_250).f2)) || (!(((rd_T60 l0 x13_250).f3) == ((rd_T60 l1 x13_250).f3)) || (!(((rd_T60 l0 x13_250).f4) == ((rd_T60 l1 x13_250).f4)) || (!(((rd_T60 l0 x13_250).f5) == ((rd_T60 l1 x13_250).f5)))))))) = true := c255; have Kc255 := Aside0.mk c255; clear c255; obtain rfl := Option.some.inj H.out; go_wp2; (try (go_quiet (fail); go_wp2)); go_ret; exact ⟨by first | rfl | (simp; done) | (simp [*]; done), (by repeat (first | exact Drawn0.refl _ | apply Drawn0.step))⟩
             · replace H := a0n c255 H; (have c255b0 : (!((((rd_T60 l0 x13_250).f0).toList) == (((rd_T60 l1 x13_250).f0).toList)) || (!(((rd_T60 l0 x13_250).f1) == ((rd_T60 l1 x13_250).f1)) || (!(((rd_T60 l0 x13_250).f2) == ((rd_T60 l1 x13_250).f2)) || (!(((rd_T60 l0 x13_250).f3) == ((rd_T60 l1 x13_250).f3)) || (!(((rd_T60 l0 x13_250).f4) == ((rd_T60 l1 x13_250).f4)) || (!(((rd_T60 l0 x13_250).f5) == ((rd_T60 l1 x13_250).f5)))))))) = false := by simpa using c255); have Kc255 := Aside0.mk c255; clear c255; go_wp2_with fail; (try (go_quiet (fail); go_wp2_with fail)); go_roundg k250
               case measure => have := HK250.out; omega
               case rel => exact ⟨(wrap64 (x13_250 + 1)), (by first | rfl | (simp; done) | (simp [*]; done)), H, ⟨by have := HK250.out; omega⟩, (by repeat (first | exact Drawn0.refl _ | apply Drawn0.step))⟩
           · replace H := a0n c254 H; exact absurd H.out (by simp)
         · replace H := a0n c253 H; exact absurd H.out (by simp)
       · replace H := a0n c252 H; exact absurd H.out (by simp)
     · replace H := a0n c251 H; have c251b0 : decide (x13_250 < ((l0.length : Int))) = false := decide_eq_false c251; have Kc251 := Aside0.mk c251; clear c251; obtain rfl := Option.some.inj H.out; go_wp2; (try (go_quiet (fail); go_wp2)); go_ret; exact ⟨by first | rfl | (simp; done) | (simp [*]; done), (by repeat (first | exact Drawn0.refl _ | apply Drawn0.step))⟩
 · replace H := a0n c249 H; have c249b0 : ((l0.length : Int) == (l1.length : Int)) = false := beq_eq_false_iff_ne.mpr c249; have c249b1 : ((l0.length : Int) != (l1.length : Int)) = true := bne_iff_ne.mpr c249; (have c249b2 : (l0.length == l1.length) = false := by first | simpa using c249 | (simp at c249 ⊢; omega)); have Kc249 := Aside0.mk c249; clear c249; obtain rfl := Option.some.inj H.out; go_wp2; (try (go_quiet (fail); go_wp2)); go_ret; exact ⟨by first | rfl | (simp; done) | (simp [*]; done), (by repeat (first | exact Drawn0.refl _ | apply Drawn0.step))⟩

end Go.Proofs.YthpdlgamicmhaaaGreat.PR
