/- Written by a program (pe.py): functions of the program as Lean functions, and that each call answers as they do. -/
import Derived.Test.YthpdlgamicmhaaaGreatPNx0
import Derived.Test.YthpdlgamicmhaaaGreatPNx14
import Derived.Test.YthpdlgamicmhaaaGreatPNx15
namespace Go.Proofs.YthpdlgamicmhaaaGreat.PN
open Go.RowKit Go.Proofs.YthpdlgamicmhaaaGreatW.PrintWords Go.Proofs.YthpdlgamicmhaaaGreatW.PrintLast Go.Proofs.YthpdlgamicmhaaaGreatW.PrintMore
attribute [local go_sem] max2_int min2_int max_two min_two max_three min_three max_four min_four   -- for this text's walks alone
set_option linter.unusedVariables false
set_option linter.unusedSimpArgs false

/-! ### book_Partition_Names_3: function 70 -/
def book_Partition_Names_3.f (a0_0 : ByteArray) (a0_1 : Int) : Option (ByteArray) := some a0_0
set_option maxHeartbeats 8000000 in
set_option maxRecDepth 100000 in
theorem book_Partition_Names_3.calls (a0_0 : ByteArray) (a0_1 : Int) (r : ByteArray) (w : World) (h : book_Partition_Names_3.f a0_0 a0_1 = some r) :
  Calls Tryz.prog 70 #[.agg #[.string a0_0, .int .i64 a0_1]] w fun e w' => e = .returned (.string r) ∧ Below w.heap.size w w' := by
 have hu111 := Tryz.underlying111
 have HB := Aside0.mk (Below.refl w.heap.size w)
 have H : (some a0_0) = some r := h
 clear h
 obtain rfl := Option.some.inj H
 go_enter Tryz.func70, Tryz.ntmps70
 go_wp2_with (first | ((with_reducible refine gate_dst (N := 1) rfl ?_); refine box_event ?hg (N := 1) ?hd (cs := #[.string a0_0, .int .i64 a0_1]) (t := 111) ?hr ?_; (case hd => rfl); (case hg => rfl); (case hr => first | (go_simp; done) | (go_simp; rfl)); intro gb270 hg w2 hbox hb; have n0_ := Aside0.mk (below_step (by repeat (first | (with_reducible first | exact HB.out | apply below_alloc | apply pw_below_drewN | apply below_drew1) | exact HB.out)) hb); have n1_ := Aside0.mk (hbox); have n2_ := Aside0.mk ((by rw [hg]; exact (below_size (by repeat (first | (with_reducible first | exact HB.out | apply below_alloc | apply pw_below_drewN | apply below_drew1) | exact HB.out))) : w.heap.size ≤ gb270)); have n3_ := Aside0.mk ((by rw [hg]; exact (below_size (by repeat (first | (with_reducible first | exact HB.out | apply below_alloc | apply pw_below_drewN | apply below_drew1) | exact HB.out))) : w.heap.size ≤ gb270)); clear HB; have HB := n0_; have BK270 := n1_; have GW270 := n2_; have GE270 := n3_; clear n0_ n1_ n2_ n3_; clear hb hbox hg; obtain ⟨hcz3_0, hcz3_1, hfz3_0, hfz3_1⟩ := blk2 BK270.out))
 go_ret
 exact ⟨by first | rfl | (simp [errW_none, errW_some] <;> rfl) | (simp [*, errW_none, errW_some] <;> rfl), by repeat (first | (with_reducible first | exact HB.out | apply below_alloc | apply pw_below_drewN | apply below_drew1 | refine below_set ?_ GE270.out) | exact HB.out)⟩

/-! ### book_Partition_Names_4: function 72 -/
def book_Partition_Names_4.f (a0_0 : ByteArray) (a0_1 : Int) (a0_2 : Int) (a0_3 : Bool) : Option (ByteArray) := some a0_0
set_option maxHeartbeats 8000000 in
set_option maxRecDepth 100000 in
theorem book_Partition_Names_4.calls (a0_0 : ByteArray) (a0_1 : Int) (a0_2 : Int) (a0_3 : Bool) (r : ByteArray) (w : World) (h : book_Partition_Names_4.f a0_0 a0_1 a0_2 a0_3 = some r) :
  Calls Tryz.prog 72 #[.agg #[.string a0_0, .int .i64 a0_1, .int .i64 a0_2, .bool a0_3]] w fun e w' => e = .returned (.string r) ∧ Below w.heap.size w w' := by
 have hu113 := Tryz.underlying113
 have HB := Aside0.mk (Below.refl w.heap.size w)
 have H : (some a0_0) = some r := h
 clear h
 obtain rfl := Option.some.inj H
 go_enter Tryz.func72, Tryz.ntmps72
 go_wp2_with (first | ((with_reducible refine gate_dst (N := 1) rfl ?_); refine box_event ?hg (N := 1) ?hd (cs := #[.string a0_0, .int .i64 a0_1, .int .i64 a0_2, .bool a0_3]) (t := 113) ?hr ?_; (case hd => rfl); (case hg => rfl); (case hr => first | (go_simp; done) | (go_simp; rfl)); intro gb271 hg w2 hbox hb; have n0_ := Aside0.mk (below_step (by repeat (first | (with_reducible first | exact HB.out | apply below_alloc | apply pw_below_drewN | apply below_drew1) | exact HB.out)) hb); have n1_ := Aside0.mk (hbox); have n2_ := Aside0.mk ((by rw [hg]; exact (below_size (by repeat (first | (with_reducible first | exact HB.out | apply below_alloc | apply pw_below_drewN | apply below_drew1) | exact HB.out))) : w.heap.size ≤ gb271)); have n3_ := Aside0.mk ((by rw [hg]; exact (below_size (by repeat (first | (with_reducible first | exact HB.out | apply below_alloc | apply pw_below_drewN | apply below_drew1) | exact HB.out))) : w.heap.size ≤ gb271)); clear HB; have HB := n0_; have BK271 := n1_; have GW271 := n2_; have GE271 := n3_; clear n0_ n1_ n2_ n3_; clear hb hbox hg; obtain ⟨hcz3_0, hcz3_1, hcz3_2, hcz3_3, hfz3_0, hfz3_1, hfz3_2, hfz3_3⟩ := blk4 BK271.out))
 go_ret
 exact ⟨by first | rfl | (simp [errW_none, errW_some] <;> rfl) | (simp [*, errW_none, errW_some] <;> rfl), by repeat (first | (with_reducible first | exact HB.out | apply below_alloc | apply pw_below_drewN | apply below_drew1 | refine below_set ?_ GE271.out) | exact HB.out)⟩

/-! ### book_Partition_Names_5: function 74 -/
def book_Partition_Names_5.f (a0_0 : ByteArray) : Option (ByteArray) := some a0_0
set_option maxHeartbeats 8000000 in
set_option maxRecDepth 100000 in
theorem book_Partition_Names_5.calls (a0_0 : ByteArray) (r : ByteArray) (w : World) (h : book_Partition_Names_5.f a0_0 = some r) :
  Calls Tryz.prog 74 #[.agg #[.string a0_0]] w fun e w' => e = .returned (.string r) ∧ Below w.heap.size w w' := by
 have hu115 := Tryz.underlying115
 have HB := Aside0.mk (Below.refl w.heap.size w)
 have H : (some a0_0) = some r := h
 clear h
 obtain rfl := Option.some.inj H
 go_enter Tryz.func74, Tryz.ntmps74
 go_wp2_with (first | ((with_reducible refine gate_dst (N := 1) rfl ?_); refine box_event ?hg (N := 1) ?hd (cs := #[.string a0_0]) (t := 115) ?hr ?_; (case hd => rfl); (case hg => rfl); (case hr => first | (go_simp; done) | (go_simp; rfl)); intro gb272 hg w2 hbox hb; have n0_ := Aside0.mk (below_step (by repeat (first | (with_reducible first | exact HB.out | apply below_alloc | apply pw_below_drewN | apply below_drew1) | exact HB.out)) hb); have n1_ := Aside0.mk (hbox); have n2_ := Aside0.mk ((by rw [hg]; exact (below_size (by repeat (first | (with_reducible first | exact HB.out | apply below_alloc | apply pw_below_drewN | apply below_drew1) | exact HB.out))) : w.heap.size ≤ gb272)); have n3_ := Aside0.mk ((by rw [hg]; exact (below_size (by repeat (first | (with_reducible first | exact HB.out | apply below_alloc | apply pw_below_drewN | apply below_drew1) | exact HB.out))) : w.heap.size ≤ gb272)); clear HB; have HB := n0_; have BK272 := n1_; have GW272 := n2_; have GE272 := n3_; clear n0_ n1_ n2_ n3_; clear hb hbox hg; have hcz3_0 : w2.cell? ⟨gb272, 0, none⟩ = some (.string a0_0) := (blk_cell BK272.out 0).trans rfl; have hfz3_0 := blk_frozen BK272.out 0))
 go_ret
 exact ⟨by first | rfl | (simp [errW_none, errW_some] <;> rfl) | (simp [*, errW_none, errW_some] <;> rfl), by repeat (first | (with_reducible first | exact HB.out | apply below_alloc | apply pw_below_drewN | apply below_drew1 | refine below_set ?_ GE272.out) | exact HB.out)⟩

/-! ### book_Partition_Names_6: function 76 -/
def book_Partition_Names_6.f (a0_0 : ByteArray) (a0_1 : Int) : Option (ByteArray) := some a0_0
set_option maxHeartbeats 8000000 in
set_option maxRecDepth 100000 in
theorem book_Partition_Names_6.calls (a0_0 : ByteArray) (a0_1 : Int) (r : ByteArray) (w : World) (h : book_Partition_Names_6.f a0_0 a0_1 = some r) :
  Calls Tryz.prog 76 #[.agg #[.string a0_0, .int .i64 a0_1]] w fun e w' => e = .returned (.string r) ∧ Below w.heap.size w w' := by
 have hu117 := Tryz.underlying117
 have HB := Aside0.mk (Below.refl w.heap.size w)
 have H : (some a0_0) = some r := h
 clear h
 obtain rfl := Option.some.inj H
 go_enter Tryz.func76, Tryz.ntmps76
 go_wp2_with (first | ((with_reducible refine gate_dst (N := 1) rfl ?_); refine box_event ?hg (N := 1) ?hd (cs := #[.string a0_0, .int .i64 a0_1]) (t := 117) ?hr ?_; (case hd => rfl); (case hg => rfl); (case hr => first | (go_simp; done) | (go_simp; rfl)); intro gb273 hg w2 hbox hb; have n0_ := Aside0.mk (below_step (by repeat (first | (with_reducible first | exact HB.out | apply below_alloc | apply pw_below_drewN | apply below_drew1) | exact HB.out)) hb); have n1_ := Aside0.mk (hbox); have n2_ := Aside0.mk ((by rw [hg]; exact (below_size (by repeat (first | (with_reducible first | exact HB.out | apply below_alloc | apply pw_below_drewN | apply below_drew1) | exact HB.out))) : w.heap.size ≤ gb273)); have n3_ := Aside0.mk ((by rw [hg]; exact (below_size (by repeat (first | (with_reducible first | exact HB.out | apply below_alloc | apply pw_below_drewN | apply below_drew1) | exact HB.out))) : w.heap.size ≤ gb273)); clear HB; have HB := n0_; have BK273 := n1_; have GW273 := n2_; have GE273 := n3_; clear n0_ n1_ n2_ n3_; clear hb hbox hg; obtain ⟨hcz3_0, hcz3_1, hfz3_0, hfz3_1⟩ := blk2 BK273.out))
 go_ret
 exact ⟨by first | rfl | (simp [errW_none, errW_some] <;> rfl) | (simp [*, errW_none, errW_some] <;> rfl), by repeat (first | (with_reducible first | exact HB.out | apply below_alloc | apply pw_below_drewN | apply below_drew1 | refine below_set ?_ GE273.out) | exact HB.out)⟩

/-! ### book_Partition_Names_7: function 78 -/
def book_Partition_Names_7.f (a0_0 : ByteArray) (a0_1 : Int) (a0_2 : Int) (a0_3 : Bool) : Option (ByteArray) := some a0_0
set_option maxHeartbeats 8000000 in
set_option maxRecDepth 100000 in
theorem book_Partition_Names_7.calls (a0_0 : ByteArray) (a0_1 : Int) (a0_2 : Int) (a0_3 : Bool) (r : ByteArray) (w : World) (h : book_Partition_Names_7.f a0_0 a0_1 a0_2 a0_3 = some r) :
  Calls Tryz.prog 78 #[.agg #[.string a0_0, .int .i64 a0_1, .int .i64 a0_2, .bool a0_3]] w fun e w' => e = .returned (.string r) ∧ Below w.heap.size w w' := by
 have hu119 := Tryz.underlying119
 have HB := Aside0.mk (Below.refl w.heap.size w)
 have H : (some a0_0) = some r := h
 clear h
 obtain rfl := Option.some.inj H
 go_enter Tryz.func78, Tryz.ntmps78
 go_wp2_with (first | ((with_reducible refine gate_dst (N := 1) rfl ?_); refine box_event ?hg (N := 1) ?hd (cs := #[.string a0_0, .int .i64 a0_1, .int .i64 a0_2, .bool a0_3]) (t := 119) ?hr ?_; (case hd => rfl); (case hg => rfl); (case hr => first | (go_simp; done) | (go_simp; rfl)); intro gb274 hg w2 hbox hb; have n0_ := Aside0.mk (below_step (by repeat (first | (with_reducible first | exact HB.out | apply below_alloc | apply pw_below_drewN | apply below_drew1) | exact HB.out)) hb); have n1_ := Aside0.mk (hbox); have n2_ := Aside0.mk ((by rw [hg]; exact (below_size (by repeat (first | (with_reducible first | exact HB.out | apply below_alloc | apply pw_below_drewN | apply below_drew1) | exact HB.out))) : w.heap.size ≤ gb274)); have n3_ := Aside0.mk ((by rw [hg]; exact (below_size (by repeat (first | (with_reducible first | exact HB.out | apply below_alloc | apply pw_below_drewN | apply below_drew1) | exact HB.out))) : w.heap.size ≤ gb274)); clear HB; have HB := n0_; have BK274 := n1_; have GW274 := n2_; have GE274 := n3_; clear n0_ n1_ n2_ n3_; clear hb hbox hg; obtain ⟨hcz3_0, hcz3_1, hcz3_2, hcz3_3, hfz3_0, hfz3_1, hfz3_2, hfz3_3⟩ := blk4 BK274.out))
 go_ret
 exact ⟨by first | rfl | (simp [errW_none, errW_some] <;> rfl) | (simp [*, errW_none, errW_some] <;> rfl), by repeat (first | (with_reducible first | exact HB.out | apply below_alloc | apply pw_below_drewN | apply below_drew1 | refine below_set ?_ GE274.out) | exact HB.out)⟩

/-! ### book_Partition_Names_8: function 80 -/
def book_Partition_Names_8.f (a0_0 : ByteArray) (a0_1 : Bool) (a0_2 : Bool) (a0_3 : Int) (a0_4 : Int) (a0_5 : Int) : Option (ByteArray) := some a0_0
set_option maxHeartbeats 8000000 in
set_option maxRecDepth 100000 in
theorem book_Partition_Names_8.calls (a0_0 : ByteArray) (a0_1 : Bool) (a0_2 : Bool) (a0_3 : Int) (a0_4 : Int) (a0_5 : Int) (r : ByteArray) (w : World) (h : book_Partition_Names_8.f a0_0 a0_1 a0_2 a0_3 a0_4 a0_5 = some r) :
  Calls Tryz.prog 80 #[.agg #[.string a0_0, .bool a0_1, .bool a0_2, .int .i64 a0_3, .int .i64 a0_4, .int .i64 a0_5]] w fun e w' => e = .returned (.string r) ∧ Below w.heap.size w w' := by
 have hu60 := Tryz.underlying60
 have HB := Aside0.mk (Below.refl w.heap.size w)
 have H : (some a0_0) = some r := h
 clear h
 obtain rfl := Option.some.inj H
 go_enter Tryz.func80, Tryz.ntmps80
 go_wp2_with (first | ((with_reducible refine gate_dst (N := 1) rfl ?_); refine box_event ?hg (N := 1) ?hd (cs := #[.string a0_0, .bool a0_1, .bool a0_2, .int .i64 a0_3, .int .i64 a0_4, .int .i64 a0_5]) (t := 60) ?hr ?_; (case hd => rfl); (case hg => rfl); (case hr => first | (go_simp; done) | (go_simp; rfl)); intro gb275 hg w2 hbox hb; have n0_ := Aside0.mk (below_step (by repeat (first | (with_reducible first | exact HB.out | apply below_alloc | apply pw_below_drewN | apply below_drew1) | exact HB.out)) hb); have n1_ := Aside0.mk (hbox); have n2_ := Aside0.mk ((by rw [hg]; exact (below_size (by repeat (first | (with_reducible first | exact HB.out | apply below_alloc | apply pw_below_drewN | apply below_drew1) | exact HB.out))) : w.heap.size ≤ gb275)); have n3_ := Aside0.mk ((by rw [hg]; exact (below_size (by repeat (first | (with_reducible first | exact HB.out | apply below_alloc | apply pw_below_drewN | apply below_drew1) | exact HB.out))) : w.heap.size ≤ gb275)); clear HB; have HB := n0_; have BK275 := n1_; have GW275 := n2_; have GE275 := n3_; clear n0_ n1_ n2_ n3_; clear hb hbox hg; obtain ⟨hcz3_0, hcz3_1, hcz3_2, hcz3_3, hcz3_4, hcz3_5, hfz3_0, hfz3_1, hfz3_2, hfz3_3, hfz3_4, hfz3_5⟩ := blk6 BK275.out))
 go_ret
 exact ⟨by first | rfl | (simp [errW_none, errW_some] <;> rfl) | (simp [*, errW_none, errW_some] <;> rfl), by repeat (first | (with_reducible first | exact HB.out | apply below_alloc | apply pw_below_drewN | apply below_drew1 | refine below_set ?_ GE275.out) | exact HB.out)⟩

/-! ### book_Area_65__66: function 65 at book_Partition_Names_1 -/
def book_Area_65__66.f (l : List (S62)) : Option (List ByteArray) := if l.length < 8796093022208 then (mapO (fun x => book_Partition_Names_1.f (x.f0) (x.f1) (x.f2) (x.f3) (x.f4) (x.f5)) l) else none
set_option maxHeartbeats 4000000 in
set_option maxRecDepth 100000 in
theorem book_Area_65__66.calls (A0 : Option Addr) (c0 : Nat) (l : List (S62)) (r : List ByteArray) (w : World) (hr0 : Kd.C k62 w A0 l.length l) (hc0 : l.length ≤ c0) (h : book_Area_65__66.f l = some r) :
  Calls Tryz.prog 65 #[.slice A0 l.length c0, .func (.func 66) #[] #[]] w fun e w' => ∃ v0_ : Value, e = .returned (v0_) ∧ Kd.R Kd.string 9 w' w.heap.size (fun _ => True) v0_ r ∧ Below w.heap.size w w' := by
 unfold book_Area_65__66.f at h
 obtain ⟨hL, h2⟩ := if_some h
 clear h
 have HL := Aside0.mk hL
 have HR0 := Aside0.mk hr0
 have H0 : Aside0 (∃ m', mapO (fun x => book_Partition_Names_1.f (x.f0) (x.f1) (x.f2) (x.f3) (x.f4) (x.f5)) (l.drop 0) = some m' ∧ r = [] ++ m') := ⟨⟨r, by simpa using h2, rfl⟩⟩
 have hL2 : l.length ≤ 140737488351232 := by omega
 clear hr0 h2 hL
 go_enter Tryz.func65, Tryz.ntmps65
 go_wp2
 go_loopw [5, 10] (fun v5 v10 wr => ∃ (j : Nat) (m : List ByteArray), v10 = .int .i64 (j : Int) ∧ j ≤ l.length ∧ Aside0 (m.length = j) ∧ Aside0 (∃ m', mapO (fun x => book_Partition_Names_1.f (x.f0) (x.f1) (x.f2) (x.f3) (x.f4) (x.f5)) (l.drop j) = some m' ∧ r = m ++ m') ∧ Aside0 (Kd.R Kd.string 9 wr w.heap.size (fun _ => True) v5 m) ∧ Aside0 (Below w.heap.size w wr)) (fun _ v10 _ => l.length - (intOf v10).toNat)
 case atStart => exact ⟨0, [], rfl, Nat.zero_le _, ⟨rfl⟩, H0, ⟨Kd.R_nil _ _ _ _ _⟩, ⟨Below.refl _ _⟩⟩
 case round =>
  clear H0
  obtain ⟨j, m, rfl, hj, HM, HA, HO, HB⟩ := hrel
  by_cases hlt : j < l.length
  ·
   have p7 : (0 : Int) ≤ (j : Int) := by omega
   have q7 : (j : Int) < (l.length : Int) := by omega
   obtain ⟨m1, ha1, ha2⟩ := HA.out
   obtain ⟨b, m2, hb1, hb2, hb3⟩ := mapO_cons hlt ha1
   have HB1 := Aside0.mk hb1
   have HA2 : Aside0 (∃ m', mapO (fun x => book_Partition_Names_1.f (x.f0) (x.f1) (x.f2) (x.f3) (x.f4) (x.f5)) (l.drop (j + 1)) = some m' ∧ r = (m ++ [b]) ++ m') := ⟨⟨m2, hb2, by rw [ha2, hb3]; simp⟩⟩
   clear hb1 hb2 hb3 ha1 ha2 HA
   obtain ⟨ad7, e7, hx7_0, hx7_1, hx7_2, hx7_3, hx7_4, hx7_5⟩ := at_T62 HR0.out (j : Int) p7 q7
   cases e7
   replace hx7_0 := (HB.out.cell (World.block_lt_of_cell? w _ hx7_0)).trans hx7_0
   replace hx7_1 := (HB.out.cell (World.block_lt_of_cell? w _ hx7_1)).trans hx7_1
   replace hx7_2 := (HB.out.cell (World.block_lt_of_cell? w _ hx7_2)).trans hx7_2
   replace hx7_3 := (HB.out.cell (World.block_lt_of_cell? w _ hx7_3)).trans hx7_3
   replace hx7_4 := (HB.out.cell (World.block_lt_of_cell? w _ hx7_4)).trans hx7_4
   replace hx7_5 := (HB.out.cell (World.block_lt_of_cell? w _ hx7_5)).trans hx7_5
   have EX : Aside0 (rd_T62 l (j : Int) = l[j]) := ⟨by show l.getD _ _ = _; rw [Int.toNat_natCast, List.getD_eq_getElem?_getD, List.getElem?_eq_getElem hlt, Option.getD_some]⟩
   clear p7 q7
   generalize rd_T62 l (j : Int) = x at *
   have HC : Aside0 (book_Partition_Names_1.f (x.f0) (x.f1) (x.f2) (x.f3) (x.f4) (x.f5) = some b) := ⟨by rw [EX.out]; exact HB1.out⟩
   clear HB1 EX
   simp only [Int.toNat_natCast] at *
   have HB9 := Aside0.mk (below_alloc HB.out (.cells #[.string (x.f0), .int .i64 (x.f1), .int .i64 (x.f2), .bool (x.f3), .bool (x.f4), .bool (x.f5)] 62))
   have HO9 := Aside0.mk (Kd.R_alloc HO.out (.cells #[.string (x.f0), .int .i64 (x.f1), .int .i64 (x.f2), .bool (x.f3), .bool (x.f4), .bool (x.f5)] 62))
   go_wp2_with fail
   refine (book_Partition_Names_1.calls (x.f0) (x.f1) (x.f2) (x.f3) (x.f4) (x.f5) b _ HC.out).mono ?_
   rintro e w9 ⟨rfl, hb⟩
   have HB10 := Aside0.mk (below_step HB9.out hb)
   have HO10 := Aside0.mk (Kd.R_below HO9.out hb)
   clear hb HB HB9 HO HO9
   go_wp2_with (at_builtin; refine Kd.R_append Kd.string (w0 := w) w.heap.size rfl (.tmp 14) (.tmp 18) 36 9 (.string ⟨#[]⟩) 16 rfl Tryz.underlying36 info9 rfl (by decide) (by omega) _ m b [.string b] (fun _ => True) (fun _ => False) rfl rfl ?aP (fun _ hk => hk.elim) ?aF ?aO ?aB ?aS ?aL ?_; (case aP => exact rfl); (case aB => exact HB10.out); (case aF => exact (fun _ _ => trivial)); (case aO => exact HO10.out); (case aS => exact below_size HB10.out); (case aL => have := HL.out; have := HM.out; omega); intro v11 w11 ho11 hb11 hg hat; have HO11 := Aside0.mk ho11; have HB11 := Aside0.mk hb11; clear ho11 hb11 hg hat)
   go_roundw
   case rel => exact ⟨j + 1, m ++ [b], by go_num, by omega, ⟨by have := HM.out; simp; omega⟩, HA2, HO11, HB11⟩
   case measure => simp [intOf]; omega
  ·
   obtain rfl : j = l.length := by omega
   have hr : m = r := by
    obtain ⟨m1, ha1, ha2⟩ := HA.out
    rw [List.drop_length] at ha1
    simp [mapO] at ha1
    rw [ha2, ha1]; simp
   subst hr
   go_wp2
   go_ret
   exact ⟨_, rfl, HO.out, HB.out⟩

/-! ### book_Task_67__68: function 67 at book_Partition_Names_2 -/
def book_Task_67__68.f (l : List (S109)) : Option (List ByteArray) := if l.length < 8796093022208 then (mapO (fun x => book_Partition_Names_2.f (x.f0) (x.f1) (x.f2) (x.f3) (x.f4) (x.f5) (x.f6) (x.f7)) l) else none
set_option maxHeartbeats 4000000 in
set_option maxRecDepth 100000 in
theorem book_Task_67__68.calls (A0 : Option Addr) (c0 : Nat) (l : List (S109)) (r : List ByteArray) (w : World) (hr0 : Kd.C k109 w A0 l.length l) (hc0 : l.length ≤ c0) (h : book_Task_67__68.f l = some r) :
  Calls Tryz.prog 67 #[.slice A0 l.length c0, .func (.func 68) #[] #[]] w fun e w' => ∃ v0_ : Value, e = .returned (v0_) ∧ Kd.R Kd.string 9 w' w.heap.size (fun _ => True) v0_ r ∧ Below w.heap.size w w' := by
 unfold book_Task_67__68.f at h
 obtain ⟨hL, h2⟩ := if_some h
 clear h
 have HL := Aside0.mk hL
 have HR0 := Aside0.mk hr0
 have H0 : Aside0 (∃ m', mapO (fun x => book_Partition_Names_2.f (x.f0) (x.f1) (x.f2) (x.f3) (x.f4) (x.f5) (x.f6) (x.f7)) (l.drop 0) = some m' ∧ r = [] ++ m') := ⟨⟨r, by simpa using h2, rfl⟩⟩
 have hL2 : l.length ≤ 140737488351232 := by omega
 clear hr0 h2 hL
 go_enter Tryz.func67, Tryz.ntmps67
 go_wp2
 go_loopw [5, 10] (fun v5 v10 wr => ∃ (j : Nat) (m : List ByteArray), v10 = .int .i64 (j : Int) ∧ j ≤ l.length ∧ Aside0 (m.length = j) ∧ Aside0 (∃ m', mapO (fun x => book_Partition_Names_2.f (x.f0) (x.f1) (x.f2) (x.f3) (x.f4) (x.f5) (x.f6) (x.f7)) (l.drop j) = some m' ∧ r = m ++ m') ∧ Aside0 (Kd.R Kd.string 9 wr w.heap.size (fun _ => True) v5 m) ∧ Aside0 (Below w.heap.size w wr)) (fun _ v10 _ => l.length - (intOf v10).toNat)
 case atStart => exact ⟨0, [], rfl, Nat.zero_le _, ⟨rfl⟩, H0, ⟨Kd.R_nil _ _ _ _ _⟩, ⟨Below.refl _ _⟩⟩
 case round =>
  clear H0
  obtain ⟨j, m, rfl, hj, HM, HA, HO, HB⟩ := hrel
  by_cases hlt : j < l.length
  ·
   have p7 : (0 : Int) ≤ (j : Int) := by omega
   have q7 : (j : Int) < (l.length : Int) := by omega
   obtain ⟨m1, ha1, ha2⟩ := HA.out
   obtain ⟨b, m2, hb1, hb2, hb3⟩ := mapO_cons hlt ha1
   have HB1 := Aside0.mk hb1
   have HA2 : Aside0 (∃ m', mapO (fun x => book_Partition_Names_2.f (x.f0) (x.f1) (x.f2) (x.f3) (x.f4) (x.f5) (x.f6) (x.f7)) (l.drop (j + 1)) = some m' ∧ r = (m ++ [b]) ++ m') := ⟨⟨m2, hb2, by rw [ha2, hb3]; simp⟩⟩
   clear hb1 hb2 hb3 ha1 ha2 HA
   obtain ⟨ad7, e7, hx7_0, hx7_1, hx7_2, hx7_3, hx7_4, hx7_5, hx7_6, hx7_7⟩ := at_T109 HR0.out (j : Int) p7 q7
   cases e7
   replace hx7_0 := (HB.out.cell (World.block_lt_of_cell? w _ hx7_0)).trans hx7_0
   replace hx7_1 := (HB.out.cell (World.block_lt_of_cell? w _ hx7_1)).trans hx7_1
   replace hx7_2 := (HB.out.cell (World.block_lt_of_cell? w _ hx7_2)).trans hx7_2
   replace hx7_3 := (HB.out.cell (World.block_lt_of_cell? w _ hx7_3)).trans hx7_3
   replace hx7_4 := (HB.out.cell (World.block_lt_of_cell? w _ hx7_4)).trans hx7_4
   replace hx7_5 := (HB.out.cell (World.block_lt_of_cell? w _ hx7_5)).trans hx7_5
   replace hx7_6 := (HB.out.cell (World.block_lt_of_cell? w _ hx7_6)).trans hx7_6
   replace hx7_7 := (HB.out.cell (World.block_lt_of_cell? w _ hx7_7)).trans hx7_7
   have EX : Aside0 (rd_T109 l (j : Int) = l[j]) := ⟨by show l.getD _ _ = _; rw [Int.toNat_natCast, List.getD_eq_getElem?_getD, List.getElem?_eq_getElem hlt, Option.getD_some]⟩
   clear p7 q7
   generalize rd_T109 l (j : Int) = x at *
   have HC : Aside0 (book_Partition_Names_2.f (x.f0) (x.f1) (x.f2) (x.f3) (x.f4) (x.f5) (x.f6) (x.f7) = some b) := ⟨by rw [EX.out]; exact HB1.out⟩
   clear HB1 EX
   simp only [Int.toNat_natCast] at *
   have HB9 := Aside0.mk (below_alloc HB.out (.cells #[.string (x.f0), .int .i64 (x.f1), .int .i64 (x.f2), .int .i64 (x.f3), .int .i64 (x.f4), .int .i64 (x.f5), .int .i64 (x.f6), .int .i64 (x.f7)] 109))
   have HO9 := Aside0.mk (Kd.R_alloc HO.out (.cells #[.string (x.f0), .int .i64 (x.f1), .int .i64 (x.f2), .int .i64 (x.f3), .int .i64 (x.f4), .int .i64 (x.f5), .int .i64 (x.f6), .int .i64 (x.f7)] 109))
   go_wp2_with fail
   refine (book_Partition_Names_2.calls (x.f0) (x.f1) (x.f2) (x.f3) (x.f4) (x.f5) (x.f6) (x.f7) b _ HC.out).mono ?_
   rintro e w9 ⟨rfl, hb⟩
   have HB10 := Aside0.mk (below_step HB9.out hb)
   have HO10 := Aside0.mk (Kd.R_below HO9.out hb)
   clear hb HB HB9 HO HO9
   go_wp2_with (at_builtin; refine Kd.R_append Kd.string (w0 := w) w.heap.size rfl (.tmp 14) (.tmp 18) 36 9 (.string ⟨#[]⟩) 16 rfl Tryz.underlying36 info9 rfl (by decide) (by omega) _ m b [.string b] (fun _ => True) (fun _ => False) rfl rfl ?aP (fun _ hk => hk.elim) ?aF ?aO ?aB ?aS ?aL ?_; (case aP => exact rfl); (case aB => exact HB10.out); (case aF => exact (fun _ _ => trivial)); (case aO => exact HO10.out); (case aS => exact below_size HB10.out); (case aL => have := HL.out; have := HM.out; omega); intro v11 w11 ho11 hb11 hg hat; have HO11 := Aside0.mk ho11; have HB11 := Aside0.mk hb11; clear ho11 hb11 hg hat)
   go_roundw
   case rel => exact ⟨j + 1, m ++ [b], by go_num, by omega, ⟨by have := HM.out; simp; omega⟩, HA2, HO11, HB11⟩
   case measure => simp [intOf]; omega
  ·
   obtain rfl : j = l.length := by omega
   have hr : m = r := by
    obtain ⟨m1, ha1, ha2⟩ := HA.out
    rw [List.drop_length] at ha1
    simp [mapO] at ha1
    rw [ha2, ha1]; simp
   subst hr
   go_wp2
   go_ret
   exact ⟨_, rfl, HO.out, HB.out⟩

/-! ### book_Lock_69__70: function 69 at book_Partition_Names_3 -/
def book_Lock_69__70.f (l : List (S111)) : Option (List ByteArray) := if l.length < 8796093022208 then (mapO (fun x => book_Partition_Names_3.f (x.f0) (x.f1)) l) else none
set_option maxHeartbeats 4000000 in
set_option maxRecDepth 100000 in
theorem book_Lock_69__70.calls (A0 : Option Addr) (c0 : Nat) (l : List (S111)) (r : List ByteArray) (w : World) (hr0 : Kd.C k111 w A0 l.length l) (hc0 : l.length ≤ c0) (h : book_Lock_69__70.f l = some r) :
  Calls Tryz.prog 69 #[.slice A0 l.length c0, .func (.func 70) #[] #[]] w fun e w' => ∃ v0_ : Value, e = .returned (v0_) ∧ Kd.R Kd.string 9 w' w.heap.size (fun _ => True) v0_ r ∧ Below w.heap.size w w' := by
 unfold book_Lock_69__70.f at h
 obtain ⟨hL, h2⟩ := if_some h
 clear h
 have HL := Aside0.mk hL
 have HR0 := Aside0.mk hr0
 have H0 : Aside0 (∃ m', mapO (fun x => book_Partition_Names_3.f (x.f0) (x.f1)) (l.drop 0) = some m' ∧ r = [] ++ m') := ⟨⟨r, by simpa using h2, rfl⟩⟩
 have hL2 : l.length ≤ 140737488351232 := by omega
 clear hr0 h2 hL
 go_enter Tryz.func69, Tryz.ntmps69
 go_wp2
 go_loopw [5, 10] (fun v5 v10 wr => ∃ (j : Nat) (m : List ByteArray), v10 = .int .i64 (j : Int) ∧ j ≤ l.length ∧ Aside0 (m.length = j) ∧ Aside0 (∃ m', mapO (fun x => book_Partition_Names_3.f (x.f0) (x.f1)) (l.drop j) = some m' ∧ r = m ++ m') ∧ Aside0 (Kd.R Kd.string 9 wr w.heap.size (fun _ => True) v5 m) ∧ Aside0 (Below w.heap.size w wr)) (fun _ v10 _ => l.length - (intOf v10).toNat)
 case atStart => exact ⟨0, [], rfl, Nat.zero_le _, ⟨rfl⟩, H0, ⟨Kd.R_nil _ _ _ _ _⟩, ⟨Below.refl _ _⟩⟩
 case round =>
  clear H0
  obtain ⟨j, m, rfl, hj, HM, HA, HO, HB⟩ := hrel
  by_cases hlt : j < l.length
  ·
   have p7 : (0 : Int) ≤ (j : Int) := by omega
   have q7 : (j : Int) < (l.length : Int) := by omega
   obtain ⟨m1, ha1, ha2⟩ := HA.out
   obtain ⟨b, m2, hb1, hb2, hb3⟩ := mapO_cons hlt ha1
   have HB1 := Aside0.mk hb1
   have HA2 : Aside0 (∃ m', mapO (fun x => book_Partition_Names_3.f (x.f0) (x.f1)) (l.drop (j + 1)) = some m' ∧ r = (m ++ [b]) ++ m') := ⟨⟨m2, hb2, by rw [ha2, hb3]; simp⟩⟩
   clear hb1 hb2 hb3 ha1 ha2 HA
   obtain ⟨ad7, e7, hx7_0, hx7_1⟩ := at_T111 HR0.out (j : Int) p7 q7
   cases e7
   replace hx7_0 := (HB.out.cell (World.block_lt_of_cell? w _ hx7_0)).trans hx7_0
   replace hx7_1 := (HB.out.cell (World.block_lt_of_cell? w _ hx7_1)).trans hx7_1
   have EX : Aside0 (rd_T111 l (j : Int) = l[j]) := ⟨by show l.getD _ _ = _; rw [Int.toNat_natCast, List.getD_eq_getElem?_getD, List.getElem?_eq_getElem hlt, Option.getD_some]⟩
   clear p7 q7
   generalize rd_T111 l (j : Int) = x at *
   have HC : Aside0 (book_Partition_Names_3.f (x.f0) (x.f1) = some b) := ⟨by rw [EX.out]; exact HB1.out⟩
   clear HB1 EX
   simp only [Int.toNat_natCast] at *
   have HB9 := Aside0.mk (below_alloc HB.out (.cells #[.string (x.f0), .int .i64 (x.f1)] 111))
   have HO9 := Aside0.mk (Kd.R_alloc HO.out (.cells #[.string (x.f0), .int .i64 (x.f1)] 111))
   go_wp2_with fail
   refine (book_Partition_Names_3.calls (x.f0) (x.f1) b _ HC.out).mono ?_
   rintro e w9 ⟨rfl, hb⟩
   have HB10 := Aside0.mk (below_step HB9.out hb)
   have HO10 := Aside0.mk (Kd.R_below HO9.out hb)
   clear hb HB HB9 HO HO9
   go_wp2_with (at_builtin; refine Kd.R_append Kd.string (w0 := w) w.heap.size rfl (.tmp 14) (.tmp 18) 36 9 (.string ⟨#[]⟩) 16 rfl Tryz.underlying36 info9 rfl (by decide) (by omega) _ m b [.string b] (fun _ => True) (fun _ => False) rfl rfl ?aP (fun _ hk => hk.elim) ?aF ?aO ?aB ?aS ?aL ?_; (case aP => exact rfl); (case aB => exact HB10.out); (case aF => exact (fun _ _ => trivial)); (case aO => exact HO10.out); (case aS => exact below_size HB10.out); (case aL => have := HL.out; have := HM.out; omega); intro v11 w11 ho11 hb11 hg hat; have HO11 := Aside0.mk ho11; have HB11 := Aside0.mk hb11; clear ho11 hb11 hg hat)
   go_roundw
   case rel => exact ⟨j + 1, m ++ [b], by go_num, by omega, ⟨by have := HM.out; simp; omega⟩, HA2, HO11, HB11⟩
   case measure => simp [intOf]; omega
  ·
   obtain rfl : j = l.length := by omega
   have hr : m = r := by
    obtain ⟨m1, ha1, ha2⟩ := HA.out
    rw [List.drop_length] at ha1
    simp [mapO] at ha1
    rw [ha2, ha1]; simp
   subst hr
   go_wp2
   go_ret
   exact ⟨_, rfl, HO.out, HB.out⟩

/-! ### book_Sema_71__72: function 71 at book_Partition_Names_4 -/
def book_Sema_71__72.f (l : List (S113)) : Option (List ByteArray) := if l.length < 8796093022208 then (mapO (fun x => book_Partition_Names_4.f (x.f0) (x.f1) (x.f2) (x.f3)) l) else none
set_option maxHeartbeats 4000000 in
set_option maxRecDepth 100000 in
theorem book_Sema_71__72.calls (A0 : Option Addr) (c0 : Nat) (l : List (S113)) (r : List ByteArray) (w : World) (hr0 : Kd.C k113 w A0 l.length l) (hc0 : l.length ≤ c0) (h : book_Sema_71__72.f l = some r) :
  Calls Tryz.prog 71 #[.slice A0 l.length c0, .func (.func 72) #[] #[]] w fun e w' => ∃ v0_ : Value, e = .returned (v0_) ∧ Kd.R Kd.string 9 w' w.heap.size (fun _ => True) v0_ r ∧ Below w.heap.size w w' := by
 unfold book_Sema_71__72.f at h
 obtain ⟨hL, h2⟩ := if_some h
 clear h
 have HL := Aside0.mk hL
 have HR0 := Aside0.mk hr0
 have H0 : Aside0 (∃ m', mapO (fun x => book_Partition_Names_4.f (x.f0) (x.f1) (x.f2) (x.f3)) (l.drop 0) = some m' ∧ r = [] ++ m') := ⟨⟨r, by simpa using h2, rfl⟩⟩
 have hL2 : l.length ≤ 140737488351232 := by omega
 clear hr0 h2 hL
 go_enter Tryz.func71, Tryz.ntmps71
 go_wp2
 go_loopw [5, 10] (fun v5 v10 wr => ∃ (j : Nat) (m : List ByteArray), v10 = .int .i64 (j : Int) ∧ j ≤ l.length ∧ Aside0 (m.length = j) ∧ Aside0 (∃ m', mapO (fun x => book_Partition_Names_4.f (x.f0) (x.f1) (x.f2) (x.f3)) (l.drop j) = some m' ∧ r = m ++ m') ∧ Aside0 (Kd.R Kd.string 9 wr w.heap.size (fun _ => True) v5 m) ∧ Aside0 (Below w.heap.size w wr)) (fun _ v10 _ => l.length - (intOf v10).toNat)
 case atStart => exact ⟨0, [], rfl, Nat.zero_le _, ⟨rfl⟩, H0, ⟨Kd.R_nil _ _ _ _ _⟩, ⟨Below.refl _ _⟩⟩
 case round =>
  clear H0
  obtain ⟨j, m, rfl, hj, HM, HA, HO, HB⟩ := hrel
  by_cases hlt : j < l.length
  ·
   have p7 : (0 : Int) ≤ (j : Int) := by omega
   have q7 : (j : Int) < (l.length : Int) := by omega
   obtain ⟨m1, ha1, ha2⟩ := HA.out
   obtain ⟨b, m2, hb1, hb2, hb3⟩ := mapO_cons hlt ha1
   have HB1 := Aside0.mk hb1
   have HA2 : Aside0 (∃ m', mapO (fun x => book_Partition_Names_4.f (x.f0) (x.f1) (x.f2) (x.f3)) (l.drop (j + 1)) = some m' ∧ r = (m ++ [b]) ++ m') := ⟨⟨m2, hb2, by rw [ha2, hb3]; simp⟩⟩
   clear hb1 hb2 hb3 ha1 ha2 HA
   obtain ⟨ad7, e7, hx7_0, hx7_1, hx7_2, hx7_3⟩ := at_T113 HR0.out (j : Int) p7 q7
   cases e7
   replace hx7_0 := (HB.out.cell (World.block_lt_of_cell? w _ hx7_0)).trans hx7_0
   replace hx7_1 := (HB.out.cell (World.block_lt_of_cell? w _ hx7_1)).trans hx7_1
   replace hx7_2 := (HB.out.cell (World.block_lt_of_cell? w _ hx7_2)).trans hx7_2
   replace hx7_3 := (HB.out.cell (World.block_lt_of_cell? w _ hx7_3)).trans hx7_3
   have EX : Aside0 (rd_T113 l (j : Int) = l[j]) := ⟨by show l.getD _ _ = _; rw [Int.toNat_natCast, List.getD_eq_getElem?_getD, List.getElem?_eq_getElem hlt, Option.getD_some]⟩
   clear p7 q7
   generalize rd_T113 l (j : Int) = x at *
   have HC : Aside0 (book_Partition_Names_4.f (x.f0) (x.f1) (x.f2) (x.f3) = some b) := ⟨by rw [EX.out]; exact HB1.out⟩
   clear HB1 EX
   simp only [Int.toNat_natCast] at *
   have HB9 := Aside0.mk (below_alloc HB.out (.cells #[.string (x.f0), .int .i64 (x.f1), .int .i64 (x.f2), .bool (x.f3)] 113))
   have HO9 := Aside0.mk (Kd.R_alloc HO.out (.cells #[.string (x.f0), .int .i64 (x.f1), .int .i64 (x.f2), .bool (x.f3)] 113))
   go_wp2_with fail
   refine (book_Partition_Names_4.calls (x.f0) (x.f1) (x.f2) (x.f3) b _ HC.out).mono ?_
   rintro e w9 ⟨rfl, hb⟩
   have HB10 := Aside0.mk (below_step HB9.out hb)
   have HO10 := Aside0.mk (Kd.R_below HO9.out hb)
   clear hb HB HB9 HO HO9
   go_wp2_with (at_builtin; refine Kd.R_append Kd.string (w0 := w) w.heap.size rfl (.tmp 14) (.tmp 18) 36 9 (.string ⟨#[]⟩) 16 rfl Tryz.underlying36 info9 rfl (by decide) (by omega) _ m b [.string b] (fun _ => True) (fun _ => False) rfl rfl ?aP (fun _ hk => hk.elim) ?aF ?aO ?aB ?aS ?aL ?_; (case aP => exact rfl); (case aB => exact HB10.out); (case aF => exact (fun _ _ => trivial)); (case aO => exact HO10.out); (case aS => exact below_size HB10.out); (case aL => have := HL.out; have := HM.out; omega); intro v11 w11 ho11 hb11 hg hat; have HO11 := Aside0.mk ho11; have HB11 := Aside0.mk hb11; clear ho11 hb11 hg hat)
   go_roundw
   case rel => exact ⟨j + 1, m ++ [b], by go_num, by omega, ⟨by have := HM.out; simp; omega⟩, HA2, HO11, HB11⟩
   case measure => simp [intOf]; omega
  ·
   obtain rfl : j = l.length := by omega
   have hr : m = r := by
    obtain ⟨m1, ha1, ha2⟩ := HA.out
    rw [List.drop_length] at ha1
    simp [mapO] at ha1
    rw [ha2, ha1]; simp
   subst hr
   go_wp2
   go_ret
   exact ⟨_, rfl, HO.out, HB.out⟩

/-! ### book_Event_73__74: function 73 at book_Partition_Names_5 -/
def book_Event_73__74.f (l : List (S115)) : Option (List ByteArray) := if l.length < 8796093022208 then (mapO (fun x => book_Partition_Names_5.f (x.f0)) l) else none
set_option maxHeartbeats 4000000 in
set_option maxRecDepth 100000 in
theorem book_Event_73__74.calls (A0 : Option Addr) (c0 : Nat) (l : List (S115)) (r : List ByteArray) (w : World) (hr0 : Kd.C k115 w A0 l.length l) (hc0 : l.length ≤ c0) (h : book_Event_73__74.f l = some r) :
  Calls Tryz.prog 73 #[.slice A0 l.length c0, .func (.func 74) #[] #[]] w fun e w' => ∃ v0_ : Value, e = .returned (v0_) ∧ Kd.R Kd.string 9 w' w.heap.size (fun _ => True) v0_ r ∧ Below w.heap.size w w' := by
 unfold book_Event_73__74.f at h
 obtain ⟨hL, h2⟩ := if_some h
 clear h
 have HL := Aside0.mk hL
 have HR0 := Aside0.mk hr0
 have H0 : Aside0 (∃ m', mapO (fun x => book_Partition_Names_5.f (x.f0)) (l.drop 0) = some m' ∧ r = [] ++ m') := ⟨⟨r, by simpa using h2, rfl⟩⟩
 have hL2 : l.length ≤ 140737488351232 := by omega
 clear hr0 h2 hL
 go_enter Tryz.func73, Tryz.ntmps73
 go_wp2
 go_loopw [5, 10] (fun v5 v10 wr => ∃ (j : Nat) (m : List ByteArray), v10 = .int .i64 (j : Int) ∧ j ≤ l.length ∧ Aside0 (m.length = j) ∧ Aside0 (∃ m', mapO (fun x => book_Partition_Names_5.f (x.f0)) (l.drop j) = some m' ∧ r = m ++ m') ∧ Aside0 (Kd.R Kd.string 9 wr w.heap.size (fun _ => True) v5 m) ∧ Aside0 (Below w.heap.size w wr)) (fun _ v10 _ => l.length - (intOf v10).toNat)
 case atStart => exact ⟨0, [], rfl, Nat.zero_le _, ⟨rfl⟩, H0, ⟨Kd.R_nil _ _ _ _ _⟩, ⟨Below.refl _ _⟩⟩
 case round =>
  clear H0
  obtain ⟨j, m, rfl, hj, HM, HA, HO, HB⟩ := hrel
  by_cases hlt : j < l.length
  ·
   have p7 : (0 : Int) ≤ (j : Int) := by omega
   have q7 : (j : Int) < (l.length : Int) := by omega
   obtain ⟨m1, ha1, ha2⟩ := HA.out
   obtain ⟨b, m2, hb1, hb2, hb3⟩ := mapO_cons hlt ha1
   have HB1 := Aside0.mk hb1
   have HA2 : Aside0 (∃ m', mapO (fun x => book_Partition_Names_5.f (x.f0)) (l.drop (j + 1)) = some m' ∧ r = (m ++ [b]) ++ m') := ⟨⟨m2, hb2, by rw [ha2, hb3]; simp⟩⟩
   clear hb1 hb2 hb3 ha1 ha2 HA
   obtain ⟨ad7, e7, hx7_0⟩ := at_T115 HR0.out (j : Int) p7 q7
   cases e7
   replace hx7_0 := (HB.out.cell (World.block_lt_of_cell? w _ hx7_0)).trans hx7_0
   have EX : Aside0 (rd_T115 l (j : Int) = l[j]) := ⟨by show l.getD _ _ = _; rw [Int.toNat_natCast, List.getD_eq_getElem?_getD, List.getElem?_eq_getElem hlt, Option.getD_some]⟩
   clear p7 q7
   generalize rd_T115 l (j : Int) = x at *
   have HC : Aside0 (book_Partition_Names_5.f (x.f0) = some b) := ⟨by rw [EX.out]; exact HB1.out⟩
   clear HB1 EX
   simp only [Int.toNat_natCast] at *
   have HB9 := Aside0.mk (below_alloc HB.out (.cells #[.string (x.f0)] 115))
   have HO9 := Aside0.mk (Kd.R_alloc HO.out (.cells #[.string (x.f0)] 115))
   go_wp2_with fail
   refine (book_Partition_Names_5.calls (x.f0) b _ HC.out).mono ?_
   rintro e w9 ⟨rfl, hb⟩
   have HB10 := Aside0.mk (below_step HB9.out hb)
   have HO10 := Aside0.mk (Kd.R_below HO9.out hb)
   clear hb HB HB9 HO HO9
   go_wp2_with (at_builtin; refine Kd.R_append Kd.string (w0 := w) w.heap.size rfl (.tmp 14) (.tmp 18) 36 9 (.string ⟨#[]⟩) 16 rfl Tryz.underlying36 info9 rfl (by decide) (by omega) _ m b [.string b] (fun _ => True) (fun _ => False) rfl rfl ?aP (fun _ hk => hk.elim) ?aF ?aO ?aB ?aS ?aL ?_; (case aP => exact rfl); (case aB => exact HB10.out); (case aF => exact (fun _ _ => trivial)); (case aO => exact HO10.out); (case aS => exact below_size HB10.out); (case aL => have := HL.out; have := HM.out; omega); intro v11 w11 ho11 hb11 hg hat; have HO11 := Aside0.mk ho11; have HB11 := Aside0.mk hb11; clear ho11 hb11 hg hat)
   go_roundw
   case rel => exact ⟨j + 1, m ++ [b], by go_num, by omega, ⟨by have := HM.out; simp; omega⟩, HA2, HO11, HB11⟩
   case measure => simp [intOf]; omega
  ·
   obtain rfl : j = l.length := by omega
   have hr : m = r := by
    obtain ⟨m1, ha1, ha2⟩ := HA.out
    rw [List.drop_length] at ha1
    simp [mapO] at ha1
    rw [ha2, ha1]; simp
   subst hr
   go_wp2
   go_ret
   exact ⟨_, rfl, HO.out, HB.out⟩

/-! ### book_Board_75__76: function 75 at book_Partition_Names_6 -/
def book_Board_75__76.f (l : List (S117)) : Option (List ByteArray) := if l.length < 8796093022208 then (mapO (fun x => book_Partition_Names_6.f (x.f0) (x.f1)) l) else none
set_option maxHeartbeats 4000000 in
set_option maxRecDepth 100000 in
theorem book_Board_75__76.calls (A0 : Option Addr) (c0 : Nat) (l : List (S117)) (r : List ByteArray) (w : World) (hr0 : Kd.C k117 w A0 l.length l) (hc0 : l.length ≤ c0) (h : book_Board_75__76.f l = some r) :
  Calls Tryz.prog 75 #[.slice A0 l.length c0, .func (.func 76) #[] #[]] w fun e w' => ∃ v0_ : Value, e = .returned (v0_) ∧ Kd.R Kd.string 9 w' w.heap.size (fun _ => True) v0_ r ∧ Below w.heap.size w w' := by
 unfold book_Board_75__76.f at h
 obtain ⟨hL, h2⟩ := if_some h
 clear h
 have HL := Aside0.mk hL
 have HR0 := Aside0.mk hr0
 have H0 : Aside0 (∃ m', mapO (fun x => book_Partition_Names_6.f (x.f0) (x.f1)) (l.drop 0) = some m' ∧ r = [] ++ m') := ⟨⟨r, by simpa using h2, rfl⟩⟩
 have hL2 : l.length ≤ 140737488351232 := by omega
 clear hr0 h2 hL
 go_enter Tryz.func75, Tryz.ntmps75
 go_wp2
 go_loopw [5, 10] (fun v5 v10 wr => ∃ (j : Nat) (m : List ByteArray), v10 = .int .i64 (j : Int) ∧ j ≤ l.length ∧ Aside0 (m.length = j) ∧ Aside0 (∃ m', mapO (fun x => book_Partition_Names_6.f (x.f0) (x.f1)) (l.drop j) = some m' ∧ r = m ++ m') ∧ Aside0 (Kd.R Kd.string 9 wr w.heap.size (fun _ => True) v5 m) ∧ Aside0 (Below w.heap.size w wr)) (fun _ v10 _ => l.length - (intOf v10).toNat)
 case atStart => exact ⟨0, [], rfl, Nat.zero_le _, ⟨rfl⟩, H0, ⟨Kd.R_nil _ _ _ _ _⟩, ⟨Below.refl _ _⟩⟩
 case round =>
  clear H0
  obtain ⟨j, m, rfl, hj, HM, HA, HO, HB⟩ := hrel
  by_cases hlt : j < l.length
  ·
   have p7 : (0 : Int) ≤ (j : Int) := by omega
   have q7 : (j : Int) < (l.length : Int) := by omega
   obtain ⟨m1, ha1, ha2⟩ := HA.out
   obtain ⟨b, m2, hb1, hb2, hb3⟩ := mapO_cons hlt ha1
   have HB1 := Aside0.mk hb1
   have HA2 : Aside0 (∃ m', mapO (fun x => book_Partition_Names_6.f (x.f0) (x.f1)) (l.drop (j + 1)) = some m' ∧ r = (m ++ [b]) ++ m') := ⟨⟨m2, hb2, by rw [ha2, hb3]; simp⟩⟩
   clear hb1 hb2 hb3 ha1 ha2 HA
   obtain ⟨ad7, e7, hx7_0, hx7_1⟩ := at_T117 HR0.out (j : Int) p7 q7
   cases e7
   replace hx7_0 := (HB.out.cell (World.block_lt_of_cell? w _ hx7_0)).trans hx7_0
   replace hx7_1 := (HB.out.cell (World.block_lt_of_cell? w _ hx7_1)).trans hx7_1
   have EX : Aside0 (rd_T117 l (j : Int) = l[j]) := ⟨by show l.getD _ _ = _; rw [Int.toNat_natCast, List.getD_eq_getElem?_getD, List.getElem?_eq_getElem hlt, Option.getD_some]⟩
   clear p7 q7
   generalize rd_T117 l (j : Int) = x at *
   have HC : Aside0 (book_Partition_Names_6.f (x.f0) (x.f1) = some b) := ⟨by rw [EX.out]; exact HB1.out⟩
   clear HB1 EX
   simp only [Int.toNat_natCast] at *
   have HB9 := Aside0.mk (below_alloc HB.out (.cells #[.string (x.f0), .int .i64 (x.f1)] 117))
   have HO9 := Aside0.mk (Kd.R_alloc HO.out (.cells #[.string (x.f0), .int .i64 (x.f1)] 117))
   go_wp2_with fail
   refine (book_Partition_Names_6.calls (x.f0) (x.f1) b _ HC.out).mono ?_
   rintro e w9 ⟨rfl, hb⟩
   have HB10 := Aside0.mk (below_step HB9.out hb)
   have HO10 := Aside0.mk (Kd.R_below HO9.out hb)
   clear hb HB HB9 HO HO9
   go_wp2_with (at_builtin; refine Kd.R_append Kd.string (w0 := w) w.heap.size rfl (.tmp 14) (.tmp 18) 36 9 (.string ⟨#[]⟩) 16 rfl Tryz.underlying36 info9 rfl (by decide) (by omega) _ m b [.string b] (fun _ => True) (fun _ => False) rfl rfl ?aP (fun _ hk => hk.elim) ?aF ?aO ?aB ?aS ?aL ?_; (case aP => exact rfl); (case aB => exact HB10.out); (case aF => exact (fun _ _ => trivial)); (case aO => exact HO10.out); (case aS => exact below_size HB10.out); (case aL => have := HL.out; have := HM.out; omega); intro v11 w11 ho11 hb11 hg hat; have HO11 := Aside0.mk ho11; have HB11 := Aside0.mk hb11; clear ho11 hb11 hg hat)
   go_roundw
   case rel => exact ⟨j + 1, m ++ [b], by go_num, by omega, ⟨by have := HM.out; simp; omega⟩, HA2, HO11, HB11⟩
   case measure => simp [intOf]; omega
  ·
   obtain rfl : j = l.length := by omega
   have hr : m = r := by
    obtain ⟨m1, ha1, ha2⟩ := HA.out
    rw [List.drop_length] at ha1
    simp [mapO] at ha1
    rw [ha2, ha1]; simp
   subst hr
   go_wp2
   go_ret
   exact ⟨_, rfl, HO.out, HB.out⟩

/-! ### book_Buffer_77__78: function 77 at book_Partition_Names_7 -/
def book_Buffer_77__78.f (l : List (S119)) : Option (List ByteArray) := if l.length < 8796093022208 then (mapO (fun x => book_Partition_Names_7.f (x.f0) (x.f1) (x.f2) (x.f3)) l) else none
set_option maxHeartbeats 4000000 in
set_option maxRecDepth 100000 in
theorem book_Buffer_77__78.calls (A0 : Option Addr) (c0 : Nat) (l : List (S119)) (r : List ByteArray) (w : World) (hr0 : Kd.C k119 w A0 l.length l) (hc0 : l.length ≤ c0) (h : book_Buffer_77__78.f l = some r) :
  Calls Tryz.prog 77 #[.slice A0 l.length c0, .func (.func 78) #[] #[]] w fun e w' => ∃ v0_ : Value, e = .returned (v0_) ∧ Kd.R Kd.string 9 w' w.heap.size (fun _ => True) v0_ r ∧ Below w.heap.size w w' := by
 unfold book_Buffer_77__78.f at h
 obtain ⟨hL, h2⟩ := if_some h
 clear h
 have HL := Aside0.mk hL
 have HR0 := Aside0.mk hr0
 have H0 : Aside0 (∃ m', mapO (fun x => book_Partition_Names_7.f (x.f0) (x.f1) (x.f2) (x.f3)) (l.drop 0) = some m' ∧ r = [] ++ m') := ⟨⟨r, by simpa using h2, rfl⟩⟩
 have hL2 : l.length ≤ 140737488351232 := by omega
 clear hr0 h2 hL
 go_enter Tryz.func77, Tryz.ntmps77
 go_wp2
 go_loopw [5, 10] (fun v5 v10 wr => ∃ (j : Nat) (m : List ByteArray), v10 = .int .i64 (j : Int) ∧ j ≤ l.length ∧ Aside0 (m.length = j) ∧ Aside0 (∃ m', mapO (fun x => book_Partition_Names_7.f (x.f0) (x.f1) (x.f2) (x.f3)) (l.drop j) = some m' ∧ r = m ++ m') ∧ Aside0 (Kd.R Kd.string 9 wr w.heap.size (fun _ => True) v5 m) ∧ Aside0 (Below w.heap.size w wr)) (fun _ v10 _ => l.length - (intOf v10).toNat)
 case atStart => exact ⟨0, [], rfl, Nat.zero_le _, ⟨rfl⟩, H0, ⟨Kd.R_nil _ _ _ _ _⟩, ⟨Below.refl _ _⟩⟩
 case round =>
  clear H0
  obtain ⟨j, m, rfl, hj, HM, HA, HO, HB⟩ := hrel
  by_cases hlt : j < l.length
  ·
   have p7 : (0 : Int) ≤ (j : Int) := by omega
   have q7 : (j : Int) < (l.length : Int) := by omega
   obtain ⟨m1, ha1, ha2⟩ := HA.out
   obtain ⟨b, m2, hb1, hb2, hb3⟩ := mapO_cons hlt ha1
   have HB1 := Aside0.mk hb1
   have HA2 : Aside0 (∃ m', mapO (fun x => book_Partition_Names_7.f (x.f0) (x.f1) (x.f2) (x.f3)) (l.drop (j + 1)) = some m' ∧ r = (m ++ [b]) ++ m') := ⟨⟨m2, hb2, by rw [ha2, hb3]; simp⟩⟩
   clear hb1 hb2 hb3 ha1 ha2 HA
   obtain ⟨ad7, e7, hx7_0, hx7_1, hx7_2, hx7_3⟩ := at_T119 HR0.out (j : Int) p7 q7
   cases e7
   replace hx7_0 := (HB.out.cell (World.block_lt_of_cell? w _ hx7_0)).trans hx7_0
   replace hx7_1 := (HB.out.cell (World.block_lt_of_cell? w _ hx7_1)).trans hx7_1
   replace hx7_2 := (HB.out.cell (World.block_lt_of_cell? w _ hx7_2)).trans hx7_2
   replace hx7_3 := (HB.out.cell (World.block_lt_of_cell? w _ hx7_3)).trans hx7_3
   have EX : Aside0 (rd_T119 l (j : Int) = l[j]) := ⟨by show l.getD _ _ = _; rw [Int.toNat_natCast, List.getD_eq_getElem?_getD, List.getElem?_eq_getElem hlt, Option.getD_some]⟩
   clear p7 q7
   generalize rd_T119 l (j : Int) = x at *
   have HC : Aside0 (book_Partition_Names_7.f (x.f0) (x.f1) (x.f2) (x.f3) = some b) := ⟨by rw [EX.out]; exact HB1.out⟩
   clear HB1 EX
   simp only [Int.toNat_natCast] at *
   have HB9 := Aside0.mk (below_alloc HB.out (.cells #[.string (x.f0), .int .i64 (x.f1), .int .i64 (x.f2), .bool (x.f3)] 119))
   have HO9 := Aside0.mk (Kd.R_alloc HO.out (.cells #[.string (x.f0), .int .i64 (x.f1), .int .i64 (x.f2), .bool (x.f3)] 119))
   go_wp2_with fail
   refine (book_Partition_Names_7.calls (x.f0) (x.f1) (x.f2) (x.f3) b _ HC.out).mono ?_
   rintro e w9 ⟨rfl, hb⟩
   have HB10 := Aside0.mk (below_step HB9.out hb)
   have HO10 := Aside0.mk (Kd.R_below HO9.out hb)
   clear hb HB HB9 HO HO9
   go_wp2_with (at_builtin; refine Kd.R_append Kd.string (w0 := w) w.heap.size rfl (.tmp 14) (.tmp 18) 36 9 (.string ⟨#[]⟩) 16 rfl Tryz.underlying36 info9 rfl (by decide) (by omega) _ m b [.string b] (fun _ => True) (fun _ => False) rfl rfl ?aP (fun _ hk => hk.elim) ?aF ?aO ?aB ?aS ?aL ?_; (case aP => exact rfl); (case aB => exact HB10.out); (case aF => exact (fun _ _ => trivial)); (case aO => exact HO10.out); (case aS => exact below_size HB10.out); (case aL => have := HL.out; have := HM.out; omega); intro v11 w11 ho11 hb11 hg hat; have HO11 := Aside0.mk ho11; have HB11 := Aside0.mk hb11; clear ho11 hb11 hg hat)
   go_roundw
   case rel => exact ⟨j + 1, m ++ [b], by go_num, by omega, ⟨by have := HM.out; simp; omega⟩, HA2, HO11, HB11⟩
   case measure => simp [intOf]; omega
  ·
   obtain rfl : j = l.length := by omega
   have hr : m = r := by
    obtain ⟨m1, ha1, ha2⟩ := HA.out
    rw [List.drop_length] at ha1
    simp [mapO] at ha1
    rw [ha2, ha1]; simp
   subst hr
   go_wp2
   go_ret
   exact ⟨_, rfl, HO.out, HB.out⟩

/-! ### book_Port_79__80: function 79 at book_Partition_Names_8 -/
def book_Port_79__80.f (l : List (S60)) : Option (List ByteArray) := if l.length < 8796093022208 then (mapO (fun x => book_Partition_Names_8.f (x.f0) (x.f1) (x.f2) (x.f3) (x.f4) (x.f5)) l) else none
set_option maxHeartbeats 4000000 in
set_option maxRecDepth 100000 in
theorem book_Port_79__80.calls (A0 : Option Addr) (c0 : Nat) (l : List (S60)) (r : List ByteArray) (w : World) (hr0 : Kd.C k60 w A0 l.length l) (hc0 : l.length ≤ c0) (h : book_Port_79__80.f l = some r) :
  Calls Tryz.prog 79 #[.slice A0 l.length c0, .func (.func 80) #[] #[]] w fun e w' => ∃ v0_ : Value, e = .returned (v0_) ∧ Kd.R Kd.string 9 w' w.heap.size (fun _ => True) v0_ r ∧ Below w.heap.size w w' := by
 unfold book_Port_79__80.f at h
 obtain ⟨hL, h2⟩ := if_some h
 clear h
 have HL := Aside0.mk hL
 have HR0 := Aside0.mk hr0
 have H0 : Aside0 (∃ m', mapO (fun x => book_Partition_Names_8.f (x.f0) (x.f1) (x.f2) (x.f3) (x.f4) (x.f5)) (l.drop 0) = some m' ∧ r = [] ++ m') := ⟨⟨r, by simpa using h2, rfl⟩⟩
 have hL2 : l.length ≤ 140737488351232 := by omega
 clear hr0 h2 hL
 go_enter Tryz.func79, Tryz.ntmps79
 go_wp2
 go_loopw [5, 10] (fun v5 v10 wr => ∃ (j : Nat) (m : List ByteArray), v10 = .int .i64 (j : Int) ∧ j ≤ l.length ∧ Aside0 (m.length = j) ∧ Aside0 (∃ m', mapO (fun x => book_Partition_Names_8.f (x.f0) (x.f1) (x.f2) (x.f3) (x.f4) (x.f5)) (l.drop j) = some m' ∧ r = m ++ m') ∧ Aside0 (Kd.R Kd.string 9 wr w.heap.size (fun _ => True) v5 m) ∧ Aside0 (Below w.heap.size w wr)) (fun _ v10 _ => l.length - (intOf v10).toNat)
 case atStart => exact ⟨0, [], rfl, Nat.zero_le _, ⟨rfl⟩, H0, ⟨Kd.R_nil _ _ _ _ _⟩, ⟨Below.refl _ _⟩⟩
 case round =>
  clear H0
  obtain ⟨j, m, rfl, hj, HM, HA, HO, HB⟩ := hrel
  by_cases hlt : j < l.length
  ·
   have p7 : (0 : Int) ≤ (j : Int) := by omega
   have q7 : (j : Int) < (l.length : Int) := by omega
   obtain ⟨m1, ha1, ha2⟩ := HA.out
   obtain ⟨b, m2, hb1, hb2, hb3⟩ := mapO_cons hlt ha1
   have HB1 := Aside0.mk hb1
   have HA2 : Aside0 (∃ m', mapO (fun x => book_Partition_Names_8.f (x.f0) (x.f1) (x.f2) (x.f3) (x.f4) (x.f5)) (l.drop (j + 1)) = some m' ∧ r = (m ++ [b]) ++ m') := ⟨⟨m2, hb2, by rw [ha2, hb3]; simp⟩⟩
   clear hb1 hb2 hb3 ha1 ha2 HA
   obtain ⟨ad7, e7, hx7_0, hx7_1, hx7_2, hx7_3, hx7_4, hx7_5⟩ := at_T60 HR0.out (j : Int) p7 q7
   cases e7
   replace hx7_0 := (HB.out.cell (World.block_lt_of_cell? w _ hx7_0)).trans hx7_0
   replace hx7_1 := (HB.out.cell (World.block_lt_of_cell? w _ hx7_1)).trans hx7_1
   replace hx7_2 := (HB.out.cell (World.block_lt_of_cell? w _ hx7_2)).trans hx7_2
   replace hx7_3 := (HB.out.cell (World.block_lt_of_cell? w _ hx7_3)).trans hx7_3
   replace hx7_4 := (HB.out.cell (World.block_lt_of_cell? w _ hx7_4)).trans hx7_4
   replace hx7_5 := (HB.out.cell (World.block_lt_of_cell? w _ hx7_5)).trans hx7_5
   have EX : Aside0 (rd_T60 l (j : Int) = l[j]) := ⟨by show l.getD _ _ = _; rw [Int.toNat_natCast, List.getD_eq_getElem?_getD, List.getElem?_eq_getElem hlt, Option.getD_some]⟩
   clear p7 q7
   generalize rd_T60 l (j : Int) = x at *
   have HC : Aside0 (book_Partition_Names_8.f (x.f0) (x.f1) (x.f2) (x.f3) (x.f4) (x.f5) = some b) := ⟨by rw [EX.out]; exact HB1.out⟩
   clear HB1 EX
   simp only [Int.toNat_natCast] at *
   have HB9 := Aside0.mk (below_alloc HB.out (.cells #[.string (x.f0), .bool (x.f1), .bool (x.f2), .int .i64 (x.f3), .int .i64 (x.f4), .int .i64 (x.f5)] 60))
   have HO9 := Aside0.mk (Kd.R_alloc HO.out (.cells #[.string (x.f0), .bool (x.f1), .bool (x.f2), .int .i64 (x.f3), .int .i64 (x.f4), .int .i64 (x.f5)] 60))
   go_wp2_with fail
   refine (book_Partition_Names_8.calls (x.f0) (x.f1) (x.f2) (x.f3) (x.f4) (x.f5) b _ HC.out).mono ?_
   rintro e w9 ⟨rfl, hb⟩
   have HB10 := Aside0.mk (below_step HB9.out hb)
   have HO10 := Aside0.mk (Kd.R_below HO9.out hb)
   clear hb HB HB9 HO HO9
   go_wp2_with (at_builtin; refine Kd.R_append Kd.string (w0 := w) w.heap.size rfl (.tmp 14) (.tmp 18) 36 9 (.string ⟨#[]⟩) 16 rfl Tryz.underlying36 info9 rfl (by decide) (by omega) _ m b [.string b] (fun _ => True) (fun _ => False) rfl rfl ?aP (fun _ hk => hk.elim) ?aF ?aO ?aB ?aS ?aL ?_; (case aP => exact rfl); (case aB => exact HB10.out); (case aF => exact (fun _ _ => trivial)); (case aO => exact HO10.out); (case aS => exact below_size HB10.out); (case aL => have := HL.out; have := HM.out; omega); intro v11 w11 ho11 hb11 hg hat; have HO11 := Aside0.mk ho11; have HB11 := Aside0.mk hb11; clear ho11 hb11 hg hat)
   go_roundw
   case rel => exact ⟨j + 1, m ++ [b], by go_num, by omega, ⟨by have := HM.out; simp; omega⟩, HA2, HO11, HB11⟩
   case measure => simp [intOf]; omega
  ·
   obtain rfl : j = l.length := by omega
   have hr : m = r := by
    obtain ⟨m1, ha1, ha2⟩ := HA.out
    rw [List.drop_length] at ha1
    simp [mapO] at ha1
    rw [ha2, ha1]; simp
   subst hr
   go_wp2
   go_ret
   exact ⟨_, rfl, HO.out, HB.out⟩

/-! ### book_Partition_Names: function 26 -/
def book_Partition_Names.f (a0_0 : ByteArray) (l0_1 : List (S62)) (l0_2 : List (S109)) (l0_3 : List (S111)) (l0_4 : List (S113)) (l0_5 : List (S115)) (l0_6 : List (S117)) (l0_7 : List (S119)) (l0_8 : List (S60)) (l0_9 : List (S64)) (a0_10 : Int) (a0_11 : Int) (a0_12 : Int) (a1 : ByteArray) : Option (List ByteArray) := if a1.toList = ([97, 114, 101, 97] : List UInt8) then ((book_Area_65__66.f l0_1).bind fun t277 => (some t277)) else (if a1.toList = ([116, 97, 115, 107] : List UInt8) then ((book_Task_67__68.f l0_2).bind fun t280 => (some t280)) else (if a1.toList = ([108, 111, 99, 107] : List UInt8) then ((book_Lock_69__70.f l0_3).bind fun t283 => (some t283)) else (if a1.toList = ([115, 101, 109, 97] : List UInt8) then ((book_Sema_71__72.f l0_4).bind fun t286 => (some t286)) else (if a1.toList = ([101, 118, 101, 110, 116] : List UInt8) then ((book_Event_73__74.f l0_5).bind fun t289 => (some t289)) else (if a1.toList = ([98, 111, 97, 114, 100] : List UInt8) then ((book_Board_75__76.f l0_6).bind fun t292 => (some t292)) else (if a1.toList = ([98, 117, 102, 102, 101, 114] : List UInt8) then ((book_Buffer_77__78.f l0_7).bind fun t295 => (some t295)) else (if a1.toList = ([112, 111, 114, 116] : List UInt8) then ((book_Port_79__80.f l0_8).bind fun t298 => (some t298)) else (some ([] : List ByteArray)))))))))
set_option maxHeartbeats 8000000 in
set_option maxRecDepth 100000 in
theorem book_Partition_Names.calls (a0_0 : ByteArray) (A0_1 : Option Addr) (c0_1 : Nat) (l0_1 : List (S62)) (A0_2 : Option Addr) (c0_2 : Nat) (l0_2 : List (S109)) (A0_3 : Option Addr) (c0_3 : Nat) (l0_3 : List (S111)) (A0_4 : Option Addr) (c0_4 : Nat) (l0_4 : List (S113)) (A0_5 : Option Addr) (c0_5 : Nat) (l0_5 : List (S115)) (A0_6 : Option Addr) (c0_6 : Nat) (l0_6 : List (S117)) (A0_7 : Option Addr) (c0_7 : Nat) (l0_7 : List (S119)) (A0_8 : Option Addr) (c0_8 : Nat) (l0_8 : List (S60)) (A0_9 : Option Addr) (c0_9 : Nat) (l0_9 : List (S64)) (a0_10 : Int) (a0_11 : Int) (a0_12 : Int) (a1 : ByteArray) (r : List ByteArray) (w : World) (hr0_1 : Kd.C k62 w A0_1 l0_1.length l0_1) (hc0_1 : l0_1.length ≤ c0_1) (hr0_2 : Kd.C k109 w A0_2 l0_2.length l0_2) (hc0_2 : l0_2.length ≤ c0_2) (hr0_3 : Kd.C k111 w A0_3 l0_3.length l0_3) (hc0_3 : l0_3.length ≤ c0_3) (hr0_4 : Kd.C k113 w A0_4 l0_4.length l0_4) (hc0_4 : l0_4.length ≤ c0_4) (hr0_5 : Kd.C k115 w A0_5 l0_5.length l0_5) (hc0_5 : l0_5.length ≤ c0_5) (hr0_6 : Kd.C k117 w A0_6 l0_6.length l0_6) (hc0_6 : l0_6.length ≤ c0_6) (hr0_7 : Kd.C k119 w A0_7 l0_7.length l0_7) (hc0_7 : l0_7.length ≤ c0_7) (hr0_8 : Kd.C k60 w A0_8 l0_8.length l0_8) (hc0_8 : l0_8.length ≤ c0_8) (hr0_9 : Kd.C k64 w A0_9 l0_9.length l0_9) (hc0_9 : l0_9.length ≤ c0_9) (h : book_Partition_Names.f a0_0 l0_1 l0_2 l0_3 l0_4 l0_5 l0_6 l0_7 l0_8 l0_9 a0_10 a0_11 a0_12 a1 = some r) :
  Calls Tryz.prog 26 #[.agg #[.string a0_0, .slice A0_1 l0_1.length c0_1, .slice A0_2 l0_2.length c0_2, .slice A0_3 l0_3.length c0_3, .slice A0_4 l0_4.length c0_4, .slice A0_5 l0_5.length c0_5, .slice A0_6 l0_6.length c0_6, .slice A0_7 l0_7.length c0_7, .slice A0_8 l0_8.length c0_8, .slice A0_9 l0_9.length c0_9, .int .i64 a0_10, .int .i64 a0_11, .int .i64 a0_12], .string a1] w fun e w' => ∃ v0_ : Value, e = .returned (v0_) ∧ Kd.R Kd.string 9 w' w.heap.size (fun _ => True) v0_ r ∧ Below w.heap.size w w' := by
 have hu52 := Tryz.underlying52
 have HR0_1 := Aside0.mk hr0_1
 have HC0_1 := Aside0.mk hc0_1
 clear hr0_1 hc0_1
 have HR0_2 := Aside0.mk hr0_2
 have HC0_2 := Aside0.mk hc0_2
 clear hr0_2 hc0_2
 have HR0_3 := Aside0.mk hr0_3
 have HC0_3 := Aside0.mk hc0_3
 clear hr0_3 hc0_3
 have HR0_4 := Aside0.mk hr0_4
 have HC0_4 := Aside0.mk hc0_4
 clear hr0_4 hc0_4
 have HR0_5 := Aside0.mk hr0_5
 have HC0_5 := Aside0.mk hc0_5
 clear hr0_5 hc0_5
 have HR0_6 := Aside0.mk hr0_6
 have HC0_6 := Aside0.mk hc0_6
 clear hr0_6 hc0_6
 have HR0_7 := Aside0.mk hr0_7
 have HC0_7 := Aside0.mk hc0_7
 clear hr0_7 hc0_7
 have HR0_8 := Aside0.mk hr0_8
 have HC0_8 := Aside0.mk hc0_8
 clear hr0_8 hc0_8
 have HR0_9 := Aside0.mk hr0_9
 have HC0_9 := Aside0.mk hc0_9
 clear hr0_9 hc0_9
 have HB := Aside0.mk (Below.refl w.heap.size w)
 have H : (if a1.toList = ([97, 114, 101, 97] : List UInt8) then ((book_Area_65__66.f l0_1).bind fun t277 => (some t277)) else (if a1.toList = ([116, 97, 115, 107] : List UInt8) then ((book_Task_67__68.f l0_2).bind fun t280 => (some t280)) else (if a1.toList = ([108, 111, 99, 107] : List UInt8) then ((book_Lock_69__70.f l0_3).bind fun t283 => (some t283)) else (if a1.toList = ([115, 101, 109, 97] : List UInt8) then ((book_Sema_71__72.f l0_4).bind fun t286 => (some t286)) else (if a1.toList = ([101, 118, 101, 110, 116] : List UInt8) then ((book_Event_73__74.f l0_5).bind fun t289 => (some t289)) else (if a1.toList = ([98, 111, 97, 114, 100] : List UInt8) then ((book_Board_75__76.f l0_6).bind fun t292 => (some t292)) else (if a1.toList = ([98, 117, 102, 102, 101, 114] : List UInt8) then ((book_Buffer_77__78.f l0_7).bind fun t295 => (some t295)) else (if a1.toList = ([112, 111, 114, 116] : List UInt8) then ((book_Port_79__80.f l0_8).bind fun t298 => (some t298)) else (some ([] : List ByteArray)))))))))) = some r := h
 clear h
 by_cases c3 : a1.toList = ([97, 114, 101, 97] : List UInt8)
 ·
  rw [if_pos c3] at H
  have c3b0 : (a1.toList == ([97, 114, 101, 97] : List UInt8)) = true := beq_iff_eq.mpr c3
  have c3b1 : (a1.toList != ([97, 114, 101, 97] : List UInt8)) = false := bne_eq_false_iff_eq.mpr c3
  clear c3
  replace H := Option.bind_eq_some_iff.mp H
  obtain ⟨t277, A40, H⟩ := H
  replace H : (some t277) = some r := H
  have A4 := Aside0.mk A40
  clear A40
  obtain rfl := Option.some.inj H
  go_enter Tryz.func26, Tryz.ntmps26
  go_wp2_with (first | ((with_reducible refine gate_dst (N := 2) rfl ?_); refine box_event ?hg (N := 2) ?hd (cs := #[.string a0_0, .slice A0_1 l0_1.length c0_1, .slice A0_2 l0_2.length c0_2, .slice A0_3 l0_3.length c0_3, .slice A0_4 l0_4.length c0_4, .slice A0_5 l0_5.length c0_5, .slice A0_6 l0_6.length c0_6, .slice A0_7 l0_7.length c0_7, .slice A0_8 l0_8.length c0_8, .slice A0_9 l0_9.length c0_9, .int .i64 a0_10, .int .i64 a0_11, .int .i64 a0_12]) (t := 52) ?hr ?_; (case hd => rfl); (case hg => rfl); (case hr => first | (go_simp; done) | (go_simp; rfl)); intro gb276 hg w5 hbox hb; have n0_ := Aside0.mk (below_step (by repeat (first | (with_reducible first | exact HB.out | apply below_alloc | apply pw_below_drewN | apply below_drew1) | exact HB.out)) hb); have n1_ := Aside0.mk (hbox); have n2_ := Aside0.mk ((by rw [hg]; exact (below_size (by repeat (first | (with_reducible first | exact HB.out | apply below_alloc | apply pw_below_drewN | apply below_drew1) | exact HB.out))) : w.heap.size ≤ gb276)); have n3_ := Aside0.mk ((by rw [hg]; exact (below_size (by repeat (first | (with_reducible first | exact HB.out | apply below_alloc | apply pw_below_drewN | apply below_drew1) | exact HB.out))) : w.heap.size ≤ gb276)); clear HB; have HB := n0_; have BK276 := n1_; have GW276 := n2_; have GE276 := n3_; clear n0_ n1_ n2_ n3_; clear hb hbox hg; obtain ⟨hcz6_0, hcz6_1, hcz6_2, hcz6_3, hcz6_4, hcz6_5, hcz6_6, hcz6_7, hcz6_8, hcz6_9, hcz6_10, hcz6_11, hcz6_12, hfz6_0, hfz6_1, hfz6_2, hfz6_3, hfz6_4, hfz6_5, hfz6_6, hfz6_7, hfz6_8, hfz6_9, hfz6_10, hfz6_11, hfz6_12⟩ := blk13 BK276.out) | ((with_reducible refine gate_callee (f := 65) rfl ?_); refine goesL_ (some 10) rfl rfl Tryz.func65 (by kernel_rfl) rfl #[.slice A0_1 l0_1.length c0_1, .func (.func 66) #[] #[]] rfl (by (try simp only [List.map_toArray, List.map_cons, List.map_nil]); first | done | rfl | (simp only [List.length_drop, List.length_take]; rfl)) ?_; (with_reducible refine (book_Area_65__66.calls _ _ l0_1  t277 _ ?side1 ?side2 A4.out).mono ?_); (case side1 => repeat (first | exact (Kd.C_below HR0_1.out HB.out) | (with_reducible refine Kd.C_alloc ?_ _) | (with_reducible refine Kd.C_drewN ?_ _) | (with_reducible refine Kd.C_drew ?_))); (case side2 => exact HC0_1.out); rintro e w7 ⟨v278, rfl, ho0, hb⟩; refine ⟨_, rfl, ?_⟩; have n0_ := Aside0.mk (Kd.R_lower ho0 (below_size (by repeat (first | (with_reducible first | exact HB.out | apply below_alloc | apply pw_below_drewN | apply below_drew1 | refine below_set ?_ GE276.out) | exact HB.out)))); have n1_ := Aside0.mk (blk_below (g := gb276) (o := .cells #[.string a0_0, .slice A0_1 l0_1.length c0_1, .slice A0_2 l0_2.length c0_2, .slice A0_3 l0_3.length c0_3, .slice A0_4 l0_4.length c0_4, .slice A0_5 l0_5.length c0_5, .slice A0_6 l0_6.length c0_6, .slice A0_7 l0_7.length c0_7, .slice A0_8 l0_8.length c0_8, .slice A0_9 l0_9.length c0_9, .int .i64 a0_10, .int .i64 a0_11, .int .i64 a0_12] 52 (0, 0)) (by (with_reducible repeat (first | refine blk_drewN ?_ _ | refine blk_drew ?_ | refine blk_alloc ?_ _)); exact BK276.out) hb); have n2_ := Aside0.mk (below_step (by repeat (first | (with_reducible first | exact HB.out | apply below_alloc | apply pw_below_drewN | apply below_drew1 | refine below_set ?_ GE276.out) | exact HB.out)) hb); clear BK276; clear HB; have HO279 := n0_; have BK276 := n1_; have HB := n2_; clear n0_ n1_ n2_; (try clear hb); (try clear hb2); (try clear hk); (try clear hi); (try clear ho0)))
  go_ret
  exact ⟨_, by first | rfl | (simp [errW_none, errW_some] <;> rfl) | (simp [*, errW_none, errW_some] <;> rfl), by (with_reducible repeat (first | apply Kd.R_alloc | apply Kd.R_drewN | apply Kd.R_drew)); exact HO279.out, by repeat (first | (with_reducible first | exact HB.out | apply below_alloc | apply pw_below_drewN | apply below_drew1 | refine below_set ?_ GE276.out) | exact HB.out)⟩
 ·
  rw [if_neg c3] at H
  have c3b0 : (a1.toList == ([97, 114, 101, 97] : List UInt8)) = false := beq_eq_false_iff_ne.mpr c3
  have c3b1 : (a1.toList != ([97, 114, 101, 97] : List UInt8)) = true := bne_iff_ne.mpr c3
  by_cases c8 : a1.toList = ([116, 97, 115, 107] : List UInt8)
  ·
   rw [if_pos c8] at H
   have c8b0 : (a1.toList == ([116, 97, 115, 107] : List UInt8)) = true := beq_iff_eq.mpr c8
   have c8b1 : (a1.toList != ([116, 97, 115, 107] : List UInt8)) = false := bne_eq_false_iff_eq.mpr c8
   clear c8
   replace H := Option.bind_eq_some_iff.mp H
   obtain ⟨t280, A90, H⟩ := H
   replace H : (some t280) = some r := H
   have A9 := Aside0.mk A90
   clear A90
   obtain rfl := Option.some.inj H
   go_enter Tryz.func26, Tryz.ntmps26
   go_wp2_with (first | ((with_reducible refine gate_dst (N := 2) rfl ?_); refine box_event ?hg (N := 2) ?hd (cs := #[.string a0_0, .slice A0_1 l0_1.length c0_1, .slice A0_2 l0_2.length c0_2, .slice A0_3 l0_3.length c0_3, .slice A0_4 l0_4.length c0_4, .slice A0_5 l0_5.length c0_5, .slice A0_6 l0_6.length c0_6, .slice A0_7 l0_7.length c0_7, .slice A0_8 l0_8.length c0_8, .slice A0_9 l0_9.length c0_9, .int .i64 a0_10, .int .i64 a0_11, .int .i64 a0_12]) (t := 52) ?hr ?_; (case hd => rfl); (case hg => rfl); (case hr => first | (go_simp; done) | (go_simp; rfl)); intro gb276 hg w10 hbox hb; have n0_ := Aside0.mk (below_step (by repeat (first | (with_reducible first | exact HB.out | apply below_alloc | apply pw_below_drewN | apply below_drew1) | exact HB.out)) hb); have n1_ := Aside0.mk (hbox); have n2_ := Aside0.mk ((by rw [hg]; exact (below_size (by repeat (first | (with_reducible first | exact HB.out | apply below_alloc | apply pw_below_drewN | apply below_drew1) | exact HB.out))) : w.heap.size ≤ gb276)); have n3_ := Aside0.mk ((by rw [hg]; exact (below_size (by repeat (first | (with_reducible first | exact HB.out | apply below_alloc | apply pw_below_drewN | apply below_drew1) | exact HB.out))) : w.heap.size ≤ gb276)); clear HB; have HB := n0_; have BK276 := n1_; have GW276 := n2_; have GE276 := n3_; clear n0_ n1_ n2_ n3_; clear hb hbox hg; obtain ⟨hcz11_0, hcz11_1, hcz11_2, hcz11_3, hcz11_4, hcz11_5, hcz11_6, hcz11_7, hcz11_8, hcz11_9, hcz11_10, hcz11_11, hcz11_12, hfz11_0, hfz11_1, hfz11_2, hfz11_3, hfz11_4, hfz11_5, hfz11_6, hfz11_7, hfz11_8, hfz11_9, hfz11_10, hfz11_11, hfz11_12⟩ := blk13 BK276.out) | ((with_reducible refine gate_callee (f := 67) rfl ?_); refine goesL_ (some 15) rfl rfl Tryz.func67 (by kernel_rfl) rfl #[.slice A0_2 l0_2.length c0_2, .func (.func 68) #[] #[]] rfl (by (try simp only [List.map_toArray, List.map_cons, List.map_nil]); first | done | rfl | (simp only [List.length_drop, List.length_take]; rfl)) ?_; (with_reducible refine (book_Task_67__68.calls _ _ l0_2  t280 _ ?side1 ?side2 A9.out).mono ?_); (case side1 => repeat (first | exact (Kd.C_below HR0_2.out HB.out) | (with_reducible refine Kd.C_alloc ?_ _) | (with_reducible refine Kd.C_drewN ?_ _) | (with_reducible refine Kd.C_drew ?_))); (case side2 => exact HC0_2.out); rintro e w12 ⟨v281, rfl, ho0, hb⟩; refine ⟨_, rfl, ?_⟩; have n0_ := Aside0.mk (Kd.R_lower ho0 (below_size (by repeat (first | (with_reducible first | exact HB.out | apply below_alloc | apply pw_below_drewN | apply below_drew1 | refine below_set ?_ GE276.out) | exact HB.out)))); have n1_ := Aside0.mk (blk_below (g := gb276) (o := .cells #[.string a0_0, .slice A0_1 l0_1.length c0_1, .slice A0_2 l0_2.length c0_2, .slice A0_3 l0_3.length c0_3, .slice A0_4 l0_4.length c0_4, .slice A0_5 l0_5.length c0_5, .slice A0_6 l0_6.length c0_6, .slice A0_7 l0_7.length c0_7, .slice A0_8 l0_8.length c0_8, .slice A0_9 l0_9.length c0_9, .int .i64 a0_10, .int .i64 a0_11, .int .i64 a0_12] 52 (0, 0)) (by (with_reducible repeat (first | refine blk_drewN ?_ _ | refine blk_drew ?_ | refine blk_alloc ?_ _)); exact BK276.out) hb); have n2_ := Aside0.mk (below_step (by repeat (first | (with_reducible first | exact HB.out | apply below_alloc | apply pw_below_drewN | apply below_drew1 | refine below_set ?_ GE276.out) | exact HB.out)) hb); clear BK276; clear HB; have HO282 := n0_; have BK276 := n1_; have HB := n2_; clear n0_ n1_ n2_; (try clear hb); (try clear hb2); (try clear hk); (try clear hi); (try clear ho0)))
   go_ret
   exact ⟨_, by first | rfl | (simp [errW_none, errW_some] <;> rfl) | (simp [*, errW_none, errW_some] <;> rfl), by (with_reducible repeat (first | apply Kd.R_alloc | apply Kd.R_drewN | apply Kd.R_drew)); exact HO282.out, by repeat (first | (with_reducible first | exact HB.out | apply below_alloc | apply pw_below_drewN | apply below_drew1 | refine below_set ?_ GE276.out) | exact HB.out)⟩
  ·
   rw [if_neg c8] at H
   have c8b0 : (a1.toList == ([116, 97, 115, 107] : List UInt8)) = false := beq_eq_false_iff_ne.mpr c8
   have c8b1 : (a1.toList != ([116, 97, 115, 107] : List UInt8)) = true := bne_iff_ne.mpr c8
   by_cases c13 : a1.toList = ([108, 111, 99, 107] : List UInt8)
   ·
    rw [if_pos c13] at H
    have c13b0 : (a1.toList == ([108, 111, 99, 107] : List UInt8)) = true := beq_iff_eq.mpr c13
    have c13b1 : (a1.toList != ([108, 111, 99, 107] : List UInt8)) = false := bne_eq_false_iff_eq.mpr c13
    clear c13
    replace H := Option.bind_eq_some_iff.mp H
    obtain ⟨t283, A140, H⟩ := H
    replace H : (some t283) = some r := H
    have A14 := Aside0.mk A140
    clear A140
    obtain rfl := Option.some.inj H
    go_enter Tryz.func26, Tryz.ntmps26
    go_wp2_with (first | ((with_reducible refine gate_dst (N := 2) rfl ?_); refine box_event ?hg (N := 2) ?hd (cs := #[.string a0_0, .slice A0_1 l0_1.length c0_1, .slice A0_2 l0_2.length c0_2, .slice A0_3 l0_3.length c0_3, .slice A0_4 l0_4.length c0_4, .slice A0_5 l0_5.length c0_5, .slice A0_6 l0_6.length c0_6, .slice A0_7 l0_7.length c0_7, .slice A0_8 l0_8.length c0_8, .slice A0_9 l0_9.length c0_9, .int .i64 a0_10, .int .i64 a0_11, .int .i64 a0_12]) (t := 52) ?hr ?_; (case hd => rfl); (case hg => rfl); (case hr => first | (go_simp; done) | (go_simp; rfl)); intro gb276 hg w15 hbox hb; have n0_ := Aside0.mk (below_step (by repeat (first | (with_reducible first | exact HB.out | apply below_alloc | apply pw_below_drewN | apply below_drew1) | exact HB.out)) hb); have n1_ := Aside0.mk (hbox); have n2_ := Aside0.mk ((by rw [hg]; exact (below_size (by repeat (first | (with_reducible first | exact HB.out | apply below_alloc | apply pw_below_drewN | apply below_drew1) | exact HB.out))) : w.heap.size ≤ gb276)); have n3_ := Aside0.mk ((by rw [hg]; exact (below_size (by repeat (first | (with_reducible first | exact HB.out | apply below_alloc | apply pw_below_drewN | apply below_drew1) | exact HB.out))) : w.heap.size ≤ gb276)); clear HB; have HB := n0_; have BK276 := n1_; have GW276 := n2_; have GE276 := n3_; clear n0_ n1_ n2_ n3_; clear hb hbox hg; obtain ⟨hcz16_0, hcz16_1, hcz16_2, hcz16_3, hcz16_4, hcz16_5, hcz16_6, hcz16_7, hcz16_8, hcz16_9, hcz16_10, hcz16_11, hcz16_12, hfz16_0, hfz16_1, hfz16_2, hfz16_3, hfz16_4, hfz16_5, hfz16_6, hfz16_7, hfz16_8, hfz16_9, hfz16_10, hfz16_11, hfz16_12⟩ := blk13 BK276.out) | ((with_reducible refine gate_callee (f := 69) rfl ?_); refine goesL_ (some 20) rfl rfl Tryz.func69 (by kernel_rfl) rfl #[.slice A0_3 l0_3.length c0_3, .func (.func 70) #[] #[]] rfl (by (try simp only [List.map_toArray, List.map_cons, List.map_nil]); first | done | rfl | (simp only [List.length_drop, List.length_take]; rfl)) ?_; (with_reducible refine (book_Lock_69__70.calls _ _ l0_3  t283 _ ?side1 ?side2 A14.out).mono ?_); (case side1 => repeat (first | exact (Kd.C_below HR0_3.out HB.out) | (with_reducible refine Kd.C_alloc ?_ _) | (with_reducible refine Kd.C_drewN ?_ _) | (with_reducible refine Kd.C_drew ?_))); (case side2 => exact HC0_3.out); rintro e w17 ⟨v284, rfl, ho0, hb⟩; refine ⟨_, rfl, ?_⟩; have n0_ := Aside0.mk (Kd.R_lower ho0 (below_size (by repeat (first | (with_reducible first | exact HB.out | apply below_alloc | apply pw_below_drewN | apply below_drew1 | refine below_set ?_ GE276.out) | exact HB.out)))); have n1_ := Aside0.mk (blk_below (g := gb276) (o := .cells #[.string a0_0, .slice A0_1 l0_1.length c0_1, .slice A0_2 l0_2.length c0_2, .slice A0_3 l0_3.length c0_3, .slice A0_4 l0_4.length c0_4, .slice A0_5 l0_5.length c0_5, .slice A0_6 l0_6.length c0_6, .slice A0_7 l0_7.length c0_7, .slice A0_8 l0_8.length c0_8, .slice A0_9 l0_9.length c0_9, .int .i64 a0_10, .int .i64 a0_11, .int .i64 a0_12] 52 (0, 0)) (by (with_reducible repeat (first | refine blk_drewN ?_ _ | refine blk_drew ?_ | refine blk_alloc ?_ _)); exact BK276.out) hb); have n2_ := Aside0.mk (below_step (by repeat (first | (with_reducible first | exact HB.out | apply below_alloc | apply pw_below_drewN | apply below_drew1 | refine below_set ?_ GE276.out) | exact HB.out)) hb); clear BK276; clear HB; have HO285 := n0_; have BK276 := n1_; have HB := n2_; clear n0_ n1_ n2_; (try clear hb); (try clear hb2); (try clear hk); (try clear hi); (try clear ho0)))
    go_ret
    exact ⟨_, by first | rfl | (simp [errW_none, errW_some] <;> rfl) | (simp [*, errW_none, errW_some] <;> rfl), by (with_reducible repeat (first | apply Kd.R_alloc | apply Kd.R_drewN | apply Kd.R_drew)); exact HO285.out, by repeat (first | (with_reducible first | exact HB.out | apply below_alloc | apply pw_below_drewN | apply below_drew1 | refine below_set ?_ GE276.out) | exact HB.out)⟩
   ·
    rw [if_neg c13] at H
    have c13b0 : (a1.toList == ([108, 111, 99, 107] : List UInt8)) = false := beq_eq_false_iff_ne.mpr c13
    have c13b1 : (a1.toList != ([108, 111, 99, 107] : List UInt8)) = true := bne_iff_ne.mpr c13
    by_cases c18 : a1.toList = ([115, 101, 109, 97] : List UInt8)
    ·
     rw [if_pos c18] at H
     have c18b0 : (a1.toList == ([115, 101, 109, 97] : List UInt8)) = true := beq_iff_eq.mpr c18
     have c18b1 : (a1.toList != ([115, 101, 109, 97] : List UInt8)) = false := bne_eq_false_iff_eq.mpr c18
     clear c18
     replace H := Option.bind_eq_some_iff.mp H
     obtain ⟨t286, A190, H⟩ := H
     replace H : (some t286) = some r := H
     have A19 := Aside0.mk A190
     clear A190
     obtain rfl := Option.some.inj H
     go_enter Tryz.func26, Tryz.ntmps26
     go_wp2_with (first | ((with_reducible refine gate_dst (N := 2) rfl ?_); refine box_event ?hg (N := 2) ?hd (cs := #[.string a0_0, .slice A0_1 l0_1.length c0_1, .slice A0_2 l0_2.length c0_2, .slice A0_3 l0_3.length c0_3, .slice A0_4 l0_4.length c0_4, .slice A0_5 l0_5.length c0_5, .slice A0_6 l0_6.length c0_6, .slice A0_7 l0_7.length c0_7, .slice A0_8 l0_8.length c0_8, .slice A0_9 l0_9.length c0_9, .int .i64 a0_10, .int .i64 a0_11, .int .i64 a0_12]) (t := 52) ?hr ?_; (case hd => rfl); (case hg => rfl); (case hr => first | (go_simp; done) | (go_simp; rfl)); intro gb276 hg w20 hbox hb; have n0_ := Aside0.mk (below_step (by repeat (first | (with_reducible first | exact HB.out | apply below_alloc | apply pw_below_drewN | apply below_drew1) | exact HB.out)) hb); have n1_ := Aside0.mk (hbox); have n2_ := Aside0.mk ((by rw [hg]; exact (below_size (by repeat (first | (with_reducible first | exact HB.out | apply below_alloc | apply pw_below_drewN | apply below_drew1) | exact HB.out))) : w.heap.size ≤ gb276)); have n3_ := Aside0.mk ((by rw [hg]; exact (below_size (by repeat (first | (with_reducible first | exact HB.out | apply below_alloc | apply pw_below_drewN | apply below_drew1) | exact HB.out))) : w.heap.size ≤ gb276)); clear HB; have HB := n0_; have BK276 := n1_; have GW276 := n2_; have GE276 := n3_; clear n0_ n1_ n2_ n3_; clear hb hbox hg; obtain ⟨hcz21_0, hcz21_1, hcz21_2, hcz21_3, hcz21_4, hcz21_5, hcz21_6, hcz21_7, hcz21_8, hcz21_9, hcz21_10, hcz21_11, hcz21_12, hfz21_0, hfz21_1, hfz21_2, hfz21_3, hfz21_4, hfz21_5, hfz21_6, hfz21_7, hfz21_8, hfz21_9, hfz21_10, hfz21_11, hfz21_12⟩ := blk13 BK276.out) | ((with_reducible refine gate_callee (f := 71) rfl ?_); refine goesL_ (some 25) rfl rfl Tryz.func71 (by kernel_rfl) rfl #[.slice A0_4 l0_4.length c0_4, .func (.func 72) #[] #[]] rfl (by (try simp only [List.map_toArray, List.map_cons, List.map_nil]); first | done | rfl | (simp only [List.length_drop, List.length_take]; rfl)) ?_; (with_reducible refine (book_Sema_71__72.calls _ _ l0_4  t286 _ ?side1 ?side2 A19.out).mono ?_); (case side1 => repeat (first | exact (Kd.C_below HR0_4.out HB.out) | (with_reducible refine Kd.C_alloc ?_ _) | (with_reducible refine Kd.C_drewN ?_ _) | (with_reducible refine Kd.C_drew ?_))); (case side2 => exact HC0_4.out); rintro e w22 ⟨v287, rfl, ho0, hb⟩; refine ⟨_, rfl, ?_⟩; have n0_ := Aside0.mk (Kd.R_lower ho0 (below_size (by repeat (first | (with_reducible first | exact HB.out | apply below_alloc | apply pw_below_drewN | apply below_drew1 | refine below_set ?_ GE276.out) | exact HB.out)))); have n1_ := Aside0.mk (blk_below (g := gb276) (o := .cells #[.string a0_0, .slice A0_1 l0_1.length c0_1, .slice A0_2 l0_2.length c0_2, .slice A0_3 l0_3.length c0_3, .slice A0_4 l0_4.length c0_4, .slice A0_5 l0_5.length c0_5, .slice A0_6 l0_6.length c0_6, .slice A0_7 l0_7.length c0_7, .slice A0_8 l0_8.length c0_8, .slice A0_9 l0_9.length c0_9, .int .i64 a0_10, .int .i64 a0_11, .int .i64 a0_12] 52 (0, 0)) (by (with_reducible repeat (first | refine blk_drewN ?_ _ | refine blk_drew ?_ | refine blk_alloc ?_ _)); exact BK276.out) hb); have n2_ := Aside0.mk (below_step (by repeat (first | (with_reducible first | exact HB.out | apply below_alloc | apply pw_below_drewN | apply below_drew1 | refine below_set ?_ GE276.out) | exact HB.out)) hb); clear BK276; clear HB; have HO288 := n0_; have BK276 := n1_; have HB := n2_; clear n0_ n1_ n2_; (try clear hb); (try clear hb2); (try clear hk); (try clear hi); (try clear ho0)))
     go_ret
     exact ⟨_, by first | rfl | (simp [errW_none, errW_some] <;> rfl) | (simp [*, errW_none, errW_some] <;> rfl), by (with_reducible repeat (first | apply Kd.R_alloc | apply Kd.R_drewN | apply Kd.R_drew)); exact HO288.out, by repeat (first | (with_reducible first | exact HB.out | apply below_alloc | apply pw_below_drewN | apply below_drew1 | refine below_set ?_ GE276.out) | exact HB.out)⟩
    ·
     rw [if_neg c18] at H
     have c18b0 : (a1.toList == ([115, 101, 109, 97] : List UInt8)) = false := beq_eq_false_iff_ne.mpr c18
     have c18b1 : (a1.toList != ([115, 101, 109, 97] : List UInt8)) = true := bne_iff_ne.mpr c18
     by_cases c23 : a1.toList = ([101, 118, 101, 110, 116] : List UInt8)
     ·
      rw [if_pos c23] at H
      have c23b0 : (a1.toList == ([101, 118, 101, 110, 116] : List UInt8)) = true := beq_iff_eq.mpr c23
      have c23b1 : (a1.toList != ([101, 118, 101, 110, 116] : List UInt8)) = false := bne_eq_false_iff_eq.mpr c23
      clear c23
      replace H := Option.bind_eq_some_iff.mp H
      obtain ⟨t289, A240, H⟩ := H
      replace H : (some t289) = some r := H
      have A24 := Aside0.mk A240
      clear A240
      obtain rfl := Option.some.inj H
      go_enter Tryz.func26, Tryz.ntmps26
      go_wp2_with (first | ((with_reducible refine gate_dst (N := 2) rfl ?_); refine box_event ?hg (N := 2) ?hd (cs := #[.string a0_0, .slice A0_1 l0_1.length c0_1, .slice A0_2 l0_2.length c0_2, .slice A0_3 l0_3.length c0_3, .slice A0_4 l0_4.length c0_4, .slice A0_5 l0_5.length c0_5, .slice A0_6 l0_6.length c0_6, .slice A0_7 l0_7.length c0_7, .slice A0_8 l0_8.length c0_8, .slice A0_9 l0_9.length c0_9, .int .i64 a0_10, .int .i64 a0_11, .int .i64 a0_12]) (t := 52) ?hr ?_; (case hd => rfl); (case hg => rfl); (case hr => first | (go_simp; done) | (go_simp; rfl)); intro gb276 hg w25 hbox hb; have n0_ := Aside0.mk (below_step (by repeat (first | (with_reducible first | exact HB.out | apply below_alloc | apply pw_below_drewN | apply below_drew1) | exact HB.out)) hb); have n1_ := Aside0.mk (hbox); have n2_ := Aside0.mk ((by rw [hg]; exact (below_size (by repeat (first | (with_reducible first | exact HB.out | apply below_alloc | apply pw_below_drewN | apply below_drew1) | exact HB.out))) : w.heap.size ≤ gb276)); have n3_ := Aside0.mk ((by rw [hg]; exact (below_size (by repeat (first | (with_reducible first | exact HB.out | apply below_alloc | apply pw_below_drewN | apply below_drew1) | exact HB.out))) : w.heap.size ≤ gb276)); clear HB; have HB := n0_; have BK276 := n1_; have GW276 := n2_; have GE276 := n3_; clear n0_ n1_ n2_ n3_; clear hb hbox hg; obtain ⟨hcz26_0, hcz26_1, hcz26_2, hcz26_3, hcz26_4, hcz26_5, hcz26_6, hcz26_7, hcz26_8, hcz26_9, hcz26_10, hcz26_11, hcz26_12, hfz26_0, hfz26_1, hfz26_2, hfz26_3, hfz26_4, hfz26_5, hfz26_6, hfz26_7, hfz26_8, hfz26_9, hfz26_10, hfz26_11, hfz26_12⟩ := blk13 BK276.out) | ((with_reducible refine gate_callee (f := 73) rfl ?_); refine goesL_ (some 30) rfl rfl Tryz.func73 (by kernel_rfl) rfl #[.slice A0_5 l0_5.length c0_5, .func (.func 74) #[] #[]] rfl (by (try simp only [List.map_toArray, List.map_cons, List.map_nil]); first | done | rfl | (simp only [List.length_drop, List.length_take]; rfl)) ?_; (with_reducible refine (book_Event_73__74.calls _ _ l0_5  t289 _ ?side1 ?side2 A24.out).mono ?_); (case side1 => repeat (first | exact (Kd.C_below HR0_5.out HB.out) | (with_reducible refine Kd.C_alloc ?_ _) | (with_reducible refine Kd.C_drewN ?_ _) | (with_reducible refine Kd.C_drew ?_))); (case side2 => exact HC0_5.out); rintro e w27 ⟨v290, rfl, ho0, hb⟩; refine ⟨_, rfl, ?_⟩; have n0_ := Aside0.mk (Kd.R_lower ho0 (below_size (by repeat (first | (with_reducible first | exact HB.out | apply below_alloc | apply pw_below_drewN | apply below_drew1 | refine below_set ?_ GE276.out) | exact HB.out)))); have n1_ := Aside0.mk (blk_below (g := gb276) (o := .cells #[.string a0_0, .slice A0_1 l0_1.length c0_1, .slice A0_2 l0_2.length c0_2, .slice A0_3 l0_3.length c0_3, .slice A0_4 l0_4.length c0_4, .slice A0_5 l0_5.length c0_5, .slice A0_6 l0_6.length c0_6, .slice A0_7 l0_7.length c0_7, .slice A0_8 l0_8.length c0_8, .slice A0_9 l0_9.length c0_9, .int .i64 a0_10, .int .i64 a0_11, .int .i64 a0_12] 52 (0, 0)) (by (with_reducible repeat (first | refine blk_drewN ?_ _ | refine blk_drew ?_ | refine blk_alloc ?_ _)); exact BK276.out) hb); have n2_ := Aside0.mk (below_step (by repeat (first | (with_reducible first | exact HB.out | apply below_alloc | apply pw_below_drewN | apply below_drew1 | refine below_set ?_ GE276.out) | exact HB.out)) hb); clear BK276; clear HB; have HO291 := n0_; have BK276 := n1_; have HB := n2_; clear n0_ n1_ n2_; (try clear hb); (try clear hb2); (try clear hk); (try clear hi); (try clear ho0)))
      go_ret
      exact ⟨_, by first | rfl | (simp [errW_none, errW_some] <;> rfl) | (simp [*, errW_none, errW_some] <;> rfl), by (with_reducible repeat (first | apply Kd.R_alloc | apply Kd.R_drewN | apply Kd.R_drew)); exact HO291.out, by repeat (first | (with_reducible first | exact HB.out | apply below_alloc | apply pw_below_drewN | apply below_drew1 | refine below_set ?_ GE276.out) | exact HB.out)⟩
     ·
      rw [if_neg c23] at H
      have c23b0 : (a1.toList == ([101, 118, 101, 110, 116] : List UInt8)) = false := beq_eq_false_iff_ne.mpr c23
      have c23b1 : (a1.toList != ([101, 118, 101, 110, 116] : List UInt8)) = true := bne_iff_ne.mpr c23
      by_cases c28 : a1.toList = ([98, 111, 97, 114, 100] : List UInt8)
      ·
       rw [if_pos c28] at H
       have c28b0 : (a1.toList == ([98, 111, 97, 114, 100] : List UInt8)) = true := beq_iff_eq.mpr c28
       have c28b1 : (a1.toList != ([98, 111, 97, 114, 100] : List UInt8)) = false := bne_eq_false_iff_eq.mpr c28
       clear c28
       replace H := Option.bind_eq_some_iff.mp H
       obtain ⟨t292, A290, H⟩ := H
       replace H : (some t292) = some r := H
       have A29 := Aside0.mk A290
       clear A290
       obtain rfl := Option.some.inj H
       go_enter Tryz.func26, Tryz.ntmps26
       go_wp2_with (first | ((with_reducible refine gate_dst (N := 2) rfl ?_); refine box_event ?hg (N := 2) ?hd (cs := #[.string a0_0, .slice A0_1 l0_1.length c0_1, .slice A0_2 l0_2.length c0_2, .slice A0_3 l0_3.length c0_3, .slice A0_4 l0_4.length c0_4, .slice A0_5 l0_5.length c0_5, .slice A0_6 l0_6.length c0_6, .slice A0_7 l0_7.length c0_7, .slice A0_8 l0_8.length c0_8, .slice A0_9 l0_9.length c0_9, .int .i64 a0_10, .int .i64 a0_11, .int .i64 a0_12]) (t := 52) ?hr ?_; (case hd => rfl); (case hg => rfl); (case hr => first | (go_simp; done) | (go_simp; rfl)); intro gb276 hg w30 hbox hb; have n0_ := Aside0.mk (below_step (by repeat (first | (with_reducible first | exact HB.out | apply below_alloc | apply pw_below_drewN | apply below_drew1) | exact HB.out)) hb); have n1_ := Aside0.mk (hbox); have n2_ := Aside0.mk ((by rw [hg]; exact (below_size (by repeat (first | (with_reducible first | exact HB.out | apply below_alloc | apply pw_below_drewN | apply below_drew1) | exact HB.out))) : w.heap.size ≤ gb276)); have n3_ := Aside0.mk ((by rw [hg]; exact (below_size (by repeat (first | (with_reducible first | exact HB.out | apply below_alloc | apply pw_below_drewN | apply below_drew1) | exact HB.out))) : w.heap.size ≤ gb276)); clear HB; have HB := n0_; have BK276 := n1_; have GW276 := n2_; have GE276 := n3_; clear n0_ n1_ n2_ n3_; clear hb hbox hg; obtain ⟨hcz31_0, hcz31_1, hcz31_2, hcz31_3, hcz31_4, hcz31_5, hcz31_6, hcz31_7, hcz31_8, hcz31_9, hcz31_10, hcz31_11, hcz31_12, hfz31_0, hfz31_1, hfz31_2, hfz31_3, hfz31_4, hfz31_5, hfz31_6, hfz31_7, hfz31_8, hfz31_9, hfz31_10, hfz31_11, hfz31_12⟩ := blk13 BK276.out) | ((with_reducible refine gate_callee (f := 75) rfl ?_); refine goesL_ (some 35) rfl rfl Tryz.func75 (by kernel_rfl) rfl #[.slice A0_6 l0_6.length c0_6, .func (.func 76) #[] #[]] rfl (by (try simp only [List.map_toArray, List.map_cons, List.map_nil]); first | done | rfl | (simp only [List.length_drop, List.length_take]; rfl)) ?_; (with_reducible refine (book_Board_75__76.calls _ _ l0_6  t292 _ ?side1 ?side2 A29.out).mono ?_); (case side1 => repeat (first | exact (Kd.C_below HR0_6.out HB.out) | (with_reducible refine Kd.C_alloc ?_ _) | (with_reducible refine Kd.C_drewN ?_ _) | (with_reducible refine Kd.C_drew ?_))); (case side2 => exact HC0_6.out); rintro e w32 ⟨v293, rfl, ho0, hb⟩; refine ⟨_, rfl, ?_⟩; have n0_ := Aside0.mk (Kd.R_lower ho0 (below_size (by repeat (first | (with_reducible first | exact HB.out | apply below_alloc | apply pw_below_drewN | apply below_drew1 | refine below_set ?_ GE276.out) | exact HB.out)))); have n1_ := Aside0.mk (blk_below (g := gb276) (o := .cells #[.string a0_0, .slice A0_1 l0_1.length c0_1, .slice A0_2 l0_2.length c0_2, .slice A0_3 l0_3.length c0_3, .slice A0_4 l0_4.length c0_4, .slice A0_5 l0_5.length c0_5, .slice A0_6 l0_6.length c0_6, .slice A0_7 l0_7.length c0_7, .slice A0_8 l0_8.length c0_8, .slice A0_9 l0_9.length c0_9, .int .i64 a0_10, .int .i64 a0_11, .int .i64 a0_12] 52 (0, 0)) (by (with_reducible repeat (first | refine blk_drewN ?_ _ | refine blk_drew ?_ | refine blk_alloc ?_ _)); exact BK276.out) hb); have n2_ := Aside0.mk (below_step (by repeat (first | (with_reducible first | exact HB.out | apply below_alloc | apply pw_below_drewN | apply below_drew1 | refine below_set ?_ GE276.out) | exact HB.out)) hb); clear BK276; clear HB; have HO294 := n0_; have BK276 := n1_; have HB := n2_; clear n0_ n1_ n2_; (try clear hb); (try clear hb2); (try clear hk); (try clear hi); (try clear ho0)))
       go_ret
       exact ⟨_, by first | rfl | (simp [errW_none, errW_some] <;> rfl) | (simp [*, errW_none, errW_some] <;> rfl), by (with_reducible repeat (first | apply Kd.R_alloc | apply Kd.R_drewN | apply Kd.R_drew)); exact HO294.out, by repeat (first | (with_reducible first | exact HB.out | apply below_alloc | apply pw_below_drewN | apply below_drew1 | refine below_set ?_ GE276.out) | exact HB.out)⟩
      ·
       rw [if_neg c28] at H
       have c28b0 : (a1.toList == ([98, 111, 97, 114, 100] : List UInt8)) = false := beq_eq_false_iff_ne.mpr c28
       have c28b1 : (a1.toList != ([98, 111, 97, 114, 100] : List UInt8)) = true := bne_iff_ne.mpr c28
       by_cases c33 : a1.toList = ([98, 117, 102, 102, 101, 114] : List UInt8)
       ·
        rw [if_pos c33] at H
        have c33b0 : (a1.toList == ([98, 117, 102, 102, 101, 114] : List UInt8)) = true := beq_iff_eq.mpr c33
        have c33b1 : (a1.toList != ([98, 117, 102, 102, 101, 114] : List UInt8)) = false := bne_eq_false_iff_eq.mpr c33
        clear c33
        replace H := Option.bind_eq_some_iff.mp H
        obtain ⟨t295, A340, H⟩ := H
        replace H : (some t295) = some r := H
        have A34 := Aside0.mk A340
        clear A340
        obtain rfl := Option.some.inj H
        go_enter Tryz.func26, Tryz.ntmps26
        go_wp2_with (first | ((with_reducible refine gate_dst (N := 2) rfl ?_); refine box_event ?hg (N := 2) ?hd (cs := #[.string a0_0, .slice A0_1 l0_1.length c0_1, .slice A0_2 l0_2.length c0_2, .slice A0_3 l0_3.length c0_3, .slice A0_4 l0_4.length c0_4, .slice A0_5 l0_5.length c0_5, .slice A0_6 l0_6.length c0_6, .slice A0_7 l0_7.length c0_7, .slice A0_8 l0_8.length c0_8, .slice A0_9 l0_9.length c0_9, .int .i64 a0_10, .int .i64 a0_11, .int .i64 a0_12]) (t := 52) ?hr ?_; (case hd => rfl); (case hg => rfl); (case hr => first | (go_simp; done) | (go_simp; rfl)); intro gb276 hg w35 hbox hb; have n0_ := Aside0.mk (below_step (by repeat (first | (with_reducible first | exact HB.out | apply below_alloc | apply pw_below_drewN | apply below_drew1) | exact HB.out)) hb); have n1_ := Aside0.mk (hbox); have n2_ := Aside0.mk ((by rw [hg]; exact (below_size (by repeat (first | (with_reducible first | exact HB.out | apply below_alloc | apply pw_below_drewN | apply below_drew1) | exact HB.out))) : w.heap.size ≤ gb276)); have n3_ := Aside0.mk ((by rw [hg]; exact (below_size (by repeat (first | (with_reducible first | exact HB.out | apply below_alloc | apply pw_below_drewN | apply below_drew1) | exact HB.out))) : w.heap.size ≤ gb276)); clear HB; have HB := n0_; have BK276 := n1_; have GW276 := n2_; have GE276 := n3_; clear n0_ n1_ n2_ n3_; clear hb hbox hg; obtain ⟨hcz36_0, hcz36_1, hcz36_2, hcz36_3, hcz36_4, hcz36_5, hcz36_6, hcz36_7, hcz36_8, hcz36_9, hcz36_10, hcz36_11, hcz36_12, hfz36_0, hfz36_1, hfz36_2, hfz36_3, hfz36_4, hfz36_5, hfz36_6, hfz36_7, hfz36_8, hfz36_9, hfz36_10, hfz36_11, hfz36_12⟩ := blk13 BK276.out) | ((with_reducible refine gate_callee (f := 77) rfl ?_); refine goesL_ (some 40) rfl rfl Tryz.func77 (by kernel_rfl) rfl #[.slice A0_7 l0_7.length c0_7, .func (.func 78) #[] #[]] rfl (by (try simp only [List.map_toArray, List.map_cons, List.map_nil]); first | done | rfl | (simp only [List.length_drop, List.length_take]; rfl)) ?_; (with_reducible refine (book_Buffer_77__78.calls _ _ l0_7  t295 _ ?side1 ?side2 A34.out).mono ?_); (case side1 => repeat (first | exact (Kd.C_below HR0_7.out HB.out) | (with_reducible refine Kd.C_alloc ?_ _) | (with_reducible refine Kd.C_drewN ?_ _) | (with_reducible refine Kd.C_drew ?_))); (case side2 => exact HC0_7.out); rintro e w37 ⟨v296, rfl, ho0, hb⟩; refine ⟨_, rfl, ?_⟩; have n0_ := Aside0.mk (Kd.R_lower ho0 (below_size (by repeat (first | (with_reducible first | exact HB.out | apply below_alloc | apply pw_below_drewN | apply below_drew1 | refine below_set ?_ GE276.out) | exact HB.out)))); have n1_ := Aside0.mk (blk_below (g := gb276) (o := .cells #[.string a0_0, .slice A0_1 l0_1.length c0_1, .slice A0_2 l0_2.length c0_2, .slice A0_3 l0_3.length c0_3, .slice A0_4 l0_4.length c0_4, .slice A0_5 l0_5.length c0_5, .slice A0_6 l0_6.length c0_6, .slice A0_7 l0_7.length c0_7, .slice A0_8 l0_8.length c0_8, .slice A0_9 l0_9.length c0_9, .int .i64 a0_10, .int .i64 a0_11, .int .i64 a0_12] 52 (0, 0)) (by (with_reducible repeat (first | refine blk_drewN ?_ _ | refine blk_drew ?_ | refine blk_alloc ?_ _)); exact BK276.out) hb); have n2_ := Aside0.mk (below_step (by repeat (first | (with_reducible first | exact HB.out | apply below_alloc | apply pw_below_drewN | apply below_drew1 | refine below_set ?_ GE276.out) | exact HB.out)) hb); clear BK276; clear HB; have HO297 := n0_; have BK276 := n1_; have HB := n2_; clear n0_ n1_ n2_; (try clear hb); (try clear hb2); (try clear hk); (try clear hi); (try clear ho0)))
        go_ret
        exact ⟨_, by first | rfl | (simp [errW_none, errW_some] <;> rfl) | (simp [*, errW_none, errW_some] <;> rfl), by (with_reducible repeat (first | apply Kd.R_alloc | apply Kd.R_drewN | apply Kd.R_drew)); exact HO297.out, by repeat (first | (with_reducible first | exact HB.out | apply below_alloc | apply pw_below_drewN | apply below_drew1 | refine below_set ?_ GE276.out) | exact HB.out)⟩
       ·
        rw [if_neg c33] at H
        have c33b0 : (a1.toList == ([98, 117, 102, 102, 101, 114] : List UInt8)) = false := beq_eq_false_iff_ne.mpr c33
        have c33b1 : (a1.toList != ([98, 117, 102, 102, 101, 114] : List UInt8)) = true := bne_iff_ne.mpr c33
        by_cases c38 : a1.toList = ([112, 111, 114, 116] : List UInt8)
        ·
         rw [if_pos c38] at H
         have c38b0 : (a1.toList == ([112, 111, 114, 116] : List UInt8)) = true := beq_iff_eq.mpr c38
         have c38b1 : (a1.toList != ([112, 111, 114, 116] : List UInt8)) = false := bne_eq_false_iff_eq.mpr c38
         clear c38
         replace H := Option.bind_eq_some_iff.mp H
         obtain ⟨t298, A390, H⟩ := H
         replace H : (some t298) = some r := H
         have A39 := Aside0.mk A390
         clear A390
         obtain rfl := Option.some.inj H
         go_enter Tryz.func26, Tryz.ntmps26
         go_wp2_with (first | ((with_reducible refine gate_dst (N := 2) rfl ?_); refine box_event ?hg (N := 2) ?hd (cs := #[.string a0_0, .slice A0_1 l0_1.length c0_1, .slice A0_2 l0_2.length c0_2, .slice A0_3 l0_3.length c0_3, .slice A0_4 l0_4.length c0_4, .slice A0_5 l0_5.length c0_5, .slice A0_6 l0_6.length c0_6, .slice A0_7 l0_7.length c0_7, .slice A0_8 l0_8.length c0_8, .slice A0_9 l0_9.length c0_9, .int .i64 a0_10, .int .i64 a0_11, .int .i64 a0_12]) (t := 52) ?hr ?_; (case hd => rfl); (case hg => rfl); (case hr => first | (go_simp; done) | (go_simp; rfl)); intro gb276 hg w40 hbox hb; have n0_ := Aside0.mk (below_step (by repeat (first | (with_reducible first | exact HB.out | apply below_alloc | apply pw_below_drewN | apply below_drew1) | exact HB.out)) hb); have n1_ := Aside0.mk (hbox); have n2_ := Aside0.mk ((by rw [hg]; exact (below_size (by repeat (first | (with_reducible first | exact HB.out | apply below_alloc | apply pw_below_drewN | apply below_drew1) | exact HB.out))) : w.heap.size ≤ gb276)); have n3_ := Aside0.mk ((by rw [hg]; exact (below_size (by repeat (first | (with_reducible first | exact HB.out | apply below_alloc | apply pw_below_drewN | apply below_drew1) | exact HB.out))) : w.heap.size ≤ gb276)); clear HB; have HB := n0_; have BK276 := n1_; have GW276 := n2_; have GE276 := n3_; clear n0_ n1_ n2_ n3_; clear hb hbox hg; obtain ⟨hcz41_0, hcz41_1, hcz41_2, hcz41_3, hcz41_4, hcz41_5, hcz41_6, hcz41_7, hcz41_8, hcz41_9, hcz41_10, hcz41_11, hcz41_12, hfz41_0, hfz41_1, hfz41_2, hfz41_3, hfz41_4, hfz41_5, hfz41_6, hfz41_7, hfz41_8, hfz41_9, hfz41_10, hfz41_11, hfz41_12⟩ := blk13 BK276.out) | ((with_reducible refine gate_callee (f := 79) rfl ?_); refine goesL_ (some 45) rfl rfl Tryz.func79 (by kernel_rfl) rfl #[.slice A0_8 l0_8.length c0_8, .func (.func 80) #[] #[]] rfl (by (try simp only [List.map_toArray, List.map_cons, List.map_nil]); first | done | rfl | (simp only [List.length_drop, List.length_take]; rfl)) ?_; (with_reducible refine (book_Port_79__80.calls _ _ l0_8  t298 _ ?side1 ?side2 A39.out).mono ?_); (case side1 => repeat (first | exact (Kd.C_below HR0_8.out HB.out) | (with_reducible refine Kd.C_alloc ?_ _) | (with_reducible refine Kd.C_drewN ?_ _) | (with_reducible refine Kd.C_drew ?_))); (case side2 => exact HC0_8.out); rintro e w42 ⟨v299, rfl, ho0, hb⟩; refine ⟨_, rfl, ?_⟩; have n0_ := Aside0.mk (Kd.R_lower ho0 (below_size (by repeat (first | (with_reducible first | exact HB.out | apply below_alloc | apply pw_below_drewN | apply below_drew1 | refine below_set ?_ GE276.out) | exact HB.out)))); have n1_ := Aside0.mk (blk_below (g := gb276) (o := .cells #[.string a0_0, .slice A0_1 l0_1.length c0_1, .slice A0_2 l0_2.length c0_2, .slice A0_3 l0_3.length c0_3, .slice A0_4 l0_4.length c0_4, .slice A0_5 l0_5.length c0_5, .slice A0_6 l0_6.length c0_6, .slice A0_7 l0_7.length c0_7, .slice A0_8 l0_8.length c0_8, .slice A0_9 l0_9.length c0_9, .int .i64 a0_10, .int .i64 a0_11, .int .i64 a0_12] 52 (0, 0)) (by (with_reducible repeat (first | refine blk_drewN ?_ _ | refine blk_drew ?_ | refine blk_alloc ?_ _)); exact BK276.out) hb); have n2_ := Aside0.mk (below_step (by repeat (first | (with_reducible first | exact HB.out | apply below_alloc | apply pw_below_drewN | apply below_drew1 | refine below_set ?_ GE276.out) | exact HB.out)) hb); clear BK276; clear HB; have HO300 := n0_; have BK276 := n1_; have HB := n2_; clear n0_ n1_ n2_; (try clear hb); (try clear hb2); (try clear hk); (try clear hi); (try clear ho0)))
         go_ret
         exact ⟨_, by first | rfl | (simp [errW_none, errW_some] <;> rfl) | (simp [*, errW_none, errW_some] <;> rfl), by (with_reducible repeat (first | apply Kd.R_alloc | apply Kd.R_drewN | apply Kd.R_drew)); exact HO300.out, by repeat (first | (with_reducible first | exact HB.out | apply below_alloc | apply pw_below_drewN | apply below_drew1 | refine below_set ?_ GE276.out) | exact HB.out)⟩
        ·
         rw [if_neg c38] at H
         have c38b0 : (a1.toList == ([112, 111, 114, 116] : List UInt8)) = false := beq_eq_false_iff_ne.mpr c38
         have c38b1 : (a1.toList != ([112, 111, 114, 116] : List UInt8)) = true := bne_iff_ne.mpr c38
         obtain rfl := Option.some.inj H
         go_enter Tryz.func26, Tryz.ntmps26
         go_wp2_with (first | ((with_reducible refine gate_dst (N := 2) rfl ?_); refine box_event ?hg (N := 2) ?hd (cs := #[.string a0_0, .slice A0_1 l0_1.length c0_1, .slice A0_2 l0_2.length c0_2, .slice A0_3 l0_3.length c0_3, .slice A0_4 l0_4.length c0_4, .slice A0_5 l0_5.length c0_5, .slice A0_6 l0_6.length c0_6, .slice A0_7 l0_7.length c0_7, .slice A0_8 l0_8.length c0_8, .slice A0_9 l0_9.length c0_9, .int .i64 a0_10, .int .i64 a0_11, .int .i64 a0_12]) (t := 52) ?hr ?_; (case hd => rfl); (case hg => rfl); (case hr => first | (go_simp; done) | (go_simp; rfl)); intro gb276 hg w43 hbox hb; have n0_ := Aside0.mk (below_step (by repeat (first | (with_reducible first | exact HB.out | apply below_alloc | apply pw_below_drewN | apply below_drew1) | exact HB.out)) hb); have n1_ := Aside0.mk (hbox); have n2_ := Aside0.mk ((by rw [hg]; exact (below_size (by repeat (first | (with_reducible first | exact HB.out | apply below_alloc | apply pw_below_drewN | apply below_drew1) | exact HB.out))) : w.heap.size ≤ gb276)); have n3_ := Aside0.mk ((by rw [hg]; exact (below_size (by repeat (first | (with_reducible first | exact HB.out | apply below_alloc | apply pw_below_drewN | apply below_drew1) | exact HB.out))) : w.heap.size ≤ gb276)); clear HB; have HB := n0_; have BK276 := n1_; have GW276 := n2_; have GE276 := n3_; clear n0_ n1_ n2_ n3_; clear hb hbox hg))
         go_ret
         exact ⟨_, by first | rfl | (simp [errW_none, errW_some] <;> rfl) | (simp [*, errW_none, errW_some] <;> rfl), by first | exact Kd.R_nil _ _ _ _ _ | exact Kd.N_nil _ _ _ _ _ | exact Kd.V_nil _ _ _ _ _ | exact Kd.Q_nil _ _ _ _ _ | exact Kd.S_nil _ _ _ _ _, by repeat (first | (with_reducible first | exact HB.out | apply below_alloc | apply pw_below_drewN | apply below_drew1 | refine below_set ?_ GE276.out) | exact HB.out)⟩

/-! ### book_Partition_Find: function 27 -/
def book_Partition_Find.f (k : Nat) (a0_0 : ByteArray) (l0_1 : List (S62)) (l0_2 : List (S109)) (l0_3 : List (S111)) (l0_4 : List (S113)) (l0_5 : List (S115)) (l0_6 : List (S117)) (l0_7 : List (S119)) (l0_8 : List (S60)) (l0_9 : List (S64)) (a0_10 : Int) (a0_11 : Int) (a0_12 : Int) (a1 : ByteArray) (a2 : ByteArray) : Option (Int) := (book_Partition_Names.f a0_0 l0_1 l0_2 l0_3 l0_4 l0_5 l0_6 l0_7 l0_8 l0_9 a0_10 a0_11 a0_12 a1).bind fun t302 => ((slices_Index_string_string.f k t302 a2).bind fun t305 => (some t305))
theorem book_Partition_Find.mono : ∀ a0 a1 a2 a3 a4 a5 a6 a7 a8 a9 a10 a11 a12 a13 a14 k, LeO (book_Partition_Find.f k a0 a1 a2 a3 a4 a5 a6 a7 a8 a9 a10 a11 a12 a13 a14) (book_Partition_Find.f (k + 1) a0 a1 a2 a3 a4 a5 a6 a7 a8 a9 a10 a11 a12 a13 a14) := by
 intro a0 a1 a2 a3 a4 a5 a6 a7 a8 a9 a10 a11 a12 a13 a14 k
 unfold book_Partition_Find.f
 repeat' first
   | (with_reducible exact slices_Index_string_string.mono _ _ _)
   | (with_reducible exact LeO.refl _)
   | (with_reducible exact LeO.none _)
   | (with_reducible refine LeO.ite ?_ ?_)
   | (with_reducible refine LeO.bind ?_ (fun _ => ?_))
   | exact slices_Index_string_string.mono _ _ _
   | exact LeO.none _
   | refine LeO.ite ?_ ?_
   | refine LeO.bind ?_ (fun _ => ?_)
set_option maxHeartbeats 8000000 in
set_option maxRecDepth 100000 in
theorem book_Partition_Find.calls (k : Nat) (a0_0 : ByteArray) (A0_1 : Option Addr) (c0_1 : Nat) (l0_1 : List (S62)) (A0_2 : Option Addr) (c0_2 : Nat) (l0_2 : List (S109)) (A0_3 : Option Addr) (c0_3 : Nat) (l0_3 : List (S111)) (A0_4 : Option Addr) (c0_4 : Nat) (l0_4 : List (S113)) (A0_5 : Option Addr) (c0_5 : Nat) (l0_5 : List (S115)) (A0_6 : Option Addr) (c0_6 : Nat) (l0_6 : List (S117)) (A0_7 : Option Addr) (c0_7 : Nat) (l0_7 : List (S119)) (A0_8 : Option Addr) (c0_8 : Nat) (l0_8 : List (S60)) (A0_9 : Option Addr) (c0_9 : Nat) (l0_9 : List (S64)) (a0_10 : Int) (a0_11 : Int) (a0_12 : Int) (a1 : ByteArray) (a2 : ByteArray) (r : Int) (w : World) (hr0_1 : Kd.C k62 w A0_1 l0_1.length l0_1) (hc0_1 : l0_1.length ≤ c0_1) (hr0_2 : Kd.C k109 w A0_2 l0_2.length l0_2) (hc0_2 : l0_2.length ≤ c0_2) (hr0_3 : Kd.C k111 w A0_3 l0_3.length l0_3) (hc0_3 : l0_3.length ≤ c0_3) (hr0_4 : Kd.C k113 w A0_4 l0_4.length l0_4) (hc0_4 : l0_4.length ≤ c0_4) (hr0_5 : Kd.C k115 w A0_5 l0_5.length l0_5) (hc0_5 : l0_5.length ≤ c0_5) (hr0_6 : Kd.C k117 w A0_6 l0_6.length l0_6) (hc0_6 : l0_6.length ≤ c0_6) (hr0_7 : Kd.C k119 w A0_7 l0_7.length l0_7) (hc0_7 : l0_7.length ≤ c0_7) (hr0_8 : Kd.C k60 w A0_8 l0_8.length l0_8) (hc0_8 : l0_8.length ≤ c0_8) (hr0_9 : Kd.C k64 w A0_9 l0_9.length l0_9) (hc0_9 : l0_9.length ≤ c0_9) (h : book_Partition_Find.f k a0_0 l0_1 l0_2 l0_3 l0_4 l0_5 l0_6 l0_7 l0_8 l0_9 a0_10 a0_11 a0_12 a1 a2 = some r) :
  Calls Tryz.prog 27 #[.agg #[.string a0_0, .slice A0_1 l0_1.length c0_1, .slice A0_2 l0_2.length c0_2, .slice A0_3 l0_3.length c0_3, .slice A0_4 l0_4.length c0_4, .slice A0_5 l0_5.length c0_5, .slice A0_6 l0_6.length c0_6, .slice A0_7 l0_7.length c0_7, .slice A0_8 l0_8.length c0_8, .slice A0_9 l0_9.length c0_9, .int .i64 a0_10, .int .i64 a0_11, .int .i64 a0_12], .string a1, .string a2] w fun e w' => e = .returned (.int .i64 r) ∧ Below w.heap.size w w' := by
 have hu52 := Tryz.underlying52
 have HR0_1 := Aside0.mk hr0_1
 have HC0_1 := Aside0.mk hc0_1
 clear hr0_1 hc0_1
 have HR0_2 := Aside0.mk hr0_2
 have HC0_2 := Aside0.mk hc0_2
 clear hr0_2 hc0_2
 have HR0_3 := Aside0.mk hr0_3
 have HC0_3 := Aside0.mk hc0_3
 clear hr0_3 hc0_3
 have HR0_4 := Aside0.mk hr0_4
 have HC0_4 := Aside0.mk hc0_4
 clear hr0_4 hc0_4
 have HR0_5 := Aside0.mk hr0_5
 have HC0_5 := Aside0.mk hc0_5
 clear hr0_5 hc0_5
 have HR0_6 := Aside0.mk hr0_6
 have HC0_6 := Aside0.mk hc0_6
 clear hr0_6 hc0_6
 have HR0_7 := Aside0.mk hr0_7
 have HC0_7 := Aside0.mk hc0_7
 clear hr0_7 hc0_7
 have HR0_8 := Aside0.mk hr0_8
 have HC0_8 := Aside0.mk hc0_8
 clear hr0_8 hc0_8
 have HR0_9 := Aside0.mk hr0_9
 have HC0_9 := Aside0.mk hc0_9
 clear hr0_9 hc0_9
 have HB := Aside0.mk (Below.refl w.heap.size w)
 have H : ((book_Partition_Names.f a0_0 l0_1 l0_2 l0_3 l0_4 l0_5 l0_6 l0_7 l0_8 l0_9 a0_10 a0_11 a0_12 a1).bind fun t302 => ((slices_Index_string_string.f k t302 a2).bind fun t305 => (some t305))) = some r := h
 clear h
 replace H := Option.bind_eq_some_iff.mp H
 obtain ⟨t302, A40, H⟩ := H
 replace H : ((slices_Index_string_string.f k t302 a2).bind fun t305 => (some t305)) = some r := H
 have A4 := Aside0.mk A40
 clear A40
 replace H := Option.bind_eq_some_iff.mp H
 obtain ⟨t305, A50, H⟩ := H
 replace H : (some t305) = some r := H
 have A5 := Aside0.mk A50
 clear A50
 obtain rfl := Option.some.inj H
 go_enter Tryz.func27, Tryz.ntmps27
 go_wp2_with (first | ((with_reducible refine gate_dst (N := 3) rfl ?_); refine box_event ?hg (N := 3) ?hd (cs := #[.string a0_0, .slice A0_1 l0_1.length c0_1, .slice A0_2 l0_2.length c0_2, .slice A0_3 l0_3.length c0_3, .slice A0_4 l0_4.length c0_4, .slice A0_5 l0_5.length c0_5, .slice A0_6 l0_6.length c0_6, .slice A0_7 l0_7.length c0_7, .slice A0_8 l0_8.length c0_8, .slice A0_9 l0_9.length c0_9, .int .i64 a0_10, .int .i64 a0_11, .int .i64 a0_12]) (t := 52) ?hr ?_; (case hd => rfl); (case hg => rfl); (case hr => first | (go_simp; done) | (go_simp; rfl)); intro gb301 hg w6 hbox hb; have n0_ := Aside0.mk (below_step (by repeat (first | (with_reducible first | exact HB.out | apply below_alloc | apply pw_below_drewN | apply below_drew1) | exact HB.out)) hb); have n1_ := Aside0.mk (hbox); have n2_ := Aside0.mk ((by rw [hg]; exact (below_size (by repeat (first | (with_reducible first | exact HB.out | apply below_alloc | apply pw_below_drewN | apply below_drew1) | exact HB.out))) : w.heap.size ≤ gb301)); have n3_ := Aside0.mk ((by rw [hg]; exact (below_size (by repeat (first | (with_reducible first | exact HB.out | apply below_alloc | apply pw_below_drewN | apply below_drew1) | exact HB.out))) : w.heap.size ≤ gb301)); clear HB; have HB := n0_; have BK301 := n1_; have GW301 := n2_; have GE301 := n3_; clear n0_ n1_ n2_ n3_; clear hb hbox hg; obtain ⟨hcz7_0, hcz7_1, hcz7_2, hcz7_3, hcz7_4, hcz7_5, hcz7_6, hcz7_7, hcz7_8, hcz7_9, hcz7_10, hcz7_11, hcz7_12, hfz7_0, hfz7_1, hfz7_2, hfz7_3, hfz7_4, hfz7_5, hfz7_6, hfz7_7, hfz7_8, hfz7_9, hfz7_10, hfz7_11, hfz7_12⟩ := blk13 BK301.out) | ((with_reducible refine gate_callee (f := 26) rfl ?_); refine goesL_ (some 9) rfl rfl Tryz.func26 (by kernel_rfl) rfl #[.agg #[.string a0_0, .slice A0_1 l0_1.length c0_1, .slice A0_2 l0_2.length c0_2, .slice A0_3 l0_3.length c0_3, .slice A0_4 l0_4.length c0_4, .slice A0_5 l0_5.length c0_5, .slice A0_6 l0_6.length c0_6, .slice A0_7 l0_7.length c0_7, .slice A0_8 l0_8.length c0_8, .slice A0_9 l0_9.length c0_9, .int .i64 a0_10, .int .i64 a0_11, .int .i64 a0_12], .string a1] rfl (by (try simp only [List.map_toArray, List.map_cons, List.map_nil]); first | done | rfl | (simp only [List.length_drop, List.length_take]; rfl)) ?_; (with_reducible refine (book_Partition_Names.calls a0_0 _ _ l0_1 _ _ l0_2 _ _ l0_3 _ _ l0_4 _ _ l0_5 _ _ l0_6 _ _ l0_7 _ _ l0_8 _ _ l0_9 a0_10 a0_11 a0_12 a1 t302 _ ?side1 ?side2 ?side3 ?side4 ?side5 ?side6 ?side7 ?side8 ?side9 ?side10 ?side11 ?side12 ?side13 ?side14 ?side15 ?side16 ?side17 ?side18 A4.out).mono ?_); (case side1 => repeat (first | exact (Kd.C_below HR0_1.out HB.out) | (with_reducible refine Kd.C_alloc ?_ _) | (with_reducible refine Kd.C_drewN ?_ _) | (with_reducible refine Kd.C_drew ?_))); (case side2 => exact HC0_1.out); (case side3 => repeat (first | exact (Kd.C_below HR0_2.out HB.out) | (with_reducible refine Kd.C_alloc ?_ _) | (with_reducible refine Kd.C_drewN ?_ _) | (with_reducible refine Kd.C_drew ?_))); (case side4 => exact HC0_2.out); (case side5 => repeat (first | exact (Kd.C_below HR0_3.out HB.out) | (with_reducible refine Kd.C_alloc ?_ _) | (with_reducible refine Kd.C_drewN ?_ _) | (with_reducible refine Kd.C_drew ?_))); (case side6 => exact HC0_3.out); (case side7 => repeat (first | exact (Kd.C_below HR0_4.out HB.out) | (with_reducible refine Kd.C_alloc ?_ _) | (with_reducible refine Kd.C_drewN ?_ _) | (with_reducible refine Kd.C_drew ?_))); (case side8 => exact HC0_4.out); (case side9 => repeat (first | exact (Kd.C_below HR0_5.out HB.out) | (with_reducible refine Kd.C_alloc ?_ _) | (with_reducible refine Kd.C_drewN ?_ _) | (with_reducible refine Kd.C_drew ?_))); (case side10 => exact HC0_5.out); (case side11 => repeat (first | exact (Kd.C_below HR0_6.out HB.out) | (with_reducible refine Kd.C_alloc ?_ _) | (with_reducible refine Kd.C_drewN ?_ _) | (with_reducible refine Kd.C_drew ?_))); (case side12 => exact HC0_6.out); (case side13 => repeat (first | exact (Kd.C_below HR0_7.out HB.out) | (with_reducible refine Kd.C_alloc ?_ _) | (with_reducible refine Kd.C_drewN ?_ _) | (with_reducible refine Kd.C_drew ?_))); (case side14 => exact HC0_7.out); (case side15 => repeat (first | exact (Kd.C_below HR0_8.out HB.out) | (with_reducible refine Kd.C_alloc ?_ _) | (with_reducible refine Kd.C_drewN ?_ _) | (with_reducible refine Kd.C_drew ?_))); (case side16 => exact HC0_8.out); (case side17 => repeat (first | exact (Kd.C_below HR0_9.out HB.out) | (with_reducible refine Kd.C_alloc ?_ _) | (with_reducible refine Kd.C_drewN ?_ _) | (with_reducible refine Kd.C_drew ?_))); (case side18 => exact HC0_9.out); rintro e w8 ⟨v303, rfl, ho0, hb⟩; refine ⟨_, rfl, ?_⟩; have n0_ := Aside0.mk (Kd.R_lower ho0 (below_size (by repeat (first | (with_reducible first | exact HB.out | apply below_alloc | apply pw_below_drewN | apply below_drew1 | refine below_set ?_ GE301.out) | exact HB.out)))); have n1_ := Aside0.mk (blk_below (g := gb301) (o := .cells #[.string a0_0, .slice A0_1 l0_1.length c0_1, .slice A0_2 l0_2.length c0_2, .slice A0_3 l0_3.length c0_3, .slice A0_4 l0_4.length c0_4, .slice A0_5 l0_5.length c0_5, .slice A0_6 l0_6.length c0_6, .slice A0_7 l0_7.length c0_7, .slice A0_8 l0_8.length c0_8, .slice A0_9 l0_9.length c0_9, .int .i64 a0_10, .int .i64 a0_11, .int .i64 a0_12] 52 (0, 0)) (by (with_reducible repeat (first | refine blk_drewN ?_ _ | refine blk_drew ?_ | refine blk_alloc ?_ _)); exact BK301.out) hb); have n2_ := Aside0.mk (below_step (by repeat (first | (with_reducible first | exact HB.out | apply below_alloc | apply pw_below_drewN | apply below_drew1 | refine below_set ?_ GE301.out) | exact HB.out)) hb); clear BK301; clear HB; have HO304 := n0_; have BK301 := n1_; have HB := n2_; clear n0_ n1_ n2_; (try clear hb); (try clear hb2); (try clear hk); (try clear hi); (try clear ho0); obtain ⟨Ao9, co9, eo9⟩ := Kd.R_slice HO304.out; subst eo9) | ((with_reducible refine gate_callee (f := 64) rfl ?_); refine goesL_ (some 11) rfl rfl Tryz.func64 (by kernel_rfl) rfl #[.slice Ao9 t302.length co9, .string a2] rfl (by (try simp only [List.map_toArray, List.map_cons, List.map_nil]); first | done | rfl | (simp only [List.length_drop, List.length_take]; rfl)) ?_; (with_reducible refine (slices_Index_string_string.calls k _ _ t302 a2 t305 _ ?side1 ?side2 A5.out).mono ?_); (case side1 => repeat (first | exact (Kd.R_reads' HO304.out).2.2 | (with_reducible refine Kd.C_alloc ?_ _) | (with_reducible refine Kd.C_drewN ?_ _) | (with_reducible refine Kd.C_drew ?_))); (case side2 => exact (Kd.R_reads' HO304.out).2.1); rintro e w' ⟨rfl, ⟨nd, rfl⟩⟩; refine ⟨_, rfl, ?_⟩))
 go_ret
 exact ⟨by first | rfl | (simp [errW_none, errW_some] <;> rfl) | (simp [*, errW_none, errW_some] <;> rfl), by repeat (first | (with_reducible first | exact HB.out | apply below_alloc | apply pw_below_drewN | apply below_drew1 | refine below_set ?_ GE301.out) | exact HB.out)⟩

/-! ### monocoquelaw06_told: function 9 -/
def toldP : List S52 := [(⟨⟨#[112]⟩, [], [], [], [], [], [], [], [(⟨⟨#[113]⟩, false, false, 1, 0, 0⟩ : S60)], [], 0, ⟨0, 0⟩⟩ : S52)]
def monocoquelaw06_told.f : Option (Bool) := some true
theorem told1 : book_Name.f 60 ⟨#[97, 95, 49]⟩ = some true := by decide +kernel
theorem told2 : book_Name.f 60 ⟨#[49, 97]⟩ = some false := by decide +kernel
theorem told3 : book_Module_Right.f 60 ⟨#[109]⟩ toldP [] 0 [] [] [] = some true := by decide +kernel
theorem told4 : book_Module_Right.f 60 ⟨#[]⟩ [] [] 0 [] [] [] = some false := by decide +kernel
theorem told5 : book_Partition_Find.f 60 ⟨#[112]⟩ [] [] [] [] [] [] [] [(⟨⟨#[113]⟩, false, false, 1, 0, 0⟩ : S60)] [] 0 0 0 ⟨#[112, 111, 114, 116]⟩ ⟨#[113]⟩ = some 0 := by decide +kernel
theorem told6 : book_Module_Find.f 60 ⟨#[109]⟩ toldP [] 0 [] [] [] ⟨#[112, 97, 114, 116, 105, 116, 105, 111, 110]⟩ ⟨#[113]⟩ = some (-1) := by decide +kernel
theorem told7 : book_Module_Size.f 60 ⟨#[109]⟩ toldP [] 0 [] [] [] = some 2 := by decide +kernel
theorem told8 : book_Same.f 60 ⟨#[109]⟩ toldP [] 0 [] [] [] ⟨#[]⟩ [] [] 0 [] [] [] = some false := by decide +kernel
theorem C_one {α : Type} (d : Kd α) (w : World) (g : Nat) (x : α) (cs : Array Value) (t : TypeId) (hh : w.heap[g]? = some (.cells cs t (0, 0))) (hK : d.K w x cs.toList) (hsz : cs.toList.length = d.sz) : Kd.C d w (some ⟨g, 0, none⟩) 1 [x] := by
 refine ⟨rfl, by omega, fun _ => ⟨_, rfl, fun j p hj => ?_⟩⟩
 have hj0 : j = 0 := by
  have := (List.getElem?_eq_some_iff.1 hj).1
  simp at this
  exact this
 subst hj0
 have hp : x = p := by simpa using hj
 subst hp
 refine ⟨cs.toList, hsz, hK, fun i u hu => ?_⟩
 have e : (⟨g, 0, none⟩ : Addr).add (0 * d.sz + i) = ⟨g, i, none⟩ := by
  rw [Nat.zero_mul, Nat.zero_add]
  unfold Addr.add
  split <;> simp_all
 rw [e, blk_cell hh i]
 simpa using hu
set_option maxHeartbeats 8000000 in
set_option maxRecDepth 100000 in
theorem monocoquelaw06_told.calls (r : Bool) (w : World) (h : monocoquelaw06_told.f = some r) :
  Calls Tryz.prog 9 #[] w fun e w' => e = .returned (.bool r) ∧ Below w.heap.size w w' := by
 obtain rfl : true = r := Option.some.inj h
 clear h
 have b0 : Aside0 ((((w.alloc (.cells #[.string ⟨#[113]⟩, .bool false, .bool false, .int .i64 1, .int .i64 0, .int .i64 0] 60)).alloc (.cells #[.string ⟨#[112]⟩, .slice none 0 0, .slice none 0 0, .slice none 0 0, .slice none 0 0, .slice none 0 0, .slice none 0 0, .slice none 0 0, .slice (some ⟨w.heap.size, 0, none⟩) 1 1, .slice none 0 0, .int .i64 0, .int .i64 0, .int .i64 0] 52)).alloc (.cells #[.string ⟨#[109]⟩, .slice (some ⟨w.heap.size + 1, 0, none⟩) 1 1, .slice none 0 0, .int .i64 0, .slice none 0 0, .slice none 0 0, .slice none 0 0] 30)).heap[w.heap.size]? = some (.cells #[.string ⟨#[113]⟩, .bool false, .bool false, .int .i64 1, .int .i64 0, .int .i64 0] 60 (0, 0))) := ⟨blk_below (blk_below (pe_box0 w _ _) (alloc_below0 _ _)) (alloc_below0 _ _)⟩
 have BP : Aside0 ((((w.alloc (.cells #[.string ⟨#[113]⟩, .bool false, .bool false, .int .i64 1, .int .i64 0, .int .i64 0] 60)).alloc (.cells #[.string ⟨#[112]⟩, .slice none 0 0, .slice none 0 0, .slice none 0 0, .slice none 0 0, .slice none 0 0, .slice none 0 0, .slice none 0 0, .slice (some ⟨w.heap.size, 0, none⟩) 1 1, .slice none 0 0, .int .i64 0, .int .i64 0, .int .i64 0] 52)).alloc (.cells #[.string ⟨#[109]⟩, .slice (some ⟨w.heap.size + 1, 0, none⟩) 1 1, .slice none 0 0, .int .i64 0, .slice none 0 0, .slice none 0 0, .slice none 0 0] 30)).heap[w.heap.size + 1]? = some (.cells #[.string ⟨#[112]⟩, .slice none 0 0, .slice none 0 0, .slice none 0 0, .slice none 0 0, .slice none 0 0, .slice none 0 0, .slice none 0 0, .slice (some ⟨w.heap.size, 0, none⟩) 1 1, .slice none 0 0, .int .i64 0, .int .i64 0, .int .i64 0] 52 (0, 0))) := ⟨blk_below (pe_box1 w _ _ _) (alloc_below0 _ _)⟩
 have BK : Aside0 ((((w.alloc (.cells #[.string ⟨#[113]⟩, .bool false, .bool false, .int .i64 1, .int .i64 0, .int .i64 0] 60)).alloc (.cells #[.string ⟨#[112]⟩, .slice none 0 0, .slice none 0 0, .slice none 0 0, .slice none 0 0, .slice none 0 0, .slice none 0 0, .slice none 0 0, .slice (some ⟨w.heap.size, 0, none⟩) 1 1, .slice none 0 0, .int .i64 0, .int .i64 0, .int .i64 0] 52)).alloc (.cells #[.string ⟨#[109]⟩, .slice (some ⟨w.heap.size + 1, 0, none⟩) 1 1, .slice none 0 0, .int .i64 0, .slice none 0 0, .slice none 0 0, .slice none 0 0] 30)).heap[w.heap.size + 1 + 1]? = some (.cells #[.string ⟨#[109]⟩, .slice (some ⟨w.heap.size + 1, 0, none⟩) 1 1, .slice none 0 0, .int .i64 0, .slice none 0 0, .slice none 0 0, .slice none 0 0] 30 (0, 0))) := ⟨pe_box2 w _ _ _ _⟩
 have HB : Aside0 (Below w.heap.size w (((w.alloc (.cells #[.string ⟨#[113]⟩, .bool false, .bool false, .int .i64 1, .int .i64 0, .int .i64 0] 60)).alloc (.cells #[.string ⟨#[112]⟩, .slice none 0 0, .slice none 0 0, .slice none 0 0, .slice none 0 0, .slice none 0 0, .slice none 0 0, .slice none 0 0, .slice (some ⟨w.heap.size, 0, none⟩) 1 1, .slice none 0 0, .int .i64 0, .int .i64 0, .int .i64 0] 52)).alloc (.cells #[.string ⟨#[109]⟩, .slice (some ⟨w.heap.size + 1, 0, none⟩) 1 1, .slice none 0 0, .int .i64 0, .slice none 0 0, .slice none 0 0, .slice none 0 0] 30))) := ⟨below_alloc (below_alloc (alloc_below0 w _) _) _⟩
 have HQ : Aside0 (Kd.C k60 (((w.alloc (.cells #[.string ⟨#[113]⟩, .bool false, .bool false, .int .i64 1, .int .i64 0, .int .i64 0] 60)).alloc (.cells #[.string ⟨#[112]⟩, .slice none 0 0, .slice none 0 0, .slice none 0 0, .slice none 0 0, .slice none 0 0, .slice none 0 0, .slice none 0 0, .slice (some ⟨w.heap.size, 0, none⟩) 1 1, .slice none 0 0, .int .i64 0, .int .i64 0, .int .i64 0] 52)).alloc (.cells #[.string ⟨#[109]⟩, .slice (some ⟨w.heap.size + 1, 0, none⟩) 1 1, .slice none 0 0, .int .i64 0, .slice none 0 0, .slice none 0 0, .slice none 0 0] 30)) (some ⟨w.heap.size, 0, none⟩) 1 [(⟨⟨#[113]⟩, false, false, 1, 0, 0⟩ : S60)]) := ⟨C_one _ _ _ _ _ _ b0.out (k60_mk _ (⟨⟨#[113]⟩, false, false, 1, 0, 0⟩ : S60)) rfl⟩
 have HP : Aside0 (Kd.C k52 (((w.alloc (.cells #[.string ⟨#[113]⟩, .bool false, .bool false, .int .i64 1, .int .i64 0, .int .i64 0] 60)).alloc (.cells #[.string ⟨#[112]⟩, .slice none 0 0, .slice none 0 0, .slice none 0 0, .slice none 0 0, .slice none 0 0, .slice none 0 0, .slice none 0 0, .slice (some ⟨w.heap.size, 0, none⟩) 1 1, .slice none 0 0, .int .i64 0, .int .i64 0, .int .i64 0] 52)).alloc (.cells #[.string ⟨#[109]⟩, .slice (some ⟨w.heap.size + 1, 0, none⟩) 1 1, .slice none 0 0, .int .i64 0, .slice none 0 0, .slice none 0 0, .slice none 0 0] 30)) (some ⟨w.heap.size + 1, 0, none⟩) 1 toldP) := ⟨C_one _ _ _ _ _ _ BP.out (k52_mk _ (⟨⟨#[112]⟩, [], [], [], [], [], [], [], [(⟨⟨#[113]⟩, false, false, 1, 0, 0⟩ : S60)], [], 0, ⟨0, 0⟩⟩ : S52) (Nat.le_refl _) (Kd.C_nil _ _) (Nat.le_refl _) (Kd.C_nil _ _) (Nat.le_refl _) (Kd.C_nil _ _) (Nat.le_refl _) (Kd.C_nil _ _) (Nat.le_refl _) (Kd.C_nil _ _) (Nat.le_refl _) (Kd.C_nil _ _) (Nat.le_refl _) (Kd.C_nil _ _) (Nat.le_refl _) HQ.out (Nat.le_refl _) (Kd.C_nil _ _)) rfl⟩
 clear b0
 go_enter Tryz.func9, Tryz.ntmps9
 go_wp2_with fail
 (refine (book_Name.calls 60 ⟨#[97, 95, 49]⟩ true _  told1).mono ?_)
 rintro e w1 ⟨rfl, hd⟩
 have hb := hd.below
 clear hd
 replace HB := Aside0.mk (below_step HB.out hb)
 replace BK := Aside0.mk (blk_below BK.out hb)
 replace BP := Aside0.mk (blk_below BP.out hb)
 replace HP := Aside0.mk (Kd.C_below HP.out hb)
 replace HQ := Aside0.mk (Kd.C_below HQ.out hb)
 clear hb
 try clear z0 z1 z2 z3 z4 z5 z6 y0 y1 y2 y3 y4 y5 y6
 obtain ⟨z0, z1, z2, z3, z4, z5, z6, y0, y1, y2, y3, y4, y5, y6⟩ := blk7 BK.out
 go_wp2_with fail
 (refine (book_Name.calls 60 ⟨#[49, 97]⟩ false _  told2).mono ?_)
 rintro e w2 ⟨rfl, hd⟩
 have hb := hd.below
 clear hd
 replace HB := Aside0.mk (below_step HB.out hb)
 replace BK := Aside0.mk (blk_below BK.out hb)
 replace BP := Aside0.mk (blk_below BP.out hb)
 replace HP := Aside0.mk (Kd.C_below HP.out hb)
 replace HQ := Aside0.mk (Kd.C_below HQ.out hb)
 clear hb
 try clear z0 z1 z2 z3 z4 z5 z6 y0 y1 y2 y3 y4 y5 y6
 obtain ⟨z0, z1, z2, z3, z4, z5, z6, y0, y1, y2, y3, y4, y5, y6⟩ := blk7 BK.out
 go_wp2_with fail
 (refine (book_Module_Right.calls 60 ⟨#[109]⟩ _ _ toldP _ _ [] 0 _ _ [] _ _ [] _ _ [] true _ HP.out (Nat.le_refl _) (Kd.C_nil _ _) (Nat.le_refl _) (Kd.C_nil _ _) (Nat.le_refl _) (Kd.C_nil _ _) (Nat.le_refl _) (Kd.C_nil _ _) (Nat.le_refl _) told3).mono ?_)
 rintro e w3 ⟨rfl, hb⟩
 replace HB := Aside0.mk (below_step HB.out hb)
 replace BK := Aside0.mk (blk_below BK.out hb)
 replace BP := Aside0.mk (blk_below BP.out hb)
 replace HP := Aside0.mk (Kd.C_below HP.out hb)
 replace HQ := Aside0.mk (Kd.C_below HQ.out hb)
 clear hb
 try clear z0 z1 z2 z3 z4 z5 z6 y0 y1 y2 y3 y4 y5 y6
 obtain ⟨z0, z1, z2, z3, z4, z5, z6, y0, y1, y2, y3, y4, y5, y6⟩ := blk7 BK.out
 go_wp2_with fail
 (refine (book_Module_Right.calls 60 ⟨#[]⟩ _ _ [] _ _ [] 0 _ _ [] _ _ [] _ _ [] false _ (Kd.C_nil _ _) (Nat.le_refl _) (Kd.C_nil _ _) (Nat.le_refl _) (Kd.C_nil _ _) (Nat.le_refl _) (Kd.C_nil _ _) (Nat.le_refl _) (Kd.C_nil _ _) (Nat.le_refl _) told4).mono ?_)
 rintro e w4 ⟨rfl, hb⟩
 replace HB := Aside0.mk (below_step HB.out hb)
 replace BK := Aside0.mk (blk_below BK.out hb)
 replace BP := Aside0.mk (blk_below BP.out hb)
 replace HP := Aside0.mk (Kd.C_below HP.out hb)
 replace HQ := Aside0.mk (Kd.C_below HQ.out hb)
 clear hb
 try clear z0 z1 z2 z3 z4 z5 z6 y0 y1 y2 y3 y4 y5 y6
 obtain ⟨z0, z1, z2, z3, z4, z5, z6, y0, y1, y2, y3, y4, y5, y6⟩ := blk7 BK.out
 have xP : w4.cell? ⟨w.heap.size + 1, 0, none⟩ = some (.string ⟨#[112]⟩) := (blk_cell BP.out 0).trans rfl
 obtain ⟨p0, p1, p2, p3, p4, p5, p6, p7, p8, p9, p10, p11, p12, f0, f1, f2, f3, f4, f5, f6, f7, f8, f9, f10, f11, f12⟩ := blk13 BP.out
 go_wp2_with fail
 (refine (book_Partition_Find.calls 60 ⟨#[112]⟩ _ _ [] _ _ [] _ _ [] _ _ [] _ _ [] _ _ [] _ _ [] _ _ [(⟨⟨#[113]⟩, false, false, 1, 0, 0⟩ : S60)] _ _ [] 0 0 0 ⟨#[112, 111, 114, 116]⟩ ⟨#[113]⟩ 0 _ (Kd.C_nil _ _) (Nat.le_refl _) (Kd.C_nil _ _) (Nat.le_refl _) (Kd.C_nil _ _) (Nat.le_refl _) (Kd.C_nil _ _) (Nat.le_refl _) (Kd.C_nil _ _) (Nat.le_refl _) (Kd.C_nil _ _) (Nat.le_refl _) (Kd.C_nil _ _) (Nat.le_refl _) HQ.out (Nat.le_refl _) (Kd.C_nil _ _) (Nat.le_refl _) told5).mono ?_)
 rintro e w5 ⟨rfl, hb⟩
 replace HB := Aside0.mk (below_step HB.out hb)
 replace BK := Aside0.mk (blk_below BK.out hb)
 replace BP := Aside0.mk (blk_below BP.out hb)
 replace HP := Aside0.mk (Kd.C_below HP.out hb)
 replace HQ := Aside0.mk (Kd.C_below HQ.out hb)
 clear hb
 try clear z0 z1 z2 z3 z4 z5 z6 y0 y1 y2 y3 y4 y5 y6
 obtain ⟨z0, z1, z2, z3, z4, z5, z6, y0, y1, y2, y3, y4, y5, y6⟩ := blk7 BK.out
 try clear xP p0 p1 p2 p3 p4 p5 p6 p7 p8 p9 p10 p11 p12 f0 f1 f2 f3 f4 f5 f6 f7 f8 f9 f10 f11 f12
 go_wp2_with fail
 (refine (book_Module_Find.calls 60 ⟨#[109]⟩ _ _ toldP _ _ [] 0 _ _ [] _ _ [] _ _ [] ⟨#[112, 97, 114, 116, 105, 116, 105, 111, 110]⟩ ⟨#[113]⟩ (-1) _ HP.out (Nat.le_refl _) (Kd.C_nil _ _) (Nat.le_refl _) (Kd.C_nil _ _) (Nat.le_refl _) (Kd.C_nil _ _) (Nat.le_refl _) (Kd.C_nil _ _) (Nat.le_refl _) told6).mono ?_)
 rintro e w6 ⟨rfl, hb⟩
 replace HB := Aside0.mk (below_step HB.out hb)
 replace BK := Aside0.mk (blk_below BK.out hb)
 replace BP := Aside0.mk (blk_below BP.out hb)
 replace HP := Aside0.mk (Kd.C_below HP.out hb)
 replace HQ := Aside0.mk (Kd.C_below HQ.out hb)
 clear hb
 try clear z0 z1 z2 z3 z4 z5 z6 y0 y1 y2 y3 y4 y5 y6
 obtain ⟨z0, z1, z2, z3, z4, z5, z6, y0, y1, y2, y3, y4, y5, y6⟩ := blk7 BK.out
 go_wp2_with fail
 (refine (book_Module_Size.calls 60 ⟨#[109]⟩ _ _ toldP _ _ [] 0 _ _ [] _ _ [] _ _ [] 2 _ HP.out (Nat.le_refl _) (Kd.C_nil _ _) (Nat.le_refl _) (Kd.C_nil _ _) (Nat.le_refl _) (Kd.C_nil _ _) (Nat.le_refl _) (Kd.C_nil _ _) (Nat.le_refl _) told7).mono ?_)
 rintro e w7 ⟨rfl, hb⟩
 replace HB := Aside0.mk (below_step HB.out hb)
 replace BK := Aside0.mk (blk_below BK.out hb)
 replace BP := Aside0.mk (blk_below BP.out hb)
 replace HP := Aside0.mk (Kd.C_below HP.out hb)
 replace HQ := Aside0.mk (Kd.C_below HQ.out hb)
 clear hb
 try clear z0 z1 z2 z3 z4 z5 z6 y0 y1 y2 y3 y4 y5 y6
 obtain ⟨z0, z1, z2, z3, z4, z5, z6, y0, y1, y2, y3, y4, y5, y6⟩ := blk7 BK.out
 go_wp2_with fail
 (refine (book_Same.calls 60 ⟨#[109]⟩ _ _ toldP _ _ [] 0 _ _ [] _ _ [] _ _ [] ⟨#[]⟩ _ _ [] _ _ [] 0 _ _ [] _ _ [] _ _ [] false _ HP.out (Nat.le_refl _) (Kd.C_nil _ _) (Nat.le_refl _) (Kd.C_nil _ _) (Nat.le_refl _) (Kd.C_nil _ _) (Nat.le_refl _) (Kd.C_nil _ _) (Nat.le_refl _) (Kd.C_nil _ _) (Nat.le_refl _) (Kd.C_nil _ _) (Nat.le_refl _) (Kd.C_nil _ _) (Nat.le_refl _) (Kd.C_nil _ _) (Nat.le_refl _) (Kd.C_nil _ _) (Nat.le_refl _) told8).mono ?_)
 rintro e w8 ⟨rfl, hb⟩
 replace HB := Aside0.mk (below_step HB.out hb)
 replace BK := Aside0.mk (blk_below BK.out hb)
 replace BP := Aside0.mk (blk_below BP.out hb)
 replace HP := Aside0.mk (Kd.C_below HP.out hb)
 replace HQ := Aside0.mk (Kd.C_below HQ.out hb)
 clear hb
 try clear z0 z1 z2 z3 z4 z5 z6 y0 y1 y2 y3 y4 y5 y6
 obtain ⟨z0, z1, z2, z3, z4, z5, z6, y0, y1, y2, y3, y4, y5, y6⟩ := blk7 BK.out
 go_wp2
 go_ret
 exact ⟨rfl, HB.out⟩

/-! ### monocoqueref06_Name: function 11 -/
mutual
def monocoqueref06_Name.j0 : Nat → ByteArray → Bool → Option (Bool)
 | 0, _, _ => none
 | k + 1, x0, x22 => if x22 = true then (some false) else (monocoqueref06_Name.l0 k x0 0)
def monocoqueref06_Name.l0 : Nat → ByteArray → Int → Option (Bool)
 | 0, _, _ => none
 | k + 1, x0, x3 => if x3 < (x0.size : Int) then (if 0 ≤ x3 then (if (bt x0 x3) < 97 then (if (bt x0 x3) < 48 then (if (bt x0 x3) = 95 then (monocoqueref06_Name.l0 k x0 (wrap64 (x3 + 1))) else (some false)) else (if (bt x0 x3) > 57 then (if (bt x0 x3) = 95 then (monocoqueref06_Name.l0 k x0 (wrap64 (x3 + 1))) else (some false)) else (monocoqueref06_Name.l0 k x0 (wrap64 (x3 + 1))))) else (if (bt x0 x3) > 122 then (if (bt x0 x3) < 48 then (if (bt x0 x3) = 95 then (monocoqueref06_Name.l0 k x0 (wrap64 (x3 + 1))) else (some false)) else (if (bt x0 x3) > 57 then (if (bt x0 x3) = 95 then (monocoqueref06_Name.l0 k x0 (wrap64 (x3 + 1))) else (some false)) else (monocoqueref06_Name.l0 k x0 (wrap64 (x3 + 1))))) else (monocoqueref06_Name.l0 k x0 (wrap64 (x3 + 1))))) else (none)) else (some true)
end
def monocoqueref06_Name.f (k : Nat) (a0 : ByteArray) : Option (Bool) := if (a0.size : Int) < 1 then (monocoqueref06_Name.j0 k a0 true) else (if (a0.size : Int) > 30 then (monocoqueref06_Name.j0 k a0 true) else (if 0 < (a0.size : Int) then (if (bt a0 0) < 97 then (monocoqueref06_Name.j0 k a0 true) else (monocoqueref06_Name.j0 k a0 (decide ((bt a0 0) > 122)))) else (none)))
theorem monocoqueref06_Name.mono_l : ∀ k, (∀ y0 y1, LeO (monocoqueref06_Name.j0 k y0 y1) (monocoqueref06_Name.j0 (k + 1) y0 y1)) ∧ (∀ y0 y1, LeO (monocoqueref06_Name.l0 k y0 y1) (monocoqueref06_Name.l0 (k + 1) y0 y1))
 | 0 => ⟨fun _ _ r h => by simp [monocoqueref06_Name.j0] at h, fun _ _ r h => by simp [monocoqueref06_Name.l0] at h⟩
 | k + 1 => by
  obtain ⟨ih0, ih1⟩ := monocoqueref06_Name.mono_l k
  refine ⟨?_, ?_⟩
  ·
   intro y0 y1
   unfold monocoqueref06_Name.j0
   repeat' first
   | (with_reducible exact ih0 _ _)
   | (with_reducible exact ih1 _ _)
   | (with_reducible exact LeO.refl _)
   | (with_reducible exact LeO.none _)
   | (with_reducible refine LeO.ite ?_ ?_)
   | (with_reducible refine LeO.bind ?_ (fun _ => ?_))
   | exact ih0 _ _
   | exact ih1 _ _
   | exact LeO.none _
   | refine LeO.ite ?_ ?_
   | refine LeO.bind ?_ (fun _ => ?_)
  ·
   intro y0 y1
   unfold monocoqueref06_Name.l0
   repeat' first
   | (with_reducible exact ih0 _ _)
   | (with_reducible exact ih1 _ _)
   | (with_reducible exact LeO.refl _)
   | (with_reducible exact LeO.none _)
   | (with_reducible refine LeO.ite ?_ ?_)
   | (with_reducible refine LeO.bind ?_ (fun _ => ?_))
   | exact ih0 _ _
   | exact ih1 _ _
   | exact LeO.none _
   | refine LeO.ite ?_ ?_
   | refine LeO.bind ?_ (fun _ => ?_)
theorem monocoqueref06_Name.mono : ∀ a0 k, LeO (monocoqueref06_Name.f k a0) (monocoqueref06_Name.f (k + 1) a0) := by
 intro a0 k
 obtain ⟨ih0, ih1⟩ := monocoqueref06_Name.mono_l k
 unfold monocoqueref06_Name.f
 repeat' first
   | (with_reducible exact ih0 _ _)
   | (with_reducible exact ih1 _ _)
   | (with_reducible exact LeO.refl _)
   | (with_reducible exact LeO.none _)
   | (with_reducible refine LeO.ite ?_ ?_)
   | (with_reducible refine LeO.bind ?_ (fun _ => ?_))
   | exact ih0 _ _
   | exact ih1 _ _
   | exact LeO.none _
   | refine LeO.ite ?_ ?_
   | refine LeO.bind ?_ (fun _ => ?_)
set_option maxHeartbeats 8000000 in
set_option maxRecDepth 100000 in
theorem monocoqueref06_Name.calls (k : Nat) (a0 : ByteArray) (r : Bool) (w : World) (h : monocoqueref06_Name.f k a0 = some r) :
  Calls Tryz.prog 11 #[.string a0] w fun e w' => e = .returned (.bool r) ∧ Drawn0 w w' := by
 have H : (if (a0.size : Int) < 1 then (monocoqueref06_Name.j0 k a0 true) else (if (a0.size : Int) > 30 then (monocoqueref06_Name.j0 k a0 true) else (if 0 < (a0.size : Int) then (if (bt a0 0) < 97 then (monocoqueref06_Name.j0 k a0 true) else (monocoqueref06_Name.j0 k a0 (decide ((bt a0 0) > 122)))) else (none)))) = some r := h
 clear h
 have HC2 := Aside0.mk H
 clear H
 go_enter Tryz.func11, Tryz.ntmps11
 go_upto_region 1 with (fail)
 go_cut [22] (fun v22 wc => ∃ (kq : Nat) (x22_1 : Bool), v22 = .bool x22_1 ∧ Aside0 (monocoqueref06_Name.j0 kq a0 x22_1 = some r) ∧ Aside0 (kq ≤ k) ∧ Drawn0 w wc)
 case first =>
  have H := HC2.out
  clear HC2
  by_cases c3 : (a0.size : Int) < 1
  ·
   rw [if_pos c3] at H
   have c3b0 : decide ((a0.size : Int) < 1) = true := decide_eq_true c3
   have c3b1 : decide (a0.size < 1) = true := decide_eq_true (by omega)
   clear c3
   (first | rw [c3b0] | (simp only [i64_w, i32_w]; rw [c3b0]) | skip)
   have H' := Aside0.mk H
   clear H
   go_wp2
   go_meet
   case rel => exact ⟨_, (true), (by first | rfl | (simp; done) | (simp [*]; done)), H', ⟨by first | omega | exact Nat.le_refl _⟩, by repeat (first | exact Drawn0.refl _ | apply Drawn0.step)⟩
  ·
   rw [if_neg c3] at H
   have c3b0 : decide ((a0.size : Int) < 1) = false := decide_eq_false c3
   have c3b1 : decide (a0.size < 1) = false := decide_eq_false (by omega)
   clear c3
   (first | rw [c3b0] | (simp only [i64_w, i32_w]; rw [c3b0]) | skip)
   by_cases c4 : (a0.size : Int) > 30
   ·
    rw [if_pos c4] at H
    have c4b0 : decide (30 < (a0.size : Int)) = true := decide_eq_true c4
    have c4b1 : decide (30 < a0.size) = true := decide_eq_true (by omega)
    clear c4
    have H' := Aside0.mk H
    clear H
    go_wp2
    go_meet
    case rel => exact ⟨_, (true), (by first | rfl | (simp; done) | (simp [*]; done)), H', ⟨by first | omega | exact Nat.le_refl _⟩, by repeat (first | exact Drawn0.refl _ | apply Drawn0.step)⟩
   ·
    rw [if_neg c4] at H
    have c4b0 : decide (30 < (a0.size : Int)) = false := decide_eq_false c4
    have c4b1 : decide (30 < a0.size) = false := decide_eq_false (by omega)
    clear c4
    by_cases c5 : 0 < (a0.size : Int)
    ·
     rw [if_pos c5] at H
     have c5b0 : decide (0 < (a0.size : Int)) = true := decide_eq_true c5
     have c5b1 : decide (0 < a0.size) = true := decide_eq_true (by omega)
     clear c5
     by_cases c7 : (bt a0 0) < 97
     ·
      rw [if_pos c7] at H
      have c7b0 : decide ((bt a0 0) < 97) = true := decide_eq_true c7
      clear c7
      have H' := Aside0.mk H
      clear H
      have p6 : 0 ≤ (0 : Int) := (by omega)
      have q6 : 0 < a0.size := (by have : (0 : Int) < (a0.size : Int) := of_decide_eq_true (by first | (with_reducible assumption) | assumption); omega)
      have hx6 : ∀ h : 0 < a0.size, ((a0[0]'h).toNat : Int) = bt a0 0 := bt_at a0 0
      clear p6
      have qi6 : (0 < (a0.size : Int)) = True := eq_true (of_decide_eq_true (by first | (with_reducible assumption) | assumption))
      replace q6 := eq_true q6
      go_wp2
      go_meet
      case rel => exact ⟨_, (true), (by first | rfl | (simp; done) | (simp [*]; done)), H', ⟨by first | omega | exact Nat.le_refl _⟩, by repeat (first | exact Drawn0.refl _ | apply Drawn0.step)⟩
     ·
      rw [if_neg c7] at H
      have c7b0 : decide ((bt a0 0) < 97) = false := decide_eq_false c7
      clear c7
      have H' := Aside0.mk H
      clear H
      have p6 : 0 ≤ (0 : Int) := (by omega)
      have q6 : 0 < a0.size := (by have : (0 : Int) < (a0.size : Int) := of_decide_eq_true (by first | (with_reducible assumption) | assumption); omega)
      have hx6 : ∀ h : 0 < a0.size, ((a0[0]'h).toNat : Int) = bt a0 0 := bt_at a0 0
      clear p6
      have qi6 : (0 < (a0.size : Int)) = True := eq_true (of_decide_eq_true (by first | (with_reducible assumption) | assumption))
      replace q6 := eq_true q6
      have p8 : 0 ≤ (0 : Int) := (by omega)
      have q8 : 0 < a0.size := (by have : (0 : Int) < (a0.size : Int) := of_decide_eq_true (by first | (with_reducible assumption) | assumption); omega)
      have hx8 : ∀ h : 0 < a0.size, ((a0[0]'h).toNat : Int) = bt a0 0 := bt_at a0 0
      clear p8
      have qi8 : (0 < (a0.size : Int)) = True := eq_true (of_decide_eq_true (by first | (with_reducible assumption) | assumption))
      replace q8 := eq_true q8
      go_wp2
      go_meet
      case rel => exact ⟨_, (decide ((bt a0 0) > 122)), (by first | rfl | (simp; done) | (simp [*]; done)), H', ⟨by first | omega | exact Nat.le_refl _⟩, by repeat (first | exact Drawn0.refl _ | apply Drawn0.step)⟩
    ·
     rw [if_neg c5] at H
     exact absurd H (by simp)
 case rest =>
  clear HC2
  try clear c1
  try clear p2
  try clear c3
  try clear c3b0
  try clear c3b1
  try clear c4
  try clear c4b0
  try clear c4b1
  try clear c5
  try clear c5b0
  try clear c5b1
  try clear p6
  try clear q6
  try clear hx6
  try clear qi6
  try clear c7
  try clear c7b0
  try clear p8
  try clear q8
  try clear hx8
  try clear qi8
  try clear p6
  try clear p8
  try clear q6
  try clear q8
  obtain ⟨kq, x22_1, rfl, HA, HJ1, ⟨mc1, rfl⟩⟩ := hcut
  cases kq with
  | zero => exact absurd HA.out (by simp [monocoqueref06_Name.j0])
  | succ kj1 =>
   have H := HA.out
   clear HA
   simp only [monocoqueref06_Name.j0] at H
   by_cases c9 : x22_1 = true
   ·
    subst c9
    have H1 : (some false) = some r := by rw [if_pos rfl] at H; exact H
    clear H
    have H := H1
    clear H1
    obtain rfl := Option.some.inj H
    go_wp2
    go_ret
    exact ⟨by first | rfl | (simp; done) | (simp [*]; done), by repeat (first | exact Drawn0.refl _ | apply Drawn0.step)⟩
   ·
    replace c9 := Bool.eq_false_iff.mpr c9
    subst c9
    have H1 : (monocoqueref06_Name.l0 kj1 a0 0) = some r := by rw [if_neg (show ¬ (false = true) by decide)] at H; exact H
    clear H
    have H := H1
    clear H1
    have H' := Aside0.mk H
    clear H
    go_wp2
    go_loopg [3] kj1 (fun kq v3 w' => ∃ (x3_2 : Int), v3 = .int .i64 x3_2 ∧ Aside0 (monocoqueref06_Name.l0 kq a0 x3_2 = some r) ∧ Aside0 (kq ≤ kj1) ∧ Drawn0 w w')
    case atStart => exact ⟨(0), (by first | rfl | (simp; done) | (simp [*]; done)), H', ⟨Nat.le_refl _⟩, by repeat (first | exact Drawn0.refl _ | apply Drawn0.step)⟩
    case round =>
     clear H'
     try clear c1
     try clear p2
     try clear c3
     try clear c3b0
     try clear c3b1
     try clear c4
     try clear c4b0
     try clear c4b1
     try clear c5
     try clear c5b0
     try clear c5b1
     try clear p6
     try clear q6
     try clear hx6
     try clear qi6
     try clear c7
     try clear c7b0
     try clear p8
     try clear q8
     try clear hx8
     try clear qi8
     try clear c9
     try clear p2
     try clear p6
     try clear p8
     try clear q6
     try clear q8
     obtain ⟨x3_2, rfl, HA, HK2, ⟨m2, rfl⟩⟩ := hrel
     cases gk with
     | zero => exact absurd HA.out (by simp [monocoqueref06_Name.l0])
     | succ k2 =>
      have H := HA.out
      clear HA
      simp only [monocoqueref06_Name.l0] at H
      by_cases c10 : x3_2 < (a0.size : Int)
      ·
       rw [if_pos c10] at H
       have c10b0 : decide (x3_2 < (a0.size : Int)) = true := decide_eq_true c10
       clear c10
       by_cases c11 : 0 ≤ x3_2
       ·
        rw [if_pos c11] at H
        have c11b0 : decide (0 ≤ x3_2) = true := decide_eq_true c11
        clear c11
        by_cases c13 : (bt a0 x3_2) < 97
        ·
         rw [if_pos c13] at H
         have c13b0 : decide ((bt a0 x3_2) < 97) = true := decide_eq_true c13
         clear c13
         by_cases c14 : (bt a0 x3_2) < 48
         ·
          rw [if_pos c14] at H
          have c14b0 : decide ((bt a0 x3_2) < 48) = true := decide_eq_true c14
          clear c14
          by_cases c15 : (bt a0 x3_2) = 95
          ·
           rw [if_pos c15] at H
           have c15b0 : ((bt a0 x3_2) == 95) = true := beq_iff_eq.mpr c15
           have c15b1 : ((bt a0 x3_2) != 95) = false := bne_eq_false_iff_eq.mpr c15
           clear c15
           have H' := Aside0.mk H
           clear H
           have p12 : 0 ≤ (x3_2 : Int) := of_decide_eq_true (by first | (with_reducible assumption) | assumption)
           have q12 : x3_2 < (a0.size : Int) := of_decide_eq_true (by first | (with_reducible assumption) | assumption)
           have hx12 := bt_at a0 x3_2
           replace p12 := eq_true p12
           replace q12 := eq_true q12
           go_wp2
           go_roundg k2
           case measure => have := HJ1.out; have := HK2.out; omega
           case rel => exact ⟨(wrap64 (x3_2 + 1)), (by first | rfl | (simp; done) | (simp [*]; done)), H', ⟨by have := HJ1.out; have := HK2.out; omega⟩, by repeat (first | exact Drawn0.refl _ | apply Drawn0.step)⟩
          ·
           rw [if_neg c15] at H
           have c15b0 : ((bt a0 x3_2) == 95) = false := beq_eq_false_iff_ne.mpr c15
           have c15b1 : ((bt a0 x3_2) != 95) = true := bne_iff_ne.mpr c15
           obtain rfl := Option.some.inj H
           have p12 : 0 ≤ (x3_2 : Int) := of_decide_eq_true (by first | (with_reducible assumption) | assumption)
           have q12 : x3_2 < (a0.size : Int) := of_decide_eq_true (by first | (with_reducible assumption) | assumption)
           have hx12 := bt_at a0 x3_2
           replace p12 := eq_true p12
           replace q12 := eq_true q12
           go_wp2
           go_ret
           exact ⟨by first | rfl | (simp; done) | (simp [*]; done), by repeat (first | exact Drawn0.refl _ | apply Drawn0.step)⟩
         ·
          rw [if_neg c14] at H
          have c14b0 : decide ((bt a0 x3_2) < 48) = false := decide_eq_false c14
          clear c14
          by_cases c16 : (bt a0 x3_2) > 57
          ·
           rw [if_pos c16] at H
           have c16b0 : decide (57 < (bt a0 x3_2)) = true := decide_eq_true c16
           clear c16
           by_cases c17 : (bt a0 x3_2) = 95
           ·
            rw [if_pos c17] at H
            have c17b0 : ((bt a0 x3_2) == 95) = true := beq_iff_eq.mpr c17
            have c17b1 : ((bt a0 x3_2) != 95) = false := bne_eq_false_iff_eq.mpr c17
            clear c17
            have H' := Aside0.mk H
            clear H
            have p12 : 0 ≤ (x3_2 : Int) := of_decide_eq_true (by first | (with_reducible assumption) | assumption)
            have q12 : x3_2 < (a0.size : Int) := of_decide_eq_true (by first | (with_reducible assumption) | assumption)
            have hx12 := bt_at a0 x3_2
            replace p12 := eq_true p12
            replace q12 := eq_true q12
            go_wp2
            go_roundg k2
            case measure => have := HJ1.out; have := HK2.out; omega
            case rel => exact ⟨(wrap64 (x3_2 + 1)), (by first | rfl | (simp; done) | (simp [*]; done)), H', ⟨by have := HJ1.out; have := HK2.out; omega⟩, by repeat (first | exact Drawn0.refl _ | apply Drawn0.step)⟩
           ·
            rw [if_neg c17] at H
            have c17b0 : ((bt a0 x3_2) == 95) = false := beq_eq_false_iff_ne.mpr c17
            have c17b1 : ((bt a0 x3_2) != 95) = true := bne_iff_ne.mpr c17
            obtain rfl := Option.some.inj H
            have p12 : 0 ≤ (x3_2 : Int) := of_decide_eq_true (by first | (with_reducible assumption) | assumption)
            have q12 : x3_2 < (a0.size : Int) := of_decide_eq_true (by first | (with_reducible assumption) | assumption)
            have hx12 := bt_at a0 x3_2
            replace p12 := eq_true p12
            replace q12 := eq_true q12
            go_wp2
            go_ret
            exact ⟨by first | rfl | (simp; done) | (simp [*]; done), by repeat (first | exact Drawn0.refl _ | apply Drawn0.step)⟩
          ·
           rw [if_neg c16] at H
           have c16b0 : decide (57 < (bt a0 x3_2)) = false := decide_eq_false c16
           clear c16
           have H' := Aside0.mk H
           clear H
           have p12 : 0 ≤ (x3_2 : Int) := of_decide_eq_true (by first | (with_reducible assumption) | assumption)
           have q12 : x3_2 < (a0.size : Int) := of_decide_eq_true (by first | (with_reducible assumption) | assumption)
           have hx12 := bt_at a0 x3_2
           replace p12 := eq_true p12
           replace q12 := eq_true q12
           go_wp2
           go_roundg k2
           case measure => have := HJ1.out; have := HK2.out; omega
           case rel => exact ⟨(wrap64 (x3_2 + 1)), (by first | rfl | (simp; done) | (simp [*]; done)), H', ⟨by have := HJ1.out; have := HK2.out; omega⟩, by repeat (first | exact Drawn0.refl _ | apply Drawn0.step)⟩
        ·
         rw [if_neg c13] at H
         have c13b0 : decide ((bt a0 x3_2) < 97) = false := decide_eq_false c13
         clear c13
         by_cases c18 : (bt a0 x3_2) > 122
         ·
          rw [if_pos c18] at H
          have c18b0 : decide (122 < (bt a0 x3_2)) = true := decide_eq_true c18
          clear c18
          by_cases c19 : (bt a0 x3_2) < 48
          ·
           rw [if_pos c19] at H
           have c19b0 : decide ((bt a0 x3_2) < 48) = true := decide_eq_true c19
           clear c19
           by_cases c20 : (bt a0 x3_2) = 95
           ·
            rw [if_pos c20] at H
            have c20b0 : ((bt a0 x3_2) == 95) = true := beq_iff_eq.mpr c20
            have c20b1 : ((bt a0 x3_2) != 95) = false := bne_eq_false_iff_eq.mpr c20
            clear c20
            have H' := Aside0.mk H
            clear H
            have p12 : 0 ≤ (x3_2 : Int) := of_decide_eq_true (by first | (with_reducible assumption) | assumption)
            have q12 : x3_2 < (a0.size : Int) := of_decide_eq_true (by first | (with_reducible assumption) | assumption)
            have hx12 := bt_at a0 x3_2
            replace p12 := eq_true p12
            replace q12 := eq_true q12
            go_wp2
            go_roundg k2
            case measure => have := HJ1.out; have := HK2.out; omega
            case rel => exact ⟨(wrap64 (x3_2 + 1)), (by first | rfl | (simp; done) | (simp [*]; done)), H', ⟨by have := HJ1.out; have := HK2.out; omega⟩, by repeat (first | exact Drawn0.refl _ | apply Drawn0.step)⟩
           ·
            rw [if_neg c20] at H
            have c20b0 : ((bt a0 x3_2) == 95) = false := beq_eq_false_iff_ne.mpr c20
            have c20b1 : ((bt a0 x3_2) != 95) = true := bne_iff_ne.mpr c20
            obtain rfl := Option.some.inj H
            have p12 : 0 ≤ (x3_2 : Int) := of_decide_eq_true (by first | (with_reducible assumption) | assumption)
            have q12 : x3_2 < (a0.size : Int) := of_decide_eq_true (by first | (with_reducible assumption) | assumption)
            have hx12 := bt_at a0 x3_2
            replace p12 := eq_true p12
            replace q12 := eq_true q12
            go_wp2
            go_ret
            exact ⟨by first | rfl | (simp; done) | (simp [*]; done), by repeat (first | exact Drawn0.refl _ | apply Drawn0.step)⟩
          ·
           rw [if_neg c19] at H
           have c19b0 : decide ((bt a0 x3_2) < 48) = false := decide_eq_false c19
           clear c19
           by_cases c21 : (bt a0 x3_2) > 57
           ·
            rw [if_pos c21] at H
            have c21b0 : decide (57 < (bt a0 x3_2)) = true := decide_eq_true c21
            clear c21
            by_cases c22 : (bt a0 x3_2) = 95
            ·
             rw [if_pos c22] at H
             have c22b0 : ((bt a0 x3_2) == 95) = true := beq_iff_eq.mpr c22
             have c22b1 : ((bt a0 x3_2) != 95) = false := bne_eq_false_iff_eq.mpr c22
             clear c22
             have H' := Aside0.mk H
             clear H
             have p12 : 0 ≤ (x3_2 : Int) := of_decide_eq_true (by first | (with_reducible assumption) | assumption)
             have q12 : x3_2 < (a0.size : Int) := of_decide_eq_true (by first | (with_reducible assumption) | assumption)
             have hx12 := bt_at a0 x3_2
             replace p12 := eq_true p12
             replace q12 := eq_true q12
             go_wp2
             go_roundg k2
             case measure => have := HJ1.out; have := HK2.out; omega
             case rel => exact ⟨(wrap64 (x3_2 + 1)), (by first | rfl | (simp; done) | (simp [*]; done)), H', ⟨by have := HJ1.out; have := HK2.out; omega⟩, by repeat (first | exact Drawn0.refl _ | apply Drawn0.step)⟩
            ·
             rw [if_neg c22] at H
             have c22b0 : ((bt a0 x3_2) == 95) = false := beq_eq_false_iff_ne.mpr c22
             have c22b1 : ((bt a0 x3_2) != 95) = true := bne_iff_ne.mpr c22
             obtain rfl := Option.some.inj H
             have p12 : 0 ≤ (x3_2 : Int) := of_decide_eq_true (by first | (with_reducible assumption) | assumption)
             have q12 : x3_2 < (a0.size : Int) := of_decide_eq_true (by first | (with_reducible assumption) | assumption)
             have hx12 := bt_at a0 x3_2
             replace p12 := eq_true p12
             replace q12 := eq_true q12
             go_wp2
             go_ret
             exact ⟨by first | rfl | (simp; done) | (simp [*]; done), by repeat (first | exact Drawn0.refl _ | apply Drawn0.step)⟩
           ·
            rw [if_neg c21] at H
            have c21b0 : decide (57 < (bt a0 x3_2)) = false := decide_eq_false c21
            clear c21
            have H' := Aside0.mk H
            clear H
            have p12 : 0 ≤ (x3_2 : Int) := of_decide_eq_true (by first | (with_reducible assumption) | assumption)
            have q12 : x3_2 < (a0.size : Int) := of_decide_eq_true (by first | (with_reducible assumption) | assumption)
            have hx12 := bt_at a0 x3_2
            replace p12 := eq_true p12
            replace q12 := eq_true q12
            go_wp2
            go_roundg k2
            case measure => have := HJ1.out; have := HK2.out; omega
            case rel => exact ⟨(wrap64 (x3_2 + 1)), (by first | rfl | (simp; done) | (simp [*]; done)), H', ⟨by have := HJ1.out; have := HK2.out; omega⟩, by repeat (first | exact Drawn0.refl _ | apply Drawn0.step)⟩
         ·
          rw [if_neg c18] at H
          have c18b0 : decide (122 < (bt a0 x3_2)) = false := decide_eq_false c18
          clear c18
          have H' := Aside0.mk H
          clear H
          have p12 : 0 ≤ (x3_2 : Int) := of_decide_eq_true (by first | (with_reducible assumption) | assumption)
          have q12 : x3_2 < (a0.size : Int) := of_decide_eq_true (by first | (with_reducible assumption) | assumption)
          have hx12 := bt_at a0 x3_2
          replace p12 := eq_true p12
          replace q12 := eq_true q12
          go_wp2
          go_roundg k2
          case measure => have := HJ1.out; have := HK2.out; omega
          case rel => exact ⟨(wrap64 (x3_2 + 1)), (by first | rfl | (simp; done) | (simp [*]; done)), H', ⟨by have := HJ1.out; have := HK2.out; omega⟩, by repeat (first | exact Drawn0.refl _ | apply Drawn0.step)⟩
       ·
        rw [if_neg c11] at H
        exact absurd H (by simp)
      ·
       rw [if_neg c10] at H
       have c10b0 : decide (x3_2 < (a0.size : Int)) = false := decide_eq_false c10
       clear c10
       obtain rfl := Option.some.inj H
       go_wp2
       go_ret
       exact ⟨by first | rfl | (simp; done) | (simp [*]; done), by repeat (first | exact Drawn0.refl _ | apply Drawn0.step)⟩

/-! ### monocoquelaw06_BookNames: function 3 -/
def monocoquelaw06_BookNames.f (k : Nat) (a0 : ByteArray) : Option (Bool) := (monocoquelaw06_told.f).bind fun t306 => (if t306 = true then ((book_Name.f k a0).bind fun t307 => ((monocoqueref06_Name.f k a0).bind fun t308 => (some (t307 == t308)))) else (some false))
theorem monocoquelaw06_BookNames.mono : ∀ a0 k, LeO (monocoquelaw06_BookNames.f k a0) (monocoquelaw06_BookNames.f (k + 1) a0) := by
 intro a0 k
 unfold monocoquelaw06_BookNames.f
 repeat' first
   | (with_reducible exact book_Name.mono _ _)
   | (with_reducible exact monocoqueref06_Name.mono _ _)
   | (with_reducible exact LeO.refl _)
   | (with_reducible exact LeO.none _)
   | (with_reducible refine LeO.ite ?_ ?_)
   | (with_reducible refine LeO.bind ?_ (fun _ => ?_))
   | exact book_Name.mono _ _
   | exact monocoqueref06_Name.mono _ _
   | exact LeO.none _
   | refine LeO.ite ?_ ?_
   | refine LeO.bind ?_ (fun _ => ?_)
set_option maxHeartbeats 8000000 in
set_option maxRecDepth 100000 in
theorem monocoquelaw06_BookNames.calls (k : Nat) (a0 : ByteArray) (r : Bool) (w : World) (h : monocoquelaw06_BookNames.f k a0 = some r) :
  Calls Tryz.prog 3 #[.string a0] w fun e w' => e = .returned (.bool r) ∧ Below w.heap.size w w' := by
 have HB := Aside0.mk (Below.refl w.heap.size w)
 have H : ((monocoquelaw06_told.f).bind fun t306 => (if t306 = true then ((book_Name.f k a0).bind fun t307 => ((monocoqueref06_Name.f k a0).bind fun t308 => (some (t307 == t308)))) else (some false))) = some r := h
 clear h
 replace H := Option.bind_eq_some_iff.mp H
 obtain ⟨t306, A20, H⟩ := H
 replace H : (if t306 = true then ((book_Name.f k a0).bind fun t307 => ((monocoqueref06_Name.f k a0).bind fun t308 => (some (t307 == t308)))) else (some false)) = some r := H
 have A2 := Aside0.mk A20
 clear A20
 by_cases c3 : t306 = true
 ·
  subst c3
  have H1 : ((book_Name.f k a0).bind fun t307 => ((monocoqueref06_Name.f k a0).bind fun t308 => (some (t307 == t308)))) = some r := by rw [if_pos rfl] at H; exact H
  clear H
  have H := H1
  clear H1
  replace H := Option.bind_eq_some_iff.mp H
  obtain ⟨t307, A40, H⟩ := H
  replace H : ((monocoqueref06_Name.f k a0).bind fun t308 => (some (t307 == t308))) = some r := H
  have A4 := Aside0.mk A40
  clear A40
  replace H := Option.bind_eq_some_iff.mp H
  obtain ⟨t308, A50, H⟩ := H
  replace H : (some (t307 == t308)) = some r := H
  have A5 := Aside0.mk A50
  clear A50
  obtain rfl := Option.some.inj H
  go_enter Tryz.func3, Tryz.ntmps3
  go_wp2_with (first | ((with_reducible refine gate_callee (f := 9) rfl ?_); refine goesL_ (some 3) rfl rfl Tryz.func9 (by kernel_rfl) rfl #[] rfl (by (try simp only [List.map_toArray, List.map_cons, List.map_nil]); first | done | rfl | (simp only [List.length_drop, List.length_take]; rfl)) ?_; (with_reducible refine (monocoquelaw06_told.calls  true _ A2.out).mono ?_); rintro e w6 ⟨rfl, hb⟩; refine ⟨_, rfl, ?_⟩; have n0_ := Aside0.mk (below_step (by repeat (first | (with_reducible first | exact HB.out | apply below_alloc | apply pw_below_drewN | apply below_drew1) | exact HB.out)) hb); clear HB; have HB := n0_; clear n0_; (try clear hb); (try clear hb2); (try clear hk); (try clear hi)) | (go_at_call 10; (with_reducible refine (book_Name.calls k a0 t307 _ A4.out).mono ?_); rintro e w' ⟨rfl, ⟨nd, rfl⟩⟩) | (go_at_call 11; (with_reducible refine (monocoqueref06_Name.calls k a0 t308 _ A5.out).mono ?_); rintro e w' ⟨rfl, ⟨nd, rfl⟩⟩))
  go_ret
  exact ⟨by first | rfl | (simp [errW_none, errW_some] <;> rfl) | (simp [*, errW_none, errW_some] <;> rfl), by repeat (first | (with_reducible first | exact HB.out | apply below_alloc | apply pw_below_drewN | apply below_drew1) | exact HB.out)⟩
 ·
  replace c3 := Bool.eq_false_iff.mpr c3
  subst c3
  have H1 : (some false) = some r := by rw [if_neg (show ¬ (false = true) by decide)] at H; exact H
  clear H
  have H := H1
  clear H1
  obtain rfl := Option.some.inj H
  go_enter Tryz.func3, Tryz.ntmps3
  go_wp2_with (first | ((with_reducible refine gate_callee (f := 9) rfl ?_); refine goesL_ (some 3) rfl rfl Tryz.func9 (by kernel_rfl) rfl #[] rfl (by (try simp only [List.map_toArray, List.map_cons, List.map_nil]); first | done | rfl | (simp only [List.length_drop, List.length_take]; rfl)) ?_; (with_reducible refine (monocoquelaw06_told.calls  false _ A2.out).mono ?_); rintro e w7 ⟨rfl, hb⟩; refine ⟨_, rfl, ?_⟩; have n0_ := Aside0.mk (below_step (by repeat (first | (with_reducible first | exact HB.out | apply below_alloc | apply pw_below_drewN | apply below_drew1) | exact HB.out)) hb); clear HB; have HB := n0_; clear n0_; (try clear hb); (try clear hb2); (try clear hk); (try clear hi)))
  go_ret
  exact ⟨by first | rfl | (simp [errW_none, errW_some] <;> rfl) | (simp [*, errW_none, errW_some] <;> rfl), by repeat (first | (with_reducible first | exact HB.out | apply below_alloc | apply pw_below_drewN | apply below_drew1) | exact HB.out)⟩

/-- THE ONE PURE STATEMENT of monocoquelaw06_BookNames: yours. -/
def monocoquelaw06_BookNames.Pure : Prop := ∀ (a0 : ByteArray), a0.size ≤ 140737488351232 → ∃ k, monocoquelaw06_BookNames.f k a0 = some true
theorem monocoquelaw06_BookNames.walk (P : monocoquelaw06_BookNames.Pure) (a0 : ByteArray) (w : World) (w0 : a0.size ≤ 140737488351232) :
  Calls Tryz.prog 3 #[.string a0] w fun e w' => e = .returned (.bool true) ∧ Below w.heap.size w w' := by
 obtain ⟨k, h⟩ := P a0 w0
 refine (monocoquelaw06_BookNames.calls k a0 true w h).mono ?_
 rintro e w' ⟨rfl, hd⟩
 exact ⟨rfl, hd⟩

end Go.Proofs.YthpdlgamicmhaaaGreat.PN
