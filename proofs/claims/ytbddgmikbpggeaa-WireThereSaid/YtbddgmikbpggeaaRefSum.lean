/- The contract of the reference's sum, bit by bit. -/
import Derived.Test.YtbddgmikbpggeaaRef2
import Derived.RegionTactic
import Derived.BigRegion
namespace Go.Proofs.Ytbddgmikbpggeaa
open Go.RowKit
set_option linter.unusedVariables false
set_option linter.unusedSimpArgs false

/-- 32 truths, as cells. -/
def arr (f : Nat → Bool) : List Value := (List.range 32).map fun i => Value.bool (f i)
theorem arr_length (f : Nat → Bool) : (arr f).length = 32 := by simp [arr]
theorem arr_get (f : Nat → Bool) (i : Nat) (h : i < 32) : (arr f)[i]? = some (.bool (f i)) := by
  unfold arr
  rw [List.getElem?_map, List.getElem?_eq_getElem (by simpa using h)]
  simp
theorem arr_congr {f g : Nat → Bool} (h : ∀ i, i < 32 → f i = g i) : arr f = arr g := by
  unfold arr
  apply List.map_congr_left
  intro i hi
  rw [h i (by simpa using hi)]
theorem arr_set (f : Nat → Bool) (i : Nat) (b : Bool) : (arr f).set i (.bool b) = arr (fun j => if j = i then b else f j) := by
  apply List.ext_getElem?
  intro j
  rw [List.getElem?_set, arr_length]
  by_cases hj : j < 32
  · rw [arr_get _ j hj, arr_get _ j hj]
    by_cases h : i = j
    · subst h; simp [hj]
    · simp [h, show ¬ j = i by omega]
  · rw [List.getElem?_eq_none (by rw [arr_length]; omega), List.getElem?_eq_none (by rw [arr_length]; omega)]
    split
    · rename_i h; subst h; rw [if_neg hj]
    · rfl
theorem arr_zero : arr (fun _ => false) = List.replicate 32 (.bool false) := by rfl

theorem info_b32 : (Try.prog.info? 106).map (fun i => i.zero.map (fun z => z.cells.toList)) = some (some (arr fun _ => false)) := by
  rw [arr_zero]; kernel_rfl

/-- The reference's beginning: all truths set, the polynomial's bits laid out. -/
def polyTo (m j : Nat) : Bool := decide (m ≤ j) && Nat.testBit 79764919 (31 - j)

theorem arr_ones : arr (fun j => decide (0 ≤ j)) = arr (vbit (BitVec.allOnes 32)) := arr_congr fun i hi => by rw [vbit_ones i hi]; simp
theorem arr_poly : arr (polyTo 0) = arr (vbit poly) := arr_congr fun i hi => by rw [vbit_poly i hi]; simp [polyTo]
theorem polyTo_step (m n : Nat) (hm : 0 < m) (hm2 : m ≤ 32) (hn : n = 79764919 / 2 ^ (32 - m)) : arr (fun j => if j = m - 1 then ((n : Int) % 2 == 1) else polyTo m j) = arr (polyTo (m - 1)) := by
  apply arr_congr
  intro i hi
  by_cases e : i = m - 1
  · rw [if_pos e]
    subst e
    unfold polyTo
    rw [show 31 - (m - 1) = 32 - m by omega, Nat.testBit_eq_decide_div_mod_eq, ← hn]
    have e2 : ((n : Int) % 2 == 1) = decide (n % 2 = 1) := by rw [Bool.eq_iff_iff]; simp; omega
    rw [e2]
    simp
  · rw [if_neg e]
    unfold polyTo
    congr 1
    rw [decide_eq_decide]
    omega
theorem ones_step (m : Nat) (hm : 0 < m) : arr (fun j => if j = m - 1 then true else decide (m ≤ j)) = arr (fun j => decide (m - 1 ≤ j)) := by
  apply arr_congr
  intro i hi
  by_cases e : i = m - 1
  · simp [e]
  · rw [if_neg e, decide_eq_decide]; omega

/-- A byte's bits come in, from the last on. -/
def byteTo (v : BitVec 32) (x m j : Nat) : Bool := vbit v j ^^ (decide (m ≤ j ∧ j ≤ 7) && x.testBit (7 - j))
theorem byte_begin (v : BitVec 32) (x : Nat) : arr (byteTo v x 8) = arr (vbit v) := arr_congr fun i hi => by
  have e : ¬ (8 ≤ i ∧ i ≤ 7) := by omega
  simp [byteTo, e]
theorem byte_at (v : BitVec 32) (x m : Nat) (hm : 0 < m) : byteTo v x m (m - 1) = vbit v (m - 1) := by
  have e : ¬ (m ≤ m - 1) := by omega
  simp [byteTo, e]
theorem byte_step (v : BitVec 32) (x m c : Nat) (hm : 0 < m) (hm2 : m ≤ 8) (hc : c = x / 2 ^ (8 - m)) : arr (fun j => if j = m - 1 then (vbit v (m - 1) != ((c : Int) % 2 == 1)) else byteTo v x m j) = arr (byteTo v x (m - 1)) := by
  apply arr_congr
  intro i hi
  by_cases e : i = m - 1
  · rw [if_pos e]
    subst e
    unfold byteTo
    have e1 : m - 1 ≤ m - 1 ∧ m - 1 ≤ 7 := by omega
    rw [show 7 - (m - 1) = 8 - m by omega, Nat.testBit_eq_decide_div_mod_eq, ← hc]
    have e2 : ((c : Int) % 2 == 1) = decide (c % 2 = 1) := by rw [Bool.eq_iff_iff]; simp; omega
    rw [e2]
    simp only [e1, and_self, decide_true, Bool.true_and]
    try (cases vbit v (m - 1) <;> cases decide (c % 2 = 1) <;> rfl)
  · rw [if_neg e]
    unfold byteTo
    have e3 : decide (m ≤ i ∧ i ≤ 7) = decide (m - 1 ≤ i ∧ i ≤ 7) := by rw [decide_eq_decide]; omega
    rw [e3]
theorem byte_end (v : BitVec 32) (x : Nat) (hx : x < 256) : arr (byteTo v x 0) = arr (vbit (v ^^^ BitVec.ofNat 32 (x * 16777216))) := arr_congr fun i hi => by
  rw [vbit_byte v x i hi hx]
  simp [byteTo]

/-- The bits move up by one. -/
def shiftTo (v : BitVec 32) (n j : Nat) : Bool := if j < n then vbit v (j + 1) ^^ (vbit v 0 && vbit poly j) else vbit v j
theorem shift_begin (v : BitVec 32) : arr (shiftTo v 0) = arr (vbit v) := arr_congr fun i hi => by simp [shiftTo]
theorem shift_at (v : BitVec 32) (n : Nat) : shiftTo v n (n + 1) = vbit v (n + 1) := by unfold shiftTo; rw [if_neg (by omega)]
theorem shift_step (v : BitVec 32) (n : Nat) (b : Bool) (hb : b = (vbit v (n + 1) != (vbit v 0 && vbit poly n))) : arr (fun j => if j = n then b else shiftTo v n j) = arr (shiftTo v (n + 1)) := by
  apply arr_congr
  intro i hi
  subst hb
  by_cases e : i = n
  · subst e
    unfold shiftTo
    rw [if_pos rfl, if_pos (by omega)]
    try (cases vbit v (i + 1) <;> cases vbit v 0 && vbit poly i <;> rfl)
  · rw [if_neg e]
    unfold shiftTo
    by_cases h : i < n
    · rw [if_pos h, if_pos (by omega)]
    · rw [if_neg h, if_neg (by omega)]
theorem shift_end (v : BitVec 32) : arr (fun j => if j = 31 then (vbit v 0 && vbit poly 31) else shiftTo v 31 j) = arr (vbit (crcStep v)) := by
  apply arr_congr
  intro i hi
  rw [vbit_step v i hi]
  by_cases e : i = 31
  · subst e; simp
  · rw [if_neg e, if_pos (by omega)]
    simp [shiftTo, show i < 31 by omega]

set_option maxRecDepth 100000 in
set_option maxHeartbeats 2000000 in
theorem refSum_calls (A : Option Addr) (c : Nat) (l : List Nat) (w : World) (ha : Bytes w w.heap.size A l) (hf : Few l.length) :
    Calls Try.prog 25 #[.slice A l.length c] w fun e w' => e = .returned (.int .u32 (crc l : Int)) ∧ Below w.heap.size w w' := by
  have hl := hf.le
  go_enter Try.func25, Try.ntmps25
  go_wp2_with (first
    | (refine alloc_blk (w := w) rfl 106 rfl _ info_b32 ?_
       intro w1 hblk1 hb1 hsz1)
    | (refine alloc_blk (w := w1) rfl 106 rfl _ info_b32 ?_
       intro w2 hblk2 hb2 hsz2))
  rw [hsz1] at hblk2
  replace hblk1 := hblk1.below hb2 (by omega)
  replace hb2 := below_then hb1 hb2
  clear hb1 hsz1 hsz2
  go_loopw [5, 6] (fun v5 v6 wr => ∃ (m n : Nat), v5 = .int .u32 (n : Int) ∧ v6 = .int .i64 ((m : Int) - 1) ∧ m ≤ 32 ∧ n < 4294967296 ∧ Hid (n = 79764919 / 2 ^ (32 - m)) ∧ Blk wr w.heap.size 106 (arr fun j => decide (m ≤ j)) ∧ Blk wr (w.heap.size + 1) 106 (arr (polyTo m)) ∧ Below w.heap.size w wr) (fun _ v6 _ => (intOf v6 + 1).toNat)
  case atStart =>
    refine ⟨32, 79764919, rfl, rfl, by omega, by omega, by show _ = _; rfl, ?_, ?_, hb2⟩
    · rw [arr_congr (g := fun _ => false) (fun i hi => by simp; omega)]; exact hblk1
    · rw [arr_congr (g := fun _ => false) (fun i hi => by simp [polyTo]; omega)]; exact hblk2
  case round =>
    obtain ⟨m, n, rfl, rfl, hk, hn, hq, hblk1, hblk2, hbw⟩ := hrel
    by_cases h : 0 < m
    · obtain ⟨v1, hc1⟩ : ∃ v, wr.cell? ⟨w.heap.size, m - 1, none⟩ = some v := ⟨_, by rw [hblk1.cell, arr_get _ _ (by omega)]⟩
      have hf1 := hblk1.frozen (m - 1)
      obtain ⟨v2, hc2⟩ : ∃ v, wr.cell? ⟨w.heap.size + 1, m - 1, none⟩ = some v := ⟨_, by rw [hblk2.cell, arr_get _ _ (by omega)]⟩
      have hf2 := hblk2.frozen (m - 1)
      go_wp2
      go_roundw
      case rel =>
        refine ⟨m - 1, n / 2, ival (by omega), ival (by omega), by omega, by omega, ?_, ?_, ?_, (hbw.setCell (by simp) _).setCell (by simp) _⟩
        · show _ = _
          rw [hq.out, show 32 - (m - 1) = (32 - m) + 1 by omega, Nat.pow_succ, Nat.div_div_eq_div_mul]
        · have h1 := (hblk1.set_ (m - 1) (.bool true)).far (p := ⟨w.heap.size + 1, m - 1, none⟩) (by simp) (.bool ((n : Int) % 2 == 1))
          rw [arr_set, ones_step m h] at h1
          exact h1
        · have h1 := (hblk2.far (p := ⟨w.heap.size, m - 1, none⟩) (by simp) (.bool true)).set_ (m - 1) (.bool ((n : Int) % 2 == 1))
          rw [arr_set, polyTo_step m n h hk hq.out] at h1
          exact h1
      case measure => simp [intOf]; omega
    · obtain rfl : m = 0 := by omega
      have hn0 : n = 0 := by have := hq.out; rw [this]; try rfl
      subst hn0
      rw [arr_ones] at hblk1
      rw [arr_poly] at hblk2
      clear hq h hk hn
      go_wp2_with fail
      obtain ⟨wo, rfl⟩ : ∃ wo, wo = wr := ⟨_, rfl⟩
      go_loopw [7] (fun v7 wr => ∃ k : Nat, v7 = .int .i64 (k : Int) ∧ k ≤ l.length ∧ Blk wr w.heap.size 106 (arr (vbit (crcOf (l.take k)))) ∧ Blk wr (w.heap.size + 1) 106 (arr (vbit poly)) ∧ Below w.heap.size w wr) (fun v7 _ => l.length - (intOf v7).toNat)
      case atStart => exact ⟨0, rfl, by omega, hblk1, hblk2, hbw⟩
      case round =>
        clear hblk1 hblk2 hbw
        obtain ⟨k, rfl, hk, hB, hP, hbw⟩ := hrel
        by_cases h : k < l.length
        · obtain ⟨ad, rfl, _, hx, hcell⟩ := (ha.below hbw).at_ h
          have hstep : crcOf (l.take (k + 1)) = crcBits (crcOf (l.take k)) l[k] := by rw [List.take_succ_eq_append_getElem h, crcOf_snoc, crcByte_eq]
          generalize l[k] = x at *
          generalize crcOf (l.take k) = v at *
          have HS := Lib.hid hstep
          clear hstep
          go_wp2_with fail
          clear hcell
          obtain ⟨wo2, rfl⟩ : ∃ wo, wo = wr := ⟨_, rfl⟩
          go_loopw [8, 9] (fun v8 v9 wr => ∃ m c : Nat, v8 = .int .u8 (c : Int) ∧ v9 = .int .i64 ((m : Int) - 1) ∧ m ≤ 8 ∧ c < 256 ∧ Hid (c = x / 2 ^ (8 - m)) ∧ Blk wr w.heap.size 106 (arr (byteTo v x m)) ∧ Blk wr (w.heap.size + 1) 106 (arr (vbit poly)) ∧ Below w.heap.size w wr) (fun _ v9 _ => (intOf v9 + 1).toNat)
          case atStart => exact ⟨8, x, rfl, rfl, by omega, hx, by show _ = _; simp, by rw [byte_begin]; exact hB, hP, hbw⟩
          case round =>
            clear hB hP hbw
            obtain ⟨m, c', rfl, rfl, hm, hc', hq, hB, hP, hbw⟩ := hrel
            by_cases hm0 : 0 < m
            · have hc1 : wr.cell? ⟨w.heap.size, m - 1, none⟩ = some (.bool (vbit v (m - 1))) := by rw [hB.cell, arr_get _ _ (by omega), byte_at v x m hm0]
              have hf1 := hB.frozen (m - 1)
              have hst := byte_step v x m c' hm0 hm hq.out
              generalize vbit v (m - 1) = b0 at *
              have HST := Lib.hid hst
              clear hst
              go_wp2
              go_roundw
              case rel =>
                refine ⟨m - 1, c' / 2, ival (by omega), ival (by omega), by omega, by omega, ?_, ?_, hP.far (by simp) _, hbw.setCell (by simp) _⟩
                · show _ = _
                  rw [hq.out, show 8 - (m - 1) = (8 - m) + 1 by omega, Nat.pow_succ, Nat.div_div_eq_div_mul]
                · have h1 := hB.set_ (m - 1) (.bool (b0 != ((c' : Int) % 2 == 1)))
                  rw [arr_set, HST.out] at h1
                  exact h1
              case measure => simp [intOf]; omega
            · obtain rfl : m = 0 := by omega
              rw [byte_end v x hx] at hB
              clear hq hm0 hm hc'
              obtain ⟨y, HY⟩ : ∃ y, Hid (y = v ^^^ BitVec.ofNat 32 (x * 16777216)) := ⟨_, rfl⟩
              rw [← HY.out] at hB
              go_wp2_with fail
              obtain ⟨wo3, rfl⟩ : ∃ wo, wo = wr := ⟨_, rfl⟩
              go_loopw [10] (fun v10 wr => ∃ q : Nat, v10 = .int .i64 (q : Int) ∧ q ≤ 8 ∧ Blk wr w.heap.size 106 (arr (vbit (crcSteps q y))) ∧ Blk wr (w.heap.size + 1) 106 (arr (vbit poly)) ∧ Below w.heap.size w wr) (fun v10 _ => 8 - (intOf v10).toNat)
              case atStart => exact ⟨0, rfl, by omega, hB, hP, hbw⟩
              case round =>
                clear hB hP hbw
                obtain ⟨q, rfl, hq, hB, hP, hbw⟩ := hrel
                by_cases hq8 : q < 8
                · have hz : crcSteps (q + 1) y = crcStep (crcSteps q y) := rfl
                  have HZ := Lib.hid hz
                  clear hz
                  generalize crcSteps q y = z at *
                  have hc0 : wr.cell? ⟨w.heap.size, 0, none⟩ = some (.bool (vbit z 0)) := by rw [hB.cell, arr_get _ _ (by omega)]
                  go_wp2_with fail
                  clear hc0
                  obtain ⟨wo4, rfl⟩ : ∃ wo, wo = wr := ⟨_, rfl⟩
                  go_loopw [12] (fun v12 wr => ∃ n : Nat, v12 = .int .i64 (n : Int) ∧ n ≤ 31 ∧ Blk wr w.heap.size 106 (arr (shiftTo z n)) ∧ Blk wr (w.heap.size + 1) 106 (arr (vbit poly)) ∧ Below w.heap.size w wr) (fun v12 _ => 31 - (intOf v12).toNat)
                  case atStart => exact ⟨0, rfl, by omega, by rw [shift_begin]; exact hB, hP, hbw⟩
                  case round =>
                    clear hB hP hbw
                    obtain ⟨n, rfl, hn, hB, hP, hbw⟩ := hrel
                    by_cases hn31 : n < 31
                    · have hcn : wr.cell? ⟨w.heap.size, n + 1, none⟩ = some (.bool (vbit z (n + 1))) := by rw [hB.cell, arr_get _ _ (by omega), shift_at]
                      have hcp : wr.cell? ⟨w.heap.size + 1, n, none⟩ = some (.bool (vbit poly n)) := by rw [hP.cell, arr_get _ _ (by omega)]
                      obtain ⟨v0, hc0⟩ : ∃ v, wr.cell? ⟨w.heap.size, n, none⟩ = some v := ⟨_, by rw [hB.cell, arr_get _ _ (by omega)]⟩
                      have hf1 := hB.frozen n
                      have hst := fun b hb => shift_step z n b hb
                      have HST := Lib.hid hst
                      clear hst
                      generalize vbit z (n + 1) = b1 at *
                      generalize vbit poly n = b2 at *
                      generalize vbit z 0 = b3 at *
                      have hst := HST.out _ rfl
                      cases b3
                      · have HS2 := Lib.hid hst
                        clear hst HST
                        go_wp2
                        go_region
                        go_wp2
                        go_roundw
                        case rel =>
                          refine ⟨n + 1, by go_num, by omega, ?_, hP.far (by simp) _, (hbw.setCell (by simp) _).drew⟩
                          have h1 := hB.set_ n (.bool (b1 != (false && b2)))
                          rw [arr_set, HS2.out, show (b1 != (false && b2)) = b1 from by simp] at h1
                          exact h1
                        case measure => simp [intOf]; omega
                      · have HS2 := Lib.hid hst
                        clear hst HST
                        go_wp2
                        go_region
                        go_wp2
                        go_roundw
                        case rel =>
                          refine ⟨n + 1, by go_num, by omega, ?_, hP.far (by simp) _, (hbw.setCell (by simp) _).drew⟩
                          have h1 := hB.set_ n (.bool (b1 != (true && b2)))
                          rw [arr_set, HS2.out] at h1
                          exact h1
                        case measure => simp [intOf]; omega
                    · obtain rfl : n = 31 := by omega
                      obtain ⟨v0, hc0⟩ : ∃ v, wr.cell? ⟨w.heap.size, 31, none⟩ = some v := ⟨_, by rw [hB.cell, arr_get _ _ (by omega)]⟩
                      have hcp : wr.cell? ⟨w.heap.size + 1, 31, none⟩ = some (.bool (vbit poly 31)) := by rw [hP.cell, arr_get _ _ (by omega)]
                      have hf1 := hB.frozen 31
                      have hst := shift_end z
                      generalize vbit z 0 = b3 at *
                      generalize vbit poly 31 = b2 at *
                      have HS2 := Lib.hid hst
                      clear hst
                      cases b3
                      · go_wp2
                        go_roundw
                        case rel =>
                          refine ⟨q + 1, by go_num, by omega, ?_, hP.far (by simp) _, hbw.setCell (by simp) _⟩
                          have h1 := hB.set_ 31 (.bool (false && b2))
                          rw [arr_set, HS2.out, ← HZ.out] at h1
                          exact h1
                        case measure => simp [intOf]; omega
                      · go_wp2
                        go_roundw
                        case rel =>
                          refine ⟨q + 1, by go_num, by omega, ?_, hP.far (by simp) _, hbw.setCell (by simp) _⟩
                          have h1 := hB.set_ 31 (.bool (true && b2))
                          rw [arr_set, HS2.out, ← HZ.out] at h1
                          exact h1
                        case measure => simp [intOf]; omega
                · obtain rfl : q = 8 := by omega
                  go_wp2
                  go_roundw
                  case rel =>
                    refine ⟨k + 1, by go_num, by omega, ?_, hP, hbw⟩
                    have h1 := HY.out
                    have h2 := HS.out
                    rw [h2]
                    show Blk _ _ _ (arr (vbit (crcSteps 8 (v ^^^ BitVec.ofNat 32 (x * 16777216)))))
                    rw [← h1]
                    exact hB
                  case measure => simp [intOf]; omega
        · obtain rfl : k = l.length := by omega
          rw [List.take_length] at hB
          clear h hk hP
          go_wp2_with fail
          obtain ⟨wo5, rfl⟩ : ∃ wo, wo = wr := ⟨_, rfl⟩
          go_loop [5, 13] (fun v5 v13 => ∃ (t n : Nat), v5 = .int .u32 (n : Int) ∧ v13 = .int .i64 (t : Int) ∧ t ≤ 32 ∧ Hid (n = (~~~ (crcOf l)).toNat / 2 ^ (32 - t))) (fun _ v13 => 32 - (intOf v13).toNat)
          case atStart => exact ⟨0, 0, rfl, rfl, by omega, by show _ = _; rw [Nat.div_eq_of_lt (~~~ (crcOf l)).isLt]⟩
          case round =>
            obtain ⟨t, n, rfl, rfl, ht, hq⟩ := hrel
            by_cases ht32 : t < 32
            · have hct : wo5.cell? ⟨w.heap.size, t, none⟩ = some (.bool (vbit (crcOf l) t)) := by rw [hB.cell, arr_get _ _ (by omega)]
              have hst := not_step (crcOf l) t ht32
              have hlt : (~~~ (crcOf l)).toNat / 2 ^ (31 - t) < 4294967296 := Nat.lt_of_le_of_lt (Nat.div_le_self _ _) (~~~ (crcOf l)).isLt
              rw [← hq.out] at hst
              rw [hst] at hlt
              generalize vbit (crcOf l) t = b at *
              have HS := Lib.hid hst
              clear hst
              cases b
              · simp only [Bool.false_eq_true, if_false] at hlt
                go_wp2
                go_round
                case rel => exact ⟨t + 1, 2 * n + 1, ival (by omega), by go_num, by omega, by have := HS.out; show _ = _; simp only [Bool.false_eq_true, if_false] at this; rw [show 32 - (t + 1) = 31 - t by omega, this]⟩
                case measure => simp [intOf]; omega
              · simp only [if_true] at hlt
                go_wp2
                go_round
                case rel => exact ⟨t + 1, 2 * n, ival (by omega), by go_num, by omega, by have := HS.out; show _ = _; simp only [if_true, Nat.add_zero] at this; rw [show 32 - (t + 1) = 31 - t by omega, this]⟩
                case measure => simp [intOf]; omega
            · obtain rfl : t = 32 := by omega
              go_wp2
              go_ret
              refine ⟨ret_int ?_, hbw⟩
              have h1 := hq.out
              rw [h1, crc]
              simp only [Nat.sub_self, Nat.pow_zero, Nat.div_one]
end Go.Proofs.Ytbddgmikbpggeaa
