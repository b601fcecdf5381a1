/- The contracts of package wire's sum. -/
import Derived.Test.YtbddgmikbpggeaaWire
import Derived.Test.YtbddgmikbpggeaaCrc
namespace Go.Proofs.Ytbddgmikbpggeaa
open Go.RowKit
set_option linter.unusedVariables false
set_option linter.unusedSimpArgs false

theorem xor32 (a b : Nat) (ha : a < 4294967296) (hb : b < 4294967296) : bits .xor .u32 (a : Int) (b : Int) = ((a ^^^ b : Nat) : Int) := u32_xor_nat a b ha hb

theorem not32 (v : Nat) (hv : v < 4294967296) : bits .xor .u32 IntKind.u32.max (v : Int) = 4294967295 - (v : Int) := by
  have e : (4294967295 ^^^ v : Nat) = 4294967295 - v := by
    have h1 : (BitVec.allOnes 32 ^^^ BitVec.ofNat 32 v).toNat = (~~~ (BitVec.ofNat 32 v)).toNat := by rw [BitVec.allOnes_xor]
    rw [BitVec.toNat_xor, BitVec.toNat_not, BitVec.toNat_ofNat, BitVec.toNat_allOnes, Nat.mod_eq_of_lt hv] at h1
    exact h1
  rw [show IntKind.u32.max = ((4294967295 : Nat) : Int) from rfl, xor32 4294967295 v (by omega) hv, e]
  omega

set_option maxHeartbeats 400000 in
theorem row_calls (x : Nat) (w : World) (hx : x < 256) :
    Calls Try.prog 78 #[.int .u8 (x : Int)] w fun e w' => e = .returned (.int .u32 ((crcRow x).toNat : Int)) ∧ w = w' := by
  go_enter Try.func78, Try.ntmps78
  go_wp2_with fail
  go_loop [3, 8] (fun v3 v8 => ∃ (k : Nat) (v : Nat), v3 = .int .u32 (v : Int) ∧ v8 = .int .i64 (k : Int) ∧ k ≤ 8 ∧ v < 4294967296 ∧ Hid (v = (crcSteps k (BitVec.ofNat 32 (x * 16777216))).toNat)) (fun _ v8 => 8 - (intOf v8).toNat)
  case atStart => exact ⟨0, x * 16777216, ival (by omega), rfl, by omega, by omega, by show _ = _; simp [crcSteps]; omega⟩
  case round =>
    obtain ⟨k, v, rfl, rfl, hk, hv, he⟩ := hrel
    by_cases h : k < 8
    · have hs : (crcSteps (k + 1) (BitVec.ofNat 32 (x * 16777216))).toNat = if v / 2147483648 = 1 then (v * 2 % 4294967296) ^^^ 79764919 else v * 2 % 4294967296 := by
        rw [crcSteps, crcStep_toNat, ← he.out]
      by_cases h1 : v / 2147483648 = 1
      · rw [if_pos h1] at hs
        have hX := xor32 (v * 2 % 4294967296) 79764919 (by omega) (by omega)
        have hlt : (v * 2 % 4294967296) ^^^ 79764919 < 4294967296 := Nat.xor_lt_two_pow (n := 32) (by omega) (by omega)
        have HX := Lib.hid hX
        have HS := Lib.hid hs
        clear hX hs
        go_wp2
        go_round
        case rel => exact ⟨k + 1, (v * 2 % 4294967296) ^^^ 79764919, ival (by have := HX.out; rw [← this]; congr 1; try omega), by go_num, by omega, hlt, HS.out.symm⟩
        case measure => simp [intOf]; omega
      · rw [if_neg h1] at hs
        have HS := Lib.hid hs
        clear hs
        go_wp2
        go_round
        case rel => exact ⟨k + 1, v * 2, ival (by omega), by go_num, by omega, by omega, by have := HS.out; show _ = _; omega⟩
        case measure => simp [intOf]; omega
    · go_wp2
      go_ret
      obtain rfl : k = 8 := by omega
      exact ⟨ret_int (by rw [he.out]; rfl), rfl⟩

/-- The table, up to a byte. -/
def tabTo (k : Nat) : List Nat := (List.range 256).map fun i => if i < k then (crcRow i).toNat else 0
/-- The table. -/
def crcTab : List Nat := (List.range 256).map fun i => (crcRow i).toNat
theorem tabTo_length (k : Nat) : (tabTo k).length = 256 := by simp [tabTo]
theorem tabTo_zero : tabTo 0 = List.replicate 256 0 := by decide +kernel
theorem tabTo_all : tabTo 256 = crcTab := by
  unfold tabTo crcTab
  apply List.map_congr_left
  intro i hi
  rw [if_pos (by simpa using hi)]
theorem tabTo_set (k : Nat) (hk : k < 256) : (u32s (tabTo k)).set k (.int .u32 ((crcRow k).toNat : Int)) = u32s (tabTo (k + 1)) := by
  simp only [u32s, ← List.map_set (f := fun (b : Nat) => Value.int .u32 (b : Int))]
  congr 1
  apply List.ext_getElem?
  intro i
  rw [List.getElem?_set]
  by_cases h : k = i
  · subst h
    simp [tabTo, hk]
  · rw [if_neg h]
    simp only [tabTo, List.getElem?_map]
    cases hr : (List.range 256)[i]? with
    | none => rfl
    | some j =>
      have : j = i := by
        rw [List.getElem?_eq_some_iff] at hr
        obtain ⟨h1, h2⟩ := hr
        simpa using h2.symm
      subst this
      by_cases h2 : j < k
      · simp [h2, Nat.lt_succ_of_lt h2]
      · simp [h2, show ¬ j < k + 1 by omega]

set_option maxRecDepth 100000 in
set_option maxHeartbeats 800000 in
theorem rows_calls (w : World) :
    Calls Try.prog 55 #[] w fun e w' => e = .returned (.agg (u32s crcTab).toArray) ∧ Below w.heap.size w w' := by
  have hz : (Try.prog.info? 104).map (fun i => i.zero.map (fun z => z.cells.toList)) = some (some (u32s (tabTo 0))) := by
    rw [tabTo_zero]
    kernel_rfl
  have HZ := Lib.hid hz
  clear hz
  go_enter Try.func55, Try.ntmps55
  go_wp2_with (first
    | (refine alloc_blk (w := w) rfl 104 rfl _ HZ.out ?_
       intro w1 hblk1 hb1 hsz1)
    | (refine alloc_blk (w := w1) rfl 104 rfl _ HZ.out ?_
       intro w2 hblk2 hb2 hsz2))
  have hblk0 := hblk1.below hb2 (by omega)
  have hbw : Below w.heap.size w w2 := below_then hb1 hb2
  rw [hsz1] at hblk2
  clear hblk1 hb1 hb2
  have hsz : w2.heap.size = w.heap.size + 2 := by omega
  have HSZ := Lib.hid hsz
  clear hsz hsz1 hsz2
  go_loopw [3] (fun v3 wr => ∃ (k : Nat), v3 = .int .i64 (k : Int) ∧ k ≤ 256 ∧ Blk wr w.heap.size 104 (u32s (tabTo 0)) ∧ Blk wr (w.heap.size + 1) 104 (u32s (tabTo k)) ∧ Below w.heap.size w wr) (fun v3 _ => 256 - (intOf v3).toNat)
  case atStart => exact ⟨0, rfl, by omega, hblk0, hblk2, hbw⟩
  case round =>
    obtain ⟨k, rfl, hk, hblk0, hblk2, hbw⟩ := hrel
    by_cases h : k < 256
    · have hfr := hblk2.frozen k
      obtain ⟨v0, hc0⟩ : ∃ v0, wr.cell? ⟨w.heap.size + 1, k, none⟩ = some v0 := by
        rw [hblk2.cell, u32s_get, List.getElem?_eq_getElem (by rw [tabTo_length]; omega)]
        exact ⟨_, rfl⟩
      go_wp2_with (go_at_call 78; refine (row_calls k _ h).mono ?_; rintro e w' ⟨rfl, rfl⟩)
      go_roundw
      case rel =>
        refine ⟨k + 1, by go_num, by omega, hblk0.far (by simp) _, ?_, hbw.setCell (by simp) _⟩
        have h1 := hblk2.set_ k (.int .u32 ((crcRow k).toNat : Int))
        rw [tabTo_set k h] at h1
        exact h1
      case measure => simp [intOf]; omega
    · obtain rfl : k = 256 := by omega
      have HB0 := Lib.hid hblk0
      have HB2 := Lib.hid hblk2
      clear hblk0 hblk2
      have hi : (Try.prog.info? 104).map (fun i => i.size) = some 256 := by kernel_rfl
      have HI := Lib.hid hi
      clear hi
      go_wp2_with (first
        | (refine load_blk (w := wr) rfl 104 _ rfl rfl HB2.out _ Try.underlying104 rfl (by rw [u32s_length, tabTo_length]; exact HI.out) ?_)
        | (refine store_blk (w := wr) rfl 104 _ _ rfl rfl rfl HB0.out (by rw [u32s_length, tabTo_length]; exact HI.out) (by rw [u32s_length, u32s_length, tabTo_length, tabTo_length]) (u32s_one _) ?_
           intro w3 hb3 hbe3 hsz3))
      refine bodyPost_ret (results_cell_row rfl _ _ w.heap.size 104 _ (0, 0) _ rfl hb3 Try.underlying104 rfl (by rw [List.size_toArray, u32s_length, tabTo_length]; exact HI.out)) rfl ?_
      exact ⟨by rw [tabTo_all], hbw.trans (hbe3 _ (Nat.le_refl _))⟩

theorem crcTab_length : crcTab.length = 256 := by simp [crcTab]
theorem crcTab_get (i : Nat) (h : i < 256) : (u32s crcTab)[i]? = some (.int .u32 ((crcRow i).toNat : Int)) := by
  rw [u32s_get, List.getElem?_eq_getElem (by rw [crcTab_length]; exact h)]
  simp [crcTab]

set_option maxRecDepth 100000 in
set_option maxHeartbeats 800000 in
theorem sum_calls (A : Option Addr) (c : Nat) (l : List Nat) (w : World) (ha : Bytes w w.heap.size A l) (hf : Few l.length) :
    Calls Try.prog 24 #[.slice A l.length c] w fun e w' => e = .returned (.int .u32 (crc l : Int)) ∧ Below w.heap.size w w' := by
  have hl := hf.le
  go_enter Try.func24, Try.ntmps24
  go_wp2_with (first
    | (go_at_call 55
       refine (rows_calls w).mono ?_
       rintro e w1 ⟨rfl, hb1⟩)
    | (refine alloc_blk (w := w1) rfl 104 rfl (u32s (tabTo 0)) (by rw [tabTo_zero]; kernel_rfl) ?_
       intro w2 hblk2 hb2 hsz2)
    | (refine store_blk (w := w2) rfl 104 _ _ rfl rfl rfl hblk2 (by rw [u32s_length, crcTab_length]; kernel_rfl) (by rw [u32s_length, u32s_length, tabTo_length, crcTab_length]) (u32s_one _) ?_
       intro w3 hblk3 hbe3 hsz3))
  have hbw : Below w.heap.size w w3 := below_then hb1 (hb2.trans (hbe3 _ (Nat.le_refl _)))
  have hg1 : w.heap.size ≤ w1.heap.size := hb1.size
  clear hblk2 hb1 hb2 hbe3 hsz2 hsz3
  go_loop [4, 10] (fun v4 v10 => ∃ (k v : Nat), v4 = .int .u32 (v : Int) ∧ v10 = .int .i64 (k : Int) ∧ k ≤ l.length ∧ v < 4294967296 ∧ Hid (v = (crcOf (l.take k)).toNat)) (fun _ v10 => l.length - (intOf v10).toNat)
  case atStart => exact ⟨0, 4294967295, rfl, rfl, by omega, by omega, by show _ = _; simp [crcOf]⟩
  case round =>
    obtain ⟨k, v, rfl, rfl, hk, hv, he⟩ := hrel
    by_cases h : k < l.length
    · obtain ⟨ad, rfl, _, hx, hcell⟩ := (ha.below hbw).at_ h
      have hstep : (crcOf (l.take (k + 1))).toNat = (v * 256 % 4294967296) ^^^ (crcRow (v / 16777216 ^^^ l[k])).toNat := by
        rw [List.take_succ_eq_append_getElem h, crcOf_snoc, crcByte_toNat, ← he.out]
      generalize l[k] = x at *
      have hi : v / 16777216 ^^^ x < 256 := Nat.xor_lt_two_pow (n := 8) (by omega) hx
      have h8 : bits .xor .u8 ((v : Int) / 16777216) (x : Int) = ((v / 16777216 ^^^ x : Nat) : Int) := by
        rw [← u8_xor_nat (v / 16777216) x (by omega) hx]; rfl
      generalize v / 16777216 ^^^ x = i at *
      have hrow : w3.cell? ⟨w1.heap.size, i, none⟩ = some (.int .u32 ((crcRow i).toNat : Int)) := by rw [hblk3.cell, crcTab_get i hi]
      have hr := (crcRow i).isLt
      generalize (crcRow i).toNat = r at *
      have hlt : (v * 256 % 4294967296) ^^^ r < 4294967296 := Nat.xor_lt_two_pow (n := 32) (by omega) hr
      have h32 : bits .xor .u32 ((v : Int) * 256 % 4294967296) (r : Int) = (((v * 256 % 4294967296) ^^^ r : Nat) : Int) := by
        rw [← xor32 (v * 256 % 4294967296) r (by omega) hr]; congr 1
      generalize (v * 256 % 4294967296) ^^^ r = nv at *
      have HS := Lib.hid hstep
      clear hstep
      go_wp2
      go_round
      case rel => exact ⟨k + 1, nv, rfl, by go_num, by omega, hlt, HS.out.symm⟩
      case measure => simp [intOf]; omega
    · obtain rfl : k = l.length := by omega
      have hnot := not32 v hv
      go_wp2
      go_ret
      refine ⟨ret_int ?_, hbw⟩
      have h1 := he.out
      rw [List.take_length] at h1
      rw [crc_eq, ← h1]
      omega
end Go.Proofs.Ytbddgmikbpggeaa
