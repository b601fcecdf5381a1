/- The walk of the statement WireTurns. -/
import Derived.Test.YtbddgmikbpggeaaWireOpen
import Derived.Test.YtbddgmikbpggeaaWords2
import Derived.Test.YtbddgmikbpggeaaBurst
import Derived.RegionTactic
import Derived.BigRegion
namespace Go.Proofs.Ytbddgmikbpggeaa
open Go.RowKit
set_option linter.unusedVariables false
set_option linter.unusedSimpArgs false

/-- The bytes behind i rounds. -/
def turnTo (l : List Nat) (F t : Nat) : Nat → List Nat
  | 0 => l
  | i + 1 => if t.testBit i then flip (turnTo l F t i) (F + i) else turnTo l F t i
theorem turnTo_length (l : List Nat) (F t i : Nat) : (turnTo l F t i).length = l.length := by
  induction i with
  | zero => rfl
  | succ i ih =>
    rw [turnTo]
    split
    · rw [flip_length, ih]
    · exact ih
theorem turnTo_bit (l : List Nat) (F t : Nat) (i : Nat) (hF : F + i ≤ 8 * l.length) (j : Nat) : bitAt (turnTo l F t i) j = (bitAt l j ^^ (decide (F ≤ j ∧ j < F + i) && t.testBit (j - F))) := by
  induction i with
  | zero =>
    have e : decide (F ≤ j ∧ j < F + 0) = false := by rw [decide_eq_false_iff_not]; omega
    rw [turnTo, e]
    simp
  | succ i ih =>
    have ih := ih (by omega)
    rw [turnTo]
    by_cases hj : j = F + i
    · subst hj
      have e1 : ¬ (F ≤ F + i ∧ F + i < F + i) := by omega
      have e2 : F ≤ F + i ∧ F + i < F + (i + 1) := by omega
      cases ht : t.testBit i with
      | true =>
        rw [if_pos rfl, bitAt_flip _ _ _ (by rw [turnTo_length]; omega), ih]
        simp [ht]
      | false =>
        simp only [Bool.false_eq_true, if_false]
        rw [ih]
        simp [ht]
    · have e3 : decide (F ≤ j ∧ j < F + (i + 1)) = decide (F ≤ j ∧ j < F + i) := by rw [decide_eq_decide]; omega
      rw [e3]
      split
      · rw [bitAt_flip _ _ _ (by rw [turnTo_length]; omega), ih]
        simp [hj]
      · exact ih

theorem turn8 (x r : Nat) (hx : x < 256) (hr : r < 8) : bits .xor .u8 (x : Int) (128 / 2 ^ r) = ((x ^^^ (128 >>> r) : Nat) : Int) := by
  have e : (128 / 2 ^ r : Int) = ((128 >>> r : Nat) : Int) := by
    rw [Nat.shiftRight_eq_div_pow]; simp
  have h1 : 128 >>> r < 256 := by
    rw [Nat.shiftRight_eq_div_pow]
    exact Nat.lt_of_le_of_lt (Nat.div_le_self _ _) (by omega)
  rw [e, u8_xor_nat x _ hx h1]
theorem turn8_lt (x r : Nat) (hx : x < 256) : x ^^^ (128 >>> r) < 256 := by
  have h1 : 128 >>> r < 256 := by
    rw [Nat.shiftRight_eq_div_pow]
    exact Nat.lt_of_le_of_lt (Nat.div_le_self _ _) (by omega)
  exact Nat.xor_lt_two_pow (n := 8) hx h1

set_option maxRecDepth 100000 in
set_option maxHeartbeats 1600000 in
theorem wireTurns_walk (A : Option Addr) (c : Nat) (l : List Nat) (at_ : Int) (t : Nat) (w : World) (ha : Bytes w w.heap.size A l) (hc : l.length ≤ c) (hat1 : -9223372036854775808 ≤ at_) (hat2 : at_ ≤ 9223372036854775807) (ht : t < 4294967296) (ht0 : 0 < t) :
    Calls Try.prog 6 #[.slice A l.length c, .int .i64 at_, .int .u32 (t : Int)] w fun e w' => e = .returned (.bool true) ∧ Below w.heap.size w w' := by
  obtain ⟨k1, hk1⟩ : ∃ k : Nat, k = (l.take 200).length := ⟨_, rfl⟩
  have hm1 : (if (200 : Int) < (l.length : Int) then (200 : Int) else (l.length : Int)) = (k1 : Int) := by rw [hk1, List.length_take]; split <;> omega
  have hk1c : k1 ≤ c := by rw [hk1, List.length_take]; omega
  have hle : (l.take 200).length ≤ 200 := by rw [List.length_take]; omega
  have hA : Bytes w w.heap.size A (l.take 200) := ha.take 200
  rw [hk1] at hm1 hk1c
  clear ha hk1
  generalize l.take 200 = l' at *
  have ht1 : ((t : Int) == 0) = false := beq_eq_false_iff_ne.2 (by omega)
  go_enter Try.func6, Try.ntmps6
  go_wp2_with fail
  refine (seal_calls A c l' _ hA (Few.mk (by omega))).mono ?_
  rintro e w1 ⟨vs, rfl, hS, hB⟩
  obtain ⟨ls, HS⟩ : ∃ q, Hid (q = sealB l') := ⟨_, rfl⟩
  rw [← HS.out] at hS
  have hls : ls.length = l'.length + 4 := by rw [HS.out, sealB, List.length_append]; rfl
  have hls2 : 4 ≤ ls.length := by omega
  have hls3 : ls.length ≤ 204 := by omega
  have HLS := Lib.hid hls
  clear hls
  obtain ⟨gs, cs, rfl, hgb, hgl, hlc, _, _, _, _⟩ := hS.store (k := 0) (by omega)
  obtain ⟨F, hF, hF2⟩ : ∃ F : Nat, wrap64 ((IntKind.u64.wrap at_).tmod (8 * (ls.length : Int) - 31)) = (F : Int) ∧ F + 32 ≤ 8 * ls.length := by
    have h1 : 0 ≤ IntKind.u64.wrap at_ := by rw [IntKind.wrap_u64]; omega
    rw [Int.tmod_eq_emod_of_nonneg h1]
    have h2 := Int.emod_nonneg (IntKind.u64.wrap at_) (b := 8 * (ls.length : Int) - 31) (by omega)
    have h3 := Int.emod_lt_of_pos (IntKind.u64.wrap at_) (b := 8 * (ls.length : Int) - 31) (by omega)
    generalize IntKind.u64.wrap at_ % (8 * (ls.length : Int) - 31) = r at *
    refine ⟨r.toNat, ?_, by omega⟩
    unfold wrap64
    omega
  have HF := Lib.hid hF
  clear hF
  go_wp2_with fail
  rw [HF.out]
  clear HF
  go_loopw [2, 9] (fun v2 v9 wr => ∃ (i u : Nat), v2 = .int .u32 (u : Int) ∧ v9 = .int .i64 (i : Int) ∧ i ≤ 32 ∧ u < 4294967296 ∧ Hid (u = t / 2 ^ i) ∧ OwnB wr w.heap.size 5 (.slice (some ⟨gs, 0, none⟩) ls.length cs) (turnTo ls F t i) ∧ Below w.heap.size w wr) (fun _ v9 _ => 32 - (intOf v9).toNat)
  case atStart => exact ⟨0, t, rfl, rfl, by omega, ht, by show _ = _; simp, hS, hB⟩
  case round =>
    clear hS hB
    obtain ⟨i, u, rfl, rfl, hi, hu, hq, hS, hB⟩ := hrel
    by_cases h : i < 32
    · have hq2 : Hid (u / 2 = t / 2 ^ (i + 1)) := by show _ = _; rw [hq.out, Nat.pow_succ, Nat.div_div_eq_div_mul]
      by_cases hbit : t.testBit i = true
      · have hodd : u % 2 = 1 := by rw [Nat.testBit_eq_decide_div_mod_eq, ← hq.out] at hbit; simpa using hbit
        obtain ⟨g', c', hv, hgb, _, _, hcell, hfr, hx, hset⟩ := hS.store (k := (F + i) / 8) (by rw [turnTo_length]; omega)
        injection hv with hv1 hv2 hv3
        injection hv1 with hv1
        injection hv1 with hv1
        subst hv1
        clear hv2 hv3
        have hflip : turnTo ls F t (i + 1) = (turnTo ls F t i).set ((F + i) / 8) ((turnTo ls F t i)[(F + i) / 8]'(by rw [turnTo_length]; omega) ^^^ (128 >>> ((F + i) % 8))) := by
          rw [turnTo, if_pos hbit, flip, List.getD_eq_getElem?_getD, List.getElem?_eq_getElem (by rw [turnTo_length]; omega)]
          rfl
        have hq0 : ((F : Int) + (i : Int)) / 8 = (((F + i) / 8 : Nat) : Int) := by omega
        have hr0 : ((F : Int) + (i : Int)) % 8 = (((F + i) % 8 : Nat) : Int) := by omega
        have hqb : (((F + i) / 8 : Nat) : Int) < (ls.length : Int) := by omega
        have hr8 : (F + i) % 8 < 8 := by omega
        generalize (turnTo ls F t i)[(F + i) / 8]'(by rw [turnTo_length]; omega) = x at *
        generalize (F + i) / 8 = q at *
        generalize (F + i) % 8 = r at *
        have hq1 : (0 : Int) ≤ (q : Int) := by omega
        have hr1 : (0 : Int) ≤ (r : Int) := by omega
        have HFL := Lib.hid hflip
        have HSET := Lib.hid hset
        clear hflip hset hbit
        go_wp2_with fail
        go_region
        go_wp2
        go_roundw
        case rel =>
          refine ⟨i + 1, u / 2, ival (by omega), by go_num, by omega, by omega, hq2, ?_, (hB.setCell (by omega) _).drew⟩
          rw [turn8 x r hx hr8, HFL.out]
          exact HSET.out _ (turn8_lt x r hx)
        case measure => simp [intOf]; omega
      · have hodd : u % 2 = 0 := by rw [Nat.testBit_eq_decide_div_mod_eq, ← hq.out] at hbit; simp at hbit; omega
        have hn : turnTo ls F t (i + 1) = turnTo ls F t i := by rw [turnTo, if_neg hbit]
        have HN := Lib.hid hn
        clear hn hbit
        go_wp2
        go_roundw
        case rel => exact ⟨i + 1, u / 2, ival (by omega), by go_num, by omega, by omega, hq2, by rw [HN.out]; exact hS, hB⟩
        case measure => simp [intOf]; omega
    · obtain rfl : i = 32 := by omega
      obtain ⟨lt, HT⟩ : ∃ q, Hid (q = turnTo ls F t 32) := ⟨_, rfl⟩
      rw [← HT.out] at hS
      have hlt : lt.length = ls.length := by rw [HT.out, turnTo_length]
      have hb := hS.bytes
      rw [hlt] at hb
      obtain ⟨S, cS, hv, hSb, hSc, _⟩ := hb
      injection hv with hv1 _ hv3
      subst hv1
      subst hv3
      have hbad : ¬ lt.drop (lt.length - 4) = wordB (crc (lt.take (lt.length - 4))) := by
        intro e
        obtain ⟨j, hj1, hj2⟩ : ∃ j, j < 32 ∧ t.testBit j = true := by
          obtain ⟨j, hj⟩ := Nat.exists_testBit_of_ne_zero (x := t) (by omega)
          refine ⟨j, ?_, hj⟩
          rcases Nat.lt_or_ge j 32 with h1 | h1
          · exact h1
          · rw [Nat.testBit_lt_two_pow (Nat.lt_of_lt_of_le ht (Nat.pow_le_pow_right (n := 2) (by omega) h1))] at hj
            cases hj
        have hlb : ∀ b ∈ ls, b < 256 := by
          rw [HS.out, sealB]
          intro b hb
          rcases List.mem_append.1 hb with h1 | h1
          · exact hA.2 b h1
          · exact wordB_lt _ (crc_lt _) b h1
        have h1 := burst ls lt hlb hS.2 hlt F hF2 t.testBit (fun k hk => by rw [HT.out, turnTo_bit ls F t 32 (by omega)]) j hj1 hj2
        apply h1
        have e1 : crcOf lt = crcSteps 32 (BitVec.allOnes 32) := by
          have e2 : lt = lt.take (lt.length - 4) ++ wordB (crc (lt.take (lt.length - 4))) := by rw [← e, List.take_append_drop]
          rw [e2]
          exact crcOf_seal _ fun b hb => hS.2 b (List.mem_of_mem_take hb)
        have e3 : crcOf ls = crcSteps 32 (BitVec.allOnes 32) := by
          rw [HS.out]
          exact crcOf_seal _ hA.2
        rw [e1, e3]
      have HBAD := Lib.hid hbad
      have hopen := open_bad (some ⟨gs, 0, none⟩) cs lt wr hSb (by rw [hlt]; exact hSc) (Few.mk (by omega)) (by omega) hbad
      rw [hlt] at hopen
      have HO := Lib.hid hopen
      clear hbad hopen hlt
      go_wp2_with fail
      refine (HO.out).mono ?_
      rintro e w3 ⟨rfl, hb3⟩
      replace hB := below_then hB hb3
      go_wp2_with fail
      refine (known2_calls _).mono ?_
      rintro e w4 ⟨rfl, hb4⟩
      replace hB := below_then hB hb4
      go_wp2
      go_ret
      exact ⟨rfl, hB⟩

set_option maxRecDepth 100000 in
set_option maxHeartbeats 1600000 in
theorem wireTurns_none (A : Option Addr) (c : Nat) (l : List Nat) (at_ : Int) (w : World) (ha : Bytes w w.heap.size A l) (hc : l.length ≤ c) :
    Calls Try.prog 6 #[.slice A l.length c, .int .i64 at_, .int .u32 0] w fun e w' => e = .returned (.bool true) ∧ Below w.heap.size w w' := by
  obtain ⟨k1, hk1⟩ : ∃ k : Nat, k = (l.take 200).length := ⟨_, rfl⟩
  have hm1 : (if (200 : Int) < (l.length : Int) then (200 : Int) else (l.length : Int)) = (k1 : Int) := by rw [hk1, List.length_take]; split <;> omega
  have hk1c : k1 ≤ c := by rw [hk1, List.length_take]; omega
  have hle : (l.take 200).length ≤ 200 := by rw [List.length_take]; omega
  have hA : Bytes w w.heap.size A (l.take 200) := ha.take 200
  rw [hk1] at hm1 hk1c
  clear ha hk1
  generalize l.take 200 = l' at *
  go_enter Try.func6, Try.ntmps6
  go_wp2_with fail
  refine (seal_calls A c l' _ hA (Few.mk (by omega))).mono ?_
  rintro e w1 ⟨vs, rfl, hS, hB⟩
  obtain ⟨ls, HS⟩ : ∃ q, Hid (q = sealB l') := ⟨_, rfl⟩
  rw [← HS.out] at hS
  have hls : ls.length = l'.length + 4 := by rw [HS.out, sealB, List.length_append]; rfl
  have hls2 : 4 ≤ ls.length := by omega
  obtain ⟨S, cS, rfl, hSb, _, _⟩ := hS.bytes
  have HLS := Lib.hid hls
  clear hls
  go_wp2_with fail
  refine (known2_calls _).mono ?_
  rintro e w4 ⟨rfl, hb4⟩
  replace hB := below_then hB hb4
  go_wp2
  go_ret
  exact ⟨rfl, hB⟩
end Go.Proofs.Ytbddgmikbpggeaa
