/- The contracts of the reference's Of and Open. -/
import Derived.Test.YtbddgmikbpggeaaRefSum
import Derived.Test.YtbddgmikbpggeaaWireOpen
namespace Go.Proofs.Ytbddgmikbpggeaa
open Go.RowKit
set_option linter.unusedVariables false
set_option linter.unusedSimpArgs false

/-- The word of bytes. -/
def ofB (l : List Nat) : Nat := l.foldl (fun n b => 256 * n + b) 0
theorem ofB_snoc (l : List Nat) (b : Nat) : ofB (l ++ [b]) = 256 * ofB l + b := by simp [ofB]
theorem ofB_aux (l : List Nat) : ∀ acc : Nat, (∀ b ∈ l, b < 256) → l.foldl (fun n b => 256 * n + b) acc < (acc + 1) * 256 ^ l.length := by
  induction l with
  | nil => intro acc _; simp
  | cons b l ih =>
    intro acc h
    have h1 := ih (256 * acc + b) fun x hx => h x (by simp [hx])
    have h2 := h b (by simp)
    rw [List.foldl_cons, List.length_cons, Nat.pow_succ, ← Nat.mul_assoc]
    have h3 : (256 * acc + b + 1) * 256 ^ l.length ≤ ((acc + 1) * 256) * 256 ^ l.length := Nat.mul_le_mul_right _ (by omega)
    have h4 : ((acc + 1) * 256) * 256 ^ l.length = (acc + 1) * 256 ^ l.length * 256 := by rw [Nat.mul_assoc, Nat.mul_comm 256, ← Nat.mul_assoc]
    omega
theorem ofB_lt (l : List Nat) (h : ∀ b ∈ l, b < 256) : ofB l < 256 ^ l.length := by
  have := ofB_aux l 0 h
  unfold ofB
  simpa using this
theorem ofB_wordB (n : Nat) (hn : n < 4294967296) : ofB (wordB n) = n := by
  simp [ofB, wordB]; omega
theorem wordB_ofB (l : List Nat) (hl : l.length = 4) (h : ∀ b ∈ l, b < 256) : wordB (ofB l) = l := by
  match l, hl with
  | [a, b, c, d], _ =>
    have h1 := h a (by simp)
    have h2 := h b (by simp)
    have h3 := h c (by simp)
    have h4 := h d (by simp)
    simp [ofB, wordB]
    omega

set_option maxHeartbeats 400000 in
theorem of_calls (A : Option Addr) (c : Nat) (l : List Nat) (w : World) (B : Nat) (ha : Bytes w B A l) (hl : l.length = 4) :
    Calls Try.prog 37 #[.slice A 4 c] w fun e w' => e = .returned (.int .u32 (ofB l : Int)) ∧ w = w' := by
  have HL := Lib.hid hl
  clear hl
  go_enter Try.func37, Try.ntmps37
  go_wp2_with fail
  go_loop [3, 4] (fun v3 v4 => ∃ (k n : Nat), v3 = .int .u32 (n : Int) ∧ v4 = .int .i64 (k : Int) ∧ k ≤ 4 ∧ Hid (n = ofB (l.take k))) (fun _ v4 => 4 - (intOf v4).toNat)
  case atStart => exact ⟨0, 0, rfl, rfl, by omega, by show _ = _; simp [ofB]⟩
  case round =>
    obtain ⟨k, n, rfl, rfl, hk, hq⟩ := hrel
    by_cases h : k < 4
    · obtain ⟨ad, rfl, _, hx, hcell⟩ := ha.at_ (k := k) (by have := HL.out; omega)
      have hst : ofB (l.take (k + 1)) = 256 * n + l[k]'(by have := HL.out; omega) := by
        rw [List.take_succ_eq_append_getElem (by have := HL.out; omega), ofB_snoc, ← hq.out]
      have hlt : ofB (l.take (k + 1)) < 4294967296 := by
        have h1 := ofB_lt (l.take (k + 1)) fun b hb => ha.2 b (List.mem_of_mem_take hb)
        have h2 : (l.take (k + 1)).length ≤ 4 := by rw [List.length_take]; omega
        have h3 : 256 ^ (l.take (k + 1)).length ≤ 256 ^ 4 := Nat.pow_le_pow_right (by omega) h2
        omega
      rw [hst] at hlt
      have HST := Lib.hid hst
      clear hst
      generalize l[k]'(by have := HL.out; omega) = x at *
      have h256 : 256 * n < 4294967296 := by omega
      go_wp2
      go_round
      case rel => exact ⟨k + 1, 256 * n + x, ival (by omega), by go_num, by omega, HST.out.symm⟩
      case measure => simp [intOf]; omega
    · obtain rfl : k = 4 := by omega
      go_wp2
      go_ret
      refine ⟨ret_int ?_, rfl⟩
      rw [hq.out, List.take_of_length_le (by rw [HL.out]; omega)]

set_option maxHeartbeats 400000 in
theorem refOpen_short (A : Option Addr) (c : Nat) (l : List Nat) (w : World) (h : l.length < 4) :
    Calls Try.prog 27 #[.slice A l.length c] w fun e w' => e = .returned (.tuple #[.slice none 0 0, .int .i64 4]) ∧ w = w' := by
  go_enter Try.func27, Try.ntmps27
  go_wp2
  go_ret2
  exact ⟨rfl, rfl⟩

set_option maxRecDepth 100000 in
set_option maxHeartbeats 1000000 in
theorem refOpen_ok (A : Option Addr) (c : Nat) (l : List Nat) (w : World) (ha : Bytes w w.heap.size A l) (hc : l.length ≤ c) (hf : Few l.length) (h : 4 ≤ l.length)
    (hm :  l.drop (l.length - 4) = wordB (crc (l.take (l.length - 4)))) :
    Calls Try.prog 27 #[.slice A l.length c] w fun e w' => ∃ v, e = .returned (.tuple #[v, .int .i64 0]) ∧ OwnB w' w.heap.size 5 v (l.take (l.length - 4)) ∧ Below w.heap.size w w' := by
  have hl := hf.le
  obtain ⟨l1, H1⟩ : ∃ q, Hid (q = l.take (l.length - 4)) := ⟨_, rfl⟩
  obtain ⟨l2, H2⟩ : ∃ q, Hid (q = l.drop (l.length - 4)) := ⟨_, rfl⟩
  rw [← H1.out, ← H2.out] at hm
  have hl2 : ∀ b ∈ l2, b < 256 := by rw [H2.out]; exact fun b hb => ha.2 b (List.mem_of_mem_drop hb)
  have hlen1 : l1.length + 4 = l.length := by rw [H1.out, List.length_take]; omega
  have hlen2 : l2.length = 4 := by rw [H2.out, List.length_drop]; omega
  have hbq : ((ofB l2 : Int) == (crc l1 : Int)) = true := by
    rw [hm, ofB_wordB _ (crc_lt _)]; simp
  have hk : (l.length : Int) - 4 = (l1.length : Int) := by omega
  have hb1 : Bytes w w.heap.size A l1 := by rw [H1.out]; exact ha.take _
  have hb2 : Bytes w w.heap.size (cutAt A c l1.length 1) l2 := by
    have e : l2 = l.drop l1.length := by rw [H2.out]; congr 1; omega
    rw [e]; exact ha.cut _ _ (by omega) hc
  have hcut := run_cut_l el_u8 A l.length c l1.length 4 (by omega) (by omega)
  generalize cutAt A c l1.length 1 = A2 at *
  have hle1 : l1.length ≤ c := by omega
  have hb2d : Bytes w.drew w.drew.heap.size A2 l2 := hb2.drewN 1
  have hb1d : Bytes w.drew w.drew.heap.size A l1 := hb1.drewN 1
  have HM := Lib.hid hm
  have HL2 := Lib.hid hlen2
  clear hm hlen2 hl2
  go_enter Try.func27, Try.ntmps27
  go_wp2_with fail
  go_region_with (first
    | (go_at_call 37
       refine (of_calls A2 (c - l1.length) l2 _ _ hb2d HL2.out).mono ?_
       rintro e w0 ⟨rfl, rfl⟩)
    | (go_at_call 25
       refine (refSum_calls A c l1 w.drew hb1d (Few.mk (by omega))).mono ?_
       rintro e w1 ⟨rfl, hB1⟩))
  all_goals go_wp2_with (first
    | (at_builtin
       refine append_b el_u8 rfl (.tmp 20) (.tmp 23) rfl rfl (own_lit w1 w1.heap.size 5 [] (by simp) (Few.mk (by simp)) (Nat.le_refl _)) rfl (((hb1d.below hB1).mono hB1.size).keep (alloc_below w1 _)) (Few.mk (by simp; omega)) (by simp) ?_
       intro v2 w2 hown hb))
  all_goals go_ret2
  all_goals exact ⟨v2, rfl, by rw [← H1.out]; exact hown.base hB1.size, below_then (below_then (drewN_below (Below.refl _ w) 1) hB1) ((alloc_below w1 _).trans hb)⟩

set_option maxRecDepth 100000 in
set_option maxHeartbeats 1000000 in
theorem refOpen_bad (A : Option Addr) (c : Nat) (l : List Nat) (w : World) (ha : Bytes w w.heap.size A l) (hc : l.length ≤ c) (hf : Few l.length) (h : 4 ≤ l.length)
    (hm : ¬ l.drop (l.length - 4) = wordB (crc (l.take (l.length - 4)))) :
    Calls Try.prog 27 #[.slice A l.length c] w fun e w' => e = .returned (.tuple #[.slice none 0 0, .int .i64 5]) ∧ Below w.heap.size w w' := by
  have hl := hf.le
  obtain ⟨l1, H1⟩ : ∃ q, Hid (q = l.take (l.length - 4)) := ⟨_, rfl⟩
  obtain ⟨l2, H2⟩ : ∃ q, Hid (q = l.drop (l.length - 4)) := ⟨_, rfl⟩
  rw [← H1.out, ← H2.out] at hm
  have hl2 : ∀ b ∈ l2, b < 256 := by rw [H2.out]; exact fun b hb => ha.2 b (List.mem_of_mem_drop hb)
  have hlen1 : l1.length + 4 = l.length := by rw [H1.out, List.length_take]; omega
  have hlen2 : l2.length = 4 := by rw [H2.out, List.length_drop]; omega
  have hbq : ((ofB l2 : Int) == (crc l1 : Int)) = false := by
    rw [beq_eq_false_iff_ne]; intro e; apply hm; rw [← wordB_ofB l2 hlen2 hl2]; congr 1; omega
  have hk : (l.length : Int) - 4 = (l1.length : Int) := by omega
  have hb1 : Bytes w w.heap.size A l1 := by rw [H1.out]; exact ha.take _
  have hb2 : Bytes w w.heap.size (cutAt A c l1.length 1) l2 := by
    have e : l2 = l.drop l1.length := by rw [H2.out]; congr 1; omega
    rw [e]; exact ha.cut _ _ (by omega) hc
  have hcut := run_cut_l el_u8 A l.length c l1.length 4 (by omega) (by omega)
  generalize cutAt A c l1.length 1 = A2 at *
  have hle1 : l1.length ≤ c := by omega
  have hb2d : Bytes w.drew w.drew.heap.size A2 l2 := hb2.drewN 1
  have hb1d : Bytes w.drew w.drew.heap.size A l1 := hb1.drewN 1
  have HM := Lib.hid hm
  have HL2 := Lib.hid hlen2
  clear hm hlen2 hl2
  go_enter Try.func27, Try.ntmps27
  go_wp2_with fail
  go_region_with (first
    | (go_at_call 37
       refine (of_calls A2 (c - l1.length) l2 _ _ hb2d HL2.out).mono ?_
       rintro e w0 ⟨rfl, rfl⟩)
    | (go_at_call 25
       refine (refSum_calls A c l1 w.drew hb1d (Few.mk (by omega))).mono ?_
       rintro e w1 ⟨rfl, hB1⟩))
  all_goals go_wp2
  all_goals go_ret2
  all_goals exact ⟨rfl, below_then (drewN_below (Below.refl _ w) 1) hB1⟩
end Go.Proofs.Ytbddgmikbpggeaa
