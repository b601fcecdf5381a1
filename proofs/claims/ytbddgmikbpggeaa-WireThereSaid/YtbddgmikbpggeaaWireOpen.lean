/- The contracts of wire.Seal and wire.Open. -/
import Derived.Test.YtbddgmikbpggeaaRef2
import Derived.Deep.RegionWith
namespace Go.Proofs.Ytbddgmikbpggeaa
open Go.RowKit
set_option linter.unusedVariables false
set_option linter.unusedSimpArgs false

/-- Bytes and their sum. -/
def sealB (l : List Nat) : List Nat := l ++ wordB (crc l)

set_option maxHeartbeats 400000 in
theorem seal_calls (A : Option Addr) (c : Nat) (l : List Nat) (w : World) (ha : Bytes w w.heap.size A l) (hf : Few (l.length + 4)) :
    Calls Try.prog 23 #[.slice A l.length c] w fun e w' => ∃ v, e = .returned v ∧ OwnB w' w.heap.size 5 v (sealB l) ∧ Below w.heap.size w w' := by
  have hl := hf.le
  go_enter Try.func23, Try.ntmps23
  go_wp2_with fail
  refine (sum_calls A c l w ha (Few.mk (by omega))).mono ?_
  rintro e w1 ⟨rfl, hb1⟩
  go_wp2_with fail
  refine (putWord_calls A c l (crc l) w1 (ha.keep hb1) (crc_lt l) hf).mono ?_
  rintro e w2 ⟨v, rfl, hown, hb2⟩
  go_wp2
  go_ret
  exact ⟨v, rfl, hown.base hb1.size, below_then hb1 hb2⟩

set_option maxHeartbeats 400000 in
theorem open_short (A : Option Addr) (c : Nat) (l : List Nat) (w : World) (h : l.length < 4) :
    Calls Try.prog 26 #[.slice A l.length c] w fun e w' => e = .returned (.tuple #[.slice none 0 0, .int .i64 4]) ∧ w = w' := by
  go_enter Try.func26, Try.ntmps26
  go_wp2
  go_ret2
  exact ⟨rfl, rfl⟩

set_option maxRecDepth 100000 in
set_option maxHeartbeats 1000000 in
theorem open_ok (A : Option Addr) (c : Nat) (l : List Nat) (w : World) (ha : Bytes w w.heap.size A l) (hc : l.length ≤ c) (hf : Few l.length) (h : 4 ≤ l.length)
    (hm :  l.drop (l.length - 4) = wordB (crc (l.take (l.length - 4)))) :
    Calls Try.prog 26 #[.slice A l.length c] w fun e w' => ∃ v, e = .returned (.tuple #[v, .int .i64 0]) ∧ OwnB w' w.heap.size 5 v (l.take (l.length - 4)) ∧ Below w.heap.size w w' := by
  have hl := hf.le
  obtain ⟨l1, H1⟩ : ∃ q, Hid (q = l.take (l.length - 4)) := ⟨_, rfl⟩
  obtain ⟨l2, H2⟩ : ∃ q, Hid (q = l.drop (l.length - 4)) := ⟨_, rfl⟩
  rw [← H1.out, ← H2.out] at hm
  have hbq : ((bsB (wordB (crc l1))).toList == (bsB l2).toList) = true := by
    rw [bsB_beq (wordB_lt _ (crc_lt _)) (by rw [H2.out]; exact fun b hb => ha.2 b (List.mem_of_mem_drop hb))]
    simp [hm]
  have HM := Lib.hid hm
  clear hm
  have hlen1 : l1.length + 4 = l.length := by rw [H1.out, List.length_take]; omega
  have hlen2 : l2.length = 4 := by rw [H2.out, List.length_drop]; omega
  have hk : (l.length : Int) - 4 = (l1.length : Int) := by omega
  have hk2 : l.length - l1.length = l2.length := by omega
  have hb1 : Bytes w w.heap.size A l1 := by rw [H1.out]; exact ha.take _
  have hb2 : Bytes w w.heap.size (cutAt A c l1.length 1) l2 := by
    have e : l2 = l.drop l1.length := by rw [H2.out]; congr 1; omega
    rw [e]; exact ha.cut _ _ (by omega) hc
  have hcut := run_cut_l el_u8 A l.length c l1.length l2.length (by omega) (by omega)
  generalize cutAt A c l1.length 1 = A2 at *
  have hle1 : l1.length ≤ c := by omega
  have hlt1 : ¬ (l1.length : Int) < 0 := by omega
  have hb2d : Bytes w.drew w.drew.heap.size A2 l2 := hb2.drewN 1
  have hb1d : Bytes w.drew w.drew.heap.size A l1 := hb1.drewN 1
  have hcv0 := conv_b (P := Try.prog) (dst := 9) Try.underlying22 Try.underlying5 Try.underlying9 hb2d 4 (c - l1.length) hlen2.symm
  clear hk2
  go_enter Try.func26, Try.ntmps26
  go_wp2_with fail
  go_region_with (first
    | (go_at_call 24
       refine (sum_calls A c l1 w.drew hb1d (Few.mk (by omega))).mono ?_
       rintro e w1 ⟨rfl, hB1⟩
       have hcv1 := conv_b (P := Try.prog) (dst := 9) Try.underlying22 Try.underlying5 Try.underlying9 (hb2d.below hB1) 4 (c - l1.length) hlen2.symm)
    | (go_at_call 17
       refine (putWord_calls none 0 [] (crc l1) _ (Bytes.nil _ _ _) (crc_lt l1) (Few.mk (by simp))).mono ?_
       rintro e w2 ⟨v2, rfl, hown2, hB2⟩
       obtain ⟨A3, c3, rfl, hby2, _⟩ := hown2.bytes
       simp only [List.nil_append] at hby2
       replace hB2 := below_then hB1 hB2
       have hcv2 := conv_b (P := Try.prog) (dst := 9) Try.underlying22 Try.underlying5 Try.underlying9 (hb2d.below hB2) 4 (c - l1.length) hlen2.symm
       have hcv3 := conv_b (P := Try.prog) (dst := 9) Try.underlying22 Try.underlying5 Try.underlying9 hby2 (wordB (crc l1)).length c3 rfl))
  all_goals clear hcv0 hcv1 hcv2 hcv3 hbq hown2 hby2
  all_goals go_wp2_with fail
  all_goals refine (put_calls none A 0 c [] l1 w2 (Bytes.nil _ _ _) ((hb1d.below hB2).mono hB2.size) (Few.mk (by simp; omega))).mono ?_
  all_goals rintro e w3 ⟨v3, rfl, hown3, hB3⟩
  all_goals go_wp2
  all_goals go_ret2
  all_goals exact ⟨v3, rfl, by rw [← H1.out]; exact hown3.base hB2.size, below_then (below_then (drewN_below (Below.refl _ w) 1) hB2) hB3⟩

set_option maxRecDepth 100000 in
set_option maxHeartbeats 1000000 in
theorem open_bad (A : Option Addr) (c : Nat) (l : List Nat) (w : World) (ha : Bytes w w.heap.size A l) (hc : l.length ≤ c) (hf : Few l.length) (h : 4 ≤ l.length)
    (hm : ¬ l.drop (l.length - 4) = wordB (crc (l.take (l.length - 4)))) :
    Calls Try.prog 26 #[.slice A l.length c] w fun e w' => e = .returned (.tuple #[.slice none 0 0, .int .i64 5]) ∧ Below w.heap.size w w' := by
  have hl := hf.le
  obtain ⟨l1, H1⟩ : ∃ q, Hid (q = l.take (l.length - 4)) := ⟨_, rfl⟩
  obtain ⟨l2, H2⟩ : ∃ q, Hid (q = l.drop (l.length - 4)) := ⟨_, rfl⟩
  rw [← H1.out, ← H2.out] at hm
  have hbq : ((bsB (wordB (crc l1))).toList == (bsB l2).toList) = false := by
    rw [bsB_beq (wordB_lt _ (crc_lt _)) (by rw [H2.out]; exact fun b hb => ha.2 b (List.mem_of_mem_drop hb))]
    simp; exact fun e => hm e.symm
  have HM := Lib.hid hm
  clear hm
  have hlen1 : l1.length + 4 = l.length := by rw [H1.out, List.length_take]; omega
  have hlen2 : l2.length = 4 := by rw [H2.out, List.length_drop]; omega
  have hk : (l.length : Int) - 4 = (l1.length : Int) := by omega
  have hk2 : l.length - l1.length = l2.length := by omega
  have hb1 : Bytes w w.heap.size A l1 := by rw [H1.out]; exact ha.take _
  have hb2 : Bytes w w.heap.size (cutAt A c l1.length 1) l2 := by
    have e : l2 = l.drop l1.length := by rw [H2.out]; congr 1; omega
    rw [e]; exact ha.cut _ _ (by omega) hc
  have hcut := run_cut_l el_u8 A l.length c l1.length l2.length (by omega) (by omega)
  generalize cutAt A c l1.length 1 = A2 at *
  have hle1 : l1.length ≤ c := by omega
  have hlt1 : ¬ (l1.length : Int) < 0 := by omega
  have hb2d : Bytes w.drew w.drew.heap.size A2 l2 := hb2.drewN 1
  have hb1d : Bytes w.drew w.drew.heap.size A l1 := hb1.drewN 1
  have hcv0 := conv_b (P := Try.prog) (dst := 9) Try.underlying22 Try.underlying5 Try.underlying9 hb2d 4 (c - l1.length) hlen2.symm
  clear hk2
  go_enter Try.func26, Try.ntmps26
  go_wp2_with fail
  go_region_with (first
    | (go_at_call 24
       refine (sum_calls A c l1 w.drew hb1d (Few.mk (by omega))).mono ?_
       rintro e w1 ⟨rfl, hB1⟩
       have hcv1 := conv_b (P := Try.prog) (dst := 9) Try.underlying22 Try.underlying5 Try.underlying9 (hb2d.below hB1) 4 (c - l1.length) hlen2.symm)
    | (go_at_call 17
       refine (putWord_calls none 0 [] (crc l1) _ (Bytes.nil _ _ _) (crc_lt l1) (Few.mk (by simp))).mono ?_
       rintro e w2 ⟨v2, rfl, hown2, hB2⟩
       obtain ⟨A3, c3, rfl, hby2, _⟩ := hown2.bytes
       simp only [List.nil_append] at hby2
       replace hB2 := below_then hB1 hB2
       have hcv2 := conv_b (P := Try.prog) (dst := 9) Try.underlying22 Try.underlying5 Try.underlying9 (hb2d.below hB2) 4 (c - l1.length) hlen2.symm
       have hcv3 := conv_b (P := Try.prog) (dst := 9) Try.underlying22 Try.underlying5 Try.underlying9 hby2 (wordB (crc l1)).length c3 rfl))
  all_goals clear hcv0 hcv1 hcv2 hcv3 hbq hown2 hby2
  all_goals go_wp2
  all_goals go_ret2
  all_goals exact ⟨rfl, below_then (drewN_below (Below.refl _ w) 1) hB2⟩
end Go.Proofs.Ytbddgmikbpggeaa
