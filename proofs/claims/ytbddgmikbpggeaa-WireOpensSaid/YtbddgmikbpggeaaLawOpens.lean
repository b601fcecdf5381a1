/- The walk of the statement WireOpens. -/
import Derived.Test.YtbddgmikbpggeaaRefOpen
namespace Go.Proofs.Ytbddgmikbpggeaa
open Go.RowKit
set_option linter.unusedVariables false
set_option linter.unusedSimpArgs false

theorem seal_take (l : List Nat) : (sealB l).take ((sealB l).length - 4) = l := by
  rw [sealB, List.length_append, show (wordB (crc l)).length = 4 from rfl, Nat.add_sub_cancel, List.take_left']
  rfl
theorem seal_drop (l : List Nat) : (sealB l).drop ((sealB l).length - 4) = wordB (crc l) := by
  rw [sealB, List.length_append, show (wordB (crc l)).length = 4 from rfl, Nat.add_sub_cancel, List.drop_left']
  rfl
theorem seal_length (l : List Nat) : (sealB l).length = l.length + 4 := by
  rw [sealB, List.length_append]; rfl

set_option maxRecDepth 100000 in
set_option maxHeartbeats 1600000 in
theorem wireOpens_short (A : Option Addr) (c : Nat) (l : List Nat) (w : World) (ha : Bytes w w.heap.size A l) (hc : l.length ≤ c) (hs : (l.take 200).length < 4) :
    Calls Try.prog 5 #[.slice A l.length c] w fun e w' => e = .returned (.bool true) ∧ Below w.heap.size w w' := by
  obtain ⟨k1, hk1⟩ : ∃ k : Nat, k = (l.take 200).length := ⟨_, rfl⟩
  have hm1 : (if (200 : Int) < (l.length : Int) then (200 : Int) else (l.length : Int)) = (k1 : Int) := by rw [hk1, List.length_take]; split <;> omega
  have hk1c : k1 ≤ c := by rw [hk1, List.length_take]; omega
  have hA : Bytes w w.heap.size A (l.take 200) := ha.take 200
  have HK1 := Lib.hid hk1
  clear ha hk1
  go_enter Try.func5, Try.ntmps5
  go_wp2_with fail
  rw [HK1.out]
  have hle : (l.take 200).length ≤ 200 := by rw [List.length_take]; omega
  have hlc : (l.take 200).length ≤ c := by rw [← HK1.out]; exact hk1c
  clear hm1 HK1 hk1c
  generalize l.take 200 = l' at *
  have hB : Below w.heap.size w w := Below.refl _ _
  obtain ⟨w0, hw0⟩ : ∃ w0 : World, w0 = w := ⟨_, rfl⟩
  rw [← hw0] at hA ⊢
  have hB : Below w.heap.size w w0 := by rw [hw0]; exact hB
  have HW0 := Lib.hid hw0
  clear hw0
  refine (seal_calls A c l' _ hA (Few.mk (by omega))).mono ?_
  rintro e w1 ⟨v1, rfl, hown, hb⟩
  obtain ⟨lS, HS⟩ : ∃ q, Hid (q = sealB l') := ⟨_, rfl⟩
  rw [← HS.out] at hown
  have hlS : lS.length ≤ 1000 := by rw [HS.out]; rw [seal_length]; omega
  obtain ⟨S, cS, rfl, hS, hcS, _⟩ := hown.bytes
  clear hown
  have K := hb
  replace hA := hA.keep K
  replace hB := below_then hB K
  clear K
  clear hb
  go_wp2_with fail
  refine (sum_calls A c l' _ hA (Few.mk (by omega))).mono ?_
  rintro e w2 ⟨rfl, hb⟩
  have K := hb
  replace hA := hA.keep K
  replace hS := hS.keep K
  replace hB := below_then hB K
  clear K
  clear hb
  go_wp2_with fail
  refine (refSum_calls A c l' _ hA (Few.mk (by omega))).mono ?_
  rintro e w3 ⟨rfl, hb⟩
  have K := hb
  replace hA := hA.keep K
  replace hS := hS.keep K
  replace hB := below_then hB K
  clear K
  clear hb
  go_wp2_with (first
    | (at_builtin
       refine append_b el_u8 rfl (.tmp 24) (.tmp 25) rfl rfl (own_lit w3 w3.heap.size 5 [] (by simp) (Few.mk (by simp)) (Nat.le_refl _)) rfl (hA.keep (alloc_below w3 _)) (Few.mk (by simp; omega)) (by simp) ?_
       intro v4 w4 hown hb
       have hbb := (alloc_below w3 _).trans hb
       simp only [List.nil_append] at hown))
  refine (refSum_calls A c l' _ (hA.keep hbb) (Few.mk (by omega))).mono ?_
  rintro e w5 ⟨rfl, hb2⟩
  replace hown := hown.keep hb2
  replace hbb := below_then hbb hb2
  clear hb2 hb
  go_wp2_with fail
  refine (refWord_calls (crc l') _ (crc_lt l')).mono ?_
  rintro e w6 ⟨v6, rfl, hown2, hb2⟩
  obtain ⟨R, cR, rfl, hR, _⟩ := hown2.bytes
  replace hown := hown.keep hb2
  replace hbb := below_then hbb hb2
  clear hown2 hb2
  go_wp2_with (first
    | (at_builtin
       refine append_b el_u8 rfl (.tmp 26) (.tmp 29) rfl rfl hown rfl hR (Few.mk (by simp [wordB]; omega)) hbb.size ?_
       intro v7 w7 hown3 hb
       replace hbb := hbb.trans hb
       replace hown3 : OwnB w7 w3.heap.size 5 v7 (sealB l') := hown3
       rw [← HS.out] at hown3
       obtain ⟨R3, cR3, rfl, hR3, _⟩ := hown3.bytes))
  clear hb hR hown hown3
  refine (same_eq S R3 cS cR3 lS lS _ (hS.keep hbb) hR3 (Few.mk (by omega)) rfl).mono ?_
  rintro e w8 ⟨rfl, hb⟩
  replace hbb := below_then hbb hb
  clear hb hR3
  have K := hbb
  replace hA := hA.keep K
  replace hS := hS.keep K
  replace hB := below_then hB K
  clear K
  clear hbb
  go_wp2_with fail
  have hS4 : lS.length = l'.length + 4 := by rw [HS.out, seal_length]
  have HS4 := Lib.hid hS4
  clear hS4
  refine (open_ok S cS lS _ hS hcS (Few.mk (by omega)) (by have := HS4.out; omega) (by rw [HS.out, seal_take, seal_drop])).mono ?_
  rintro e w9 ⟨v9, rfl, hown, hb⟩
  rw [HS.out, seal_take] at hown
  obtain ⟨X, cX, rfl, hX, _⟩ := hown.bytes
  clear hown
  have K := hb
  replace hA := hA.keep K
  replace hS := hS.keep K
  replace hB := below_then hB K
  clear K
  clear hb
  go_wp2_with fail
  refine (open_short A c l' _ hs).mono ?_
  rintro e wx ⟨rfl, rfl⟩
  go_wp2_with fail
  refine (refOpen_short A c l' _ hs).mono ?_
  rintro e wx ⟨rfl, rfl⟩
  go_wp2_with fail
  refine (known2_calls _).mono ?_
  rintro e w10 ⟨rfl, hb⟩
  have K := hb
  replace hA := hA.keep K
  replace hS := hS.keep K
  replace hX := hX.keep K
  replace hB := below_then hB K
  clear K
  clear hb
  go_wp2_with fail
  refine (same_eq X A cX c l' l' _ hX hA (Few.mk (by omega)) rfl).mono ?_
  rintro e w11 ⟨rfl, hb⟩
  have K := hb
  replace hA := hA.keep K
  replace hS := hS.keep K
  replace hX := hX.keep K
  replace hB := below_then hB K
  clear K
  clear hb
  go_wp2_with fail
  refine (same_eq none none 0 0 [] [] _ (Bytes.nil _ _ _) (Bytes.nil _ _ _) (Few.mk (by simp)) rfl).mono ?_
  rintro e w12 ⟨rfl, hb⟩
  have K := hb
  replace hA := hA.keep K
  replace hS := hS.keep K
  replace hX := hX.keep K
  replace hB := below_then hB K
  clear K
  clear hb
  go_wp2
  go_ret
  exact ⟨rfl, hB⟩

set_option maxRecDepth 100000 in
set_option maxHeartbeats 1600000 in
theorem wireOpens_ok (A : Option Addr) (c : Nat) (l : List Nat) (w : World) (ha : Bytes w w.heap.size A l) (hc : l.length ≤ c) (hs : 4 ≤ (l.take 200).length) (hm : (l.take 200).drop ((l.take 200).length - 4) = wordB (crc ((l.take 200).take ((l.take 200).length - 4)))) :
    Calls Try.prog 5 #[.slice A l.length c] w fun e w' => e = .returned (.bool true) ∧ Below w.heap.size w w' := by
  obtain ⟨k1, hk1⟩ : ∃ k : Nat, k = (l.take 200).length := ⟨_, rfl⟩
  have hm1 : (if (200 : Int) < (l.length : Int) then (200 : Int) else (l.length : Int)) = (k1 : Int) := by rw [hk1, List.length_take]; split <;> omega
  have hk1c : k1 ≤ c := by rw [hk1, List.length_take]; omega
  have hA : Bytes w w.heap.size A (l.take 200) := ha.take 200
  have HK1 := Lib.hid hk1
  clear ha hk1
  go_enter Try.func5, Try.ntmps5
  go_wp2_with fail
  rw [HK1.out]
  have hle : (l.take 200).length ≤ 200 := by rw [List.length_take]; omega
  have hlc : (l.take 200).length ≤ c := by rw [← HK1.out]; exact hk1c
  clear hm1 HK1 hk1c
  generalize l.take 200 = l' at *
  have hB : Below w.heap.size w w := Below.refl _ _
  obtain ⟨w0, hw0⟩ : ∃ w0 : World, w0 = w := ⟨_, rfl⟩
  rw [← hw0] at hA ⊢
  have hB : Below w.heap.size w w0 := by rw [hw0]; exact hB
  have HW0 := Lib.hid hw0
  clear hw0
  refine (seal_calls A c l' _ hA (Few.mk (by omega))).mono ?_
  rintro e w1 ⟨v1, rfl, hown, hb⟩
  obtain ⟨lS, HS⟩ : ∃ q, Hid (q = sealB l') := ⟨_, rfl⟩
  rw [← HS.out] at hown
  have hlS : lS.length ≤ 1000 := by rw [HS.out]; rw [seal_length]; omega
  obtain ⟨S, cS, rfl, hS, hcS, _⟩ := hown.bytes
  clear hown
  have K := hb
  replace hA := hA.keep K
  replace hB := below_then hB K
  clear K
  clear hb
  go_wp2_with fail
  refine (sum_calls A c l' _ hA (Few.mk (by omega))).mono ?_
  rintro e w2 ⟨rfl, hb⟩
  have K := hb
  replace hA := hA.keep K
  replace hS := hS.keep K
  replace hB := below_then hB K
  clear K
  clear hb
  go_wp2_with fail
  refine (refSum_calls A c l' _ hA (Few.mk (by omega))).mono ?_
  rintro e w3 ⟨rfl, hb⟩
  have K := hb
  replace hA := hA.keep K
  replace hS := hS.keep K
  replace hB := below_then hB K
  clear K
  clear hb
  go_wp2_with (first
    | (at_builtin
       refine append_b el_u8 rfl (.tmp 24) (.tmp 25) rfl rfl (own_lit w3 w3.heap.size 5 [] (by simp) (Few.mk (by simp)) (Nat.le_refl _)) rfl (hA.keep (alloc_below w3 _)) (Few.mk (by simp; omega)) (by simp) ?_
       intro v4 w4 hown hb
       have hbb := (alloc_below w3 _).trans hb
       simp only [List.nil_append] at hown))
  refine (refSum_calls A c l' _ (hA.keep hbb) (Few.mk (by omega))).mono ?_
  rintro e w5 ⟨rfl, hb2⟩
  replace hown := hown.keep hb2
  replace hbb := below_then hbb hb2
  clear hb2 hb
  go_wp2_with fail
  refine (refWord_calls (crc l') _ (crc_lt l')).mono ?_
  rintro e w6 ⟨v6, rfl, hown2, hb2⟩
  obtain ⟨R, cR, rfl, hR, _⟩ := hown2.bytes
  replace hown := hown.keep hb2
  replace hbb := below_then hbb hb2
  clear hown2 hb2
  go_wp2_with (first
    | (at_builtin
       refine append_b el_u8 rfl (.tmp 26) (.tmp 29) rfl rfl hown rfl hR (Few.mk (by simp [wordB]; omega)) hbb.size ?_
       intro v7 w7 hown3 hb
       replace hbb := hbb.trans hb
       replace hown3 : OwnB w7 w3.heap.size 5 v7 (sealB l') := hown3
       rw [← HS.out] at hown3
       obtain ⟨R3, cR3, rfl, hR3, _⟩ := hown3.bytes))
  clear hb hR hown hown3
  refine (same_eq S R3 cS cR3 lS lS _ (hS.keep hbb) hR3 (Few.mk (by omega)) rfl).mono ?_
  rintro e w8 ⟨rfl, hb⟩
  replace hbb := below_then hbb hb
  clear hb hR3
  have K := hbb
  replace hA := hA.keep K
  replace hS := hS.keep K
  replace hB := below_then hB K
  clear K
  clear hbb
  go_wp2_with fail
  have hS4 : lS.length = l'.length + 4 := by rw [HS.out, seal_length]
  have HS4 := Lib.hid hS4
  clear hS4
  refine (open_ok S cS lS _ hS hcS (Few.mk (by omega)) (by have := HS4.out; omega) (by rw [HS.out, seal_take, seal_drop])).mono ?_
  rintro e w9 ⟨v9, rfl, hown, hb⟩
  rw [HS.out, seal_take] at hown
  obtain ⟨X, cX, rfl, hX, _⟩ := hown.bytes
  clear hown
  have K := hb
  replace hA := hA.keep K
  replace hS := hS.keep K
  replace hB := below_then hB K
  clear K
  clear hb
  go_wp2_with fail
  refine (open_ok A c l' _ hA hlc (Few.mk (by omega)) hs hm).mono ?_
  rintro e w10 ⟨v10, rfl, hown, hb⟩
  obtain ⟨lY, HY⟩ : ∃ q, Hid (q = l'.take (l'.length - 4)) := ⟨_, rfl⟩
  rw [← HY.out] at hown
  have hlY : lY.length ≤ 1000 := by rw [HY.out]; rw [List.length_take]; omega
  obtain ⟨Y, cY, rfl, hY, hcY, _⟩ := hown.bytes
  clear hown
  have K := hb
  replace hA := hA.keep K
  replace hS := hS.keep K
  replace hX := hX.keep K
  replace hB := below_then hB K
  clear K
  clear hb
  go_wp2_with fail
  refine (refOpen_ok A c l' _ hA hlc (Few.mk (by omega)) hs hm).mono ?_
  rintro e w11 ⟨v11, rfl, hown, hb⟩
  rw [← HY.out] at hown
  obtain ⟨Z, cZ, rfl, hZ, hcZ, _⟩ := hown.bytes
  clear hown
  have K := hb
  replace hA := hA.keep K
  replace hS := hS.keep K
  replace hX := hX.keep K
  replace hY := hY.keep K
  replace hB := below_then hB K
  clear K
  clear hb
  go_wp2_with fail
  refine (known2_calls _).mono ?_
  rintro e w12 ⟨rfl, hb⟩
  have K := hb
  replace hA := hA.keep K
  replace hS := hS.keep K
  replace hX := hX.keep K
  replace hY := hY.keep K
  replace hZ := hZ.keep K
  replace hB := below_then hB K
  clear K
  clear hb
  go_wp2_with fail
  refine (same_eq X A cX c l' l' _ hX hA (Few.mk (by omega)) rfl).mono ?_
  rintro e w13 ⟨rfl, hb⟩
  have K := hb
  replace hA := hA.keep K
  replace hS := hS.keep K
  replace hX := hX.keep K
  replace hY := hY.keep K
  replace hZ := hZ.keep K
  replace hB := below_then hB K
  clear K
  clear hb
  go_wp2_with fail
  refine (same_eq Y Z cY cZ lY lY _ hY hZ (Few.mk (by omega)) rfl).mono ?_
  rintro e w14 ⟨rfl, hb⟩
  have K := hb
  replace hA := hA.keep K
  replace hS := hS.keep K
  replace hX := hX.keep K
  replace hY := hY.keep K
  replace hZ := hZ.keep K
  replace hB := below_then hB K
  clear K
  clear hb
  go_wp2
  go_ret
  exact ⟨rfl, hB⟩

set_option maxRecDepth 100000 in
set_option maxHeartbeats 1600000 in
theorem wireOpens_bad (A : Option Addr) (c : Nat) (l : List Nat) (w : World) (ha : Bytes w w.heap.size A l) (hc : l.length ≤ c) (hs : 4 ≤ (l.take 200).length) (hm : ¬ (l.take 200).drop ((l.take 200).length - 4) = wordB (crc ((l.take 200).take ((l.take 200).length - 4)))) :
    Calls Try.prog 5 #[.slice A l.length c] w fun e w' => e = .returned (.bool true) ∧ Below w.heap.size w w' := by
  obtain ⟨k1, hk1⟩ : ∃ k : Nat, k = (l.take 200).length := ⟨_, rfl⟩
  have hm1 : (if (200 : Int) < (l.length : Int) then (200 : Int) else (l.length : Int)) = (k1 : Int) := by rw [hk1, List.length_take]; split <;> omega
  have hk1c : k1 ≤ c := by rw [hk1, List.length_take]; omega
  have hA : Bytes w w.heap.size A (l.take 200) := ha.take 200
  have HK1 := Lib.hid hk1
  clear ha hk1
  go_enter Try.func5, Try.ntmps5
  go_wp2_with fail
  rw [HK1.out]
  have hle : (l.take 200).length ≤ 200 := by rw [List.length_take]; omega
  have hlc : (l.take 200).length ≤ c := by rw [← HK1.out]; exact hk1c
  clear hm1 HK1 hk1c
  generalize l.take 200 = l' at *
  have hB : Below w.heap.size w w := Below.refl _ _
  obtain ⟨w0, hw0⟩ : ∃ w0 : World, w0 = w := ⟨_, rfl⟩
  rw [← hw0] at hA ⊢
  have hB : Below w.heap.size w w0 := by rw [hw0]; exact hB
  have HW0 := Lib.hid hw0
  clear hw0
  refine (seal_calls A c l' _ hA (Few.mk (by omega))).mono ?_
  rintro e w1 ⟨v1, rfl, hown, hb⟩
  obtain ⟨lS, HS⟩ : ∃ q, Hid (q = sealB l') := ⟨_, rfl⟩
  rw [← HS.out] at hown
  have hlS : lS.length ≤ 1000 := by rw [HS.out]; rw [seal_length]; omega
  obtain ⟨S, cS, rfl, hS, hcS, _⟩ := hown.bytes
  clear hown
  have K := hb
  replace hA := hA.keep K
  replace hB := below_then hB K
  clear K
  clear hb
  go_wp2_with fail
  refine (sum_calls A c l' _ hA (Few.mk (by omega))).mono ?_
  rintro e w2 ⟨rfl, hb⟩
  have K := hb
  replace hA := hA.keep K
  replace hS := hS.keep K
  replace hB := below_then hB K
  clear K
  clear hb
  go_wp2_with fail
  refine (refSum_calls A c l' _ hA (Few.mk (by omega))).mono ?_
  rintro e w3 ⟨rfl, hb⟩
  have K := hb
  replace hA := hA.keep K
  replace hS := hS.keep K
  replace hB := below_then hB K
  clear K
  clear hb
  go_wp2_with (first
    | (at_builtin
       refine append_b el_u8 rfl (.tmp 24) (.tmp 25) rfl rfl (own_lit w3 w3.heap.size 5 [] (by simp) (Few.mk (by simp)) (Nat.le_refl _)) rfl (hA.keep (alloc_below w3 _)) (Few.mk (by simp; omega)) (by simp) ?_
       intro v4 w4 hown hb
       have hbb := (alloc_below w3 _).trans hb
       simp only [List.nil_append] at hown))
  refine (refSum_calls A c l' _ (hA.keep hbb) (Few.mk (by omega))).mono ?_
  rintro e w5 ⟨rfl, hb2⟩
  replace hown := hown.keep hb2
  replace hbb := below_then hbb hb2
  clear hb2 hb
  go_wp2_with fail
  refine (refWord_calls (crc l') _ (crc_lt l')).mono ?_
  rintro e w6 ⟨v6, rfl, hown2, hb2⟩
  obtain ⟨R, cR, rfl, hR, _⟩ := hown2.bytes
  replace hown := hown.keep hb2
  replace hbb := below_then hbb hb2
  clear hown2 hb2
  go_wp2_with (first
    | (at_builtin
       refine append_b el_u8 rfl (.tmp 26) (.tmp 29) rfl rfl hown rfl hR (Few.mk (by simp [wordB]; omega)) hbb.size ?_
       intro v7 w7 hown3 hb
       replace hbb := hbb.trans hb
       replace hown3 : OwnB w7 w3.heap.size 5 v7 (sealB l') := hown3
       rw [← HS.out] at hown3
       obtain ⟨R3, cR3, rfl, hR3, _⟩ := hown3.bytes))
  clear hb hR hown hown3
  refine (same_eq S R3 cS cR3 lS lS _ (hS.keep hbb) hR3 (Few.mk (by omega)) rfl).mono ?_
  rintro e w8 ⟨rfl, hb⟩
  replace hbb := below_then hbb hb
  clear hb hR3
  have K := hbb
  replace hA := hA.keep K
  replace hS := hS.keep K
  replace hB := below_then hB K
  clear K
  clear hbb
  go_wp2_with fail
  have hS4 : lS.length = l'.length + 4 := by rw [HS.out, seal_length]
  have HS4 := Lib.hid hS4
  clear hS4
  refine (open_ok S cS lS _ hS hcS (Few.mk (by omega)) (by have := HS4.out; omega) (by rw [HS.out, seal_take, seal_drop])).mono ?_
  rintro e w9 ⟨v9, rfl, hown, hb⟩
  rw [HS.out, seal_take] at hown
  obtain ⟨X, cX, rfl, hX, _⟩ := hown.bytes
  clear hown
  have K := hb
  replace hA := hA.keep K
  replace hS := hS.keep K
  replace hB := below_then hB K
  clear K
  clear hb
  go_wp2_with fail
  refine (open_bad A c l' _ hA hlc (Few.mk (by omega)) hs hm).mono ?_
  rintro e w10 ⟨rfl, hb⟩
  have K := hb
  replace hA := hA.keep K
  replace hS := hS.keep K
  replace hX := hX.keep K
  replace hB := below_then hB K
  clear K
  clear hb
  go_wp2_with fail
  refine (refOpen_bad A c l' _ hA hlc (Few.mk (by omega)) hs hm).mono ?_
  rintro e w11 ⟨rfl, hb⟩
  have K := hb
  replace hA := hA.keep K
  replace hS := hS.keep K
  replace hX := hX.keep K
  replace hB := below_then hB K
  clear K
  clear hb
  go_wp2_with fail
  refine (known2_calls _).mono ?_
  rintro e w12 ⟨rfl, hb⟩
  have K := hb
  replace hA := hA.keep K
  replace hS := hS.keep K
  replace hX := hX.keep K
  replace hB := below_then hB K
  clear K
  clear hb
  go_wp2_with fail
  refine (same_eq X A cX c l' l' _ hX hA (Few.mk (by omega)) rfl).mono ?_
  rintro e w13 ⟨rfl, hb⟩
  have K := hb
  replace hA := hA.keep K
  replace hS := hS.keep K
  replace hX := hX.keep K
  replace hB := below_then hB K
  clear K
  clear hb
  go_wp2_with fail
  refine (same_eq none none 0 0 [] [] _ (Bytes.nil _ _ _) (Bytes.nil _ _ _) (Few.mk (by simp)) rfl).mono ?_
  rintro e w14 ⟨rfl, hb⟩
  have K := hb
  replace hA := hA.keep K
  replace hS := hS.keep K
  replace hX := hX.keep K
  replace hB := below_then hB K
  clear K
  clear hb
  go_wp2
  go_ret
  exact ⟨rfl, hB⟩

end Go.Proofs.Ytbddgmikbpggeaa
