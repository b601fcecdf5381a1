/- The walk of the statement WirePuts. -/
import Derived.Test.YtbddgmikbpggeaaRef2
namespace Go.Proofs.Ytbddgmikbpggeaa
open Go.RowKit
set_option linter.unusedVariables false
set_option linter.unusedSimpArgs false

set_option maxRecDepth 100000 in
set_option maxHeartbeats 4000000 in
theorem wirePuts_walk (A : Option Addr) (c : Nat) (l : List Nat) (n : Nat) (s : ByteArray) (v : Nat) (w : World) (ha : Bytes w w.heap.size A l) (hc : l.length ≤ c) (hcm : c ≤ maxLen) (hn : n < 18446744073709551616) (hs : s.size ≤ maxLen) (hv : v < 4294967296) :
    Calls Try.prog 3 #[.slice A l.length c, .int .u64 (n : Int), .string s, .int .u32 (v : Int)] w fun e w' => e = .returned (.bool true) ∧ Below w.heap.size w w' := by
  obtain ⟨k1, hk1⟩ : ∃ k : Nat, k = (l.take 200).length := ⟨_, rfl⟩
  have hm1 : (if (200 : Int) < (l.length : Int) then (200 : Int) else (l.length : Int)) = (k1 : Int) := by rw [hk1, List.length_take]; split <;> omega
  have hk1le : k1 ≤ 200 := by rw [hk1, List.length_take]; omega
  have hk1l : k1 ≤ l.length := by rw [hk1, List.length_take]; omega
  obtain ⟨k2, hk2⟩ : ∃ k : Nat, k = min 200 s.size := ⟨_, rfl⟩
  have hm2 : (if (200 : Int) < (s.size : Int) then (200 : Int) else (s.size : Int)) = (k2 : Int) := by split <;> omega
  have hk2le : k2 ≤ 200 := by omega
  have hk2l : k2 ≤ s.size := by omega
  have hsz : (s.extract 0 k2).size ≤ 200 := by rw [ByteArray.size_extract]; omega
  have ha' : Bytes w w.heap.size A (l.take 200) := ha.take 200
  have HK1 := Lib.hid hk1
  have HK2 := Lib.hid hk2
  have HC := Lib.hid hcm
  have HS := Lib.hid hs
  clear hcm hs ha hk1 hk2
  go_enter Try.func3, Try.ntmps3
  go_wp2_with fail
  go_quiet (fail)
  rw [HK1.out]
  have hle : (l.take 200).length ≤ 200 := by rw [← HK1.out]; exact hk1le
  clear hm1 hm2 hk1l hk2l HK1 hk1le
  generalize l.take 200 = l' at *
  generalize s.extract 0 k2 = s' at *
  have hA : Bytes (w.drewN nq) (w.drewN nq).heap.size A l' := ha'.drewN nq
  have hB : Below w.heap.size w (w.drewN nq) := drewN_below (Below.refl _ _) nq
  clear ha'
  generalize w.drewN nq = w0 at *
  go_wp2_with (first
    | (at_builtin
       refine append_b el_u8 rfl (.tmp 23) (.tmp 24) rfl rfl (own_lit w0 w0.heap.size 5 [] (by simp) (Few.mk (by simp)) (Nat.le_refl _)) rfl (hA.keep (alloc_below w0 _)) (Few.mk (by simp; omega)) (by simp) ?_
       intro v1 w1 hown1 hb1
       obtain ⟨W, cW1, rfl, hW, _⟩ := hown1.bytes))
  simp only [List.nil_append] at hW
  clear hown1
  have K := (alloc_below w0 _).trans hb1
  replace hA := hA.keep K
  replace hB := below_then hB K
  clear K
  clear hb1
  go_wp2_with fail
  refine (putVar_calls A c l' n _ hA hn (Few.mk (by omega))).mono ?_
  rintro e w2 ⟨v2, rfl, hown, hb⟩
  obtain ⟨lX, HX⟩ : ∃ q, Hid (q = l' ++ varB n) := ⟨_, rfl⟩
  rw [← HX.out] at hown
  have hlX : lX.length ≤ 1000 := by rw [HX.out]; have := varB_length n; simp; omega
  obtain ⟨X, cX, rfl, hX, _⟩ := hown.bytes
  clear hown
  have K := hb
  replace hA := hA.keep K
  replace hW := hW.keep K
  replace hB := below_then hB K
  clear K
  clear hb
  go_wp2_with fail
  refine (putText_calls A c l' s' _ hA (Few.mk (by omega))).mono ?_
  rintro e w3 ⟨v3, rfl, hown, hb⟩
  obtain ⟨lY, HY⟩ : ∃ q, Hid (q = l' ++ textB s') := ⟨_, rfl⟩
  rw [← HY.out] at hown
  have hlY : lY.length ≤ 1000 := by rw [HY.out]; have := varB_length s'.size; have := sB_length s'; simp [textB]; omega
  obtain ⟨Y, cY, rfl, hY, _⟩ := hown.bytes
  clear hown
  have K := hb
  replace hA := hA.keep K
  replace hW := hW.keep K
  replace hX := hX.keep K
  replace hB := below_then hB K
  clear K
  clear hb
  go_wp2_with fail
  refine (putWord_calls A c l' v _ hA hv (Few.mk (by omega))).mono ?_
  rintro e w4 ⟨v4, rfl, hown, hb⟩
  obtain ⟨lZ, HZ⟩ : ∃ q, Hid (q = l' ++ wordB v) := ⟨_, rfl⟩
  rw [← HZ.out] at hown
  have hlZ : lZ.length ≤ 1000 := by rw [HZ.out]; simp [wordB]; omega
  obtain ⟨Z, cZ, rfl, hZ, _⟩ := hown.bytes
  clear hown
  have K := hb
  replace hA := hA.keep K
  replace hW := hW.keep K
  replace hX := hX.keep K
  replace hY := hY.keep K
  replace hB := below_then hB K
  clear K
  clear hb
  go_wp2_with fail
  refine (known2_calls _).mono ?_
  rintro e w5 ⟨rfl, hb⟩
  have K := hb
  replace hA := hA.keep K
  replace hW := hW.keep K
  replace hX := hX.keep K
  replace hY := hY.keep K
  replace hZ := hZ.keep K
  replace hB := below_then hB K
  clear K
  clear hb
  go_wp2_with fail
  refine (same_eq A W c cW1 l' l' _ hA hW (Few.mk (by omega)) rfl).mono ?_
  rintro e w6 ⟨rfl, hb⟩
  have K := hb
  replace hA := hA.keep K
  replace hW := hW.keep K
  replace hX := hX.keep K
  replace hY := hY.keep K
  replace hZ := hZ.keep K
  replace hB := below_then hB K
  clear K
  clear hb
  go_wp2_with (first
    | (at_builtin
       refine append_b el_u8 rfl (.tmp 43) (.tmp 44) rfl rfl (own_lit w6 w6.heap.size 5 [] (by simp) (Few.mk (by simp)) (Nat.le_refl _)) rfl (hW.keep (alloc_below w6 _)) (Few.mk (by simp; omega)) (by simp) ?_
       intro v7 w7 hown hb
       have hbb := (alloc_below w6 _).trans hb
       simp only [List.nil_append] at hown))
  refine (refVar_calls n _ hn).mono ?_
  rintro e w8 ⟨v8, rfl, hown2, hb2⟩
  obtain ⟨R, cR, rfl, hR, _⟩ := hown2.bytes
  clear hown2 hb
  replace hown := hown.keep hb2
  replace hbb := below_then hbb hb2
  clear hb2
  go_wp2_with (first
    | (at_builtin
       refine append_b el_u8 rfl (.tmp 45) (.tmp 47) rfl rfl hown rfl hR (Few.mk (by have := varB_length n; simp; omega)) hbb.size ?_
       intro v9 w9 hown3 hb
       replace hbb := hbb.trans hb
       rw [← HX.out] at hown3
       obtain ⟨R3, cR3, rfl, hR3, _⟩ := hown3.bytes))
  clear hb hR hown hown3
  refine (same_eq X R3 cX cR3 lX lX _ (hX.keep hbb) hR3 (Few.mk (by omega)) rfl).mono ?_
  rintro e w10 ⟨rfl, hb⟩
  replace hbb := below_then hbb hb
  clear hb hR3
  have K := hbb
  replace hA := hA.keep K
  replace hW := hW.keep K
  replace hX := hX.keep K
  replace hY := hY.keep K
  replace hZ := hZ.keep K
  replace hB := below_then hB K
  clear K
  clear hbb
  go_wp2_with (first
    | (at_builtin
       refine append_b el_u8 rfl (.tmp 53) (.tmp 54) rfl rfl (own_lit w10 w10.heap.size 5 [] (by simp) (Few.mk (by simp)) (Nat.le_refl _)) rfl (hW.keep (alloc_below w10 _)) (Few.mk (by simp; omega)) (by simp) ?_
       intro v11 w11 hown hb
       have hbb := (alloc_below w10 _).trans hb
       simp only [List.nil_append] at hown))
  refine (refText_calls s' _ (Few.mk (by omega))).mono ?_
  rintro e w12 ⟨v12, rfl, hown2, hb2⟩
  obtain ⟨R, cR, rfl, hR, _⟩ := hown2.bytes
  clear hown2 hb
  replace hown := hown.keep hb2
  replace hbb := below_then hbb hb2
  clear hb2
  go_wp2_with (first
    | (at_builtin
       refine append_b el_u8 rfl (.tmp 55) (.tmp 57) rfl rfl hown rfl hR (Few.mk (by have := varB_length s'.size; have := sB_length s'; simp [textB]; omega)) hbb.size ?_
       intro v13 w13 hown3 hb
       replace hbb := hbb.trans hb
       rw [← HY.out] at hown3
       obtain ⟨R3, cR3, rfl, hR3, _⟩ := hown3.bytes))
  clear hb hR hown hown3
  refine (same_eq Y R3 cY cR3 lY lY _ (hY.keep hbb) hR3 (Few.mk (by omega)) rfl).mono ?_
  rintro e w14 ⟨rfl, hb⟩
  replace hbb := below_then hbb hb
  clear hb hR3
  have K := hbb
  replace hA := hA.keep K
  replace hW := hW.keep K
  replace hX := hX.keep K
  replace hY := hY.keep K
  replace hZ := hZ.keep K
  replace hB := below_then hB K
  clear K
  clear hbb
  go_wp2_with (first
    | (at_builtin
       refine append_b el_u8 rfl (.tmp 63) (.tmp 64) rfl rfl (own_lit w14 w14.heap.size 5 [] (by simp) (Few.mk (by simp)) (Nat.le_refl _)) rfl (hW.keep (alloc_below w14 _)) (Few.mk (by simp; omega)) (by simp) ?_
       intro v15 w15 hown hb
       have hbb := (alloc_below w14 _).trans hb
       simp only [List.nil_append] at hown))
  refine (refWord_calls v _ hv).mono ?_
  rintro e w16 ⟨v16, rfl, hown2, hb2⟩
  obtain ⟨R, cR, rfl, hR, _⟩ := hown2.bytes
  clear hown2 hb
  replace hown := hown.keep hb2
  replace hbb := below_then hbb hb2
  clear hb2
  go_wp2_with (first
    | (at_builtin
       refine append_b el_u8 rfl (.tmp 65) (.tmp 67) rfl rfl hown rfl hR (Few.mk (by simp [wordB]; omega)) hbb.size ?_
       intro v17 w17 hown3 hb
       replace hbb := hbb.trans hb
       rw [← HZ.out] at hown3
       obtain ⟨R3, cR3, rfl, hR3, _⟩ := hown3.bytes))
  clear hb hR hown hown3
  refine (same_eq Z R3 cZ cR3 lZ lZ _ (hZ.keep hbb) hR3 (Few.mk (by omega)) rfl).mono ?_
  rintro e w18 ⟨rfl, hb⟩
  replace hbb := below_then hbb hb
  clear hb hR3
  have K := hbb
  replace hA := hA.keep K
  replace hW := hW.keep K
  replace hX := hX.keep K
  replace hY := hY.keep K
  replace hZ := hZ.keep K
  replace hB := below_then hB K
  clear K
  clear hbb
  go_wp2
  go_ret
  exact ⟨rfl, hB⟩
end Go.Proofs.Ytbddgmikbpggeaa
