/- The walk of the statement WireApart. -/
import Derived.Test.YtbddgmikbpggeaaRef2
import Derived.Test.YtbddgmikbpggeaaWords2
import Derived.Deep.RegionLaw
namespace Go.Proofs.Ytbddgmikbpggeaa
open Go.RowKit
set_option linter.unusedVariables false
set_option linter.unusedSimpArgs false

set_option maxRecDepth 100000 in
set_option maxHeartbeats 1600000 in
theorem wireApart_walk (A : Option Addr) (c : Nat) (l : List Nat) (n m : Nat) (w : World) (ha : Bytes w w.heap.size A l) (hc : l.length ≤ c) (hn : n < 18446744073709551616) (hm : m < 18446744073709551616) :
    Calls Try.prog 4 #[.slice A l.length c, .int .u64 (n : Int), .int .u64 (m : Int)] w fun e w' => e = .returned (.bool true) ∧ Below w.heap.size w w' := by
  obtain ⟨k1, hk1⟩ : ∃ k : Nat, k = (l.take 100).length := ⟨_, rfl⟩
  have hm1 : (if (100 : Int) < (l.length : Int) then (100 : Int) else (l.length : Int)) = (k1 : Int) := by rw [hk1, List.length_take]; split <;> omega
  have hk1c : k1 ≤ c := by rw [hk1, List.length_take]; omega
  have hle : (l.take 100).length ≤ 100 := by rw [List.length_take]; omega
  have hA : Bytes w w.heap.size A (l.take 100) := ha.take 100
  rw [hk1] at hm1 hk1c
  clear ha hk1
  generalize l.take 100 = l' at *
  obtain ⟨Z, hmk⟩ := run_make0 el_u8 (by omega) 300 (Few.mk (by omega))
  have hmk1 : ∀ W : World, (Instr.makeSlice 22 (.int .i64 0) (.int .i64 300)).run Try.prog W = .ok (.slice (some ⟨W.heap.size, 0, none⟩) 0 300) (W.alloc (.cells Z 5)) := fun W => (hmk W).1
  have hmk2 := Lib.hid fun W => (hmk W).2
  clear hmk
  go_enter Try.func4, Try.ntmps4
  go_wp2_with fail
  have hown0 : OwnB (w.alloc (.cells Z 5)).drew w.heap.size 5 (.slice (some ⟨w.heap.size, 0, none⟩) 0 300) [] := ⟨hmk2.out w, by simp⟩
  have hA0 : Bytes (w.alloc (.cells Z 5)).drew (w.alloc (.cells Z 5)).drew.heap.size A l' := (hA.keep (alloc_below w _)).drewN 1
  go_region_law (refine step_of rfl ?_; refine wp_append_b el_u8 (.tmp 11) (.tmp 16) rfl rfl hown0 rfl hA0 (Few.mk (by simp; omega)) (by simp) ?_; intro v0 w0 hown hb)
  all_goals
    simp only [List.nil_append] at hown
    obtain ⟨Bs, cB, rfl, hS, _⟩ := hown.bytes
    have hB : Below w.heap.size w w0 := ((alloc_below w _).trans (drewN_below (Below.refl _ _) 1)).trans hb
    clear hb hown hown0 hA0 hA hmk2
    go_wp2_with fail
    refine (putVar_calls Bs cB l' n _ hS hn (Few.mk (by omega))).mono ?_
    rintro e w1 ⟨v1, rfl, hown, hb⟩
    obtain ⟨lX, HX⟩ : ∃ q, Hid (q = l' ++ varB n) := ⟨_, rfl⟩
    rw [← HX.out] at hown
    have hlX : lX.length ≤ 1000 := by rw [HX.out]; have := varB_length n; simp; omega
    obtain ⟨X, cX, rfl, hX, hcX, _⟩ := hown.bytes
    clear hown
    have K := hb
    replace hS := hS.keep K
    replace hB := below_then hB K
    clear K
    clear hb
    go_wp2_with fail
    refine (putVar_calls Bs cB l' m _ hS hm (Few.mk (by omega))).mono ?_
    rintro e w2 ⟨vy, rfl, hY, hb⟩
    obtain ⟨ly, HY⟩ : ∃ q, Hid (q = l' ++ varB m) := ⟨_, rfl⟩
    rw [← HY.out] at hY
    have hly : ly.length ≤ 1000 := by rw [HY.out]; have := varB_length m; simp; omega
    have hlz : 0 < ly.length := by rw [HY.out]; simp [varB]; omega
    obtain ⟨gy, cy, rfl, hgb, hgl, hlc, _, _, _, _⟩ := hY.store (k := 0) hlz
    go_wp2_with (first
      | (at_builtin
         refine append_b el_u8 rfl (.tmp 25) (.tmp 26) rfl rfl (own_lit w2 w2.heap.size 5 [] (by simp) (Few.mk (by simp)) (Nat.le_refl _)) rfl ((hS.keep hb).keep (alloc_below w2 _)) (Few.mk (by simp; omega)) (by simp) ?_
         intro v3 w3 hown hb3
         have hbb := (alloc_below w2 _).trans hb3
         simp only [List.nil_append] at hown))
    refine (refVar_calls n _ hn).mono ?_
    rintro e w4 ⟨v4, rfl, hown2, hb4⟩
    obtain ⟨R, cR, rfl, hR, _⟩ := hown2.bytes
    clear hown2 hb3
    replace hown := hown.keep hb4
    replace hbb := below_then hbb hb4
    clear hb4
    go_wp2_with (first
      | (at_builtin
         refine append_b el_u8 rfl (.tmp 27) (.tmp 29) rfl rfl hown rfl hR (Few.mk (by have := varB_length n; omega)) hbb.size ?_
         intro v5 w5 hown3 hb5
         replace hbb := hbb.trans hb5
         rw [← HX.out] at hown3
         obtain ⟨R3, cR3, rfl, hR3, _⟩ := hown3.bytes))
    clear hb5 hR hown hown3
    refine (same_eq X R3 cX cR3 lX lX _ ((hX.keep hb).keep hbb) hR3 (Few.mk (by omega)) rfl).mono ?_
    rintro e w6 ⟨rfl, hb6⟩
    replace hbb := below_then hbb hb6
    clear hb6 hR3
    replace hY := hY.keep hbb
    replace hbb := below_then hb hbb
    clear hb
    have hlz2 : (((ly.length : Int) == 0)) = false := beq_eq_false_iff_ne.2 (by omega)
    go_wp2_with fail
    go_loopw [10] (fun v10 wr => ∃ (k : Nat) (lz : List Nat), v10 = .int .i64 (k : Int) ∧ k ≤ ly.length ∧ Hid (lz.length = ly.length) ∧ OwnB wr w1.heap.size 5 (.slice (some ⟨gy, 0, none⟩) ly.length cy) lz ∧ Below w1.heap.size w1 wr) (fun v10 _ => ly.length - (intOf v10).toNat)
    case atStart => exact ⟨0, ly, rfl, by omega, rfl, hY, hbb⟩
    case round =>
      clear hY hbb
      obtain ⟨k, lz, rfl, hk, HL, hY, hbb⟩ := hrel
      by_cases h : k < ly.length
      · obtain ⟨g', c', hv, _, _, _, hcell, hfr, hx, hset⟩ := hY.store (k := k) (by rw [HL.out]; exact h)
        injection hv with hv1 hv2 hv3
        injection hv1 with hv1
        injection hv1 with hv1
        subst hv1
        obtain ⟨x, hx0⟩ : ∃ x : Nat, x = lz[k]'(by rw [HL.out]; exact h) := ⟨_, rfl⟩
        rw [← hx0] at hcell hx
        clear hx0
        obtain ⟨y, hy⟩ : ∃ y : Nat, y = (x + 1) % 256 := ⟨_, rfl⟩
        have hyi : ((x : Int) + 1) % 256 = (y : Int) := by omega
        have hyl : y < 256 := by omega
        replace hset := hset y hyl
        have HSET := Lib.hid hset
        clear hset hy hv2 hv3
        go_wp2
        go_roundw
        case rel => exact ⟨k + 1, lz.set k y, by go_num, by omega, by have := HL.out; show _ = _; simpa using this, HSET.out, hbb.setCell (by omega) _⟩
        case measure => simp [intOf]; omega
      · clear hY
        replace hS := hS.keep hbb
        replace hX := hX.keep hbb
        replace hB := below_then hB hbb
        clear hbb
        go_wp2_with fail
        obtain ⟨w6, rfl⟩ : ∃ w6, w6 = wr := ⟨_, rfl⟩
        refine (known2_calls _).mono ?_
        rintro e w7 ⟨rfl, hb⟩
        have K := hb
        replace hS := hS.keep K
        replace hX := hX.keep K
        replace hB := below_then hB K
        clear K
        clear hb
        go_wp2_with (first
          | (at_builtin
             refine append_b el_u8 rfl (.tmp 53) (.tmp 54) rfl rfl (own_lit w7 w7.heap.size 5 [] (by simp) (Few.mk (by simp)) (Nat.le_refl _)) rfl (hS.keep (alloc_below w7 _)) (Few.mk (by simp; omega)) (by simp) ?_
             intro v8 w8 hown hb
             have hbb := (alloc_below w7 _).trans hb
             simp only [List.nil_append] at hown))
        refine (refVar_calls n _ hn).mono ?_
        rintro e w9 ⟨v9, rfl, hown2, hb2⟩
        obtain ⟨R, cR, rfl, hR, _⟩ := hown2.bytes
        clear hown2 hb
        replace hown := hown.keep hb2
        replace hbb := below_then hbb hb2
        clear hb2
        go_wp2_with (first
          | (at_builtin
             refine append_b el_u8 rfl (.tmp 55) (.tmp 57) rfl rfl hown rfl hR (Few.mk (by have := varB_length n; omega)) hbb.size ?_
             intro v10 w10 hown3 hb
             replace hbb := hbb.trans hb
             rw [← HX.out] at hown3
             obtain ⟨R3, cR3, rfl, hR3, _⟩ := hown3.bytes))
        clear hb hR hown hown3
        refine (same_eq X R3 cX cR3 lX lX _ (hX.keep hbb) hR3 (Few.mk (by omega)) rfl).mono ?_
        rintro e w11 ⟨rfl, hb⟩
        replace hB := below_then hB (below_then hbb hb)
        clear hb hR3 hbb
        go_wp2
        go_ret
        exact ⟨rfl, hB⟩
end Go.Proofs.Ytbddgmikbpggeaa
