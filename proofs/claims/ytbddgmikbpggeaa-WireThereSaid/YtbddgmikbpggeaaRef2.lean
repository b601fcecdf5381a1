/- The contracts of the reference's functions that layer 2's statements call. -/
import Derived.Test.YtbddgmikbpggeaaWireSum
import Derived.Lib.SlBytesConst
namespace Go.Proofs.Ytbddgmikbpggeaa
open Go.RowKit
set_option linter.unusedVariables false
set_option linter.unusedSimpArgs false

set_option maxHeartbeats 400000 in
theorem same_calls (A B : Option Addr) (c d : Nat) (l m : List Nat) (w : World) (Bl Bm : Nat) (ha : Bytes w Bl A l) (hb : Bytes w Bm B m) (hf : Few l.length) :
    Calls Try.prog 19 #[.slice A l.length c, .slice B m.length d] w fun e w' => e = .returned (.bool (decide (l = m))) ∧ ∃ q, w' = w.drewN q := by
  have hl := hf.le
  by_cases hlen : l.length = m.length
  · have hne : ((l.length : Int) != (m.length : Int)) = false := by simp [hlen]
    have HLEN := Lib.hid hlen
    clear hlen
    go_enter Try.func19, Try.ntmps19
    go_wp2_with fail
    go_loopw [5] (fun v5 wr => ∃ (k q : Nat), v5 = .int .i64 (k : Int) ∧ k ≤ l.length ∧ Hid (l.take k = m.take k) ∧ wr = w.drewN q) (fun v5 _ => l.length - (intOf v5).toNat)
    case atStart => exact ⟨0, 0, rfl, by omega, rfl, rfl⟩
    case round =>
      obtain ⟨k, q, rfl, hk, hpre, rfl⟩ := hrel
      by_cases h : k < l.length
      · have h' : k < m.length := by have := HLEN.out; omega
        obtain ⟨ad, rfl, _, hx, hcx⟩ := ha.at_ h
        obtain ⟨bd, rfl, _, hy, hcy⟩ := hb.at_ h'
        by_cases hxy : l[k] = m[k]
        · have hs : l.take (k + 1) = m.take (k + 1) := by
            rw [List.take_succ_eq_append_getElem h, List.take_succ_eq_append_getElem h', hpre.out, hxy]
          rw [← hxy] at hcy
          have HS := Lib.hid hs
          have HXY := Lib.hid hxy
          clear hs hxy
          generalize l[k] = x at *
          have hk0 : (0 : Int) ≤ (k : Int) := by omega
          have hkl : (k : Int) < (l.length : Int) := by omega
          have hkm : (k : Int) < (m.length : Int) := by omega
          go_wp2
          go_quiet (fail)
          go_wp2
          go_roundw
          case rel => exact ⟨k + 1, _, by go_num, by omega, HS, rfl⟩
          case measure => simp [intOf]; omega
        · have hxy' : ((l[k] : Int) != (m[k] : Int)) = true := by simp; omega
          have hfin : ¬ l = m := by rintro rfl; exact hxy rfl
          clear hxy
          generalize l[k] = x at *
          generalize m[k] = y at *
          have hk0 : (0 : Int) ≤ (k : Int) := by omega
          have hkl : (k : Int) < (l.length : Int) := by omega
          have hkm : (k : Int) < (m.length : Int) := by omega
          go_wp2
          go_quiet (fail)
          go_wp2
          go_ret
          exact ⟨ret_bool (by simp [hfin]), _, World.drewN_drewN _ _ _⟩
      · obtain rfl : k = l.length := by omega
        have hfin : l = m := by
          have h1 := hpre.out
          rw [List.take_length, HLEN.out, List.take_length] at h1
          exact h1
        have HF := Lib.hid hfin
        clear hfin
        go_wp2
        go_ret
        exact ⟨ret_bool (by simp [HF.out]), _, rfl⟩
  · have hne : ((l.length : Int) != (m.length : Int)) = true := by simp; omega
    have hfin : ¬ l = m := by rintro rfl; exact hlen rfl
    go_enter Try.func19, Try.ntmps19
    go_wp2
    go_ret
    exact ⟨ret_bool (by simp [hfin]), 0, rfl⟩

set_option maxHeartbeats 400000 in
theorem refVar_calls (n : Nat) (w : World) (hn : n < 18446744073709551616) :
    Calls Try.prog 20 #[.int .u64 (n : Int)] w fun e w' => ∃ v, e = .returned v ∧ OwnB w' w.heap.size 5 v (varB n) ∧ Below w.heap.size w w' := by
  obtain ⟨b, hb⟩ : ∃ b : Nat, b = n % 128 := ⟨_, rfl⟩
  have hbi : (n : Int) % 128 = (b : Int) := by omega
  have hown := own_lit w w.heap.size 5 [b] (by simp; omega) (Few.mk (by simp)) (Nat.le_refl _)
  have hbl : b < 128 := by omega
  have HB := Lib.hid hb
  have HN := Lib.hid hn
  clear hb
  go_enter Try.func20, Try.ntmps20
  go_wp2_with fail
  go_loopw [0, 3] (fun v0 v3 wr => ∃ (k m : Nat) (tail : List Nat), v0 = .int .u64 (m : Int) ∧ k ≤ 9 ∧ Hid (m < 128 ^ k) ∧ Hid (highB k m ++ tail = varB n) ∧ Hid (tail.length ≤ 10 - k) ∧ OwnB wr w.heap.size 5 v3 tail ∧ Below w.heap.size w wr) (fun v0 _ _ => (intOf v0).toNat)
  case atStart =>
    refine ⟨9, n / 128, [b], by simp, by omega, ?_, ?_, by show 1 ≤ 10 - 9; omega, hown, alloc_below w _⟩
    · have := HN.out; show n / 128 < 128 ^ 9; omega
    · show _ = varB n; rw [HB.out]; rfl
  case round =>
    clear hown hbi hn
    obtain ⟨k, m, tail, rfl, hk, hm, hq, hlen, hown, hbw⟩ := hrel
    by_cases h : 0 < m
    · have hk1 : 1 ≤ k := by
        rcases Nat.eq_zero_or_pos k with h | h
        · subst h; have := hm.out; simp at this; omega
        · exact h
      have hm64 : m < 18446744073709551616 := by
        have h1 := hm.out
        have h2 : 128 ^ k ≤ 128 ^ 9 := Nat.pow_le_pow_right (by omega) hk
        omega
      obtain ⟨x, hx⟩ : ∃ x : Nat, x = 128 + m % 128 := ⟨_, rfl⟩
      have hxi : 128 + (m : Int) % 128 = (x : Int) := by omega
      have hxl : x < 256 := by omega
      have hlit := own_lit wr wr.heap.size 5 [x] (by simp; omega) (Few.mk (by simp)) (Nat.le_refl _)
      obtain ⟨A, c, rfl, hbs, _⟩ := hown.bytes
      have hl2 := hlen.out
      have HX := Lib.hid hx
      clear hx
      go_wp2_with (first
        | (at_builtin
           refine append_b el_u8 rfl (.tmp 16) (.tmp 17) rfl rfl hlit rfl (hbs.keep (alloc_below wr _)) (Few.mk (by simp; omega)) (by simp) ?_
           intro v2 w2 hown2 hb2))
      go_roundw
      case rel =>
        refine ⟨k - 1, m / 128, x :: tail, by simp, by omega, ?_, ?_, ?_, hown2.base hbw.size, ?_⟩
        · have h1 := hm.out
          show m / 128 < 128 ^ (k - 1)
          obtain ⟨j, rfl⟩ : ∃ j, k = j + 1 := ⟨k - 1, by omega⟩
          rw [Nat.pow_succ] at h1
          simp only [Nat.add_sub_cancel]
          omega
        · have h1 := hq.out
          obtain ⟨j, rfl⟩ : ∃ j, k = j + 1 := ⟨k - 1, by omega⟩
          rw [highB, if_neg (by omega), ← HX.out] at h1
          show highB (j + 1 - 1) (m / 128) ++ _ = _
          simpa using h1
        · show tail.length + 1 ≤ _; omega
        · exact (hbw.trans ((alloc_below wr _).mono hbw.size)).trans (hb2.mono (by have := hbw.size; simp; omega))
      case measure => simp [intOf]; omega
    · go_wp2
      go_ret
      refine ⟨_, rfl, ?_, hbw⟩
      have h1 := hq.out
      obtain rfl : m = 0 := by omega
      have e : highB k 0 = [] := by cases k <;> rfl
      rw [e] at h1
      rw [← h1]
      exact hown

theorem info_u8z : (Try.prog.info? 5).map (fun i => i.zero) = some (some (.int .u8 0)) := by kernel_rfl

/-- A text's bytes. -/
def textB (s : ByteArray) : List Nat := varB s.size ++ sB s

set_option maxHeartbeats 400000 in
theorem putText_calls (A : Option Addr) (c : Nat) (l : List Nat) (s : ByteArray) (w : World) (ha : Bytes w w.heap.size A l) (hf : Few (l.length + 10 + s.size)) :
    Calls Try.prog 16 #[.slice A l.length c, .string s] w fun e w' => ∃ v, e = .returned v ∧ OwnB w' w.heap.size 5 v (l ++ textB s) ∧ Below w.heap.size w w' := by
  have hs := hf.le
  have hv := varB_length s.size
  go_enter Try.func16, Try.ntmps16
  go_wp2_with (first
    | (go_at_call 15
       refine (putVar_calls A c l s.size w ha (by omega) (Few.mk (by omega))).mono ?_
       rintro e w1 ⟨v1, rfl, hown1, hb1⟩)
    | (at_builtin
       refine append_s el_u8 info_u8z Try.underlying9 rfl (.tmp 9) (.tmp 10) rfl rfl hown1 rfl (Few.mk (by simp; omega)) hb1.size ?_
       intro v2 w2 hown2 hb2))
  go_ret
  exact ⟨v2, rfl, by simpa [textB] using hown2, hb1.trans hb2⟩

set_option maxHeartbeats 400000 in
theorem refText_calls (s : ByteArray) (w : World) (hf : Few (10 + s.size)) :
    Calls Try.prog 21 #[.string s] w fun e w' => ∃ v, e = .returned v ∧ OwnB w' w.heap.size 5 v (textB s) ∧ Below w.heap.size w w' := by
  have hs := hf.le
  have hv := varB_length s.size
  go_enter Try.func21, Try.ntmps21
  go_wp2_with (first
    | (go_at_call 20
       refine (refVar_calls s.size w (by omega)).mono ?_
       rintro e w1 ⟨v1, rfl, hown1, hb1⟩)
    | (at_builtin
       refine append_s el_u8 info_u8z Try.underlying9 rfl (.tmp 6) (.tmp 7) rfl rfl hown1 rfl (Few.mk (by omega)) hb1.size ?_
       intro v2 w2 hown2 hb2))
  go_ret
  exact ⟨v2, rfl, by simpa [textB] using hown2, hb1.trans hb2⟩

set_option maxHeartbeats 400000 in
theorem refWord_calls (n : Nat) (w : World) (hn : n < 4294967296) :
    Calls Try.prog 22 #[.int .u32 (n : Int)] w fun e w' => ∃ v, e = .returned v ∧ OwnB w' w.heap.size 5 v (wordB n) ∧ Below w.heap.size w w' := by
  have hlit := own_lit w w.heap.size 5 (wordB n) (wordB_lt n hn) (Few.mk (by simp [wordB])) (Nat.le_refl _)
  have hB := alloc_below w (.cells (u8s (wordB n)).toArray 5)
  simp only [u8s, wordB, List.map_cons, List.map_nil, List.length_cons, List.length_nil, Nat.zero_add, Nat.reduceAdd, Int.natCast_ediv, Int.natCast_emod, Int.cast_ofNat_Int] at hlit hB
  go_enter Try.func22, Try.ntmps22
  go_wp2
  go_ret
  exact ⟨_, rfl, hlit, hB⟩

theorem same_eq (A B : Option Addr) (c d : Nat) (l m : List Nat) (w : World) (ha : Bytes w w.heap.size A l) (hb : Bytes w w.heap.size B m) (hf : Few l.length) (h : l = m) :
    Calls Try.prog 19 #[.slice A l.length c, .slice B m.length d] w fun e w' => e = .returned (.bool true) ∧ Below w.heap.size w w' :=
  (same_calls A B c d l m w _ _ ha hb hf).mono fun e w' ⟨he, q, hq⟩ => ⟨by rw [he, decide_eq_true h], by rw [hq]; exact drewN_below (Below.refl _ _) q⟩

theorem lit_bytes (w : World) (e : TypeId) (l : List Nat) (hl : ∀ b ∈ l, b < 256) : Bytes (w.alloc (.cells (u8s l).toArray e)) (w.alloc (.cells (u8s l).toArray e)).heap.size (some ⟨w.heap.size, 0, none⟩) l := by
  have h := Blk.new w e (u8s l).toArray
  exact Blk.bytes (front := []) (tail := l) (by simpa using h) hl

set_option maxRecDepth 100000 in
set_option maxHeartbeats 800000 in
theorem lit_bytes_mark (w : World) (e : TypeId) (fr : Nat × Nat) (l : List Nat) (hl : ∀ b ∈ l, b < 256) : Bytes (w.alloc (.cells (u8s l).toArray e fr)) (w.alloc (.cells (u8s l).toArray e fr)).heap.size (some ⟨w.heap.size, 0, none⟩) l := by
  refine ⟨⟨by simp [u8s], fun _ => ⟨_, rfl, by simp, fun j u hu => ?_⟩⟩, hl⟩
  have e0 : (⟨w.heap.size, 0, none⟩ : Addr).add j = ⟨w.heap.size, j, none⟩ := by unfold Addr.add; split <;> simp_all
  rw [e0, World.cell?_alloc_mark]
  simpa using hu

theorem known2_calls (w : World) :
    Calls Try.prog 18 #[] w fun e w' => e = .returned (.bool true) ∧ Below w.heap.size w w' := by
  go_enter Try.func18, Try.ntmps18
  go_wp2_with fail
  refine (putVar_calls none 0 [] 300 w (Bytes.nil _ _ _) (by omega) (Few.mk (by simp))).mono ?_
  rintro e w1 ⟨v1, rfl, hown1, hb1⟩
  obtain ⟨A1, c1, rfl, hby1, _⟩ := hown1.bytes
  clear hown1
  go_wp2_with fail
  refine (same_eq A1 (some ⟨w1.heap.size, 0, none⟩) c1 2 ([] ++ varB 300) [130, 44] _ (hby1.keep (alloc_below w1 _)) (lit_bytes w1 _ [130, 44] (by decide)) (Few.mk (by decide)) (by decide)).mono ?_
  rintro e w2 ⟨rfl, hb2⟩
  replace hb2 := below_then hb1 (below_then (alloc_below w1 _) hb2)
  clear hb1 hby1
  go_wp2_with fail
  refine (putText_calls (some ⟨w2.heap.size, 0, none⟩) 1 [9] ⟨#[97, 98]⟩ _ (lit_bytes w2 _ [9] (by decide)) (Few.mk (by decide))).mono ?_
  rintro e w3 ⟨v3, rfl, hown3, hb3⟩
  obtain ⟨A3, c3, rfl, hby3, _⟩ := hown3.bytes
  clear hown3
  replace hb3 := below_then hb2 (below_then (alloc_below w2 _) hb3)
  clear hb2
  go_wp2_with fail
  refine (same_eq A3 (some ⟨w3.heap.size, 0, none⟩) c3 4 ([9] ++ textB ⟨#[97, 98]⟩) [9, 2, 97, 98] _ (hby3.keep (alloc_below w3 _)) (lit_bytes w3 _ [9, 2, 97, 98] (by decide)) (Few.mk (by decide)) (by decide)).mono ?_
  rintro e w4 ⟨rfl, hb4⟩
  replace hb4 := below_then hb3 (below_then (alloc_below w3 _) hb4)
  clear hb3 hby3
  go_wp2_with fail
  refine (putWord_calls none 0 [] 258 w4 (Bytes.nil _ _ _) (by omega) (Few.mk (by simp))).mono ?_
  rintro e w5 ⟨v5, rfl, hown5, hb5⟩
  obtain ⟨A5, c5, rfl, hby5, _⟩ := hown5.bytes
  clear hown5
  replace hb5 := below_then hb4 hb5
  clear hb4
  go_wp2_with fail
  refine (same_eq A5 (some ⟨w5.heap.size, 0, none⟩) c5 4 ([] ++ wordB 258) [0, 0, 1, 2] _ (hby5.keep (alloc_below w5 _)) (lit_bytes w5 _ [0, 0, 1, 2] (by decide)) (Few.mk (by decide)) (by decide)).mono ?_
  rintro e w6 ⟨rfl, hb6⟩
  replace hb6 := below_then hb5 (below_then (alloc_below w5 _) hb6)
  clear hb5 hby5
  have hs1 : crc [49, 50, 51, 52, 53, 54, 55, 56, 57] = 4236843288 := by decide +kernel
  have hs0 : crc [] = 0 := by decide +kernel
  have hcv := fun (W : World) (C : Array Value) (n c : Nat) => Lib.run_convert_bytes_const (P := Try.prog) W 22 5 C n c Try.underlying22 Try.underlying5
  have HS1 := Lib.hid hs1
  have HS0 := Lib.hid hs0
  clear hs1 hs0
  go_wp2_with fail
  refine (sum_calls (some ⟨w6.heap.size, 0, none⟩) 9 [49, 50, 51, 52, 53, 54, 55, 56, 57] _ (lit_bytes_mark w6 _ _ _ (by decide)) (Few.mk (by decide))).mono ?_
  rintro e w7 ⟨rfl, hb7⟩
  rw [HS1.out]
  replace hb7 := below_then hb6 (below_then (alloc_below w6 _) hb7)
  clear hb6
  go_wp2_with fail
  refine (sum_calls none 0 [] _ (Bytes.nil _ _ _) (Few.mk (by simp))).mono ?_
  rintro e w8 ⟨rfl, hb8⟩
  rw [HS0.out]
  replace hb8 := below_then hb7 hb8
  clear hb7
  go_wp2
  go_ret
  exact ⟨rfl, hb8⟩
end Go.Proofs.Ytbddgmikbpggeaa
