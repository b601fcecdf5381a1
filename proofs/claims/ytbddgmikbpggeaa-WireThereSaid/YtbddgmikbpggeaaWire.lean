/- The contracts of package wire's functions that put bytes. -/
import Derived.Test.YtbddgmikbpggeaaProg
import Derived.Test.YtbddgmikbpggeaaWords
namespace Go.Proofs.Ytbddgmikbpggeaa
set_option linter.unusedVariables false
set_option linter.unusedSimpArgs false
open Go.RowKit

theorem info_u8 : (Try.prog.info? 5).map (fun i => (i.zero, i.size, i.bytes)) = some (some (.int .u8 0), 1, 1) := by kernel_rfl
theorem el_u8 : ElemOk Try.prog 22 5 1 1 := by
  obtain ⟨i0, hi0, hz0, hz1, hz2⟩ := info_parts info_u8
  exact ⟨i0, _, Try.underlying22, hi0, hz0, hz1, hz2, rfl, by omega⟩

set_option maxHeartbeats 400000 in
theorem put_calls (A B : Option Addr) (c d : Nat) (l m : List Nat) (w : World) (ha : Bytes w w.heap.size A l) (hb : Bytes w w.heap.size B m) (hn : Few (l.length + m.length)) :
    Calls Try.prog 54 #[.slice A l.length c, .slice B m.length d] w fun e w' => ∃ v, e = .returned v ∧ OwnB w' w.heap.size 5 v (l ++ m) ∧ Below w.heap.size w w' := by
  have h63 : l.length + m.length ≤ 1000000 := hn.le
  go_enter Try.func54, Try.ntmps54
  go_wp2_with (first
    | (at_make
       refine make_own el_u8 (by omega) rfl _ _ rfl rfl rfl (by push_cast; rfl) hn w.heap.size (Nat.le_refl _) ?_
       intro w1 hown1 hb1)
    | (at_builtin
       refine append_b el_u8 rfl (.tmp 10) (.tmp 11) rfl (l := []) rfl ⟨hown1, by simp⟩ rfl (ha.below hb1) (Few.mk (by simp; omega)) hb1.size ?_
       intro v2 w2 hown2 hb2)
    | (at_builtin
       refine append_b el_u8 rfl (.tmp 12) (.tmp 13) rfl rfl hown2 rfl (hb.below (hb1.trans hb2)) (Few.mk (by simp; omega)) (hb1.trans hb2).size ?_
       intro v3 w3 hown3 hb3))
  go_ret
  exact ⟨v3, rfl, by simpa using hown3, (hb1.trans hb2).trans hb3⟩

/-- A word's four bytes, the highest first. -/
def wordB (n : Nat) : List Nat := [n / 16777216, n / 65536 % 256, n / 256 % 256, n % 256]
theorem wordB_lt (n : Nat) (hn : n < 4294967296) : ∀ b ∈ wordB n, b < 256 := by
  intro b hb
  simp only [wordB, List.mem_cons, List.not_mem_nil, or_false] at hb
  omega

set_option maxHeartbeats 400000 in
theorem putWord_calls (A : Option Addr) (c : Nat) (l : List Nat) (n : Nat) (w : World) (ha : Bytes w w.heap.size A l) (hn : n < 4294967296) (hf : Few (l.length + 4)) :
    Calls Try.prog 17 #[.slice A l.length c, .int .u32 (n : Int)] w fun e w' => ∃ v, e = .returned v ∧ OwnB w' w.heap.size 5 v (l ++ wordB n) ∧ Below w.heap.size w w' := by
  have hlit := own_lit w w.heap.size 5 (wordB n) (wordB_lt n hn) (Few.mk (by simp [wordB])) (Nat.le_refl _)
  obtain ⟨_, _, hv, hlb, _⟩ := hlit.bytes
  injection hv with hv1 _ _
  subst hv1
  have hput := put_calls A (some ⟨w.heap.size, 0, none⟩) c 4 l (wordB n) _ (ha.keep (alloc_below w _)) hlb hf
  have hB := alloc_below w (.cells (u8s (wordB n)).toArray 5)
  simp only [u8s, wordB, List.map_cons, List.map_nil, List.length_cons, List.length_nil, Nat.zero_add, Nat.reduceAdd, Int.natCast_ediv, Int.natCast_emod, Int.cast_ofNat_Int] at hput hB
  have H := Lib.hid hput
  clear hput hlb hlit
  go_enter Try.func17, Try.ntmps17
  go_wp2_with fail
  refine (H.out).mono ?_
  rintro e w' ⟨v, rfl, hown, hb⟩
  go_wp2
  go_ret
  exact ⟨v, rfl, hown.base (by simp), below_then hB hb⟩

/-- A number's digits to the base 128 but the last, each marked, the highest first (at most f of them). -/
def highB : Nat → Nat → List Nat
  | 0, _ => []
  | f + 1, m => if m = 0 then [] else highB f (m / 128) ++ [128 + m % 128]
/-- A number's bytes. -/
def varB (n : Nat) : List Nat := highB 9 (n / 128) ++ [n % 128]
theorem highB_lt (f : Nat) : ∀ m, ∀ b ∈ highB f m, b < 256 := by
  induction f with
  | zero => intro m b hb; simp [highB] at hb
  | succ f ih =>
    intro m b hb
    unfold highB at hb
    split at hb
    · simp at hb
    · rcases List.mem_append.1 hb with h | h
      · exact ih _ b h
      · simp at h; omega
theorem highB_length (f : Nat) : ∀ m, (highB f m).length ≤ f := by
  induction f with
  | zero => intro m; simp [highB]
  | succ f ih =>
    intro m
    unfold highB
    split
    · simp
    · have := ih (m / 128); simp; omega
theorem varB_lt (n : Nat) : ∀ b ∈ varB n, b < 256 := by
  intro b hb
  rcases List.mem_append.1 hb with h | h
  · exact highB_lt _ _ b h
  · simp at h; omega
theorem varB_length (n : Nat) : (varB n).length ≤ 10 := by
  have := highB_length 9 (n / 128)
  unfold varB; simp; omega

/-- What stands in the array while a number's bytes come: 'at' zeros, and the bytes that are there. -/
theorem set_zeros (k : Nat) (tail : List Nat) (v : Nat) : (u8s (List.replicate (k + 1) 0 ++ tail)).set k (.int .u8 (v : Int)) = u8s (List.replicate k 0 ++ v :: tail) := by
  simp only [u8s, ← List.map_set]
  congr 1
  rw [List.replicate_succ', List.append_assoc, List.set_append_right _ _ (by simp)]
  simp

set_option maxRecDepth 100000 in
set_option maxHeartbeats 400000 in
theorem putVar_calls (A : Option Addr) (c : Nat) (l : List Nat) (n : Nat) (w : World) (ha : Bytes w w.heap.size A l) (hn : n < 18446744073709551616) (hf : Few (l.length + 10)) :
    Calls Try.prog 15 #[.slice A l.length c, .int .u64 (n : Int)] w fun e w' => ∃ v, e = .returned v ∧ OwnB w' w.heap.size 5 v (l ++ varB n) ∧ Below w.heap.size w w' := by
  have h127 := and127 n hn
  have hN := Lib.hid hn
  clear hn
  go_enter Try.func15, Try.ntmps15
  go_wp2_with fail
  go_loopw [1, 6] (fun v1 v6 wr => ∃ (k m : Nat) (tail : List Nat), v1 = .int .u64 (m : Int) ∧ v6 = .int .i64 (k : Int) ∧ k ≤ 9 ∧ Hid (m < 128 ^ k) ∧ Hid (highB k m ++ tail = varB n) ∧ Hid (∀ b ∈ tail, b < 256) ∧ Hid (tail.length + k = 10) ∧
      Blk wr w.heap.size 101 (u8s (List.replicate k 0 ++ tail)) ∧ Below w.heap.size w wr) (fun _ v6 _ => (intOf v6).toNat)
  case atStart =>
    refine ⟨9, n / 128, [n % 128], by simp, rfl, by omega, ?_, rfl, ?_, rfl, ?_, alloc_below w _⟩
    · have := hN.out; show n / 128 < 128 ^ 9; omega
    · intro b hb; simp at hb; omega
    · exact Blk.new w _ _
  case round =>
    obtain ⟨k, m, tail, rfl, rfl, hk, hm, hq, ht, hlen, hblk, hb⟩ := hrel
    have hfr := hblk.frozen (k - 1)
    by_cases h0 : 0 < m
    · have hk1 : 1 ≤ k := by
        rcases Nat.eq_zero_or_pos k with h | h
        · subst h; have := hm.out; simp at this; omega
        · exact h
      have hc0 : wr.cell? ⟨w.heap.size, k - 1, none⟩ = some (.int .u8 0) := by
        rw [hblk.cell, u8s_get, List.getElem?_append_left (by simp; omega), List.getElem?_replicate, if_pos (by omega)]; rfl
      have hm64 : m < 18446744073709551616 := by
        have h1 := hm.out
        have h2 : 128 ^ k ≤ 128 ^ 9 := Nat.pow_le_pow_right (by omega) hk
        omega
      have hA := and127 m hm64
      have hO := or128 ((m : Int) % 128) (by omega) (by omega)
      clear hm64
      go_wp2
      go_roundw
      case rel =>
        refine ⟨k - 1, m / 128, (128 + m % 128) :: tail, by simp, by simp; omega, by omega, ?_, ?_, ?_, ?_, ?_, hb.setCell (Nat.le_refl _) _⟩
        · have h1 := hm.out
          show m / 128 < 128 ^ (k - 1)
          obtain ⟨j, rfl⟩ : ∃ j, k = j + 1 := ⟨k - 1, by omega⟩
          rw [Nat.pow_succ] at h1
          simp only [Nat.add_sub_cancel]
          omega
        · have h1 := hq.out
          obtain ⟨j, rfl⟩ : ∃ j, k = j + 1 := ⟨k - 1, by omega⟩
          rw [highB, if_neg (by omega)] at h1
          show highB (j + 1 - 1) (m / 128) ++ _ = _
          simpa using h1
        · intro b hb
          rcases List.mem_cons.1 hb with h | h
          · omega
          · exact ht.out b h
        · have := hlen.out; show _ + _ = _; simp; omega
        · have h1 := hblk.set_ (k - 1) (.int .u8 ((128 + m % 128 : Nat) : Int))
          obtain ⟨j, rfl⟩ : ∃ j, k = j + 1 := ⟨k - 1, by omega⟩
          rw [Nat.add_sub_cancel, set_zeros] at h1
          have e : ((128 + m % 128 : Nat) : Int) = 128 + (m : Int) % 128 := by omega
          rw [e] at h1
          exact h1
      case measure => simp [intOf]; omega
    · clear hfr h127 hN
      have hsl := sliceAt_l (P := Try.prog) Try.underlying101 (by kernel_rfl) w.heap.size k (by omega)
      have htl := hlen.out
      have hbt : Bytes wr wr.heap.size (some ⟨w.heap.size, k, none⟩) tail := by
        have h1 := hblk.bytes ht.out
        rw [List.length_replicate] at h1
        exact h1
      have hlt : tail.length = 10 - k := by omega
      have hput := put_calls A (some ⟨w.heap.size, k, none⟩) c (10 - k) l tail wr (((ha.below hb).mono hb.size)) hbt (Few.mk (by have := hf.le; omega))
      rw [hlt] at hput
      have H := Lib.hid hput
      clear hput hlt htl
      go_wp2_with fail
      refine (H.out).mono ?_
      rintro e w' ⟨v, rfl, hown, hb2⟩
      go_wp2
      go_ret
      refine ⟨v, rfl, ?_, below_then hb hb2⟩
      have h1 := hq.out
      have hm0 : m = 0 := by omega
      subst hm0
      have e : highB k 0 = [] := by cases k <;> rfl
      rw [e] at h1
      rw [← h1]
      exact hown.base hb.size
end Go.Proofs.Ytbddgmikbpggeaa
