/- The contracts of wire.Reader's methods on a reader. -/
import Derived.Test.YtbddgmikbpggeaaReader3
namespace Go.Proofs.Ytbddgmikbpggeaa
open Go.RowKit
set_option linter.unusedVariables false
set_option linter.unusedSimpArgs false

theorem callFunc_go {f : FuncId} {fn : Func} (hf : Try.prog.funcs[f]? = some fn) (hname : (fn.name == "runtime.NumGoroutine") = false) (hb : fn.body.isNone = false) (args : Array Value) (W : World) :
    (callFunc f args).run Try.prog W = .ok (.enter f args) W := by
  have h1 : fn.name ≠ "runtime.NumGoroutine" := by simpa using hname
  have h2 : fn.body ≠ none := by intro h; rw [h] at hb; cases hb
  simp [callFunc, go_sem, hf, h1, h2]
theorem enter_byte1 (args : Array Value) (W : World) : (callFunc 61 args).run Try.prog W = .ok (.enter 61 args) W := callFunc_go Try.func61 (by kernel_rfl) (by kernel_rfl) args W
theorem enter_word1 (args : Array Value) (W : World) : (callFunc 60 args).run Try.prog W = .ok (.enter 60 args) W := callFunc_go Try.func60 (by kernel_rfl) (by kernel_rfl) args W
theorem enter_var1 (args : Array Value) (W : World) : (callFunc 57 args).run Try.prog W = .ok (.enter 57 args) W := callFunc_go Try.func57 (by kernel_rfl) (by kernel_rfl) args W
theorem enter_text1 (args : Array Value) (W : World) : (callFunc 59 args).run Try.prog W = .ok (.enter 59 args) W := callFunc_go Try.func59 (by kernel_rfl) (by kernel_rfl) args W

theorem Rdr.next {w w' : World} {g : Nat} {A : Option Addr} {l : List Nat} {c at_ K E : Nat} (h : Rdr w g A l c at_ 0) (hb : Blk w' g 108 (rcs A l.length c (nxA at_ 0 K E) (nxE 0 E))) (hg : w.grownBy w' (some g)) (hK : E = 0 → K ≤ l.length - at_) (hE : E ≤ 5) :
    Rdr w' g A l c (nxA at_ 0 K E) (nxE 0 E) := by
  refine ⟨hb, h.bytes.side (Nat.le_of_lt h.blk.lt) hg, ?_, h.cap, h.few, ?_⟩
  · have := h.at_le
    unfold nxA
    split
    · have := hK (by omega); omega
    · exact this
  · unfold nxE; simpa using hE
theorem Rdr.stay {w w' : World} {g : Nat} {A : Option Addr} {l : List Nat} {c at_ er : Nat} (K E : Nat) (h : Rdr w g A l c at_ er) (he : er ≠ 0) (hb : Below w.heap.size w w') :
    Rdr w' g A l c (nxA at_ er K E) (nxE er E) := by
  have h1 : nxA at_ er K E = at_ := by unfold nxA; rw [if_neg (by omega)]
  have h2 : nxE er E = er := by unfold nxE; rw [if_neg he]
  rw [h1, h2]
  exact ⟨h.blk.keep hb, h.bytes.below (hb.mono (Nat.le_of_lt h.blk.lt)), h.at_le, h.cap, h.few, h.er_le⟩
theorem grown_below {w w' : World} (h : Below w.heap.size w w') (row : Option Nat) : w.grownBy w' row := ⟨h.os, h.tape, h.output, h.size, fun k hk _ => h.block k hk⟩

def rdV (er x : Nat) : Nat := if er = 0 then x else 0
theorem rdV0 (x : Nat) : rdV 0 x = x := if_pos rfl
theorem rdV1 {er : Nat} (h : er ≠ 0) (x : Nat) : rdV er x = 0 := if_neg h
def byteV (l : List Nat) : Nat := l.headD 0
def byteK (l : List Nat) : Nat := if l = [] then 0 else 1
def byteE (l : List Nat) : Nat := if l = [] then 4 else 0

def wordK (l : List Nat) : Nat := if l.length < 4 then 0 else 4
def wordE (l : List Nat) : Nat := if l.length < 4 then 4 else 0
def wordV (l : List Nat) : Nat := if l.length < 4 then 0 else ofB (l.take 4)
def rdS (er : Nat) (x : List Nat) : List Nat := if er = 0 then x else []
theorem rdS0 (x : List Nat) : rdS 0 x = x := if_pos rfl
theorem rdS1 {er : Nat} (h : er ≠ 0) (x : List Nat) : rdS er x = [] := if_neg h
theorem textD_bound (l : List Nat) (most : Int) (hl : l.length ≤ 900000) : (textD l most).1 ≤ 1000000 ∧ (textD l most).2.1 ≤ 5 ∧ ((textD l most).2.1 = 0 → (textD l most).1 ≤ l.length) := by
  obtain ⟨v, k, er, hd, her, hv, hk10, hk, hz, hz2⟩ := dec_bound l 18446744073709551615
  unfold textD
  rw [hd]
  dsimp only
  split
  · exact ⟨by simp, by simp; omega, by simp⟩
  · split
    · exact ⟨by simp, by simp, by simp⟩
    · split
      · exact ⟨by simp, by simp, by simp⟩
      · exact ⟨by dsimp only; omega, by simp, by dsimp only; omega⟩

set_option maxRecDepth 100000 in
theorem word1_both (A : Option Addr) (c : Nat) (l : List Nat) (h : Nat) (w : World) (B : Nat) (hB : B ≤ h) (ha : Bytes w B A l) (hc : l.length ≤ c) (hb : Blk w h 24 [.int .u32 0]) :
    Calls Try.prog 60 #[.slice A l.length c, .pointer (some ⟨h, 0, none⟩)] w fun e w' =>
      e = .returned (.tuple #[.int .i64 (wordK l : Int), .int .i64 (wordE l : Int)]) ∧ Blk w' h 24 [.int .u32 (wordV l : Int)] ∧ w.grownBy w' (some h) := by
  unfold wordK wordE wordV
  by_cases hl : l.length < 4
  · rw [if_pos hl, if_pos hl, if_pos hl]; exact word1_short A c l h w hl hb
  · rw [if_neg hl, if_neg hl, if_neg hl]; exact word1_calls A c l h w B hB ha hc (by omega) hb

set_option maxRecDepth 100000 in
set_option maxHeartbeats 400000 in
theorem byte_calls (g : Nat) (A : Option Addr) (l : List Nat) (c at_ er : Nat) (w : World) (hR0 : Rdr w g A l c at_ er) :
    Calls Try.prog 34 #[.pointer (some ⟨g, 0, none⟩)] w fun e w' => e = .returned (.int .u8 (rdV er (byteV (l.drop at_)) : Int)) ∧
      Rdr w' g A l c (nxA at_ er (byteK (l.drop at_)) (byteE (l.drop at_))) (nxE er (byteE (l.drop at_))) ∧ w.grownBy w' (some g) := by
  have hmf := makeFunc_run
  have hlen : (l.drop at_).length = l.length - at_ := by simp
  have hBW : Below w.heap.size w (w.alloc (.cells #[.int .u8 0] 5)) := alloc_below w _
  by_cases he : er = 0
  · subst he
    have hby : Bytes ((w.alloc (.cells #[.int .u8 0] 5)).drew) g (cutAt A c at_ 1) (l.drop at_) := ((hR0.bytes.cut at_ c hR0.at_le hR0.cap)).below (Below.drew (hBW.mono (Nat.le_of_lt hR0.blk.lt)))
    have hblk : Blk ((w.alloc (.cells #[.int .u8 0] 5)).drew) (w.heap.size) 5 [.int .u8 0] := Blk.new w _ _
    have H := byte1_calls (cutAt A c at_ 1) (c - at_) (l.drop at_) w.heap.size ((w.alloc (.cells #[.int .u8 0] 5)).drew) g hby hblk
    rw [hlen] at H
    have HC := read_var 61 #[.pointer (some ⟨w.heap.size, 0, none⟩)] g (w.heap.size) 5 (.int .u8 (byteV (l.drop at_) : Int)) A c l.length at_ (byteK (l.drop at_)) (byteE (l.drop at_)) w (w.alloc (.cells #[.int .u8 0] 5))
      (grown_below hBW _) (by omega) hR0.blk.lt (hR0.blk.keep hBW) hR0.at_le hR0.cap (Nat.le_trans hR0.few (by omega)) (by unfold byteK; split <;> omega) (by unfold byteE; split <;> omega) enter_byte1 (H.mono fun e w' h => ⟨by first | exact h.1 | (rw [h.1, hdd]), by first | exact h.2.1 | (rw [hdd]; exact h.2.1), ⟨h.2.2.os, h.2.2.tape, h.2.2.output, h.2.2.size, h.2.2.block⟩⟩)
    have hKL : (byteE (l.drop at_)) = 0 → (byteK (l.drop at_)) ≤ l.length - at_ := by
      unfold byteE byteK
      split
      · omega
      · rename_i hn; intro _; rw [← hlen]; exact List.length_pos_iff.2 hn
    have hE5 : (byteE (l.drop at_)) ≤ 5 := (by unfold byteE; split <;> omega)
    clear H hby hblk
    rw [rdV0]
    obtain ⟨vv, hvv⟩ : ∃ vv, vv = (.int .u8 (byteV (l.drop at_) : Int) : Value) := ⟨_, rfl⟩
    rw [← hvv] at HC ⊢
    clear hvv
    go_enter Try.func34, Try.ntmps34
    go_wp2_with fail
    refine HC.mono ?_
    rintro e w' ⟨⟨b, rfl⟩, hv, hb, hg⟩
    have hcell : w'.cell? ⟨w.heap.size, 0, none⟩ = some vv := hv.cell 0
    have hR := hR0.next hb hg hKL hE5
    clear hb HC hv
    go_wp2
    go_ret
    exact ⟨rfl, hR, hg⟩
  · rw [rdV1 he]
    go_enter Try.func34, Try.ntmps34
    go_wp2_with fail
    refine (read_stopped _ g A c l.length at_ er _ (hR0.blk.keep hBW) he).mono ?_
    rintro e w' ⟨rfl, rfl⟩
    go_wp2
    go_ret
    exact ⟨rfl, hR0.stay _ _ he hBW, grown_below hBW _⟩

set_option maxRecDepth 100000 in
set_option maxHeartbeats 400000 in
theorem word_calls (g : Nat) (A : Option Addr) (l : List Nat) (c at_ er : Nat) (w : World) (hR0 : Rdr w g A l c at_ er) :
    Calls Try.prog 31 #[.pointer (some ⟨g, 0, none⟩)] w fun e w' => e = .returned (.int .u32 (rdV er (wordV (l.drop at_)) : Int)) ∧
      Rdr w' g A l c (nxA at_ er (wordK (l.drop at_)) (wordE (l.drop at_))) (nxE er (wordE (l.drop at_))) ∧ w.grownBy w' (some g) := by
  have hmf := makeFunc_run
  have hlen : (l.drop at_).length = l.length - at_ := by simp
  have hBW : Below w.heap.size w (w.alloc (.cells #[.int .u32 0] 24)) := alloc_below w _
  by_cases he : er = 0
  · subst he
    have hby : Bytes ((w.alloc (.cells #[.int .u32 0] 24)).drew) g (cutAt A c at_ 1) (l.drop at_) := ((hR0.bytes.cut at_ c hR0.at_le hR0.cap)).below (Below.drew (hBW.mono (Nat.le_of_lt hR0.blk.lt)))
    have hblk : Blk ((w.alloc (.cells #[.int .u32 0] 24)).drew) (w.heap.size) 24 [.int .u32 0] := Blk.new w _ _
    have H := word1_both (cutAt A c at_ 1) (c - at_) (l.drop at_) w.heap.size ((w.alloc (.cells #[.int .u32 0] 24)).drew) g (Nat.le_of_lt hR0.blk.lt) hby (by have := hR0.cap; omega) hblk
    rw [hlen] at H
    have HC := read_var 60 #[.pointer (some ⟨w.heap.size, 0, none⟩)] g (w.heap.size) 24 (.int .u32 (wordV (l.drop at_) : Int)) A c l.length at_ (wordK (l.drop at_)) (wordE (l.drop at_)) w (w.alloc (.cells #[.int .u32 0] 24))
      (grown_below hBW _) (by omega) hR0.blk.lt (hR0.blk.keep hBW) hR0.at_le hR0.cap (Nat.le_trans hR0.few (by omega)) (by unfold wordK; split <;> omega) (by unfold wordE; split <;> omega) enter_word1 (H.mono fun e w' h => ⟨by first | exact h.1 | (rw [h.1, hdd]), by first | exact h.2.1 | (rw [hdd]; exact h.2.1), ⟨h.2.2.os, h.2.2.tape, h.2.2.output, h.2.2.size, h.2.2.block⟩⟩)
    have hKL : (wordE (l.drop at_)) = 0 → (wordK (l.drop at_)) ≤ l.length - at_ := by unfold wordE wordK; split <;> omega
    have hE5 : (wordE (l.drop at_)) ≤ 5 := (by unfold wordE; split <;> omega)
    clear H hby hblk
    rw [rdV0]
    obtain ⟨vv, hvv⟩ : ∃ vv, vv = (.int .u32 (wordV (l.drop at_) : Int) : Value) := ⟨_, rfl⟩
    rw [← hvv] at HC ⊢
    clear hvv
    go_enter Try.func31, Try.ntmps31
    go_wp2_with fail
    refine HC.mono ?_
    rintro e w' ⟨⟨b, rfl⟩, hv, hb, hg⟩
    have hcell : w'.cell? ⟨w.heap.size, 0, none⟩ = some vv := hv.cell 0
    have hR := hR0.next hb hg hKL hE5
    clear hb HC hv
    go_wp2
    go_ret
    exact ⟨rfl, hR, hg⟩
  · rw [rdV1 he]
    go_enter Try.func31, Try.ntmps31
    go_wp2_with fail
    refine (read_stopped _ g A c l.length at_ er _ (hR0.blk.keep hBW) he).mono ?_
    rintro e w' ⟨rfl, rfl⟩
    go_wp2
    go_ret
    exact ⟨rfl, hR0.stay _ _ he hBW, grown_below hBW _⟩

set_option maxRecDepth 100000 in
set_option maxHeartbeats 400000 in
theorem var_calls (g : Nat) (A : Option Addr) (l : List Nat) (c at_ er : Nat) (w : World) (most : Nat) (hm : most < 18446744073709551616) (hR0 : Rdr w g A l c at_ er) :
    Calls Try.prog 29 #[.pointer (some ⟨g, 0, none⟩), .int .u64 (most : Int)] w fun e w' => e = .returned (.int .u64 (rdV er (decB (l.drop at_) most).1 : Int)) ∧
      Rdr w' g A l c (nxA at_ er ((decB (l.drop at_) most).2.1) ((decB (l.drop at_) most).2.2)) (nxE er ((decB (l.drop at_) most).2.2)) ∧ w.grownBy w' (some g) := by
  have hmf := makeFunc_run
  have hlen : (l.drop at_).length = l.length - at_ := by simp
  obtain ⟨dv, dk, de, hdd, hd1, hd2, hd3, hd4, hd5, hd6⟩ := dec_bound (l.drop at_) most
  have hBW : Below w.heap.size w ((w.alloc (.cells #[.int .u64 (most : Int)] 23)).alloc (.cells #[.int .u64 0] 23)) := below_then (alloc_below w _) (alloc_below _ _)
  by_cases he : er = 0
  · subst he
    have hby : Bytes (((w.alloc (.cells #[.int .u64 (most : Int)] 23)).alloc (.cells #[.int .u64 0] 23)).drew) g (cutAt A c at_ 1) (l.drop at_) := ((hR0.bytes.cut at_ c hR0.at_le hR0.cap)).below (Below.drew (hBW.mono (Nat.le_of_lt hR0.blk.lt)))
    have hblk : Blk (((w.alloc (.cells #[.int .u64 (most : Int)] 23)).alloc (.cells #[.int .u64 0] 23)).drew) (w.heap.size + 1) 23 [.int .u64 0] := by have := Blk.new (w.alloc (.cells #[.int .u64 (most : Int)] 23)) 23 #[.int .u64 0]; rw [World.size_alloc] at this; exact this
    have H := var1_calls (cutAt A c at_ 1) (c - at_) (l.drop at_) most w.heap.size (w.heap.size + 1) (((w.alloc (.cells #[.int .u64 (most : Int)] 23)).alloc (.cells #[.int .u64 0] 23)).drew) g hby (by have := hR0.cap; omega) hm (by have := hR0.few; omega) hdd ((Blk.new w _ _).keep (Below.drew (alloc_below _ _))) hblk
    rw [hlen] at H
    have HC := read_var 57 #[.pointer (some ⟨w.heap.size, 0, none⟩), .pointer (some ⟨w.heap.size + 1, 0, none⟩)] g (w.heap.size + 1) 23 (.int .u64 ((decB (l.drop at_) most).1 : Int)) A c l.length at_ ((decB (l.drop at_) most).2.1) ((decB (l.drop at_) most).2.2) w ((w.alloc (.cells #[.int .u64 (most : Int)] 23)).alloc (.cells #[.int .u64 0] 23))
      (grown_below hBW _) (by omega) hR0.blk.lt (hR0.blk.keep hBW) hR0.at_le hR0.cap (Nat.le_trans hR0.few (by omega)) (by rw [hdd]; show dk ≤ _; omega) (by rw [hdd]; show de ≤ _; omega) enter_var1 (H.mono fun e w' h => ⟨by first | exact h.1 | (rw [h.1, hdd]), by first | exact h.2.1 | (rw [hdd]; exact h.2.1), ⟨h.2.2.os, h.2.2.tape, h.2.2.output, h.2.2.size, h.2.2.block⟩⟩)
    have hKL : ((decB (l.drop at_) most).2.2) = 0 → ((decB (l.drop at_) most).2.1) ≤ l.length - at_ := by rw [hdd, ← hlen]; exact fun _ => hd4
    have hE5 : ((decB (l.drop at_) most).2.2) ≤ 5 := (by rw [hdd]; show de ≤ _; omega)
    clear H hby hblk
    rw [rdV0]
    obtain ⟨vv, hvv⟩ : ∃ vv, vv = (.int .u64 ((decB (l.drop at_) most).1 : Int) : Value) := ⟨_, rfl⟩
    rw [← hvv] at HC ⊢
    clear hvv
    go_enter Try.func29, Try.ntmps29
    go_wp2_with fail
    refine HC.mono ?_
    rintro e w' ⟨⟨b, rfl⟩, hv, hb, hg⟩
    have hcell : w'.cell? ⟨w.heap.size + 1, 0, none⟩ = some vv := hv.cell 0
    have hR := hR0.next hb hg hKL hE5
    clear hb HC hv
    go_wp2
    go_ret
    exact ⟨rfl, hR, hg⟩
  · rw [rdV1 he]
    go_enter Try.func29, Try.ntmps29
    go_wp2_with fail
    refine (read_stopped _ g A c l.length at_ er _ (hR0.blk.keep hBW) he).mono ?_
    rintro e w' ⟨rfl, rfl⟩
    go_wp2
    go_ret
    exact ⟨rfl, hR0.stay _ _ he hBW, grown_below hBW _⟩

set_option maxRecDepth 100000 in
set_option maxHeartbeats 400000 in
theorem text_calls (g : Nat) (A : Option Addr) (l : List Nat) (c at_ er : Nat) (w : World) (most : Int) (hm : most < 9223372036854775808) (hR0 : Rdr w g A l c at_ er) :
    Calls Try.prog 30 #[.pointer (some ⟨g, 0, none⟩), .int .i64 most] w fun e w' => e = .returned (.string (bsB (rdS er (textD (l.drop at_) most).2.2))) ∧
      Rdr w' g A l c (nxA at_ er ((textD (l.drop at_) most).1) ((textD (l.drop at_) most).2.1)) (nxE er ((textD (l.drop at_) most).2.1)) ∧ w.grownBy w' (some g) := by
  have hmf := makeFunc_run
  have hlen : (l.drop at_).length = l.length - at_ := by simp
  obtain ⟨ht1, ht2, ht3⟩ := textD_bound (l.drop at_) most (by have := hR0.few; omega)
  have hBW : Below w.heap.size w ((w.alloc (.cells #[.int .i64 most] 3)).alloc (.cells #[.string ⟨#[]⟩] 9)) := below_then (alloc_below w _) (alloc_below _ _)
  by_cases he : er = 0
  · subst he
    have hby : Bytes (((w.alloc (.cells #[.int .i64 most] 3)).alloc (.cells #[.string ⟨#[]⟩] 9)).drew) g (cutAt A c at_ 1) (l.drop at_) := ((hR0.bytes.cut at_ c hR0.at_le hR0.cap)).below (Below.drew (hBW.mono (Nat.le_of_lt hR0.blk.lt)))
    have hblk : Blk (((w.alloc (.cells #[.int .i64 most] 3)).alloc (.cells #[.string ⟨#[]⟩] 9)).drew) (w.heap.size + 1) 9 [.string ⟨#[]⟩] := by have := Blk.new (w.alloc (.cells #[.int .i64 most] 3)) 9 #[.string ⟨#[]⟩]; rw [World.size_alloc] at this; exact this
    have H := text1_calls (cutAt A c at_ 1) (c - at_) (l.drop at_) most w.heap.size (w.heap.size + 1) (((w.alloc (.cells #[.int .i64 most] 3)).alloc (.cells #[.string ⟨#[]⟩] 9)).drew) g hby (by have := hR0.cap; omega) (by have := hR0.few; omega) hm ((Blk.new w _ _).keep (Below.drew (alloc_below _ _))) hblk
    rw [hlen] at H
    have HC := read_var 59 #[.pointer (some ⟨w.heap.size, 0, none⟩), .pointer (some ⟨w.heap.size + 1, 0, none⟩)] g (w.heap.size + 1) 9 (.string (bsB (textD (l.drop at_) most).2.2)) A c l.length at_ ((textD (l.drop at_) most).1) ((textD (l.drop at_) most).2.1) w ((w.alloc (.cells #[.int .i64 most] 3)).alloc (.cells #[.string ⟨#[]⟩] 9))
      (grown_below hBW _) (by omega) hR0.blk.lt (hR0.blk.keep hBW) hR0.at_le hR0.cap (Nat.le_trans hR0.few (by omega)) ht1 ht2 enter_text1 (H.mono fun e w' h => ⟨by first | exact h.1 | (rw [h.1, hdd]), by first | exact h.2.1 | (rw [hdd]; exact h.2.1), ⟨h.2.2.os, h.2.2.tape, h.2.2.output, h.2.2.size, h.2.2.block⟩⟩)
    have hKL : ((textD (l.drop at_) most).2.1) = 0 → ((textD (l.drop at_) most).1) ≤ l.length - at_ := by rw [← hlen]; exact ht3
    have hE5 : ((textD (l.drop at_) most).2.1) ≤ 5 := ht2
    clear H hby hblk
    rw [rdS0]
    obtain ⟨vv, hvv⟩ : ∃ vv, vv = (.string (bsB (textD (l.drop at_) most).2.2) : Value) := ⟨_, rfl⟩
    rw [← hvv] at HC ⊢
    clear hvv
    go_enter Try.func30, Try.ntmps30
    go_wp2_with fail
    refine HC.mono ?_
    rintro e w' ⟨⟨b, rfl⟩, hv, hb, hg⟩
    have hcell : w'.cell? ⟨w.heap.size + 1, 0, none⟩ = some vv := hv.cell 0
    have hR := hR0.next hb hg hKL hE5
    clear hb HC hv
    go_wp2
    go_ret
    exact ⟨rfl, hR, hg⟩
  · rw [rdS1 he]
    go_enter Try.func30, Try.ntmps30
    go_wp2_with fail
    refine (read_stopped _ g A c l.length at_ er _ (hR0.blk.keep hBW) he).mono ?_
    rintro e w' ⟨rfl, rfl⟩
    go_wp2
    go_ret
    exact ⟨rfl, hR0.stay _ _ he hBW, grown_below hBW _⟩

end Go.Proofs.Ytbddgmikbpggeaa
