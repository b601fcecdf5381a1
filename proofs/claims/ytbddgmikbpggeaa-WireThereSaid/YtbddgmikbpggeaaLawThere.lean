/- The walk of the statement WireThere. -/
import Derived.Test.YtbddgmikbpggeaaReader5
import Derived.Test.YtbddgmikbpggeaaDecPut
import Derived.Test.YtbddgmikbpggeaaRowsR
import Derived.Test.YtbddgmikbpggeaaTypes
namespace Go.Proofs.Ytbddgmikbpggeaa
open Go.RowKit
set_option linter.unusedVariables false
set_option linter.unusedSimpArgs false

/-- The bytes of numbers, of texts, of words. -/
def catV (l : List Nat) : List Nat := l.flatMap varB
def cut50 (s : ByteArray) : ByteArray := s.extract 0 (min 50 s.size)
def catT (l : List ByteArray) : List Nat := l.flatMap fun s => textB (cut50 s)
def catW (l : List Nat) : List Nat := l.flatMap wordB
theorem catV_take (l : List Nat) (k : Nat) (h : k < l.length) : catV (l.take (k + 1)) = catV (l.take k) ++ varB l[k] := by
  unfold catV; rw [List.take_succ_eq_append_getElem h, List.flatMap_append]; simp
theorem catT_take (l : List ByteArray) (k : Nat) (h : k < l.length) : catT (l.take (k + 1)) = catT (l.take k) ++ textB (cut50 l[k]) := by
  unfold catT; rw [List.take_succ_eq_append_getElem h, List.flatMap_append]; simp
theorem catW_take (l : List Nat) (k : Nat) (h : k < l.length) : catW (l.take (k + 1)) = catW (l.take k) ++ wordB l[k] := by
  unfold catW; rw [List.take_succ_eq_append_getElem h, List.flatMap_append]; simp
theorem catV_split (l : List Nat) (k : Nat) (h : k < l.length) : catV l = catV (l.take k) ++ (varB l[k] ++ catV (l.drop (k + 1))) := by
  have e : l = l.take k ++ l[k] :: l.drop (k + 1) := by rw [← List.drop_eq_getElem_cons h, List.take_append_drop]
  conv => lhs; rw [e]
  unfold catV
  rw [List.flatMap_append, List.flatMap_cons]
theorem catT_split (l : List ByteArray) (k : Nat) (h : k < l.length) : catT l = catT (l.take k) ++ (textB (cut50 l[k]) ++ catT (l.drop (k + 1))) := by
  have e : l = l.take k ++ l[k] :: l.drop (k + 1) := by rw [← List.drop_eq_getElem_cons h, List.take_append_drop]
  conv => lhs; rw [e]
  unfold catT
  rw [List.flatMap_append, List.flatMap_cons]
theorem catW_split (l : List Nat) (k : Nat) (h : k < l.length) : catW l = catW (l.take k) ++ (wordB l[k] ++ catW (l.drop (k + 1))) := by
  have e : l = l.take k ++ l[k] :: l.drop (k + 1) := by rw [← List.drop_eq_getElem_cons h, List.take_append_drop]
  conv => lhs; rw [e]
  unfold catW
  rw [List.flatMap_append, List.flatMap_cons]
theorem Rdr.keep {w w' : World} {g : Nat} {A : Option Addr} {l : List Nat} {c at_ er : Nat} (h : Rdr w g A l c at_ er) (hb : Below w.heap.size w w') : Rdr w' g A l c at_ er :=
  ⟨h.blk.keep hb, h.bytes.below (hb.mono (Nat.le_of_lt h.blk.lt)), h.at_le, h.cap, h.few, h.er_le⟩
theorem Rdr.drew {w : World} {g : Nat} {A : Option Addr} {l : List Nat} {c at_ er : Nat} (h : Rdr w g A l c at_ er) : Rdr w.drew g A l c at_ er := ⟨h.blk, h.bytes, h.at_le, h.cap, h.few, h.er_le⟩
theorem Rdr.drewN {w : World} {g : Nat} {A : Option Addr} {l : List Nat} {c at_ er : Nat} (h : Rdr w g A l c at_ er) (q : Nat) : Rdr (w.drewN q) g A l c at_ er := ⟨h.blk, h.bytes, h.at_le, h.cap, h.few, h.er_le⟩
theorem below_side {w w' : World} {B g : Nat} (h : w.grownBy w' (some g)) (hB : B ≤ g) (hg : g < w.heap.size) : Below B w w' := Below.grown (Below.refl B w) h (by omega) fun k hk => by cases hk; exact hB
theorem below_drew {w w' : World} {B : Nat} (h : Below B w.drew w') : Below B w w' := ⟨h.os, h.tape, h.output, h.size, h.block⟩
theorem cut50_size (s : ByteArray) : (cut50 s).size ≤ 50 := by unfold cut50; rw [ByteArray.size_extract]; omega
theorem textB_len (s : ByteArray) : (textB s).length ≤ 10 + s.size := by have := varB_length s.size; have := sB_length s; simp [textB]; omega

set_option maxRecDepth 100000 in
set_option maxHeartbeats 4000000 in
theorem wireThere_walk (A0 A1 A2 : Option Addr) (c0 c1 c2 : Nat) (l : List Nat) (s : List ByteArray) (v : List Nat) (w : World) (B : Nat) (hB : B = w.heap.size) (h0 : Nums w B .u64 A0 l) (h1 : Strs w B A1 s) (h2 : Nums w B .u32 A2 v)
    (hc0 : l.length ≤ c0) (hc1 : s.length ≤ c1) (hc2 : v.length ≤ c2) (b0 : ∀ n ∈ l, n < 18446744073709551616) (b1 : ∀ x ∈ s, x.size ≤ maxLen) (b2 : ∀ n ∈ v, n < 4294967296) (m0 : c0 ≤ maxLen) (m1 : c1 ≤ maxLen) (m2 : c2 ≤ maxLen) :
    Calls Try.prog 7 #[.slice A0 l.length c0, .slice A1 s.length c1, .slice A2 v.length c2] w fun e w' => e = .returned (.bool true) ∧ Below B w w' := by
  obtain ⟨k0, hk0⟩ : ∃ k : Nat, k = (l.take 20).length := ⟨_, rfl⟩
  obtain ⟨k1, hk1⟩ : ∃ k : Nat, k = (s.take 20).length := ⟨_, rfl⟩
  obtain ⟨k2, hk2⟩ : ∃ k : Nat, k = (v.take 20).length := ⟨_, rfl⟩
  have e0 : (if (20 : Int) < (l.length : Int) then (20 : Int) else (l.length : Int)) = (k0 : Int) := by rw [hk0, List.length_take]; split <;> omega
  have e1 : (if (20 : Int) < (s.length : Int) then (20 : Int) else (s.length : Int)) = (k1 : Int) := by rw [hk1, List.length_take]; split <;> omega
  have e2 : (if (20 : Int) < (v.length : Int) then (20 : Int) else (v.length : Int)) = (k2 : Int) := by rw [hk2, List.length_take]; split <;> omega
  have f0 : k0 ≤ c0 := by rw [hk0, List.length_take]; omega
  have f1 : k1 ≤ c1 := by rw [hk1, List.length_take]; omega
  have f2 : k2 ≤ c2 := by rw [hk2, List.length_take]; omega
  replace h0 := h0.take 20
  replace h1 := h1.take 20
  replace h2 := h2.take 20
  replace b0 : ∀ n ∈ l.take 20, n < 18446744073709551616 := fun n hn => b0 n (List.mem_of_mem_take hn)
  replace b1 : ∀ n ∈ s.take 20, n.size ≤ maxLen := fun n hn => b1 n (List.mem_of_mem_take hn)
  replace b2 : ∀ n ∈ v.take 20, n < 4294967296 := fun n hn => b2 n (List.mem_of_mem_take hn)
  have g0 : k0 ≤ 20 := by rw [hk0, List.length_take]; omega
  have g1 : k1 ≤ 20 := by rw [hk1, List.length_take]; omega
  have g2 : k2 ≤ 20 := by rw [hk2, List.length_take]; omega
  have HK0 := Lib.hid hk0
  have HK1 := Lib.hid hk1
  have HK2 := Lib.hid hk2
  clear hk0 hk1 hk2
  generalize l.take 20 = l' at *
  generalize s.take 20 = s' at *
  generalize v.take 20 = v' at *
  have HB := Lib.hid hB
  have M0 := Lib.hid m0
  have M1 := Lib.hid m1
  have M2 := Lib.hid m2
  clear hB m0 m1 m2
  go_enter Try.func7, Try.ntmps7
  go_wp2_with fail
  go_quiet (fail)
  have r0 := HK0.out
  have r1 := HK1.out
  have r2 := HK2.out
  subst r0 r1 r2
  clear e0 e1 e2 HK0 HK1 HK2 hc0 hc1 hc2
  have hbw : Below B w (w.drewN nq) := drewN_below (Below.refl _ _) nq
  have hBs : B ≤ (w.drewN nq).heap.size := by rw [HB.out]; exact Nat.le_refl _
  generalize w.drewN nq = w0 at *
  go_wp2_with fail
  go_loopw [7, 8] (fun v7 v8 wr => ∃ (k : Nat) (lst : List Nat) (A : Option Addr) (c : Nat), v7 = .slice A lst.length c ∧ v8 = .int .i64 (k : Int) ∧ k ≤ l'.length ∧ Hid (lst = catV (l'.take k)) ∧ Hid (lst.length ≤ 10 * k) ∧ Bytes wr wr.heap.size A lst ∧ Below B w wr ∧ B ≤ wr.heap.size) (fun _ v8 _ => l'.length - (intOf v8).toNat)
  case atStart => exact ⟨0, [], none, 0, rfl, rfl, by omega, by show _ = _; simp [catV], by show _ ≤ _; simp, Bytes.nil _ _ _, hbw, hBs⟩
  case round =>
    clear hbw hBs
    obtain ⟨k, lst, A, c, rfl, rfl, hk, HL, HN, hby, hbw, hBs⟩ := hrel
    by_cases h : k < l'.length
    · obtain ⟨ad, rfl, _, hcell⟩ := (h0.below hbw).at_ h
      have hn := b0 _ (List.getElem_mem h)
      have hst := catV_take l' k h
      have HST := Lib.hid hst
      clear hst
      generalize l'[k] = n at *
      go_wp2_with fail
      refine (putVar_calls A c lst n _ hby hn (Few.mk (by have := HN.out; omega))).mono ?_
      rintro e w1 ⟨v1, rfl, hown, hb1⟩
      obtain ⟨A', c', rfl, hby', _⟩ := hown.bytes
      obtain ⟨lX, HX⟩ : ∃ q, Hid (q = lst ++ varB n) := ⟨_, rfl⟩
      rw [← HX.out] at hby' ⊢
      have hlen : Hid (lX.length ≤ 10 * (k + 1)) := by show _ ≤ _; rw [HX.out]; have := varB_length n; have := HN.out; simp; omega
      clear hown
      go_wp2
      go_roundw
      case rel => exact ⟨k + 1, lX, A', c', rfl, by go_num, by omega, by show _ = _; rw [HX.out, HST.out, HL.out], hlen, hby', hbw.trans (hb1.mono hBs), Nat.le_trans hBs hb1.size⟩
      case measure => simp [intOf]; omega
    · obtain rfl : k = l'.length := by omega
      have HL1 : Hid (lst = catV l') := by have := HL.out; rwa [List.take_length] at this
      clear HL h hk
      go_wp2_with fail
      obtain ⟨wo, rfl⟩ : ∃ wo, wo = wr := ⟨_, rfl⟩
      have H0 := Lib.hid h0
      have B0 := Lib.hid b0
      clear h0 b0
      go_loopw [7, 9] (fun v7 v9 wr => ∃ (k : Nat) (ls : List Nat) (A' : Option Addr) (c' : Nat), v7 = .slice A' ls.length c' ∧ v9 = .int .i64 (k : Int) ∧ k ≤ s'.length ∧ Hid (ls = catV l' ++ catT (s'.take k)) ∧ Hid (ls.length ≤ 200 + 60 * k) ∧ Bytes wr wr.heap.size A' ls ∧ Below B w wr ∧ B ≤ wr.heap.size) (fun _ v9 _ => s'.length - (intOf v9).toNat)
      case atStart => exact ⟨0, lst, A, c, rfl, rfl, by omega, by show _ = _; rw [HL1.out]; simp [catT], by have := HN.out; show _ ≤ _; omega, hby, hbw, hBs⟩
      case round =>
        clear hbw hBs hby HN HL1
        obtain ⟨k, lst, A, c, rfl, rfl, hk, HL, HN, hby, hbw, hBs⟩ := hrel
        by_cases h : k < s'.length
        · obtain ⟨ad, rfl, _, hcell⟩ := (h1.below hbw).at_ h
          have hx := b1 _ (List.getElem_mem h)
          have hst := catT_take s' k h
          have HST := Lib.hid hst
          clear hst
          generalize s'[k] = x at *
          have hcell' : wr.drew.cell? (ad.add k) = some (.string x) := hcell
          have hbyd : Bytes wr.drew wr.drew.heap.size A lst := hby
          obtain ⟨q, hq⟩ : ∃ q : Nat, q = min 50 x.size := ⟨_, rfl⟩
          have e3 : (if (50 : Int) < (x.size : Int) then (50 : Int) else (x.size : Int)) = (q : Int) := by rw [hq]; split <;> omega
          have hqx : q ≤ x.size := by omega
          have hcx : cut50 x = x.extract 0 q := by unfold cut50; rw [hq]
          have HCX := Lib.hid hcx
          have HX0 := Lib.hid hx
          have hz : (x.extract 0 q).size ≤ 50 := by rw [← hcx]; exact cut50_size x
          clear hq hcx hx
          go_wp2_with fail
          go_region_with (first
            | (go_at_call 16
               refine (putText_calls A c lst (x.extract 0 q) wr.drew hbyd (Few.mk (by have := HN.out; omega))).mono ?_
               rintro e w1 ⟨v1, rfl, hown, hb1⟩
               obtain ⟨A', c', rfl, hby', _⟩ := hown.bytes
               obtain ⟨lX, HX⟩ : ∃ q', Hid (q' = lst ++ textB (x.extract 0 q)) := ⟨_, rfl⟩
               rw [← HX.out] at hby' ⊢))
          all_goals
            have hlen : Hid (lX.length ≤ 200 + 60 * (k + 1)) := by show _ ≤ _; rw [HX.out]; have := textB_len (x.extract 0 q); have := HN.out; simp only [List.length_append]; omega
            have hb2 : Below wr.heap.size wr w1 := ⟨hb1.os, hb1.tape, hb1.output, hb1.size, hb1.block⟩
            clear hown
            go_wp2
            go_roundw
            case rel => exact ⟨k + 1, lX, A', c', rfl, by go_num, by omega, by show _ = _; rw [HX.out, HST.out, HL.out, HCX.out, List.append_assoc], hlen, hby', hbw.trans (hb2.mono hBs), Nat.le_trans hBs hb2.size⟩
            case measure => simp [intOf]; omega
        · obtain rfl : k = s'.length := by omega
          have HL2 : Hid (lst = catV l' ++ catT s') := by have := HL.out; rwa [List.take_length] at this
          have H1 := Lib.hid h1
          have B1 := Lib.hid b1
          clear HL h hk h1 b1
          go_wp2_with fail
          obtain ⟨wo, rfl⟩ : ∃ wo, wo = wr := ⟨_, rfl⟩
          go_loopw [7, 10] (fun v7 v10 wr => ∃ (k : Nat) (ls : List Nat) (A' : Option Addr) (c' : Nat), v7 = .slice A' ls.length c' ∧ v10 = .int .i64 (k : Int) ∧ k ≤ v'.length ∧ Hid (ls = catV l' ++ catT s' ++ catW (v'.take k)) ∧ Hid (ls.length ≤ 1400 + 4 * k) ∧ Bytes wr wr.heap.size A' ls ∧ Below B w wr ∧ B ≤ wr.heap.size) (fun _ v10 _ => v'.length - (intOf v10).toNat)
          case atStart => exact ⟨0, lst, A, c, rfl, rfl, by omega, by show _ = _; rw [HL2.out]; simp [catW], by have := HN.out; show _ ≤ _; omega, hby, hbw, hBs⟩
          case round =>
            clear hbw hBs hby HN HL2
            obtain ⟨k, lst, A, c, rfl, rfl, hk, HL, HN, hby, hbw, hBs⟩ := hrel
            by_cases h : k < v'.length
            · obtain ⟨ad, rfl, _, hcell⟩ := (h2.below hbw).at_ h
              have hn := b2 _ (List.getElem_mem h)
              have hst := catW_take v' k h
              have HST := Lib.hid hst
              clear hst
              generalize v'[k] = n at *
              go_wp2_with fail
              refine (putWord_calls A c lst n _ hby hn (Few.mk (by have := HN.out; omega))).mono ?_
              rintro e w1 ⟨v1, rfl, hown, hb1⟩
              obtain ⟨A', c', rfl, hby', _⟩ := hown.bytes
              obtain ⟨lX, HX⟩ : ∃ q, Hid (q = lst ++ wordB n) := ⟨_, rfl⟩
              rw [← HX.out] at hby' ⊢
              have hlen : Hid (lX.length ≤ 1400 + 4 * (k + 1)) := by show _ ≤ _; rw [HX.out]; have : (wordB n).length = 4 := by simp [wordB]
                                                                     have := HN.out; simp only [List.length_append]; omega
              clear hown
              go_wp2
              go_roundw
              case rel => exact ⟨k + 1, lX, A', c', rfl, by go_num, by omega, by show _ = _; rw [HX.out, HST.out, HL.out, List.append_assoc], hlen, hby', hbw.trans (hb1.mono hBs), Nat.le_trans hBs hb1.size⟩
              case measure => simp [intOf]; omega
            · obtain rfl : k = v'.length := by omega
              have HL3 : Hid (lst = catV l' ++ catT s' ++ catW v') := by have := HL.out; rwa [List.take_length] at this
              have H2 := Lib.hid h2
              have B2 := Lib.hid b2
              have hfew : Hid (lst.length ≤ 900000) := by show _ ≤ _; have := HN.out; omega
              clear HL h hk h2 b2 HN
              go_wp2_with fail
              refine (newReader_calls A c lst _ hby hfew.out).mono ?_
              rintro e w2 ⟨g, Ar, cr, rfl, hgB, hR, hb2⟩
              replace hbw := hbw.trans (hb2.mono hBs)
              have hgB2 : B ≤ g := Nat.le_trans hBs hgB
              clear hb2 hby hBs hgB
              go_wp2_with fail
              go_loopw [12] (fun v12 wr => ∃ k at_ : Nat, v12 = .int .i64 (k : Int) ∧ k ≤ l'.length ∧ Hid (at_ = (catV (l'.take k)).length) ∧ Rdr wr g Ar lst cr at_ 0 ∧ Below B w wr) (fun v12 _ => l'.length - (intOf v12).toNat)
              case atStart => exact ⟨0, 0, rfl, by omega, by show _ = _; simp [catV], hR, hbw⟩
              case round =>
                clear hbw hR
                obtain ⟨k, at_, rfl, hk, HA, hR, hbw⟩ := hrel
                by_cases h : k < l'.length
                · obtain ⟨ad, rfl, hab, hcell⟩ := (H0.out.below hbw).at_ h
                  have hn := B0.out _ (List.getElem_mem h)
                  have hst := catV_take l' k h
                  have hdrop : lst.drop at_ = varB l'[k] ++ (catV (l'.drop (k + 1)) ++ (catT s' ++ catW v')) := by
                    rw [HL3.out, catV_split l' k h, HA.out, List.append_assoc, List.append_assoc, List.append_assoc, List.drop_left]
                  have HST := Lib.hid hst
                  clear hst
                  generalize l'[k] = n at *
                  have HC := var_there g Ar lst cr at_ n _ wr.drew hR.drew hn hdrop
                  clear hdrop
                  have hgl : g < wr.drew.heap.size := hR.blk.lt
                  have hcd : wr.drew.cell? (ad.add k) = some (.int .u64 (n : Int)) := hcell
                  have hat' : Hid (at_ + (varB n).length = (catV (l'.take (k + 1))).length) := by show _ = _; rw [HST.out, List.length_append, HA.out]
                  generalize at_ + (varB n).length = at2 at *
                  go_wp2_with fail
                  go_region_with (first
                    | (go_at_call 29
                       refine HC.mono ?_
                       rintro e w1 ⟨rfl, hR1, hg1⟩
                       have hcell1 : w1.cell? (ad.add k) = some (.int .u64 (n : Int)) := hg1.cell hcd (by rw [add_block]; intro e; injection e; omega)))
                  all_goals
                    go_wp2
                    go_roundw
                    case rel => exact ⟨k + 1, at2, by go_num, by omega, hat', hR1, hbw.trans (below_drew (below_side hg1 hgB2 hgl))⟩
                    case measure => simp [intOf]; omega
                · obtain rfl : k = l'.length := by omega
                  have HA2 : Hid (at_ = (catV l').length) := by have := HA.out; rwa [List.take_length] at this
                  clear HA h hk
                  go_wp2_with fail
                  go_loopw [13] (fun v13 wr => ∃ k at_ : Nat, v13 = .int .i64 (k : Int) ∧ k ≤ s'.length ∧ Hid (at_ = (catV l' ++ catT (s'.take k)).length) ∧ Rdr wr g Ar lst cr at_ 0 ∧ Below B w wr) (fun v13 _ => s'.length - (intOf v13).toNat)
                  case atStart => exact ⟨0, at_, rfl, by omega, by show _ = _; rw [HA2.out]; simp [catT], hR, hbw⟩
                  case round =>
                    clear hbw hR HA2
                    obtain ⟨k, at_, rfl, hk, HA, hR, hbw⟩ := hrel
                    by_cases h : k < s'.length
                    · obtain ⟨ad, rfl, hab, hcell⟩ := (H1.out.below hbw).at_ h
                      have hx := B1.out _ (List.getElem_mem h)
                      have hst := catT_take s' k h
                      have hdrop : lst.drop at_ = textB (cut50 s'[k]) ++ (catT (s'.drop (k + 1)) ++ catW v') := by
                        rw [HL3.out, catT_split s' k h, HA.out, ← List.append_assoc (catV l'), List.append_assoc (catV l' ++ catT (List.take k s')), List.drop_left, List.append_assoc]
                      have HST := Lib.hid hst
                      clear hst
                      generalize s'[k] = x at *
                      obtain ⟨q, hq⟩ : ∃ q : Nat, q = min 50 x.size := ⟨_, rfl⟩
                      have e3 : (if (50 : Int) < (x.size : Int) then (50 : Int) else (x.size : Int)) = (q : Int) := by rw [hq]; split <;> omega
                      have hqx : q ≤ x.size := by omega
                      have hcx : cut50 x = x.extract 0 q := by unfold cut50; rw [hq]
                      have hz : (x.extract 0 q).size ≤ 50 := by rw [← hcx]; exact cut50_size x
                      rw [hcx] at hdrop
                      have HC := text_there g Ar lst cr at_ (x.extract 0 q) 50 _ wr.drew hR.drew (by omega) (by omega) (by omega) hdrop
                      rw [← hcx] at HC
                      have hat' : Hid (at_ + (textB (cut50 x)).length = (catV l' ++ catT (s'.take (k + 1))).length) := by show _ = _; rw [HST.out, ← List.append_assoc, HA.out]; exact List.length_append.symm
                      have HX0 := Lib.hid hx
                      have HCX := Lib.hid hcx
                      clear hdrop hq hx hz
                      have hgl : g < wr.drew.heap.size := hR.blk.lt
                      have hcd : wr.drew.cell? (ad.add k) = some (.string x) := hcell
                      generalize at_ + (textB (cut50 x)).length = at2 at *
                      have hcx2 : x.extract 0 q = cut50 x := HCX.out.symm
                      clear hcx HCX
                      generalize cut50 x = y at *
                      go_wp2_with fail
                      go_region_with (first
                        | (go_at_call 30
                           refine HC.mono ?_
                           rintro e w1 ⟨rfl, hR1, hg1⟩
                           have hcell1 : w1.cell? (ad.add k) = some (.string x) := hg1.cell hcd (by rw [add_block]; intro e; injection e; omega)))
                      all_goals
                        go_wp2
                        go_roundw
                        case rel => exact ⟨k + 1, at2, by go_num, by omega, hat', hR1, hbw.trans (below_drew (below_side hg1 hgB2 hgl))⟩
                        case measure => simp [intOf]; omega
                    · obtain rfl : k = s'.length := by omega
                      have HA2 : Hid (at_ = (catV l' ++ catT s').length) := by have := HA.out; rwa [List.take_length] at this
                      clear HA h hk
                      go_wp2_with fail
                      go_loopw [14] (fun v14 wr => ∃ k at_ : Nat, v14 = .int .i64 (k : Int) ∧ k ≤ v'.length ∧ Hid (at_ = (catV l' ++ catT s' ++ catW (v'.take k)).length) ∧ Rdr wr g Ar lst cr at_ 0 ∧ Below B w wr) (fun v14 _ => v'.length - (intOf v14).toNat)
                      case atStart => exact ⟨0, at_, rfl, by omega, by show _ = _; rw [HA2.out]; simp [catW], hR, hbw⟩
                      case round =>
                        clear hbw hR HA2
                        obtain ⟨k, at_, rfl, hk, HA, hR, hbw⟩ := hrel
                        by_cases h : k < v'.length
                        · obtain ⟨ad, rfl, hab, hcell⟩ := (H2.out.below hbw).at_ h
                          have hn := B2.out _ (List.getElem_mem h)
                          have hst := catW_take v' k h
                          have hdrop : lst.drop at_ = wordB v'[k] ++ catW (v'.drop (k + 1)) := by
                            rw [HL3.out, catW_split v' k h, HA.out, ← List.append_assoc (catV l' ++ catT s'), List.drop_left]
                          have HST := Lib.hid hst
                          clear hst
                          generalize v'[k] = n at *
                          have HC := word_there g Ar lst cr at_ n _ wr.drew hR.drew hn hdrop
                          clear hdrop
                          have hgl : g < wr.drew.heap.size := hR.blk.lt
                          have hcd : wr.drew.cell? (ad.add k) = some (.int .u32 (n : Int)) := hcell
                          have hat' : Hid (at_ + 4 = (catV l' ++ catT s' ++ catW (v'.take (k + 1))).length) := by show _ = _; rw [HST.out, ← List.append_assoc, HA.out]; exact (List.length_append (bs := wordB n)).symm
                          generalize at_ + 4 = at2 at *
                          go_wp2_with fail
                          go_region_with (first
                            | (go_at_call 31
                               refine HC.mono ?_
                               rintro e w1 ⟨rfl, hR1, hg1⟩
                               have hcell1 : w1.cell? (ad.add k) = some (.int .u32 (n : Int)) := hg1.cell hcd (by rw [add_block]; intro e; injection e; omega)))
                          all_goals
                            go_wp2
                            go_roundw
                            case rel => exact ⟨k + 1, at2, by go_num, by omega, hat', hR1, hbw.trans (below_drew (below_side hg1 hgB2 hgl))⟩
                            case measure => simp [intOf]; omega
                        · obtain rfl : k = v'.length := by omega
                          have hend : at_ = lst.length := by have := HA.out; rw [List.take_length] at this; rw [this, HL3.out]
                          subst hend
                          clear HA h hk
                          go_wp2_with fail
                          refine (known2_calls _).mono ?_
                          rintro e w2 ⟨rfl, hb2⟩
                          have hR2 := hR.keep hb2
                          have hbw2 := hbw.trans (hb2.mono (Nat.le_of_lt (Nat.lt_of_le_of_lt hgB2 hR.blk.lt)))
                          have hev : endV lst lst.length 0 = 0 := by unfold endV; rw [if_neg (by omega)]
                          have HE := end_calls g Ar lst cr lst.length 0 w2 hR2
                          rw [hev] at HE
                          clear hb2 hR hbw
                          go_wp2_with fail
                          refine HE.mono ?_
                          rintro e w3 ⟨rfl, q3, rfl⟩
                          have HL := left_calls g Ar lst cr lst.length 0 (w2.drewN q3) (hR2.drewN q3)
                          rw [Nat.sub_self] at HL
                          go_wp2_with fail
                          refine HL.mono ?_
                          rintro e w4 ⟨rfl, q4, rfl⟩
                          go_wp2
                          go_ret
                          exact ⟨rfl, drewN_below hbw2 _⟩
end Go.Proofs.Ytbddgmikbpggeaa
