/- BookRights, pure: of all modules it is told whether all is within its limits. -/
import Derived.Test.YthpdlgamicmhaaaGreatPRx23
import Derived.Test.YthpdlgamicmhaaaGreatKindsBookRights
namespace Go.Proofs.YthpdlgamicmhaaaGreat.Pure
open Go.RowKit Go.Proofs.YthpdlgamicmhaaaGreat.PR Go.Proofs.YthpdlgamicmhaaaGreatW.PrintWords Go.Proofs.YthpdlgamicmhaaaGreatW.PrintLast Go.Proofs.YthpdlgamicmhaaaGreat.KS
set_option linter.unusedVariables false
set_option linter.unusedSimpArgs false

theorem wrap_up {i : Int} {n : Nat} (h0 : 0 ≤ i) (h : i < (n : Int)) (hn : n ≤ 140737488351232) : wrap64 (i + 1) = i + 1 := by
 unfold wrap64
 omega

theorem wu {i n : Nat} (h : i < n) (hn : n ≤ 140737488351232) : wrap64 ((i : Int) + 1) = (i : Int) + 1 := wrap_up (by omega) (by omega) hn

abbrev Lt (c : Int) : Prop := 97 ≤ c ∧ c ≤ 122
abbrev Dg (c : Int) : Prop := (48 ≤ c ∧ c ≤ 57) ∨ c = 95
theorem one_book (k : Nat) (x : ByteArray) (i : Int) (h1 : 1 ≤ i) (h2 : i < (x.size : Int)) (hn : x.size ≤ 30) :
  book_Name.l0 (k + 1) x (x.size : Int) i = if Lt (bt x i) ∨ Dg (bt x i) then book_Name.l0 k x (x.size : Int) (i + 1) else some false := by
 rw [← wrap_up (by omega) h2 (by omega)]
 unfold Lt Dg
 simp only [book_Name.l0]
 rw [if_pos h2, if_pos (show 0 ≤ i by omega), if_pos h2]
 generalize bt x i = c
 generalize wrap64 (i + 1) = j
 have hi : ¬ i = 0 := by omega
 simp only [if_neg hi]
 generalize book_Name.l0 k x (x.size : Int) j = R
 (repeat' split) <;> first | rfl | (exfalso; omega) | exact absurd trivial ‹¬True›

theorem one_ref (k : Nat) (x : ByteArray) (i : Int) (h1 : 0 ≤ i) (h2 : i < (x.size : Int)) (hn : x.size ≤ 30) :
  R06_Name.l0 (k + 1) x i = if Lt (bt x i) ∨ Dg (bt x i) then R06_Name.l0 k x (i + 1) else some false := by
 rw [← wrap_up (by omega) h2 (by omega)]
 unfold Lt Dg
 simp only [R06_Name.l0]
 rw [if_pos h2, if_pos h1]
 generalize bt x i = c
 generalize wrap64 (i + 1) = j
 generalize R06_Name.l0 k x j = R
 (repeat' split) <;> first | rfl | (exfalso; omega) | exact absurd trivial ‹¬True›

theorem rest_same (x : ByteArray) (hn : x.size ≤ 30) (d : Nat) : ∀ (k : Nat) (i : Int), 1 ≤ i → i ≤ x.size → (x.size : Int) - i = d → d < k →
  ∃ b, book_Name.l0 k x (x.size : Int) i = some b ∧ R06_Name.l0 k x i = some b := by
 induction d with
 | zero =>
  intro k i h0 h1 hd hk
  obtain ⟨k, rfl⟩ : ∃ m, k = m + 1 := ⟨k - 1, by omega⟩
  exact ⟨true, by simp only [book_Name.l0]; rw [if_neg (by omega)], by simp only [R06_Name.l0]; rw [if_neg (by omega)]⟩
 | succ d ih =>
  intro k i h0 h1 hd hk
  obtain ⟨k, rfl⟩ : ∃ m, k = m + 1 := ⟨k - 1, by omega⟩
  rw [one_book k x i h0 (by omega) hn, one_ref k x i (by omega) (by omega) hn]
  by_cases h : Lt (bt x i) ∨ Dg (bt x i)
  ·
   rw [if_pos h, if_pos h]
   exact ih k (i + 1) (by omega) (by omega) (by omega) (by omega)
  ·
   rw [if_neg h, if_neg h]
   exact ⟨false, rfl, rfl⟩

theorem name_same (x : ByteArray) (k : Nat) (hk : 40 ≤ k) : ∃ b, book_Name.f k x = some b ∧ R06_Name.f k x = some b := by
 obtain ⟨k, rfl⟩ : ∃ m, k = m + 2 := ⟨k - 2, by omega⟩
 unfold book_Name.f R06_Name.f
 by_cases h0 : (x.size : Int) = 0
 ·
  rw [if_pos h0, if_pos (by omega)]
  exact ⟨false, by simp [book_Name.j0], by simp [R06_Name.j0]⟩
 ·
  rw [if_neg h0, if_neg (by omega)]
  by_cases h30 : (x.size : Int) > 30
  ·
   rw [if_pos h30, decide_eq_true h30]
   exact ⟨false, by simp [book_Name.j0], by simp [R06_Name.j0]⟩
  ·
   rw [if_neg h30, decide_eq_false h30, if_pos (by omega)]
   by_cases hl : Lt (bt x 0)
   ·
    rw [if_neg (by unfold Lt at hl; omega), decide_eq_false (by unfold Lt at hl; omega)]
    have e1 : book_Name.j0 (k + 2) x false = book_Name.l0 (k + 1) x (x.size : Int) 0 := by rw [book_Name.j0]; simp
    have e2 : R06_Name.j0 (k + 2) x false = R06_Name.l0 (k + 1) x 0 := by rw [R06_Name.j0]; simp
    rw [e1, e2, one_ref k x 0 (by omega) (by omega) (by omega), if_pos (.inl hl)]
    have e3 : book_Name.l0 (k + 1) x (x.size : Int) 0 = book_Name.l0 k x (x.size : Int) (0 + 1) := by
     rw [← wrap_up (n := x.size) (Int.le_refl 0) (by omega) (by omega)]
     unfold Lt at hl
     simp only [book_Name.l0]
     rw [if_pos (by omega), if_pos (by omega), if_pos (by omega)]
     generalize bt x 0 = c at hl ⊢
     (repeat' split) <;> first | rfl | (exfalso; omega) | exact absurd trivial ‹¬True›
    rw [e3]
    exact rest_same x (by omega) (x.size - 1) k 1 (by omega) (by omega) (by omega) (by omega)
   ·
    refine ⟨false, ?_, ?_⟩
    ·
     have e1 : book_Name.j0 (k + 2) x false = book_Name.l0 (k + 1) x (x.size : Int) 0 := by rw [book_Name.j0]; simp
     rw [e1]
     unfold Lt at hl
     simp only [book_Name.l0]
     rw [if_pos (by omega), if_pos (by omega), if_pos (by omega)]
     generalize bt x 0 = c at hl ⊢
     (repeat' split) <;> first | rfl | (exfalso; omega) | exact absurd trivial ‹¬True›
    ·
     unfold Lt at hl
     by_cases h97 : bt x 0 < 97
     ·
      rw [if_pos h97]; simp [R06_Name.j0]
     ·
      rw [if_neg h97, decide_eq_true (by omega)]; simp [R06_Name.j0]



theorem Ev.and {b : Bool} {f : Nat → Option Bool} {s : Bool} (h : Ev f s) : Ev (fun n => if b = true then f n else some false) (b && s) := by
 obtain ⟨K, h⟩ := h
 refine ⟨K, fun k hk => ?_⟩
 cases b with
 | true => simpa using h k hk
 | false => rfl
theorem Ev.chain {c : Nat → Option Bool} {f : Nat → Option Bool} {b s : Bool} (hc : Ev c b) (h : Ev f s) : Ev (fun n => (c n).bind fun t => if t = true then f n else some false) (b && s) :=
 Ev.bind (f := fun n t => if t = true then f n else some false) hc (Ev.and h)
theorem Ev.same {g : Nat → Option Bool} {a b : Bool} (h : Ev g a) (e : a = b) : Ev g b := e ▸ h
theorem Ev.const {o : Option Bool} {b : Bool} (h : o = some b) : Ev (fun _ => o) b := ⟨0, fun _ _ => h⟩
theorem rd_get {α : Type} (l : List α) (z : α) (i : Nat) (h : i < l.length) : l.getD ((i : Int)).toNat z = l[i] := by
 rw [Int.toNat_natCast, List.getD_eq_getElem?_getD, List.getElem?_eq_getElem h, Option.getD_some]
theorem lg {α : Type} (l : List α) (p : α → Bool) (g : Nat → Int → Option Bool) (r : Bool)
  (hstep : ∀ i (h : i < l.length) s, Ev (fun k => g k ((i : Int) + 1)) s → Ev (fun k => g k (i : Int)) (p l[i] && s))
  (hend : Ev (fun k => g k (l.length : Int)) r) : Ev (fun k => g k 0) (l.all p && r) := by
 have key : ∀ d i, i + d = l.length → Ev (fun k => g k (i : Int)) ((l.drop i).all p && r) := by
  intro d
  induction d with
  | zero =>
   intro i hi
   obtain rfl : i = l.length := by omega
   rw [List.drop_length]
   simpa using hend
  | succ d ih =>
   intro i hi
   have h1 := ih (i + 1) (by omega)
   rw [List.drop_eq_getElem_cons (by omega), List.all_cons, Bool.and_assoc]
   exact hstep i (by omega) _ (by simpa using h1)
 simpa using key l.length 0 (by omega)
theorem e_all {α : Type} (F : α → Nat → Option Bool) (p : α → Bool) : ∀ (l : List α), (∀ x ∈ l, Ev (F x) (p x)) → Ev (fun k => allO (fun x => F x k) l) (l.all p)
 | [], _ => ⟨0, fun _ _ => rfl⟩
 | x :: l, h => by
  rw [List.all_cons]
  exact Ev.chain (h x (by simp)) (e_all F p l fun y hy => h y (by simp [hy]))
theorem ee {α : Type} (F : α → Nat → Option Bool) (p : α → Bool) (l : List α) (n : Int) (hl : l.length ≤ 140737488351232) (h : ∀ x ∈ l, Ev (F x) (p x)) :
  Ev (fun k => if (l.length : Int) ≤ n then (if l.length ≤ 140737488351232 then allO (fun x => F x k) l else none) else some false) (decide ((l.length : Int) ≤ n) && l.all p) := by
 by_cases hn : (l.length : Int) ≤ n
 ·
  simp only [if_pos hn, if_pos hl, decide_eq_true hn, Bool.true_and]
  exact e_all F p l h
 ·
  simp only [if_neg hn, decide_eq_false hn, Bool.false_and]
  exact Ev.now _

def nm (x : ByteArray) : Bool := (book_Name.f 40 x).getD false
theorem en (x : ByteArray) : Ev (fun k => book_Name.f k x) (nm x) := by
 obtain ⟨b, h1, _⟩ := name_same x 40 (by omega)
 exact ⟨40, fun k hk => at_rounds (book_Name.mono x) hk (by unfold nm; rw [h1]; rfl)⟩
theorem er (x : ByteArray) : Ev (fun k => R06_Name.f k x) (nm x) := by
 obtain ⟨b, h1, h2⟩ := name_same x 40 (by omega)
 exact ⟨40, fun k hk => at_rounds (R06_Name.mono x) hk (by unfold nm; rw [h1]; exact h2)⟩
def inR (n lo hi : Int) : Bool := decide (lo ≤ n ∧ n ≤ hi)
theorem within_eq (n lo hi : Int) : book_within.f n lo hi = some (inR n lo hi) := by
 unfold book_within.f inR
 split <;> simp <;> omega
theorem in_eq (n lo hi : Int) : R06_in.f n lo hi = some (inR n lo hi) := by
 unfold R06_in.f inR
 split <;> simp <;> omega
theorem e_in (n lo hi : Int) : Ev (fun _ => R06_in.f n lo hi) (inR n lo hi) := Ev.const (in_eq n lo hi)
theorem ew (n lo hi : Int) : Ev (fun _ => book_within.f n lo hi) (inR n lo hi) := Ev.const (within_eq n lo hi)
theorem e_done {g : Nat → Option Bool} {b : Bool} (h : Ev g b) : Ev (fun n => (g n).bind fun t => some t) b := by
 obtain ⟨K, h⟩ := h
 exact ⟨K, fun k hk => by simp [h k hk]⟩

theorem cw {n lo hi : Int} {f : Nat → Option Bool} {s : Bool} (h : Ev f s) : Ev (fun k => (book_within.f n lo hi).bind fun t => if t = true then f k else some false) (inR n lo hi && s) := Ev.chain (ew _ _ _) h
theorem ci {n lo hi : Int} {f : Nat → Option Bool} {s : Bool} (h : Ev f s) : Ev (fun k => (R06_in.f n lo hi).bind fun t => if t = true then f k else some false) (inR n lo hi && s) := Ev.chain (e_in _ _ _) h
theorem dw {n lo hi : Int} : Ev (fun _ => (book_within.f n lo hi).bind fun t => some t) (inR n lo hi) := e_done (ew _ _ _)

theorem ba (a b c : Bool) : (a && b && c) = (a && (b && c)) := Bool.and_assoc a b c
theorem gm {α : Type} {l : List α} {n : Nat} (h : n < l.length) : l[n]'h ∈ l := List.getElem_mem h
def area (x : S62) : Bool := nm x.f0 && (inR x.f1 0 4095 && inR x.f2 1 4096)
def task (x : S109) : Bool := nm x.f0 && (inR x.f1 0 4095 && (inR x.f2 0 4096 && (inR x.f3 1 63 && (inR x.f4 0 1048576 && (inR x.f5 0 1048576 && (inR x.f6 0 1048576 && inR x.f7 0 1048576))))))
def lock (x : S111) : Bool := nm x.f0 && inR x.f1 1 63
def sema (x : S113) : Bool := nm x.f0 && (inR x.f1 0 65535 && inR x.f2 1 65535)
def ev (x : S115) : Bool := nm x.f0
def bo (x : S117) : Bool := nm x.f0 && inR x.f1 1 32
def bu (x : S119) : Bool := nm x.f0 && (inR x.f1 1 32 && inR x.f2 1 32)
def port (x : S60) : Bool := nm x.f0 && (inR x.f3 1 32 && (inR x.f4 0 32 && inR x.f5 0 1048576))
def rule (x : S64) : Bool := inR x.f0 1 27 && (inR x.f1 0 2 && inR x.f2 0 6)
def fin (x : S71) : Bool := inR x.f0 (-1) 15 && inR x.f1 0 15
def wi (x : S69) : Bool := inR x.f0 0 15 && (inR x.f1 0 1048576 && inR x.f2 1 1048576)
def link (x : S77) : Bool := nm x.f0 && (inR x.f1 0 31 && inR x.f2 0 1048576)
def few {α : Type} (l : List α) (n : Int) : Bool := decide ((l.length : Int) ≤ n)
def part (x : S52) : Bool :=
 nm x.f0 && (few x.f1 16 && x.f1.all area && (few x.f2 16 && x.f2.all task && (few x.f3 16 && x.f3.all lock && (few x.f4 16 && x.f4.all sema && (few x.f5 16 && x.f5.all ev && (few x.f6 16 && x.f6.all bo && (few x.f7 16 && x.f7.all bu && (few x.f8 16 && x.f8.all port && (few x.f9 32 && x.f9.all rule && (inR x.f10 0 1000 && (inR x.f11.f0 0 1048576 && inR x.f11.f1 0 1048576)))))))))))
def sc (x : S67) : Bool := nm x.f0 && (inR x.f1 1 1048576 && (few x.f2 64 && x.f2.all wi))
def chan (x : S74) : Bool := fin x.f0 && (few x.f1 8 && x.f1.all fin)
def mo (x : S30) : Bool := nm x.f0 && (few x.f1 16 && x.f1.all part && (few x.f2 8 && x.f2.all sc && (inR x.f3 0 7 && (few x.f4 32 && x.f4.all chan && (few x.f5 32 && x.f5.all link && (few x.f6 32 && x.f6.all rule))))))

theorem e_area (x : S62) : Ev (fun k => book_Partition_right_1.f k x.f0 x.f1 x.f2 x.f3 x.f4 x.f5) (area x) := Ev.chain (en _) (cw dw)
theorem e_task (x : S109) : Ev (fun k => book_Task_right.f k x.f0 x.f1 x.f2 x.f3 x.f4 x.f5 x.f6 x.f7) (task x) :=
 Ev.chain (en _) (cw (cw (cw (cw (cw (cw dw))))))
theorem e_lock (x : S111) : Ev (fun k => book_Partition_right_2.f k x.f0 x.f1) (lock x) := Ev.chain (en _) dw
theorem e_sema (x : S113) : Ev (fun k => book_Partition_right_3.f k x.f0 x.f1 x.f2 x.f3) (sema x) := Ev.chain (en _) (cw dw)
theorem e_ev (x : S115) : Ev (fun k => book_Partition_right_4.f k x.f0) (ev x) := e_done (en _)
theorem e_bo (x : S117) : Ev (fun k => book_Partition_right_5.f k x.f0 x.f1) (bo x) := Ev.chain (en _) dw
theorem e_bu (x : S119) : Ev (fun k => book_Partition_right_6.f k x.f0 x.f1 x.f2 x.f3) (bu x) := Ev.chain (en _) (cw dw)
theorem e_port (x : S60) : Ev (fun k => book_Partition_right_7.f k x.f0 x.f1 x.f2 x.f3 x.f4 x.f5) (port x) := Ev.chain (en _) (cw (cw dw))
theorem e_rule (x : S64) : Ev (fun _ => book_Rule_right.f x.f0 x.f1 x.f2) (rule x) := cw (cw dw)
theorem e_fin (x : S71) : Ev (fun _ => book_End_right.f x.f0 x.f1) (fin x) := cw dw
theorem e_wi (x : S69) : Ev (fun _ => book_Schedule_right_1.f x.f0 x.f1 x.f2) (wi x) := cw (cw dw)
theorem e_link (x : S77) : Ev (fun k => book_Module_Right_2.f k x.f0 x.f1 x.f2) (link x) := Ev.chain (en _) (cw dw)
theorem e_part (x : S52) (o : ok52 x) : Ev (fun k => book_Partition_right.f k x.f0 x.f1 x.f2 x.f3 x.f4 x.f5 x.f6 x.f7 x.f8 x.f9 x.f10 x.f11.f0 x.f11.f1) (part x) := by
 obtain ⟨_, o1, o2, o3, o4, o5, o6, o7, o8, o9, _⟩ := o
 exact Ev.chain (en _) (Ev.chain (ee _ area _ _ o1.1 fun y _ => e_area y) (Ev.chain (ee _ task _ _ o2.1 fun y _ => e_task y) (Ev.chain (ee _ lock _ _ o3.1 fun y _ => e_lock y) (Ev.chain (ee _ sema _ _ o4.1 fun y _ => e_sema y) (Ev.chain (ee _ ev _ _ o5.1 fun y _ => e_ev y)
  (Ev.chain (ee _ bo _ _ o6.1 fun y _ => e_bo y) (Ev.chain (ee _ bu _ _ o7.1 fun y _ => e_bu y) (Ev.chain (ee _ port _ _ o8.1 fun y _ => e_port y) (Ev.chain (ee _ rule _ _ o9.1 fun y _ => e_rule y) (cw (cw dw)))))))))))
theorem e_sc (x : S67) (o : ok67 x) : Ev (fun k => book_Schedule_right.f k x.f0 x.f1 x.f2) (sc x) :=
 Ev.chain (en _) (cw (e_done (ee _ wi _ _ o.2.2.1 fun y _ => e_wi y)))
theorem e_chan (x : S74) (o : ok74 x) : Ev (fun _ => book_Module_Right_1.f x.f0.f0 x.f0.f1 x.f1) (chan x) :=
 Ev.chain (e_fin x.f0) (e_done (ee _ fin _ _ o.2.1 fun y _ => e_fin y))
theorem e_mo (x : S30) (o : ok30 x) : Ev (fun k => book_Module_Right.f k x.f0 x.f1 x.f2 x.f3 x.f4 x.f5 x.f6) (mo x) := by
 obtain ⟨_, o1, o2, _, o4, o5, o6⟩ := o
 exact Ev.chain (en _) (Ev.chain (ee _ part _ _ o1.1 fun y hy => e_part y (o1.2 y hy)) (Ev.chain (ee _ sc _ _ o2.1 fun y hy => e_sc y (o2.2 y hy)) (Ev.chain (ew _ _ _)
  (Ev.chain (ee _ chan _ _ o4.1 fun y hy => e_chan y (o4.2 y hy)) (Ev.chain (ee _ link _ _ o5.1 fun y _ => e_link y) (e_done (ee _ rule _ _ o6.1 fun y _ => e_rule y)))))))

theorem Ev.chainJ {c : Nat → Option Bool} {f j : Nat → Option Bool} {b s : Bool} (hc : Ev c b) (h : Ev f s) (hj : Ev j false) : Ev (fun n => (c n).bind fun t => if t = true then f n else j n) (b && s) := by
 refine Ev.bind (f := fun n t => if t = true then f n else j n) hc ?_
 cases b with
 | true => simpa using h
 | false => simpa using hj
theorem e_gt {α : Type} {l : List α} {m : Int} {f j : Nat → Option Bool} {s : Bool} (h : Ev f s) (hj : Ev j false) : Ev (fun n => if (l.length : Int) > m then j n else f n) (few l m && s) := by
 unfold few
 by_cases hl : (l.length : Int) > m
 ·
  simp only [if_pos hl, decide_eq_false (show ¬ ((l.length : Int) ≤ m) by omega), Bool.false_and]; exact hj
 ·
  simp only [if_neg hl, decide_eq_true (show ((l.length : Int) ≤ m) by omega), Bool.true_and]; exact h
theorem e_last {α : Type} {l : List α} {m : Int} {J : Nat → Bool → Option Bool} {s : Bool} (h : Ev (fun n => J n false) s) (hj : Ev (fun n => J n true) false) : Ev (fun n => J n (decide ((l.length : Int) > m))) (few l m && s) := by
 unfold few
 by_cases hl : (l.length : Int) > m
 ·
  simp only [decide_eq_true hl, decide_eq_false (show ¬ ((l.length : Int) ≤ m) by omega), Bool.false_and]; exact hj
 ·
  simp only [decide_eq_false hl, decide_eq_true (show ((l.length : Int) ≤ m) by omega), Bool.true_and]; exact h
theorem e_not {c : Nat → Option Bool} {J : Nat → Bool → Option Bool} {b s : Bool} (hc : Ev c b) (h : Ev (fun n => J n false) s) (hj : Ev (fun n => J n true) false) : Ev (fun n => (c n).bind fun t => J n (!t)) (b && s) := by
 refine Ev.bind (f := fun n t => J n (!t)) hc ?_
 cases b with
 | true => simpa using h
 | false => simpa using hj

theorem e_rrules (l : List S64) (hl : l.length ≤ 140737488351232) : Ev (fun k => R06_rules.f k l) (few l 32 && l.all rule) := by
 unfold R06_rules.f
 refine Ev.same (e_gt (l := l) (m := 32) (s := l.all rule && true) ?_ ⟨0, fun _ _ => rfl⟩) (by simp)
 refine lg l rule (fun k i_ => R06_rules.l0 k l i_) _ (fun i hi s hs => ?_) ?_
 ·
  refine Ev.step (f := ?f1) ?h1 ?k1
  case h1 => intro k; simp only [R06_rules.l0]; rw [if_pos (by omega), if_pos (by omega), wu hi hl, show rd_T64 l (i : Int) = l[i] from rd_get _ _ _ hi]
  case k1 => exact Ev.same (ci (ci (ci hs))) (by simp [rule, ba])
 ·
  refine Ev.step (f := ?f2) ?h2 ?k2
  case h2 => intro k; simp only [R06_rules.l0]; rw [if_neg (by omega)]
  case k2 =>
   exact Ev.now _

theorem e_spoken (x : S52) (h6 : x.f6.length ≤ 140737488351232) (h7 : x.f7.length ≤ 140737488351232) (h8 : x.f8.length ≤ 140737488351232) : Ev (fun k => R06_spoken.f k x.f0 x.f1 x.f2 x.f3 x.f4 x.f5 x.f6 x.f7 x.f8 x.f9 x.f10 x.f11.f0 x.f11.f1) (x.f6.all bo && (x.f7.all bu && (x.f8.all port && true))) := by
 show Ev (fun k => R06_spoken.l0 k 0 x.f0 x.f1 x.f2 x.f3 x.f4 x.f5 x.f6 x.f7 x.f8 x.f9 x.f10 x.f11.f0 x.f11.f1) _
 refine lg x.f6 bo (fun k i_ => R06_spoken.l0 k i_ x.f0 x.f1 x.f2 x.f3 x.f4 x.f5 x.f6 x.f7 x.f8 x.f9 x.f10 x.f11.f0 x.f11.f1) _ (fun i hi s hs => ?_) ?_
 ·
  refine Ev.step (f := ?f3) ?h3 ?k3
  case h3 => intro k; simp only [R06_spoken.l0]; rw [if_pos (by omega), if_pos (by omega), wu hi h6, show rd_T117 x.f6 (i : Int) = x.f6[i] from rd_get _ _ _ hi]
  case k3 => exact Ev.same (Ev.chain (er _) (ci (hs))) (by simp [bo, ba])
 ·
  refine Ev.step (f := ?f4) ?h4 ?k4
  case h4 => intro k; simp only [R06_spoken.l0]; rw [if_neg (by omega)]
  case k4 =>
   refine lg x.f7 bu (fun k i_ => R06_spoken.l1 k i_ x.f0 x.f1 x.f2 x.f3 x.f4 x.f5 x.f6 x.f7 x.f8 x.f9 x.f10 x.f11.f0 x.f11.f1) _ (fun i hi s hs => ?_) ?_
   ·
    refine Ev.step (f := ?f5) ?h5 ?k5
    case h5 => intro k; simp only [R06_spoken.l1]; rw [if_pos (by omega), if_pos (by omega), wu hi h7, show rd_T119 x.f7 (i : Int) = x.f7[i] from rd_get _ _ _ hi]
    case k5 => exact Ev.same (Ev.chain (er _) (ci (ci (hs)))) (by simp [bu, ba])
   ·
    refine Ev.step (f := ?f6) ?h6 ?k6
    case h6 => intro k; simp only [R06_spoken.l1]; rw [if_neg (by omega)]
    case k6 =>
     refine lg x.f8 port (fun k i_ => R06_spoken.l2 k i_ x.f0 x.f1 x.f2 x.f3 x.f4 x.f5 x.f6 x.f7 x.f8 x.f9 x.f10 x.f11.f0 x.f11.f1) _ (fun i hi s hs => ?_) ?_
     ·
      refine Ev.step (f := ?f7) ?h7 ?k7
      case h7 => intro k; simp only [R06_spoken.l2]; rw [if_pos (by omega), if_pos (by omega), wu hi h8, show rd_T60 x.f8 (i : Int) = x.f8[i] from rd_get _ _ _ hi]
      case k7 => exact Ev.same (Ev.chain (er _) (ci (ci (ci (hs))))) (by simp [port, ba])
     ·
      refine Ev.step (f := ?f8) ?h8 ?k8
      case h8 => intro k; simp only [R06_spoken.l2]; rw [if_neg (by omega)]
      case k8 =>
       exact Ev.now _

theorem e_rpart (x : S52) (o : ok52 x) : Ev (fun k => R06_partition.f k x.f0 x.f1 x.f2 x.f3 x.f4 x.f5 x.f6 x.f7 x.f8 x.f9 x.f10 x.f11.f0 x.f11.f1) (part x) := by
 obtain ⟨_, ⟨o1, _⟩, ⟨o2, _⟩, ⟨o3, _⟩, ⟨o4, _⟩, ⟨o5, _⟩, ⟨o6, _⟩, ⟨o7, _⟩, ⟨o8, _⟩, ⟨o9, _⟩, _⟩ := o
 have hj : Ev (fun n => R06_partition.j0 n true x.f0 x.f1 x.f2 x.f3 x.f4 x.f5 x.f6 x.f7 x.f8 x.f9 x.f10 x.f11.f0 x.f11.f1) false := Ev.step (fun k => by simp only [R06_partition.j0]; rw [if_pos trivial]) (Ev.now _)
 have hb : Ev (fun n => R06_partition.j0 n false x.f0 x.f1 x.f2 x.f3 x.f4 x.f5 x.f6 x.f7 x.f8 x.f9 x.f10 x.f11.f0 x.f11.f1) (x.f1.all area && (x.f2.all task && (x.f3.all lock && (x.f4.all sema && (x.f5.all ev && ((x.f6.all bo && (x.f7.all bu && (x.f8.all port && true))) && ((few x.f9 32 && x.f9.all rule) && (inR x.f10 0 1000 && (inR x.f11.f0 0 1048576 && inR x.f11.f1 0 1048576))))))))) := by
  refine Ev.step (f := fun k => R06_partition.l0 k 0 x.f0 x.f1 x.f2 x.f3 x.f4 x.f5 x.f6 x.f7 x.f8 x.f9 x.f10 x.f11.f0 x.f11.f1) (fun k => by simp only [R06_partition.j0]; rw [if_neg (by decide)]) ?_
  refine lg x.f1 area (fun k i_ => R06_partition.l0 k i_ x.f0 x.f1 x.f2 x.f3 x.f4 x.f5 x.f6 x.f7 x.f8 x.f9 x.f10 x.f11.f0 x.f11.f1) _ (fun i hi s hs => ?_) ?_
  ·
   refine Ev.step (f := ?f9) ?h9 ?k9
   case h9 => intro k; simp only [R06_partition.l0]; rw [if_pos (by omega), if_pos (by omega), wu hi o1, show rd_T62 x.f1 (i : Int) = x.f1[i] from rd_get _ _ _ hi]
   case k9 => exact Ev.same (Ev.chain (er _) (ci (ci (hs)))) (by simp [area, ba])
  ·
   refine Ev.step (f := ?f10) ?h10 ?k10
   case h10 => intro k; simp only [R06_partition.l0]; rw [if_neg (by omega)]
   case k10 =>
    refine lg x.f2 task (fun k i_ => R06_partition.l1 k i_ x.f0 x.f1 x.f2 x.f3 x.f4 x.f5 x.f6 x.f7 x.f8 x.f9 x.f10 x.f11.f0 x.f11.f1) _ (fun i hi s hs => ?_) ?_
    ·
     refine Ev.step (f := ?f11) ?h11 ?k11
     case h11 => intro k; simp only [R06_partition.l1]; rw [if_pos (by omega), if_pos (by omega), wu hi o2, show rd_T109 x.f2 (i : Int) = x.f2[i] from rd_get _ _ _ hi]
     case k11 => exact Ev.same (Ev.chain (er _) (ci (ci (ci (ci (ci (ci (ci (hs))))))))) (by simp [task, ba])
    ·
     refine Ev.step (f := ?f12) ?h12 ?k12
     case h12 => intro k; simp only [R06_partition.l1]; rw [if_neg (by omega)]
     case k12 =>
      refine lg x.f3 lock (fun k i_ => R06_partition.l2 k i_ x.f0 x.f1 x.f2 x.f3 x.f4 x.f5 x.f6 x.f7 x.f8 x.f9 x.f10 x.f11.f0 x.f11.f1) _ (fun i hi s hs => ?_) ?_
      ·
       refine Ev.step (f := ?f13) ?h13 ?k13
       case h13 => intro k; simp only [R06_partition.l2]; rw [if_pos (by omega), if_pos (by omega), wu hi o3, show rd_T111 x.f3 (i : Int) = x.f3[i] from rd_get _ _ _ hi]
       case k13 => exact Ev.same (Ev.chain (er _) (ci (hs))) (by simp [lock, ba])
      ·
       refine Ev.step (f := ?f14) ?h14 ?k14
       case h14 => intro k; simp only [R06_partition.l2]; rw [if_neg (by omega)]
       case k14 =>
        refine lg x.f4 sema (fun k i_ => R06_partition.l3 k i_ x.f0 x.f1 x.f2 x.f3 x.f4 x.f5 x.f6 x.f7 x.f8 x.f9 x.f10 x.f11.f0 x.f11.f1) _ (fun i hi s hs => ?_) ?_
        ·
         refine Ev.step (f := ?f15) ?h15 ?k15
         case h15 => intro k; simp only [R06_partition.l3]; rw [if_pos (by omega), if_pos (by omega), wu hi o4, show rd_T113 x.f4 (i : Int) = x.f4[i] from rd_get _ _ _ hi]
         case k15 => exact Ev.same (Ev.chain (er _) (ci (ci (hs)))) (by simp [sema, ba])
        ·
         refine Ev.step (f := ?f16) ?h16 ?k16
         case h16 => intro k; simp only [R06_partition.l3]; rw [if_neg (by omega)]
         case k16 =>
          refine lg x.f5 ev (fun k i_ => R06_partition.l4 k i_ x.f0 x.f1 x.f2 x.f3 x.f4 x.f5 x.f6 x.f7 x.f8 x.f9 x.f10 x.f11.f0 x.f11.f1) _ (fun i hi s hs => ?_) ?_
          ·
           refine Ev.step (f := ?f17) ?h17 ?k17
           case h17 => intro k; simp only [R06_partition.l4]; rw [if_pos (by omega), if_pos (by omega), wu hi o5, show rd_T115 x.f5 (i : Int) = x.f5[i] from rd_get _ _ _ hi]
           case k17 => exact Ev.same (Ev.chain (er _) hs) (by simp [ev, ba])
          ·
           refine Ev.step (f := ?f18) ?h18 ?k18
           case h18 => intro k; simp only [R06_partition.l4]; rw [if_neg (by omega)]
           case k18 =>
            exact Ev.chain (e_spoken x o6 o7 o8) (Ev.chain (e_rrules x.f9 o9) (ci (ci (e_done (e_in _ _ _)))))

 unfold R06_partition.f
 refine Ev.same (Ev.chainJ (er _) (e_gt (l := x.f1) (e_gt (l := x.f2) (e_gt (l := x.f3) (e_gt (l := x.f4) (e_gt (l := x.f5) (e_gt (l := x.f6) (e_gt (l := x.f7) (e_last (l := x.f8) (J := fun n b => R06_partition.j0 n b x.f0 x.f1 x.f2 x.f3 x.f4 x.f5 x.f6 x.f7 x.f8 x.f9 x.f10 x.f11.f0 x.f11.f1) hb hj) hj) hj) hj) hj) hj) hj) hj) hj) ?_
 unfold part
 simp only [Bool.and_true, ba]
 ac_rfl
theorem e_rfin (x : S71) : Ev (fun _ => R06_end.f x.f0 x.f1) (fin x) := ci (e_done (e_in _ _ _))
theorem e_rmodul (x : S30) (o : ok30 x) : Ev (fun k => R06_Right.f k x.f0 x.f1 x.f2 x.f3 x.f4 x.f5 x.f6) (mo x) := by
 obtain ⟨_, ⟨o1, p1⟩, ⟨o2, p2⟩, _, ⟨o4, p4⟩, ⟨o5, _⟩, ⟨o6, _⟩⟩ := o
 have hj : Ev (fun n => R06_Right.j0 n true x.f0 x.f1 x.f2 x.f3 x.f4 x.f5 x.f6) false := Ev.step (fun k => by simp only [R06_Right.j0]; rw [if_pos trivial]) (Ev.now _)
 have hb : Ev (fun n => R06_Right.j0 n false x.f0 x.f1 x.f2 x.f3 x.f4 x.f5 x.f6) (x.f1.all part && (x.f2.all sc && (x.f4.all chan && (x.f5.all link && true)))) := by
  refine Ev.step (f := fun k => R06_Right.l0 k 0 x.f0 x.f1 x.f2 x.f3 x.f4 x.f5 x.f6) (fun k => by simp only [R06_Right.j0]; rw [if_neg (by decide)]) ?_
  refine lg x.f1 part (fun k i_ => R06_Right.l0 k i_ x.f0 x.f1 x.f2 x.f3 x.f4 x.f5 x.f6) _ (fun i hi s hs => ?_) ?_
  ·
   refine Ev.step (f := ?f19) ?h19 ?k19
   case h19 => intro k; simp only [R06_Right.l0]; rw [if_pos (by omega), if_pos (by omega), wu hi o1, show rd_T52 x.f1 (i : Int) = x.f1[i] from rd_get _ _ _ hi]
   case k19 => exact Ev.same (Ev.chain (e_rpart _ (p1 _ (gm hi))) hs) (by simp [part, ba])
  ·
   refine Ev.step (f := ?f20) ?h20 ?k20
   case h20 => intro k; simp only [R06_Right.l0]; rw [if_neg (by omega)]
   case k20 =>
    refine lg x.f2 sc (fun k i_ => R06_Right.l1 k i_ x.f0 x.f1 x.f2 x.f3 x.f4 x.f5 x.f6) _ (fun i hi s hs => ?_) ?_
    ·
     refine Ev.step (f := ?f21) ?h21 ?k21
     case h21 => intro k; simp only [R06_Right.l1]; rw [if_pos (by omega), if_pos (by omega), show rd_T67 x.f2 (i : Int) = x.f2[i] from rd_get _ _ _ hi]
     case k21 =>
      have hq := p2 _ (gm hi)
      generalize x.f2[i] = y at *
      have hj3 : Ev (fun n => R06_Right.j3 n (i : Int) true x.f0 x.f1 x.f2 x.f3 x.f4 x.f5 x.f6 y.f0 y.f1 y.f2) false := Ev.step (fun k => by simp only [R06_Right.j3]; rw [if_pos trivial]) (Ev.now _)
      have hw3 : Ev (fun n => R06_Right.j3 n (i : Int) false x.f0 x.f1 x.f2 x.f3 x.f4 x.f5 x.f6 y.f0 y.f1 y.f2) (y.f2.all wi && s) := by
       refine Ev.step (f := fun k => R06_Right.l2 k (i : Int) 0 x.f0 x.f1 x.f2 x.f3 x.f4 x.f5 x.f6 y.f0 y.f1 y.f2) (fun k => by simp only [R06_Right.j3]; rw [if_neg (by decide)]) ?_
       refine lg y.f2 wi (fun k j_ => R06_Right.l2 k (i : Int) j_ x.f0 x.f1 x.f2 x.f3 x.f4 x.f5 x.f6 y.f0 y.f1 y.f2) _ (fun j hj s hs => ?_) ?_
       ·
        refine Ev.step (f := ?f22) ?h22 ?k22
        case h22 => intro k; simp only [R06_Right.l2]; rw [if_pos (by omega), if_pos (by omega), wu hj hq.2.2.1, show rd_T69 y.f2 (j : Int) = y.f2[j] from rd_get _ _ _ hj]
        case k22 => exact Ev.same (ci (ci (ci (hs)))) (by simp [wi, ba])
       ·
        refine Ev.step (f := ?f23) ?h23 ?k23
        case h23 => intro k; simp only [R06_Right.l2]; rw [if_neg (by omega), wu hi o2]
        case k23 =>
         exact hs
      exact Ev.same (Ev.chainJ (er _) (Ev.chainJ (e_in _ _ _) (e_last (l := y.f2) (J := fun n b => R06_Right.j3 n (i : Int) b x.f0 x.f1 x.f2 x.f3 x.f4 x.f5 x.f6 y.f0 y.f1 y.f2) hw3 hj3) hj3) hj3) (by simp [sc, ba])
    ·
     refine Ev.step (f := ?f24) ?h24 ?k24
     case h24 => intro k; simp only [R06_Right.l1]; rw [if_neg (by omega)]
     case k24 =>
      refine lg x.f4 chan (fun k i_ => R06_Right.l3 k i_ x.f0 x.f1 x.f2 x.f3 x.f4 x.f5 x.f6) _ (fun i hi s hs => ?_) ?_
      ·
       refine Ev.step (f := ?f25) ?h25 ?k25
       case h25 => intro k; simp only [R06_Right.l3]; rw [if_pos (by omega), if_pos (by omega), show rd_T74 x.f4 (i : Int) = x.f4[i] from rd_get _ _ _ hi]
       case k25 =>
        have hq := p4 _ (gm hi)
        generalize x.f4[i] = y at *
        have hj6 : Ev (fun n => R06_Right.j6 n (i : Int) true x.f0 x.f1 x.f2 x.f3 x.f4 x.f5 x.f6 y.f0.f0 y.f0.f1 y.f1) false := Ev.step (fun k => by simp only [R06_Right.j6]; rw [if_pos trivial]) (Ev.now _)
        have hw6 : Ev (fun n => R06_Right.j6 n (i : Int) false x.f0 x.f1 x.f2 x.f3 x.f4 x.f5 x.f6 y.f0.f0 y.f0.f1 y.f1) (y.f1.all fin && s) := by
         refine Ev.step (f := fun k => R06_Right.l4 k (i : Int) 0 x.f0 x.f1 x.f2 x.f3 x.f4 x.f5 x.f6 y.f0.f0 y.f0.f1 y.f1) (fun k => by simp only [R06_Right.j6]; rw [if_neg (by decide)]) ?_
         refine lg y.f1 fin (fun k j_ => R06_Right.l4 k (i : Int) j_ x.f0 x.f1 x.f2 x.f3 x.f4 x.f5 x.f6 y.f0.f0 y.f0.f1 y.f1) _ (fun j hj s hs => ?_) ?_
         ·
          refine Ev.step (f := ?f26) ?h26 ?k26
          case h26 => intro k; simp only [R06_Right.l4]; rw [if_pos (by omega), if_pos (by omega), wu hj hq.2.1, show rd_T71 y.f1 (j : Int) = y.f1[j] from rd_get _ _ _ hj]
          case k26 => exact Ev.same (Ev.chain (e_rfin _) hs) (by simp [fin, ba])
         ·
          refine Ev.step (f := ?f27) ?h27 ?k27
          case h27 => intro k; simp only [R06_Right.l4]; rw [if_neg (by omega), wu hi o4]
          case k27 =>
           exact hs
        exact Ev.same (Ev.chainJ (e_rfin y.f0) (e_last (l := y.f1) (J := fun n b => R06_Right.j6 n (i : Int) b x.f0 x.f1 x.f2 x.f3 x.f4 x.f5 x.f6 y.f0.f0 y.f0.f1 y.f1) hw6 hj6) hj6) (by simp [chan, ba])
      ·
       refine Ev.step (f := ?f28) ?h28 ?k28
       case h28 => intro k; simp only [R06_Right.l3]; rw [if_neg (by omega)]
       case k28 =>
        refine lg x.f5 link (fun k i_ => R06_Right.l5 k i_ x.f0 x.f1 x.f2 x.f3 x.f4 x.f5 x.f6) _ (fun i hi s hs => ?_) ?_
        ·
         refine Ev.step (f := ?f29) ?h29 ?k29
         case h29 => intro k; simp only [R06_Right.l5]; rw [if_pos (by omega), if_pos (by omega), wu hi o5, show rd_T77 x.f5 (i : Int) = x.f5[i] from rd_get _ _ _ hi]
         case k29 => exact Ev.same (Ev.chain (er _) (ci (ci (hs)))) (by simp [link, ba])
        ·
         refine Ev.step (f := ?f30) ?h30 ?k30
         case h30 => intro k; simp only [R06_Right.l5]; rw [if_neg (by omega)]
         case k30 =>
          exact Ev.now _

 unfold R06_Right.f
 refine Ev.same (Ev.chainJ (er _) (e_gt (l := x.f1) (e_gt (l := x.f2) (e_gt (l := x.f4) (e_gt (l := x.f5) (Ev.chainJ (e_in _ _ _) (e_not (J := fun n b => R06_Right.j0 n b x.f0 x.f1 x.f2 x.f3 x.f4 x.f5 x.f6) (e_rrules x.f6 o6) hb hj) hj) hj) hj) hj) hj) hj) ?_
 unfold mo
 simp only [Bool.and_true, ba]
 ac_rfl

theorem loop_acc {g : Nat → Int → Int → Option Int} (n : Nat) (hstep : ∀ i < n, ∀ a, ∃ b, ∀ k, g (k + 1) a (i : Int) = g k b ((i : Int) + 1)) (hend : ∀ a, ∃ v, Ev (fun k => g k a (n : Int)) v) : ∀ a, ∃ v, Ev (fun k => g k a 0) v := by
 have key : ∀ d i, i + d = n → ∀ a, ∃ v, Ev (fun k => g k a (i : Int)) v := by
  intro d
  induction d with
  | zero =>
   intro i hi a
   obtain rfl : i = n := by omega
   exact hend a
  | succ d ih =>
   intro i hi a
   obtain ⟨b, hb⟩ := hstep i (by omega) a
   obtain ⟨v, hv⟩ := ih (i + 1) (by omega) b
   exact ⟨v, Ev.step hb (by simpa using hv)⟩
 simpa using key n 0 (by omega)
theorem e_rsize (x : S30) (o : ok30 x) : ∃ v, Ev (fun k => R06_Size.f k x.f0 x.f1 x.f2 x.f3 x.f4 x.f5 x.f6) v := by
 obtain ⟨_, ⟨o1, _⟩, ⟨o2, _⟩, _, ⟨o4, _⟩, _, _⟩ := o
 refine loop_acc (g := fun k a i => R06_Size.l0 k a i x.f0 x.f1 x.f2 x.f3 x.f4 x.f5 x.f6) x.f1.length (fun i hi a => ⟨?w1, fun k => ?hh1⟩) (fun a => ?ee1) _
 case hh1 => simp only [R06_Size.l0]; rw [if_pos (by omega), if_pos (by omega), wu hi o1]
 case ee1 =>
  obtain ⟨v, hv⟩ : ∃ v, Ev (fun k => R06_Size.l1 k a 0 x.f0 x.f1 x.f2 x.f3 x.f4 x.f5 x.f6) v := by
   refine loop_acc (g := fun k a i => R06_Size.l1 k a i x.f0 x.f1 x.f2 x.f3 x.f4 x.f5 x.f6) x.f2.length (fun i hi a => ⟨?w2, fun k => ?hh2⟩) (fun a => ?ee2) _
   case hh2 => simp only [R06_Size.l1]; rw [if_pos (by omega), if_pos (by omega), wu hi o2]
   case ee2 =>
    obtain ⟨v, hv⟩ : ∃ v, Ev (fun k => R06_Size.l2 k a 0 x.f0 x.f1 x.f2 x.f3 x.f4 x.f5 x.f6) v := by
     refine loop_acc (g := fun k a i => R06_Size.l2 k a i x.f0 x.f1 x.f2 x.f3 x.f4 x.f5 x.f6) x.f4.length (fun i hi a => ⟨?w3, fun k => ?hh3⟩) (fun a => ?ee3) _
     case hh3 => simp only [R06_Size.l2]; rw [if_pos (by omega), if_pos (by omega), wu hi o4]
     case ee3 =>
      exact ⟨a, Ev.step (f := fun _ => some a) (fun k => by simp only [R06_Size.l2]; rw [if_neg (by omega)]) ⟨0, fun _ _ => rfl⟩⟩
    exact ⟨v, Ev.step (fun k => by simp only [R06_Size.l1]; rw [if_neg (by omega)]) hv⟩
  exact ⟨v, Ev.step (fun k => by simp only [R06_Size.l0]; rw [if_neg (by omega)]) hv⟩
theorem e_few (x : S30) (o : ok30 x) : ∃ b, Ev (fun k => L06_Few.f k x.f0 x.f1 x.f2 x.f3 x.f4 x.f5 x.f6) b := by
 obtain ⟨v, hv⟩ := e_rsize x o
 unfold L06_Few.f
 by_cases h1 : (x.f1.length : Int) > 40
 ·
  exact ⟨false, ⟨0, fun k _ => by dsimp only; rw [if_pos h1]⟩⟩
 ·
  by_cases h2 : (x.f2.length : Int) > 20
  ·
   exact ⟨false, ⟨0, fun k _ => by dsimp only; rw [if_neg h1, if_pos h2]⟩⟩
  ·
   by_cases h4 : (x.f4.length : Int) > 60
   ·
    exact ⟨false, ⟨0, fun k _ => by dsimp only; rw [if_neg h1, if_neg h2, if_pos h4]⟩⟩
   ·
    by_cases h5 : (x.f5.length : Int) > 60
    ·
     exact ⟨false, ⟨0, fun k _ => by dsimp only; rw [if_neg h1, if_neg h2, if_neg h4, if_pos h5]⟩⟩
    ·
     obtain ⟨K, hK⟩ := hv
     exact ⟨decide (v ≤ 1000), ⟨K, fun k hk => by have e := hK k hk; dsimp only at e ⊢; rw [if_neg h1, if_neg h2, if_neg h4, if_neg h5, e]; rfl⟩⟩

theorem BookRights (x : S30) (o : ok30 x) : ∃ k, L06_BookRights.f k x.f0 x.f1 x.f2 x.f3 x.f4 x.f5 x.f6 = some true := by
 obtain ⟨b, K1, h1⟩ := e_few x o
 obtain ⟨K2, h2⟩ := e_mo x o
 obtain ⟨K3, h3⟩ := e_rmodul x o
 refine ⟨max K1 (max K2 K3), ?_⟩
 unfold L06_BookRights.f
 have e1 := h1 (max K1 (max K2 K3)) (by omega)
 have e2 := h2 (max K1 (max K2 K3)) (by omega)
 have e3 := h3 (max K1 (max K2 K3)) (by omega)
 dsimp only at e1 e2 e3
 rw [e1, e2, e3, show L06_told.f = some true from rfl]
 cases b <;> simp

end Go.Proofs.YthpdlgamicmhaaaGreat.Pure
