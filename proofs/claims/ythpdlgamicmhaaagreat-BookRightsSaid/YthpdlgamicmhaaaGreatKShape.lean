/- What an argument's reading gives, in the print's words: its data, and how large it is. -/
import Derived.Test.YthpdlgamicmhaaaGreatWWords
import Derived.ProofKit
import Derived.OpenShut
import Derived.Deep.Slices
import Derived.SizedLaws
namespace Go.Proofs.YthpdlgamicmhaaaGreat.KS
open Go.RowKit Go.Proofs.YthpdlgamicmhaaaGreatW.PrintWords
set_option linter.unusedVariables false
set_option linter.unusedSimpArgs false

structure KShape {α : Type} (P : Program) (t : TypeId) (d : Kd α) (ok : α → Prop) : Prop where
 cells : P.cellsOf t = d.sz
 opens : ∀ {H : Type} {enc : TypeId × Value → H} {w : World} {sp : Nat → Bool} {held : Bool} {fuel : Nat} {cs : List Value} {x : DataW H × List MemPlace}, DataW.trod enc P w 0 sp held fuel t cs = some x → (x.1.weights P t).all (· ≤ reachBytes) = true → ∃ a, d.K w a cs ∧ ok a

def okInt (k : IntKind) (n : Int) : Prop := (Lit.int k n).wf = true
def okStr (s : ByteArray) : Prop := s.size ≤ 140737488351232
def okBool (_ : Bool) : Prop := True
def okList {α : Type} (ok : α → Prop) (l : List α) : Prop := l.length ≤ 140737488351232 ∧ ∀ a ∈ l, ok a
def okP {α β : Type} (o : α → Prop) (p : β → Prop) (a : α × β) : Prop := o a.1 ∧ p a.2

theorem ks_int {P : Program} {t : TypeId} {k : IntKind} (ht : P.underlying t = some (.int k)) (hc : P.cellsOf t = 1) : KShape P t (Kd.int k) (okInt k) :=
 ⟨hc, fun h _ => by obtain ⟨n, rfl, _, hw⟩ := DataW.trod_int ht h; exact ⟨n, rfl, hw⟩⟩
theorem ks_bool {P : Program} {t : TypeId} (ht : P.underlying t = some .bool) (hc : P.cellsOf t = 1) : KShape P t Kd.bool okBool :=
 ⟨hc, fun h _ => by obtain ⟨b, rfl, _⟩ := DataW.trod_bool ht h; exact ⟨b, rfl, trivial⟩⟩
theorem ks_str {P : Program} {t : TypeId} (ht : P.underlying t = some .string) (hc : P.cellsOf t = 1) : KShape P t Kd.string okStr := by
 refine ⟨hc, fun {H enc w sp held fuel cs x} h hw => ?_⟩
 obtain ⟨s, rfl, rfl, _⟩ := DataW.trod_string ht h
 refine ⟨s, rfl, ?_⟩
 have h1 : s.data.toList.length ≤ reachBytes := by simpa [DataW.weights] using hw
 rw [Array.length_toList] at h1
 exact h1

theorem weightsAll_get {H : Type} {P : Program} {e : TypeId} : ∀ {l : List (DataW H)} {i : Nat} {d : DataW H}, l[i]? = some d → (DataW.weightsAll P e l).all (· ≤ reachBytes) = true → (d.weights P e).all (· ≤ reachBytes) = true
 | [], i, d, h, _ => by simp at h
 | a :: l, 0, d, h, hw => by
  simp only [List.getElem?_cons_zero, Option.some.injEq] at h
  subst h
  simp only [DataW.weightsAll, List.all_append, Bool.and_eq_true] at hw
  exact hw.1
 | a :: l, i + 1, d, h, hw => by
  simp only [List.getElem?_cons_succ] at h
  simp only [DataW.weightsAll, List.all_append, Bool.and_eq_true] at hw
  exact weightsAll_get h hw.2

theorem ks_slice {α : Type} {P : Program} {t e : TypeId} {d : Kd α} {ok : α → Prop} (ht : P.underlying t = some (.slice e)) (hc : P.cellsOf t = 1) (hb' : decide (0 < P.bytesOf e) = true) (h : KShape P e d ok) : KShape P t (Kd.slice e d) (okList ok) := by
 have hb := of_decide_eq_true hb'
 refine ⟨hc, fun {H enc w sp held fuel cs x} hx hw => ?_⟩
 rcases Deep.open_slice ht hx with ⟨rfl, _⟩ | ⟨a, len, cap, m, n, D, Pl, rfl, _, hl, hm, hmm, rfl, hi⟩
 ·
  exact ⟨[], ⟨none, 0, rfl, Nat.le_refl _, Kd.C_nil d w⟩, by simp [okList]⟩
 ·
  have hlm : len ≤ m := by rw [hmm]; split <;> omega
  simp only [DataW.weights, ht, List.all_cons, List.all_append, Bool.and_eq_true, List.length_map, List.length_range, decide_eq_true_eq] at hw
  obtain ⟨hw1, hw2, _⟩ := hw
  have hlen : len ≤ 140737488351232 := by
   have h1 : len * 1 ≤ (len + (m - len)) * P.bytesOf e := Nat.mul_le_mul (by omega) hb
   have h2 : reachBytes = 140737488351232 := rfl
   omega
  rw [h.cells] at hi
  have key : ∀ k, k ≤ len → ∃ l : List α, l.length = k ∧ (∀ j p, l[j]? = some p → ∃ c, c.length = d.sz ∧ d.K w p c ∧ ∀ i u, c[i]? = some u → w.cell? (a.add (j * d.sz + i)) = some u) ∧ ∀ p ∈ l, ok p := by
   intro k
   induction k with
   | zero => intro _; exact ⟨[], rfl, by simp, by simp⟩
   | succ k ih =>
    intro hk
    obtain ⟨l, h1, h2, h3⟩ := ih (by omega)
    obtain ⟨cs', hc1, hc2⟩ := hi k (by omega)
    have hwk := weightsAll_get (l := (List.range len).map D) (i := k) (d := D k) (by simp [show k < len by omega]) hw2
    obtain ⟨b, hb1, hb2⟩ := h.opens hc2 hwk
    obtain ⟨_, hlen', hcell⟩ := World.cells?_some hc1
    refine ⟨l ++ [b], by simp [h1], fun j p hj => ?_, fun p hp => ?_⟩
    ·
     by_cases hjk : j < k
     ·
      rw [List.getElem?_append_left (by omega)] at hj
      exact h2 j p hj
     ·
      have hjl : j < (l ++ [b]).length := (List.getElem?_eq_some_iff.1 hj).1
      have hje : j = k := by simp at hjl; omega
      subst hje
      rw [List.getElem?_append_right (by omega), h1] at hj
      have hp : b = p := by simpa using hj
      subst hp
      refine ⟨cs', hlen', hb1, fun i u hu => ?_⟩
      have hil : i < d.sz := by have := (List.getElem?_eq_some_iff.1 hu).1; omega
      have := hcell i hil
      have e1 : (a.add (j * d.sz)).add i = a.add (j * d.sz + i) := by
       unfold Addr.add
       by_cases h0 : j * d.sz = 0
       ·
        simp [h0]
       ·
        by_cases h1 : i = 0
        ·
         simp [h1, h0]
        ·
         simp [h0, h1, Nat.add_assoc]
      rw [e1] at this
      rw [this, hu]
    ·
     rcases List.mem_append.1 hp with h | h
     ·
      exact h3 p h
     ·
      have : p = b := by simpa using h
      subst this
      exact hb2
  obtain ⟨l, h1, h2, h3⟩ := key len (Nat.le_refl _)
  refine ⟨l, ⟨some a, cap, by rw [h1], by omega, h1 ▸ rfl, by omega, fun _ => ⟨a, rfl, h2⟩⟩, by omega, h3⟩

def KFlds {α : Type} (P : Program) (fs : List Field) (off : Nat) (d : Kd α) (ok : α → Prop) : Prop :=
 ∀ {H : Type} {enc : TypeId × Value → H} {w : World} {sp : Nat → Bool} {held : Bool} {n : Nat} {cs : List Value} {ys : List (DataW H × List MemPlace)}, ys.length = fs.length → cs.length = off + d.sz →
  (∀ (i : Nat) (f : Field), fs[i]? = some f → DataW.trod enc P w 0 sp held n f.type ((cs.drop f.offset).take (P.cellsOf f.type)) = ys[i]?) →
  (DataW.weightsEach P (fs.map (·.type)) (ys.map (·.1))).all (· ≤ reachBytes) = true → ∃ a, d.K w a (cs.drop off) ∧ ok a
theorem kfo {α : Type} {P : Program} {f : Field} {off : Nat} {d : Kd α} {ok : α → Prop} (ho : f.offset = off) (h : KShape P f.type d ok) : KFlds P [f] off d ok := by
 intro H enc w sp held n cs ys hy hl hx hw
 match ys, hy with
 | [y], hy =>
  have h0 := hx 0 f rfl
  rw [ho, h.cells, List.take_of_length_le (by simp; omega)] at h0
  simp only [List.map_cons, List.map_nil, DataW.weightsEach, List.append_nil] at hw
  exact h.opens h0 hw
theorem kfc {α β : Type} {P : Program} {f g : Field} {fs : List Field} {off : Nat} {d : Kd α} {d2 : Kd β} {ok : α → Prop} {ok2 : β → Prop} (ho : f.offset = off) (h : KShape P f.type d ok) (hs : KFlds P (g :: fs) (off + d.sz) d2 ok2) : KFlds P (f :: g :: fs) off (Kd.pair d d2) (okP ok ok2) := by
 intro H enc w sp held n cs ys hy hl hx hw
 have hl' : cs.length = off + (d.sz + d2.sz) := hl
 match ys, hy with
 | y :: ys, hy =>
  have h0 := hx 0 f rfl
  rw [ho, h.cells] at h0
  simp only [List.map_cons, DataW.weightsEach, List.all_append, Bool.and_eq_true] at hw
  obtain ⟨a, ha, ha2⟩ := h.opens h0 hw.1
  obtain ⟨b, hb, hb2⟩ := hs (cs := cs) (ys := ys) (by simpa using hy) (by omega) (fun i g hg => by
   have := hx (i + 1) g (by simpa using hg)
   simpa using this) (by simpa [DataW.weightsEach] using hw.2)
  refine ⟨(a, b), ⟨(cs.drop off).take d.sz, cs.drop (off + d.sz), ?_, ha, hb⟩, ha2, hb2⟩
  rw [← List.drop_drop, List.take_append_drop]
theorem ks_struct {α β : Type} {P : Program} {t : TypeId} {fs : Array Field} {d : Kd α} {ok : α → Prop} {f : β → α} {g : α → β} (ht : P.underlying t = some (.struct fs)) (hc : P.cellsOf t = d.sz) (hg : ∀ a, f (g a) = a) (h : KFlds P fs.toList 0 d ok) : KShape P t (Kd.iso d f) (fun x => ok (f x)) := by
 refine ⟨hc, fun {H enc w sp held fuel cs x} hx hw => ?_⟩
 obtain ⟨ys, n, _, rfl, hl, hy, hf⟩ := DataW.trod_struct ht hx
 simp only [DataW.weights, ht] at hw
 obtain ⟨a, ha, ha2⟩ := h (enc := enc) (w := w) (sp := sp) (held := held) (n := n) (cs := cs) (ys := ys) (by simpa using hy) (by omega) (fun i f hi => hf i f (by simpa using hi)) hw
 refine ⟨g a, ?_, by rw [hg]; exact ha2⟩
 show d.K w (f (g a)) cs
 rw [hg]
 simpa using ha
end Go.Proofs.YthpdlgamicmhaaaGreat.KS
