/- What an argument's reading gives, whatever its type: representation predicates and how they are put together. -/
import Derived.Test.YtbddgmikbpggeaaWords
import Derived.ProofKit
import Derived.OpenShut
import Derived.Deep.Slices
namespace Go.Proofs.Ytbddgmikbpggeaa
open Go.RowKit
set_option linter.unusedVariables false
set_option linter.unusedSimpArgs false

/-- What cells stand for, in a world, below a block number. -/
abbrev Rep (α : Type) := World → Nat → List Value → α → Prop

structure RepOk {α : Type} (R : Rep α) (sz : Nat) : Prop where
  len : ∀ {w B cs a}, R w B cs a → cs.length = sz
  below : ∀ {w w' B cs a}, R w B cs a → Below B w w' → R w' B cs a
  mono : ∀ {w B B' cs a}, R w B cs a → B ≤ B' → R w B' cs a
theorem RepOk.keep {α : Type} {R : Rep α} {sz : Nat} (h : RepOk R sz) {w w' : World} {cs : List Value} {a : α} (hr : R w w.heap.size cs a) (hb : Below w.heap.size w w') : R w' w'.heap.size cs a := h.mono (h.below hr hb) hb.size

def intR (k : IntKind) : Rep Int := fun _ _ cs n => cs = [.int k n] ∧ (Lit.int k n).wf = true
def natR (k : IntKind) (m : Nat) : Rep Nat := fun _ _ cs n => cs = [.int k (n : Int)] ∧ n < m
def boolR : Rep Bool := fun _ _ cs b => cs = [.bool b]
def strR : Rep ByteArray := fun _ _ cs s => cs = [.string s] ∧ s.size ≤ maxLen
def unitR : Rep Unit := fun _ _ cs _ => cs = []
def pairR {α β : Type} (R : Rep α) (S : Rep β) : Rep (α × β) := fun w B cs a => ∃ c1 c2, cs = c1 ++ c2 ∧ R w B c1 a.1 ∧ S w B c2 a.2
def mapR {α β : Type} (f : α → β) (R : Rep α) : Rep β := fun w B cs b => ∃ a, f a = b ∧ R w B cs a
/-- A row of cells, element by element. -/
inductive rowsR {α : Type} (R : Rep α) (w : World) (B : Nat) : List Value → List α → Prop
  | nil : rowsR R w B [] []
  | cons {c cs a l} : R w B c a → rowsR R w B cs l → rowsR R w B (c ++ cs) (a :: l)
def arrR {α : Type} (n : Nat) (R : Rep α) : Rep (List α) := fun w B cs l => l.length = n ∧ rowsR R w B cs l
def sliceR {α : Type} (sz : Nat) (R : Rep α) : Rep (List α) := fun w B cs l => ∃ A c xs, cs = [.slice A l.length c] ∧ l.length ≤ c ∧ c ≤ maxLen ∧ Rd w B sz A l.length xs ∧ rowsR R w B xs l

theorem intR_ok (k : IntKind) : RepOk (intR k) 1 := ⟨fun h => by rw [h.1]; rfl, fun h _ => h, fun h _ => h⟩
theorem natR_ok (k : IntKind) (m : Nat) : RepOk (natR k m) 1 := ⟨fun h => by rw [h.1]; rfl, fun h _ => h, fun h _ => h⟩
theorem boolR_ok : RepOk boolR 1 := ⟨fun h => by rw [h]; rfl, fun h _ => h, fun h _ => h⟩
theorem strR_ok : RepOk strR 1 := ⟨fun h => by rw [h.1]; rfl, fun h _ => h, fun h _ => h⟩
theorem unitR_ok : RepOk unitR 0 := ⟨fun h => by rw [h]; rfl, fun h _ => h, fun h _ => h⟩
theorem pairR_ok {α β : Type} {R : Rep α} {S : Rep β} {m n : Nat} (h1 : RepOk R m) (h2 : RepOk S n) : RepOk (pairR R S) (m + n) := by
  refine ⟨?_, ?_, ?_⟩
  · rintro w B cs a ⟨c1, c2, rfl, hr, hs⟩; rw [List.length_append, h1.len hr, h2.len hs]
  · rintro w w' B cs a ⟨c1, c2, rfl, hr, hs⟩ hb; exact ⟨c1, c2, rfl, h1.below hr hb, h2.below hs hb⟩
  · rintro w B B' cs a ⟨c1, c2, rfl, hr, hs⟩ hb; exact ⟨c1, c2, rfl, h1.mono hr hb, h2.mono hs hb⟩
theorem mapR_ok {α β : Type} {f : α → β} {R : Rep α} {m : Nat} (h : RepOk R m) : RepOk (mapR f R) m := by
  refine ⟨?_, ?_, ?_⟩
  · rintro w B cs b ⟨a, rfl, hr⟩; exact h.len hr
  · rintro w w' B cs b ⟨a, rfl, hr⟩ hb; exact ⟨a, rfl, h.below hr hb⟩
  · rintro w B B' cs b ⟨a, rfl, hr⟩ hb; exact ⟨a, rfl, h.mono hr hb⟩
theorem rowsR.len {α : Type} {R : Rep α} {m : Nat} (h : RepOk R m) {w : World} {B : Nat} {cs : List Value} {l : List α} (hr : rowsR R w B cs l) : cs.length = l.length * m := by
  induction hr with
  | nil => simp
  | cons h1 _ ih => rw [List.length_append, h.len h1, ih, List.length_cons, Nat.succ_mul, Nat.add_comm]
theorem rowsR.keepB {α : Type} {R : Rep α} {m : Nat} (h : RepOk R m) {w w' : World} {B : Nat} {cs : List Value} {l : List α} (hr : rowsR R w B cs l) (hb : Below B w w') : rowsR R w' B cs l := by
  induction hr with
  | nil => exact .nil
  | cons h1 _ ih => exact .cons (h.below h1 hb) ih
theorem rowsR.mono {α : Type} {R : Rep α} {m : Nat} (h : RepOk R m) {w : World} {B B' : Nat} {cs : List Value} {l : List α} (hr : rowsR R w B cs l) (hb : B ≤ B') : rowsR R w B' cs l := by
  induction hr with
  | nil => exact .nil
  | cons h1 _ ih => exact .cons (h.mono h1 hb) ih
theorem rowsR.append {α : Type} {R : Rep α} {w : World} {B : Nat} {cs ds : List Value} {l m : List α} (hr : rowsR R w B cs l) (hs : rowsR R w B ds m) : rowsR R w B (cs ++ ds) (l ++ m) := by
  induction hr with
  | nil => exact hs
  | cons h1 _ ih => rw [List.append_assoc]; exact .cons h1 ih
theorem arrR_ok {α : Type} {R : Rep α} {m : Nat} (n : Nat) (h : RepOk R m) : RepOk (arrR n R) (n * m) := by
  refine ⟨?_, ?_, ?_⟩
  · rintro w B cs l ⟨hl, hr⟩; rw [hr.len h, hl]
  · rintro w w' B cs l ⟨hl, hr⟩ hb; exact ⟨hl, hr.keepB h hb⟩
  · rintro w B B' cs l ⟨hl, hr⟩ hb; exact ⟨hl, hr.mono h hb⟩
theorem sliceR_ok {α : Type} {R : Rep α} {m : Nat} (h : RepOk R m) : RepOk (sliceR m R) 1 := by
  refine ⟨?_, ?_, ?_⟩
  · rintro w B cs l ⟨A, c, xs, rfl, _⟩; rfl
  · rintro w w' B cs l ⟨A, c, xs, rfl, h1, h2, h3, h4⟩ hb; exact ⟨A, c, xs, rfl, h1, h2, h3.below hb, h4.keepB h hb⟩
  · rintro w B B' cs l ⟨A, c, xs, rfl, h1, h2, h3, h4⟩ hb; exact ⟨A, c, xs, rfl, h1, h2, h3.mono hb, h4.mono h hb⟩

/-- A type whose every reading is what R tells. -/
structure Shape {α : Type} (P : Program) (t : TypeId) (R : Rep α) (sz : Nat) : Prop where
  cells : P.cellsOf t = sz
  ok : RepOk R sz
  opens : ∀ {H : Type} {enc : TypeId × Value → H} {w : World} {sp : Nat → Bool} {held : Bool} {fuel : Nat} {cs : List Value} {x : DataW H × List MemPlace}, DataW.trod enc P w 0 sp held fuel t cs = some x → ∃ a, R w w.heap.size cs a

theorem shape_int {P : Program} {t : TypeId} {k : IntKind} (ht : P.underlying t = some (.int k)) (hc : P.cellsOf t = 1) : Shape P t (intR k) 1 :=
  ⟨hc, intR_ok k, fun h => by obtain ⟨n, rfl, _, hw⟩ := DataW.trod_int ht h; exact ⟨n, rfl, hw⟩⟩
theorem shape_bool {P : Program} {t : TypeId} (ht : P.underlying t = some .bool) (hc : P.cellsOf t = 1) : Shape P t boolR 1 :=
  ⟨hc, boolR_ok, fun h => by obtain ⟨b, rfl, _⟩ := DataW.trod_bool ht h; exact ⟨b, rfl⟩⟩
theorem shape_str {P : Program} {t : TypeId} (ht : P.underlying t = some .string) (hc : P.cellsOf t = 1) : Shape P t strR 1 :=
  ⟨hc, strR_ok, fun h => by obtain ⟨s, rfl, _, hw⟩ := DataW.trod_string ht h; exact ⟨s, rfl, hw⟩⟩
theorem Shape.map {α β : Type} {P : Program} {t : TypeId} {R : Rep α} {sz : Nat} (h : Shape P t R sz) (f : α → β) : Shape P t (mapR f R) sz :=
  ⟨h.cells, mapR_ok h.ok, fun hx => by obtain ⟨a, ha⟩ := h.opens hx; exact ⟨f a, a, rfl, ha⟩⟩
theorem shape_nat {P : Program} {t : TypeId} {k : IntKind} (m : Nat) (hk : ∀ n, (Lit.int k n).wf = true → 0 ≤ n ∧ n < m) (ht : P.underlying t = some (.int k)) (hc : P.cellsOf t = 1) : Shape P t (natR k m) 1 :=
  ⟨hc, natR_ok k m, fun h => by
    obtain ⟨n, rfl, _, hw⟩ := DataW.trod_int ht h
    have := hk n hw
    exact ⟨n.toNat, by rw [show ((n.toNat : Nat) : Int) = n by omega], by omega⟩⟩

theorem rowsR_of {α : Type} {R : Rep α} {w : World} {B : Nat} : ∀ (n : Nat) (f : Nat → List Value), (∀ i, i < n → ∃ a, R w B (f i) a) → ∃ l, l.length = n ∧ rowsR R w B ((List.range n).flatMap f) l := by
  intro n
  induction n with
  | zero => intro f _; exact ⟨[], rfl, .nil⟩
  | succ n ih =>
    intro f hf
    obtain ⟨l, hl, hr⟩ := ih f fun i hi => hf i (by omega)
    obtain ⟨a, ha⟩ := hf n (by omega)
    refine ⟨l ++ [a], by simp [hl], ?_⟩
    rw [List.range_succ, List.flatMap_append]
    refine hr.append ?_
    have := rowsR.cons ha (.nil (R := R) (w := w) (B := B))
    simpa using this

theorem shape_slice {α : Type} {P : Program} {t e : TypeId} {R : Rep α} {sz : Nat} (ht : P.underlying t = some (.slice e)) (hc : P.cellsOf t = 1) (h : Shape P e R sz) (hsz : 0 < sz) : Shape P t (sliceR sz R) 1 := by
  refine ⟨hc, sliceR_ok h.ok, fun {H enc w sp held fuel cs x} hx => ?_⟩
  rcases Deep.open_slice ht hx with ⟨rfl, _⟩ | ⟨a, len, cap, m, n, D, Pl, rfl, hb, hl, hm, hmm, _, hi⟩
  · exact ⟨[], none, 0, [], rfl, Nat.le_refl _, by simp [maxLen], Rd.nil w _ sz none, .nil⟩
  · rw [h.cells] at hi
    have hlm : len ≤ m := by rw [hmm]; split <;> omega
    have hall : ∀ i, i < len → ∃ cs', w.cells? 0 (a.add (i * sz)) sz = some cs' ∧ ∃ b, R w w.heap.size cs' b := fun i hil => by
      obtain ⟨cs', h1, h2⟩ := hi i (by omega)
      exact ⟨cs', h1, h.opens h2⟩
    obtain ⟨f, hf⟩ := Deep.choose_lt (α := List Value) hall
    obtain ⟨l, hlen, hr⟩ := rowsR_of (R := R) (w := w) (B := w.heap.size) len f fun i hil => (hf i hil).2
    refine ⟨l, some a, cap, (List.range len).flatMap f, by rw [hlen], by omega, hm, ⟨by rw [hr.len h.ok], fun hn => ⟨a, rfl, ?_, ?_⟩⟩, hr⟩
    · have hp : 0 < len := by omega
      obtain ⟨_, hlen0, hc0⟩ := World.cells?_some (hf 0 hp).1
      have h0 := hc0 0 hsz
      rw [List.getElem?_eq_getElem (by omega)] at h0
      have := block_lt_of_cell h0
      simpa [add_block] using this
    · intro j u hu
      have hjl : j < len * sz := by
        have := (List.getElem?_eq_some_iff.1 hu).1
        rw [hr.len h.ok, hlen] at this
        exact this
      have hq : j / sz < len := Nat.div_lt_of_lt_mul (by rw [Nat.mul_comm]; exact hjl)
      obtain ⟨_, hlq, hcq⟩ := World.cells?_some (hf (j / sz) hq).1
      have hmod : j % sz < sz := Nat.mod_lt _ hsz
      have hcell := hcq (j % sz) hmod
      rw [add_assoc', show j / sz * sz + j % sz = j by rw [Nat.mul_comm]; exact Nat.div_add_mod j sz] at hcell
      rw [hcell, ← hu]
      symm
      have gen : ∀ n, n ≤ len → ∀ j, j < n * sz → ((List.range n).flatMap f)[j]? = (f (j / sz))[j % sz]? := by
        intro n
        induction n with
        | zero => intro _ j hj; simp at hj
        | succ n ih =>
          intro hn j hj
          have hL : ((List.range n).flatMap f).length = n * sz := by
            obtain ⟨l', hl', hr'⟩ := rowsR_of (R := R) (w := w) (B := w.heap.size) n f fun i hil => (hf i (by omega)).2
            rw [hr'.len h.ok, hl']
          rw [List.range_succ, List.flatMap_append]
          by_cases hjn : j < n * sz
          · rw [List.getElem?_append_left (by omega)]; exact ih (by omega) j hjn
          · rw [List.getElem?_append_right (by omega), hL]
            have e1 : j / sz = n := by
              apply Nat.div_eq_of_lt_le
              · omega
              · exact hj
            have e2 : j % sz = j - n * sz := by
              have := Nat.div_add_mod j sz
              rw [e1, Nat.mul_comm] at this
              omega
            rw [e1, e2]; simp
      exact gen len (Nat.le_refl _) j hjl

/-- The fields of a struct, from one on. -/
def Flds {α : Type} (P : Program) (fs : List Field) (off : Nat) (R : Rep α) (sz : Nat) : Prop :=
  RepOk R sz ∧ ∀ {H : Type} {enc : TypeId × Value → H} {w : World} {sp : Nat → Bool} {held : Bool} {n : Nat} {cs : List Value} {ys : List (DataW H × List MemPlace)}, ys.length = fs.length → cs.length = off + sz →
    (∀ (i : Nat) (f : Field), fs[i]? = some f → DataW.trod enc P w 0 sp held n f.type ((cs.drop f.offset).take (P.cellsOf f.type)) = ys[i]?) → ∃ a, R w w.heap.size (cs.drop off) a
theorem flds_nil (P : Program) (off : Nat) : Flds P [] off unitR 0 :=
  ⟨unitR_ok, fun _ hl _ => ⟨(), by show _ = _; exact List.drop_eq_nil_of_le (by omega)⟩⟩
theorem flds_cons {α β : Type} {P : Program} {f : Field} {fs : List Field} {off : Nat} {R : Rep α} {S : Rep β} {sz s2 : Nat} (ho : f.offset = off) (h : Shape P f.type R sz) (hs : Flds P fs (off + sz) S s2) : Flds P (f :: fs) off (pairR R S) (sz + s2) := by
  refine ⟨pairR_ok h.ok hs.1, fun {H enc w sp held n cs ys} hy hl hx => ?_⟩
  match ys, hy with
  | y :: ys, hy =>
    have h0 := hx 0 f rfl
    rw [ho, h.cells] at h0
    obtain ⟨a, ha⟩ := h.opens h0
    obtain ⟨b, hb⟩ := hs.2 (cs := cs) (ys := ys) (by simpa using hy) (by omega) fun i g hg => by
      have := hx (i + 1) g (by simpa using hg)
      simpa using this
    refine ⟨(a, b), (cs.drop off).take sz, cs.drop (off + sz), ?_, ha, hb⟩
    rw [← List.drop_drop, List.take_append_drop]
theorem shape_struct {α : Type} {P : Program} {t : TypeId} {fs : Array Field} {R : Rep α} {sz : Nat} (ht : P.underlying t = some (.struct fs)) (hc : P.cellsOf t = sz) (h : Flds P fs.toList 0 R sz) : Shape P t R sz := by
  refine ⟨hc, h.1, fun {H enc w sp held fuel cs x} hx => ?_⟩
  obtain ⟨ys, n, _, _, hl, hy, hf⟩ := DataW.trod_struct ht hx
  have := h.2 (enc := enc) (w := w) (sp := sp) (held := held) (n := n) (cs := cs) (ys := ys) (by simpa using hy) (by omega) fun i f hi => hf i f (by simpa using hi)
  simpa using this
theorem shape_array {α : Type} {P : Program} {t e : TypeId} {n : Nat} {R : Rep α} {sz : Nat} (ht : P.underlying t = some (.array n e)) (hc : P.cellsOf t = n * sz) (h : Shape P e R sz) : Shape P t (arrR n R) (n * sz) := by
  refine ⟨hc, arrR_ok n h.ok, fun {H enc w sp held fuel cs x} hx => ?_⟩
  obtain ⟨ys, m, _, _, hl, hy, hf⟩ := DataW.trod_array ht hx
  rw [h.cells] at hf
  have hall : ∀ i, i < n → ∃ a, R w w.heap.size ((cs.drop (i * sz)).take sz) a := fun i hi => by
    have h1 := hf i hi
    rw [List.getElem?_eq_getElem (by omega)] at h1
    exact h.opens h1
  obtain ⟨l, hlen, hr⟩ := rowsR_of (R := R) (w := w) (B := w.heap.size) n (fun i => (cs.drop (i * sz)).take sz) hall
  refine ⟨l, hlen, ?_⟩
  have gen : ∀ k, k ≤ n → (List.range k).flatMap (fun i => (cs.drop (i * sz)).take sz) = cs.take (k * sz) := by
    intro k
    induction k with
    | zero => intro _; simp
    | succ k ih => intro hk; rw [List.range_succ, List.flatMap_append, ih (by omega)]; simp [Nat.succ_mul, List.take_add]
  rw [gen n (Nat.le_refl _), List.take_of_length_le (by rw [hl, hc]; exact Nat.le_refl _)] at hr
  exact hr
end Go.Proofs.Ytbddgmikbpggeaa
