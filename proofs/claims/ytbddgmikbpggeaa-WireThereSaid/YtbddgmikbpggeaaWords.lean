/- Words on memory for the proofs of this seat: what a slice reads as, what a call owns, what stays. No program in sight. -/
import Derived.WalkKit
import Derived.Maps.AppendAt
import Derived.Deep.AppendLies
import Derived.Deep.Draws
import Derived.Deep.QuietTactic
import Derived.BigQuiet
import Derived.Lib.Hide
import Derived.Lib.AppendStr
import Derived.IntWalk
namespace Go.Proofs.Ytbddgmikbpggeaa
set_option linter.unusedVariables false
set_option linter.unusedSimpArgs false
open Go.RowKit

theorem add_block (a : Addr) (n : Nat) : (a.add n).block = a.block := by unfold Addr.add; split <;> rfl
theorem add_zero' (a : Addr) : a.add 0 = a := by simp [Addr.add]
theorem add_assoc' (a : Addr) (i j : Nat) : (a.add i).add j = a.add (i + j) := by
  unfold Addr.add
  by_cases hi : i = 0
  · simp [hi]
  · by_cases hj : j = 0
    · simp [hj, hi]
    · simp [hi, hj, Nat.add_assoc]

/-- The n elements (of sz cells each) from A on lie below block B and are, cell by cell, xs. -/
def Rd (w : World) (B sz : Nat) (A : Option Addr) (n : Nat) (xs : List Value) : Prop :=
  xs.length = n * sz ∧ (0 < n → ∃ ad, A = some ad ∧ ad.block < B ∧ ∀ j u, xs[j]? = some u → w.cell? (ad.add j) = some u)

section
variable {w w' : World} {B B' sz n : Nat} {A : Option Addr} {xs : List Value}

theorem Rd.nil (w : World) (B sz : Nat) (A : Option Addr) : Rd w B sz A 0 [] := ⟨by simp, fun h => by omega⟩

theorem Rd.cells_eq (h : Rd w B sz A n xs) (he : ∀ p : Addr, p.block < B → w'.cell? p = w.cell? p) : Rd w' B sz A n xs := by
  refine ⟨h.1, fun hn => ?_⟩
  obtain ⟨ad, ha, hb, hc⟩ := h.2 hn
  refine ⟨ad, ha, hb, fun j u hu => ?_⟩
  rw [he _ (by rw [add_block]; exact hb)]
  exact hc j u hu

theorem Rd.mono (h : Rd w B sz A n xs) (hB : B ≤ B') : Rd w B' sz A n xs := by
  refine ⟨h.1, fun hn => ?_⟩
  obtain ⟨ad, ha, hb, hc⟩ := h.2 hn
  exact ⟨ad, ha, Nat.lt_of_lt_of_le hb hB, hc⟩

theorem Rd.below (h : Rd w B sz A n xs) (hb : Below B w w') : Rd w' B sz A n xs := h.cells_eq fun _ hp => hb.cell hp
theorem Rd.drew (h : Rd w B sz A n xs) : Rd w.drew B sz A n xs := h
theorem Rd.drewN (h : Rd w B sz A n xs) (k : Nat) : Rd (w.drewN k) B sz A n xs := h
theorem Rd.alloc (h : Rd w B sz A n xs) (hB : B ≤ w.heap.size) (o : Obj) : Rd (w.alloc o) B sz A n xs := h.below ((Below.refl B w).alloc hB o)
theorem Rd.setCell (h : Rd w B sz A n xs) {p : Addr} (hp : B ≤ p.block) (u : Value) : Rd (w.setCell p u) B sz A n xs := h.below ((Below.refl B w).setCell hp u)

/-- Element k of a slice of one-cell elements. -/
theorem Rd.at_ {k : Nat} (h : Rd w B 1 A n xs) (hk : k < n) : ∃ ad u, A = some ad ∧ ad.block < B ∧ xs[k]? = some u ∧ w.cell? (ad.add k) = some u := by
  obtain ⟨ad, ha, hb, hc⟩ := h.2 (by omega)
  have hl : k < xs.length := by have := h.1; omega
  exact ⟨ad, xs[k], ha, hb, List.getElem?_eq_getElem hl, hc k _ (List.getElem?_eq_getElem hl)⟩

theorem Rd.of_own {base : Nat} {e : TypeId} {c : Nat} (h : w.ownsRow base e sz (.slice A n c) n xs) : Rd w w.heap.size sz A n xs := by
  refine ⟨h.1, fun hn => ?_⟩
  rcases h.2 with ⟨hv, h0⟩ | ⟨g, cap, cur, hv, hg, hh, _, _, _, _⟩
  · omega
  · injection hv with hA _ _
    subst hA
    have hlt : g < w.heap.size := (Array.getElem?_eq_some_iff.1 hh).1
    exact ⟨_, rfl, hlt, h.cells (g := g) rfl⟩

end

theorem drewN_below {B : Nat} {a w : World} (h : Below B a w) (n : Nat) : Below B a (w.drewN n) := ⟨h.os, h.tape, h.output, h.size, h.block⟩

/-- Bytes as cells. -/
def u8s (l : List Nat) : List Value := l.map fun (b : Nat) => Value.int .u8 (b : Int)
theorem u8s_length (l : List Nat) : (u8s l).length = l.length := by simp [u8s]
theorem u8s_append (l m : List Nat) : u8s (l ++ m) = u8s l ++ u8s m := by simp [u8s]
theorem u8s_one (l : List Nat) : ∀ u ∈ u8s l, u.oneCell' = true := by
  intro u hu
  simp only [u8s, List.mem_map] at hu
  obtain ⟨b, _, rfl⟩ := hu
  rfl
theorem u8s_get (l : List Nat) (k : Nat) : (u8s l)[k]? = (l[k]?).map fun (b : Nat) => Value.int .u8 (b : Int) := by simp [u8s]

/-- A slice of bytes below block B reads as l. -/
def Bytes (w : World) (B : Nat) (A : Option Addr) (l : List Nat) : Prop := Rd w B 1 A l.length (u8s l) ∧ ∀ b ∈ l, b < 256

/-- v is a slice of bytes (element type e) of the call's own, from block base on, that reads as l. -/
def OwnB (w : World) (base : Nat) (e : TypeId) (v : Value) (l : List Nat) : Prop := w.ownsRow base e 1 v l.length (u8s l) ∧ ∀ b ∈ l, b < 256

section
variable {w w' : World} {B B' : Nat} {A : Option Addr} {l m : List Nat}
theorem Bytes.nil (w : World) (B : Nat) (A : Option Addr) : Bytes w B A [] := ⟨by simpa [u8s] using Rd.nil w B 1 A, by simp⟩
theorem Bytes.mono (h : Bytes w B A l) (hB : B ≤ B') : Bytes w B' A l := ⟨h.1.mono hB, h.2⟩
theorem Bytes.below (h : Bytes w B A l) (hb : Below B w w') : Bytes w' B A l := ⟨h.1.below hb, h.2⟩
theorem Bytes.at_ {k : Nat} (h : Bytes w B A l) (hk : k < l.length) : ∃ ad, A = some ad ∧ ad.block < B ∧ l[k] < 256 ∧ w.cell? (ad.add k) = some (.int .u8 (l[k] : Int)) := by
  obtain ⟨ad, u, ha, hb, hu, hc⟩ := h.1.at_ hk
  rw [u8s_get, List.getElem?_eq_getElem hk] at hu
  simp only [Option.map_some, Option.some.injEq] at hu
  subst hu
  exact ⟨ad, ha, hb, h.2 _ (List.getElem_mem hk), hc⟩
theorem OwnB.bytes {base : Nat} {e : TypeId} {v : Value} (h : OwnB w base e v l) : ∃ A c, v = .slice A l.length c ∧ Bytes w w.heap.size A l ∧ l.length ≤ c ∧ c ≤ maxLen := by
  rcases h.1.2 with ⟨hv, h0⟩ | ⟨g, cap, cur, hv, hg, hh, hn, hm, _⟩
  · subst hv
    have h1 := h.1
    rw [h0] at h1
    refine ⟨none, 0, by rw [h0], ⟨?_, h.2⟩, by omega, by simp [maxLen]⟩
    rw [h0]
    exact Rd.of_own h1
  · subst hv
    exact ⟨_, cap, rfl, ⟨Rd.of_own h.1, h.2⟩, hn, hm⟩
theorem OwnB.lt {base : Nat} {e : TypeId} {v : Value} (h : OwnB w base e v l) : ∀ k, v.ownBlock = some k → base ≤ k ∧ k < w.heap.size := h.1.lt
end

/-- An operation that is wanted (its guard, if it has one, says yes). -/
theorem wpList_wanted {P : Program} {ops : Array Oper} {Q : Exit → Act → World → Prop} {a : Act} {w : World} {rest : List Oper} {o : Oper} (hw : Region.wanted o (yielded ops a.tmps) = true)
    (h : ∀ K : Act → World → Prop, (∀ a w, wpList P ops Q rest a w → K a w) → o.wp P a w K Q) : wpList P ops Q (o :: rest) a w :=
  wpList_step fun K hK => by rw [if_pos hw]; exact h K hK

/-- append onto what the call owns, the source nil, empty or not. -/
theorem wp_append_rd {P : Program} (w : World) {o : Oper} {a : Act} {K : Act → World → Prop} {Q : Exit → Act → World → Prop} (s x : Operand) (t : TypeId)
    (ho : o.op = .call { callee := .builtin .append, args := #[s, x], argTypes := #[t, t] })
    (base : Nat) (e : TypeId) (i : TypeInfo) (z : Value) (size bytes : Nat) (ht : P.underlying t = some (.slice e)) (hi : P.info? e = some i) (hz : i.zero = some z)
    (hsize : i.size = size) (hby : i.bytes = bytes) (hzs : z.cells.size = size) (hsz : 0 < size)
    (v : Value) (n : Nat) (xs : List Value) (hs : a.eval s = v) (hown : w.ownsRow base e size v n xs)
    (B : Nat) (A : Option Addr) (m c : Nat) (news : List Value) (hx : a.eval x = .slice A m c) (hr : Rd w B size A m news) (h1 : ∀ u ∈ news, u.oneCell' = true)
    (h63 : n + m ≤ maxLen) (hbytes : (n + m) * bytes ≤ 140737488355328) (hbase : base ≤ w.heap.size)
    (h : ∀ v' w', w'.ownsRow base e size v' (n + m) (xs ++ news) → w.grownBy w' v.ownBlock → (v'.ownBlock = v.ownBlock ∨ v'.ownBlock = some w.heap.size) → K (a.put o.dst v') w') :
    o.wp P a w K Q := by
  have hc : ∀ ad, A = some ad → ∀ j u, news[j]? = some u → w.cell? (ad.add j) = some u := by
    intro ad ha j u hu
    by_cases hm : m = 0
    · subst hm
      have hn : news = [] := List.eq_nil_of_length_eq_zero (by simpa using hr.1)
      subst hn
      simp at hu
    · obtain ⟨ad', ha', _, hc⟩ := hr.2 (by omega)
      rw [ha'] at ha
      injection ha with ha
      subst ha
      exact hc j u hu
  unfold Oper.wp execOp
  rcases A with _ | ad
  · have hm : m = 0 := by
      rcases Nat.eq_zero_or_pos m with h0 | h0
      · exact h0
      · obtain ⟨ad, h, _⟩ := hr.2 h0
        cases h
    subst hm
    have hn : news = [] := List.eq_nil_of_length_eq_zero (by simpa using hr.1)
    subst hn
    have hrun : (Builtin.append_ #[t, t] o.type #[v, .slice none 0 c]).run P w = .ok v w := by
      rcases hown.2 with ⟨rfl, rfl⟩ | ⟨g, cap, cur, rfl, _, _, hnc, _⟩
      · simp [Builtin.append_, run_underlying ht, sizeOf, typeInfo, hi, Builtin.lenOf, Builtin.firstCells]
      · simp [Builtin.append_, run_underlying ht, sizeOf, typeInfo, hi, Builtin.lenOf, Builtin.firstCells, hnc, storeCells]
    simp only [ho, resolve, invoke, builtin, Sem.run_bind, Sem.run_pure, Result.andThen_ok, List.map_toArray, List.map_cons, List.map_nil, hs, hx, hrun]
    exact (h v w (by simpa using hown) (World.grownBy.refl w _) (.inl rfl))
  · obtain ⟨v', w', hrun, h2, h3, _, h5⟩ := run_append_own_at (P := P) w base t o.type e i z size bytes ht hi hz hsize hby hzs hsz v n xs hown ad m c news hr.1 (hc ad rfl) h1 h63 hbytes hbase
    simp only [ho, resolve, invoke, builtin, Sem.run_bind, Sem.run_pure, Result.andThen_ok, List.map_toArray, List.map_cons, List.map_nil, hs, hx, hrun]
    exact (h v' w' h2 h3 h5)

/-- The slice type t has elements of type e, of sz cells and by_ bytes each. -/
def ElemOk (P : Program) (t e sz by_ : Nat) : Prop :=
  ∃ i z, P.underlying t = some (.slice e) ∧ P.info? e = some i ∧ i.zero = some z ∧ i.size = sz ∧ i.bytes = by_ ∧ z.cells.size = sz ∧ 0 < sz

/-- Few enough elements. -/
def Few (n : Nat) : Prop := n ≤ 1000000
theorem Few.max {n : Nat} (h : Few n) : n ≤ maxLen := by unfold Few at h; unfold maxLen; omega
theorem Few.le {n : Nat} (h : Few n) : n ≤ 1000000 := h
theorem Few.mk {n : Nat} (h : n ≤ 1000000) : Few n := h

/-- v is a slice of the call's own, from block base on: its elements (type e, sz cells each) are the cells xs, n elements. -/
def Own (w : World) (base : Nat) (e : TypeId) (sz : Nat) (v : Value) (n : Nat) (xs : List Value) : Prop := w.ownsRow base e sz v n xs

theorem wp_append_own {P : Program} {t e sz by_ : Nat} (el : ElemOk P t e sz by_) (hby : by_ ≤ 400) {w : World} {o : Oper} {a : Act} {K : Act → World → Prop} {Q : Exit → Act → World → Prop} (s x : Operand)
    (ho : o.op = .call { callee := .builtin .append, args := #[s, x], argTypes := #[t, t] })
    {base : Nat} {v : Value} {n : Nat} {xs : List Value} (hs : a.eval s = v) (hown : w.ownsRow base e sz v n xs)
    {B : Nat} {A : Option Addr} {m c : Nat} {news : List Value} (hx : a.eval x = .slice A m c) (hr : Rd w B sz A m news) (h1 : ∀ u ∈ news, u.oneCell' = true)
    (hfew : Few (n + m)) (hbase : base ≤ w.heap.size)
    (h : ∀ v' w', w'.ownsRow base e sz v' (n + m) (xs ++ news) → Below base w w' → w.grownBy w' v.ownBlock → (v'.ownBlock = v.ownBlock ∨ v'.ownBlock = some w.heap.size) → K (a.put o.dst v') w') :
    o.wp P a w K Q := by
  obtain ⟨i, z, ht, hi, hz, hsize, hb, hzs, hsz⟩ := el
  refine wp_append_rd w s x t ho base e i z sz by_ ht hi hz hsize hb hzs hsz v n xs hs hown B A m c news hx hr h1 hfew.max ?_ hbase fun v' w' h2 h3 h4 => h v' w' h2 ((Below.refl _ _).grown h3 hbase fun k hk => (hown.lt k hk).1) h3 h4
  have h1 := hfew.le
  have h2 : (n + m) * by_ ≤ 1000000 * 400 := Nat.mul_le_mul h1 hby
  omega

theorem append_own {P : Program} {t e sz by_ : Nat} (el : ElemOk P t e sz by_) (hby : by_ ≤ 400) {w : World} {ops : Array Oper} {rest : List Oper} {o : Oper} {a : Act} {Q : Exit → Act → World → Prop} (hgd : Region.wanted o (yielded ops a.tmps) = true) (s x : Operand)
    (ho : o.op = .call { callee := .builtin .append, args := #[s, x], argTypes := #[t, t] })
    {base : Nat} {v : Value} {n : Nat} {xs : List Value} (hs : a.eval s = v) (hown : w.ownsRow base e sz v n xs)
    {B : Nat} {A : Option Addr} {m c : Nat} {news : List Value} (hx : a.eval x = .slice A m c) (hr : Rd w B sz A m news) (h1 : ∀ u ∈ news, u.oneCell' = true)
    (hfew : Few (n + m)) (hbase : base ≤ w.heap.size)
    (h : ∀ v' w', w'.ownsRow base e sz v' (n + m) (xs ++ news) → Below base w w' → w.grownBy w' v.ownBlock → (v'.ownBlock = v.ownBlock ∨ v'.ownBlock = some w.heap.size) → wpList P ops Q rest (a.put o.dst v') w') :
    wpList P ops Q (o :: rest) a w :=
  wpList_wanted hgd fun K hK => wp_append_own el hby s x ho hs hown hx hr h1 hfew hbase fun v' w' h2 h3 h4 h5 => hK _ _ (h v' w' h2 h3 h4 h5)

theorem make_own {P : Program} {t e sz by_ : Nat} (el : ElemOk P t e sz by_) (hby : by_ ≤ 400) {w : World} {ops : Array Oper} {rest : List Oper} {o : Oper} {a : Act} {Q : Exit → Act → World → Prop} (hgd : Region.wanted o (yielded ops a.tmps) = true) (l c : Operand)
    (ho : o.op = Op.makeSlice t l c) {kl kc : IntKind} {C : Int} {n : Nat} (hl : a.eval l = .int kl 0) (hc : a.eval c = .int kc C) (hC : C = (n : Int)) (hfew : Few n) (base : Nat) (hbase : base ≤ w.heap.size)
    (h : ∀ w', w'.ownsRow base e sz (.slice (some ⟨w.heap.size, 0, none⟩) 0 n) 0 [] → Below base w w' → wpList P ops Q rest (a.put o.dst (.slice (some ⟨w.heap.size, 0, none⟩) 0 n)) w') :
    wpList P ops Q (o :: rest) a w := by
  obtain ⟨i, z, ht, hi, hz, hsize, hb, hzs, hsz⟩ := el
  have hbytes : i.bytes * n ≤ 281474976710656 := by
    have h1 := hfew.le
    have h2 : i.bytes * n ≤ 400 * 1000000 := by rw [hb]; exact Nat.mul_le_mul hby h1
    omega
  obtain ⟨w', hrun, r1, r2⟩ := run_make_own (P := P) w base t e i z sz ht hi hz hsize kl kc n hbytes hfew.max hbase
  refine wpList_wanted hgd fun K hK => ?_
  subst hC
  unfold Oper.wp
  simp [execOp, ho, hl, hc, hrun, Result.andThen]
  exact hK _ _ (h w' r1 ((Below.refl _ _).grown r2 hbase (by simp)))

section
variable {P : Program} {t e : Nat} {w : World} {ops : Array Oper} {rest : List Oper} {o : Oper} {a : Act} {Q : Exit → Act → World → Prop}
/-- append of bytes. -/
theorem wp_append_b {K : Act → World → Prop} (el : ElemOk P t e 1 1) (s x : Operand)
    (ho : o.op = .call { callee := .builtin .append, args := #[s, x], argTypes := #[t, t] })
    {base : Nat} {v : Value} {l : List Nat} (hs : a.eval s = v) (hown : OwnB w base e v l)
    {B : Nat} {A : Option Addr} {c : Nat} {m : List Nat} (hx : a.eval x = .slice A m.length c) (hr : Bytes w B A m) (hfew : Few (l.length + m.length)) (hbase : base ≤ w.heap.size)
    (h : ∀ v' w', OwnB w' base e v' (l ++ m) → Below base w w' → K (a.put o.dst v') w') :
    o.wp P a w K Q := by
  refine wp_append_own el (by omega) s x ho hs hown.1 hx hr.1 (u8s_one m) hfew hbase fun v' w' h1 h2 _ _ => h v' w' ⟨?_, ?_⟩ h2
  · rw [u8s_append, List.length_append]; exact h1
  · intro b hb
    rcases List.mem_append.1 hb with h | h
    · exact hown.2 b h
    · exact hr.2 b h

/-- append of bytes, as a step of a plain region. -/
theorem append_b (el : ElemOk P t e 1 1) (hgd : Region.wanted o (yielded ops a.tmps) = true) (s x : Operand)
    (ho : o.op = .call { callee := .builtin .append, args := #[s, x], argTypes := #[t, t] })
    {base : Nat} {v : Value} {l : List Nat} (hs : a.eval s = v) (hown : OwnB w base e v l)
    {B : Nat} {A : Option Addr} {c : Nat} {m : List Nat} (hx : a.eval x = .slice A m.length c) (hr : Bytes w B A m) (hfew : Few (l.length + m.length)) (hbase : base ≤ w.heap.size)
    (h : ∀ v' w', OwnB w' base e v' (l ++ m) → Below base w w' → wpList P ops Q rest (a.put o.dst v') w') :
    wpList P ops Q (o :: rest) a w :=
  wpList_wanted hgd fun K hK => wp_append_b el s x ho hs hown hx hr hfew hbase fun v' w' h1 h2 => hK _ _ (h v' w' h1 h2)

theorem own_nil (w : World) (base : Nat) (e : TypeId) : OwnB w base e (.slice none 0 0) [] := ⟨⟨by simp [u8s], .inl ⟨rfl, rfl⟩⟩, by simp⟩
end

/-- A literal of bytes: a new block. -/
theorem own_lit (w : World) (base : Nat) (e : TypeId) (l : List Nat) (hl : ∀ b ∈ l, b < 256) (hlen : Few l.length) (hbase : base ≤ w.heap.size) :
    OwnB (w.alloc (.cells (u8s l).toArray e)) base e (.slice (some ⟨w.heap.size, 0, none⟩) l.length l.length) l := by
  refine ⟨⟨by simp [u8s], .inr ⟨w.heap.size, l.length, (u8s l).toArray, rfl, hbase, heap_alloc_new w _, Nat.le_refl _, hlen.max, by simp [u8s], ?_⟩⟩, hl⟩
  rw [List.take_of_length_le (by simp [u8s])]

theorem Bytes.keep {w w' : World} {A : Option Addr} {l : List Nat} (h : Bytes w w.heap.size A l) (hb : Below w.heap.size w w') : Bytes w' w'.heap.size A l := (h.below hb).mono hb.size

theorem alloc_below (w : World) (o : Obj) : Below w.heap.size w (w.alloc o) := (Below.refl _ _).alloc (Nat.le_refl _) o

/-- Block g is the cells cs, whole, none frozen. -/
def Blk (w : World) (g : Nat) (t : TypeId) (cs : List Value) : Prop := w.heap[g]? = some (.cells cs.toArray t (0, 0))

section
variable {w w' : World} {g : Nat} {t : TypeId} {cs : List Value}
theorem Blk.lt (h : Blk w g t cs) : g < w.heap.size := (Array.getElem?_eq_some_iff.1 h).1
theorem Blk.cell (h : Blk w g t cs) (i : Nat) : w.cell? ⟨g, i, none⟩ = cs[i]? := by
  have := cell_of_row w g i cs.toArray t (0, 0) h
  simpa using this
theorem Blk.frozen (h : Blk w g t cs) (i : Nat) : w.frozen? ⟨g, i, none⟩ = false := by
  unfold Blk at h
  simp [World.frozen?, h]
theorem Blk.new (w : World) (t : TypeId) (cs : Array Value) : Blk (w.alloc (.cells cs t)) w.heap.size t cs.toList := by simpa [Blk] using heap_alloc_new w (.cells cs t)
theorem Blk.below {B : Nat} (h : Blk w g t cs) (hb : Below B w w') (hg : g < B) : Blk w' g t cs := (hb.block g hg).trans h
theorem Blk.keep (h : Blk w g t cs) (hb : Below w.heap.size w w') : Blk w' g t cs := h.below hb h.lt
theorem Blk.set_ (h : Blk w g t cs) (i : Nat) (u : Value) : Blk (w.setCell ⟨g, i, none⟩ u) g t (cs.set i u) := by
  unfold Blk at h ⊢
  simp [World.setCell, Array.getElem?_modify, h]
theorem Blk.far (h : Blk w g t cs) {p : Addr} (hp : g ≠ p.block) (u : Value) : Blk (w.setCell p u) g t cs := (Below.heap_setCell w p u g hp).trans h
theorem Blk.drewN (h : Blk w g t cs) (n : Nat) : Blk (w.drewN n) g t cs := h
end

theorem OwnB.base {w : World} {base base' : Nat} {e : TypeId} {v : Value} {l : List Nat} (h : OwnB w base e v l) (hb : base' ≤ base) : OwnB w base' e v l := by
  refine ⟨⟨h.1.1, ?_⟩, h.2⟩
  rcases h.1.2 with h0 | ⟨g, cap, cur, hv, hg, rest⟩
  · exact .inl h0
  · exact .inr ⟨g, cap, cur, hv, by omega, rest⟩

/-- Two steps, the second from a later world on. -/
theorem below_then {w w1 w2 : World} (h : Below w.heap.size w w1) (h2 : Below w1.heap.size w1 w2) : Below w.heap.size w w2 := h.trans (h2.mono h.size)

theorem and127 (m : Nat) (h : m < 18446744073709551616) : bits .and .u64 (m : Int) 127 = (m : Int) % 128 := by
  rw [show (127 : Int) = ((127 : Nat) : Int) from rfl, u64_and_nat m 127 h (by omega), nat_mask7]; omega
theorem or128 (m : Int) (h0 : 0 ≤ m) (h : m < 128) : bits .or .u8 m 128 = 128 + m := by
  obtain ⟨m, rfl⟩ := Int.eq_ofNat_of_zero_le h0
  rw [show (128 : Int) = ((128 : Nat) : Int) from rfl, u8_or_nat m 128 (by omega) (by omega), Nat.or_comm, nat_join 7 128 m (by omega) (by omega)]; omega

theorem sliceAt_l {P : Program} {t e n : Nat} (ht : P.underlying t = some (.array n e)) (hsz : (P.info? e).map (fun i => i.size) = some 1) (g k : Nat) (hk : k < n) (W : World) :
    (Instr.sliceAt t (.pointer (some ⟨g, 0, none⟩)) (some (.int .i64 (k : Int))) none none).run P W = .ok (.slice (some ⟨g, k, none⟩) (n - k) (n - k)) W := by
  have hl : P.arrayLen t = n := by simp [Program.arrayLen, ht]
  have he : P.elem t = e := by simp [Program.elem, ht]
  obtain ⟨i, hi, hs⟩ : ∃ i, P.info? e = some i ∧ i.size = 1 := by
    cases h : P.info? e with
    | none => rw [h] at hsz; cases hsz
    | some i => rw [h] at hsz; exact ⟨i, rfl, by simpa using hsz⟩
  rw [run_sliceAt_array_l W t _ (by rw [hl, he]; exact ht) .i64 (k : Int) (by omega) (by rw [hl]; omega), hl, he]
  have hne : ¬ n = k := by omega
  simp [sizeOf, typeInfo, hi, hs, slicedAt, hne, Addr.add]
  intro h0; subst h0; rfl

/-- The last bytes of a block, as a slice. -/
theorem Blk.bytes {w : World} {g : Nat} {t : TypeId} {front tail : List Nat} (h : Blk w g t (u8s (front ++ tail))) (ht : ∀ b ∈ tail, b < 256) : Bytes w w.heap.size (some ⟨g, front.length, none⟩) tail := by
  refine ⟨⟨by simp [u8s], fun _ => ⟨_, rfl, h.lt, fun j u hu => ?_⟩⟩, ht⟩
  have e : (⟨g, front.length, none⟩ : Addr).add j = ⟨g, front.length + j, none⟩ := by unfold Addr.add; split <;> simp_all
  rw [e, h.cell, u8s_append, List.getElem?_append_right (by simp [u8s])]
  simpa [u8s_length] using hu

section
variable {P : Program} {w : World} {ops : Array Oper} {rest : List Oper} {o : Oper} {a : Act} {Q : Exit → Act → World → Prop}

/-- A new variable of several cells: a new block, known whole. -/
theorem alloc_blk (hgd : Region.wanted o (yielded ops a.tmps) = true) (t : TypeId) (ho : o.op = .alloc t) (cs : List Value) (hz : (P.info? t).map (fun i => i.zero.map (fun z => z.cells.toList)) = some (some cs))
    (h : ∀ w', Blk w' w.heap.size t cs → Below w.heap.size w w' → w'.heap.size = w.heap.size + 1 → wpList P ops Q rest (a.put o.dst (.pointer (some ⟨w.heap.size, 0, none⟩))) w') : wpList P ops Q (o :: rest) a w := by
  obtain ⟨i, hi, hz'⟩ : ∃ i, P.info? t = some i ∧ i.zero.map (fun z => z.cells.toList) = some cs := by
    cases hq : P.info? t with
    | none => rw [hq] at hz; cases hz
    | some i => rw [hq] at hz; exact ⟨i, rfl, by simpa using hz⟩
  obtain ⟨z, hz1, hz2⟩ : ∃ z, i.zero = some z ∧ z.cells.toList = cs := by
    cases hq : i.zero with
    | none => rw [hq] at hz'; cases hz'
    | some z => rw [hq] at hz'; exact ⟨z, rfl, by simpa using hz'⟩
  refine wpList_wanted hgd fun K hK => ?_
  unfold Oper.wp execOp
  have e : z.cells = cs.toArray := by rw [← hz2]
  have hrun : (Instr.alloc t true (.tuple #[])).run P w = .ok (.pointer (some ⟨w.heap.size, 0, none⟩)) (w.alloc (.cells cs.toArray t)) := by
    simp [Instr.alloc, zeroValue, typeInfo, hi, hz1, newVar, newRow, e, newObj]
    rfl
  simp only [ho, Sem.run_bind, hrun, Result.andThen_ok, Sem.run_pure]
  exact hK _ _ (h (w.alloc (.cells cs.toArray t)) (Blk.new w t cs.toArray) (alloc_below w _) (by simp))

/-- A variable of several cells, read whole. -/
theorem load_blk (hgd : Region.wanted o (yielded ops a.tmps) = true) (ty : TypeId) (x : Operand) (ho : o.op = .load ty x) {g : Nat} (hx : a.eval x = .pointer (some ⟨g, 0, none⟩)) {t : TypeId} {cs : List Value} (hg : Blk w g t cs)
    (d : TypeDesc) (hu : P.underlying ty = some d) (hd : (match d with | .struct _ | .array _ _ => true | _ => false) = true) (hi : (P.info? ty).map (fun i => i.size) = some cs.length)
    (h : wpList P ops Q rest (a.put o.dst (.agg cs.toArray)) w) : wpList P ops Q (o :: rest) a w :=
  wpList_wanted hgd fun K hK => wp_load_row ty x ho g hx t cs.toArray (0, 0) d hg hu hd (by simpa using hi) (hK _ _ h)

/-- A variable of several cells, written whole. -/
theorem store_blk (hgd : Region.wanted o (yielded ops a.tmps) = true) (ty : TypeId) (x y : Operand) (ho : o.op = .store ty x y) {g : Nat} {cells : List Value} (hx : a.eval x = .pointer (some ⟨g, 0, none⟩)) (hy : a.eval y = .agg cells.toArray)
    {t : TypeId} {old : List Value} (hg : Blk w g t old) (hi : (P.info? ty).map (fun i => i.size) = some cells.length) (hold : old.length = cells.length) (h1 : ∀ u ∈ cells, u.oneCell' = true)
    (h : ∀ w', Blk w' g t cells → (∀ B, B ≤ g → Below B w w') → w'.heap.size = w.heap.size → wpList P ops Q rest (a.put o.dst undef) w') : wpList P ops Q (o :: rest) a w := by
  refine wpList_wanted hgd fun K hK => wp_store_row ty x y ho g cells.toArray hx hy t old.toArray hg (by simpa using hi) (by simpa using hold) ?_ ?_
  · simpa using h1
  · refine hK _ _ ?_
    refine h _ (setRow_heap w g _ _ t _ hg) (fun B hB => ⟨rfl, rfl, rfl, by simp, fun k hk => ?_⟩) (by simp)
    simp only [World.setRow, Array.getElem?_modify]
    rw [if_neg (by omega)]
end

theorem ival {k : IntKind} {a b : Int} (h : a = b) : Value.int k a = Value.int k b := by rw [h]
theorem ret_int {k : IntKind} {a b : Int} (h : a = b) : Ending.returned (.int k a) = .returned (.int k b) := by rw [h]
theorem ret_bool {a b : Bool} (h : a = b) : Ending.returned (.bool a) = .returned (.bool b) := by rw [h]

/-- Words as cells. -/
def u32s (l : List Nat) : List Value := l.map fun (b : Nat) => Value.int .u32 (b : Int)
theorem u32s_length (l : List Nat) : (u32s l).length = l.length := by simp [u32s]
theorem u32s_append (l m : List Nat) : u32s (l ++ m) = u32s l ++ u32s m := by simp [u32s]
theorem u32s_get (l : List Nat) (k : Nat) : (u32s l)[k]? = (l[k]?).map fun (b : Nat) => Value.int .u32 (b : Int) := by simp [u32s]
theorem u32s_one (l : List Nat) : ∀ u ∈ u32s l, u.oneCell' = true := by
  intro u hu
  simp only [u32s, List.mem_map] at hu
  obtain ⟨b, _, rfl⟩ := hu
  rfl

/-- A string's bytes. -/
def sB (s : ByteArray) : List Nat := s.data.toList.map fun b => b.toNat
theorem sB_length (s : ByteArray) : (sB s).length = s.size := by
  unfold sB
  rw [List.length_map, Array.length_toList]
  rfl
theorem sB_lt (s : ByteArray) : ∀ b ∈ sB s, b < 256 := by
  intro b hb
  simp only [sB, List.mem_map] at hb
  obtain ⟨x, _, rfl⟩ := hb
  exact x.toNat_lt
theorem u8s_sB (s : ByteArray) : u8s (sB s) = Lib.strCells s := by
  unfold u8s sB Lib.strCells
  rw [List.map_map]
  rfl
/-- append of a string's bytes. -/
theorem append_s {P : Program} {t e u : Nat} {w : World} {ops : Array Oper} {rest : List Oper} {o : Oper} {a : Act} {Q : Exit → Act → World → Prop} (el : ElemOk P t e 1 1) (hz : (P.info? e).map (fun i => i.zero) = some (some (.int .u8 0))) (hu : P.underlying u = some .string)
    (hgd : Region.wanted o (yielded ops a.tmps) = true) (sl x : Operand) (ho : o.op = .call { callee := .builtin .append, args := #[sl, x], argTypes := #[t, u] })
    {base : Nat} {v : Value} {l : List Nat} (hs : a.eval sl = v) (hown : OwnB w base e v l) {s : ByteArray} (hx : a.eval x = .string s) (hfew : Few (l.length + s.size)) (hbase : base ≤ w.heap.size)
    (h : ∀ v' w', OwnB w' base e v' (l ++ sB s) → Below base w w' → wpList P ops Q rest (a.put o.dst v') w') : wpList P ops Q (o :: rest) a w := by
  obtain ⟨i, z, ht, hi, hz1, hsize, hb, hzs, hsz⟩ := el
  have hz2 : i.zero = some (.int .u8 0) := by rw [hi] at hz; simpa using hz
  obtain ⟨v', w', hr, h1, h2, _⟩ := Lib.run_append_own_string (P := P) w base t u o.type e i ht hu hi hz2 hsize hb v l.length (u8s l) hown.1 s hfew.max (by have := hfew.le; omega) hbase
  refine wpList_wanted hgd fun K hK => ?_
  unfold Oper.wp execOp
  simp only [ho, resolve, invoke, builtin, Sem.run_bind, Sem.run_pure, Result.andThen_ok, List.map_toArray, List.map_cons, List.map_nil, hs, hx, hr]
  refine hK _ _ (h v' w' ⟨?_, ?_⟩ ((Below.refl _ _).grown h2 hbase fun k hk => (hown.1.lt k hk).1))
  · rw [u8s_append, List.length_append, sB_length, u8s_sB]; exact h1
  · intro b hb
    rcases List.mem_append.1 hb with h | h
    · exact hown.2 b h
    · exact sB_lt s b h

theorem Bytes.take {w : World} {B : Nat} {A : Option Addr} {l : List Nat} (h : Bytes w B A l) (k : Nat) : Bytes w B A (l.take k) := by
  refine ⟨⟨by simp [u8s], fun hn => ?_⟩, fun b hb => h.2 b (List.mem_of_mem_take hb)⟩
  obtain ⟨ad, ha, hb, hc⟩ := h.1.2 (by rw [List.length_take] at hn; omega)
  refine ⟨ad, ha, hb, fun j u hu => hc j u ?_⟩
  simp only [u8s, List.map_take] at hu ⊢
  rw [List.getElem?_take] at hu
  split at hu
  · exact hu
  · cases hu
theorem Bytes.drewN {w : World} {B : Nat} {A : Option Addr} {l : List Nat} (h : Bytes w B A l) (q : Nat) : Bytes (w.drewN q) B A l := h

theorem OwnB.keep {w w' : World} {base : Nat} {e : TypeId} {v : Value} {l : List Nat} (h : OwnB w base e v l) (hb : Below w.heap.size w w') : OwnB w' base e v l :=
  ⟨h.1.kept (row := none) ⟨hb.os, hb.tape, hb.output, hb.size, fun k hk _ => hb.block k hk⟩ (by cases hv : v.ownBlock <;> simp), h.2⟩

/-- Bytes as a string. -/
def bsB (l : List Nat) : ByteArray := ⟨(l.map UInt8.ofNat).toArray⟩
theorem bsB_size (l : List Nat) : (bsB l).size = l.length := by
  show ((l.map UInt8.ofNat).toArray).size = _
  rw [List.size_toArray, List.length_map]
theorem sB_bsB (l : List Nat) (h : ∀ b ∈ l, b < 256) : sB (bsB l) = l := by
  show ((l.map UInt8.ofNat).toArray.toList).map _ = l
  rw [List.toList_toArray, List.map_map]
  conv => rhs; rw [← List.map_id l]
  apply List.map_congr_left
  intro b hb
  have := h b hb
  show (UInt8.ofNat b).toNat = b
  rw [UInt8.toNat_ofNat_of_lt' (by omega)]
theorem bsB_inj {l m : List Nat} (hl : ∀ b ∈ l, b < 256) (hm : ∀ b ∈ m, b < 256) (h : bsB l = bsB m) : l = m := by rw [← sB_bsB l hl, h, sB_bsB m hm]
theorem bsB_sB (s : ByteArray) : bsB (sB s) = s := by
  apply ByteArray.ext
  apply Array.toList_inj.1
  show (((sB s).map UInt8.ofNat).toArray).toList = _
  rw [List.toList_toArray, sB, List.map_map]
  conv => rhs; rw [← List.map_id s.data.toList]
  apply List.map_congr_left
  intro b _
  show UInt8.ofNat b.toNat = b
  simp

/-- string(bytes). -/
theorem conv_b {P : Program} {src e dst : TypeId} (hs : P.underlying src = some (.slice e)) (he : P.underlying e = some (.int .u8)) (hd : P.underlying dst = some .string) {w : World} {B : Nat} {A : Option Addr} {l : List Nat} (h : Bytes w B A l) (n c : Nat) (hn : n = l.length) :
    (convert src dst (.slice A n c)).run P w = .ok (.string (bsB l)) w := by
  subst hn
  rcases Nat.eq_zero_or_pos l.length with h0 | h0
  · have hl : l = [] := List.eq_nil_of_length_eq_zero h0
    subst hl
    rw [run_convert_bytes_string w src dst e A [].length c hs he hd]
    rcases A with _ | ad
    · simp [Conv.bytesToString]; rfl
    · simp [Conv.bytesToString, loadCells, loadCellsFrom]; rfl
  · obtain ⟨ad, rfl, _, hc⟩ := h.1.2 h0
    rw [run_convert_bytes_string w src dst e _ l.length c hs he hd]
    have hl := run_loadCells_list (P := P) w ad (u8s l) hc
    rw [u8s_length] at hl
    have e1 : u8s l = (l.map fun (b : Nat) => (b : Int)).map (Value.int .u8) := by simp [u8s]
    rw [e1] at hl
    rw [run_bytesToString w ad l.length c _ hl, foldl_push_bytes]
    congr 2
    apply ByteArray.ext
    apply Array.toList_inj.1
    simp [bsB, ByteArray.empty, ByteArray.emptyWithCapacity]
    show ([] : List UInt8) ++ List.map _ l = List.map UInt8.ofNat l
    rw [List.nil_append]
    apply List.map_congr_left
    intro a _
    rfl

/-- Where b[k:] begins. -/
def cutAt (A : Option Addr) (c k sz : Nat) : Option Addr := if c = k then A else A.map (fun a => a.add (k * sz))

theorem run_cut_l {P : Program} {t e sz by_ : Nat} (el : ElemOk P t e sz by_) (A : Option Addr) (n c k m : Nat) (hk : k ≤ n) (hm : m = n - k) (W : World) :
    (Instr.slice t (.slice A n c) (some (.int .i64 (k : Int))) none none).run P W = .ok (.slice (cutAt A c k sz) m (c - k)) W := by
  obtain ⟨i, z, ht, hi, hz, hsize, hb, hzs, hsz⟩ := el
  have he : P.elem t = e := by simp [Program.elem, ht]
  rw [run_slice_l W t A n c (by rw [he]; exact ht) .i64 (k : Int) (by omega) (by omega), he]
  simp [sizeOf, typeInfo, hi, hsize, sliced, cutAt, hm]

theorem run_cut_lh {P : Program} {t e sz by_ : Nat} (el : ElemOk P t e sz by_) (A : Option Addr) (n c k h m : Nat) (hk : k ≤ h) (hh : h ≤ c) (hm : m = h - k) (W : World) :
    (Instr.slice t (.slice A n c) (some (.int .i64 (k : Int))) (some (.int .i64 (h : Int))) none).run P W = .ok (.slice (cutAt A c k sz) m (c - k)) W := by
  obtain ⟨i, z, ht, hi, hz, hsize, hb, hzs, hsz⟩ := el
  have he : P.elem t = e := by simp [Program.elem, ht]
  rw [run_slice_lh W t A n c (by rw [he]; exact ht) .i64 .i64 (k : Int) (h : Int) (by omega) (by omega) (by omega), he]
  simp [sizeOf, typeInfo, hi, hsize, sliced, cutAt, hm]

theorem Rd.cut {w : World} {B sz n : Nat} {A : Option Addr} {xs : List Value} (h : Rd w B sz A n xs) (k c m : Nat) (hk : k ≤ n) (hc : n ≤ c) (hm : m = n - k) : Rd w B sz (cutAt A c k sz) m (xs.drop (k * sz)) := by
  subst hm
  refine ⟨by rw [List.length_drop, h.1, Nat.sub_mul], fun hn => ?_⟩
  obtain ⟨ad, rfl, hb, hcell⟩ := h.2 (by omega)
  unfold cutAt
  rw [if_neg (by omega)]
  refine ⟨ad.add (k * sz), rfl, by rw [add_block]; exact hb, fun j u hu => ?_⟩
  rw [add_assoc']
  apply hcell
  rw [List.getElem?_drop] at hu
  exact hu
theorem Bytes.cut {w : World} {B : Nat} {A : Option Addr} {l : List Nat} (h : Bytes w B A l) (k c : Nat) (hk : k ≤ l.length) (hc : l.length ≤ c) : Bytes w B (cutAt A c k 1) (l.drop k) := by
  refine ⟨?_, fun b hb => h.2 b (List.mem_of_mem_drop hb)⟩
  have h1 := h.1.cut k c (l.drop k).length hk hc (by simp)
  rw [Nat.mul_one] at h1
  simpa [u8s, List.map_drop] using h1

theorem str_beq (a b : ByteArray) : (a.toList == b.toList) = decide (a = b) := by
  rw [ByteArray.toList_eq, ByteArray.toList_eq]
  by_cases h : a = b
  · subst h; simp
  · rw [decide_eq_false h, beq_eq_false_iff_ne]
    intro e
    exact h (ByteArray.ext (Array.toList_inj.1 e))
theorem bsB_beq {l m : List Nat} (hl : ∀ b ∈ l, b < 256) (hm : ∀ b ∈ m, b < 256) : ((bsB l).toList == (bsB m).toList) = decide (l = m) := by
  rw [str_beq]
  by_cases h : l = m
  · subst h; simp
  · rw [decide_eq_false h, decide_eq_false (fun e => h (bsB_inj hl hm e))]

/-- An operation that is wanted, in a region that draws its order. -/
theorem step_of {P : Program} {ops : Array Oper} {o : Oper} {a : Act} {w : World} {K : Act → World → Prop} {Q : Exit → Act → World → Prop} {E : Prop} (hw : Region.wanted o (yielded ops a.tmps) = true) (h : o.wp P a w K Q) :
    if Region.wanted o (yielded ops a.tmps) = true then Oper.wp P o a w K Q else E := by rw [if_pos hw]; exact h

/-- make([]T, 0, c), for every world. -/
theorem run_make0 {P : Program} {t e sz by_ : Nat} (el : ElemOk P t e sz by_) (hby : by_ ≤ 400) (c : Nat) (hc : Few c) : ∃ Z : Array Value, ∀ W : World,
    (Instr.makeSlice t (.int .i64 0) (.int .i64 (c : Int))).run P W = .ok (.slice (some ⟨W.heap.size, 0, none⟩) 0 c) (W.alloc (.cells Z e)) ∧ (W.alloc (.cells Z e)).ownsRow W.heap.size e sz (.slice (some ⟨W.heap.size, 0, none⟩) 0 c) 0 [] := by
  obtain ⟨i, z, ht, hi, hz, hsize, hb, hzs, hsz⟩ := el
  refine ⟨madeCells z.cells (c * i.size), fun W => ⟨?_, ?_⟩⟩
  · have h1 := hc.le
    have h2 : by_ * c ≤ 400 * 1000000 := Nat.mul_le_mul hby h1
    have h3 : (i.bytes : Int) * (c : Int) = ((by_ * c : Nat) : Int) := by rw [hb]; omega
    have hr := run_make (P := P) W t e i z ht hi hz .i64 .i64 0 c (by omega) (by omega) (by rw [h3]; omega) (by omega)
    simpa using hr
  · refine ⟨by simp, .inr ⟨W.heap.size, c, _, rfl, Nat.le_refl _, heap_alloc_new W _, by omega, hc.max, by rw [size_madeCells, hsize], by simp⟩⟩

end Go.Proofs.Ytbddgmikbpggeaa
