/- Plain notions: the nodes of a skip list, what a search passes, blocks of memory. No program in sight. -/
import Derived.Below
import Derived.Laws.OwnMore
import Derived.Laws.Rows
import Derived.Deep.Draws
namespace Go.Proofs.Ytbocdopjikkomaa
open Go.RowKit

/-- A node: its block, its entry, its height. -/
structure Nd where
  b : Nat
  k : ByteArray
  s : Int
  d : Bool
  v : ByteArray
  h : Nat

def aheadB (k : ByteArray) (s : Int) (key : ByteArray) (seq : Int) : Bool :=
  Op.bytesLess k.toList key.toList || (k.toList == key.toList && decide (seq < s))

/-- The first node that reaches above level l. -/
def nxt (l : Nat) (ns : List Nd) : Option Nat := (ns.find? fun n => decide (l < n.h)).map Nd.b

/-- A pointer's value. -/
def pv (o : Option Nat) : Value := .pointer (o.map fun b => ⟨b, 0, none⟩)

/-- The block at which a search stands that has passed the nodes A. -/
def blkOf (tb : Nat) (A : List Nd) : Nat := (A.getLast?.map Nd.b).getD tb

/-- The last block at level l behind the nodes A. -/
def lastAt (tb l : Nat) (A : List Nd) : Nat := blkOf tb (A.filter fun n => decide (l < n.h))

/-- How many of the nodes that reach above level l are passed: those behind which none is higher. -/
def visL (l : Nat) : List Nd → Nat
  | [] => 0
  | n :: r => (if l < n.h ∧ ∀ x ∈ r, x.h ≤ n.h then 1 else 0) + visL l r

def cnt (l : Nat) (ns : List Nd) : Nat := ns.countP fun n => decide (l < n.h)

theorem visL_le (l : Nat) : ∀ ns : List Nd, visL l ns ≤ ns.length
  | [] => Nat.le_refl _
  | n :: r => by
    have := visL_le l r
    unfold visL
    rw [List.length_cons]
    split <;> omega

theorem visL_high {l : Nat} : ∀ {ns : List Nd}, (∀ n ∈ ns, n.h ≤ l) → visL l ns = 0
  | [], _ => rfl
  | n :: r, h => by
    have h1 := h n (by simp)
    have h2 := visL_high (l := l) (ns := r) fun x hx => h x (by simp [hx])
    unfold visL
    rw [h2, if_neg (by omega)]

/-- One level: what is passed there. -/
theorem visL_low {l : Nat} : ∀ {B : List Nd}, (∀ n ∈ B, n.h ≤ l + 1) → visL l B = cnt l B
  | [], _ => rfl
  | n :: r, h => by
    have h1 := h n (by simp)
    have h2 := visL_low (l := l) (B := r) fun x hx => h x (by simp [hx])
    unfold visL
    rw [h2]
    unfold cnt
    rw [List.countP_cons]
    by_cases hl : l < n.h
    · rw [if_pos ⟨hl, fun x hx => by have := h x (by simp [hx]); omega⟩, if_pos (by simpa using hl)]
      omega
    · rw [if_neg (fun hc => hl hc.1), if_neg (by simpa using hl)]
      omega

theorem visL_level {l : Nat} : ∀ {A B : List Nd}, (∀ a, A.getLast? = some a → l + 1 < a.h) → (∀ n ∈ B, n.h ≤ l + 1) →
    visL l (A ++ B) = visL (l + 1) (A ++ B) + cnt l B
  | [], B, _, hB => by
    rw [List.nil_append, visL_high (l := l + 1) hB, visL_low hB]
    omega
  | n :: r, B, hA, hB => by
    have ih := visL_level (l := l) (A := r) (B := B) (fun a ha => hA a (by
      cases r with
      | nil => simp at ha
      | cons y t => simpa [List.getLast?_cons_cons] using ha)) hB
    rw [List.cons_append, visL, visL, ih]
    have key : (l < n.h ∧ ∀ x ∈ r ++ B, x.h ≤ n.h) ↔ (l + 1 < n.h ∧ ∀ x ∈ r ++ B, x.h ≤ n.h) := by
      constructor
      · intro ⟨h1, h2⟩
        refine ⟨?_, h2⟩
        cases hr : r.getLast? with
        | none =>
          have hr0 : r = [] := by simpa using hr
          subst hr0
          have := hA n (by simp)
          omega
        | some a =>
          have ha := hA a (by
            cases r with
            | nil => simp at hr
            | cons y t => simpa [List.getLast?_cons_cons] using hr)
          have hm : a ∈ r ++ B := by
            have := List.mem_of_getLast? hr
            simp [this]
          have := h2 a hm
          omega
      · intro ⟨h1, h2⟩
        exact ⟨by omega, h2⟩
    by_cases hc : l < n.h ∧ ∀ x ∈ r ++ B, x.h ≤ n.h
    · rw [if_pos hc, if_pos (key.1 hc)]; omega
    · rw [if_neg hc, if_neg (fun h => hc (key.2 h))]; omega


theorem nxt_nil (l : Nat) : nxt l [] = none := rfl

theorem nxt_append_low {l : Nat} {A C : List Nd} (h : ∀ x ∈ A, ¬ l < x.h) : nxt l (A ++ C) = nxt l C := by
  unfold nxt
  rw [List.find?_append, List.find?_eq_none.2 (by simpa using h)]
  rfl

theorem nxt_cons_hit {l : Nat} {n : Nd} {C : List Nd} (h : l < n.h) : nxt l (n :: C) = some n.b := by
  simp [nxt, h]

theorem nxt_cons_miss {l : Nat} {n : Nd} {C : List Nd} (h : ¬ l < n.h) : nxt l (n :: C) = nxt l C := by
  simp [nxt, h]

/-- The next node at a level: in B, or behind it. -/
theorem nxt_split (l : Nat) : ∀ B : List Nd, (∃ B1 n B2, B = B1 ++ n :: B2 ∧ (∀ x ∈ B1, ¬ l < x.h) ∧ l < n.h) ∨ (∀ x ∈ B, ¬ l < x.h)
  | [] => .inr (by simp)
  | n :: r => by
    by_cases h : l < n.h
    · exact .inl ⟨[], n, r, rfl, by simp, h⟩
    · rcases nxt_split l r with ⟨B1, m, B2, rfl, h1, h2⟩ | h1
      · exact .inl ⟨n :: B1, m, B2, rfl, List.forall_mem_cons.2 ⟨h, h1⟩, h2⟩
      · exact .inr (List.forall_mem_cons.2 ⟨h, h1⟩)

theorem nxt_mem {l : Nat} {C : List Nd} : nxt l C = none ∨ ∃ n ∈ C, nxt l C = some n.b := by
  rcases nxt_split l C with ⟨B1, n, B2, rfl, h1, h2⟩ | h
  · exact .inr ⟨n, by simp, by rw [nxt_append_low h1, nxt_cons_hit h2]⟩
  · refine .inl ?_
    have := nxt_append_low (C := []) h
    rwa [List.append_nil] at this

theorem cnt_low {l : Nat} {B : List Nd} (h : ∀ x ∈ B, ¬ l < x.h) : cnt l B = 0 := by
  unfold cnt
  rw [List.countP_eq_zero]
  simpa using h

theorem cnt_hit {l : Nat} {B1 B2 : List Nd} {n : Nd} (h : ∀ x ∈ B1, ¬ l < x.h) (hn : l < n.h) : cnt l (B1 ++ n :: B2) = 1 + cnt l B2 := by
  have := cnt_low h
  unfold cnt at *
  rw [List.countP_append, this, List.countP_cons, if_pos (by simpa using hn)]
  omega

theorem blkOf_snoc (tb : Nat) (A : List Nd) (n : Nd) : blkOf tb (A ++ [n]) = n.b := by simp [blkOf]

theorem blkOf_nil (tb : Nat) : blkOf tb [] = tb := rfl

/-- Where nothing of B reaches above l, and A's last does, the last at l is A's last. -/
theorem lastAt_of {tb l : Nat} {A B : List Nd} (hA : ∀ a, A.getLast? = some a → l < a.h) (hB : ∀ x ∈ B, ¬ l < x.h) : lastAt tb l (A ++ B) = blkOf tb A := by
  have e : B.filter (fun n => decide (l < n.h)) = [] := List.filter_eq_nil_iff.2 (by simpa using hB)
  unfold lastAt
  rw [List.filter_append, e, List.append_nil]
  rcases List.eq_nil_or_concat A with rfl | ⟨A', a, rfl⟩
  · rfl
  · have := hA a (by simp)
    simp only [List.concat_eq_append, List.filter_append, List.filter_cons, List.filter_nil, decide_eq_true_eq, this, if_true]
    rw [blkOf_snoc, blkOf_snoc]

/-- The nodes up to the last one that reaches above l; the others. -/
theorem split_last (l : Nat) (ns : List Nd) : ∃ A B, ns = A ++ B ∧ (∀ a, A.getLast? = some a → l < a.h) ∧ (∀ x ∈ B, ¬ l < x.h) := by
  induction ns with
  | nil => exact ⟨[], [], rfl, by simp, by simp⟩
  | cons n r ih =>
    obtain ⟨A, B, rfl, hA, hB⟩ := ih
    cases A with
    | nil =>
      by_cases h : l < n.h
      · exact ⟨[n], B, rfl, by simpa using h, hB⟩
      · exact ⟨[], n :: B, rfl, by simp, List.forall_mem_cons.2 ⟨h, hB⟩⟩
    | cons y t => exact ⟨n :: y :: t, B, rfl, fun a ha => hA a (by simpa [List.getLast?_cons_cons] using ha), hB⟩

/-! ### Blocks -/
/-- Block g is just these cells, none of them frozen. -/
def Blk (w : World) (g : Nat) (t : TypeId) (cs : Array Value) : Prop := w.heap[g]? = some (.cells cs t (0, 0))

section
variable {w w' : World} {g : Nat} {t : TypeId} {cs : Array Value}
theorem Blk.lt (h : Blk w g t cs) : g < w.heap.size := (Array.getElem?_eq_some_iff.1 h).1
theorem Blk.cell (h : Blk w g t cs) (i : Nat) : w.cell? ⟨g, i, none⟩ = cs[i]? := by
  unfold Blk at h
  simp [World.cell?, h]
theorem Blk.frozen (h : Blk w g t cs) (i : Nat) : w.frozen? ⟨g, i, none⟩ = false := by
  unfold Blk at h
  simp [World.frozen?, h]
theorem Blk.new (w : World) (t : TypeId) (cs : Array Value) : Blk (w.alloc (.cells cs t)) w.heap.size t cs := by
  unfold Blk World.alloc
  simp
theorem Blk.drewN (h : Blk w g t cs) (n : Nat) : Blk (w.drewN n) g t cs := h
theorem Blk.alloc (h : Blk w g t cs) (o : Obj) : Blk (w.alloc o) g t cs := (Below.heap_alloc w o g h.lt).trans h
theorem Blk.set (h : Blk w g t cs) (i : Nat) (u : Value) : Blk (w.setCell ⟨g, i, none⟩ u) g t (cs.setIfInBounds i u) := by
  unfold Blk at h ⊢
  simp [World.setCell, Array.getElem?_modify, h]
theorem Blk.far (h : Blk w g t cs) {p : Addr} (hp : g ≠ p.block) (u : Value) : Blk (w.setCell p u) g t cs := (Below.heap_setCell w p u g hp).trans h
theorem Blk.below {B : Nat} (h : Blk w g t cs) (hb : Below B w w') (hg : g < B) : Blk w' g t cs := (hb.block g hg).trans h
theorem Blk.grown {row : Option Nat} (h : Blk w g t cs) (hb : w.grownBy w' row) (hg : some g ≠ row) : Blk w' g t cs := (hb.block g h.lt hg).trans h
theorem Blk.same {t' : TypeId} {cs' : Array Value} (h : Blk w g t cs) (h' : Blk w g t' cs') : t = t' ∧ cs = cs' := by
  unfold Blk at h h'
  rw [h] at h'
  injection h' with h'
  injection h' with h1 h2
  exact ⟨h2, h1⟩
theorem Blk.ne {g' : Nat} {t' : TypeId} {cs' : Array Value} (h : Blk w g t cs) (h' : Blk w g' t' cs') (hne : t ≠ t') : g ≠ g' := by
  rintro rfl
  exact hne (h.same h').1
end

/-! ### The table in memory -/
def linkCells (f : Nat → Option Nat) : List Value := [pv (f 0), pv (f 1), pv (f 2), pv (f 3), pv (f 4), pv (f 5), pv (f 6), pv (f 7)]
def nodeCells (n : Nd) (f : Nat → Option Nat) : Array Value :=
  #[.string n.k, .int .u64 n.s, .bool n.d, .string n.v, .int .i64 n.h, pv (f 0), pv (f 1), pv (f 2), pv (f 3), pv (f 4), pv (f 5), pv (f 6), pv (f 7)]
def headCells (f : Nat → Option Nat) (N S : Int) : Array Value :=
  #[.string { data := #[] }, .int .u64 0, .bool false, .string { data := #[] }, .int .i64 8, pv (f 0), pv (f 1), pv (f 2), pv (f 3), pv (f 4), pv (f 5), pv (f 6), pv (f 7), .int .i64 N, .int .i64 S]

/-- The cells of the table at block tb and of its nodes: f tells each one's links. -/
structure HeapIs (tb : Nat) (ns : List Nd) (f : Nat → Nat → Option Nat) (N S : Int) (w : World) : Prop where
  head : Blk w tb 61 (headCells (f tb) N S)
  node : ∀ n ∈ ns, Blk w n.b 59 (nodeCells n (f n.b))

/-- The links are those of the list. -/
def Linked (tb : Nat) (ns : List Nd) (f : Nat → Nat → Option Nat) : Prop :=
  ∀ l, l < 8 → f tb l = nxt l ns ∧ ∀ A n B, ns = A ++ n :: B → f n.b l = if l < n.h then nxt l B else none

def sizeOf' (ns : List Nd) : Nat := (ns.map fun n => n.k.size + n.v.size).sum

/-- Block tb of w is a table with the nodes ns. -/
def Tab (tb : Nat) (ns : List Nd) (w : World) : Prop := ∃ f, HeapIs tb ns f ns.length (sizeOf' ns) w ∧ Linked tb ns f

theorem head_link (f : Nat → Option Nat) (N S : Int) {l : Nat} (h : l < 8) : (headCells f N S)[5 + l]? = some (pv (f l)) := by
  rcases l with _ | _ | _ | _ | _ | _ | _ | _ | l <;> first | rfl | omega

theorem node_link (n : Nd) (f : Nat → Option Nat) {l : Nat} (h : l < 8) : (nodeCells n f)[5 + l]? = some (pv (f l)) := by
  rcases l with _ | _ | _ | _ | _ | _ | _ | _ | l <;> first | rfl | omega

theorem Tab.next {tb : Nat} {ns A C : List Nd} {w : World} {l : Nat} (h : Tab tb ns w) (hs : ns = A ++ C) (hA : ∀ a, A.getLast? = some a → l < a.h) (hl : l < 8) :
    w.cell? ⟨blkOf tb A, 5 + l, none⟩ = some (pv (nxt l C)) := by
  obtain ⟨f, hh, hf⟩ := h
  rcases List.eq_nil_or_concat A with rfl | ⟨A', a, rfl⟩
  · simp only [List.nil_append] at hs
    subst hs
    rw [blkOf_nil, hh.head.cell, head_link _ _ _ hl, (hf l hl).1]
  · rw [List.concat_eq_append] at hs hA ⊢
    have ha := hA a (by simp)
    have hm : a ∈ ns := by rw [hs]; simp
    rw [blkOf_snoc, (hh.node a hm).cell, node_link _ _ hl, (hf l hl).2 A' a C (by rw [hs]; simp), if_pos ha]

theorem Tab.entry {tb : Nat} {ns : List Nd} {w : World} {n : Nd} (h : Tab tb ns w) (hn : n ∈ ns) :
    w.cell? ⟨n.b, 0, none⟩ = some (.string n.k) ∧ w.cell? ⟨n.b, 1, none⟩ = some (.int .u64 n.s) ∧ w.cell? ⟨n.b, 2, none⟩ = some (.bool n.d) ∧
      w.cell? ⟨n.b, 3, none⟩ = some (.string n.v) ∧ w.cell? ⟨n.b, 4, none⟩ = some (.int .i64 n.h) := by
  obtain ⟨f, hh, _⟩ := h
  have := hh.node n hn
  refine ⟨?_, ?_, ?_, ?_, ?_⟩ <;> rw [this.cell] <;> rfl

theorem Tab.lt {tb : Nat} {ns : List Nd} {w : World} (h : Tab tb ns w) : tb < w.heap.size := h.choose_spec.1.head.lt
theorem Tab.nlt {tb : Nat} {ns : List Nd} {w : World} {n : Nd} (h : Tab tb ns w) (hn : n ∈ ns) : n.b < w.heap.size := (h.choose_spec.1.node n hn).lt

theorem Tab.blk_lt {tb : Nat} {ns A C : List Nd} {w : World} (h : Tab tb ns w) (hs : ns = A ++ C) : blkOf tb A < w.heap.size := by
  rcases List.eq_nil_or_concat A with rfl | ⟨A', a, rfl⟩
  · exact h.lt
  · rw [List.concat_eq_append] at hs ⊢
    rw [blkOf_snoc]
    exact h.nlt (by rw [hs]; simp)

theorem Tab.below {tb : Nat} {ns : List Nd} {w w' : World} (h : Tab tb ns w) (hb : Below w.heap.size w w') : Tab tb ns w' := by
  obtain ⟨f, hh, hf⟩ := h
  exact ⟨f, ⟨hh.head.below hb hh.head.lt, fun n hn => (hh.node n hn).below hb (hh.node n hn).lt⟩, hf⟩

theorem own_slice {w : World} {base : Nat} {e : TypeId} {size n : Nat} {v : Value} {xs : List Value} (h : w.ownsRow base e size v n xs) : ∃ ao cap, v = .slice ao n cap := by
  rcases h.2 with ⟨rfl, rfl⟩ | ⟨g, cap, cur, rfl, _⟩
  · exact ⟨none, 0, rfl⟩
  · exact ⟨_, cap, rfl⟩

/-- An owned row lies in a block of its element type. -/
theorem own_ne {w : World} {base g : Nat} {e t : TypeId} {size n : Nat} {v : Value} {xs : List Value} {cs : Array Value} (h : w.ownsRow base e size v n xs) (hg : Blk w g t cs) (hne : e ≠ t) : some g ≠ v.ownBlock := by
  rcases h.2 with ⟨rfl, _⟩ | ⟨g', cap, cur, rfl, _, hh, _⟩
  · simp [Value.ownBlock]
  · intro he
    have e1 : g = g' := by simpa [Value.ownBlock] using he
    subst e1
    exact hne (Blk.same (t := e) hh hg).1

/-- The cells of a block that was just made. -/
theorem cells_new (w : World) (t : TypeId) (l : List Value) : ∀ j u, l[j]? = some u → (w.alloc (.cells l.toArray t)).cell? ((⟨w.heap.size, 0, none⟩ : Addr).add j) = some u := by
  intro j u hu
  have hadd : (⟨w.heap.size, 0, none⟩ : Addr).add j = ⟨w.heap.size, j, none⟩ := by unfold Addr.add; split <;> simp_all
  rw [hadd, (Blk.new w t l.toArray).cell]
  simpa using hu

theorem below_drewN {B : Nat} {a w : World} (h : Below B a w) (n : Nat) : Below B a (w.drewN n) := ⟨h.os, h.tape, h.output, h.size, h.block⟩

/-- A row of at least one element: where its cells lie. -/
theorem own_some {w : World} {base : Nat} {e : TypeId} {size n : Nat} {v : Value} {xs : List Value} (h : w.ownsRow base e size v n xs) (hn : 0 < n) :
    ∃ g cap, v = .slice (some ⟨g, 0, none⟩) n cap ∧ n ≤ cap ∧ cap ≤ maxLen ∧ base ≤ g ∧ g < w.heap.size ∧ ∀ j u, xs[j]? = some u → w.cell? ⟨g, j, none⟩ = some u := by
  rcases h.2 with ⟨_, rfl⟩ | ⟨g, cap, cur, rfl, hb, hg, hc, hm, hs, ht⟩
  · omega
  · refine ⟨g, cap, rfl, hc, hm, hb, (Array.getElem?_eq_some_iff.1 hg).1, fun j u hu => ?_⟩
    have := h.cells (g := g) rfl j u hu
    have hadd : (⟨g, 0, none⟩ : Addr).add j = ⟨g, j, none⟩ := by unfold Addr.add; split <;> simp_all
    rwa [hadd] at this

end Go.Proofs.Ytbocdopjikkomaa
