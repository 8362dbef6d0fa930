/- The reference's table: its two rows; appends from a row. -/
import Derived.Test.YtbocdopjikkomaaU
import Derived.Laws.AppendOwnNone
namespace Go.Proofs.Ytbocdopjikkomaa
open Go.RowKit

/-- A slice's address and capacity, with these cells behind it. -/
def Src (w : World) (ao : Option Addr) (c n : Nat) (cells : List Value) : Prop :=
  (ao = none ∧ c = 0 ∧ n = 0 ∧ cells = []) ∨ ∃ b off, ao = some ⟨b, off, none⟩ ∧ b < w.heap.size ∧ n ≤ c ∧ ∀ j u, cells[j]? = some u → w.cell? ⟨b, off + j, none⟩ = some u

theorem Src.le {w : World} {ao : Option Addr} {c n : Nat} {cells : List Value} (h : Src w ao c n cells) : n ≤ c := by
  rcases h with ⟨_, _, h, _⟩ | ⟨_, _, _, _, h, _⟩ <;> omega

theorem Src.below {w w' : World} {ao : Option Addr} {c n : Nat} {cells : List Value} (h : Src w ao c n cells) (hb : Below w.heap.size w w') : Src w' ao c n cells := by
  rcases h with h | ⟨b, off, rfl, h1, h2, h3⟩
  · exact .inl h
  · exact .inr ⟨b, off, rfl, by have := hb.size; omega, h2, fun j u hj => by rw [hb.cell (by exact h1)]; exact h3 j u hj⟩

/-- Only other blocks have changed. -/
theorem Src.only {w w' : World} {ao : Option Addr} {c n g : Nat} {cells : List Value} (h : Src w ao c n cells) (hO : Only g [] w w') (hg : ∀ b off, ao = some ⟨b, off, none⟩ → b ≠ g) : Src w' ao c n cells := by
  rcases h with h | ⟨b, off, rfl, h1, h2, h3⟩
  · exact .inl h
  · refine .inr ⟨b, off, rfl, by have := hO.size; omega, h2, fun j u hj => ?_⟩
    rw [World.cell?_of_block (w := w) (hO.block b h1 (hg b off rfl) (by simp))]
    exact h3 j u hj

theorem Src.own {w : World} {base n c : Nat} {e : TypeId} {size : Nat} {ao : Option Addr} {cells : List Value} (h : w.ownsRow base e size (.slice ao n c) n cells) : Src w ao c n cells := by
  rcases h.2 with ⟨h1, rfl⟩ | ⟨g, c', cur, h1, _, hh, h2, _⟩
  · simp only [Value.slice.injEq] at h1
    refine .inl ⟨h1.1, h1.2.2, rfl, ?_⟩
    have := h.1
    rw [Nat.zero_mul] at this
    exact List.eq_nil_of_length_eq_zero this
  · simp only [Value.slice.injEq] at h1
    obtain ⟨rfl, _, rfl⟩ := h1
    refine .inr ⟨g, 0, rfl, (Array.getElem?_eq_some_iff.1 hh).1, h2, fun j u hj => ?_⟩
    have := h.cells (g := g) rfl j u hj
    have hadd : (⟨g, 0, none⟩ : Addr).add j = ⟨g, j, none⟩ := by unfold Addr.add; split <;> simp_all
    rw [hadd] at this
    rwa [Nat.zero_add]

/-- Where an owned row lies. -/
theorem own_ge {w : World} {base n n' c : Nat} {e : TypeId} {size : Nat} {ao : Option Addr} {cells : List Value} (h : w.ownsRow base e size (.slice ao n' c) n cells) {b off : Nat} (he : ao = some ⟨b, off, none⟩) : base ≤ b := by
  rcases h.2 with ⟨h1, _⟩ | ⟨g, c', cur, h1, h2, _⟩
  · simp only [Value.slice.injEq] at h1
    rw [he] at h1
    cases h1.1
  · simp only [Value.slice.injEq] at h1
    rw [he] at h1
    obtain ⟨h1, _⟩ := h1
    simp only [Option.some.injEq, Addr.mk.injEq] at h1
    omega

theorem Src.take {w : World} {ao : Option Addr} {c n : Nat} {cells : List Value} (h : Src w ao c n cells) {k : Nat} (hk : k ≤ n) (m : Nat) : Src w ao c k (cells.take m) := by
  rcases h with ⟨h1, h2, h3, rfl⟩ | ⟨b, off, rfl, h1, h2, h3⟩
  · exact .inl ⟨h1, h2, by omega, by simp⟩
  · refine .inr ⟨b, off, rfl, h1, by omega, fun j u hj => h3 j u ?_⟩
    rw [List.getElem?_take] at hj
    split at hj
    · exact hj
    · cases hj

/-- Behind the first m cells. -/
theorem Src.drop {w : World} {ao : Option Addr} {c n : Nat} {cells : List Value} (h : Src w ao c n cells) {k : Nat} (hk : k ≤ n) (m : Nat) : Src w (ao.map fun x => x.add m) (c - k) (n - k) (cells.drop m) := by
  rcases h with ⟨rfl, h2, h3, rfl⟩ | ⟨b, off, rfl, h1, h2, h3⟩
  · exact .inl ⟨rfl, by omega, by omega, by simp⟩
  · refine .inr ⟨b, off + m, ?_, h1, by omega, fun j u hj => ?_⟩
    · simp only [Option.map_some, Addr.add]
      split
      · rename_i h0; rw [h0]; rfl
      · rfl
    · rw [List.getElem?_drop] at hj
      have := h3 _ u hj
      rwa [← Nat.add_assoc] at this

/-- An empty rest, wherever it points. -/
theorem Src.empty {w : World} {ao : Option Addr} {c n : Nat} {cells : List Value} (h : Src w ao c n cells) : Src w ao 0 0 [] := by
  rcases h with ⟨h1, h2, h3, rfl⟩ | ⟨b, off, rfl, h1, h2, h3⟩
  · exact .inl ⟨h1, rfl, rfl, rfl⟩
  · exact .inr ⟨b, off, rfl, h1, Nat.le_refl _, fun j u hj => by simp at hj⟩

theorem Src.ent {w : World} {ao : Option Addr} {c n i : Nat} {ns : List Nd} {m : Nd} (h : Src w ao c n (entsC ns)) (hm : ns[i]? = some m) : ∃ b off, ao = some ⟨b, off, none⟩ ∧ b < w.heap.size ∧ EntAt w b off i m := by
  obtain ⟨m0, m1, m2, m3⟩ := entsC_at hm
  rcases h with ⟨_, _, _, h⟩ | ⟨b, off, rfl, h1, h2, h3⟩
  · rw [h] at m0; cases m0
  · refine ⟨b, off, rfl, h1, h3 _ _ m0, ?_, ?_, ?_⟩
    · rw [Nat.add_assoc]; exact h3 _ _ m1
    · rw [Nat.add_assoc]; exact h3 _ _ m2
    · rw [Nat.add_assoc]; exact h3 _ _ m3

theorem hs_at {ns : List Nd} {i : Nat} {m : Nd} (hm : ns[i]? = some m) : (hs ns)[i]? = some (.int .i64 m.h) := by
  unfold hs
  rw [List.getElem?_map, hm]
  rfl

theorem Src.hgt {w : World} {ao : Option Addr} {c n i : Nat} {ns : List Nd} {m : Nd} (h : Src w ao c n (hs ns)) (hm : ns[i]? = some m) : ∃ b off, ao = some ⟨b, off, none⟩ ∧ b < w.heap.size ∧ w.cell? ⟨b, off + i, none⟩ = some (.int .i64 m.h) := by
  have m0 := hs_at hm
  rcases h with ⟨_, _, _, h⟩ | ⟨b, off, rfl, h1, h2, h3⟩
  · rw [h] at m0; cases m0
  · exact ⟨b, off, rfl, h1, h3 _ _ m0⟩

/-- Block rb is the reference's table with these entries and heights. -/
def RTab (rb : Nat) (ns : List Nd) (w : World) : Prop :=
  ∃ la lc ha hc, Blk w rb 31 #[.slice la ns.length lc, .slice ha ns.length hc] ∧ Src w la lc ns.length (entsC ns) ∧ Src w ha hc ns.length (hs ns) ∧
    (∀ b off, la = some ⟨b, off, none⟩ → ∃ cs, Blk w b 34 cs) ∧ (∀ b off, ha = some ⟨b, off, none⟩ → ∃ cs, Blk w b 3 cs)

theorem RTab.below {rb : Nat} {ns : List Nd} {w w' : World} (h : RTab rb ns w) (hb : Below w.heap.size w w') : RTab rb ns w' := by
  obtain ⟨la, lc, ha, hc, h1, h2, h3, h4, h5⟩ := h
  refine ⟨la, lc, ha, hc, h1.below hb h1.lt, h2.below hb, h3.below hb, ?_, ?_⟩
  · intro b off he
    obtain ⟨cs, hcs⟩ := h4 b off he
    exact ⟨cs, hcs.below hb hcs.lt⟩
  · intro b off he
    obtain ⟨cs, hcs⟩ := h5 b off he
    exact ⟨cs, hcs.below hb hcs.lt⟩

theorem RTab.lt {rb : Nat} {ns : List Nd} {w : World} (h : RTab rb ns w) : rb < w.heap.size := by
  obtain ⟨_, _, _, _, h, _⟩ := h
  exact h.lt

theorem entsC_len (ns : List Nd) : (entsC ns).length = ns.length * 4 := by
  induction ns with
  | nil => rfl
  | cons a r ih =>
    show (entC a ++ entsC r).length = _
    rw [List.length_append, ih, List.length_cons]
    simp only [entC, List.length_cons, List.length_nil]
    omega

theorem hs_len (ns : List Nd) : (hs ns).length = ns.length := by simp [hs]

theorem entsC_append (a b : List Nd) : entsC (a ++ b) = entsC a ++ entsC b := by simp [entsC]
theorem hs_append (a b : List Nd) : hs (a ++ b) = hs a ++ hs b := by simp [hs]

theorem entsC_split (A C : List Nd) : (entsC (A ++ C)).take (A.length * 4) = entsC A ∧ (entsC (A ++ C)).drop (A.length * 4) = entsC C := by
  rw [entsC_append]
  exact ⟨List.take_left' (entsC_len A), List.drop_left' (entsC_len A)⟩

theorem hs_split (A C : List Nd) : (hs (A ++ C)).take A.length = hs A ∧ (hs (A ++ C)).drop A.length = hs C := by
  rw [hs_append]
  exact ⟨List.take_left' (hs_len A), List.drop_left' (hs_len A)⟩

theorem entsC_one (ns : List Nd) : ∀ u ∈ entsC ns, u.oneCell' = true := by
  intro u hu
  obtain ⟨m, _, hm⟩ := List.mem_flatMap.1 hu
  exact entC_one m u hm

theorem hs_one (ns : List Nd) : ∀ u ∈ hs ns, u.oneCell' = true := by
  intro u hu
  obtain ⟨m, _, rfl⟩ := List.mem_map.1 hu
  rfl

theorem grown_refl (w : World) (row : Option Nat) : w.grownBy w row := ⟨rfl, rfl, rfl, Nat.le_refl _, fun _ _ _ => rfl⟩

/-- append(row of the call's own, any slice whose cells are known). -/
theorem append_src {P : Program} (w : World) {ops : Array Oper} {rest : List Oper} {o : Oper} {a : Act} {Q : Exit → Act → World → Prop} (hgd : o.guard = none) (s x : Operand) (t : TypeId)
    (ho : o.op = .call { callee := .builtin .append, args := #[s, x], argTypes := #[t, t] })
    (base : Nat) (e : TypeId) (i : TypeInfo) (z : Value) (size bytes : Nat) (ht : P.underlying t = some (.slice e)) (hi : P.info? e = some i) (hz : i.zero = some z)
    (hsize : i.size = size) (hby : i.bytes = bytes) (hzs : z.cells.size = size) (hsz : 0 < size)
    (v : Value) (n : Nat) (xs : List Value) (hs : a.eval s = v) (hown : w.ownsRow base e size v n xs)
    (ao : Option Addr) (m c : Nat) (news : List Value) (hx : a.eval x = .slice ao m c) (hl : news.length = m * size) (hsrc : Src w ao c m news) (h1 : ∀ u ∈ news, u.oneCell' = true)
    (h63 : n + m ≤ maxLen) (hbytes : (n + m) * bytes ≤ 140737488355328) (hbase : base ≤ w.heap.size)
    (h : ∀ v' w', w'.ownsRow base e size v' (n + m) (xs ++ news) → w.grownBy w' v.ownBlock → wpList P ops Q rest (a.put o.dst v') w') : wpList P ops Q (o :: rest) a w := by
  rcases hsrc with ⟨rfl, rfl, rfl, rfl⟩ | ⟨b, off, rfl, hb1, hb2, hb3⟩
  · refine wpList_append_own_none hgd s x t ho base e i size ht hi v n xs hs hown hx ?_
    refine h v w ?_ (grown_refl w _)
    rw [Nat.add_zero, List.append_nil]
    exact hown
  · refine wpList_append_own w hgd s x t ho base e i z size bytes ht hi hz hsize hby hzs hsz v n xs hs hown ⟨b, off, none⟩ m c news hx hl ?_ h1 h63 hbytes hbase fun v' w' h2 h3 _ => h v' w' h2 h3
    intro j u hj
    have hadd : (⟨b, off, none⟩ : Addr).add j = ⟨b, off + j, none⟩ := by unfold Addr.add; split <;> simp_all
    rw [hadd]
    exact hb3 j u hj

/-- Blocks that are kept keep a row. -/
theorem Src.kept {w w' : World} {ao : Option Addr} {c n : Nat} {cells : List Value} (h : Src w ao c n cells) (hs : w.heap.size ≤ w'.heap.size) (hg : ∀ b off, ao = some ⟨b, off, none⟩ → w'.heap[b]? = w.heap[b]?) : Src w' ao c n cells := by
  rcases h with h | ⟨b, off, rfl, h1, h2, h3⟩
  · exact .inl h
  · refine .inr ⟨b, off, rfl, by omega, h2, fun j u hj => ?_⟩
    rw [World.cell?_of_block (w := w) (hg b off rfl)]
    exact h3 j u hj

/-- A put into the table leaves the reference's. -/
theorem RTab.only {rb tb : Nat} {ns us : List Nd} {w w' : World} (h : RTab rb ns w) (hO : Only tb us w w') (hT : Tab tb us w) : RTab rb ns w' := by
  obtain ⟨la, lc, ha, hc, h1, h2, h3, h4, h5⟩ := h
  have key : ∀ {b : Nat} {e : TypeId} {cs : Array Value}, Blk w b e cs → e ≠ 59 → e ≠ 61 → w'.heap[b]? = w.heap[b]? := by
    intro b e cs hb n1 n2
    have := hO.blk hT hb n1 n2
    unfold Blk at this hb
    rw [this, hb]
  refine ⟨la, lc, ha, hc, hO.blk hT h1 (by decide) (by decide), h2.kept hO.size ?_, h3.kept hO.size ?_, ?_, ?_⟩
  · intro b off he
    obtain ⟨cs, hcs⟩ := h4 b off he
    exact key hcs (by decide) (by decide)
  · intro b off he
    obtain ⟨cs, hcs⟩ := h5 b off he
    exact key hcs (by decide) (by decide)
  · intro b off he
    obtain ⟨cs, hcs⟩ := h4 b off he
    exact ⟨cs, hO.blk hT hcs (by decide) (by decide)⟩
  · intro b off he
    obtain ⟨cs, hcs⟩ := h5 b off he
    exact ⟨cs, hO.blk hT hcs (by decide) (by decide)⟩

theorem RTab.nil {rb : Nat} {w : World} (h : Blk w rb 31 #[.slice none 0 0, .slice none 0 0]) : RTab rb [] w :=
  ⟨none, 0, none, 0, h, .inl ⟨rfl, rfl, rfl, rfl⟩, .inl ⟨rfl, rfl, rfl, rfl⟩, fun _ _ he => by simp at he, fun _ _ he => by simp at he⟩

theorem own_blk {w : World} {base n n' c : Nat} {e : TypeId} {size : Nat} {ao : Option Addr} {cells : List Value} (h : w.ownsRow base e size (.slice ao n' c) n cells) {b off : Nat} (he : ao = some ⟨b, off, none⟩) : ∃ cs, Blk w b e cs := by
  rcases h.2 with ⟨h1, _⟩ | ⟨g, c', cur, h1, _, h2, _⟩
  · simp only [Value.slice.injEq] at h1
    rw [he] at h1
    cases h1.1
  · simp only [Value.slice.injEq] at h1
    rw [he] at h1
    obtain ⟨h1, _⟩ := h1
    simp only [Option.some.injEq, Addr.mk.injEq] at h1
    obtain ⟨rfl, _⟩ := h1
    exact ⟨cur, h2⟩

theorem Src.ents {w : World} {ao : Option Addr} {c n : Nat} {ns : List Nd} (h : Src w ao c n (entsC ns)) : EntsAt w ao ns := by
  intro hne
  cases ns with
  | nil => exact absurd rfl hne
  | cons a r =>
    obtain ⟨b, off, rfl, hlt, _⟩ := h.ent (i := 0) (m := a) rfl
    refine ⟨b, off, rfl, hlt, fun i m hm => ?_⟩
    obtain ⟨b', off', he, _, hE⟩ := h.ent hm
    simp only [Option.some.injEq, Addr.mk.injEq, and_true] at he
    obtain ⟨rfl, rfl⟩ := he
    exact hE

/-- Rows of two kinds lie apart. -/
theorem own_two {w : World} {base base' e e' size size' n n' : Nat} {v v' : Value} {xs xs' : List Value} (h : w.ownsRow base e size v n xs) (h' : w.ownsRow base' e' size' v' n' xs') (hne : e ≠ e') :
    v.ownBlock = none ∨ v.ownBlock ≠ v'.ownBlock := by
  rcases h.2 with ⟨rfl, _⟩ | ⟨g, cap, cur, rfl, _, hh, _⟩
  · exact .inl rfl
  · rcases h'.2 with ⟨rfl, _⟩ | ⟨g', cap', cur', rfl, _, hh', _⟩
    · exact .inr (by simp [Value.ownBlock])
    · refine .inr fun he => hne ?_
      have e1 : g = g' := by simpa [Value.ownBlock] using he
      subst e1
      exact (Blk.same (t := e) (t' := e') hh hh').1

end Go.Proofs.Ytbocdopjikkomaa
