/- The walk over HistMore. -/
import Derived.Test.YtghmjconljdapaaQ
import Derived.Test.YtghmjconljdapaaO
import Derived.Test.YtghmjconljdapaaS8
import Derived.Laws.AppendOwnNone
namespace Go.Proofs.Ytghmjconljdapaa
open Go.RowKit

/-- A slice's address and capacity, with these cells behind it. -/
def Src (w : World) (ao : Option Addr) (c n : Nat) (cells : List Value) : Prop :=
  (ao = none ∧ c = 0 ∧ n = 0 ∧ cells = []) ∨ ∃ ad, ao = some ad ∧ ∀ j u, cells[j]? = some u → w.cell? (ad.add j) = some u

theorem grown_refl (w : World) (row : Option Nat) : w.grownBy w row := ⟨rfl, rfl, rfl, Nat.le_refl _, fun _ _ _ => rfl⟩

/-- append(row of the call's own, any slice whose cells are known). -/
theorem append_src {P : Program} (w : World) {ops : Array Oper} {rest : List Oper} {o : Oper} {a : Act} {Q : Exit → Act → World → Prop} (hgd : o.guard = none) (s x : Operand) (t : TypeId)
    (ho : o.op = .call { callee := .builtin .append, args := #[s, x], argTypes := #[t, t] })
    (base : Nat) (e : TypeId) (i : TypeInfo) (z : Value) (size bytes : Nat) (ht : P.underlying t = some (.slice e)) (hi : P.info? e = some i) (hz : i.zero = some z)
    (hsize : i.size = size) (hby : i.bytes = bytes) (hzs : z.cells.size = size) (hsz : 0 < size)
    (v : Value) (n : Nat) (xs : List Value) (hs : a.eval s = v) (hown : w.ownsRow base e size v n xs)
    (ao : Option Addr) (m c : Nat) (news : List Value) (hx : a.eval x = .slice ao m c) (hl : news.length = m * size) (hsrc : Src w ao c m news) (h1 : ∀ u ∈ news, u.oneCell' = true)
    (h63 : n + m ≤ maxLen) (hbytes : (n + m) * bytes ≤ 140737488355328) (hbase : base ≤ w.heap.size)
    (h : ∀ v' w', w'.ownsRow base e size v' (n + m) (xs ++ news) → w.grownBy w' v.ownBlock → wpList P ops Q rest (a.put o.dst v') w') : wpList P ops Q (o :: rest) a w := by
  rcases hsrc with ⟨rfl, rfl, rfl, rfl⟩ | ⟨ad, rfl, hb3⟩
  · refine wpList_append_own_none hgd s x t ho base e i size ht hi v n xs hs hown hx ?_
    refine h v w ?_ (grown_refl w _)
    rw [Nat.add_zero, List.append_nil]
    exact hown
  · exact wpList_append_own w hgd s x t ho base e i z size bytes ht hi hz hsize hby hzs hsz v n xs hs hown ad m c news hx hl hb3 h1 h63 hbytes hbase fun v' w' h2 h3 _ => h v' w' h2 h3

theorem rawC_get {L : List Raw} {j : Nat} {u : Value} (h : (rawC L)[j]? = some u) : ∃ r, L[j / 4]? = some r ∧ (rawC1 r)[j % 4]? = some u := by
  induction L generalizing j with
  | nil => simp [rawC] at h
  | cons a L ih =>
    have e : rawC (a :: L) = rawC1 a ++ rawC L := rfl
    have hl : (rawC1 a).length = 4 := rfl
    rw [e] at h
    by_cases hj : j < 4
    · rw [List.getElem?_append_left (by omega)] at h
      refine ⟨a, ?_, ?_⟩
      · rw [show j / 4 = 0 by omega]; rfl
      · rwa [show j % 4 = j by omega]
    · rw [List.getElem?_append_right (by omega), hl] at h
      obtain ⟨r, h1, h2⟩ := ih h
      refine ⟨r, ?_, ?_⟩
      · rw [show j / 4 = (j - 4) / 4 + 1 by omega, List.getElem?_cons_succ]; exact h1
      · rwa [show j % 4 = (j - 4) % 4 by omega]

/-- A history that came in, cell by cell. -/
theorem raw_of_row {w : World} {ao : Option Addr} {c n : Nat} {xs : List Tx} (h : RowOf TxAt w ao n xs) (hc : ao = none → c = 0) : ∃ L : List Raw, L.map Raw.x = xs ∧ (∀ r ∈ L, RawOk w r) ∧ Src w ao c n (rawC L) := by
  obtain rfl := h.count
  by_cases h0 : xs.length = 0
  · have hx : xs = [] := List.eq_nil_of_length_eq_zero h0
    subst hx
    refine ⟨[], rfl, by simp, ?_⟩
    cases ao with
    | none => exact .inl ⟨rfl, hc rfl, rfl, rfl⟩
    | some ad => exact .inr ⟨ad, rfl, fun j u hu => by simp [rawC] at hu⟩
  · obtain ⟨b, off, rfl, hlt, hat⟩ := h.at_ (by omega)
    obtain ⟨L, hl, hL⟩ := list_of (α := Raw) (p := fun i r => xs[i]? = some r.x ∧ RawOk w r ∧ ∀ q u, (rawC1 r)[q]? = some u → w.cell? ⟨b, off + i * 4 + q, none⟩ = some u) xs.length (fun i hi => by
      obtain ⟨h0, h1, ⟨ra, rc, h2, h3⟩, wa, wc, h4, h5⟩ := hat i xs[i] (by simp)
      refine ⟨⟨xs[i], .slice ra xs[i].rs.length rc, .slice wa xs[i].ws.length wc⟩, by simp, ⟨⟨ra, rc, rfl, h3⟩, wa, wc, rfl, h5⟩, fun q u hu => ?_⟩
      match q, hu with
      | 0, hu => cases hu; exact h0
      | 1, hu => cases hu; exact h1
      | 2, hu => cases hu; exact h2
      | 3, hu => cases hu; exact h4)
    refine ⟨L, ?_, fun r hr => ?_, .inr ⟨_, rfl, fun j u hu => ?_⟩⟩
    · apply List.ext_getElem?
      intro i
      rw [List.getElem?_map]
      cases hi : L[i]? with
      | none =>
        rw [List.getElem?_eq_none_iff] at hi
        rw [Option.map_none, List.getElem?_eq_none (by omega)]
      | some r => rw [Option.map_some, (hL i r hi).1]
    · obtain ⟨i, hi⟩ := List.mem_iff_getElem?.1 hr
      exact (hL i r hi).2.1
    · obtain ⟨r, h1, h2⟩ := rawC_get hu
      have := (hL _ r h1).2.2 _ u h2
      rw [show off + j / 4 * 4 + j % 4 = off + j by omega] at this
      rw [add_plain']
      exact this

theorem nil_cap {H : Type} {enc : TypeId × Value → H} {w : World} {st et : TypeId} (hu : Try.prog.underlying st = some (.slice et)) {n : Nat} {ao : Option Addr} {len cap : Nat} {x : DataW H × List MemPlace}
    (h : DataW.trod enc Try.prog w 0 (fun _ => true) true n st [.slice ao len cap] = some x) : ao = none → cap = 0 := by
  rcases Go.Deep.open_slice hu h with ⟨hcs, _⟩ | ⟨a, len', cap', m, n, D, Pl, hcs, _⟩
  · simp at hcs
    intro _
    exact hcs.2.2
  · simp at hcs
    obtain ⟨rfl, _, _⟩ := hcs
    intro h
    cases h

theorem rawC_ones {w : World} {L : List Raw} (h : ∀ r ∈ L, RawOk w r) : ∀ u ∈ rawC L, u.oneCell' = true := by
  intro u hu
  unfold rawC at hu
  obtain ⟨r, hr, hu⟩ := List.mem_flatMap.1 hu
  exact rawC_one (h r hr) u hu

theorem Src.below {w w' : World} {ao : Option Addr} {c n : Nat} {cells : List Value} (h : Src w ao c n cells) (hb : ∀ a u, w.cell? a = some u → w'.cell? a = some u) : Src w' ao c n cells := by
  rcases h with h | ⟨ad, h1, h2⟩
  · exact .inl h
  · exact .inr ⟨ad, h1, fun j u hu => hb _ _ (h2 j u hu)⟩

theorem below_cells {w w' : World} (hb : Below w.heap.size w w') : ∀ a u, w.cell? a = some u → w'.cell? a = some u := by
  intro a u h
  rw [hb.cell (World.block_lt_of_cell? w _ h)]
  exact h

theorem comm_more (l : List Tx) (s c : Int) (hc : 0 < c) : (commTo (l ++ [emptyTx s c]) (l ++ [emptyTx s c]).length).length = (commTo l l.length).length + 1 := by
  have e : ∀ i : Nat, i < l.length → kap (l ++ [emptyTx s c]) (i : Int) = kap l (i : Int) := by
    intro i hi
    unfold kap
    rw [show ((i : Int)).toNat = i by omega, List.getElem?_append_left hi]
  have e2 : kap (l ++ [emptyTx s c]) (l.length : Int) = c := by
    unfold kap
    rw [show ((l.length : Int)).toNat = l.length by omega]
    simp [emptyTx]
  rw [List.length_append, List.length_singleton, comm_snoc, e2, if_pos hc, List.length_append, List.length_singleton]
  congr 1
  unfold commTo
  rw [List.length_map, List.length_map]
  congr 1
  apply List.filter_congr
  intro i hi
  rw [e i (List.mem_range.1 hi)]

end Go.Proofs.Ytghmjconljdapaa
