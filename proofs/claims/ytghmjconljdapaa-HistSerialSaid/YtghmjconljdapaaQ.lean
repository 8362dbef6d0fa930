/- Rows of transactions that a law builds itself. -/
import Derived.Test.YtghmjconljdapaaZ
import Derived.Test.YtghmjconljdapaaX
import Derived.OwnWalk
namespace Go.Proofs.Ytghmjconljdapaa
open Go.RowKit

theorem Try.info34 : (Try.prog.info? 34).map (fun i => (i.zero, i.size, i.bytes)) = some (some (.agg #[.int .u64 0, .int .u64 0, .slice none 0 0, .slice none 0 0]), 4, 64) := by kernel_rfl

/-- A transaction, and the two slices that stand for its reads and writes. -/
structure Raw where
  x : Tx
  rv : Value
  wv : Value

def rawC1 (r : Raw) : List Value := [.int .u64 r.x.s, .int .u64 r.x.t, r.rv, r.wv]
def rawC (L : List Raw) : List Value := L.flatMap rawC1

def RawOk (w : World) (r : Raw) : Prop :=
  (∃ ra rc, r.rv = .slice ra r.x.rs.length rc ∧ RowOf RdAt w ra r.x.rs.length r.x.rs) ∧ ∃ wa wc, r.wv = .slice wa r.x.ws.length wc ∧ RowOf MtAt w wa r.x.ws.length r.x.ws

theorem RawOk.below {w w' : World} {r : Raw} (h : RawOk w r) (hb : Below w.heap.size w w') : RawOk w' r := by
  obtain ⟨⟨ra, rc, h1, h2⟩, wa, wc, h3, h4⟩ := h
  exact ⟨⟨ra, rc, h1, rds_below h2 hb⟩, wa, wc, h3, mts_below h4 hb⟩

theorem rawC_one {w : World} {r : Raw} (h : RawOk w r) : ∀ u ∈ rawC1 r, u.oneCell' = true := by
  obtain ⟨⟨ra, rc, h1, _⟩, wa, wc, h3, _⟩ := h
  intro u hu
  unfold rawC1 at hu
  rw [h1, h3] at hu
  simp only [List.mem_cons, List.not_mem_nil, or_false] at hu
  rcases hu with rfl | rfl | rfl | rfl <;> rfl

theorem rawC_len (L : List Raw) : (rawC L).length = L.length * 4 := by
  induction L with
  | nil => rfl
  | cons a r ih =>
    show (rawC1 a ++ rawC r).length = _
    rw [List.length_append, ih, List.length_cons]
    simp only [rawC1, List.length_cons, List.length_nil]
    omega

theorem rawC_at {L : List Raw} {i : Nat} {r : Raw} (h : L[i]? = some r) : (rawC L)[i * 4]? = some (.int .u64 r.x.s) ∧ (rawC L)[i * 4 + 1]? = some (.int .u64 r.x.t) ∧ (rawC L)[i * 4 + 2]? = some r.rv ∧ (rawC L)[i * 4 + 3]? = some r.wv := by
  induction L generalizing i with
  | nil => simp at h
  | cons a L ih =>
    cases i with
    | zero =>
      simp only [List.getElem?_cons_zero, Option.some.injEq] at h
      subst h
      exact ⟨rfl, rfl, rfl, rfl⟩
    | succ i =>
      rw [List.getElem?_cons_succ] at h
      obtain ⟨h0, h1, h2, h3⟩ := ih h
      have e : ∀ j, (rawC (a :: L))[(i + 1) * 4 + j]? = (rawC L)[i * 4 + j]? := by
        intro j
        show (rawC1 a ++ rawC L)[(i + 1) * 4 + j]? = _
        rw [List.getElem?_append_right (by simp [rawC1]; omega)]
        congr 1
        simp only [rawC1, List.length_cons, List.length_nil]
        omega
      exact ⟨(e 0).trans h0, (e 1).trans h1, (e 2).trans h2, (e 3).trans h3⟩

/-- A row of the call's own is a history. -/
theorem row_raw {w : World} {base n c : Nat} {ao : Option Addr} {L : List Raw} (h : w.ownsRow base 34 4 (.slice ao n c) L.length (rawC L)) (hL : ∀ r ∈ L, RawOk w r) : RowOf TxAt w ao L.length (L.map Raw.x) ∧ n = L.length := by
  have hn : n = L.length := by
    rcases h.2 with ⟨h1, h2⟩ | ⟨g, cap, cur, h1, _⟩
    · simp only [Value.slice.injEq] at h1; omega
    · simp only [Value.slice.injEq] at h1; omega
  refine ⟨⟨by simp, fun hp => ?_⟩, hn⟩
  obtain ⟨g, cap, e, _, _, _, hlt, hc⟩ := own_some h hp
  simp only [Value.slice.injEq] at e
  obtain ⟨rfl, _, _⟩ := e
  refine ⟨g, 0, rfl, hlt, fun i x hx => ?_⟩
  rw [List.getElem?_map] at hx
  obtain ⟨r, hr, rfl⟩ := Option.map_eq_some_iff.1 hx
  obtain ⟨m0, m1, m2, m3⟩ := rawC_at hr
  obtain ⟨⟨ra, rc, h1, h2⟩, wa, wc, h3, h4⟩ := hL r (List.mem_of_getElem? hr)
  rw [h1] at m2
  rw [h3] at m3
  have c0 := hc _ _ m0
  have c1 := hc _ _ m1
  have c2 := hc _ _ m2
  have c3 := hc _ _ m3
  refine ⟨?_, ?_, ⟨ra, rc, ?_, h2⟩, wa, wc, ?_, h4⟩
  · rw [Nat.zero_add]; exact c0
  · rw [Nat.zero_add]; exact c1
  · rw [Nat.zero_add]; exact c2
  · rw [Nat.zero_add]; exact c3

theorem own_two {w : World} {base base' e e' size size' n n' : Nat} {v v' : Value} {xs xs' : List Value} (h : w.ownsRow base e size v n xs) (h' : w.ownsRow base' e' size' v' n' xs') (hne : e ≠ e') :
    v.ownBlock = none ∨ v.ownBlock ≠ v'.ownBlock := by
  rcases h.2 with ⟨rfl, _⟩ | ⟨g, cap, cur, rfl, _, hh, _⟩
  · exact .inl rfl
  · rcases h'.2 with ⟨rfl, _⟩ | ⟨g', cap', cur', rfl, _, hh', _⟩
    · exact .inr (by simp [Value.ownBlock])
    · refine .inr fun he => hne ?_
      have e1 : g = g' := by simpa [Value.ownBlock] using he
      subst e1
      exact (Blk.same (t := e) (t' := e') hh hh').1

/-- An empty literal's row. -/
theorem own_empty (w : World) {base : Nat} (e : TypeId) (size : Nat) (hb : base ≤ w.heap.size) : (w.alloc (.cells #[] e)).ownsRow base e size (.slice (some ⟨w.heap.size, 0, none⟩) 0 0) 0 [] := by
  have := World.ownsRow_lit (base := base) (e := e) (size := size) w #[] 0 hb (Nat.zero_le _) (by simp)
  simpa using this

theorem ints_of_own {w : World} {base n c : Nat} {ao : Option Addr} {os : List Int} (h : w.ownsRow base 3 1 (.slice ao n c) os.length (intsV os)) : IntsAt w ao os ∧ n = os.length := by
  have hn : n = os.length := by
    rcases h.2 with ⟨h1, h2⟩ | ⟨g, cap, cur, h1, _⟩
    · simp only [Value.slice.injEq] at h1; omega
    · simp only [Value.slice.injEq] at h1; omega
  refine ⟨fun hp => ?_, hn⟩
  obtain ⟨g, cap, e, _, _, _, hlt, hc⟩ := own_some h hp
  simp only [Value.slice.injEq] at e
  obtain ⟨rfl, _, _⟩ := e
  refine ⟨g, rfl, hlt, fun i x hx => hc i _ ?_⟩
  unfold intsV
  rw [List.getElem?_map, hx]
  rfl

end Go.Proofs.Ytghmjconljdapaa
