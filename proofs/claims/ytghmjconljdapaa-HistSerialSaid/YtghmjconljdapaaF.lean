/- The walk over May. -/
import Derived.Test.YtghmjconljdapaaE
namespace Go.Proofs.Ytghmjconljdapaa
open Go.RowKit

/-- The times of a transaction. -/
def timesOf (x : Tx) : List Int := if 0 < x.t then [x.s, x.t] else [x.s]

def times (l : List Tx) : List Int := l.flatMap timesOf

/-- May these be a history? -/
def mayL (l : List Tx) : Bool := l.all mayB && decide (times l).Nodup

theorem mayL_iff (l : List Tx) : mayL l = true ↔ (∀ x ∈ l, mayB x = true) ∧ (times l).Nodup := by simp [mayL]

theorem take_snoc' {α : Type} {l : List α} {n : Nat} {x : α} (hx : l[n]? = some x) : l.take (n + 1) = l.take n ++ [x] := by
  have hlt := (List.getElem?_eq_some_iff.1 hx).1
  rw [List.take_succ_eq_append_getElem hlt, (List.getElem?_eq_some_iff.1 hx).2]

theorem times_snoc {l : List Tx} {n : Nat} {x : Tx} (hx : l[n]? = some x) : times (l.take (n + 1)) = times (l.take n) ++ timesOf x := by
  rw [take_snoc' hx]
  simp [times]

theorem times_sub {l : List Tx} (n : Nat) : (times l).Nodup → (times (l.take n)).Nodup := by
  intro h
  have e : times l = times (l.take n) ++ times (l.drop n) := by
    unfold times
    rw [← List.flatMap_append, List.take_append_drop]
  rw [e] at h
  exact (List.nodup_append.1 h).1

theorem mayL_no {l : List Tx} {n : Nat} {x : Tx} (hx : l[n]? = some x) (h : mayB x = false) : mayL l = false := by
  rw [Bool.eq_false_iff]
  intro hm
  rw [((mayL_iff l).1 hm).1 x (List.mem_of_getElem? hx)] at h
  cases h

theorem mayL_twice {l : List Tx} {n : Nat} {x : Tx} (hx : l[n]? = some x) (h : ¬ (times (l.take n) ++ timesOf x).Nodup) : mayL l = false := by
  rw [Bool.eq_false_iff]
  intro hm
  have := times_sub (n + 1) ((mayL_iff l).1 hm).2
  rw [times_snoc hx] at this
  exact h this

theorem mayL_snoc {l : List Tx} {n : Nat} {x : Tx} (hx : l[n]? = some x) (h : mayL (l.take n) = true) (hb : mayB x = true) (hn : (times (l.take n) ++ timesOf x).Nodup) : mayL (l.take (n + 1)) = true := by
  rw [mayL_iff] at h ⊢
  rw [times_snoc hx]
  refine ⟨fun y hy => ?_, hn⟩
  rw [take_snoc' hx] at hy
  rcases List.mem_append.1 hy with hy | hy
  · exact h.1 y hy
  · rw [List.mem_singleton.1 hy]; exact hb

/-- Where a transaction's times may stand behind others. -/
theorem nodup_more {ks : List Int} {x : Tx} (hk : ks.Nodup) (hb : mayB x = true) : (ks ++ timesOf x).Nodup ↔ x.s ∉ ks ∧ (0 < x.t → x.t ∉ ks ++ [x.s]) := by
  have hne : 0 < x.t → x.s ≠ x.t := by
    have := ((mayB_iff x).1 hb).2.2.2.1
    intro h; omega
  unfold timesOf
  by_cases ht : 0 < x.t
  · have hne := hne ht
    rw [if_pos ht]
    simp only [List.nodup_append, hk, true_and, List.nodup_cons, List.mem_cons, List.not_mem_nil, or_false, List.mem_append, ht, true_implies]
    constructor
    · rintro ⟨_, h⟩
      refine ⟨fun h' => h _ h' _ (.inl rfl) rfl, fun h' => ?_⟩
      rcases h' with h' | h'
      · exact h _ h' _ (.inr rfl) rfl
      · exact hne h'.symm
    · rintro ⟨h1, h2⟩
      refine ⟨⟨hne, by simp⟩, fun a ha b hb' => ?_⟩
      rintro rfl
      rcases hb' with rfl | rfl
      · exact h1 ha
      · exact h2 (.inl ha)
  · rw [if_neg ht]
    simp only [List.nodup_append, hk, true_and, ht, false_implies, and_true, List.mem_singleton]
    constructor
    · rintro ⟨_, h⟩ h'
      exact h _ h' _ rfl rfl
    · intro h
      refine ⟨by simp, fun a ha b hb' => ?_⟩
      rintro rfl
      exact h (hb' ▸ ha)

def MayLRel (xs : List Tx) (w0 : World) (mb : Nat) (g : Nat) (i : Value) (wr : World) : Prop :=
  ∃ n : Nat, i = .int .i64 n ∧ n ≤ xs.length ∧ g = xs.length - n ∧ mayL (xs.take n) = true ∧
    (∃ l, MapIs (fun s : Int => Value.int .u64 s) wr mb l ∧ SetOf (times (xs.take n)) l) ∧ Below w0.heap.size w0 wr

set_option maxRecDepth 100000 in
set_option maxHeartbeats 4000000 in
theorem mayL_calls (ao : Option Addr) (c : Nat) (xs : List Tx) (w : World) (h : RowOf TxAt w ao xs.length xs) (hs : Sized xs) :
    Calls Try.prog 12 #[.slice ao xs.length c] w fun e w' => e = .returned (.bool (mayL xs)) ∧ Below w.heap.size w w' := by
  have hmm := @run_makeMap Try.prog
  have hlen := hs.len
  have HS := Lib.hid hs
  have H := Lib.hid h
  clear h hs
  go_enter Try.func12, Try.ntmps12
  go_wp2_with fail
  clear hmm
  go_loopg [9] xs.length (fun g i wr => MayLRel xs w w.heap.size g i wr)
  case atStart => exact ⟨0, rfl, by omega, by omega, by simp [mayL, times], ⟨[], MapIs.made _ _, SetOf.nil⟩, new1 w _⟩
  case round =>
    obtain ⟨n, rfl, hn, rfl, hok, ⟨l, hM, hSt⟩, hb⟩ := hrel
    have HM := Lib.hid hM
    have HSt := Lib.hid hSt
    have Hok := Lib.hid hok
    have hsz := hb.size
    clear hM hSt hok
    by_cases hlt : n < xs.length
    · obtain ⟨b, off, x, rfl, hblt, hx, e0, e1, ⟨ra, rc, e2, h3⟩, wa, wc, e4, h5⟩ := H.out.get hlt
      rw [← hb.cell (by exact hblt)] at e0 e1 e2 e4
      have hxw := HS.out.ws x (List.mem_of_getElem? hx)
      have H5 := Lib.hid (mts_below h5 hb)
      have Hx := Lib.hid hx
      have Hb := Lib.hid hb
      have hlti : (n : Int) < (xs.length : Int) := by omega
      clear hx h3 h5 hb
      go_wp2_with fail
      refine (may_calls x _ wa wc _ (mts_below H5.out (new1 _ _)) hxw _ _ _ rfl).mono ?_
      rintro e w2 ⟨rfl, hb2⟩
      have hb2' : Below wr.heap.size wr w2 := then_ (new1 _ _) (Nat.le_refl _) hb2
      have hs2 := hb2.size
      simp at hs2
      have hl2 : wr.heap.size < w2.heap.size := by omega
      have hX2 := (Blk.new wr 34 #[.int .u64 x.s, .int .u64 x.t, .slice ra x.rs.length rc, .slice wa x.ws.length wc]).below hb2 (by simp)
      have x0 : w2.cell? ⟨wr.heap.size, 0, none⟩ = some (.int .u64 x.s) := hX2.cell 0
      have x1 : w2.cell? ⟨wr.heap.size, 1, none⟩ = some (.int .u64 x.t) := hX2.cell 1
      have Hbw := Lib.hid (then_ Hb.out (Nat.le_refl _) hb2')
      have HM2 := Lib.hid (HM.out.below hb2')
      have HX2 := Lib.hid hX2
      clear hb2 hb2' hX2
      cases hmb : mayB x with
      | false =>
        have Hf := Lib.hid (mayL_no Hx.out hmb)
        clear hmb
        go_wp2_with fail
        go_ret
        exact ⟨by rw [Hf.out]; first | done | rfl, Hbw.out⟩
      | true =>
        have hkn := ((mayL_iff _).1 Hok.out).2
        have hiff := nodup_more hkn hmb
        have hlk := HM2.out.lookup (int_kind Try.underlying23) Try.underlying52 (z := .bool false) (by kernel_rfl) x.s
        rw [HSt.out x.s] at hlk
        by_cases hk : x.s ∈ times (xs.take n)
        · rw [if_pos hk] at hlk
          have Hf := Lib.hid (mayL_twice Hx.out (fun h => (hiff.1 h).1 hk))
          clear hkn hiff hmb hk
          go_wp2_with fail
          go_ret
          exact ⟨by rw [Hf.out]; first | done | rfl, Hbw.out⟩
        · rw [if_neg hk] at hlk
          obtain ⟨w5, hrun, hM5, hg5⟩ := HM2.out.update (int_kind Try.underlying23) Try.underlying52 x.s (.bool true)
          have hX5 : Blk w5 wr.heap.size 34 #[.int .u64 x.s, .int .u64 x.t, .slice ra x.rs.length rc, .slice wa x.ws.length wc] := HX2.out.grown hg5 (blk_map_ne HM2.out HX2.out)
          have z1 : w5.cell? ⟨wr.heap.size, 1, none⟩ = some (.int .u64 x.t) := hX5.cell 1
          have hS5 := HSt.out.put x.s
          have hb5 : Below w.heap.size w w5 := Hbw.out.grown hg5 (by omega) (fun k hk => by cases hk; omega)
          have HM5 := Lib.hid hM5
          have HS5 := Lib.hid hS5
          have Hb5 := Lib.hid hb5
          clear hX5 hM5 hS5 hb5 hg5
          by_cases ht : 0 < x.t
          · have hlk2 := HM5.out.lookup (int_kind Try.underlying23) Try.underlying52 (z := .bool false) (by kernel_rfl) x.t
            rw [HS5.out x.t] at hlk2
            by_cases hk2 : x.t ∈ times (xs.take n) ++ [x.s]
            · rw [if_pos hk2] at hlk2
              have Hf := Lib.hid (mayL_twice Hx.out (fun h => (hiff.1 h).2 ht hk2))
              clear hkn hiff hmb hk hk2
              go_wp2_with fail
              go_ret
              exact ⟨by rw [Hf.out]; first | done | rfl, Hb5.out⟩
            · rw [if_neg hk2] at hlk2
              have Hn := Lib.hid (mayL_snoc Hx.out Hok.out hmb (hiff.2 ⟨hk, fun _ => hk2⟩))
              have Ht := Lib.hid (show times (xs.take (n + 1)) = times (xs.take n) ++ [x.s] ++ [x.t] by rw [times_snoc Hx.out, timesOf, if_pos ht]; simp)
              obtain ⟨w6, hrun6, hM6, hg6⟩ := HM5.out.update (int_kind Try.underlying23) Try.underlying52 x.t (.bool true)
              have Hb6 := Lib.hid (show Below w.heap.size w w6 from Hb5.out.grown hg6 Hb5.out.size (fun k hk => by cases hk; omega))
              have HM6 := Lib.hid hM6
              have HS6 := Lib.hid (HS5.out.put x.t)
              clear hkn hiff hmb hk hk2 hM6 hg6
              go_wp2_with fail
              go_roundg (xs.length - (n + 1))
              case measure => omega
              case rel => exact ⟨n + 1, by go_num, by omega, rfl, Hn.out, ⟨_, HM6.out, by rw [Ht.out]; exact HS6.out⟩, Hb6.out⟩
          · have Hn := Lib.hid (mayL_snoc Hx.out Hok.out hmb (hiff.2 ⟨hk, fun h => absurd h ht⟩))
            have Ht := Lib.hid (show times (xs.take (n + 1)) = times (xs.take n) ++ [x.s] by rw [times_snoc Hx.out, timesOf, if_neg ht])
            clear hkn hiff hmb hk
            go_wp2_with fail
            go_roundg (xs.length - (n + 1))
            case measure => omega
            case rel => exact ⟨n + 1, by go_num, by omega, rfl, Hn.out, ⟨_, HM5.out, by rw [Ht.out]; exact HS5.out⟩, Hb5.out⟩
    · obtain rfl : n = xs.length := by omega
      have Hf := Lib.hid (show mayL xs = true by have := Hok.out; rwa [List.take_length] at this)
      have Hb := Lib.hid hb
      clear hb
      go_wp2_with fail
      go_ret
      exact ⟨by rw [Hf.out]; first | done | rfl, Hb.out⟩

end Go.Proofs.Ytghmjconljdapaa
