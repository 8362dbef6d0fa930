/- The walks over the stable sort of few numbers, and over Order. -/
import Derived.Test.YtghmjconljdapaaT
namespace Go.Proofs.Ytghmjconljdapaa
open Go.RowKit

theorem Try.info3 : (Try.prog.info? 3).map (fun i => (i.zero, i.size, i.bytes)) = some (some (.int .i64 0), 1, 8) := by kernel_rfl

theorem info_parts {P : Program} {e : TypeId} {z : Value} {s b : Nat} (h : (P.info? e).map (fun i => (i.zero, i.size, i.bytes)) = some (some z, s, b)) :
    ∃ i, P.info? e = some i ∧ i.zero = some z ∧ i.size = s ∧ i.bytes = b := by
  obtain ⟨i, hi, he⟩ := Option.map_eq_some_iff.1 h
  simp only [Prod.mk.injEq] at he
  exact ⟨i, hi, he⟩

/-- The stable sort of m numbers does what it should. -/
def SortOk (m : Nat) : Prop :=
  ∀ (w0 : World) (ao : Option Addr) (n c lb : Nat) (xs : List Tx) (_ : Ctx w0 ao n c lb xs) (da : Option Addr) (cap db : Nat) (d : Nat → Int) (w : World) (_ : In w0 n db m d w)
    (_ : 0 < m → da = some ⟨db, 0, none⟩),
    Calls Try.prog 22 #[.slice da m cap, .int .i64 m, .func (.func 20) #[] #[.pointer (some ⟨lb, 0, none⟩)]] w (Sorted w0 n db m 0 m xs d)

set_option maxRecDepth 100000 in
set_option maxHeartbeats 1000000 in
theorem sort_few {m : Nat} (hm : m < 20) : SortOk m := by
  intro w0 ao n c lb xs X da cap db d w hin hda
  have HX := Lib.hid X
  have Hin := Lib.hid hin
  have Hda := Lib.hid hda
  clear X hin hda
  have h1 : ¬ (20 : Int) ≤ (m : Int) := by omega
  have h2 : ¬ (20 : Int) < (m : Int) := by omega
  go_enter Try.func22, Try.ntmps22
  go_wp2_with fail
  go_loopg [7, 8] 0 (fun g u v wr => u = .int .i64 0 ∧ v = .int .i64 20 ∧ wr = w)
  case atStart => exact ⟨rfl, rfl, rfl⟩
  case round =>
    obtain ⟨rfl, rfl, rfl⟩ := hrel
    go_wp2_with fail
    refine (insertion_calls HX.out da cap db m 0 m d _ Hin.out Hda.out (by omega) (by omega) (by omega)).mono ?_
    rintro e w1 ⟨rfl, hS⟩
    have HS := Lib.hid hS
    clear hS
    go_wp2_with fail
    go_loopg [6] 0 (fun g u wr => u = .int .i64 20 ∧ w1 = wr)
    case atStart => exact ⟨rfl, rfl⟩
    case round =>
      obtain ⟨rfl, rfl⟩ := hrel
      go_wp2_with fail
      first | go_end0 | refine bodyPost_ret (results_none rfl _ _ _) rfl ?_
      exact ⟨rfl, HS.out⟩

set_option maxHeartbeats 400000 in
theorem sortStable_calls {m : Nat} (h : SortOk m) {w0 : World} {ao : Option Addr} {n c lb : Nat} {xs : List Tx} (X : Ctx w0 ao n c lb xs) (da : Option Addr) (cap db : Nat) (d : Nat → Int) (w : World) (hin : In w0 n db m d w)
    (hda : 0 < m → da = some ⟨db, 0, none⟩) :
    Calls Try.prog 19 #[.slice da m cap, .func (.func 20) #[] #[.pointer (some ⟨lb, 0, none⟩)]] w (Sorted w0 n db m 0 m xs d) := by
  have H := Lib.hid (h w0 ao n c lb xs X da cap db d w hin hda)
  clear h X hin hda
  go_enter Try.func19, Try.ntmps19
  go_wp2_with fail
  refine H.out.mono ?_
  rintro e w1 ⟨rfl, hS⟩
  have HS := Lib.hid hS
  clear hS
  go_wp2_with fail
  first | go_end0 | refine bodyPost_ret (results_none rfl _ _ _) rfl ?_
  exact ⟨rfl, HS.out⟩

/-- Those of the first n that were committed. -/
def commTo (xs : List Tx) (n : Nat) : List Int := ((List.range n).filter fun i : Nat => decide (0 < kap xs (i : Int))).map fun i : Nat => (i : Int)

theorem comm_snoc (xs : List Tx) (n : Nat) : commTo xs (n + 1) = commTo xs n ++ if 0 < kap xs n then [(n : Int)] else [] := by
  unfold commTo
  rw [List.range_succ, List.filter_append, List.map_append]
  congr 1
  by_cases h : 0 < kap xs n <;> simp [h]

theorem comm_rng {xs : List Tx} {n : Nat} {x : Int} (h : x ∈ commTo xs n) : 0 ≤ x ∧ x < n := by
  unfold commTo at h
  obtain ⟨i, hi, rfl⟩ := List.mem_map.1 h
  have := List.mem_range.1 (List.mem_filter.1 hi).1
  omega

theorem comm_len (xs : List Tx) (n : Nat) : (commTo xs n).length ≤ n := by
  unfold commTo
  rw [List.length_map]
  have := List.length_filter_le (fun i : Nat => decide (0 < kap xs (i : Int))) (List.range n)
  simpa using this

/-- The address leads to these numbers. -/
def IntsAt (w : World) (ao : Option Addr) (os : List Int) : Prop :=
  0 < os.length → ∃ b, ao = some ⟨b, 0, none⟩ ∧ b < w.heap.size ∧ ∀ i x, os[i]? = some x → w.cell? ⟨b, i, none⟩ = some (.int .i64 x)

theorem IntsAt.below {w w' : World} {ao : Option Addr} {os : List Int} (h : IntsAt w ao os) (hb : Below w.heap.size w w') : IntsAt w' ao os := by
  intro hp
  obtain ⟨b, rfl, hlt, hat⟩ := h hp
  exact ⟨b, rfl, by have := hb.size; omega, fun i x hx => by rw [hb.cell (by exact hlt)]; exact hat i x hx⟩

def intsV (os : List Int) : List Value := os.map fun x => Value.int .i64 x

theorem in_of_own {w0 wr : World} {n : Nat} {v : Value} {os : List Int} (hown : wr.ownsRow w0.heap.size 3 1 v os.length (intsV os)) (hb : Below w0.heap.size w0 wr) (hr : ∀ x ∈ os, 0 ≤ x ∧ x < n) :
    ∃ da cap db, v = .slice da os.length cap ∧ In w0 n db os.length (fun k => os[k]?.getD 0) wr ∧ (0 < os.length → da = some ⟨db, 0, none⟩) := by
  have hrng : ∀ i, i < os.length → 0 ≤ os[i]?.getD 0 ∧ os[i]?.getD 0 < n := by
    intro i hi
    rw [List.getElem?_eq_getElem hi]
    exact hr _ (List.getElem_mem hi)
  rcases hown.2 with ⟨rfl, h0⟩ | ⟨g, cap, cur, rfl, hg, hB, hc, hm, hs, ht⟩
  · refine ⟨none, 0, w0.heap.size, by rw [h0], ⟨hb, Nat.le_refl _, fun h => by omega, hrng⟩, fun h => by omega⟩
  · refine ⟨_, cap, g, rfl, ⟨hb, hg, fun _ => ⟨cur, hB, fun i hi => ?_⟩, hrng⟩, fun _ => rfl⟩
    have e : (intsV os)[i]? = some (.int .i64 (os[i]?.getD 0)) := by
      unfold intsV
      rw [List.getElem?_map, List.getElem?_eq_getElem hi]
      rfl
    rw [← ht, List.getElem?_take_of_lt (by omega)] at e
    simpa using e

def OrderRel (xs : List Tx) (w0 : World) (g : Nat) (v i : Value) (wr : World) : Prop :=
  ∃ n : Nat, i = .int .i64 n ∧ n ≤ xs.length ∧ g = xs.length - n ∧ wr.ownsRow w0.heap.size 3 1 v (commTo xs n).length (intsV (commTo xs n)) ∧ Below w0.heap.size w0 wr

/-- What Order tells. -/
def OrderPost (xs : List Tx) (w : World) (e : Ending) (w' : World) : Prop :=
  ∃ ao cap os, e = .returned (.slice ao os.length cap) ∧ IntsAt w' ao os ∧ os.Perm (commTo xs xs.length) ∧ os.Pairwise (fun i j => kap xs i ≤ kap xs j) ∧ Below w.heap.size w w'

theorem order_post {xs : List Tx} {w w0 w1 : World} {da : Option Addr} {db cap n : Nat} {os : List Int} (hw : Below w.heap.size w w0) (hp : os = commTo xs xs.length) (hda : 0 < os.length → da = some ⟨db, 0, none⟩)
    (h : Sorting w0 n db os.length 0 os.length (fun k => os[k]?.getD 0) (fun d' => Upto (kd xs d') 0 os.length) w1) : OrderPost xs w (.returned (.slice da os.length cap)) w1 := by
  obtain ⟨d', hm, hin, hu⟩ := h
  have hl : ((List.range os.length).map d').length = os.length := by simp
  have hid : (List.range os.length).map (fun k => os[k]?.getD 0) = os := by
    apply List.ext_getElem?
    intro i
    rw [List.getElem?_map]
    by_cases hi : i < os.length
    · rw [List.getElem?_range hi, List.getElem?_eq_getElem hi]
      simp [List.getElem?_eq_getElem hi]
    · rw [List.getElem?_eq_none (by simpa using hi), List.getElem?_eq_none (by omega)]
      rfl
  refine ⟨da, cap, (List.range os.length).map d', by rw [hl], fun h0 => ?_, ?_, ?_, hw.trans (hin.bel.mono hw.size)⟩
  · rw [hl] at h0
    refine ⟨db, hda h0, ?_, fun i x hx => ?_⟩
    · obtain ⟨A, hB, _⟩ := hin.cells h0
      exact hB.lt
    · rw [List.getElem?_map] at hx
      obtain ⟨k, hk, rfl⟩ := Option.map_eq_some_iff.1 hx
      obtain ⟨hk1, hk2⟩ := List.getElem?_eq_some_iff.1 hk
      rw [List.getElem_range] at hk2
      subst hk2
      exact hin.cells.cell (by simpa using hk1)
  · rw [← hp]
    have := hm.perm
    rwa [hid] at this
  · rw [List.pairwise_map]
    rw [List.pairwise_iff_getElem]
    intro i j hi hj hij
    rw [List.getElem_range, List.getElem_range]
    exact hu i j (Nat.zero_le _) hij (by simpa using hj)

set_option maxRecDepth 100000 in
set_option maxHeartbeats 4000000 in
theorem order_calls (ao : Option Addr) (c : Nat) (xs : List Tx) (w : World) (h : RowOf TxAt w ao xs.length xs) (hs : Sized xs) (hok : SortOk (commTo xs xs.length).length) :
    Calls Try.prog 13 #[.slice ao xs.length c] w (OrderPost xs w) := by
  have hmf := @run_makeFunc
  have hlen := hs.len
  have HS := Lib.hid hs
  have H := Lib.hid h
  have Hok := Lib.hid hok
  clear h hs hok
  go_enter Try.func13, Try.ntmps13
  go_wp2_with fail
  obtain ⟨w0, hw0⟩ : ∃ w0, w0 = w.alloc (.cells #[.slice ao xs.length c] 22) := ⟨_, rfl⟩
  rw [← hw0]
  have hs0 : w0.heap.size = w.heap.size + 1 := by rw [hw0]; simp
  have hb0 : Below w.heap.size w w0 := by rw [hw0]; exact new1 _ _
  have hbox : Blk w0 w.heap.size 22 #[.slice ao xs.length c] := by rw [hw0]; exact Blk.new _ _ _
  have X : Ctx w0 ao xs.length c w.heap.size xs := ⟨txs_below H.out hb0, hbox.cell 0⟩
  have HX := Lib.hid X
  have Hb0 := Lib.hid hb0
  have Hw0 := Lib.hid hw0
  have hlt0 : w.heap.size < w0.heap.size := by omega
  have Hs0 := Lib.hid hs0
  clear hw0 hs0 hb0 hbox X
  go_loopg [3, 8] xs.length (fun g v i wr => OrderRel xs w0 g v i wr)
  case atStart => exact ⟨0, rfl, by omega, by omega, World.ownsRow_nil _ _ _ _, Below.refl _ _⟩
  case round =>
    obtain ⟨n, rfl, hn, rfl, hown, hb⟩ := hrel
    obtain ⟨va, vc, rfl⟩ := own_slice hown
    have hsz := hb.size
    by_cases hlt : n < xs.length
    · obtain ⟨b, off, x, rfl, hblt, hx, e0, e1, ⟨ra, rc, e2, h3⟩, wa, wc, e4, h5⟩ := HX.out.row.get hlt
      rw [← hb.cell (by exact hblt)] at e0 e1 e2 e4
      have hlti : (n : Int) < (xs.length : Int) := by omega
      have hkx : kap xs n = x.t := kap_of (by simpa using hx)
      have hcl := comm_len xs n
      by_cases ht : 0 < x.t
      · have Hs := Lib.hid (show commTo xs (n + 1) = commTo xs n ++ [(n : Int)] by rw [comm_snoc, hkx, if_pos ht])
        clear hx h3 h5 hkx
        obtain ⟨i0, hi, hz0, hz1, hz2⟩ := info_parts Try.info3
        go_wp2_with (at_builtin; refine wpList_append_own _ rfl _ _ 35 rfl (w0.heap.size) 3 i0 _ 1 8 Try.underlying35 hi hz0 hz1 hz2 rfl (by decide) _ _ _ rfl ((hown.alloc _).alloc _) ⟨wr.heap.size + 1, 0, none⟩ 1 1 [.int .i64 n] rfl rfl ?c1 ?c2 ?c3 ?c4 ?c5 ?_)
        case c1 =>
          have := cells_new (wr.alloc (.cells #[.int .u64 x.s, .int .u64 x.t, .slice ra x.rs.length rc, .slice wa x.ws.length wc] 34)) 3 [.int .i64 n]
          simpa only [World.size_alloc] using this
        case c2 => intro u hu; simp only [List.mem_singleton] at hu; subst hu; rfl
        case c3 => unfold maxLen; omega
        case c4 => omega
        case c5 => simp; omega
        intro v1 w2 hown1 hg1 _
        have hb2 : Below w0.heap.size w0 w2 := (up1 (up1 hb (Nat.le_refl _) _) (Nat.le_refl _) _).grown hg1 (by simp; omega) (fun k hk => (hown.lt k hk).1)
        have Hb2 := Lib.hid hb2
        have Hown := Lib.hid (show w2.ownsRow w0.heap.size 3 1 v1 (commTo xs (n + 1)).length (intsV (commTo xs (n + 1))) by rw [Hs.out]; simpa [intsV] using hown1)
        clear hg1 hown hown1 hb hb2 hi hz0 hz1 hz2
        go_wp2_with fail
        go_roundg (xs.length - (n + 1))
        case measure => omega
        case rel => exact ⟨n + 1, by go_num, by omega, rfl, Hown.out, Hb2.out⟩
      · have Hs := Lib.hid (show commTo xs (n + 1) = commTo xs n by rw [comm_snoc, hkx, if_neg ht, List.append_nil])
        have Hb2 := Lib.hid (up1 hb (Nat.le_refl _) (.cells #[.int .u64 x.s, .int .u64 x.t, .slice ra x.rs.length rc, .slice wa x.ws.length wc] 34))
        have Hown := Lib.hid (show (wr.alloc (.cells #[.int .u64 x.s, .int .u64 x.t, .slice ra x.rs.length rc, .slice wa x.ws.length wc] 34)).ownsRow w0.heap.size 3 1 _ (commTo xs (n + 1)).length (intsV (commTo xs (n + 1))) by rw [Hs.out]; exact hown.alloc _)
        have Hlen := Lib.hid (congrArg List.length Hs.out)
        clear hx h3 h5 hkx hown hb
        go_wp2_with fail
        go_roundg (xs.length - (n + 1))
        case measure => omega
        case rel => exact ⟨n + 1, by go_num, by omega, rfl, Hown.out, Hb2.out⟩
    · obtain rfl : n = xs.length := by omega
      obtain ⟨da, cap, db, hv, hin, hda⟩ := in_of_own (n := xs.length) hown hb (fun x hx => comm_rng hx)
      simp only [Value.slice.injEq, true_and] at hv
      obtain ⟨rfl, rfl⟩ := hv
      obtain ⟨os, hos⟩ : ∃ os, os = commTo xs xs.length := ⟨_, rfl⟩
      rw [← hos] at hin hda ⊢
      have Hok2 := Hok.out
      rw [← hos] at Hok2
      have Hos := Lib.hid hos
      have Hsort := Lib.hid (sortStable_calls Hok2 HX.out va vc db _ _ hin hda)
      have Hda := Lib.hid hda
      clear hos hin hda hown hb Hok2
      go_wp2_with fail
      refine Hsort.out.mono ?_
      rintro e w2 ⟨rfl, hS⟩
      have Hpost := Lib.hid (order_post (cap := vc) Hb0.out Hos.out Hda.out hS)
      clear hS
      go_wp2_with fail
      go_ret
      exact Hpost.out

end Go.Proofs.Ytghmjconljdapaa
