/- The walks over the functions of package mem that hand back lists. -/
import Derived.Test.YtbocdopjikkomaaB
namespace Go.Proofs.Ytbocdopjikkomaa
open Go.RowKit

theorem Try.info34 : (Try.prog.info? 34).map (fun i => (i.zero, i.size, i.bytes)) = some (some (.agg #[.string { data := #[] }, .int .u64 0, .bool false, .string { data := #[] }]), 4, 48) := by kernel_rfl
theorem Try.info3 : (Try.prog.info? 3).map (fun i => (i.zero, i.size, i.bytes)) = some (some (.int .i64 0), 1, 8) := by kernel_rfl

/-- An entry's cells. -/
def entC (n : Nd) : List Value := [.string n.k, .int .u64 n.s, .bool n.d, .string n.v]

def entsC (ns : List Nd) : List Value := ns.flatMap entC

theorem entC_one (n : Nd) : ∀ u ∈ entC n, u.oneCell' = true := by
  intro u hu
  simp only [entC, List.mem_cons, List.not_mem_nil, or_false] at hu
  rcases hu with rfl | rfl | rfl | rfl <;> rfl

/-- A slice that the call owns: entries. -/
def FromPost (w : World) (ns : List Nd) (e : Ending) (w' : World) : Prop :=
  ∃ v, e = .returned v ∧ w'.ownsRow w.heap.size 34 4 v ns.length (entsC ns) ∧ Below w.heap.size w w'

def FromRel (w : World) (C : List Nd) (n : Int) (g : Nat) (l y : Value) (wr : World) : Prop :=
  ∃ D R, C = D ++ R ∧ R.length ≤ g ∧ (D.length : Int) ≤ max n 0 ∧ y = pv (nxt 0 R) ∧ wr.ownsRow w.heap.size 34 4 l D.length (entsC D) ∧ Below w.heap.size w wr

set_option maxHeartbeats 1000000 in
theorem from_calls (tb : Nat) (A C : List Nd) (key : ByteArray) (n : Int) (w : World) (h : Tab tb (A ++ C) w) (p : Parts key 18446744073709551615 A C) (hC : C.length ≤ 100000) :
    Calls Try.prog 25 #[.pointer (some ⟨tb, 0, none⟩), .string key, .int .i64 n] w (FromPost w (C.take n.toNat)) := by
  have h0 := h.next0 p.posA
  have hpos := p.pos
  go_enter Try.func25, Try.ntmps25
  go_wp2_with fail
  refine (seek_parts h p).mono ?_
  rintro e w1 ⟨rfl, hb1⟩
  have hs1 := hb1.size
  have hlt1 : lastAt tb 0 A < w1.heap.size := by have := h.last_lt 0; omega
  have hcell : w1.cell? ⟨lastAt tb 0 A, 5, none⟩ = some (pv (nxt 0 C)) := by rw [hb1.cell (by exact h.last_lt 0)]; exact h0
  have H := Lib.hid h
  have Hp := Lib.hid hpos
  clear h h0 p hpos
  unfold pv at hcell
  go_wp2_with fail
  go_loopg [7, 10] C.length (fun g l y wr => FromRel w C n g l y wr)
  case atStart =>
    exact ⟨[], C, rfl, Nat.le_refl _, by simp; omega, rfl, World.ownsRow_nil _ _ _ _, hb1.alloc hs1 _⟩
  case round =>
    obtain ⟨D, R, hDR, hg, hn, rfl, hown, hb⟩ := hrel
    obtain ⟨ao, cap, rfl⟩ := own_slice hown
    have hs := hb.size
    have hT : Tab tb (A ++ C) wr := H.out.below hb
    cases R with
    | nil =>
      have HD := Lib.hid hDR
      clear hDR
      unfold pv
      rw [nxt0_nil]
      simp only [Option.map_none]
      go_wp2_with fail
      go_ret
      have e1 : C.take n.toNat = D := by
        rw [HD.out, List.append_nil, List.take_of_length_le (by omega)]
      rw [e1]
      exact ⟨_, rfl, hown, hb⟩
    | cons m R =>
      have hm := Hp.out m (by rw [hDR]; simp)
      unfold pv
      rw [nxt0_cons hm]
      simp only [Option.map_some]
      have hcellw : ∀ w2 : World, Below w.heap.size w w2 → w2.cell? ⟨m.b, 5, none⟩ = some (pv (nxt 0 R)) := by
        intro w2 hb2
        have hT' : Tab tb ((A ++ D ++ [m]) ++ R) w2 := by
          have := H.out.below hb2
          rw [hDR] at this
          simpa using this
        have := hT'.next rfl (l := 0) (fun a ha => by rw [List.getLast?_concat] at ha; cases ha; exact hm) (by omega)
        rwa [blkOf_snoc] at this
      have Hcell := Lib.hid hcellw
      clear hcellw
      obtain ⟨e0, e1, e2, e3, _⟩ := hT.entry (n := m) (by rw [hDR]; simp)
      have hml := hT.nlt (n := m) (by rw [hDR]; simp)
      have hlen : D.length + R.length + 1 ≤ 100000 := by rw [hDR] at hC; simp at hC; omega
      have HD := Lib.hid hDR
      clear hDR
      by_cases hlt : (D.length : Int) < n
      · obtain ⟨i0, hi, hz0, hz1, hz2⟩ := info_parts Try.info34
        go_wp2_with (at_builtin; refine wpList_append_own _ rfl _ _ 28 rfl (w.heap.size) 34 i0 _ 4 48 Try.underlying28 hi hz0 hz1 hz2 rfl (by decide) _ _ _ rfl (hown.alloc _) ⟨wr.heap.size, 0, none⟩ 1 1 (entC m) rfl rfl ?c1 (entC_one m) ?c3 ?c4 ?c5 ?_)
        case c1 => exact cells_new wr 34 (entC m)
        case c3 => unfold maxLen; omega
        case c4 => omega
        case c5 => simp; omega
        intro v1 w2 hown1 hg1 _
        have hb2 : Below w.heap.size w w2 := (hb.alloc hs _).grown hg1 (by simp; omega) (fun k hk => (hown.lt k hk).1)
        have hcell2 := Hcell.out w2 hb2
        unfold pv at hcell2
        clear hg1 hown e0 e1 e2 e3 hT
        go_wp2_with fail
        go_roundg R.length
        case measure => rw [List.length_cons] at hg; omega
        case rel => exact ⟨D ++ [m], R, by rw [HD.out]; simp, Nat.le_refl _, by simp; omega, rfl, by simpa [entsC] using hown1, hb2⟩
      · clear e0 e1 e2 e3 hT
        go_wp2_with fail
        go_ret
        have e1 : C.take n.toNat = D := by
          rw [HD.out, List.take_append_of_le_length (by omega), List.take_of_length_le (by omega)]
        rw [e1]
        exact ⟨_, rfl, hown, hb⟩


theorem from_wf (tb : Nat) (ns : List Nd) (key : ByteArray) (n : Int) (w : World) (h : Tab tb ns w) (hw : Wf ns) :
    Calls Try.prog 25 #[.pointer (some ⟨tb, 0, none⟩), .string key, .int .i64 n] w (FromPost w ((postOf key 18446744073709551615 ns).take n.toNat)) :=
  from_calls tb (preOf key 18446744073709551615 ns) (postOf key 18446744073709551615 ns) key n w (by rw [pre_post]; exact h) (hw.parts _ _) (by
    have := congrArg List.length (pre_post key 18446744073709551615 ns)
    rw [List.length_append] at this
    have := hw.len
    omega)

theorem from_all (tb : Nat) (ns : List Nd) (w : World) (h : Tab tb ns w) (hw : Wf ns) :
    Calls Try.prog 25 #[.pointer (some ⟨tb, 0, none⟩), .string { data := #[] }, .int .i64 ns.length] w (FromPost w ns) := by
  have h1 := from_wf tb ns { data := #[] } ns.length w h hw
  rw [(post_all hw (Go.ByteArray.toList_mk []) (by omega)).2, Int.toNat_natCast, List.take_of_length_le (Nat.le_refl _)] at h1
  exact h1

set_option maxHeartbeats 400000 in
theorem all_calls (tb : Nat) (ns : List Nd) (w : World) (h : Tab tb ns w) (hw : Wf ns) :
    Calls Try.prog 24 #[.pointer (some ⟨tb, 0, none⟩)] w (FromPost w ns) := by
  have H := Lib.hid h
  have Hw := Lib.hid hw
  obtain ⟨f, hh, _⟩ := h
  have c := hh.head.cell 13
  simp only [headCells, List.getElem?_toArray, List.getElem?_cons_zero, List.getElem?_cons_succ] at c
  clear hh hw
  go_enter Try.func24, Try.ntmps24
  go_wp2_with fail
  refine (from_all tb ns w H.out Hw.out).mono ?_
  rintro e w1 ⟨v, rfl, hown, hb⟩
  clear c
  go_wp2_with fail
  go_ret
  exact ⟨v, rfl, hown, hb⟩

theorem steps_wf (tb : Nat) (ns : List Nd) (key : ByteArray) (seq : Int) (w : World) (h : Tab tb ns w) (hw : Wf ns) :
    Calls Try.prog 20 #[.pointer (some ⟨tb, 0, none⟩), .string key, .int .u64 seq] w fun e w' => e = .returned (.int .i64 (visL 0 (preOf key seq ns))) ∧ Below w.heap.size w w' :=
  steps_calls tb (preOf key seq ns) (postOf key seq ns) key seq w (by rw [pre_post]; exact h) (hw.parts _ _)

theorem get_wf (tb : Nat) (ns : List Nd) (key : ByteArray) (seq : Int) (w : World) (h : Tab tb ns w) (hw : Wf ns) :
    Calls Try.prog 15 #[.pointer (some ⟨tb, 0, none⟩), .string key, .int .u64 seq] w (GetPost w (gotOf key (postOf key seq ns))) :=
  get_calls tb (preOf key seq ns) (postOf key seq ns) key seq w (by rw [pre_post]; exact h) (hw.parts _ _)

def hs (ns : List Nd) : List Value := ns.map fun n => .int .i64 n.h

def TowersPost (w : World) (ns : List Nd) (e : Ending) (w' : World) : Prop :=
  ∃ v, e = .returned v ∧ w'.ownsRow w.heap.size 3 1 v ns.length (hs ns) ∧ Below w.heap.size w w'

def TowersRel (w : World) (C : List Nd) (g : Nat) (l y : Value) (wr : World) : Prop :=
  ∃ D R, C = D ++ R ∧ R.length ≤ g ∧ y = pv (nxt 0 R) ∧ wr.ownsRow w.heap.size 3 1 l D.length (hs D) ∧ Below w.heap.size w wr

set_option maxHeartbeats 1000000 in
theorem towers_calls (tb : Nat) (ns : List Nd) (w : World) (h : Tab tb ns w) (hw : Wf ns) :
    Calls Try.prog 22 #[.pointer (some ⟨tb, 0, none⟩)] w (TowersPost w ns) := by
  have hcell : w.cell? ⟨tb, 5, none⟩ = some (pv (nxt 0 ns)) := h.next (A := []) rfl (by simp) (l := 0) (by omega)
  have H := Lib.hid h
  have Hp := Lib.hid (fun n hn => (hw.low n hn).1)
  have hl := hw.len
  clear h hw
  unfold pv at hcell
  go_enter Try.func22, Try.ntmps22
  go_wp2_with fail
  go_loopg [3, 4] ns.length (fun g l y wr => TowersRel w ns g l y wr)
  case atStart =>
    exact ⟨[], ns, rfl, Nat.le_refl _, rfl, World.ownsRow_nil _ _ _ _, Below.refl _ _⟩
  case round =>
    obtain ⟨D, R, hDR, hg, rfl, hown, hb⟩ := hrel
    obtain ⟨ao, cap, rfl⟩ := own_slice hown
    have hs := hb.size
    have hT : Tab tb ns wr := H.out.below hb
    cases R with
    | nil =>
      have HD := Lib.hid hDR
      clear hDR
      unfold pv
      rw [nxt0_nil]
      simp only [Option.map_none]
      go_wp2_with fail
      go_ret
      have e1 : ns = D := by rw [HD.out, List.append_nil]
      rw [e1]
      exact ⟨_, rfl, hown, hb⟩
    | cons m R =>
      have hm : 0 < m.h := Hp.out m (by rw [hDR]; simp)
      unfold pv
      rw [nxt0_cons hm]
      simp only [Option.map_some]
      have hcellw : ∀ w2 : World, Below w.heap.size w w2 → w2.cell? ⟨m.b, 5, none⟩ = some (pv (nxt 0 R)) := by
        intro w2 hb2
        have hT' : Tab tb ((D ++ [m]) ++ R) w2 := by
          have := H.out.below hb2
          rw [hDR] at this
          simpa using this
        have := hT'.next rfl (l := 0) (fun a ha => by rw [List.getLast?_concat] at ha; cases ha; exact hm) (by omega)
        rwa [blkOf_snoc] at this
      have Hcell := Lib.hid hcellw
      clear hcellw
      obtain ⟨_, _, _, _, e4⟩ := hT.entry (n := m) (by rw [hDR]; simp)
      have hml := hT.nlt (n := m) (by rw [hDR]; simp)
      have hlen : D.length + R.length + 1 ≤ 100000 := by rw [hDR] at hl; simp at hl; omega
      have HD := Lib.hid hDR
      clear hDR
      obtain ⟨i0, hi, hz0, hz1, hz2⟩ := info_parts Try.info3
      go_wp2_with (at_builtin; refine wpList_append_own _ rfl _ _ 29 rfl (w.heap.size) 3 i0 _ 1 8 Try.underlying29 hi hz0 hz1 hz2 rfl (by decide) _ _ _ rfl (hown.alloc _) ⟨wr.heap.size, 0, none⟩ 1 1 [.int .i64 m.h] rfl rfl ?c1 ?c2 ?c3 ?c4 ?c5 ?_)
      case c1 => exact cells_new wr 3 [.int .i64 m.h]
      case c2 => intro u hu; simp only [List.mem_singleton] at hu; subst hu; rfl
      case c3 => unfold maxLen; omega
      case c4 => omega
      case c5 => simp; omega
      intro v1 w2 hown1 hg1 _
      have hb2 : Below w.heap.size w w2 := (hb.alloc hs _).grown hg1 (by simp; omega) (fun k hk => (hown.lt k hk).1)
      have hcell2 := Hcell.out w2 hb2
      unfold pv at hcell2
      clear hg1 hown hT
      go_wp2_with fail
      go_roundg R.length
      case measure => rw [List.length_cons] at hg; omega
      case rel => exact ⟨D ++ [m], R, by rw [HD.out]; simp, Nat.le_refl _, rfl, by simpa [Go.Proofs.Ytbocdopjikkomaa.hs] using hown1, hb2⟩

end Go.Proofs.Ytbocdopjikkomaa
