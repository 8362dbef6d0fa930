/- The walk over Put. -/
import Derived.Test.YtbocdopjikkomaaC
import Derived.Test.YtbocdopjikkomaaL
import Derived.Deep.QuietTactic
import Derived.BigQuiet
import Derived.StillTailTactics
namespace Go.Proofs.Ytbocdopjikkomaa
open Go.RowKit

set_option maxHeartbeats 1000000 in
theorem put_form (tb : Nat) (k : ByteArray) (s : Int) (d : Bool) (v : ByteArray) (ht : Int) (w : World) (hm : mayB k s d v = false) :
    Calls Try.prog 13 #[.pointer (some ⟨tb, 0, none⟩), .agg #[.string k, .int .u64 s, .bool d, .string v], .int .i64 ht] w fun e w' => e = .returned (.int .i64 2) ∧ Below w.heap.size w w' := by
  have Hm := Lib.hid hm
  clear hm
  go_enter Try.func13, Try.ntmps13
  go_wp2_with fail
  refine (may_calls _ _ _ _ _).mono ?_
  rintro e w1 ⟨rfl, hb1⟩
  rw [Hm.out]
  go_wp2_with fail
  go_ret
  exact ⟨rfl, ((Below.refl _ _).alloc (Nat.le_refl _) _).trans (hb1.mono (by simp))⟩

set_option maxHeartbeats 1000000 in
theorem put_arg (tb : Nat) (k : ByteArray) (s : Int) (d : Bool) (v : ByteArray) (ht : Int) (w : World) (hm : mayB k s d v = true) (hh : ht < 1 ∨ 8 < ht) :
    Calls Try.prog 13 #[.pointer (some ⟨tb, 0, none⟩), .agg #[.string k, .int .u64 s, .bool d, .string v], .int .i64 ht] w fun e w' => e = .returned (.int .i64 1) ∧ Below w.heap.size w w' := by
  have Hm := Lib.hid hm
  clear hm
  rcases hh with hh | hh
  · go_enter Try.func13, Try.ntmps13
    go_wp2_with fail
    refine (may_calls _ _ _ _ _).mono ?_
    rintro e w1 ⟨rfl, hb1⟩
    rw [Hm.out]
    go_wp2_with fail
    go_ret
    exact ⟨rfl, ((Below.refl _ _).alloc (Nat.le_refl _) _).trans (hb1.mono (by simp))⟩
  · have h1 : ¬ ht < 1 := by omega
    go_enter Try.func13, Try.ntmps13
    go_wp2_with fail
    refine (may_calls _ _ _ _ _).mono ?_
    rintro e w1 ⟨rfl, hb1⟩
    rw [Hm.out]
    go_wp2_with fail
    go_ret
    exact ⟨rfl, ((Below.refl _ _).alloc (Nat.le_refl _) _).trans (hb1.mono (by simp))⟩

set_option maxHeartbeats 2000000 in
theorem put_twice (tb : Nat) (A C : List Nd) (m : Nd) (k : ByteArray) (s : Int) (d : Bool) (v : ByteArray) (ht : Int) (w : World) (hm : mayB k s d v = true) (hh1 : 1 ≤ ht) (hh2 : ht ≤ 8)
    (h : Tab tb (A ++ m :: C) w) (p : Parts k s A (m :: C)) (hk : m.k.toList = k.toList) (hs : m.s = s) :
    Calls Try.prog 13 #[.pointer (some ⟨tb, 0, none⟩), .agg #[.string k, .int .u64 s, .bool d, .string v], .int .i64 ht] w fun e w' => e = .returned (.int .i64 11) ∧ Below w.heap.size w w' := by
  have Hm := Lib.hid hm
  have Hk := Lib.hid hk
  have Hs := Lib.hid hs
  clear hm hk hs
  go_enter Try.func13, Try.ntmps13
  go_wp2_with fail
  refine (may_calls _ _ _ _ _).mono ?_
  rintro e w1 ⟨rfl, hb1⟩
  rw [Hm.out]
  have hbe : Below w.heap.size w w1 := ((Below.refl _ _).alloc (Nat.le_refl _) _).trans (hb1.mono (by simp))
  have hT1 := h.below hbe
  have hs1 := hb1.size
  simp at hs1
  have hB := (Blk.new w 34 #[.string k, .int .u64 s, .bool d, .string v]).below hb1 (by simp)
  have z0 : w1.cell? ⟨w.heap.size, 0, none⟩ = some (.string k) := hB.cell 0
  have z1 : w1.cell? ⟨w.heap.size, 1, none⟩ = some (.int .u64 s) := hB.cell 1
  clear hb1
  go_wp2_with fail
  refine (seek_parts hT1 p).mono ?_
  rintro e w2 ⟨rfl, hb2⟩
  have hs2 := hb2.size
  have hT2 := hT1.below hb2
  have hbe2 := hbe.trans (hb2.mono (by omega))
  have y0 : w2.cell? ⟨w.heap.size, 0, none⟩ = some (.string k) := by rw [hb2.cell (by simp; omega)]; exact z0
  have y1 : w2.cell? ⟨w.heap.size, 1, none⟩ = some (.int .u64 s) := by rw [hb2.cell (by simp; omega)]; exact z1
  have hcell := hT2.next0 p.posA
  have hlt := hT2.last_lt 0
  rw [nxt0_cons (p.pos m (by simp))] at hcell
  simp only [pv, Option.map_some] at hcell
  obtain ⟨e0, e1, _, _, _⟩ := hT2.entry (n := m) (by simp)
  have hm2 := hT2.nlt (n := m) (by simp)
  have hs3 : w.heap.size < w2.heap.size := by omega
  have hkb : (m.k.toList == k.toList) = true := by rw [Hk.out]; simp
  have hsb : (m.s == s) = true := by rw [Hs.out]; simp
  clear z0 z1 hb2 hT1 hT2 p h hB hbe
  go_wp2_with fail
  go_quiet (fail)
  go_wp2_with fail
  go_ret
  refine ⟨rfl, ?_⟩
  exact below_drewN (hbe2.alloc (by omega) _) _


/-- There is no node of that key and number. -/
def Fresh (k : ByteArray) (s : Int) : List Nd → Prop
  | [] => True
  | m :: _ => ¬ (m.k.toList = k.toList ∧ m.s = s)

/-- Ahead of the new node: what is known. -/
def PutMid (w : World) (tb lb : Nat) (ns A : List Nd) (cs : Array Value) (t : Value) (w' : World) : Prop :=
  t = .bool false ∧ Below w.heap.size w w' ∧ Tab tb ns w' ∧ Blk w' lb 57 (lasts tb A) ∧ Blk w' w.heap.size 34 cs ∧ w.heap.size < lb

/-- Up to level g the new node n is linked, above it isn't. -/
def LinkTo (tb : Nat) (A C : List Nd) (n : Nd) (f : Nat → Nat → Option Nat) (g : Nat) : Prop :=
  ∀ l, l < 8 → (l < g → Lk tb (A ++ n :: C) f l) ∧ (g ≤ l → Lk tb (A ++ C) f l ∧ f n.b l = none)

structure PutHeap (w : World) (tb lb : Nat) (A C : List Nd) (n : Nd) (N S : Int) (cs : Array Value) (g : Nat) (wr : World) : Prop where
  only : Only tb (A ++ C) w wr
  heap : ∃ f, HeapIs tb (n :: (A ++ C)) f N S wr ∧ LinkTo tb A C n f g
  last : Blk wr lb 57 (lasts tb A)
  ent : Blk wr w.heap.size 34 cs
  lt : w.heap.size < lb
  nlt : lb < n.b

/-- What a round reads. -/
theorem PutHeap.reads {w : World} {tb lb : Nat} {A C : List Nd} {n : Nd} {N S : Int} {cs : Array Value} {g : Nat} {wr : World} (h : PutHeap w tb lb A C n N S cs g wr) (hg : g < n.h) (hn : n.h ≤ 8) (ho : (A ++ C).Pairwise fun a b => aheadB a.k a.s b.k b.s = true)
    (hlt : ∀ m ∈ A ++ C, m.b < w.heap.size) (ht : tb < w.heap.size) :
    wr.cell? ⟨lb, g, none⟩ = some (.pointer (some ⟨lastAt tb g A, 0, none⟩)) ∧
    wr.cell? ⟨lastAt tb g A, 5 + g, none⟩ = some (pv (nxt g C)) ∧ wr.frozen? ⟨lastAt tb g A, 5 + g, none⟩ = false ∧
    wr.cell? ⟨n.b, 5 + g, none⟩ = some (.pointer none) ∧ wr.frozen? ⟨n.b, 5 + g, none⟩ = false ∧ lastAt tb g A < w.heap.size := by
  obtain ⟨f, hh, hl⟩ := h.heap
  obtain ⟨hlk, hnone⟩ := (hl g (by omega)).2 (Nat.le_refl _)
  obtain ⟨hk1, hk2⟩ := hlk
  have hnode : Blk wr n.b 59 (nodeCells n (f n.b)) := hh.node n (by simp)
  refine ⟨by rw [h.last.cell, lasts_at _ _ (by omega)], ?_⟩
  obtain ⟨A1, A2, rfl, hA1, hA2⟩ := split_last g A
  rw [lastAt_of hA1 hA2]
  have hn1 : wr.cell? ⟨n.b, 5 + g, none⟩ = some (.pointer none) := by rw [hnode.cell, node_link _ _ (by omega), hnone]; rfl
  rcases List.eq_nil_or_concat A1 with rfl | ⟨A1', a, rfl⟩
  · rw [blkOf_nil]
    refine ⟨?_, hh.head.frozen _, hn1, hnode.frozen _, ht⟩
    rw [hh.head.cell, head_link _ _ _ (by omega), hk1, List.nil_append, nxt_append_low hA2]
  · rw [List.concat_eq_append] at *
    rw [blkOf_snoc]
    have hb : Blk wr a.b 59 (nodeCells a (f a.b)) := hh.node a (by simp)
    refine ⟨?_, hb.frozen _, hn1, hnode.frozen _, hlt a (by simp)⟩
    have e := hk2.at_ A1' a (A2 ++ C) (by simp)
    rw [List.append_nil, if_pos (hA1 a (by simp)), nxt_append_low hA2] at e
    rw [hb.cell, node_link _ _ (by omega), e]

theorem PutHeap.drew {w : World} {tb lb : Nat} {A C : List Nd} {n : Nd} {N S : Int} {cs : Array Value} {g : Nat} {wr : World} (h : PutHeap w tb lb A C n N S cs g wr) : PutHeap w tb lb A C n N S cs g wr.drew := by
  obtain ⟨f, hh, hl⟩ := h.heap
  exact ⟨h.only.drewN 1, ⟨f, ⟨hh.head, hh.node⟩, hl⟩, h.last, h.ent, h.lt, h.nlt⟩

/-- Behind the loop: the table is whole. -/
theorem PutHeap.done {w : World} {tb lb : Nat} {A C : List Nd} {n : Nd} {cs : Array Value} {wr : World} (h : PutHeap w tb lb A C n (A ++ C).length (sizeOf' (A ++ C)) cs n.h wr) :
    Tab tb (A ++ n :: C) ((wr.setCell ⟨tb, 13, none⟩ (.int .i64 ((A ++ n :: C).length : Nat))).setCell ⟨tb, 14, none⟩ (.int .i64 (sizeOf' (A ++ n :: C) : Nat))).drew ∧
      Only tb (A ++ C) w ((wr.setCell ⟨tb, 13, none⟩ (.int .i64 ((A ++ n :: C).length : Nat))).setCell ⟨tb, 14, none⟩ (.int .i64 (sizeOf' (A ++ n :: C) : Nat))).drew := by
  obtain ⟨f, hh, hl⟩ := h.heap
  have h1 := (hh.setN ((A ++ n :: C).length : Nat)).setS (sizeOf' (A ++ n :: C) : Nat)
  refine ⟨⟨f, ⟨h1.head, fun m hm => h1.node m ?_⟩, linked_iff.2 fun l hl8 => ?_⟩, ((h.only.setCell (.inl rfl) _).setCell (.inl rfl) _).drewN 1⟩
  · simp only [List.mem_append, List.mem_cons] at hm ⊢
    rcases hm with hm | hm | hm
    · exact .inr (.inl hm)
    · exact .inl hm
    · exact .inr (.inr hm)
  · by_cases e : l < n.h
    · exact (hl l hl8).1 e
    · obtain ⟨p1, p2⟩ := (hl l hl8).2 (by omega)
      exact p1.skip e p2

theorem size_insert (A C : List Nd) (n : Nd) : sizeOf' (A ++ n :: C) = sizeOf' (A ++ C) + (n.k.size + n.v.size) := by
  simp only [sizeOf', List.map_append, List.map_cons, List.sum_append, List.sum_cons]
  omega

theorem size_le {ns : List Nd} (h : ∀ n ∈ ns, n.k.size + n.v.size ≤ 200) : sizeOf' ns ≤ 200 * ns.length := by
  induction ns with
  | nil => simp [sizeOf']
  | cons n r ih =>
    have h1 := h n (by simp)
    have h2 := ih fun x hx => h x (by simp [hx])
    simp only [sizeOf', List.map_cons, List.sum_cons, List.length_cons] at h2 ⊢
    omega

/-- One round. -/
theorem PutHeap.step {w : World} {tb lb : Nat} {A C : List Nd} {n : Nd} {N S : Int} {cs : Array Value} {g : Nat} {wr : World} (h : PutHeap w tb lb A C n N S cs g wr) (hg : g < n.h) (hn : n.h ≤ 8) (ho : (A ++ C).Pairwise fun a b => aheadB a.k a.s b.k b.s = true)
    (hlt : ∀ m ∈ A ++ C, m.b < w.heap.size) (ht : tb < w.heap.size) :
    PutHeap w tb lb A C n N S cs (g + 1) ((wr.setCell ⟨n.b, 5 + g, none⟩ (pv (nxt g C))).setCell ⟨lastAt tb g A, 5 + g, none⟩ (.pointer (some ⟨n.b, 0, none⟩))).drew := by
  refine PutHeap.drew ?_
  have hlast := (h.reads hg hn ho hlt ht).2.2.2.2.2
  have hl1 := h.lt
  have hl2 := h.nlt
  obtain ⟨f, hh, hl⟩ := h.heap
  have hlk := ((hl g (by omega)).2 (Nat.le_refl _)).1
  have hh' : HeapIs tb (A ++ C) f N S wr := ⟨hh.head, fun m hm => hh.node m (by simp [hm])⟩
  have hd := hh'.dist ho
  refine ⟨?_, ⟨upd (upd f n.b g (nxt g C)) (lastAt tb g A) g (some n.b), ?_, ?_⟩, ?_, ?_, hl1, hl2⟩
  · refine ((h.only).setCell (.inr (.inr (by simp; omega))) _).setCell ?_ _
    unfold lastAt
    rcases List.eq_nil_or_concat (A.filter fun x => decide (g < x.h)) with e | ⟨A', a, e⟩
    · rw [e]; exact .inl rfl
    · rw [e, List.concat_eq_append, blkOf_snoc]
      refine .inr (.inl ⟨a, ?_, rfl⟩)
      have : a ∈ A.filter fun x => decide (g < x.h) := by rw [e]; simp
      simp [(List.mem_filter.1 this).1]
  · have := ((hh).set n.b (l := g) (by omega) (nxt g C)).set (lastAt tb g A) (l := g) (by omega) (some n.b)
    exact this
  · intro l hl8
    by_cases e : l = g
    · subst e
      refine ⟨fun _ => hlk.step hg hd (by omega) (fun m hm => by have := hlt m hm; omega), fun hc => by omega⟩
    · have hf : ∀ b, upd (upd f n.b g (nxt g C)) (lastAt tb g A) g (some n.b) b l = f b l := fun b => by rw [upd_level e, upd_level e]
      refine ⟨fun hlg => ((hl l hl8).1 (by omega)).congr hf, fun hlg => ?_⟩
      obtain ⟨p1, p2⟩ := (hl l hl8).2 (by omega)
      exact ⟨p1.congr hf, (hf _).trans p2⟩
  · exact ((h.last).far (p := ⟨n.b, 5 + g, none⟩) (by simp; omega) _).far (p := ⟨lastAt tb g A, 5 + g, none⟩) (by simp; omega) _
  · refine ((h.ent).far (p := ⟨n.b, 5 + g, none⟩) (by simp; omega) _).far (p := ⟨lastAt tb g A, 5 + g, none⟩) (by simp; omega) _

def PutRel (w : World) (tb lb : Nat) (A C : List Nd) (n : Nd) (N S : Int) (cs : Array Value) (m : Nat) (c : Value) (wr : World) : Prop :=
  ∃ g, m = n.h - g ∧ g ≤ n.h ∧ c = .int .i64 (g : Nat) ∧ PutHeap w tb lb A C n N S cs g wr

def PutPost (w : World) (tb : Nat) (A C : List Nd) (k : ByteArray) (s : Int) (d : Bool) (v : ByteArray) (ht : Nat) (e : Ending) (w' : World) : Prop :=
  e = .returned (.int .i64 0) ∧ ∃ b, w.heap.size ≤ b ∧ Tab tb (A ++ ⟨b, k, s, d, v, ht⟩ :: C) w' ∧ Only tb (A ++ C) w w'

set_option maxRecDepth 100000 in
set_option maxHeartbeats 2000000 in
theorem put_ok (tb : Nat) (A C : List Nd) (k : ByteArray) (s : Int) (d : Bool) (v : ByteArray) (ht : Nat) (w : World) (hm : mayB k s d v = true) (hh1 : 1 ≤ ht) (hh2 : ht ≤ 8)
    (h : Tab tb (A ++ C) w) (hw : Wf (A ++ C)) (p : Parts k s A C) (hf : Fresh k s C) :
    Calls Try.prog 13 #[.pointer (some ⟨tb, 0, none⟩), .agg #[.string k, .int .u64 s, .bool d, .string v], .int .i64 ht] w (PutPost w tb A C k s d v ht) := by
  have Hm := Lib.hid hm
  have Hf := Lib.hid hf
  have Hwf := Lib.hid hw
  have htb := h.lt
  have Hnl0 := Lib.hid (fun m (hm : m ∈ A ++ C) => h.nlt hm)
  clear hw
  have hht1 : 1 ≤ (ht : Int) := by omega
  have hht2 : (ht : Int) ≤ 8 := by omega
  clear hm hf
  go_enter Try.func13, Try.ntmps13
  go_wp2_with fail
  refine (may_calls _ _ _ _ _).mono ?_
  rintro e w1 ⟨rfl, hb1⟩
  rw [Hm.out]
  have hbe : Below w.heap.size w w1 := ((Below.refl _ _).alloc (Nat.le_refl _) _).trans (hb1.mono (by simp))
  have hT1 := h.below hbe
  have hs1 := hb1.size
  simp at hs1
  have hB := (Blk.new w 34 #[.string k, .int .u64 s, .bool d, .string v]).below hb1 (by simp)
  have z0 : w1.cell? ⟨w.heap.size, 0, none⟩ = some (.string k) := hB.cell 0
  have z1 : w1.cell? ⟨w.heap.size, 1, none⟩ = some (.int .u64 s) := hB.cell 1
  go_wp2_with fail
  refine (seek_parts hT1 p).mono ?_
  rintro e w2 ⟨rfl, hb2⟩
  have hs2 := hb2.size
  have hT2 := hT1.below hb2
  have hbe2 := hbe.trans (hb2.mono (by omega))
  have hB2 := hB.below hb2 (by omega)
  have y0 : w2.cell? ⟨w.heap.size, 0, none⟩ = some (.string k) := hB2.cell 0
  have y1 : w2.cell? ⟨w.heap.size, 1, none⟩ = some (.int .u64 s) := hB2.cell 1
  have hcell := hT2.next0 p.posA
  have hlt := hT2.last_lt 0
  have hs3 : w.heap.size < w2.heap.size := by omega
  have hs4 : w.heap.size ≤ w2.heap.size := by omega
  have HT2 := Lib.hid hT2
  have Hp := Lib.hid p
  have HB2 := Lib.hid hB2
  have Hbe2 := Lib.hid hbe2
  have hmid : ∀ nq : Nat, PutMid w tb w2.heap.size (A ++ C) A #[.string k, .int .u64 s, .bool d, .string v] (.bool false) ((w2.alloc (.cells (lasts tb A) 57)).drewN nq) := by
    intro nq
    have hbl : Below w2.heap.size w2 ((w2.alloc (.cells (lasts tb A) 57)).drewN nq) := below_drewN ((Below.refl _ _).alloc (Nat.le_refl _) _) nq
    exact ⟨rfl, hbe2.trans (hbl.mono hs4), hT2.below hbl, (Blk.new w2 57 (lasts tb A)).drewN nq, hB2.below hbl hs3, hs3⟩
  have Hmid := Lib.hid hmid
  unfold pv at hcell
  clear z0 z1 hb2 hT1 hT2 p h hB hbe hb1 hB2 hbe2 hmid
  go_upto_region 7 with fail
  go_cut [9, 59] (fun _ t w' => PutMid w tb w2.heap.size (A ++ C) A #[.string k, .int .u64 s, .bool d, .string v] t w')
  case first =>
    have hC : (nxt 0 C = none) ∨ ∃ m C', C = m :: C' ∧ nxt 0 C = some m.b := by
      cases C with
      | nil => exact .inl rfl
      | cons m C' => exact .inr ⟨m, C', rfl, nxt0_cons (Hp.out.pos m (by simp))⟩
    rcases hC with e | ⟨m, C', hmC, e⟩
    · rw [e]
      simp only [Option.map_none]
      clear e hcell
      go_quiet (fail)
      go_wp2_with fail
      go_meet
      case rel => exact Hmid.out _
    · rw [e]
      simp only [Option.map_some]
      clear e hcell
      obtain ⟨e0, e1, _, _, _⟩ := HT2.out.entry (n := m) (by rw [hmC]; simp)
      have hm2 := HT2.out.nlt (n := m) (by rw [hmC]; simp)
      have hfr : ¬ (m.k.toList = k.toList ∧ m.s = s) := by have := Hf.out; rw [hmC] at this; exact this
      clear hmC
      by_cases hk : m.k.toList = k.toList
      · have hkb : (m.k.toList == k.toList) = true := by rw [hk]; simp
        have hsb : (m.s == s) = false := by
          cases e : m.s == s with
          | false => rfl
          | true => exact absurd ⟨hk, by simpa using e⟩ hfr
        clear hk hfr
        go_quiet (fail)
        go_wp2_with fail
        go_meet
        case rel => exact Hmid.out _
      · have hkb : (m.k.toList == k.toList) = false := by simpa using hk
        clear hk hfr
        go_quiet (fail)
        go_wp2_with fail
        go_meet
        case rel => exact Hmid.out _
  case rest =>
    obtain ⟨rfl, hbc, hTc, hlc, hec, hlw⟩ := hcut
    have y0 : wc.cell? ⟨w.heap.size, 0, none⟩ = some (.string k) := hec.cell 0
    have y1 : wc.cell? ⟨w.heap.size, 1, none⟩ = some (.int .u64 s) := hec.cell 1
    have y2 : wc.cell? ⟨w.heap.size, 2, none⟩ = some (.bool d) := hec.cell 2
    have y3 : wc.cell? ⟨w.heap.size, 3, none⟩ = some (.string v) := hec.cell 3
    have hcs := hbc.size
    have HBc := Lib.hid hbc
    have HTc := Lib.hid hTc
    have Hlc := Lib.hid hlc
    have Hec := Lib.hid hec
    clear hcell hbc hTc hlc hec
    go_wp2_with fail
    go_loopg [65] ht (fun m c wr => PutRel w tb w2.heap.size A C ⟨wc.heap.size, k, s, d, v, ht⟩ (A ++ C).length (sizeOf' (A ++ C)) #[.string k, .int .u64 s, .bool d, .string v] m c wr)
    case atStart =>
      refine ⟨0, rfl, Nat.zero_le _, rfl, ?_⟩
      obtain ⟨f, hh, hl⟩ := HTc.out
      have hlk := linked_iff.1 hl
      refine ⟨(Only.of_below HBc.out).alloc _, ⟨upd' f wc.heap.size, ⟨?_, ?_⟩, ?_⟩, Hlc.out.alloc _, Hec.out.alloc _, hlw, Hlc.out.lt⟩
      · have hne : tb ≠ wc.heap.size := by have := hh.head.lt; omega
        rw [upd'_far f hne]
        exact hh.head.alloc _
      · intro m hm
        rcases List.mem_cons.1 hm with rfl | hm
        · rw [upd'_same]
          exact Blk.new _ _ _
        · have hne : m.b ≠ wc.heap.size := by have := (hh.node m hm).lt; omega
          rw [upd'_far f hne]
          exact (hh.node m hm).alloc _
      · intro l hl8
        refine ⟨fun hc => by omega, fun _ => ⟨?_, ?_⟩⟩
        · obtain ⟨q1, q2⟩ := hlk l hl8
          refine ⟨?_, Ch.congr (fun m hm => ?_) q2⟩
          · have hne : tb ≠ wc.heap.size := by have := hh.head.lt; omega
            rw [upd'_far f hne]; exact q1
          · have hne : m.b ≠ wc.heap.size := by have := (hh.node m hm).lt; omega
            rw [upd'_far f hne]
        · show upd' f wc.heap.size wc.heap.size l = none
          rw [upd'_same]
    case round =>
      obtain ⟨g, hgk, hgn, rfl, hP⟩ := hrel
      dsimp only at hgn hgk
      have Hord := Hwf.out.order
      have hnl : ∀ m ∈ A ++ C, m.b < w.heap.size := Hnl0.out
      by_cases hlt : g < ht
      · obtain ⟨c1, c2, c3, c4, c5, c6⟩ := hP.reads hlt hh2 Hord hnl htb
        have HP := Lib.hid hP
        have Hnl := Lib.hid hnl
        have HO := Lib.hid Hord
        have hne1 : ¬ lastAt tb g A = wc.heap.size := by omega
        have hne2 : ¬ wc.heap.size = lastAt tb g A := by omega
        unfold pv at c2
        have hg8 : g < 8 := by omega
        have hg8i : (g : Int) < 8 := by omega
        clear hP hnl Hord
        as_aux_lemma =>
          go_wp2_with fail
          go_still_tail 13, (by kernel_rfl)
          go_wp2_with fail
          go_roundg (ht - (g + 1))
          case measure => omega
          case rel => exact ⟨g + 1, rfl, by show g + 1 ≤ ht; omega, rfl, HP.out.step hlt hh2 HO.out Hnl.out htb⟩
      · have hge : ht = g := by omega
        have hd13 : wr.cell? ⟨tb, 13, none⟩ = some (.int .i64 (A ++ C).length) := hP.heap.choose_spec.1.head.cell 13
        have hd14 : wr.cell? ⟨tb, 14, none⟩ = some (.int .i64 (sizeOf' (A ++ C))) := hP.heap.choose_spec.1.head.cell 14
        have hdf := hP.heap.choose_spec.1.head.frozen
        have he0 : wr.cell? ⟨w.heap.size, 0, none⟩ = some (.string k) := hP.ent.cell 0
        have he3 : wr.cell? ⟨w.heap.size, 3, none⟩ = some (.string v) := hP.ent.cell 3
        have hl0 : (A ++ C).length ≤ 100000 := Hwf.out.len
        have hsz0 : sizeOf' (A ++ C) ≤ 20000000 := by
          have := size_le (ns := A ++ C) fun n hn => by
            have := may_parts (Hwf.out.may n hn)
            omega
          omega
        have hk0 := (may_parts Hm.out).2.1
        have hv0 := (may_parts Hm.out).2.2.1
        have HP := Lib.hid hP
        have Hge := Lib.hid hge
        have hne1 : ¬ tb = w.heap.size := by omega
        have hne2 : ¬ w.heap.size = tb := by omega
        generalize hLL : (A ++ C).length = LL at hd13 hl0
        generalize hSS : sizeOf' (A ++ C) = SS at hd14 hsz0
        have HLL := Lib.hid hLL
        have HSS := Lib.hid hSS
        clear hP hnl Hord hge hLL hSS
        as_aux_lemma =>
          go_wp2_with fail
          generalize hwq : wr.setCell ⟨tb, 13, none⟩ (.int .i64 ((LL : Int) + 1)) = wq
          have q14 : wq.cell? ⟨tb, 14, none⟩ = some (.int .i64 SS) := by rw [← hwq, World.cell?_setCell_other _ _ _ _ (by simp)]; exact hd14
          have q0 : wq.cell? ⟨w.heap.size, 0, none⟩ = some (.string k) := by rw [← hwq, World.cell?_setCell_other _ _ _ _ (by simp)]; exact he0
          have q3 : wq.cell? ⟨w.heap.size, 3, none⟩ = some (.string v) := by rw [← hwq, World.cell?_setCell_other _ _ _ _ (by simp)]; exact he3
          have qf : wq.frozen? ⟨tb, 14, none⟩ = false := by
            have := (HP.out.heap.choose_spec.1.setN ((LL : Int) + 1)).head.frozen 14
            rwa [hwq] at this
          have Hwq := Lib.hid hwq
          clear hwq hd13 hd14 hdf he0 he3
          go_still_tail 14, (by kernel_rfl)
          go_wp2_with fail
          go_ret
          have hfin := HP.out
          rw [← Hge.out] at hfin
          have hd := PutHeap.done (n := ⟨wc.heap.size, k, s, d, v, ht⟩) hfin
          have e1 : (((A ++ (⟨wc.heap.size, k, s, d, v, ht⟩ : Nd) :: C).length : Nat) : Int) = (LL : Int) + 1 := by
            rw [← HLL.out]; simp; omega
          have e2 : ((sizeOf' (A ++ (⟨wc.heap.size, k, s, d, v, ht⟩ : Nd) :: C) : Nat) : Int) = (SS : Int) + ((k.size : Int) + (v.size : Int)) := by
            rw [size_insert, ← HSS.out]; simp
          rw [e1, e2, Hwq.out] at hd
          exact ⟨rfl, wc.heap.size, hcs, hd.1, hd.2⟩

end Go.Proofs.Ytbocdopjikkomaa
