/- The walks over the readers of package mem. -/
import Derived.Test.YtbocdopjikkomaaA
import Derived.Test.YtbocdopjikkomaaO
namespace Go.Proofs.Ytbocdopjikkomaa
open Go.RowKit

set_option maxHeartbeats 400000 in
theorem may_calls (k : ByteArray) (s : Int) (d : Bool) (v : ByteArray) (w : World) :
    Calls Try.prog 29 #[.agg #[.string k, .int .u64 s, .bool d, .string v]] w fun e w' => e = .returned (.bool (mayB k s d v)) ∧ Below w.heap.size w w' := by
  go_enter Try.func29, Try.ntmps29
  go_wp2
  all_goals go_ret
  all_goals refine ⟨?_, (Below.refl _ _).alloc (Nat.le_refl _) _⟩
  all_goals (first | (simp_all [mayB]; done) | (simp_all [mayB]; intros; omega))

set_option maxHeartbeats 400000 in
theorem large_calls (k : ByteArray) (s : Int) (d : Bool) (v : ByteArray) (w : World) :
    Calls Try.prog 12 #[.agg #[.string k, .int .u64 s, .bool d, .string v]] w fun e w' => e = .returned (.bool (largeB k v)) ∧ Below w.heap.size w w' := by
  go_enter Try.func12, Try.ntmps12
  go_wp2
  all_goals go_ret
  all_goals refine ⟨?_, (Below.refl _ _).alloc (Nat.le_refl _) _⟩
  all_goals (first | (simp_all [largeB]; done) | (simp_all [largeB]; omega))

set_option maxHeartbeats 400000 in
theorem new_calls (w : World) :
    Calls Try.prog 11 #[] w fun e w' => e = .returned (.pointer (some ⟨w.heap.size, 0, none⟩)) ∧ Tab w.heap.size [] w' ∧ Below w.heap.size w w' := by
  go_enter Try.func11, Try.ntmps11
  go_wp2
  all_goals go_ret
  refine ⟨rfl, ⟨fun _ _ => none, ⟨Blk.new _ _ _, by simp⟩, fun l _ => ⟨rfl, fun A n B hs => by simp at hs⟩⟩, (Below.refl _ _).alloc (Nat.le_refl _) _⟩

set_option maxHeartbeats 400000 in
theorem len_calls (tb : Nat) (ns : List Nd) (w : World) (h : Tab tb ns w) :
    Calls Try.prog 17 #[.pointer (some ⟨tb, 0, none⟩)] w fun e w' => e = .returned (.int .i64 ns.length) ∧ w = w' := by
  obtain ⟨f, hh, _⟩ := h
  have c := hh.head.cell 13
  simp only [headCells, List.getElem?_toArray, List.getElem?_cons_zero, List.getElem?_cons_succ] at c
  clear hh
  go_enter Try.func17, Try.ntmps17
  go_wp2
  go_ret
  exact ⟨rfl, rfl⟩

set_option maxHeartbeats 400000 in
theorem size_calls (tb : Nat) (ns : List Nd) (w : World) (h : Tab tb ns w) :
    Calls Try.prog 18 #[.pointer (some ⟨tb, 0, none⟩)] w fun e w' => e = .returned (.int .i64 (sizeOf' ns)) ∧ w = w' := by
  obtain ⟨f, hh, _⟩ := h
  have c := hh.head.cell 14
  simp only [headCells, List.getElem?_toArray, List.getElem?_cons_zero, List.getElem?_cons_succ] at c
  clear hh
  go_enter Try.func18, Try.ntmps18
  go_wp2
  go_ret
  exact ⟨rfl, rfl⟩

theorem seek_parts {tb : Nat} {A C : List Nd} {key : ByteArray} {seq : Int} {w : World} (h : Tab tb (A ++ C) w) (p : Parts key seq A C) :
    Calls Try.prog 30 #[.pointer (some ⟨tb, 0, none⟩), .string key, .int .u64 seq] w (SeekPost tb A w) :=
  seek_calls tb A C key seq w h p.low p.len p.ahd p.beh

set_option maxHeartbeats 400000 in
theorem steps_calls (tb : Nat) (A C : List Nd) (key : ByteArray) (seq : Int) (w : World) (h : Tab tb (A ++ C) w) (p : Parts key seq A C) :
    Calls Try.prog 20 #[.pointer (some ⟨tb, 0, none⟩), .string key, .int .u64 seq] w fun e w' => e = .returned (.int .i64 (visL 0 A)) ∧ Below w.heap.size w w' := by
  go_enter Try.func20, Try.ntmps20
  go_wp2_with fail
  refine (seek_parts h p).mono ?_
  rintro e w1 ⟨rfl, hb1⟩
  have hs1 := hb1.size
  go_wp2_with fail
  go_ret
  exact ⟨rfl, hb1.alloc hs1 _⟩

theorem nxt0_nil : nxt 0 [] = none := rfl
theorem nxt0_cons {n : Nd} {C : List Nd} (h : 0 < n.h) : nxt 0 (n :: C) = some n.b := nxt_cons_hit h

/-- The cell in which the first node behind A stands. -/
theorem Tab.next0 {tb : Nat} {A C : List Nd} {w : World} (h : Tab tb (A ++ C) w) (hA : ∀ n ∈ A, 0 < n.h) :
    w.cell? ⟨lastAt tb 0 A, 5, none⟩ = some (pv (nxt 0 C)) := by
  have h0 : lastAt tb 0 A = blkOf tb A := by
    have := lastAt_of (tb := tb) (l := 0) (A := A) (B := []) (fun a ha => hA a (List.mem_of_getLast? ha)) (by simp)
    rwa [List.append_nil] at this
  rw [h0]
  exact h.next rfl (fun a ha => hA a (List.mem_of_getLast? ha)) (l := 0) (by omega)

theorem Tab.last_lt {tb : Nat} {A C : List Nd} {w : World} (h : Tab tb (A ++ C) w) (l : Nat) : lastAt tb l A < w.heap.size := by
  unfold lastAt
  rcases List.eq_nil_or_concat (A.filter fun n => decide (l < n.h)) with e | ⟨A', a, e⟩
  · rw [e]; exact h.lt
  · rw [e, List.concat_eq_append, blkOf_snoc]
    refine h.nlt ?_
    have : a ∈ A.filter fun n => decide (l < n.h) := by rw [e]; simp
    have := (List.mem_filter.1 this).1
    simp [this]

def GetPost (w : World) (o : Option Nd) (e : Ending) (w' : World) : Prop :=
  (match o with
    | none => e = .returned (.tuple #[.agg #[.string { data := #[] }, .int .u64 0, .bool false, .string { data := #[] }], .bool false])
    | some m => e = .returned (.tuple #[.agg #[.string m.k, .int .u64 m.s, .bool m.d, .string m.v], .bool true])) ∧ Below w.heap.size w w'

/-- What is got: the first node behind those that are ahead, if it is of that key. -/
def gotOf (key : ByteArray) : List Nd → Option Nd
  | [] => none
  | m :: _ => if m.k.toList = key.toList then some m else none

theorem gotOf_yes {key : ByteArray} {m : Nd} {C : List Nd} (h : m.k.toList = key.toList) : gotOf key (m :: C) = some m := by simp [gotOf, h]
theorem gotOf_no {key : ByteArray} {m : Nd} {C : List Nd} (h : ¬ m.k.toList = key.toList) : gotOf key (m :: C) = none := by simp [gotOf, h]

set_option maxHeartbeats 1000000 in
theorem get_calls (tb : Nat) (A C : List Nd) (key : ByteArray) (seq : Int) (w : World) (h : Tab tb (A ++ C) w) (p : Parts key seq A C) :
    Calls Try.prog 15 #[.pointer (some ⟨tb, 0, none⟩), .string key, .int .u64 seq] w (GetPost w (gotOf key C)) := by
  go_enter Try.func15, Try.ntmps15
  go_wp2_with fail
  refine (seek_parts (h.below ((Below.refl _ _).alloc (Nat.le_refl _) _)) p).mono ?_
  rintro e w1 ⟨rfl, hb1⟩
  have hs1 := hb1.size
  simp at hs1
  have hT1 : Tab tb (A ++ C) w1 := (h.below ((Below.refl _ _).alloc (Nat.le_refl _) _)).below hb1
  have hlt1 := hT1.last_lt 0
  have hs2 : w.heap.size < w1.heap.size := by omega
  have hcell := hT1.next0 p.posA
  have hB := (Blk.new w 34 #[Value.string { data := #[] }, Value.int IntKind.u64 0, Value.bool false, Value.string { data := #[] }]).below hb1 (by simp)
  have z0 : w1.cell? ⟨w.heap.size, 0, none⟩ = some (Value.string { data := #[] }) := hB.cell 0
  have z1 : w1.cell? ⟨w.heap.size, 1, none⟩ = some (Value.int IntKind.u64 0) := hB.cell 1
  have z2 : w1.cell? ⟨w.heap.size, 2, none⟩ = some (Value.bool false) := hB.cell 2
  have z3 : w1.cell? ⟨w.heap.size, 3, none⟩ = some (Value.string { data := #[] }) := hB.cell 3
  have zf := hB.frozen
  have hfin : Below w.heap.size w w1 := ((Below.refl _ _).alloc (Nat.le_refl _) _).trans (hb1.mono (by simp))
  clear hb1 hB h
  cases C with
  | nil =>
    simp only [nxt0_nil, pv, Option.map_none] at hcell
    clear p hT1
    go_wp2_with fail
    refine bodyPost_ret (v := .tuple #[.agg #[.string { data := #[] }, .int .u64 0, .bool false, .string { data := #[] }], .bool false]) ?_ rfl ?_
    · simp [results, Try.results15, go_sem, z0, z1, z2, z3, hs2]
    · refine ⟨rfl, ?_⟩
      repeat' (first | exact hfin | (refine Below.setCell ?_ (by simp) _) | (refine Below.alloc ?_ (by simp; omega) _))
  | cons m C =>
    rw [nxt0_cons (p.pos m (by simp))] at hcell
    simp only [pv, Option.map_some] at hcell
    obtain ⟨e0, e1, e2, e3, _⟩ := hT1.entry (n := m) (by simp)
    have hm1 := hT1.nlt (n := m) (by simp)
    clear p hT1
    by_cases hk : m.k.toList = key.toList
    · go_wp2_with fail
      refine bodyPost_ret (v := .tuple #[.agg #[.string m.k, .int .u64 m.s, .bool m.d, .string m.v], .bool true]) ?_ rfl ?_
      · simp [results, Try.results15, go_sem, z0, z1, z2, z3, hs2]
      · rw [gotOf_yes hk]
        refine ⟨rfl, ?_⟩
        repeat' (first | exact hfin | (refine Below.setCell ?_ (by simp) _) | (refine Below.alloc ?_ (by simp; omega) _))
    · have hkb : (!m.k.toList == key.toList) = true := by simp [hk]
      go_wp2_with fail
      refine bodyPost_ret (v := .tuple #[.agg #[.string { data := #[] }, .int .u64 0, .bool false, .string { data := #[] }], .bool false]) ?_ rfl ?_
      · simp [results, Try.results15, go_sem, z0, z1, z2, z3, hs2]
      · rw [gotOf_no hk]
        refine ⟨rfl, ?_⟩
        repeat' (first | exact hfin | (refine Below.setCell ?_ (by simp) _) | (refine Below.alloc ?_ (by simp; omega) _))

end Go.Proofs.Ytbocdopjikkomaa
