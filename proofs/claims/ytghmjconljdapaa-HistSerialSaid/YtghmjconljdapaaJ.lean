/- The walk over Look. -/
import Derived.Test.YtghmjconljdapaaI
import Derived.Defers
import Derived.Recover
namespace Go.Proofs.Ytghmjconljdapaa
open Go.RowKit

def fltC (f : Flt) : Array Value := #[.int .i64 f.kind, .int .i64 f.first, .int .i64 f.second, .string f.key]

theorem ta_hit (x y z : Int) (k : ByteArray) (w : World) : (Instr.typeAssert (.iface 27 (.agg #[.int .i64 x, .int .i64 y, .int .i64 z, .string k])) 20 27 true).run Try.prog w = .ok (.tuple #[.agg #[.int .i64 x, .int .i64 y, .int .i64 z, .string k], .bool true]) w := by
  simp [Instr.typeAssert, go_sem]

theorem ta_nil (w : World) : (Instr.typeAssert .nilIface 20 27 true).run Try.prog w = .ok (.tuple #[fltV noFlt, .bool false]) w := by
  simp [Instr.typeAssert, go_sem]
  rfl

set_option maxHeartbeats 1000000 in
theorem catch_panicking (pb : Nat) (f g : Flt) (older : List PanicEntry) (w : World) (hB : Blk w pb 27 (fltC g)) :
    CallsD Try.prog 15 #[.pointer (some ⟨pb, 0, none⟩)] (.panicking ({ v := .iface 27 (fltV f), recovered := false } :: older)) w fun e u' w' =>
      e = .returned (.tuple #[]) ∧ u' = .panicking ({ v := .iface 27 (fltV f), recovered := true } :: older) ∧ w' = ((((w.alloc (.cells (fltC f) 27)).setCell ⟨pb, 0, none⟩ (.int .i64 f.kind)).setCell ⟨pb, 1, none⟩ (.int .i64 f.first)).setCell ⟨pb, 2, none⟩ (.int .i64 f.second)).setCell ⟨pb, 3, none⟩ (.string f.key) := by
  refine callsD_of_wpS Try.func15 rfl fun c₀ cs hu => ?_
  apply wpS_seq
  apply wpS_region
  have htm : (#[Value.pointer (some ⟨pb, 0, none⟩)] ++ Array.replicate (Try.f15.ntmps - #[Value.pointer (some ⟨pb, 0, none⟩)].size) undef) = #[Value.pointer (some ⟨pb, 0, none⟩), undef, undef, undef, undef, undef, undef, undef, undef, undef] := rfl
  rw [htm]
  clear htm
  unfold fltV at hu ⊢
  simp [wpOpsS, go_sem, recoverD, hu, ta_hit, Exit.thenS]
  apply wpS_seq
  apply wpS_region
  simp [wpOpsS, go_sem, Exit.thenS]
  refine wpS_cond (t := true) (by simp [Act.eval]) ?_
  simp only [if_true]
  apply wpS_region
  have hlt := hB.lt
  have v0 : w.cell? ⟨pb, 0, none⟩ = some (.int .i64 g.kind) := hB.cell 0
  have v1 : w.cell? ⟨pb, 1, none⟩ = some (.int .i64 g.first) := hB.cell 1
  have v2 : w.cell? ⟨pb, 2, none⟩ = some (.int .i64 g.second) := hB.cell 2
  have v3 : w.cell? ⟨pb, 3, none⟩ = some (.string g.key) := hB.cell 3
  have f0 := hB.frozen 0
  have f1 := hB.frozen 1
  have f2 := hB.frozen 2
  have f3 := hB.frozen 3
  simp [wpOpsS, go_sem, hlt, v0, v1, v2, v3, f0, f1, f2, f3, bodyPostS, results, Try.results15, fltC]

set_option maxHeartbeats 1000000 in
theorem catch_idle (pb : Nat) (w : World) :
    CallsD Try.prog 15 #[.pointer (some ⟨pb, 0, none⟩)] .returning w fun e u' w' => e = .returned (.tuple #[]) ∧ u' = .returning ∧ w' = w.alloc (.cells #[.int .i64 0, .int .i64 0, .int .i64 0, .string { data := #[] }] 27) := by
  refine callsD_of_wpS Try.func15 rfl fun c₀ cs hu => ?_
  apply wpS_seq
  apply wpS_region
  have htm : (#[Value.pointer (some ⟨pb, 0, none⟩)] ++ Array.replicate (Try.f15.ntmps - #[Value.pointer (some ⟨pb, 0, none⟩)].size) undef) = #[Value.pointer (some ⟨pb, 0, none⟩), undef, undef, undef, undef, undef, undef, undef, undef, undef] := rfl
  rw [htm]
  clear htm
  simp [wpOpsS, go_sem, recoverD, hu, ta_nil, Exit.thenS, fltV, noFlt]
  apply wpS_seq
  apply wpS_region
  simp [wpOpsS, go_sem, Exit.thenS]
  refine wpS_cond (t := false) (by simp [Act.eval]) ?_
  simp only [Bool.false_eq_true, if_false]
  refine wpS_of_wp (wp_skip ?_)
  cases c₀
  simp_all [bodyPostS, results, Try.results15]

end Go.Proofs.Ytghmjconljdapaa
