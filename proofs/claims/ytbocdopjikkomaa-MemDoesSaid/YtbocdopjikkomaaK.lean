/- The reference's order. -/
import Derived.Test.YtbocdopjikkomaaO
import Derived.Test.YtbocdopjikkomaaRows
import Derived.WalkKit
import Derived.WalkSpells
import Derived.WalkLawsBesides
import Derived.Deep.QuietTactic
import Derived.BigQuiet
namespace Go.Proofs.Ytbocdopjikkomaa
open Go.RowKit

/-- A quiet call behind draws that the walk has added up. -/
theorem quiet_more {P : Program} {f : FuncId} {args : Array Value} {w : World} {a n : Nat} {v : Value}
    (h : Calls P f args (w.drewN (a + n)) fun e w' => e = .returned v ∧ w' = w.drewN (a + n)) :
    Calls P f args (w.drewN (a + n)) fun e w'' => e = .returned v ∧ ∃ m, w'' = w.drewN (a + m) :=
  h.mono fun _ _ ⟨he, hm⟩ => ⟨he, n, hm⟩

set_option maxHeartbeats 400000 in
theorem refAhead_calls (k : ByteArray) (s : Int) (key : ByteArray) (seq : Int) (w : World) :
    Calls Try.prog 27 #[.string k, .int .u64 s, .string key, .int .u64 seq] w fun e w' => e = .returned (.bool (aheadB k s key seq)) ∧ w' = w := by
  go_enter Try.func27, Try.ntmps27
  go_wp2
  all_goals go_ret
  · exact ⟨by simp_all [aheadB], rfl⟩
  · exact ⟨by simp_all [aheadB], rfl⟩
  · exact ⟨by simp_all [aheadB], rfl⟩

end Go.Proofs.Ytbocdopjikkomaa
