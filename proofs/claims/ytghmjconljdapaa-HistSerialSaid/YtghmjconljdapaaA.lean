/- The walks over the smallest functions of package hist. -/
import Derived.Test.YtghmjconljdapaaRows
import Derived.Test.YtghmjconljdapaaP
import Derived.WalkKit
import Derived.WalkSpells
import Derived.WalkLawsBesides
import Derived.Deep.DeepCutAuto
import Derived.Lib.Hide
namespace Go.Proofs.Ytghmjconljdapaa
open Go.RowKit

set_option maxHeartbeats 400000 in
/-- The closure of wrote: is the write of that key? -/
theorem pred_calls (m : Mt) (kb : Nat) (key : ByteArray) (w : World) (hk : w.cell? ⟨kb, 0, none⟩ = some (.string key)) :
    Calls Try.prog 24 #[.agg #[.string m.k, .int .i64 m.c, .string m.v], .pointer (some ⟨kb, 0, none⟩)] w fun e w' => e = .returned (.bool (m.k.toList == key.toList)) ∧ Below w.heap.size w w' := by
  have hlt := World.block_lt_of_cell? w _ hk
  go_enter Try.func24, Try.ntmps24
  go_wp2
  go_ret
  exact ⟨rfl, (Below.refl _ _).alloc (Nat.le_refl _) _⟩

end Go.Proofs.Ytghmjconljdapaa
