/- The calls whose answers the document fixes: awake tells true. -/
import Derived.Test.YtbocdopjikkomaaE
namespace Go.Proofs.Ytbocdopjikkomaa
open Go.RowKit

theorem tl1 (x : UInt8) : (ByteArray.mk #[x]).toList = [x] := Go.ByteArray.toList_mk [x]
theorem tl0 : (ByteArray.mk #[]).toList = [] := Go.ByteArray.toList_mk []

theorem res1 : putRes [] { data := #[98] } 3 false { data := #[120] } 1 = 0 := by
  simp [putRes, mayB, postOf, twiceB, ByteArray.size]
theorem putL1 (b : Nat) : putL b [] { data := #[98] } 3 false { data := #[120] } 1 = [⟨b, { data := #[98] }, 3, false, { data := #[120] }, 1⟩] := by
  simp [putL, res1, preOf, postOf]

theorem res2 (b1 : Nat) : putRes [⟨b1, { data := #[98] }, 3, false, { data := #[120] }, 1⟩] { data := #[97] } 9 true { data := #[] } 8 = 0 := by
  simp [putRes, mayB, postOf, twiceB, ByteArray.size, aheadB, Op.bytesLess]
theorem putL2 (b1 b : Nat) : putL b [⟨b1, { data := #[98] }, 3, false, { data := #[120] }, 1⟩] { data := #[97] } 9 true { data := #[] } 8 =
    [⟨b, { data := #[97] }, 9, true, { data := #[] }, 8⟩, ⟨b1, { data := #[98] }, 3, false, { data := #[120] }, 1⟩] := by
  simp [putL, res2, preOf, postOf, aheadB, Op.bytesLess]

def aw3 (b1 b2 b3 : Nat) : List Nd := [⟨b2, { data := #[97] }, 9, true, { data := #[] }, 8⟩, ⟨b3, { data := #[98] }, 7, false, { data := #[] }, 2⟩, ⟨b1, { data := #[98] }, 3, false, { data := #[120] }, 1⟩]

theorem res3 (b1 b2 : Nat) : putRes [⟨b2, { data := #[97] }, 9, true, { data := #[] }, 8⟩, ⟨b1, { data := #[98] }, 3, false, { data := #[120] }, 1⟩] { data := #[98] } 7 false { data := #[] } 2 = 0 := by
  simp [putRes, mayB, postOf, twiceB, ByteArray.size, aheadB, Op.bytesLess]
theorem putL3 (b1 b2 b : Nat) : putL b [⟨b2, { data := #[97] }, 9, true, { data := #[] }, 8⟩, ⟨b1, { data := #[98] }, 3, false, { data := #[120] }, 1⟩] { data := #[98] } 7 false { data := #[] } 2 = aw3 b1 b2 b := by
  simp [putL, res3, preOf, postOf, aheadB, Op.bytesLess, aw3]

theorem res4 (b1 b2 b3 : Nat) : putRes (aw3 b1 b2 b3) { data := #[98] } 7 false { data := #[] } 1 = 11 := by
  simp [aw3, putRes, mayB, postOf, twiceB, ByteArray.size, aheadB, Op.bytesLess]
theorem res5 (b1 b2 b3 : Nat) : putRes (aw3 b1 b2 b3) { data := #[98] } 8 false { data := #[] } 9 = 1 := by
  simp [putRes, mayB, ByteArray.size]
theorem res6 (b1 b2 b3 : Nat) : putRes (aw3 b1 b2 b3) { data := #[] } 0 false { data := #[] } 1 = 2 := by
  simp [putRes, mayB]

theorem got5 (b1 b2 b3 : Nat) : gotOf { data := #[98] } (postOf { data := #[98] } 5 (aw3 b1 b2 b3)) = some ⟨b1, { data := #[98] }, 3, false, { data := #[120] }, 1⟩ := by
  simp [aw3, gotOf, postOf, aheadB, Op.bytesLess]
theorem got2 (b1 b2 b3 : Nat) : gotOf { data := #[98] } (postOf { data := #[98] } 2 (aw3 b1 b2 b3)) = none := by
  simp [aw3, gotOf, postOf, aheadB, Op.bytesLess]
theorem from1 (b1 b2 b3 : Nat) : (postOf { data := #[98] } 18446744073709551615 (aw3 b1 b2 b3)).take (1 : Int).toNat = [⟨b3, { data := #[98] }, 7, false, { data := #[] }, 2⟩] := by
  simp [aw3, postOf, aheadB, Op.bytesLess]
theorem steps1 (b1 b2 b3 : Nat) : visL 0 (preOf { data := #[98] } 1 (aw3 b1 b2 b3)) = 3 := by
  simp [aw3, preOf, aheadB, Op.bytesLess, visL]
theorem size3 (b1 b2 b3 : Nat) : sizeOf' (aw3 b1 b2 b3) = 4 := by
  rfl

theorem wf_nil : Wf [] := ⟨by simp, by simp, by simp, by simp⟩

theorem putL_no {b : Nat} {ns : List Nd} {k : ByteArray} {s : Int} {d : Bool} {v : ByteArray} {ht c : Int} (h : putRes ns k s d v ht = c) (hc : c ≠ 0) : putL b ns k s d v ht = ns := by
  rw [putL, h, if_neg hc]

set_option maxRecDepth 100000 in
set_option maxHeartbeats 4000000 in
theorem awake_calls (w : World) : Calls Try.prog 10 #[] w fun e w' => e = .returned (.bool true) ∧ Below w.heap.size w w' := by
  go_enter Try.func10, Try.ntmps10
  go_wp2_with fail
  refine (new_calls _).mono ?_
  rintro e w1 ⟨rfl, hT1, hb1⟩
  go_wp2_with fail
  refine (put_wf _ _ _ _ _ _ _ _ hT1 wf_nil (by simp)).mono ?_
  rintro e w2 ⟨rfl, b1, hlt1, hT2, hW2, hO2⟩
  rw [res1]
  rw [putL1] at hT2 hW2
  have hb2 := hO2.below (B := w.heap.size) hb1.size (Nat.le_refl _) (by simp)
  clear hO2
  go_wp2_with fail
  refine (put_wf _ _ _ _ _ _ _ _ hT2 hW2 (by simp)).mono ?_
  rintro e w3 ⟨rfl, b2, hlt2, hT3, hW3, hO3⟩
  rw [res2]
  rw [putL2] at hT3 hW3
  have hs1 := hb1.size
  have hs2 := hb2.size
  have hb3 := hO3.below (B := w.heap.size) (by omega) (Nat.le_refl _) (by simp; omega)
  clear hO3
  go_wp2_with fail
  refine (put_wf _ _ _ _ _ _ _ _ hT3 hW3 (by simp)).mono ?_
  rintro e w4 ⟨rfl, b3, hlt3, hT4, hW4, hO4⟩
  rw [res3]
  rw [putL3] at hT4 hW4
  have hs3 := hb3.size
  have hb4 := hO4.below (B := w.heap.size) (by omega) (Nat.le_refl _) (by simp; omega)
  clear hO4
  have hs4 := hb4.size
  have hin : ∀ n ∈ aw3 b1 b2 b3, w.heap.size ≤ n.b := by simp [aw3]; omega
  go_wp2_with fail
  refine (put_wf _ _ _ _ _ _ _ _ hT4 hW4 (by simp [aw3])).mono ?_
  rintro e w5 ⟨rfl, b4, hlt4, hT5, hW5, hO5⟩
  rw [res4]
  rw [putL_no (res4 _ _ _) (by decide)] at hT5 hW5
  have hb5 := hO5.below (B := w.heap.size) (by omega) (Nat.le_refl _) hin
  clear hO5
  have hs5 := hb5.size
  go_wp2_with fail
  refine (put_wf _ _ _ _ _ _ _ _ hT5 hW5 (by simp [aw3])).mono ?_
  rintro e w6 ⟨rfl, b5, hlt5, hT6, hW6, hO6⟩
  rw [res5]
  rw [putL_no (res5 _ _ _) (by decide)] at hT6 hW6
  have hb6 := hO6.below (B := w.heap.size) (by omega) (Nat.le_refl _) hin
  clear hO6
  have hs6 := hb6.size
  go_wp2_with fail
  refine (put_wf _ _ _ _ _ _ _ _ hT6 hW6 (by simp [aw3])).mono ?_
  rintro e w7 ⟨rfl, b6, hlt6, hT7, hW7, hO7⟩
  rw [res6]
  rw [putL_no (res6 _ _ _) (by decide)] at hT7 hW7
  have hb7 := hO7.below (B := w.heap.size) (by omega) (Nat.le_refl _) hin
  clear hO7
  have hs7 := hb7.size
  go_wp2_with fail
  refine (get_wf _ _ _ _ _ hT7 hW7).mono ?_
  rw [got5]
  rintro e w8 ⟨rfl, hb8⟩
  have hs8 := hb8.size
  have hT8 := hT7.below hb8
  go_wp2_with fail
  refine (get_wf _ _ _ _ _ (hT8.below ((Below.refl _ _).alloc (Nat.le_refl _) _)) hW7).mono ?_
  rw [got2]
  rintro e w9 ⟨rfl, hb9⟩
  have hs9 := hb9.size
  have hBx : Blk w9 w8.heap.size 34 #[.string { data := #[98] }, .int .u64 3, .bool false, .string { data := #[120] }] := (Blk.new _ _ _).below hb9 (by simp)
  have hT9 := (hT8.below ((Below.refl _ _).alloc (Nat.le_refl _) _)).below hb9
  have hb1n : Below w.heap.size w w7 := hb1.trans (hb2.trans (hb3.trans (hb4.trans (hb5.trans (hb6.trans hb7)))))
  have hb9n : Below w.heap.size w w9 := (hb1n.trans (hb8.mono (by omega))).trans (((Below.refl _ _).alloc (by omega) _).trans (hb9.mono (by simp; omega)))
  simp at hs9
  clear hb2 hb3 hb4 hb5 hb6 hb7 hb8 hb9 hT1 hT2 hT3 hT4 hT5 hT6 hT7 hT8 hW2 hW3 hW4 hW5 hW6 hb1n hb1
  go_wp2_with fail
  refine (all_calls _ _ _ (hT9.below ((Below.refl _ _).alloc (Nat.le_refl _) _)) hW7).mono ?_
  rintro e w10 ⟨va, rfl, howna, hb10⟩
  have hs10 := hb10.size
  have hT10 := (hT9.below ((Below.refl _ _).alloc (Nat.le_refl _) _)).below hb10
  have hBx10 := (hBx.alloc (.cells #[.string { data := #[] }, .int .u64 0, .bool false, .string { data := #[] }] 34)).below hb10 (by simp; omega)
  have hb10n : Below w.heap.size w w10 := (hb9n.alloc (by omega) _).trans (hb10.mono (by simp; omega))
  simp at hs10
  obtain ⟨ga, ca, rfl, hca1, hca2, hga1, hga2, hac⟩ := own_some howna (by simp [aw3])
  have a0 : w10.cell? ⟨ga, 0, none⟩ = some (.string { data := #[97] }) := hac 0 _ rfl
  have a5 : w10.cell? ⟨ga, 5, none⟩ = some (.int .u64 7) := hac 5 _ rfl
  have a9 : w10.cell? ⟨ga, 9, none⟩ = some (.int .u64 3) := hac 9 _ rfl
  clear hT9 hBx hb9n hb10 howna hac
  go_wp2_with fail
  refine (from_wf _ _ _ _ _ hT10 hW7).mono ?_
  rw [from1]
  rintro e w11 ⟨vf, rfl, hownf, hb11⟩
  have hs11 := hb11.size
  have hT11 := hT10.below hb11
  have hBx11 := hBx10.below hb11 (by omega)
  have hb11n := hb10n.trans (hb11.mono (by omega))
  obtain ⟨gf, cf, rfl, hcf1, hcf2, hgf1, hgf2, hfc⟩ := own_some hownf (by simp)
  have f1 : w11.cell? ⟨gf, 1, none⟩ = some (.int .u64 7) := hfc 1 _ rfl
  have a0' : w11.cell? ⟨ga, 0, none⟩ = some (.string { data := #[97] }) := by rw [hb11.cell (by exact hga2)]; exact a0
  have a5' : w11.cell? ⟨ga, 5, none⟩ = some (.int .u64 7) := by rw [hb11.cell (by exact hga2)]; exact a5
  have a9' : w11.cell? ⟨ga, 9, none⟩ = some (.int .u64 3) := by rw [hb11.cell (by exact hga2)]; exact a9
  clear hT10 hBx10 hb10n hb11 hownf hfc a0 a5 a9
  go_wp2_with fail
  refine (towers_calls _ _ _ hT11 hW7).mono ?_
  rintro e w12 ⟨vt, rfl, hownt, hb12⟩
  have hs12 := hb12.size
  have hT12 := hT11.below hb12
  have hBx12 := hBx11.below hb12 (by omega)
  have hb12n := hb11n.trans (hb12.mono (by omega))
  obtain ⟨gt, ct, rfl, hct1, hct2, hgt1, hgt2, htc⟩ := own_some hownt (by simp [aw3])
  have t0 : w12.cell? ⟨gt, 0, none⟩ = some (.int .i64 8) := htc 0 _ rfl
  have f1' : w12.cell? ⟨gf, 1, none⟩ = some (.int .u64 7) := by rw [hb12.cell (by exact hgf2)]; exact f1
  have c0 : w12.cell? ⟨ga, 0, none⟩ = some (.string { data := #[97] }) := by rw [hb12.cell (by simp; omega)]; exact a0'
  have c5 : w12.cell? ⟨ga, 5, none⟩ = some (.int .u64 7) := by rw [hb12.cell (by simp; omega)]; exact a5'
  have c9 : w12.cell? ⟨ga, 9, none⟩ = some (.int .u64 3) := by rw [hb12.cell (by simp; omega)]; exact a9'
  have x1 : w12.cell? ⟨w8.heap.size, 1, none⟩ = some (.int .u64 3) := hBx12.cell 1
  have x3 : w12.cell? ⟨w8.heap.size, 3, none⟩ = some (.string { data := #[120] }) := hBx12.cell 3
  clear hT11 hBx11 hb11n hb12 hownt htc f1 a0' a5' a9'
  go_wp2_with fail
  refine (len_calls _ _ _ hT12).mono ?_
  rintro e w13 ⟨rfl, rfl⟩
  rw [show (((aw3 b1 b2 b3).length : Nat) : Int) = 3 from rfl]
  go_wp2_with fail
  refine (size_calls _ _ _ hT12).mono ?_
  rintro e w13 ⟨rfl, rfl⟩
  rw [size3]
  go_wp2_with fail
  refine (steps_wf _ _ _ _ _ hT12 hW7).mono ?_
  rintro e w13 ⟨rfl, hb13⟩
  rw [steps1]
  go_wp2_with fail
  go_ret
  exact ⟨rfl, hb12n.trans (hb13.mono (by omega))⟩

end Go.Proofs.Ytbocdopjikkomaa
