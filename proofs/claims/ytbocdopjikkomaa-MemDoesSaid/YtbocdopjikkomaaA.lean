/- The walks over the smallest functions of package mem. -/
import Derived.Test.YtbocdopjikkomaaRows
import Derived.Test.YtbocdopjikkomaaP
import Derived.WalkKit
import Derived.WalkSpells
import Derived.WalkLawsBesides
import Derived.Deep.DeepCutAuto
import Derived.Lib.Hide
namespace Go.Proofs.Ytbocdopjikkomaa
open Go.RowKit

set_option maxHeartbeats 400000 in
theorem ahead_calls (k : ByteArray) (s : Int) (d : Bool) (v key : ByteArray) (seq : Int) (w : World) :
    Calls Try.prog 33 #[.agg #[.string k, .int .u64 s, .bool d, .string v], .string key, .int .u64 seq] w fun e w' =>
      e = .returned (.bool (aheadB k s key seq)) ∧ Below w.heap.size w w' := by
  go_enter Try.func33, Try.ntmps33
  go_wp2
  all_goals go_ret
  · exact ⟨by simp_all [aheadB], (Below.refl _ _).alloc (Nat.le_refl _) _⟩
  · exact ⟨by simp_all [aheadB], (Below.refl _ _).alloc (Nat.le_refl _) _⟩
  · exact ⟨by simp_all [aheadB], (Below.refl _ _).alloc (Nat.le_refl _) _⟩

/-- The pointers to the last nodes ahead, of each level. -/
def lasts (tb : Nat) (pre : List Nd) : Array Value :=
  #[.pointer (some ⟨lastAt tb 0 pre, 0, none⟩), .pointer (some ⟨lastAt tb 1 pre, 0, none⟩), .pointer (some ⟨lastAt tb 2 pre, 0, none⟩), .pointer (some ⟨lastAt tb 3 pre, 0, none⟩),
    .pointer (some ⟨lastAt tb 4 pre, 0, none⟩), .pointer (some ⟨lastAt tb 5 pre, 0, none⟩), .pointer (some ⟨lastAt tb 6 pre, 0, none⟩), .pointer (some ⟨lastAt tb 7 pre, 0, none⟩)]

theorem lasts_at (tb : Nat) (pre : List Nd) {l : Nat} (h : l < 8) : (lasts tb pre)[l]? = some (.pointer (some ⟨lastAt tb l pre, 0, none⟩)) := by
  rcases l with _ | _ | _ | _ | _ | _ | _ | _ | l <;> first | rfl | omega

def SeekPost (tb : Nat) (pre : List Nd) (w : World) (e : Ending) (w' : World) : Prop :=
  e = .returned (.tuple #[.agg #[.pointer (some ⟨lastAt tb 0 pre, 0, none⟩), .pointer (some ⟨lastAt tb 1 pre, 0, none⟩), .pointer (some ⟨lastAt tb 2 pre, 0, none⟩), .pointer (some ⟨lastAt tb 3 pre, 0, none⟩),
    .pointer (some ⟨lastAt tb 4 pre, 0, none⟩), .pointer (some ⟨lastAt tb 5 pre, 0, none⟩), .pointer (some ⟨lastAt tb 6 pre, 0, none⟩), .pointer (some ⟨lastAt tb 7 pre, 0, none⟩)], .int .i64 (visL 0 pre)]) ∧ Below w.heap.size w w'

def nils8 : Array Value := #[.pointer none, .pointer none, .pointer none, .pointer none, .pointer none, .pointer none, .pointer none, .pointer none]

def SeekRel (tb : Nat) (pre : List Nd) (w : World) (g : Nat) (p st lv : Value) (wr : World) : Prop :=
  g ≤ 8 ∧ p = .pointer (some ⟨lastAt tb g pre, 0, none⟩) ∧ st = .int .i64 (visL g pre) ∧ lv = .int .i64 ((g : Int) - 1) ∧ Below w.heap.size w wr ∧ Blk wr w.heap.size 57 nils8 ∧
    ∃ arr : Array Value, Blk wr (w.heap.size + 1) 57 arr ∧ arr.size = 8 ∧ ∀ l, g ≤ l → l < 8 → arr[l]? = some (pv (some (lastAt tb l pre)))

def SeekIn (tb : Nat) (pre : List Nd) (L : Nat) (wo : World) (B : Nat) (m : Nat) (p st : Value) (wr : World) : Prop :=
  ∃ A C, pre = A ++ C ∧ (∀ a, A.getLast? = some a → L < a.h) ∧ (∀ n ∈ C, n.h ≤ L + 1) ∧ C.length ≤ m ∧ p = .pointer (some ⟨blkOf tb A, 0, none⟩) ∧
    (∃ q : Nat, st = .int .i64 q ∧ q + cnt L C = visL L pre) ∧ Below B wo wr ∧ B ≤ wr.heap.size

theorem SeekRel.next {tb L : Nat} {pre : List Nd} {w wo wr : World} {arr : Array Value} {q : Nat} {x st lv : Value} (hb : Below w.heap.size w wo) (hnil : Blk wo w.heap.size 57 nils8) (harr : Blk wo (w.heap.size + 1) 57 arr)
    (hsz : arr.size = 8) (hat : ∀ l, L + 1 ≤ l → l < 8 → arr[l]? = some (pv (some (lastAt tb l pre)))) (hL : L + 1 ≤ 8) (hbi : Below (w.heap.size + 2) wo wr)
    (hq : q = visL L pre) (hx : x = .pointer (some ⟨lastAt tb L pre, 0, none⟩)) (hst : st = .int .i64 q) (hlv : lv = .int .i64 ((L : Int) - 1)) :
    SeekRel tb pre w L x st lv (wr.setCell ⟨w.heap.size + 1, L, none⟩ x) := by
  subst hx hst hlv hq
  refine ⟨by omega, rfl, rfl, rfl, (hb.trans (hbi.mono (by omega))).setCell (by simp) _, (hnil.below hbi (by omega)).far (by simp) _, _, (harr.below hbi (by omega)).set L _, by simpa using hsz, ?_⟩
  intro l h1 h2
  rw [Array.getElem?_setIfInBounds]
  by_cases e : L = l
  · subst e
    rw [if_pos rfl, if_pos (by omega)]
    rfl
  · rw [if_neg e]
    exact hat l (by omega) h2

set_option maxHeartbeats 1000000 in
theorem seek_calls (tb : Nat) (pre post : List Nd) (key : ByteArray) (seq : Int) (w : World) (h : Tab tb (pre ++ post) w)
    (hh : ∀ n ∈ pre, n.h ≤ 8) (hlen : pre.length ≤ 100000) (hpre : ∀ n ∈ pre, aheadB n.k n.s key seq = true) (hpost : ∀ n ∈ post, aheadB n.k n.s key seq = false) :
    Calls Try.prog 30 #[.pointer (some ⟨tb, 0, none⟩), .string key, .int .u64 seq] w (SeekPost tb pre w) := by
  go_enter Try.func30, Try.ntmps30
  go_wp2_with fail
  go_loopg [9, 10, 11] 8 (fun g p st lv wr => SeekRel tb pre w g p st lv wr)
  case atStart =>
    have hno : ∀ x ∈ pre, ¬ 8 < x.h := fun x hx => by have := hh x hx; omega
    refine ⟨Nat.le_refl _, ?_, ?_, rfl, ((Below.refl _ _).alloc (Nat.le_refl _) _).alloc (by simp) _, (Blk.new _ _ _).alloc _, nils8, ?_, ?_, ?_⟩
    · rw [show lastAt tb 8 pre = tb from lastAt_of (A := []) (B := pre) (by simp) hno]
    · rw [visL_high (fun n hn => hh n hn)]; rfl
    · have := Blk.new (w.alloc (.cells nils8 57)) 57 nils8
      simpa [nils8] using this
    · rfl
    · intro l h1 h2; omega
  case round =>
    obtain ⟨hg, rfl, rfl, rfl, hb, hnil, arr, harr, hsz, hat⟩ := hrel
    cases gk with
    | zero =>
      have hlv : (((0 : Nat) : Int) - 1) = -1 := rfl
      rw [hlv]
      clear hlv
      obtain ⟨x⟩ := arr
      match x, hsz with
      | [a0, a1, a2, a3, a4, a5, a6, a7], _ =>
        have g0 : a0 = .pointer (some ⟨lastAt tb 0 pre, 0, none⟩) := by simpa [pv] using hat 0 (by omega) (by omega)
        have g1 : a1 = .pointer (some ⟨lastAt tb 1 pre, 0, none⟩) := by simpa [pv] using hat 1 (by omega) (by omega)
        have g2 : a2 = .pointer (some ⟨lastAt tb 2 pre, 0, none⟩) := by simpa [pv] using hat 2 (by omega) (by omega)
        have g3 : a3 = .pointer (some ⟨lastAt tb 3 pre, 0, none⟩) := by simpa [pv] using hat 3 (by omega) (by omega)
        have g4 : a4 = .pointer (some ⟨lastAt tb 4 pre, 0, none⟩) := by simpa [pv] using hat 4 (by omega) (by omega)
        have g5 : a5 = .pointer (some ⟨lastAt tb 5 pre, 0, none⟩) := by simpa [pv] using hat 5 (by omega) (by omega)
        have g6 : a6 = .pointer (some ⟨lastAt tb 6 pre, 0, none⟩) := by simpa [pv] using hat 6 (by omega) (by omega)
        have g7 : a7 = .pointer (some ⟨lastAt tb 7 pre, 0, none⟩) := by simpa [pv] using hat 7 (by omega) (by omega)
        clear hat hsz
        subst g0 g1 g2 g3 g4 g5 g6 g7
        have c0 := harr.cell 0
        have c1 := harr.cell 1
        have c2 := harr.cell 2
        have c3 := harr.cell 3
        have c4 := harr.cell 4
        have c5 := harr.cell 5
        have c6 := harr.cell 6
        have c7 := harr.cell 7
        have d0 := hnil.cell 0
        have d1 := hnil.cell 1
        have d2 := hnil.cell 2
        have d3 := hnil.cell 3
        have d4 := hnil.cell 4
        have d5 := hnil.cell 5
        have d6 := hnil.cell 6
        have d7 := hnil.cell 7
        have f0 := hnil.frozen
        simp only [nils8, List.getElem?_toArray, List.getElem?_cons_zero, List.getElem?_cons_succ] at d0 d1 d2 d3 d4 d5 d6 d7
        go_wp2_with fail
        refine bodyPost_ret (v := .tuple #[.agg #[.pointer (some ⟨lastAt tb 0 pre, 0, none⟩), .pointer (some ⟨lastAt tb 1 pre, 0, none⟩), .pointer (some ⟨lastAt tb 2 pre, 0, none⟩), .pointer (some ⟨lastAt tb 3 pre, 0, none⟩), .pointer (some ⟨lastAt tb 4 pre, 0, none⟩), .pointer (some ⟨lastAt tb 5 pre, 0, none⟩), .pointer (some ⟨lastAt tb 6 pre, 0, none⟩), .pointer (some ⟨lastAt tb 7 pre, 0, none⟩)], .int .i64 (visL 0 pre)]) ?_ rfl ?_
        · simp [results, Try.results30, go_sem, d0, d1, d2, d3, d4, d5, d6, d7]
        · refine ⟨rfl, ?_⟩
          · exact (((((((hb.setCell (by simp) _).setCell (by simp) _).setCell (by simp) _).setCell (by simp) _).setCell (by simp) _).setCell (by simp) _).setCell (by simp) _).setCell (by simp) _
    | succ L =>
      have hlv : (((L + 1 : Nat) : Int) - 1) = (L : Int) := by omega
      rw [hlv]
      clear hlv
      go_wp2_with fail
      obtain ⟨wo, rfl⟩ : ∃ wo : World, wo = wr := ⟨_, rfl⟩
      go_loopg [9, 10] pre.length (fun m p st wr => SeekIn tb pre L wo (w.heap.size + 2) m p st wr)
      case atStart =>
        obtain ⟨A, C, hAC, hA, hC⟩ := split_last (L + 1) pre
        refine ⟨A, C, hAC, fun a ha => by have := hA a ha; omega, fun n hn => by have := hC n hn; omega, ?_, ?_, ⟨_, rfl, ?_⟩, Below.refl _ _, ?_⟩
        · rw [hAC]; simp
        · rw [hAC, lastAt_of hA hC]
        · rw [hAC, visL_level hA (fun n hn => by have := hC n hn; omega)]
        · exact harr.lt
      case round =>
        obtain ⟨A, C, hAC, hA, hC, hgk, rfl, ⟨q, rfl, hq⟩, hbi, hszi⟩ := hrel
        have hq1 : q ≤ 100000 := by have := visL_le L pre; omega
        have hT : Tab tb (A ++ (C ++ post)) wr := by
          have hT0 : Tab tb (pre ++ post) wr := h.below (hb.trans (hbi.mono (by omega)))
          rwa [hAC, List.append_assoc] at hT0
        have hcell := hT.next rfl hA (l := L) (by omega)
        have hbw : blkOf tb A < wr.heap.size := hT.blk_lt rfl
        rcases nxt_split L C with ⟨B1, n, B2, rfl, h1, h2⟩ | h1
        · have hnx : nxt L ((B1 ++ n :: B2) ++ post) = some n.b := by
            rw [List.append_assoc, nxt_append_low h1, List.cons_append, nxt_cons_hit h2]
          rw [hnx] at hcell
          obtain ⟨e0, e1, e2, e3, e4⟩ := hT.entry (n := n) (by simp)
          have Hah := Lib.hid (hpre n (by rw [hAC]; simp))
          have HAC := Lib.hid hAC
          have Hlow := Lib.hid h1
          have HC := Lib.hid hC
          have Hq := Lib.hid hq
          clear hAC hnx hat hC h1 hq
          simp only [pv, Option.map_some] at hcell
          go_wp2_with fail
          refine (ahead_calls _ _ _ _ _ _ _).mono ?_
          rintro e w1 ⟨rfl, hb1⟩
          rw [Hah.out]
          have hcell1 : w1.cell? ⟨blkOf tb A, 5 + L, none⟩ = some (.pointer (some ⟨n.b, 0, none⟩)) := by rw [hb1.cell (by exact hbw)]; exact hcell
          have hs1 := hb1.size
          go_wp2_with fail
          go_roundg (B2.length)
          case measure => rw [List.length_append, List.length_cons] at hgk; omega
          case rel =>
            refine ⟨A ++ B1 ++ [n], B2, by rw [HAC.out]; simp, ?_, fun x hx => HC.out x (by simp [hx]), Nat.le_refl _, ?_, ⟨q + 1, by go_num, ?_⟩, hbi.trans (hb1.mono hszi), by omega⟩
            · intro a ha
              rw [List.getLast?_concat] at ha
              cases ha
              exact h2
            · rw [blkOf_snoc]
            · rw [← Hq.out, cnt_hit Hlow.out h2]
              omega
        · have hlast : lastAt tb L pre = blkOf tb A := by rw [hAC]; exact lastAt_of hA h1
          have hcn : q = visL L pre := by rw [← hq, cnt_low h1]; rfl
          have harr1 := harr.below hbi (by omega)
          obtain ⟨x0, hx0⟩ : ∃ x0, wr.cell? ⟨w.heap.size + 1, L, none⟩ = some x0 := by
            rw [harr1.cell]
            exact ⟨arr[L], by rw [Array.getElem?_eq_getElem (by omega)]⟩
          have hfz := harr1.frozen L
          have H := Lib.hid (And.intro hb (And.intro hnil (And.intro harr (And.intro hsz (And.intro hat (And.intro hbi (And.intro hcn hlast)))))))
          rw [nxt_append_low h1] at hcell
          clear hC h1 hlast hcn hnil hat hAC harr hb harr1 hbi hq
          rcases nxt_mem (l := L) (C := post) with hp | ⟨m, hm, hp⟩
          · rw [hp] at hcell
            simp only [pv, Option.map_none] at hcell
            clear hp
            go_wp2_with fail
            go_roundg L
            case measure => omega
            case rel =>
              obtain ⟨hb, hnil, harr, hsz, hat, hbi, hcn, hlast⟩ := H.out
              exact SeekRel.next hb hnil harr hsz hat hg hbi hcn (by rw [hlast]) rfl rfl
          · rw [hp] at hcell
            simp only [pv, Option.map_some] at hcell
            obtain ⟨e0, e1, e2, e3, e4⟩ := hT.entry (n := m) (by simp [hm])
            have Hah := Lib.hid (hpost m hm)
            clear hp
            go_wp2_with fail
            refine (ahead_calls _ _ _ _ _ _ _).mono ?_
            rintro e w1 ⟨rfl, hb1⟩
            rw [Hah.out]
            have hx1 : w1.cell? ⟨w.heap.size + 1, L, none⟩ = some x0 := by rw [hb1.cell (by simp; omega)]; exact hx0
            have hf1 : w1.frozen? ⟨w.heap.size + 1, L, none⟩ = false := by rw [hb1.frozen (by simp; omega)]; exact hfz
            clear hx0 hfz hcell
            go_wp2_with fail
            go_roundg L
            case measure => omega
            case rel =>
              obtain ⟨hb, hnil, harr, hsz, hat, hbi, hcn, hlast⟩ := H.out
              exact SeekRel.next hb hnil harr hsz hat hg (hbi.trans (hb1.mono hszi)) hcn (by rw [hlast]) rfl rfl

end Go.Proofs.Ytbocdopjikkomaa
