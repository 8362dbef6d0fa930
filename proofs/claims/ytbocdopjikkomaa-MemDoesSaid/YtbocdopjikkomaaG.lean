/- What the laws of mem are given: a slice of puts. -/
import Derived.Test.YtbocdopjikkomaaG2
import Derived.Deep.CutBlock
namespace Go.Proofs.Ytbocdopjikkomaa
open Go.RowKit

/-- A put as data. -/
structure Pt where
  k : ByteArray
  s : Int
  d : Bool
  v : ByteArray
  h : Int

/-- Element i of a slice of puts lies there. -/
def PutAt (w : World) (b off i : Nat) (x : Pt) : Prop :=
  w.cell? ⟨b, off + i * 5, none⟩ = some (.string x.k) ∧ w.cell? ⟨b, off + i * 5 + 1, none⟩ = some (.int .u64 x.s) ∧
    w.cell? ⟨b, off + i * 5 + 2, none⟩ = some (.bool x.d) ∧ w.cell? ⟨b, off + i * 5 + 3, none⟩ = some (.string x.v) ∧ w.cell? ⟨b, off + i * 5 + 4, none⟩ = some (.int .i64 x.h)

theorem PutAt.below {w w' : World} {b off i B : Nat} {x : Pt} (h : PutAt w b off i x) (hb : Below B w w') (hB : b < B) : PutAt w' b off i x := by
  obtain ⟨h0, h1, h2, h3, h4⟩ := h
  refine ⟨?_, ?_, ?_, ?_, ?_⟩ <;> rw [hb.cell (by exact hB)] <;> assumption

/-- The value is a slice in w that reads as these puts. -/
structure PutsAt (w : World) (ao : Option Addr) (len : Nat) (xs : List Pt) : Prop where
  count : xs.length = len
  at_ : 0 < len → ∃ b off, ao = some ⟨b, off, none⟩ ∧ b < w.heap.size ∧ ∀ i x, xs[i]? = some x → PutAt w b off i x

def TabIn (w0 : World) (tb : Nat) (ns : List Nd) (wr : World) : Prop := Tab tb ns wr ∧ Wf ns ∧ (∀ m ∈ ns, w0.heap.size ≤ m.b) ∧ Below w0.heap.size w0 wr

def NewRel (w0 : World) (tb len : Nat) (g : Nat) (i : Value) (wr : World) : Prop :=
  ∃ n : Nat, i = .int .i64 n ∧ n ≤ len ∧ n ≤ 200 ∧ g = 200 - n ∧ ∃ ns, ns.length ≤ n ∧ TabIn w0 tb ns wr

/-- Behind the puts. -/
def After (w0 : World) (tb : Nat) (wr : World) : Prop := ∃ ns, ns.length ≤ 200 ∧ TabIn w0 tb ns wr

theorem NewRel.step {w0 wr w3 w4 : World} {tb len n b : Nat} {ns : List Nd} {k : ByteArray} {s : Int} {d : Bool} {v : ByteArray} {h : Int}
    (hin : TabIn w0 tb ns wr) (hb3 : Below wr.heap.size wr w3) (htb : w0.heap.size ≤ tb) (hn : ns.length ≤ n) (h1 : n < len) (h2 : n < 200)
    (hb : w3.heap.size ≤ b) (hT : Tab tb (putL b ns k s d v h) w4) (hW : Wf (putL b ns k s d v h)) (hO : Only tb ns w3 w4) :
    NewRel w0 tb len (200 - (n + 1)) (.int .i64 ((n + 1 : Nat) : Int)) w4 := by
  obtain ⟨_, _, hmin, hbl⟩ := hin
  have hs3 := hb3.size
  have hs := hbl.size
  refine ⟨n + 1, rfl, by omega, by omega, rfl, putL b ns k s d v h, ?_, hT, hW, ?_, ?_⟩
  · unfold putL
    split
    · have := congrArg List.length (pre_post k s ns)
      simp only [List.length_append, List.length_cons] at this ⊢
      omega
    · omega
  · intro m hm
    unfold putL at hm
    split at hm
    · simp only [List.mem_append, List.mem_cons] at hm
      rcases hm with hm | rfl | hm
      · exact hmin m (mem_pre hm)
      · show w0.heap.size ≤ b
        omega
      · exact hmin m (mem_post hm)
    · exact hmin m hm
  · exact (hbl.trans (hb3.mono hs)).trans (hO.below (by omega) htb hmin)

/-- An entry's cells, of what was found. -/
def foundC (o : Option Nd) : Array Value := #[.string (gk o), .int .u64 (gs o), .bool (gd o), .string (gv o)]

theorem foundC_none : foundC none = #[.string { data := #[] }, .int .u64 0, .bool false, .string { data := #[] }] := rfl

theorem Only.cell {tb : Nat} {w w' : World} (h : Only tb [] w w') {g o : Nat} (h1 : g < w.heap.size) (h2 : g ≠ tb) : w'.cell? ⟨g, o, none⟩ = w.cell? ⟨g, o, none⟩ :=
  World.cell?_of_block (w := w) (h.block g h1 h2 (by simp))

def BestRel (key : ByteArray) (seq : Int) (ns : List Nd) (wb : World) (B : Nat) (g : Nat) (f j : Value) (wr : World) : Prop :=
  ∃ n : Nat, j = .int .i64 n ∧ n ≤ ns.length ∧ g = ns.length - n ∧ f = .bool (findM key seq (ns.take n)).isSome ∧ Blk wr B 34 (foundC (findM key seq (ns.take n))) ∧ Only B [] wb wr

set_option maxRecDepth 100000 in
set_option maxHeartbeats 4000000 in
theorem newest_calls (ao : Option Addr) (len cap : Nat) (xs : List Pt) (key : ByteArray) (seq : Int) (w : World) (hx : PutsAt w ao len xs) :
    Calls Try.prog 6 #[.slice ao len cap, .string key, .int .u64 seq] w fun e w' => e = .returned (.bool true) ∧ Below w.heap.size w w' := by
  by_cases hk : 300 < (key.size : Int)
  · go_enter Try.func6, Try.ntmps6
    go_wp2_with fail
    refine (awake_calls _).mono ?_
    rintro e w1 ⟨rfl, hb1⟩
    go_wp2_with fail
    go_ret
    exact ⟨rfl, hb1⟩
  · go_enter Try.func6, Try.ntmps6
    go_wp2_with fail
    refine (awake_calls _).mono ?_
    rintro e w1 ⟨rfl, hb1⟩
    have hs1 := hb1.size
    go_wp2_with fail
    refine (new_calls _).mono ?_
    rintro e w2 ⟨rfl, hT2, hb2⟩
    have hs2 := hb2.size
    have hin : TabIn w w1.heap.size [] w2 := ⟨hT2, wf_nil, by simp, hb1.trans (hb2.mono (by omega))⟩
    clear hT2 hb2 hb1
    go_upto_block 0 with fail
    go_cut [8] (fun _ w' => After w w1.heap.size w')
    case first =>
      go_wp2_with fail
      go_loopg [8] 200 (fun g i wr => NewRel w w1.heap.size len g i wr)
      case atStart => exact ⟨0, rfl, by omega, by omega, rfl, [], by simp, hin⟩
      case round =>
        obtain ⟨n, rfl, hn1, hn2, rfl, ns, hns, hT⟩ := hrel
        have HT := Lib.hid hT
        clear hin
        by_cases hlen : n < len
        · by_cases h200 : n < 200
          · obtain ⟨b, off, rfl, hblt, hat⟩ := hx.at_ (by omega)
            obtain ⟨x, hx1⟩ : ∃ x, xs[n]? = some x := ⟨xs[n]'(by rw [hx.count]; exact hlen), by simp⟩
            have hp0 := hat n x hx1
            have hbw := HT.out.2.2.2
            have hsw := hbw.size
            have hp1 := hp0.below hbw hblt
            have Hp1 := Lib.hid hp1
            obtain ⟨q0, q1, q2, q3, q4⟩ := hp1
            clear hx hat hx1 hp0 hbw
            go_wp2_with fail
            refine (large_calls _ _ _ _ _).mono ?_
            rintro e w3 ⟨rfl, hb3⟩
            have hs3 := hb3.size
            have hbw3 := HT.out.2.2.2.trans (hb3.mono HT.out.2.2.2.size)
            by_cases hla : largeB x.k x.v = true
            · have Hla := Lib.hid hla
              clear hla
              rw [Hla.out]
              have HB := Lib.hid hbw3
              clear hbw3
              go_wp2_with fail
              go_ret
              exact ⟨rfl, HB.out⟩
            · have Hla := Lib.hid (show largeB x.k x.v = false by simpa using hla)
              clear hla
              rw [Hla.out]
              obtain ⟨r0, r1, r2, r3, r4⟩ := Hp1.out.below hb3 (by omega)
              have HB := Lib.hid hbw3
              have HB3 := Lib.hid hb3
              clear hbw3 hb3 q0 q1 q2 q3 q4
              go_wp2_with fail
              go_still_tail 11, (by kernel_rfl)
              go_wp2_with fail
              have hb3 := HB3.out
              have hin3 := HT.out
              refine (put_wf _ _ _ _ _ _ _ _ (hin3.1.below hb3.drew) hin3.2.1 (by omega)).mono ?_
              rintro e w4 ⟨rfl, b4, hb4, hT4, hW4, hO4⟩
              have hstep := NewRel.step (len := len) hin3 hb3.drew hs1 hns hlen h200 hb4 hT4 hW4 hO4
              have Hstep := Lib.hid hstep
              clear hstep hT4 hW4 hO4 hin3 hb3 r0 r1 r2 r3 r4
              go_wp2_with fail
              go_roundg (200 - (n + 1))
              case measure => omega
              case rel => exact Hstep.out
          · go_wp2_with fail
            go_meet
            case rel => exact ⟨ns, by omega, HT.out⟩
        · go_wp2_with fail
          go_meet
          case rel => exact ⟨ns, by omega, HT.out⟩
    case rest =>
      obtain ⟨ns, hns, hTc, hWc, hmin, hbc⟩ := hcut
      have hsc := hbc.size
      clear hx hin
      go_wp2_with fail
      refine (get_one _ _ _ _ _ hTc hWc).mono ?_
      rintro e w3 ⟨rfl, hb3⟩
      have hs3 := hb3.size
      have hT3 := hTc.below hb3
      generalize ho : gotOf key (postOf key seq ns) = o
      have Ho := Lib.hid (ho.symm.trans (got_find hWc key seq))
      clear ho
      go_wp2_with fail
      refine (all_calls _ _ _ ((hT3.below ((Below.refl _ _).alloc (Nat.le_refl _) _)).below ((Below.refl _ _).alloc (Nat.le_refl _) _)) hWc).mono ?_
      rintro e w4 ⟨va, rfl, hown, hb4⟩
      have hb4s := hb4.size
      simp at hb4s
      have hBx : Blk w4 w3.heap.size 34 (foundC o) := ((Blk.new w3 34 (foundC o)).alloc _).below hb4 (by simp; omega)
      have hBb : Blk w4 (w3.heap.size + 1) 34 (foundC none) := by
        have := (Blk.new (w3.alloc (.cells (foundC o) 34)) 34 (foundC none)).below hb4 (by simp)
        simpa using this
      have hb4n : Below w.heap.size w w4 := hbc.trans ((hb3.mono hsc).trans ((((Below.refl _ _).alloc (by omega) _).alloc (by simp; omega) _).trans (hb4.mono (by simp; omega))))
      obtain ⟨ga, ca, rfl⟩ := own_slice hown
      have Hown := Lib.hid hown
      have Hb4n := Lib.hid hb4n
      have HBx := Lib.hid hBx
      clear hb4 hTc hbc hb3 hT3 hBx hown hb4n hmin
      go_wp2_with fail
      go_loopg [12, 60] ns.length (fun g f j wr => BestRel key seq ns w4 (w3.heap.size + 1) g f j wr)
      case atStart => exact ⟨0, rfl, by omega, rfl, rfl, hBb, Only.of_below (Below.refl _ _)⟩
      case round =>
        obtain ⟨n, rfl, hn, rfl, rfl, hB, hO⟩ := hrel
        have hsO := hO.size
        by_cases hlt : n < ns.length
        · obtain ⟨g, c, e, _, _, hg1, hg2, hcell⟩ := own_some Hown.out (by omega)
          simp only [Value.slice.injEq, true_and] at e
          obtain ⟨rfl, rfl⟩ := e
          simp at hg1
          obtain ⟨m, hm⟩ : ∃ m, ns[n]? = some m := ⟨ns[n]'hlt, by simp⟩
          obtain ⟨m0, m1, m2, m3⟩ := entsC_at hm
          have k0 : wr.cell? ⟨g, n * 4, none⟩ = some (.string m.k) := by rw [hO.cell hg2 (by omega)]; exact hcell _ _ m0
          have k1 : wr.cell? ⟨g, n * 4 + 1, none⟩ = some (.int .u64 m.s) := by rw [hO.cell hg2 (by omega)]; exact hcell _ _ m1
          have k2 : wr.cell? ⟨g, n * 4 + 2, none⟩ = some (.bool m.d) := by rw [hO.cell hg2 (by omega)]; exact hcell _ _ m2
          have k3 : wr.cell? ⟨g, n * 4 + 3, none⟩ = some (.string m.v) := by rw [hO.cell hg2 (by omega)]; exact hcell _ _ m3
          have Hsnoc := Lib.hid (findM_snoc (key := key) (seq := seq) hm)
          have Hnew := Lib.hid (fun a => find_newer hWc (key := key) (seq := seq) (a := a) hm)
          have HO := Lib.hid hO
          have HB := Lib.hid hB
          have hBlt : w3.heap.size + 1 < wr.heap.size := by omega
          have hgn : g < wr.heap.size := by omega
          have Hw := Lib.hid hWc
          generalize hF : findM key seq (ns.take n) = F at hB
          have HF := Lib.hid hF
          clear hm m0 m1 m2 m3 hcell hO hF hWc hBb
          by_cases hkk : m.k.toList = key.toList
          · by_cases hss : m.s ≤ seq
            · have hhit : hitB key seq m = true := by simp [hitB, hkk, hss]
              have hkb : (m.k.toList == key.toList) = true := by simp [hkk]
              cases F with
              | none =>
                have b0 : wr.cell? ⟨w3.heap.size + 1, 0, none⟩ = some (.string { data := #[] }) := hB.cell 0
                have b1 : wr.cell? ⟨w3.heap.size + 1, 1, none⟩ = some (.int .u64 0) := hB.cell 1
                have b2 : wr.cell? ⟨w3.heap.size + 1, 2, none⟩ = some (.bool false) := hB.cell 2
                have b3 : wr.cell? ⟨w3.heap.size + 1, 3, none⟩ = some (.string { data := #[] }) := hB.cell 3
                have bf := hB.frozen
                have Hhit := Lib.hid hhit
                have Hkk := Lib.hid hkk
                clear hhit hkk hB
                go_wp2_with fail
                go_roundg (ns.length - (n + 1))
                case measure => omega
                case rel =>
                  have e1 : findM key seq (ns.take (n + 1)) = some m := by rw [Hsnoc.out, HF.out, if_pos ⟨Hhit.out, rfl⟩]
                  refine ⟨n + 1, rfl, by omega, rfl, by rw [e1]; rfl, ?_, ?_⟩
                  · rw [e1]
                    have hB1 := HB.out
                    rw [HF.out] at hB1
                    exact ((((hB1.set 0 _).set 1 _).set 2 _).set 3 _).alloc _
                  · exact ((((HO.out.setCell (.inl rfl) _).setCell (.inl rfl) _).setCell (.inl rfl) _).setCell (.inl rfl) _).alloc _
              | some a =>
                have b1 : wr.cell? ⟨w3.heap.size + 1, 1, none⟩ = some (.int .u64 a.s) := hB.cell 1
                have hnw := Hnew.out a HF.out hhit
                have hnw' : ¬ a.s < m.s := by omega
                have Hhit := Lib.hid hhit
                clear hhit hkk hB hnw
                go_wp2_with fail
                go_roundg (ns.length - (n + 1))
                case measure => omega
                case rel =>
                  have e1 : findM key seq (ns.take (n + 1)) = findM key seq (ns.take n) := by rw [Hsnoc.out, HF.out, if_neg (by simp)]
                  exact ⟨n + 1, rfl, by omega, rfl, by rw [e1, HF.out]; rfl, by rw [e1]; exact HB.out.alloc _, HO.out.alloc _⟩
            · have hhit : hitB key seq m = false := by simp [hitB]; intro _; omega
              have hkb : (m.k.toList == key.toList) = true := by simp [hkk]
              have Hhit := Lib.hid hhit
              clear hhit hkk hB
              go_wp2_with fail
              go_roundg (ns.length - (n + 1))
              case measure => omega
              case rel =>
                have e1 : findM key seq (ns.take (n + 1)) = findM key seq (ns.take n) := by rw [Hsnoc.out, Hhit.out, if_neg (by simp)]
                exact ⟨n + 1, rfl, by omega, rfl, by rw [e1, HF.out], by rw [e1]; exact HB.out.alloc _, HO.out.alloc _⟩
          · have hkb : (m.k.toList == key.toList) = false := by simpa using hkk
            have hhit : hitB key seq m = false := by simp [hitB, hkk]
            have Hhit := Lib.hid hhit
            clear hhit hkk hB
            go_wp2_with fail
            go_roundg (ns.length - (n + 1))
            case measure => omega
            case rel =>
              have e1 : findM key seq (ns.take (n + 1)) = findM key seq (ns.take n) := by rw [Hsnoc.out, Hhit.out, if_neg (by simp)]
              exact ⟨n + 1, rfl, by omega, rfl, by rw [e1, HF.out], by rw [e1]; exact HB.out.alloc _, HO.out.alloc _⟩
        · have hF : findM key seq (ns.take n) = o := by rw [List.take_of_length_le (by omega)]; exact Ho.out.symm
          rw [hF] at hB ⊢
          have HO := Lib.hid hO
          have x0 : wr.cell? ⟨w3.heap.size, 0, none⟩ = some (.string (gk o)) := by rw [hO.cell (by omega) (by omega)]; exact HBx.out.cell 0
          have x1 : wr.cell? ⟨w3.heap.size, 1, none⟩ = some (.int .u64 (gs o)) := by rw [hO.cell (by omega) (by omega)]; exact HBx.out.cell 1
          have x2 : wr.cell? ⟨w3.heap.size, 2, none⟩ = some (.bool (gd o)) := by rw [hO.cell (by omega) (by omega)]; exact HBx.out.cell 2
          have x3 : wr.cell? ⟨w3.heap.size, 3, none⟩ = some (.string (gv o)) := by rw [hO.cell (by omega) (by omega)]; exact HBx.out.cell 3
          have b0 : wr.cell? ⟨w3.heap.size + 1, 0, none⟩ = some (.string (gk o)) := hB.cell 0
          have b1 : wr.cell? ⟨w3.heap.size + 1, 1, none⟩ = some (.int .u64 (gs o)) := hB.cell 1
          have b2 : wr.cell? ⟨w3.heap.size + 1, 2, none⟩ = some (.bool (gd o)) := hB.cell 2
          have b3 : wr.cell? ⟨w3.heap.size + 1, 3, none⟩ = some (.string (gv o)) := hB.cell 3
          clear hF hO hB hBb hWc
          go_wp2_with fail
          go_ret
          have hb4 := Hb4n.out
          have hs4 := hb4.size
          exact ⟨rfl, hb4.trans (HO.out.below hs4 (by omega) (by simp))⟩

end Go.Proofs.Ytbocdopjikkomaa
