/- Two tables side by side. -/
import Derived.Test.YtbocdopjikkomaaG3
import Derived.Test.YtbocdopjikkomaaS
namespace Go.Proofs.Ytbocdopjikkomaa
open Go.RowKit

/-- Two tables in blocks of their own. -/
structure TwoIn (w0 : World) (t u : Nat) (ns us : List Nd) (wr : World) : Prop where
  fst : TabIn w0 t ns wr
  snd : TabIn w0 u us wr
  ne : t ≠ u
  dis : ∀ n ∈ ns, ∀ m ∈ us, n.b ≠ m.b

theorem Tab.only {tb u : Nat} {ns us : List Nd} {w w' : World} (h : Tab u us w) (hT : Tab tb ns w) (hO : Only tb ns w w') (hne : tb ≠ u) (hd : ∀ n ∈ ns, ∀ m ∈ us, n.b ≠ m.b) : Tab u us w' := by
  obtain ⟨f, hh, hf⟩ := h
  obtain ⟨f', hh', _⟩ := hT
  refine ⟨f, ⟨(hO.block u hh.head.lt (Ne.symm hne) ?_).trans hh.head, fun m hm => (hO.block m.b (hh.node m hm).lt ?_ ?_).trans (hh.node m hm)⟩, hf⟩
  · intro n hn
    exact (hh'.node n hn).ne hh.head (by decide)
  · exact (hh.node m hm).ne hh'.head (by decide)
  · intro n hn
    exact hd n hn m hm

theorem TwoIn.below {w0 : World} {t u : Nat} {ns us : List Nd} {w w' : World} (h : TwoIn w0 t u ns us w) (hb : Below w.heap.size w w') : TwoIn w0 t u ns us w' :=
  ⟨h.fst.below hb, h.snd.below hb, h.ne, h.dis⟩

theorem TwoIn.swap {w0 : World} {t u : Nat} {ns us : List Nd} {w : World} (h : TwoIn w0 t u ns us w) : TwoIn w0 u t us ns w :=
  ⟨h.snd, h.fst, Ne.symm h.ne, fun n hn m hm => Ne.symm (h.dis m hm n hn)⟩

/-- A put into the first one. -/
theorem TwoIn.put {w0 wr w4 : World} {t u b : Nat} {ns us : List Nd} {k : ByteArray} {s : Int} {d : Bool} {v : ByteArray} {h : Int}
    (hin : TwoIn w0 t u ns us wr) (htb : w0.heap.size ≤ t)
    (hb : wr.heap.size ≤ b) (hT : Tab t (putL b ns k s d v h) w4) (hW : Wf (putL b ns k s d v h)) (hO : Only t ns wr w4) : TwoIn w0 t u (putL b ns k s d v h) us w4 := by
  have h1 := hin.fst.step (Below.refl _ _) htb hb hT hW hO
  refine ⟨h1, ⟨hin.snd.1.only hin.fst.1 hO hin.ne hin.dis, hin.snd.2.1, hin.snd.2.2.1, ?_⟩, hin.ne, ?_⟩
  · exact h1.2.2.2
  · intro n hn m hm
    by_cases hr : putRes ns k s d v h = 0
    · rcases (mem_putL hr n).1 hn with rfl | hn
      · have := hin.snd.1.nlt hm
        show b ≠ m.b
        omega
      · exact hin.dis n hn m hm
    · rw [putL, if_neg hr] at hn
      exact hin.dis n hn m hm

/-! ### Tables with the same entries -/
def ents (ns : List Nd) : List En := ns.map enOf

theorem ents_pre {key : ByteArray} {seq : Int} : ∀ {ns us : List Nd}, ents ns = ents us → ents (preOf key seq ns) = ents (preOf key seq us) ∧ ents (postOf key seq ns) = ents (postOf key seq us)
  | [], [], _ => ⟨rfl, rfl⟩
  | [], _ :: _, h => by simp [ents] at h
  | _ :: _, [], h => by simp [ents] at h
  | n :: ns, m :: us, h => by
    simp only [ents, List.map_cons, List.cons.injEq, enOf, En.mk.injEq] at h
    obtain ⟨⟨h1, h2, h3, h4⟩, h5⟩ := h
    have ih := ents_pre (key := key) (seq := seq) (ns := ns) (us := us) h5
    unfold preOf postOf
    rw [List.takeWhile_cons, List.takeWhile_cons, List.dropWhile_cons, List.dropWhile_cons, h1, h2]
    split
    · exact ⟨by simp only [ents, List.map_cons, enOf, h1, h2, h3, h4]; exact congrArg _ ih.1, ih.2⟩
    · exact ⟨rfl, by simp only [ents, List.map_cons, enOf, h1, h2, h3, h4]; exact congrArg _ h5⟩

theorem twice_ents {k : ByteArray} {s : Int} {C D : List Nd} (h : ents C = ents D) : twiceB k s C = twiceB k s D := by
  cases C with
  | nil => cases D with
    | nil => rfl
    | cons _ _ => simp [ents] at h
  | cons a C => cases D with
    | nil => simp [ents] at h
    | cons b D =>
      simp only [ents, List.map_cons, List.cons.injEq, enOf, En.mk.injEq] at h
      simp only [twiceB, h.1.1, h.1.2.1]

theorem res_ents {ns us : List Nd} (h : ents ns = ents us) {k : ByteArray} {s : Int} {d : Bool} {v : ByteArray} {h1 h2 : Int} (a1 : 1 ≤ h1 ∧ h1 ≤ 8) (a2 : 1 ≤ h2 ∧ h2 ≤ 8) : putRes ns k s d v h1 = putRes us k s d v h2 := by
  unfold putRes
  rw [twice_ents (ents_pre h).2, if_neg (by omega : ¬ (h1 < 1 ∨ 8 < h1)), if_neg (by omega : ¬ (h2 < 1 ∨ 8 < h2))]

theorem putL_ents {ns us : List Nd} (h : ents ns = ents us) {b b' : Nat} {k : ByteArray} {s : Int} {d : Bool} {v : ByteArray} {h1 h2 : Int} (a1 : 1 ≤ h1 ∧ h1 ≤ 8) (a2 : 1 ≤ h2 ∧ h2 ≤ 8) :
    ents (putL b ns k s d v h1) = ents (putL b' us k s d v h2) := by
  unfold putL
  rw [res_ents h a1 a2]
  split
  · have := ents_pre (key := k) (seq := s) h
    simp only [ents, List.map_append, List.map_cons, enOf] at this ⊢
    rw [this.1, this.2]
  · exact h

theorem putL_height {b : Nat} {ns : List Nd} {k : ByteArray} {s : Int} {d : Bool} {v : ByteArray} {h : Int} {H : Nat} (hh : h = H) (ha : ∀ n ∈ ns, n.h = H) : ∀ n ∈ putL b ns k s d v h, n.h = H := by
  intro n hn
  by_cases hr : putRes ns k s d v h = 0
  · rcases (mem_putL hr n).1 hn with rfl | hn
    · show h.toNat = H
      omega
    · exact ha n hn
  · rw [putL, if_neg hr] at hn
    exact ha n hn

theorem putL_len {b : Nat} {ns : List Nd} {k : ByteArray} {s : Int} {d : Bool} {v : ByteArray} {h : Int} : (putL b ns k s d v h).length ≤ ns.length + 1 := by
  by_cases hr : putRes ns k s d v h = 0
  · rw [length_putL hr]; omega
  · rw [putL, if_neg hr]; omega

/-- Of towers of one height all are passed. -/
theorem visL_flat {H : Nat} (h0 : 0 < H) : ∀ {ns : List Nd}, (∀ n ∈ ns, n.h = H) → visL 0 ns = ns.length
  | [], _ => rfl
  | n :: r, h => by
    have h1 := h n (by simp)
    have ih := visL_flat h0 (ns := r) fun x hx => h x (by simp [hx])
    unfold visL
    rw [ih, if_pos ⟨by omega, fun x hx => by have := h x (by simp [hx]); omega⟩, List.length_cons]
    omega

/-- The last one is passed. -/
theorem visL_pos : ∀ {ns : List Nd}, (∀ n ∈ ns, 0 < n.h) → ns ≠ [] → 1 ≤ visL 0 ns
  | [], _, h => absurd rfl h
  | n :: r, h, _ => by
    unfold visL
    cases r with
    | nil => rw [if_pos ⟨h n (by simp), by simp⟩]; omega
    | cons m r =>
      have := visL_pos (ns := m :: r) (fun x hx => h x (by simp [hx])) (by simp)
      omega

theorem ents_length {ns us : List Nd} (h : ents ns = ents us) : ns.length = us.length := by
  have := congrArg List.length h
  simpa [ents] using this

theorem ents_size {ns us : List Nd} (h : ents ns = ents us) : sizeOf' ns = sizeOf' us := by
  have e : ∀ l : List Nd, sizeOf' l = ((ents l).map fun x => x.k.size + x.v.size).sum := by
    intro l
    simp [sizeOf', ents, enOf, Function.comp_def]
  rw [e, e, h]

theorem ents_at {ns us : List Nd} (h : ents ns = ents us) (i : Nat) (a b : Nd) (ha : ns[i]? = some a) (hb : us[i]? = some b) : SameEn a b := by
  have e := congrArg (fun l => l[i]?) h
  simp only [ents, List.getElem?_map, ha, hb, Option.map_some, Option.some.injEq, enOf, En.mk.injEq] at e
  exact ⟨e.1, e.2.1, e.2.2.1, e.2.2.2⟩

theorem got_ents {key : ByteArray} {C D : List Nd} (h : ents C = ents D) : gk (gotOf key C) = gk (gotOf key D) ∧ gs (gotOf key C) = gs (gotOf key D) ∧ gd (gotOf key C) = gd (gotOf key D) ∧ gv (gotOf key C) = gv (gotOf key D) ∧ (gotOf key C).isSome = (gotOf key D).isSome := by
  cases C with
  | nil => cases D with
    | nil => exact ⟨rfl, rfl, rfl, rfl, rfl⟩
    | cons _ _ => simp [ents] at h
  | cons a C => cases D with
    | nil => simp [ents] at h
    | cons b D =>
      simp only [ents, List.map_cons, List.cons.injEq, enOf, En.mk.injEq] at h
      obtain ⟨⟨h1, h2, h3, h4⟩, _⟩ := h
      by_cases hk : a.k.toList = key.toList
      · rw [gotOf_yes hk, gotOf_yes (by rw [← h1]; exact hk)]
        exact ⟨h1, h2, h3, h4, rfl⟩
      · rw [gotOf_no hk, gotOf_no (by rw [← h1]; exact hk)]
        exact ⟨rfl, rfl, rfl, rfl, rfl⟩

end Go.Proofs.Ytbocdopjikkomaa
