/- Plain laws: a history without what was not committed; a history with one more transaction. -/
import Derived.Test.YtghmjconljdapaaW
namespace Go.Proofs.Ytghmjconljdapaa

/-- Both find nothing, or both find something, and these fit. -/
def Fits {β γ : Type} (R : β → γ → Prop) (o : Option β) (o' : Option γ) : Prop := (o = none ∧ o' = none) ∨ ∃ v v', o = some v ∧ o' = some v' ∧ R v v'

theorem scan_fits {α β γ : Type} {R : β → γ → Prop} {F : Nat → α → Option β} {G : Nat → α → Option γ} {l : List α} (h : ∀ i x, l[i]? = some x → Fits R (F i x) (G i x)) : Fits R (scan F l) (scan G l) := by
  cases hs : scan F l with
  | none =>
    refine .inl ⟨rfl, scan_none.2 fun i x hx => ?_⟩
    rcases h i x hx with ⟨_, h2⟩ | ⟨v, v', h1, _⟩
    · exact h2
    · rw [scan_none.1 hs i x hx] at h1
      cases h1
  | some v =>
    obtain ⟨i, x, hx, hv, hb⟩ := scan_of_some hs
    rcases h i x hx with ⟨h1, _⟩ | ⟨u, v', h1, h2, h3⟩
    · rw [h1] at hv
      cases hv
    · rw [h1] at hv
      cases hv
      refine .inr ⟨_, v', rfl, scan_some hx h2 fun j y hj hy => ?_, h3⟩
      rcases h j y hy with ⟨_, h4⟩ | ⟨a, a', h4, _⟩
      · exact h4
      · rw [hb j y hj hy] at h4
        cases h4

/-- rest are those of the first n of l that were committed, pl their places. -/
structure Kept (l : List Tx) (n : Nat) (rest : List Tx) (pl : List Nat) : Prop where
  len : pl.length = rest.length
  at_ : ∀ (k : Nat) (x : Tx), rest[k]? = some x → ∃ i : Nat, pl[k]? = some i ∧ i < n ∧ l[i]? = some x
  inc : ∀ (k k' i i' : Nat), k < k' → pl[k]? = some i → pl[k']? = some i' → i < i'
  all : ∀ (i : Nat) (x : Tx), i < n → l[i]? = some x → 0 < x.t → ∃ k : Nat, pl[k]? = some i ∧ rest[k]? = some x
  pos : ∀ x ∈ rest, 0 < x.t

theorem Kept.nil (l : List Tx) : Kept l 0 [] [] := ⟨rfl, by simp, by simp, fun i x h => by omega, by simp⟩

theorem Kept.snoc {l : List Tx} {n : Nat} {rest : List Tx} {pl : List Nat} {x : Tx} (h : Kept l n rest pl) (hx : l[n]? = some x) (ht : 0 < x.t) : Kept l (n + 1) (rest ++ [x]) (pl ++ [n]) := by
  have hl := h.len
  have hlast : ∀ (k i : Nat), pl[k]? = some i → i < n := by
    intro k i hk
    have hk1 := (List.getElem?_eq_some_iff.1 hk).1
    obtain ⟨i', h1, h2, _⟩ := h.at_ k (rest[k]'(by omega)) (by simp)
    rw [hk] at h1
    cases h1
    exact h2
  refine ⟨by simp [hl], fun k y hy => ?_, fun k k' i i' hk h1 h2 => ?_, fun i y hi hy hty => ?_, fun y hy => ?_⟩
  · by_cases hk : k < rest.length
    · rw [List.getElem?_append_left hk] at hy
      obtain ⟨i, h1, h2, h3⟩ := h.at_ k y hy
      exact ⟨i, by rw [List.getElem?_append_left (by omega)]; exact h1, by omega, h3⟩
    · have hk2 := (List.getElem?_eq_some_iff.1 hy).1
      simp at hk2
      obtain rfl : k = rest.length := by omega
      rw [List.getElem?_append_right (by omega)] at hy
      simp at hy
      subst hy
      exact ⟨n, by rw [← hl, List.getElem?_append_right (by omega)]; simp, by omega, hx⟩
  · have hk2 := (List.getElem?_eq_some_iff.1 h2).1
    simp at hk2
    rw [List.getElem?_append_left (by omega)] at h1
    by_cases hk3 : k' < pl.length
    · rw [List.getElem?_append_left hk3] at h2
      exact h.inc k k' i i' hk h1 h2
    · rw [List.getElem?_append_right (by omega), show k' - pl.length = 0 by omega] at h2
      simp at h2
      subst h2
      exact hlast k i h1
  · by_cases hin : i = n
    · subst hin
      rw [hx] at hy
      cases hy
      exact ⟨rest.length, by rw [← hl, List.getElem?_append_right (by omega)]; simp, by rw [List.getElem?_append_right (by omega)]; simp⟩
    · obtain ⟨k, h1, h2⟩ := h.all i y (by omega) hy hty
      have := (List.getElem?_eq_some_iff.1 h1).1
      exact ⟨k, by rw [List.getElem?_append_left this]; exact h1, by rw [List.getElem?_append_left (by omega)]; exact h2⟩
  · rcases List.mem_append.1 hy with hy | hy
    · exact h.pos y hy
    · rw [List.mem_singleton.1 hy]; exact ht

theorem Kept.skip {l : List Tx} {n : Nat} {rest : List Tx} {pl : List Nat} {x : Tx} (h : Kept l n rest pl) (hx : l[n]? = some x) (ht : ¬ 0 < x.t) : Kept l (n + 1) rest pl := by
  refine ⟨h.len, fun k y hy => ?_, h.inc, fun i y hi hy hty => ?_, h.pos⟩
  · obtain ⟨i, h1, h2, h3⟩ := h.at_ k y hy
    exact ⟨i, h1, by omega, h3⟩
  · by_cases hin : i = n
    · subst hin
      rw [hx] at hy
      cases hy
      exact absurd hty ht
    · exact h.all i y (by omega) hy hty

theorem scan_sub {β γ : Type} {R : β → γ → Prop} {F : Nat → Tx → Option β} {G : Nat → Tx → Option γ} {l rest : List Tx} {pl : List Nat} (S : Kept l l.length rest pl)
    (h0 : ∀ i x, l[i]? = some x → ¬ 0 < x.t → F i x = none) (h1 : ∀ k i x, rest[k]? = some x → pl[k]? = some i → l[i]? = some x → Fits R (F i x) (G k x)) : Fits R (scan F l) (scan G rest) := by
  have hpl : ∀ (k : Nat) (x : Tx), rest[k]? = some x → ∃ i : Nat, pl[k]? = some i ∧ l[i]? = some x ∧ Fits R (F i x) (G k x) := by
    intro k x hx
    obtain ⟨i, h2, _, h3⟩ := S.at_ k x hx
    exact ⟨i, h2, h3, h1 k i x hx h2 h3⟩
  cases hs : scan F l with
  | none =>
    refine .inl ⟨rfl, scan_none.2 fun k x hx => ?_⟩
    obtain ⟨i, _, h3, hf⟩ := hpl k x hx
    rcases hf with ⟨_, h2⟩ | ⟨v, v', h2, _⟩
    · exact h2
    · rw [scan_none.1 hs i x h3] at h2
      cases h2
  | some v =>
    obtain ⟨i, x, hx, hv, hb⟩ := scan_of_some hs
    have hpos : 0 < x.t := by
      refine Decidable.byContradiction fun hn => ?_
      rw [h0 i x hx hn] at hv
      cases hv
    obtain ⟨k, h2, h3⟩ := S.all i x (List.getElem?_eq_some_iff.1 hx).1 hx hpos
    rcases h1 k i x h3 h2 hx with ⟨h4, _⟩ | ⟨u, v', h4, h5, h6⟩
    · rw [h4] at hv
      cases hv
    · rw [h4] at hv
      cases hv
      refine .inr ⟨_, v', rfl, scan_some h3 h5 fun k' y hk' hy => ?_, h6⟩
      obtain ⟨i', h7, h8, hf⟩ := hpl k' y hy
      have hlt := S.inc k' k i' i hk' h7 h2
      rcases hf with ⟨_, h9⟩ | ⟨a, a', h9, _⟩
      · exact h9
      · rw [hb i' y hlt h8] at h9
        cases h9

theorem valStep_skip {key : ByteArray} {t : Int} {p : Int × Option Mt} {x : Tx} (hp : 0 ≤ p.1) (ht : ¬ 0 < x.t) : valStep key t p x = p := by
  unfold valStep
  cases wroteOf key x.ws with
  | none => rfl
  | some m =>
    simp only
    rw [if_neg (by omega)]

theorem valStep_pos {key : ByteArray} {t : Int} {p : Int × Option Mt} {x : Tx} (hp : 0 ≤ p.1) : 0 ≤ (valStep key t p x).1 := by
  unfold valStep
  cases wroteOf key x.ws with
  | none => exact hp
  | some m =>
    simp only
    split
    · simp only; omega
    · exact hp

theorem last_filter (key : ByteArray) (t : Int) : ∀ (l : List Tx) (p : Int × Option Mt), 0 ≤ p.1 → (l.filter fun x => decide (0 < x.t)).foldl (valStep key t) p = l.foldl (valStep key t) p := by
  intro l
  induction l with
  | nil => intro p _; rfl
  | cons x l ih =>
    intro p hp
    rw [List.filter_cons]
    by_cases ht : 0 < x.t
    · rw [if_pos (by simpa using ht), List.foldl_cons, List.foldl_cons]
      exact ih _ (valStep_pos hp)
    · rw [if_neg (by simpa using ht), List.foldl_cons, valStep_skip hp ht]
      exact ih _ hp

theorem value_filter (l : List Tx) (key : ByteArray) (t : Int) : valueOf (l.filter fun x => decide (0 < x.t)) key t = valueOf l key t := by
  unfold valueOf lastOf
  rw [last_filter key t l (0, none) (Int.le_refl _)]

theorem times_sublist : ∀ {a b : List Tx}, a.Sublist b → (times a).Sublist (times b) := by
  intro a b h
  induction h with
  | slnil => exact List.Sublist.refl _
  | cons x _ ih =>
    unfold times at ih ⊢
    rw [List.flatMap_cons]
    exact ih.trans (List.sublist_append_right _ _)
  | cons_cons x _ ih =>
    unfold times at ih ⊢
    rw [List.flatMap_cons, List.flatMap_cons]
    exact (List.Sublist.refl _).append ih

theorem may_filter {l : List Tx} (h : mayL l = true) : mayL (l.filter fun x => decide (0 < x.t)) = true := by
  rw [mayL_iff] at h ⊢
  exact ⟨fun x hx => h.1 x (List.mem_filter.1 hx).1, h.2.sublist (times_sublist List.filter_sublist)⟩

/-- The same is wrong, told by other numbers. -/
def SameFlt (pl : List Nat) (f g : Flt) : Prop :=
  f.kind = g.kind ∧ f.key = g.key ∧ (f.kind = 1 ∨ f.kind = 2) ∧ (∃ i k : Nat, f.first = i ∧ g.first = k ∧ pl[k]? = some i) ∧ ∃ j q : Nat, g.second = q ∧ q < pl.length ∧ (f.kind = 1 ∨ f.second = j ∧ pl[q]? = some j)

theorem stale_fits {l rest : List Tx} {pl : List Nat} (S : Kept l l.length rest pl) (hv : ∀ key t, valueOf rest key t = valueOf l key t) (hn : ∀ x ∈ l, 0 ≤ x.t) : Fits (SameFlt pl) (staleOf l) (staleOf rest) := by
  refine scan_sub S (fun i x hx ht => ?_) (fun k i x hr hp hx => ?_)
  · unfold staleT
    rw [if_pos (by have := hn x (List.mem_of_getElem? hx); omega)]
  · have ht := S.pos x (List.mem_of_getElem? hr)
    unfold staleT
    rw [if_neg (by omega), if_neg (by omega)]
    refine scan_fits fun j r _ => ?_
    have hb : badR rest x r = badR l x r := by unfold badR; rw [hv]
    unfold staleR
    rw [hb]
    cases badR l x r with
    | false => exact .inl ⟨rfl, rfl⟩
    | true =>
      have hpos : 0 < pl.length := by have := (List.getElem?_eq_some_iff.1 hp).1; omega
      exact .inr ⟨_, _, rfl, rfl, rfl, rfl, .inl rfl, ⟨i, k, rfl, rfl, hp⟩, 0, 0, rfl, hpos, .inl rfl⟩

theorem lost_fits {l rest : List Tx} {pl : List Nat} (S : Kept l l.length rest pl) (hm : mayL l = true) (hn : ∀ x ∈ l, 0 ≤ x.t) : Fits (SameFlt pl) (lostOf l) (lostOf rest) := by
  refine scan_sub S (fun i x hx ht => ?_) (fun k i x hr hp hx => ?_)
  · refine scan_none.2 fun j y hy => ?_
    unfold lostJ
    rw [if_pos (by have := hn y (List.mem_of_getElem? hy); omega)]
  · have hs := (mayB_iff x).1 (((mayL_iff l).1 hm).1 x (List.mem_of_getElem? hx))
    refine scan_sub S (fun j y hy ht => ?_) (fun q j y hr' hp' hy => ?_)
    · unfold lostJ
      rw [if_pos (by omega)]
    · unfold lostJ
      by_cases hc : y.t ≤ x.s ∨ x.t ≤ y.t
      · rw [if_pos hc, if_pos hc]
        exact .inl ⟨rfl, rfl⟩
      · rw [if_neg hc, if_neg hc]
        refine scan_fits fun a m _ => ?_
        unfold lostM
        cases (wroteOf m.k y.ws).isSome with
        | false => exact .inl ⟨rfl, rfl⟩
        | true => exact .inr ⟨_, _, rfl, rfl, rfl, rfl, .inr rfl, ⟨i, k, rfl, rfl, hp⟩, j, q, rfl, (List.getElem?_eq_some_iff.1 hp').1, .inr ⟨rfl, hp'⟩⟩

/-- Transactions that weren't committed change nothing. -/
theorem open_law {l rest : List Tx} {pl : List Nat} (S : Kept l l.length rest pl) (hr : rest = l.filter fun x => decide (0 < x.t)) (hm : mayL l = true) (hn : ∀ x ∈ l, 0 ≤ x.t) :
    errOf l = 0 ∧ errOf rest = 0 ∧ ((faultOf l = noFlt ∧ faultOf rest = noFlt) ∨ SameFlt pl (faultOf l) (faultOf rest)) := by
  have hm' : mayL rest = true := by rw [hr]; exact may_filter hm
  have hv : ∀ key t, valueOf rest key t = valueOf l key t := fun key t => by rw [hr]; exact value_filter l key t
  unfold errOf faultOf
  rw [hm, hm']
  refine ⟨rfl, rfl, ?_⟩
  rcases stale_fits S hv hn with ⟨h1, h2⟩ | ⟨v, v', h1, h2, h3⟩
  · rw [h1, h2]
    rcases lost_fits S hm hn with ⟨h4, h5⟩ | ⟨u, u', h4, h5, h6⟩
    · rw [h4, h5]; exact .inl ⟨rfl, rfl⟩
    · rw [h4, h5]; exact .inr h6
  · rw [h1, h2]; exact .inr h3

/-! ### One transaction more -/
def emptyTx (s t : Int) : Tx := ⟨s, t, [], []⟩

theorem scan_snoc {α β : Type} {f g : Nat → α → Option β} {l : List α} {z : α} (h : ∀ i x, l[i]? = some x → f i x = g i x) (hz : f l.length z = none) : scan f (l ++ [z]) = scan g l := by
  cases hs : scan g l with
  | none =>
    refine scan_none.2 fun i x hx => ?_
    by_cases hi : i < l.length
    · rw [List.getElem?_append_left hi] at hx
      rw [h i x hx]
      exact scan_none.1 hs i x hx
    · have hi2 := (List.getElem?_eq_some_iff.1 hx).1
      simp at hi2
      obtain rfl : i = l.length := by omega
      simp at hx
      subst hx
      exact hz
  | some v =>
    obtain ⟨i, x, hx, hv, hb⟩ := scan_of_some hs
    have hi := (List.getElem?_eq_some_iff.1 hx).1
    refine scan_some (i := i) (x := x) (by rw [List.getElem?_append_left hi]; exact hx) (by rw [h i x hx]; exact hv) fun j y hj hy => ?_
    rw [List.getElem?_append_left (by omega)] at hy
    rw [h j y hy]
    exact hb j y hj hy

theorem value_more (l : List Tx) (s c : Int) (key : ByteArray) (t : Int) : valueOf (l ++ [emptyTx s c]) key t = valueOf l key t := by
  unfold valueOf lastOf
  rw [List.foldl_append]
  rfl

theorem may_more {l : List Tx} {z : Tx} (h : mayL (l ++ [z]) = true) : mayL l = true := by
  rw [mayL_iff] at h ⊢
  exact ⟨fun x hx => h.1 x (List.mem_append_left _ hx), h.2.sublist (times_sublist (List.sublist_append_left _ _))⟩

theorem more_law {l : List Tx} {s c : Int} (h : mayL (l ++ [emptyTx s c]) = true) : errOf (l ++ [emptyTx s c]) = 0 ∧ faultOf (l ++ [emptyTx s c]) = faultOf l := by
  have hl := may_more h
  unfold errOf faultOf
  rw [h, hl]
  refine ⟨rfl, ?_⟩
  have h1 : staleOf (l ++ [emptyTx s c]) = staleOf l := by
    refine scan_snoc (fun i x _ => ?_) ?_
    · unfold staleT
      have : (fun (_ : Nat) r => staleR (l ++ [emptyTx s c]) i x r) = fun (_ : Nat) r => staleR l i x r := by
        funext _ r
        unfold staleR badR
        rw [value_more]
      rw [this]
    · unfold staleT
      split
      · rfl
      · rfl
  have h2 : lostOf (l ++ [emptyTx s c]) = lostOf l := by
    refine scan_snoc (fun i x _ => ?_) ?_
    · refine scan_snoc (fun _ _ _ => rfl) ?_
      unfold lostJ
      split
      · rfl
      · refine scan_none.2 fun k m _ => ?_
        rfl
    · refine scan_none.2 fun j y _ => ?_
      unfold lostJ
      split
      · rfl
      · rfl
  rw [h1, h2]

end Go.Proofs.Ytghmjconljdapaa
