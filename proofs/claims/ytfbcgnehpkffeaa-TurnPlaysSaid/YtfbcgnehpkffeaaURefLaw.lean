/- The document's turn as plain data: keys with what they are, in whatever order; the two rows they make. No program in it. -/
import Derived.Test.YtfbcgnehpkffeaaUSpec
namespace Go.Proofs.Ytfbcgnehpkffeaa
open Go Go.RowKit
/-- A key: its number, is it dear, pinned, when did it come to its row? -/
structure RK where
  n : Int
  dear : Bool
  pin : Bool
  at_ : Nat
/-- The keys ks make the rows P (plain) and D (dear), each by when. -/
structure Srt (P D ks : List RK) : Prop where
  perm : (P ++ D).Perm ks
  pd : ∀ x ∈ P, x.dear = false
  dd : ∀ x ∈ D, x.dear = true
  ps : (P.map RK.at_).Pairwise (· < ·)
  ds : (D.map RK.at_).Pairwise (· < ·)
  nn : (ks.map RK.n).Nodup
variable {P D ks : List RK} {x y z : RK} {i : Nat}
theorem Srt.mem (h : Srt P D ks) : z ∈ ks ↔ z ∈ P ∨ z ∈ D := by rw [← h.perm.mem_iff, List.mem_append]
theorem Srt.inP (h : Srt P D ks) (hz : z ∈ ks) (hd : z.dear = false) : z ∈ P := (h.mem.1 hz).resolve_right fun h2 => by rw [h.dd z h2] at hd; cases hd
theorem Srt.inD (h : Srt P D ks) (hz : z ∈ ks) (hd : z.dear = true) : z ∈ D := (h.mem.1 hz).resolve_left fun h2 => by rw [h.pd z h2] at hd; cases hd
theorem Srt.names (h : Srt P D ks) : ((P ++ D).map RK.n).Nodup := (h.perm.map RK.n).nodup_iff.2 h.nn
theorem Srt.inj (h : Srt P D ks) (hx : x ∈ ks) (hy : y ∈ ks) (e : x.n = y.n) : x = y := by
  obtain ⟨i, hi, ei⟩ := List.getElem_of_mem hx
  obtain ⟨j, hj, ej⟩ := List.getElem_of_mem hy
  have h1 : (ks.map RK.n)[i]'(by simpa using hi) = (ks.map RK.n)[j]'(by simpa using hj) := by simp [ei, ej, e]
  have := (List.getElem_inj h.nn).1 h1
  subst this
  exact ei.symm.trans ej
/-- In a row by when: the first one that fits is the one that came first. -/
theorem min_find {L : List RK} (hs : (L.map RK.at_).Pairwise (· < ·)) {p : RK → Bool} (hx : L.find? p = some x) (hy : y ∈ L) (hpy : p y = true) (hmin : ∀ z ∈ L, p z = true → y.at_ ≤ z.at_) : y = x := by
  obtain ⟨hpx, A, B, e, hno⟩ := List.find?_eq_some_iff_append.1 hx
  have h1 := hmin x (by rw [e]; simp) hpx
  rw [e] at hy hs
  rcases List.mem_append.1 hy with h | h
  · have := hno y h
    rw [hpy] at this; cases this
  · rcases List.mem_cons.1 h with h | h
    · exact h
    · rw [List.map_append, List.map_cons] at hs
      have h2 := (List.pairwise_cons.1 (List.pairwise_append.1 hs).2.1).1 y.at_ (List.mem_map.2 ⟨y, h, rfl⟩)
      omega
def fits (b free : Bool) (z : RK) : Bool := (z.dear == b) && !(free && z.pin)
/-- What 'first' answers. -/
def IsFirst (ks : List RK) (b free : Bool) (r : Int) : Prop := (r = -1 ∧ ∀ z ∈ ks, fits b free z = false) ∨ ∃ (i : Nat) (y : RK), r = (i : Int) ∧ ks[i]? = some y ∧ fits b free y = true ∧ ∀ z ∈ ks, fits b free z = true → y.at_ ≤ z.at_
theorem Srt.first (h : Srt P D ks) {b free : Bool} {r : Int} (hr : IsFirst ks b free r) :
    ((if b then D else P).find? (fun z => !(free && z.pin)) = none ∧ r = -1) ∨ ∃ (i : Nat) (y : RK), (if b then D else P).find? (fun z => !(free && z.pin)) = some y ∧ r = (i : Int) ∧ ks[i]? = some y := by
  have hin : ∀ z, fits b free z = true → z ∈ ks → z ∈ (if b then D else P) := fun z hf hz => by
    unfold fits at hf
    rw [Bool.and_eq_true] at hf
    cases b with
    | true => exact h.inD hz (by simpa using hf.1)
    | false => exact h.inP hz (by simpa using hf.1)
  have hout : ∀ z, z ∈ (if b then D else P) → (!(free && z.pin)) = true → z ∈ ks ∧ fits b free z = true := fun z hz hp => by
    unfold fits
    rw [hp, Bool.and_true]
    cases b with
    | true => exact ⟨h.mem.2 (.inr hz), by rw [h.dd z hz]; rfl⟩
    | false => exact ⟨h.mem.2 (.inl hz), by rw [h.pd z hz]; rfl⟩
  have hso : ((if b then D else P).map RK.at_).Pairwise (· < ·) := by cases b; exact h.ps; exact h.ds
  rcases hr with ⟨rfl, hno⟩ | ⟨i, y, rfl, hi, hy, hmin⟩
  · left
    refine ⟨List.find?_eq_none.2 fun z hz hp => ?_, rfl⟩
    obtain ⟨h1, h2⟩ := hout z hz hp
    rw [hno z h1] at h2; cases h2
  · right
    have hyL := hin y hy (List.mem_of_getElem? hi)
    have hpy : (!(free && y.pin)) = true := by unfold fits at hy; rw [Bool.and_eq_true] at hy; exact hy.2
    cases hf : (if b then D else P).find? (fun z => !(free && z.pin)) with
    | none => exact absurd hpy (List.find?_eq_none.1 hf y hyL)
    | some x =>
      obtain rfl : y = x := min_find hso hf hyL hpy fun z hz hp => by
        obtain ⟨h1, h2⟩ := hout z hz hp
        exact hmin z h1 h2
      exact ⟨i, y, rfl, rfl, hi⟩
theorem set_perm (h : ks[i]? = some x) (y : RK) : ks.Perm (x :: ks.eraseIdx i) ∧ (ks.set i y).Perm (y :: ks.eraseIdx i) := by
  obtain ⟨hi, e⟩ := List.getElem?_eq_some_iff.1 h
  have e1 : ks = ks.take i ++ x :: ks.drop (i + 1) := by rw [← e, List.getElem_cons_drop, List.take_append_drop]
  have e2 : ks.eraseIdx i = ks.take i ++ ks.drop (i + 1) := List.eraseIdx_eq_take_drop_succ _ _
  have e3 : ks.set i y = ks.take i ++ y :: ks.drop (i + 1) := by rw [List.set_eq_take_append_cons_drop, if_pos hi]
  constructor
  · rw [e2]
    conv => lhs; rw [e1]
    exact List.perm_middle
  · rw [e2, e3]
    exact List.perm_middle
/-- A key is taken out of the row in which it is. -/
theorem split_of {L : List RK} (hx : x ∈ L) (hn : (L.map RK.n).Nodup) : ∃ A B, L = A ++ x :: B ∧ (L.map RK.n).erase x.n = (A ++ B).map RK.n := by
  obtain ⟨A, B, rfl⟩ := List.append_of_mem hx
  refine ⟨A, B, rfl, ?_⟩
  rw [List.map_append, List.map_cons] at hn ⊢
  have hxA : x.n ∉ A.map RK.n := fun h => (List.nodup_append.1 hn).2.2 _ h _ List.mem_cons_self rfl
  rw [List.erase_append_right _ hxA, List.erase_cons_head, List.map_append]
end Go.Proofs.Ytfbcgnehpkffeaa
