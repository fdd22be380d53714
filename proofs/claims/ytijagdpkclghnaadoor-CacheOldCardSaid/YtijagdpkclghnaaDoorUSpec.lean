/- What a turn's calls make of it: plain laws. -/
import Derived.Test.YtijagdpkclghnaaDoorUState
namespace Go.Proofs.YtijagdpkclghnaaDoor
open Go Go.RowKit
namespace TS
variable (T : TS)
def keys : List Int := T.plain ++ T.dear
def has (k : Int) : Bool := T.dear.contains k || T.plain.contains k
def full : Bool := decide (T.most ≤ T.plain.length + T.dear.length)
def addE (k : Int) : Int := if T.has k then 11 else if T.full then 10 else 0
def addT (k : Int) : TS := if T.has k then T else if T.full then T else { T with plain := T.plain ++ [k] }
def fallT : TS := match T.dear with
  | [] => T
  | d :: ds => if T.limit < T.dear.length then { T with plain := T.plain ++ [d], dear := ds } else T
def moved (k : Int) : TS := { T with plain := T.plain.erase k, dear := T.dear.erase k ++ [k] }
def touchT (k : Int) : TS := if T.has k then (T.moved k).fallT else T
def dropT (k : Int) : TS := { T with plain := T.plain.erase k, dear := T.dear.erase k, pins := T.pins.erase k }
def pinT (k : Int) (on : Bool) : TS := if T.has k then { T with pins := if on then addTo T.pins k else T.pins.erase k } else T
end TS
theorem TS.fallT_yes {T : TS} {d : Int} {ds : List Int} (hd : T.dear = d :: ds) (h : T.limit < T.dear.length) : T.fallT = { T with plain := T.plain ++ [d], dear := ds } := by
  unfold TS.fallT
  split
  · next e => rw [e] at hd; cases hd
  · next d' ds' e => rw [e] at hd; cases hd; rw [if_pos h]
theorem TS.fallT_no {T : TS} (h : ¬ T.limit < T.dear.length) : T.fallT = T := by
  unfold TS.fallT
  split
  · rfl
  · rw [if_neg h]
variable {T : TS}
theorem has_iff (T : TS) (k : Int) : T.has k = true ↔ k ∈ T.plain ++ T.dear := by
  unfold TS.has
  rw [Bool.or_eq_true, List.contains_eq_mem, List.contains_eq_mem, decide_eq_true_eq, decide_eq_true_eq, List.mem_append]
  exact Or.comm
theorem Good.add (h : Good T) (k : Int) (hk : In64 k) : Good (T.addT k) := by
  unfold TS.addT
  cases hh : T.has k with
  | true => simpa using h
  | false =>
    cases hf : T.full with
    | true => simpa using h
    | false =>
      simp only [Bool.false_eq_true, if_false]
      have hn : k ∉ T.plain ++ T.dear := fun hm => by rw [(has_iff T k).2 hm] at hh; cases hh
      have hl : ¬ T.most ≤ T.plain.length + T.dear.length := by simpa [TS.full] using hf
      have hp : ((T.plain ++ [k]) ++ T.dear).Perm (k :: (T.plain ++ T.dear)) := by
        rw [List.append_assoc]
        exact List.perm_middle
      refine ⟨h.m1, h.m64, h.lim, by simp; omega, h.dlen, hp.nodup_iff.2 (List.nodup_cons.2 ⟨hn, h.nodup⟩), fun x hx => ?_⟩
      rcases List.mem_cons.1 (hp.mem_iff.1 hx) with rfl | hx
      · exact hk
      · exact h.in64 x hx
theorem Good.drop (h : Good T) (k : Int) : Good (T.dropT k) := by
  have hs : ((T.plain.erase k) ++ (T.dear.erase k)).Sublist (T.plain ++ T.dear) := (List.erase_sublist).append (List.erase_sublist)
  have l1 : (T.plain.erase k).length ≤ T.plain.length := List.length_erase_le
  have l2 : (T.dear.erase k).length ≤ T.dear.length := List.length_erase_le
  have e1 := h.len
  have e2 := h.dlen
  exact ⟨h.m1, h.m64, h.lim, by show (T.plain.erase k).length + (T.dear.erase k).length ≤ T.most; omega, by show (T.dear.erase k).length ≤ T.limit; omega, h.nodup.sublist hs, fun x hx => h.in64 x (hs.subset hx)⟩
theorem Good.pin (h : Good T) (k : Int) (on : Bool) : Good (T.pinT k on) := by
  unfold TS.pinT
  split
  · exact ⟨h.m1, h.m64, h.lim, h.len, h.dlen, h.nodup, h.in64⟩
  · exact h
theorem erase_len {l : List Int} {k : Int} (h : k ∈ l) : (l.erase k).length + 1 = l.length := by
  have := List.length_erase_of_mem h
  have h2 : 0 < l.length := List.length_pos_of_mem h
  omega
theorem moved_perm (h : Good T) (k : Int) (hk : T.has k = true) : ((T.moved k).plain ++ (T.moved k).dear).Perm (T.plain ++ T.dear) := by
  have hm := (has_iff T k).1 hk
  show (T.plain.erase k ++ (T.dear.erase k ++ [k])).Perm _
  rcases List.mem_append.1 hm with h1 | h1
  · have h2 : k ∉ T.dear := fun h2 => (List.nodup_append.1 h.nodup).2.2 k h1 k h2 rfl
    rw [List.erase_of_not_mem h2]
    have p1 : (T.plain.erase k ++ (T.dear ++ [k])).Perm (k :: (T.plain.erase k ++ T.dear)) := by
      rw [← List.append_assoc]
      exact List.perm_append_singleton k _
    have p2 : (k :: (T.plain.erase k ++ T.dear)).Perm (T.plain ++ T.dear) := by
      rw [← List.cons_append]
      exact (List.perm_cons_erase h1).symm.append_right _
    exact p1.trans p2
  · have h2 : k ∉ T.plain := fun h2 => (List.nodup_append.1 h.nodup).2.2 k h2 k h1 rfl
    rw [List.erase_of_not_mem h2]
    refine List.Perm.append_left _ ?_
    exact (List.perm_append_singleton k _).trans (List.perm_cons_erase h1).symm
theorem moved_len (h : Good T) (k : Int) (hk : T.has k = true) : (T.moved k).plain.length + (T.moved k).dear.length = T.plain.length + T.dear.length := by
  have := (moved_perm h k hk).length_eq
  simpa using this
theorem moved_dear (T : TS) (k : Int) : (T.moved k).dear.length ≤ T.dear.length + 1 := by
  have : (T.dear.erase k).length ≤ T.dear.length := List.length_erase_le
  show (T.dear.erase k ++ [k]).length ≤ _
  simp; omega
theorem Good.touch (h : Good T) (k : Int) : Good (T.touchT k) := by
  unfold TS.touchT
  by_cases hk : T.has k = true
  · rw [if_pos hk]
    have hp := moved_perm h k hk
    have hl := moved_len h k hk
    have hd := moved_dear T k
    have e1 := h.len
    have e2 := h.dlen
    unfold TS.fallT
    cases hc : (T.moved k).dear with
    | nil => exact absurd hc (by simp [TS.moved])
    | cons d ds =>
      rw [hc] at hp hl hd
      simp only [List.length_cons] at hl hd ⊢
      by_cases hlim : (T.moved k).limit < ds.length + 1
      · rw [if_pos hlim]
        have hl2 : T.limit < ds.length + 1 := hlim
        have p2 : (((T.moved k).plain ++ [d]) ++ ds).Perm (T.plain ++ T.dear) := by
          rw [List.append_assoc]; exact hp
        exact ⟨h.m1, h.m64, h.lim, by show ((T.moved k).plain ++ [d]).length + ds.length ≤ T.most; simp; omega, by show ds.length ≤ T.limit; omega, p2.nodup_iff.2 h.nodup, fun x hx => h.in64 x (p2.mem_iff.1 hx)⟩
      · rw [if_neg hlim]
        have hl2 : ¬ T.limit < ds.length + 1 := hlim
        exact ⟨h.m1, h.m64, h.lim, by show (T.moved k).plain.length + (T.moved k).dear.length ≤ T.most; rw [hc]; simp; omega, by show (T.moved k).dear.length ≤ T.limit; rw [hc]; simp; omega, by rw [hc]; exact hp.nodup_iff.2 h.nodup, fun x hx => h.in64 x (by rw [hc] at hx; exact hp.mem_iff.1 hx)⟩
  · rw [if_neg hk]; exact h
end Go.Proofs.YtijagdpkclghnaaDoor
