/- What ties the program's turn to the document's: plain laws. No program in it. -/
import Derived.Test.YtfbcgnehpkffeaaURefLaw
namespace Go.Proofs.Ytfbcgnehpkffeaa
open Go Go.RowKit
structure RS where
  most : Nat
  limit : Nat
  ks : List RK
  clock : Nat
variable {P D ks : List RK} {x y z : RK} {i : Nat} {T : TS} {R : RS}
theorem not_in_other (h : Srt P D ks) (hx : x ∈ P) : x.n ∉ D.map RK.n := fun hm => by
  have := h.names
  rw [List.map_append] at this
  exact (List.nodup_append.1 this).2.2 _ (List.mem_map.2 ⟨x, hx, rfl⟩) _ hm rfl
theorem not_in_other' (h : Srt P D ks) (hx : x ∈ D) : x.n ∉ P.map RK.n := fun hm => by
  have := h.names
  rw [List.map_append] at this
  exact (List.nodup_append.1 this).2.2 _ hm _ (List.mem_map.2 ⟨x, hx, rfl⟩) rfl
/-- A key goes out of its row. -/
theorem Srt.out (h : Srt P D ks) (hi : ks[i]? = some x) : ∃ P' D', Srt P' D' (ks.eraseIdx i) ∧ P'.map RK.n = (P.map RK.n).erase x.n ∧ D'.map RK.n = (D.map RK.n).erase x.n := by
  have hx := List.mem_of_getElem? hi
  have hp := h.perm.trans (set_perm hi x).1
  have hn := h.names
  rw [List.map_append] at hn
  have hne : ((ks.eraseIdx i).map RK.n).Nodup := h.nn.sublist ((List.eraseIdx_sublist ks i).map RK.n)
  rcases h.mem.1 hx with h1 | h1
  · obtain ⟨A, B, e, e2⟩ := split_of h1 (List.nodup_append.1 hn).1
    have hsub : (A ++ B).Sublist P := by rw [e]; exact List.Sublist.append_left (List.sublist_cons_self _ _) _
    refine ⟨A ++ B, D, ⟨?_, fun z hz => h.pd z (hsub.subset hz), h.dd, h.ps.sublist (hsub.map _), h.ds, hne⟩, e2.symm, (List.erase_of_not_mem (not_in_other h h1)).symm⟩
    rw [e, List.append_assoc, List.cons_append] at hp
    have h2 := (List.perm_cons x).1 ((List.perm_middle (a := x) (l₁ := A) (l₂ := B ++ D)).symm.trans hp)
    rw [List.append_assoc]; exact h2
  · obtain ⟨A, B, e, e2⟩ := split_of h1 (List.nodup_append.1 hn).2.1
    have hsub : (A ++ B).Sublist D := by rw [e]; exact List.Sublist.append_left (List.sublist_cons_self _ _) _
    refine ⟨P, A ++ B, ⟨?_, h.pd, fun z hz => h.dd z (hsub.subset hz), h.ps, h.ds.sublist (hsub.map _), hne⟩, (List.erase_of_not_mem (not_in_other' h h1)).symm, e2.symm⟩
    rw [e, ← List.append_assoc] at hp
    have h2 := (List.perm_cons x).1 ((List.perm_middle (a := x) (l₁ := P ++ A) (l₂ := B)).symm.trans hp)
    rw [← List.append_assoc]; exact h2
theorem map_set_same (hi : ks[i]? = some x) (he : y.n = x.n) : (ks.set i y).map RK.n = ks.map RK.n := by
  obtain ⟨hl, e⟩ := List.getElem?_eq_some_iff.1 hi
  rw [List.map_set, he]
  apply List.ext_getElem
  · simp
  · intro j h1 h2
    by_cases hj : i = j
    · subst hj; rw [List.getElem_set_self]; simp [e]
    · rw [List.getElem_set_ne hj]
theorem sorted_snoc {L : List RK} {c : Nat} (hs : (L.map RK.at_).Pairwise (· < ·)) (hl : ∀ z ∈ L, z.at_ < c) (hy : y.at_ = c) : ((L ++ [y]).map RK.at_).Pairwise (· < ·) := by
  rw [List.map_append, List.pairwise_append]
  refine ⟨hs, by simp, fun a ha b hb => ?_⟩
  obtain ⟨z, hz, rfl⟩ := List.mem_map.1 ha
  have := hl z hz
  have hb' : b = y.at_ := by simpa using hb
  omega
/-- A key comes to the end of a row. -/
theorem Srt.toDear {c : Nat} (h : Srt P D (ks.eraseIdx i)) (hi : ks[i]? = some x) (hnn : (ks.map RK.n).Nodup) (hc : ∀ z ∈ ks, z.at_ < c) (he : y.n = x.n) (hd : y.dear = true) (ha : y.at_ = c) : Srt P (D ++ [y]) (ks.set i y) := by
  refine ⟨?_, h.pd, fun z hz => ?_, h.ps, sorted_snoc h.ds (fun z hz => hc z ((List.eraseIdx_sublist ks i).subset (h.mem.2 (.inr hz)))) ha, by rw [map_set_same hi he]; exact hnn⟩
  · rw [← List.append_assoc]
    exact ((List.perm_append_singleton y (P ++ D)).trans (h.perm.cons y)).trans (set_perm hi y).2.symm
  · rcases List.mem_append.1 hz with h1 | h1
    · exact h.dd z h1
    · rw [List.mem_singleton.1 h1]; exact hd
theorem Srt.toPlain {c : Nat} (h : Srt P D (ks.eraseIdx i)) (hi : ks[i]? = some x) (hnn : (ks.map RK.n).Nodup) (hc : ∀ z ∈ ks, z.at_ < c) (he : y.n = x.n) (hd : y.dear = false) (ha : y.at_ = c) : Srt (P ++ [y]) D (ks.set i y) := by
  refine ⟨?_, fun z hz => ?_, h.dd, sorted_snoc h.ps (fun z hz => hc z ((List.eraseIdx_sublist ks i).subset (h.mem.2 (.inl hz)))) ha, h.ds, by rw [map_set_same hi he]; exact hnn⟩
  · have h1 : ((P ++ [y]) ++ D).Perm (y :: (P ++ D)) := by rw [List.append_assoc]; exact List.perm_middle
    exact (h1.trans (h.perm.cons y)).trans (set_perm hi y).2.symm
  · rcases List.mem_append.1 hz with h1 | h1
    · exact h.pd z h1
    · rw [List.mem_singleton.1 h1]; exact hd
/-- Another key comes to the plain ones. -/
theorem Srt.new {c : Nat} (h : Srt P D ks) (hc : ∀ z ∈ ks, z.at_ < c) (hn : y.n ∉ ks.map RK.n) (hd : y.dear = false) (ha : y.at_ = c) : Srt (P ++ [y]) D (ks ++ [y]) := by
  refine ⟨?_, fun z hz => ?_, h.dd, sorted_snoc h.ps (fun z hz => hc z (h.mem.2 (.inl hz))) ha, h.ds, ?_⟩
  · have h1 : ((P ++ [y]) ++ D).Perm (y :: (P ++ D)) := by rw [List.append_assoc]; exact List.perm_middle
    exact (h1.trans (h.perm.cons y)).trans (List.perm_append_singleton y ks).symm
  · rcases List.mem_append.1 hz with h1 | h1
    · exact h.pd z h1
    · rw [List.mem_singleton.1 h1]; exact hd
  · rw [List.map_append]
    exact ((List.perm_append_singleton y.n (ks.map RK.n)).nodup_iff).2 (List.nodup_cons.2 ⟨hn, h.nn⟩)
/-- A key is pinned, or may go again: it stays where it is. -/
theorem Srt.swap (h : Srt P D ks) (hi : ks[i]? = some x) (he : y.n = x.n) (hd : y.dear = x.dear) (ha : y.at_ = x.at_) : ∃ P' D', Srt P' D' (ks.set i y) ∧ P'.map RK.n = P.map RK.n ∧ D'.map RK.n = D.map RK.n := by
  have hx := List.mem_of_getElem? hi
  have hp := h.perm.trans (set_perm hi y).1
  have hnn : ((ks.set i y).map RK.n).Nodup := by rw [map_set_same hi he]; exact h.nn
  rcases h.mem.1 hx with h1 | h1
  · obtain ⟨A, B, rfl⟩ := List.append_of_mem h1
    refine ⟨A ++ y :: B, D, ⟨?_, fun z hz => ?_, h.dd, ?_, h.ds, hnn⟩, by simp [he], rfl⟩
    · rw [List.append_assoc, List.cons_append] at hp ⊢
      have h2 := (List.perm_cons x).1 ((List.perm_middle (a := x) (l₁ := A) (l₂ := B ++ D)).symm.trans hp)
      exact (List.perm_middle.trans (h2.cons y)).trans (set_perm hi y).2.symm
    · rcases List.mem_append.1 hz with h2 | h2
      · exact h.pd z (List.mem_append.2 (.inl h2))
      · rcases List.mem_cons.1 h2 with rfl | h2
        · rw [hd]; exact h.pd x h1
        · exact h.pd z (List.mem_append.2 (.inr (List.mem_cons_of_mem _ h2)))
    · have := h.ps
      rw [List.map_append, List.map_cons] at this ⊢
      rw [ha]; exact this
  · obtain ⟨A, B, rfl⟩ := List.append_of_mem h1
    refine ⟨P, A ++ y :: B, ⟨?_, h.pd, fun z hz => ?_, h.ps, ?_, hnn⟩, rfl, by simp [he]⟩
    · rw [← List.append_assoc] at hp ⊢
      have h2 := (List.perm_cons x).1 ((List.perm_middle (a := x) (l₁ := P ++ A) (l₂ := B)).symm.trans hp)
      exact (List.perm_middle.trans (h2.cons y)).trans (set_perm hi y).2.symm
    · rcases List.mem_append.1 hz with h2 | h2
      · exact h.dd z (List.mem_append.2 (.inl h2))
      · rcases List.mem_cons.1 h2 with rfl | h2
        · rw [hd]; exact h.dd x h1
        · exact h.dd z (List.mem_append.2 (.inr (List.mem_cons_of_mem _ h2)))
    · have := h.ds
      rw [List.map_append, List.map_cons] at this ⊢
      rw [ha]; exact this
end Go.Proofs.Ytfbcgnehpkffeaa
