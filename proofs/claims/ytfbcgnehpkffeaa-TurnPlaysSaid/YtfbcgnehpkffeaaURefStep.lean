/- The program's turn and the document's, step by step: plain laws. No program in it. -/
import Derived.Test.YtfbcgnehpkffeaaURefRel
import Derived.Test.YtfbcgnehpkffeaaULawScan
namespace Go.Proofs.Ytfbcgnehpkffeaa
open Go Go.RowKit
/-- They are the same turn. -/
structure Rel (T : TS) (R : RS) (P D : List RK) : Prop where
  srt : Srt P D R.ks
  pl : T.plain = P.map RK.n
  de : T.dear = D.map RK.n
  pin : ∀ x ∈ R.ks, x.pin = T.pins.contains x.n
  sub : ∀ k ∈ T.pins, k ∈ T.keys
  clk : ∀ x ∈ R.ks, x.at_ < R.clock
  mo : T.most = R.most
  li : T.limit = R.limit
variable {P D : List RK} {x y z : RK} {i : Nat} {T : TS} {R : RS} {k : Int}
theorem Rel.new (most limit : Nat) : Rel ⟨most, limit, [], [], []⟩ ⟨most, limit, [], 0⟩ [] [] :=
  ⟨⟨List.Perm.refl _, (fun x hx => by cases hx), (fun x hx => by cases hx), List.Pairwise.nil, List.Pairwise.nil, List.nodup_nil⟩, rfl, rfl, (fun x hx => by cases hx), (fun x hx => by cases hx), (fun x hx => by cases hx), rfl, rfl⟩
theorem Rel.keys (h : Rel T R P D) : T.keys = (P ++ D).map RK.n := by unfold TS.keys; rw [h.pl, h.de, List.map_append]
theorem Rel.mem (h : Rel T R P D) : k ∈ T.keys ↔ k ∈ R.ks.map RK.n := by rw [h.keys]; exact (h.srt.perm.map RK.n).mem_iff
theorem Rel.len (h : Rel T R P D) : R.ks.length = T.plain.length + T.dear.length := by
  rw [← h.srt.perm.length_eq, h.pl, h.de]; simp
/-- It is there. -/
theorem Rel.there (h : Rel T R P D) (hi : R.ks[i]? = some x) (he : x.n = k) : T.has k = true ∧ T.dear.contains k = x.dear := by
  have hx := List.mem_of_getElem? hi
  refine ⟨(has_iff T k).2 (h.mem.2 (List.mem_map.2 ⟨x, hx, he⟩)), ?_⟩
  cases hd : x.dear with
  | true =>
    rw [h.de, ← he]
    simpa using ⟨x, h.srt.inD hx hd, rfl⟩
  | false =>
    rw [← Bool.not_eq_true]
    intro hc
    rw [h.de, ← he] at hc
    exact not_in_other h.srt (h.srt.inP hx hd) (by simpa using hc)
/-- It isn't. -/
theorem Rel.gone (h : Rel T R P D) (hno : ∀ x ∈ R.ks, x.n ≠ k) : T.has k = false := by
  rw [← Bool.not_eq_true]
  intro hh
  obtain ⟨x, hx, e⟩ := List.mem_map.1 (h.mem.1 ((has_iff T k).1 hh))
  exact hno x hx e
theorem Rel.dears (h : Rel T R P D) : (R.ks.filter RK.dear).length = T.dear.length := by
  rw [← (h.srt.perm.filter RK.dear).length_eq, h.de, List.filter_append, List.filter_eq_nil_iff.2 fun z hz => by rw [h.srt.pd z hz]; simp, List.filter_eq_self.2 fun z hz => h.srt.dd z hz]
  simp
theorem Rel.add (h : Rel T R P D) (hh : T.has k = false) (hf : T.full = false) : Rel (T.addT k) { R with ks := R.ks ++ [⟨k, false, false, R.clock⟩], clock := R.clock + 1 } (P ++ [⟨k, false, false, R.clock⟩]) D := by
  have hk : k ∉ T.keys := fun hm => by rw [(has_iff T k).2 hm] at hh; cases hh
  have ha : T.addT k = { T with plain := T.plain ++ [k] } := by unfold TS.addT; rw [hh, hf]; rfl
  rw [ha]
  refine ⟨h.srt.new h.clk (fun hm => hk (h.mem.2 hm)) rfl rfl, by show T.plain ++ [k] = _; rw [h.pl, List.map_append]; rfl, h.de, fun x hx => ?_, fun q hq => ?_, fun x hx => ?_, h.mo, h.li⟩
  · rcases List.mem_append.1 hx with h1 | h1
    · exact h.pin x h1
    · rw [List.mem_singleton.1 h1]
      show false = T.pins.contains k
      symm
      rw [← Bool.not_eq_true]
      intro hc
      exact hk (h.sub k (by simpa using hc))
  · have h1 : q ∈ T.plain ++ T.dear := h.sub q hq
    show q ∈ (T.plain ++ [k]) ++ T.dear
    rcases List.mem_append.1 h1 with h2 | h2
    · exact List.mem_append.2 (.inl (List.mem_append.2 (.inl h2)))
    · exact List.mem_append.2 (.inr h2)
  · show x.at_ < R.clock + 1
    rcases List.mem_append.1 hx with h1 | h1
    · have := h.clk x h1; omega
    · rw [List.mem_singleton.1 h1]; exact Nat.lt_succ_self _
theorem mem_set {ks : List RK} (hz : z ∈ ks.set i y) : z ∈ ks ∨ z = y := by
  rcases List.mem_or_eq_of_mem_set hz with h | h
  · exact .inl h
  · exact .inr h
/-- A key was used: what that makes before one falls. -/
theorem Rel.moved (h : Rel T R P D) (hg : Good T) (hi : R.ks[i]? = some x) (he : x.n = k) : ∃ P' D', Rel (T.moved k) { R with ks := R.ks.set i { x with dear := true, at_ := R.clock }, clock := R.clock + 1 } P' (D' ++ [{ x with dear := true, at_ := R.clock }]) := by
  obtain ⟨P', D', h1, h2, h3⟩ := h.srt.out hi
  have hx := List.mem_of_getElem? hi
  have hh := (h.there hi he).1
  have hs := h1.toDear (y := { x with dear := true, at_ := R.clock }) hi h.srt.nn h.clk rfl rfl rfl
  refine ⟨P', D', hs, by show T.plain.erase k = _; rw [h.pl, ← he, h2], by show T.dear.erase k ++ [k] = _; rw [h.de, ← he, ← h3, List.map_append]; rfl, fun w hw => ?_, fun q hq => ?_, fun w hw => ?_, h.mo, h.li⟩
  · rcases mem_set hw with h4 | rfl
    · exact h.pin w h4
    · exact h.pin x hx
  · exact (moved_perm hg k hh).mem_iff.2 (h.sub q hq)
  · show w.at_ < R.clock + 1
    rcases mem_set hw with h4 | rfl
    · have := h.clk w h4; omega
    · exact Nat.lt_succ_self _
/-- One falls. -/
theorem Rel.fall (h : Rel T R P (y :: D)) (hj : R.ks[i]? = some y) (hl : T.limit < T.dear.length) : ∃ P' D', Rel T.fallT { R with ks := R.ks.set i { y with dear := false, at_ := R.clock }, clock := R.clock + 1 } P' D' := by
  have hd : T.dear = y.n :: D.map RK.n := h.de
  rw [TS.fallT_yes hd hl]
  obtain ⟨P', D', h1, h2, h3⟩ := h.srt.out hj
  have hy := List.mem_of_getElem? hj
  have hyP := not_in_other' h.srt (List.mem_cons_self (a := y) (l := D))
  rw [List.erase_of_not_mem hyP] at h2
  rw [List.map_cons, List.erase_cons_head] at h3
  have hs := h1.toPlain (y := { y with dear := false, at_ := R.clock }) hj h.srt.nn h.clk rfl rfl rfl
  refine ⟨P' ++ [{ y with dear := false, at_ := R.clock }], D', ?_⟩
  refine ⟨hs, by show T.plain ++ [y.n] = _; rw [h.pl, List.map_append, h2]; rfl, h3.symm, fun w hw => ?_, fun q hq => ?_, fun w hw => ?_, h.mo, h.li⟩
  · rcases mem_set hw with h4 | rfl
    · exact h.pin w h4
    · exact h.pin y hy
  · have h4 : q ∈ T.plain ++ T.dear := h.sub q hq
    rw [hd] at h4
    show q ∈ (T.plain ++ [y.n]) ++ D.map RK.n
    rw [List.append_assoc]; exact h4
  · show w.at_ < R.clock + 1
    rcases mem_set hw with h4 | rfl
    · have := h.clk w h4; omega
    · exact Nat.lt_succ_self _
theorem mem_set' {ks : List RK} (hn : (ks.map RK.n).Nodup) (hi : ks[i]? = some x) (hz : z ∈ ks.set i y) : z = y ∨ (z ∈ ks.eraseIdx i ∧ z ∈ ks ∧ z.n ≠ x.n) := by
  have h1 := (set_perm hi y).2.mem_iff.1 hz
  rcases List.mem_cons.1 h1 with h2 | h2
  · exact .inl h2
  · have h3 := ((set_perm hi y).1.map RK.n).nodup_iff.1 hn
    rw [List.map_cons, List.nodup_cons] at h3
    exact .inr ⟨h2, (List.eraseIdx_sublist ks i).subset h2, fun e => h3.1 (List.mem_map.2 ⟨z, h2, e⟩)⟩
theorem Rel.pinned (h : Rel T R P D) (hn : T.pins.Nodup) (hi : R.ks[i]? = some x) (he : x.n = k) (on : Bool) : ∃ P' D', Rel (T.pinT k on) { R with ks := R.ks.set i { x with pin := on } } P' D' := by
  obtain ⟨P', D', h1, h2, h3⟩ := h.srt.swap (y := { x with pin := on }) hi rfl rfl rfl
  have hh := (h.there hi he).1
  have hkk := (pin_same T k on).2.2
  have hpi : (T.pinT k on).pins = if on then addTo T.pins k else T.pins.erase k := by unfold TS.pinT; rw [if_pos hh]
  refine ⟨P', D', h1, (pin_lists T k on).1.trans (h.pl.trans h2.symm), (pin_lists T k on).2.trans (h.de.trans h3.symm), fun w hw => ?_, fun q hq => ?_, fun w hw => ?_, (pin_same T k on).1.trans h.mo, (pin_same T k on).2.1.trans h.li⟩
  · rw [hpi]
    rcases mem_set' h.srt.nn hi hw with rfl | ⟨_, h4, h5⟩
    · show on = _
      rw [he]
      cases on with
      | true => rw [if_pos rfl, mem_addTo]
      | false => rw [if_neg (by simp), erase_has hn]; simp
    · rw [he] at h5
      have h6 := h.pin w h4
      cases on with
      | true => rw [if_pos rfl, addTo_has, beq_eq_false_iff_ne.2 (Ne.symm h5), Bool.or_false]; exact h6
      | false => rw [if_neg (by simp), erase_has hn, beq_eq_false_iff_ne.2 (Ne.symm h5)]; simpa using h6
  · rw [hkk]
    rw [hpi] at hq
    cases on with
    | true =>
      rw [if_pos rfl] at hq
      unfold addTo at hq
      split at hq
      · exact h.sub q hq
      · rcases List.mem_append.1 hq with h4 | h4
        · exact h.sub q h4
        · rw [List.mem_singleton.1 h4]; exact (has_iff T k).1 hh
    | false =>
      rw [if_neg (by simp)] at hq
      exact h.sub q (List.mem_of_mem_erase hq)
  · rcases mem_set' h.srt.nn hi hw with rfl | ⟨_, h4, _⟩
    · exact h.clk x (List.mem_of_getElem? hi)
    · exact h.clk w h4
theorem Rel.dropped (h : Rel T R P D) (hg : Good T) (hn : T.pins.Nodup) (hi : R.ks[i]? = some x) (he : x.n = k) : ∃ P' D', Rel (T.dropT k) { R with ks := R.ks.eraseIdx i } P' D' := by
  obtain ⟨P', D', h1, h2, h3⟩ := h.srt.out hi
  have hsub := (List.eraseIdx_sublist R.ks i).subset
  refine ⟨P', D', h1, by show T.plain.erase k = _; rw [h.pl, ← he, h2], by show T.dear.erase k = _; rw [h.de, ← he, h3], fun w hw => ?_, fun q hq => ?_, fun w hw => h.clk w (hsub hw), h.mo, h.li⟩
  · have h3 := ((set_perm hi x).1.map RK.n).nodup_iff.1 h.srt.nn
    rw [List.map_cons, List.nodup_cons] at h3
    have h5 : w.n ≠ k := fun e => h3.1 (List.mem_map.2 ⟨w, hw, e.trans he.symm⟩)
    show w.pin = (T.pins.erase k).contains w.n
    rw [erase_has hn, beq_eq_false_iff_ne.2 (Ne.symm h5)]
    simpa using h.pin w (hsub hw)
  · have hq' : q ∈ T.pins.erase k := hq
    obtain ⟨h4, h5⟩ := (List.Nodup.mem_erase_iff hn).1 hq'
    rw [drop_keys hg]
    exact (List.Nodup.mem_erase_iff hg.nodup).2 ⟨h4, h.sub q h5⟩
theorem Rel.drop_none (h : Rel T R P D) (hh : T.has k = false) : T.dropT k = T := by
  have hk : k ∉ T.keys := fun hm => by rw [(has_iff T k).2 hm] at hh; cases hh
  have h1 : k ∉ T.plain ++ T.dear := hk
  unfold TS.dropT
  rw [List.erase_of_not_mem fun hm => h1 (List.mem_append.2 (.inl hm)), List.erase_of_not_mem fun hm => h1 (List.mem_append.2 (.inr hm)), List.erase_of_not_mem fun hm => hk (h.sub k hm)]
theorem find_congr {L : List RK} {p q : RK → Bool} (h : ∀ z ∈ L, p z = q z) : L.find? p = L.find? q := by
  induction L with
  | nil => rfl
  | cons a L ih =>
    have h1 := h a List.mem_cons_self
    have h2 := ih fun z hz => h z (List.mem_cons_of_mem _ hz)
    cases e : p a with
    | true => rw [List.find?_cons_of_pos e, List.find?_cons_of_pos (h1 ▸ e)]
    | false => rw [List.find?_cons_of_neg (by rw [e]; simp), List.find?_cons_of_neg (by rw [← h1, e]; simp), h2]
theorem Rel.vic (h : Rel T R P D) : T.victim = ((P.find? fun z => !(true && z.pin)).or (D.find? fun z => !(true && z.pin))).map RK.n := by
  unfold TS.victim
  rw [h.keys, List.find?_map, ← List.find?_append]
  congr 1
  refine find_congr fun z hz => ?_
  show (!T.pins.contains z.n) = _
  rw [h.pin z (h.srt.mem.2 (List.mem_append.1 hz))]; rfl
theorem Rel.vic1 (h : Rel T R P D) {r : Int} (hr : IsFirst R.ks false true r) : (r = -1 ∧ (P.find? fun z => !(true && z.pin)) = none) ∨ ∃ (i : Nat) (y : RK), r = (i : Int) ∧ R.ks[i]? = some y ∧ T.victim = some y.n := by
  rcases h.srt.first hr with ⟨h1, h2⟩ | ⟨i, y, h1, h2, h3⟩
  · exact .inl ⟨h2, h1⟩
  · refine .inr ⟨i, y, h2, h3, ?_⟩
    have h4 : (P.find? fun z => !(true && z.pin)) = some y := h1
    rw [h.vic, h4]; rfl
theorem Rel.vic2 (h : Rel T R P D) {r : Int} (hr : IsFirst R.ks true true r) (hP : (P.find? fun z => !(true && z.pin)) = none) : (r = -1 ∧ T.victim = none) ∨ ∃ (i : Nat) (y : RK), r = (i : Int) ∧ R.ks[i]? = some y ∧ T.victim = some y.n := by
  rcases h.srt.first hr with ⟨h1, h2⟩ | ⟨i, y, h1, h2, h3⟩
  · have h4 : (D.find? fun z => !(true && z.pin)) = none := h1
    exact .inl ⟨h2, by rw [h.vic, hP, h4]; rfl⟩
  · have h4 : (D.find? fun z => !(true && z.pin)) = some y := h1
    exact .inr ⟨i, y, h2, h3, by rw [h.vic, hP, h4]; rfl⟩
theorem find_all {L : List RK} : (L.find? fun z => !(false && z.pin)) = L.head? := by
  cases L with
  | nil => rfl
  | cons a L => exact List.find?_cons_of_pos rfl
/-- In what order they'd go: the next one. -/
theorem Srt.next1 {ks : List RK} (h : Srt P D ks) {r : Int} (hr : IsFirst ks false false r) : (r = -1 ∧ P = []) ∨ ∃ (i : Nat) (y : RK) (P' : List RK), r = (i : Int) ∧ ks[i]? = some y ∧ P = y :: P' := by
  rcases h.first hr with ⟨h1, h2⟩ | ⟨i, y, h1, h2, h3⟩
  · have h4 : (P.find? fun z => !(false && z.pin)) = none := h1
    rw [find_all] at h4
    exact .inl ⟨h2, List.head?_eq_none_iff.1 h4⟩
  · have h4 : (P.find? fun z => !(false && z.pin)) = some y := h1
    rw [find_all] at h4
    obtain ⟨P', e⟩ := List.head?_eq_some_iff.1 h4
    exact .inr ⟨i, y, P', h2, h3, e⟩
theorem Srt.next2 {ks : List RK} (h : Srt P D ks) {r : Int} (hr : IsFirst ks true false r) (hP : P = []) (hk : 0 < ks.length) : ∃ (i : Nat) (y : RK) (D' : List RK), r = (i : Int) ∧ ks[i]? = some y ∧ D = y :: D' := by
  rcases h.first hr with ⟨h1, h2⟩ | ⟨i, y, h1, h2, h3⟩
  · have h4 : (D.find? fun z => !(false && z.pin)) = none := h1
    rw [find_all] at h4
    have h5 := h.perm.length_eq
    rw [hP, List.head?_eq_none_iff.1 h4] at h5
    simp at h5; omega
  · have h4 : (D.find? fun z => !(false && z.pin)) = some y := h1
    rw [find_all] at h4
    obtain ⟨D', e⟩ := List.head?_eq_some_iff.1 h4
    exact ⟨i, y, D', h2, h3, e⟩
/-- Behind it: what is left. -/
theorem Srt.left {ks L : List RK} (h : Srt P D ks) (hi : ks[i]? = some y) (e : P ++ D = y :: L) : ∃ P' D', Srt P' D' (ks.eraseIdx i) ∧ (P' ++ D').map RK.n = L.map RK.n := by
  obtain ⟨P', D', h1, h2, h3⟩ := h.out hi
  refine ⟨P', D', h1, ?_⟩
  rw [List.map_append, h2, h3]
  have hn := h.names
  rw [List.map_append] at hn
  have h4 : (P.map RK.n ++ D.map RK.n).erase y.n = (P.map RK.n).erase y.n ++ (D.map RK.n).erase y.n := by
    rw [List.erase_append]
    split
    · next hm =>
      rw [List.erase_of_not_mem (l := D.map RK.n) fun hm2 => (List.nodup_append.1 hn).2.2 _ hm _ hm2 rfl]
    · next hm => rw [List.erase_of_not_mem hm]
  refine h4.symm.trans ?_
  rw [← List.map_append, e, List.map_cons, List.erase_cons_head]
end Go.Proofs.Ytfbcgnehpkffeaa
