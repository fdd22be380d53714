/- One column of a cache, under Put, Fill, Done: plain laws. -/
import Derived.Test.YtijagdpkclghnaaDoorCDone
namespace Go.Proofs.YtijagdpkclghnaaDoor
open Go Go.RowKit
set_option maxRecDepth 100000
variable {B n data : Nat} {w w' : World} {C C' : CM} {T T' : TS} {L L' : List Int} {f f' : Int → Option Ent} {E : Ent} {t : Int} {c : Nat} {old now s : ByteArray} {d : Bool}
/-- What a stripe has of a column: what is old of it, what is now, is it dirty? -/
structure Col (E : Ent) (c : Nat) (old now : ByteArray) (d : Bool) : Prop where
  nt : E.nt.has c = true
  nb : atB E.nb c = now
  dt : E.dt.has c = d
  ot : E.ot.has c = !decide (old = noB)
  ob : old ≠ noB → atB E.ob c = old
theorem with_same (s : Set4) {i : Nat} (h : i < 256) : (s.with' i).has i = true := by
  unfold Set4.with'
  rw [Set4.has_of]
  simp [h]
theorem atB_set {l : List ByteArray} {c : Nat} (h : c < l.length) (s : ByteArray) : atB (l.set c s) c = s := by
  unfold atB
  simp [List.getD, h]
/-- A stripe that is new. -/
def Fresh (E : Ent) : Prop := E.nt = Set4.zero ∧ E.ot = Set4.zero ∧ E.dt = Set4.zero
theorem put_f (E : Ent) (c : Nat) (s : ByteArray) : (E.put c s).nt = E.nt.with' c ∧ (E.put c s).nb = E.nb.set c s ∧ (E.put c s).dt = E.dt.with' c ∧ (E.put c s).ot = E.ot ∧ (E.put c s).ob = E.ob := by
  simp only [Ent.put]
  exact ⟨trivial, trivial, trivial, trivial, trivial⟩
theorem fill_no {E : Ent} {c : Nat} (h : E.dt.has c = false) (s : ByteArray) : (E.fill c s).nt = E.nt.with' c ∧ (E.fill c s).nb = E.nb.set c s ∧ (E.fill c s).dt = E.dt ∧ (E.fill c s).ot = E.ot.with' c ∧ (E.fill c s).ob = E.ob.set c s := by
  simp only [Ent.fill, h, Bool.false_eq_true, if_false]
  exact ⟨trivial, trivial, trivial, trivial, trivial⟩
theorem fill_yes {E : Ent} {c : Nat} (h : E.dt.has c = true) (s : ByteArray) : (E.fill c s).nt = E.nt ∧ (E.fill c s).nb = E.nb ∧ (E.fill c s).dt = E.dt ∧ (E.fill c s).ot = E.ot.with' c ∧ (E.fill c s).ob = E.ob.set c s := by
  simp only [Ent.fill, h, if_true]
  exact ⟨trivial, trivial, trivial, trivial, trivial⟩
theorem done_f (E : Ent) : E.done.nt = (doneF E E.nt.list).nt ∧ E.done.nb = (doneF E E.nt.list).nb ∧ E.done.dt = Set4.zero ∧ E.done.ot = (doneF E E.nt.list).ot ∧ E.done.ob = (doneF E E.nt.list).ob := by
  simp only [Ent.done]
  exact ⟨trivial, trivial, trivial, trivial, trivial⟩
theorem Col.put (h : Col E c old now d) (hc : c < 256) (hl : c < E.nb.length) (s : ByteArray) : Col (E.put c s) c old s true := by
  obtain ⟨p1, p2, p3, p4, p5⟩ := put_f E c s
  exact ⟨by rw [p1]; exact with_same _ hc, by rw [p2]; exact atB_set hl s, by rw [p3]; exact with_same _ hc, by rw [p4]; exact h.ot, by rw [p5]; exact h.ob⟩
theorem Fresh.put (h : Fresh E) (hc : c < 256) (hl : c < E.nb.length) (s : ByteArray) : Col (E.put c s) c noB s true := by
  obtain ⟨p1, p2, p3, p4, p5⟩ := put_f E c s
  exact ⟨by rw [p1]; exact with_same _ hc, by rw [p2]; exact atB_set hl s, by rw [p3]; exact with_same _ hc, by rw [p4, h.2.1, Set4.has_zero]; simp, fun hn => absurd rfl hn⟩
theorem Col.fill (h : Col E c old now d) (hc : c < 256) (hl : c < E.nb.length) (hl2 : c < E.ob.length) (hs : s ≠ noB) : Col (E.fill c s) c s (if d = true then now else s) d := by
  cases d
  · obtain ⟨p1, p2, p3, p4, p5⟩ := fill_no h.dt s
    exact ⟨by rw [p1]; exact with_same _ hc, by rw [p2, if_neg (by simp)]; exact atB_set hl s, by rw [p3]; exact h.dt, by rw [p4, with_same _ hc]; simp [hs], fun _ => by rw [p5]; exact atB_set hl2 s⟩
  · obtain ⟨p1, p2, p3, p4, p5⟩ := fill_yes h.dt s
    exact ⟨by rw [p1]; exact h.nt, by rw [p2, if_pos rfl]; exact h.nb, by rw [p3]; exact h.dt, by rw [p4, with_same _ hc]; simp [hs], fun _ => by rw [p5]; exact atB_set hl2 s⟩
theorem Fresh.fill (h : Fresh E) (hc : c < 256) (hl : c < E.nb.length) (hl2 : c < E.ob.length) (hs : s ≠ noB) : Col (E.fill c s) c s s false := by
  have hd : E.dt.has c = false := by rw [h.2.2, Set4.has_zero]
  obtain ⟨p1, p2, p3, p4, p5⟩ := fill_no hd s
  exact ⟨by rw [p1]; exact with_same _ hc, by rw [p2]; exact atB_set hl s, by rw [p3]; exact hd, by rw [p4, with_same _ hc]; simp [hs], fun _ => by rw [p5]; exact atB_set hl2 s⟩
theorem doneS_has (N : List ByteArray) (F : Ent) (x : Nat) (hc : c < 256) : (doneS N F x).ot.has c = (decide (c = x) || F.ot.has c) := by
  simp only [doneS]
  unfold Set4.with'
  rw [Set4.has_of]
  simp [hc]
theorem doneS_ob (N : List ByteArray) (F : Ent) (x : Nat) : (doneS N F x).ob = F.ob.set x (atB N x) := by simp only [doneS]
theorem done_in (N : List ByteArray) (hc : c < 256) : ∀ (l : List Nat) (F : Ent), c < F.ob.length → ((F.ot.has c = true ∧ atB F.ob c = atB N c) ∨ c ∈ l) → (l.foldl (doneS N) F).ot.has c = true ∧ atB (l.foldl (doneS N) F).ob c = atB N c
  | [], F, hl, h => h.resolve_right (by simp)
  | x :: l, F, hl, h => by
    rw [List.foldl_cons]
    refine done_in N hc l _ (by rw [doneS_ob, List.length_set]; exact hl) ?_
    rw [doneS_has N F x hc, doneS_ob]
    by_cases e : c = x
    · subst e
      exact .inl ⟨by simp, atB_set hl _⟩
    · rcases h with ⟨h1, h2⟩ | h
      · refine .inl ⟨by rw [h1]; simp, ?_⟩
        rw [← h2]
        unfold atB
        simp [List.getD, List.getElem?_set_ne (Ne.symm e)]
      · rcases List.mem_cons.1 h with h | h
        · exact absurd h e
        · exact .inr h
theorem Col.done (h : Col E c old now d) (hc : c < 256) (hl2 : c < E.ob.length) (hn : now ≠ noB) : Col E.done c now now false := by
  have hm : c ∈ E.nt.list := by
    unfold Set4.list
    exact List.mem_filter.2 ⟨List.mem_range.2 hc, h.nt⟩
  have h1 := done_in E.nb hc E.nt.list E hl2 (.inr hm)
  have hs := doneF_same E E.nt.list
  obtain ⟨p1, p2, p3, p4, p5⟩ := done_f E
  refine ⟨by rw [p1, hs.nt]; exact h.nt, by rw [p2, hs.nb]; exact h.nb, by rw [p3]; exact Set4.has_zero c, ?_, fun _ => ?_⟩
  · rw [p4, show (doneF E E.nt.list).ot.has c = true from h1.1]
    simp [hn]
  · rw [p5, ← h.nb]; exact h1.2
/-- What there is of a column at all. -/
def ColAt (f : Int → Option Ent) (t : Int) (c : Nat) (old now : ByteArray) (d : Bool) : Prop := (f t = none ∧ old = noB ∧ now = noB ∧ d = false) ∨ ∃ E, f t = some E ∧ Col E c old now d ∧ now ≠ noB
theorem ColAt.told (h : ColAt f t c old now d) : oldB f t c = old ∧ oldH f t c = !decide (old = noB) := by
  unfold oldB oldH
  rcases h with ⟨h1, rfl, _, _⟩ | ⟨E, h1, h2, _⟩
  · rw [h1]; exact ⟨rfl, by simp⟩
  · rw [h1]
    refine ⟨?_, h2.ot⟩
    show (if E.ot.has c = true then atB E.ob c else noB) = old
    rw [h2.ot]
    by_cases e : old = noB
    · rw [e]; simp
    · rw [decide_eq_false e]
      exact h2.ob e
theorem ColAt.tnow (h : ColAt f t c old now d) : nowB f t c = now ∧ nowH f t c = !decide (now = noB) := by
  unfold nowB nowH
  rcases h with ⟨h1, _, rfl, _⟩ | ⟨E, h1, h2, h3⟩
  · rw [h1]; exact ⟨rfl, by simp⟩
  · rw [h1]
    refine ⟨?_, ?_⟩
    · show (if E.nt.has c = true then atB E.nb c else noB) = now
      rw [h2.nt, if_pos rfl, h2.nb]
    · show E.nt.has c = _
      rw [h2.nt]; simp [h3]
theorem Opened.fresh {w1 : World} {C1 : CM} {T1 : TS} {L1 : List Int} {f1 : Int → Option Ent} (h : Opened B n data w C T L f t w1 C1 E T1 L1 f1) (hf : f t = none) : Fresh E := by
  rcases h.how with ⟨h1, _⟩ | ⟨_, _, _, _, z1, z2, z3, _⟩
  · rw [hf] at h1; cases h1
  · exact ⟨z1, z2, z3⟩
theorem Opened.same {w1 : World} {C1 : CM} {T1 : TS} {L1 : List Int} {f1 : Int → Option Ent} {E0 : Ent} (h : Opened B n data w C T L f t w1 C1 E T1 L1 f1) (hf : f t = some E0) : E = E0 := by
  rcases h.how with ⟨h1, _⟩ | ⟨h1, _⟩
  · rw [hf] at h1; exact (Option.some.inj h1).symm
  · rw [hf] at h1; cases h1
theorem ColAt.put {w1 : World} {C1 : CM} {T1 : TS} {L1 : List Int} {f1 : Int → Option Ent} (h : ColAt f t c old now d) (ho : Opened B n data w C T L f t w1 C1 E T1 L1 f1) (hc : c < data) (hs : s ≠ noB) : ColAt (upd f1 t (some (E.put c s))) t c old s true := by
  have hE := ho.at_.ent t E ho.here
  have hc2 : c < 256 := by have := ho.at_.d30; omega
  refine .inr ⟨E.put c s, upd_same _ _ _, ?_, hs⟩
  rcases h with ⟨h1, rfl, _, _⟩ | ⟨E0, h1, h2, _⟩
  · exact (ho.fresh h1).put hc2 (by rw [hE.l1]; exact hc) s
  · rw [ho.same h1]
    have := ho.same h1
    subst this
    exact h2.put hc2 (by rw [hE.l1]; exact hc) s
theorem ColAt.fill {w1 : World} {C1 : CM} {T1 : TS} {L1 : List Int} {f1 : Int → Option Ent} (h : ColAt f t c old now d) (ho : Opened B n data w C T L f t w1 C1 E T1 L1 f1) (hc : c < data) (hs : s ≠ noB) : ColAt (upd f1 t (some (E.fill c s))) t c s (if d = true then now else s) d := by
  have hE := ho.at_.ent t E ho.here
  have hc2 : c < 256 := by have := ho.at_.d30; omega
  refine .inr ⟨E.fill c s, upd_same _ _ _, ?_, ?_⟩
  · rcases h with ⟨h1, _, _, rfl⟩ | ⟨E0, h1, h2, _⟩
    · exact (ho.fresh h1).fill hc2 (by rw [hE.l1]; exact hc) (by rw [hE.l2]; exact hc) hs
    · have := ho.same h1
      subst this
      exact h2.fill hc2 (by rw [hE.l1]; exact hc) (by rw [hE.l2]; exact hc) hs
  · rcases h with ⟨_, _, _, rfl⟩ | ⟨_, _, _, h3⟩
    · exact hs
    · split
      · exact h3
      · exact hs
theorem ColAt.done (h : ColAt f t c old now d) (hf : f t = some E) (hA : CacheAt B n data w C T L f) (hc : c < data) : ColAt (upd f t (some E.done)) t c now now false := by
  have hE := hA.ent t E hf
  have hc2 : c < 256 := by have := hA.d30; omega
  rcases h with ⟨h1, _⟩ | ⟨E0, h1, h2, h3⟩
  · rw [hf] at h1; cases h1
  · rw [hf] at h1
    cases h1
    exact .inr ⟨E.done, upd_same _ _ _, h2.done hc2 (by rw [hE.l2]; exact hc) h3, h3⟩
theorem full_nil (h : CacheAt B n data w C T [] f) : T.full = false := by
  have hk : ∀ k, T.has k = false := fun k => by rw [h.keys]; rfl
  have hp : T.plain ++ T.dear = [] := by
    cases e : T.plain ++ T.dear with
    | nil => rfl
    | cons x xs =>
      have := (has_iff T x).2 (by rw [e]; exact List.mem_cons_self ..)
      rw [hk x] at this; cases this
  have hl : T.plain.length + T.dear.length = 0 := by rw [← List.length_append, hp]; rfl
  unfold TS.full
  rw [hl]
  have := h.good.m1
  simp; omega
theorem secB_ne (b : Int) : secB b ≠ noB := fun e => by
  have h := secB_size b
  rw [e] at h
  cases h
end Go.Proofs.YtijagdpkclghnaaDoor
