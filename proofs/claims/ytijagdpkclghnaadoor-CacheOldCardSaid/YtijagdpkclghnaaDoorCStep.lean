/- A cache's steps: a stripe is new; a turn touched, pinned: plain laws. -/
import Derived.Test.YtijagdpkclghnaaDoorCShelf
namespace Go.Proofs.YtijagdpkclghnaaDoor
open Go Go.RowKit
set_option maxRecDepth 100000
variable {B n data : Nat} {w w' w1 w2 w3 w4 : World} {C : CM} {T T' : TS} {M' : TM} {L : List Int} {f : Int → Option Ent} {E E' : Ent} {i : Int}
theorem turnKeep (h : TurnAt B n w M' T) (hs : ∀ k, M'.foot k → w'.heap[k]? = w.heap[k]?) : TurnAt B n w' M' T :=
  ⟨rowSame h.row (hs _ (.inl rfl)), irow_same h.o1 fun x hx => hs x (.inr (.inr (.inl hx))), irow_same h.o2 fun x hx => hs x (.inr (.inr (.inr hx))), h.pm.same (hs _ (.inr (.inl rfl))), h.gm, h.g1, h.g2, h.m1, h.m2, h.d12, h.bg, h.bm⟩
/-- A stripe is there from now on. -/
theorem CacheAt.added (h : CacheAt B n data w1 C T L f) (hS : Step C.M M' w1 w2) (hT : TurnAt B n w2 M' T') (hG : Good T') (hk : ∀ k, T'.has k = (addTo L i).contains k) (hb : Below w2.heap.size w2 w3) (hE : EntAt B data w3 E') (hnew : ∀ x, E'.foot x → w2.heap.size ≤ x)
    (hm : w4.pmap Tryd.prog tI C.m (n + 1) (addTo L i) (fun y => if y = i then some E'.g else (f y).map Ent.g)) (hg : w3.grownBy w4 (some C.m)) (hf : f i = none) :
    CacheAt B (n + 1) data w4 { C with M := M' } T' (addTo L i) (upd f i (some E')) ∧ CStep C f { C with M := M' } (upd f i (some E')) w1 w4 := by
  have s12 := hS.size
  have s23 := hb.size
  have s34 := hg.size
  have hout : ∀ x, x < w1.heap.size → ¬ C.M.foot x → ¬ M'.foot x := fun x hx hn => Step.out hS hx hn
  -- a block of before stays, if it is neither the map's nor the turn's
  have k14 : ∀ x, x < w1.heap.size → ¬ C.M.foot x → x ≠ C.m → w4.heap[x]? = w1.heap[x]? := fun x hx hn hne =>
    ((hg.block x (by omega) (fun e => hne (Option.some.inj e))).trans (hb.block x (by omega))).trans (hS.block x hx hn)
  have k24 : ∀ x, x < w2.heap.size → x ≠ C.m → w4.heap[x]? = w2.heap[x]? := fun x hx hne => (hg.block x (by omega) (fun e => hne (Option.some.inj e))).trans (hb.block x hx)
  have hmM : ¬ M'.foot C.m := hout _ h.map.lt h.mM
  have hmap : (fun j => (upd f i (some E') j).map Ent.g) = fun y => if y = i then some E'.g else (f y).map Ent.g := by
    funext j
    by_cases e : j = i
    · subst e; rw [upd_same, if_pos rfl]; rfl
    · rw [upd_other f _ e, if_neg e]
  have old : ∀ j F, f j = some F → ∀ x, F.foot x → x < w1.heap.size := fun j F hF x hx => ((h.ent j F hF).lts x hx).2
  refine ⟨⟨?_, ?_, hG, by rw [hmap]; exact hm, fun j F hF => ?_, fun j F j' F' hF hF' hne x hx => ?_, fun j F hF x hx => ?_, h.gm, hout _ h.row.lt h.gM, hmM, h.bg, h.bm, hk, h.d2, h.d30⟩, ?_⟩
  · have := rowSame h.row (k14 _ h.row.lt h.gM h.gm)
    show w4.row C.g [.pointer (some ⟨M'.g, 0, none⟩), _, _] tC
    rw [hS.g]; exact this
  · exact (turnKeep hT fun x hx => k24 x (hT.lts x hx).2 fun e => hmM (e ▸ hx)).mono (by omega)
  · by_cases e : j = i
    · subst e
      rw [upd_same] at hF
      cases hF
      exact hE.same fun x hx => hg.block x ((hE.lts x hx).2) fun e => by have := Option.some.inj e; have h1 := hnew x hx; have := h.map.lt; omega
    · rw [upd_other f _ e] at hF
      exact (h.ent j F hF).same fun x hx => k14 x (old j F hF x hx) (h.off j F hF x hx).2.2 (h.off j F hF x hx).2.1
  · by_cases e : j = i
    · subst e
      rw [upd_same] at hF
      cases hF
      rw [upd_other f _ (Ne.symm hne)] at hF'
      exact fun hx2 => by have h1 := hnew x hx; have := old j' F' hF' x hx2; omega
    · rw [upd_other f _ e] at hF
      by_cases e' : j' = i
      · subst e'
        rw [upd_same] at hF'
        cases hF'
        exact fun hx2 => by have h1 := hnew x hx2; have := old j F hF x hx; omega
      · rw [upd_other f _ e'] at hF'
        exact h.apart j F j' F' hF hF' hne x hx
  · by_cases e : j = i
    · subst e
      rw [upd_same] at hF
      cases hF
      have h1 := hnew x hx
      have h2 := h.row.lt
      have h3 := h.map.lt
      refine ⟨fun e => (by have e : x = C.g := e; omega), fun e => (by have e : x = C.m := e; omega), fun hx2 => ?_⟩
      have := (hT.lts x hx2).2
      omega
    · rw [upd_other f _ e] at hF
      have ho := h.off j F hF x hx
      exact ⟨ho.1, ho.2.1, hout x (old j F hF x hx) ho.2.2⟩
  · refine ⟨rfl, hg.os.trans (hb.os.trans hS.os), hg.tape.trans (hb.tape.trans hS.tape), hg.output.trans (hb.output.trans hS.output), by omega, fun x hx => ?_, fun x hx hn => k14 x hx (fun hf2 => hn (.inr (.inr (.inl hf2)))) fun e => hn (.inr (.inl e))⟩
    rcases hx with hx | hx | hx | ⟨j, F, hF, hx⟩
    · exact .inl (.inl hx)
    · exact .inl (.inr (.inl hx))
    · rcases hS.foot x hx with h1 | h1
      · exact .inl (.inr (.inr (.inl h1)))
      · exact .inr h1
    · by_cases e : j = i
      · subst e
        rw [upd_same] at hF
        cases hF
        exact .inr (by have := hnew x hx; omega)
      · rw [upd_other f _ e] at hF
        exact .inl (.inr (.inr (.inr ⟨j, F, hF, hx⟩)))
theorem touch_perm (h : Good T) (k : Int) : ((T.touchT k).plain ++ (T.touchT k).dear).Perm (T.plain ++ T.dear) := by
  unfold TS.touchT
  by_cases hk : T.has k = true
  · rw [if_pos hk]
    have hp := moved_perm h k hk
    unfold TS.fallT
    cases hc : (T.moved k).dear with
    | nil => exact absurd hc (by simp [TS.moved])
    | cons d ds =>
      rw [hc] at hp
      simp only [List.length_cons]
      by_cases hlim : (T.moved k).limit < ds.length + 1
      · rw [if_pos hlim]
        show (((T.moved k).plain ++ [d]) ++ ds).Perm (T.plain ++ T.dear)
        rw [List.append_assoc]; exact hp
      · rw [if_neg hlim]
        show ((T.moved k).plain ++ (T.moved k).dear).Perm (T.plain ++ T.dear)
        rw [hc]; exact hp
  · rw [if_neg hk]
theorem touch_has (h : Good T) (k j : Int) : (T.touchT k).has j = T.has j := by
  rw [Bool.eq_iff_iff, has_iff, has_iff]
  exact (touch_perm h k).mem_iff
theorem pin_has (T : TS) (k : Int) (on : Bool) (j : Int) : (T.pinT k on).has j = T.has j := by
  unfold TS.pinT
  split <;> rfl
theorem add_yes (hn : T.full = false) (hh : T.has i = false) : T.addE i = 0 ∧ T.addT i = { T with plain := T.plain ++ [i] } := by
  unfold TS.addE TS.addT
  simp [hn, hh]
theorem add_has (hn : T.full = false) (hh : T.has i = false) (k : Int) : (T.addT i).has k = (T.has k || i == k) := by
  rw [(add_yes hn hh).2]
  unfold TS.has
  show (T.dear.contains k || (T.plain ++ [i]).contains k) = _
  rw [List.contains_eq_mem, List.contains_eq_mem, List.contains_eq_mem]
  by_cases e : i = k
  · subst e; simp
  · rw [show (i == k) = false from beq_eq_false_iff_ne.2 e]
    simp [Ne.symm e]
end Go.Proofs.YtijagdpkclghnaaDoor
