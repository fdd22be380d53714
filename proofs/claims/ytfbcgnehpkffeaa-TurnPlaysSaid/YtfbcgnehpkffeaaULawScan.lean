/- TurnScan: its walk. -/
import Derived.Test.YtfbcgnehpkffeaaULawOnce
namespace Go.Proofs.Ytfbcgnehpkffeaa
open Go Go.RowKit
set_option maxRecDepth 100000
variable {B n : Nat} {w w' : World} {M M' : TM} {T T' : TS}
theorem pin_lists (T : TS) (k : Int) (on : Bool) : (T.pinT k on).plain = T.plain ∧ (T.pinT k on).dear = T.dear := by
  unfold TS.pinT; split <;> exact ⟨rfl, rfl⟩
theorem pins_step (hn : T.pins.Nodup) {K : List Int} {k : Int} (hK : K = T.keys) (h : ∀ x ∈ T.pins, k ≤ x ∧ x ∈ K) : ∀ x ∈ (T.pinT k false).pins, k + 1 ≤ x ∧ x ∈ K := by
  intro x hx
  unfold TS.pinT at hx
  split at hx
  · have hx' : x ∈ T.pins.erase k := hx
    have h1 := (List.Nodup.mem_erase_iff hn).1 hx'
    obtain ⟨h2, h3⟩ := h x h1.2
    have := h1.1
    exact ⟨by omega, h3⟩
  · next hk =>
    obtain ⟨h2, h3⟩ := h x hx
    have : x ≠ k := fun e => hk ((has_iff T k).2 (by rw [← e]; rw [hK] at h3; exact h3))
    exact ⟨by omega, h3⟩
/-- What goes of a full turn in which nothing is pinned. -/
theorem full_victim (hg : Good T) (hp : T.pins = []) (hf : T.full = true) : ∃ p ps, T.plain = p :: ps ∧ T.victim = some p ∧ T.dear.contains p = false ∧ p ∈ T.keys ∧ T.dropT p = { T with plain := ps } := by
  have h1 : T.most ≤ T.plain.length + T.dear.length := by simpa [TS.full] using hf
  have h2 := hg.dlen
  have h3 := hg.lim
  cases hpl : T.plain with
  | nil => rw [hpl] at h1; simp at h1; omega
  | cons p ps =>
    have hnd := hg.nodup
    rw [hpl, List.cons_append, List.nodup_cons, List.mem_append] at hnd
    have hd : p ∉ T.dear := fun h => hnd.1 (.inr h)
    refine ⟨p, ps, rfl, ?_, by simpa using hd, by unfold TS.keys; rw [hpl]; simp, ?_⟩
    · unfold TS.victim TS.keys
      rw [hpl, hp]; rfl
    · unfold TS.dropT
      rw [hpl, hp, List.erase_of_not_mem hd]
      simp
/-- A turn in a run of keys that come once: nothing is pinned, the dear ones are D; a row beside it. -/
structure ScanAt (B C : Nat) (u : World) (g most limit : Nat) (D : List Int) (v : Value) (X : List Int) (i : Nat) (w : World) (M : TM) (T : TS) : Prop where
  tat : TurnAt B 112 w M T
  good : Good T
  pins : T.pins = []
  dear : T.dear = D
  most : T.most = most
  limit : T.limit = limit
  keys : ∀ x ∈ T.keys, x < 1000 + (i : Int)
  g : M.g = g
  row : w.irow C tI v X
  apart : ∀ k, v.ownBlock = some k → ¬ M.foot k
  below : Below B u w
variable {C g most limit i : Nat} {u : World} {D X : List Int} {v : Value}
theorem ScanAt.step (h : ScanAt B C u g most limit D v X i w M T) (hs : Step M M' w w') (hT : TurnAt B 112 w' M' T') (hG : Good T') (hp : T'.pins = []) (hd : T'.dear = D) (hm : T'.most = most) (hl : T'.limit = limit) {i' : Nat} (hk : ∀ x ∈ T'.keys, x < 1000 + (i' : Int)) : ScanAt B C u g most limit D v X i' w' M' T' :=
  ⟨hT, hG, hp, hd, hm, hl, hk, hs.g.trans h.g, irow_same h.row fun k hk => hs.block k (h.row.lt k hk).2 (h.apart k hk), fun k hk => hs.out (h.row.lt k hk).2 (h.apart k hk), hs.under h.tat h.tat.le h.below⟩
theorem ScanAt.next (h : ScanAt B C u g most limit D v X i w M T) (hb : Below w.heap.size w w') : ScanAt B C u g most limit D v X i w' M T :=
  h.step (Step.of_below M hb) (h.tat.below' hb) h.good h.pins h.dear h.most h.limit h.keys
/-- A victim goes. -/
theorem ScanAt.gone (h : ScanAt B C u g most limit D v X i w M T) (hf : T.full = true) {p : Int} (hv : T.victim = some p) (hs : Step M M' w w') (hT : TurnAt B 112 w' M' (T.dropT p)) : ScanAt B C u g most limit D v X i w' M' (T.dropT p) ∧ (T.dropT p).keys.length < T.keys.length := by
  obtain ⟨p', ps, h1, h2, _, _, h5⟩ := full_victim h.good h.pins hf
  obtain rfl : p' = p := Option.some.inj (h2.symm.trans hv)
  refine ⟨h.step hs hT (h.good.drop p') (by rw [h5]; exact h.pins) (by rw [h5]; exact h.dear) (by rw [h5]; exact h.most) (by rw [h5]; exact h.limit) fun x hx => h.keys x ?_, ?_⟩
  · rw [h5] at hx
    have hx' : x ∈ ps ++ T.dear := hx
    show x ∈ T.plain ++ T.dear
    rw [h1, List.cons_append]
    exact List.mem_cons_of_mem _ hx'
  · rw [h5, keys_len, keys_len, h1]
    show ps.length + T.dear.length < _
    simp
/-- One more comes. -/
theorem ScanAt.come (h : ScanAt B C u g most limit D v X i w M T) (hf : T.full = false) (hi : i ≤ 60) : T.addE (1000 + (i : Int)) = 0 ∧ ∀ M' w', Step M M' w w' → TurnAt B 112 w' M' (T.addT (1000 + (i : Int))) → ScanAt B C u g most limit D v X (i + 1) w' M' (T.addT (1000 + (i : Int))) := by
  have hh : T.has (1000 + (i : Int)) = false := by
    cases e : T.has (1000 + (i : Int)) with
    | false => rfl
    | true => have := h.keys _ ((has_iff T _).1 e); omega
  have ha : T.addT (1000 + (i : Int)) = { T with plain := T.plain ++ [1000 + (i : Int)] } := by unfold TS.addT; rw [hh, hf]; rfl
  refine ⟨by unfold TS.addE; rw [hh, hf]; rfl, fun _ _ hs hT => ?_⟩
  refine h.step hs hT (h.good.add _ ⟨by omega, by omega⟩) (by rw [ha]; exact h.pins) (by rw [ha]; exact h.dear) (by rw [ha]; exact h.most) (by rw [ha]; exact h.limit) fun x hx => ?_
  rw [ha] at hx
  have hx' : x ∈ (T.plain ++ [1000 + (i : Int)]) ++ T.dear := hx
  rcases List.mem_append.1 hx' with h1 | h1
  · rcases List.mem_append.1 h1 with h2 | h2
    · have := h.keys x (List.mem_append.2 (.inl h2)); omega
    · have := List.mem_singleton.1 h2; omega
  · have := h.keys x (List.mem_append.2 (.inr h1)); omega
end Go.Proofs.Ytfbcgnehpkffeaa
