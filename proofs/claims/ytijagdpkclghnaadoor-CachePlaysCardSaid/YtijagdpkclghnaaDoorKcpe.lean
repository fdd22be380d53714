/- Several texts in one: UWakes URun UIMap ULawUsed ULawOnce ULawScan URefStep UKrow URefAt URefFirst URefPin URefTouch URefDrop URefDropB RCell KFind. -/
import Derived.Test.YtijagdpkclghnaaDoorKcpd
import Derived.Maps.OwnOps
import Derived.Deep.DeepCutAuto
import Derived.StillTailTactics
import Derived.Deep.AppendLies
import Derived.Deep.RegionLaw
/- The laws' 'equal' and signs of life: contracts. -/
namespace Go.Proofs.YtijagdpkclghnaaDoor
open Go Go.RowKit
set_option maxRecDepth 100000
variable {B n : Nat} {w : World} {M : TM} {T : TS}
theorem irow_rd {v : Value} {xs : List Int} (h : w.irow B tI v xs) : w.rd v (Go.ints xs) := World.ownsRow.rd h
theorem lit_rd {b c : Nat} {t : TypeId} (xs : List Int) (h : w.row b (Go.ints xs) t) : w.rd (.slice (some ⟨b, 0, none⟩) xs.length c) (Go.ints xs) :=
  ⟨some ⟨b, 0, none⟩, c, by rw [ints_len], .inr ⟨b, 0, rfl, fun j u hj => by rw [Nat.zero_add]; exact h.cell j hj⟩⟩
def wk0 : TS := ⟨4, 2, [], [], []⟩
def wk1 : TS := ((wk0.addT 1).addT 2).addT 3
def wk2 : TS := wk1.touchT 1
def wk3 : TS := (wk2.touchT 2).touchT 3
theorem in64_small {x : Int} (h : 0 ≤ x) (h2 : x ≤ 1000) : In64 x := ⟨by omega, by omega⟩
theorem good0 : Good wk0 := ⟨by decide, by decide, by decide, by decide, by decide, by simp [wk0], fun k hk => by simp [wk0] at hk⟩
theorem good1 : Good wk1 := ((good0.add 1 (in64_small (by decide) (by decide))).add 2 (in64_small (by decide) (by decide))).add 3 (in64_small (by decide) (by decide))
theorem good2 : Good wk2 := good1.touch 1
theorem good3 : Good wk3 := (good2.touch 2).touch 3
end Go.Proofs.YtijagdpkclghnaaDoor
/- The laws' 'run': a contract. -/
namespace Go.Proofs.YtijagdpkclghnaaDoor
open Go Go.RowKit
set_option maxRecDepth 100000
variable {B n : Nat} {w : World} {M : TM} {T : TS}
/-- An act as cells. -/
abbrev act3 (x : Int × Int × Bool) : List Value := [.int .i64 x.1, .int .i64 x.2.1, .bool x.2.2]
/-- Its keys are small, and what is pinned is there. -/
structure Small (T : TS) : Prop where
  keys : ∀ k ∈ T.keys, 0 ≤ k ∧ k ≤ 31
  pins : ∀ k ∈ T.pins, k ∈ T.keys
theorem and31 (x : Int) : 0 ≤ bits .and .i64 x 31 ∧ bits .and .i64 x 31 ≤ 31 := by
  have h : ((BitVec.ofInt 64 x) &&& (BitVec.ofInt 64 31)).toNat ≤ 31 := by
    rw [BitVec.toNat_and]
    exact Nat.le_trans Nat.and_le_right (by decide)
  obtain ⟨m, hm⟩ : ∃ m, m = ((BitVec.ofInt 64 x) &&& (BitVec.ofInt 64 31)).toNat := ⟨_, rfl⟩
  have e : bits .and .i64 x 31 = IntKind.i64.wrap (m : Int) := by rw [hm]; rfl
  rw [← hm] at h
  rw [e, show IntKind.i64.wrap (m : Int) = (m : Int) from by
    unfold IntKind.wrap
    simp [IntKind.bits, IntKind.signed]
    omega]
  omega
theorem touch_perm (h : Good T) (k : Int) : (T.touchT k).keys.Perm T.keys := by
  unfold TS.touchT
  by_cases hk : T.has k = true
  · rw [if_pos hk]
    have hp := moved_perm h k hk
    by_cases hlim : (T.moved k).limit < (T.moved k).dear.length
    · cases hc : (T.moved k).dear with
      | nil => rw [hc] at hlim; simp at hlim
      | cons d ds =>
        rw [TS.fallT_yes hc hlim]
        rw [hc] at hp
        show (((T.moved k).plain ++ [d]) ++ ds).Perm _
        rw [List.append_assoc]
        exact hp
    · rw [TS.fallT_no hlim]; exact hp
  · rw [if_neg hk]
theorem fall_same (T : TS) : T.fallT.most = T.most ∧ T.fallT.limit = T.limit ∧ T.fallT.pins = T.pins := by
  by_cases hlim : T.limit < T.dear.length
  · cases hc : T.dear with
    | nil => rw [hc] at hlim; simp at hlim
    | cons d ds => rw [TS.fallT_yes hc hlim]; exact ⟨rfl, rfl, rfl⟩
  · rw [TS.fallT_no hlim]; exact ⟨rfl, rfl, rfl⟩
theorem touch_same (T : TS) (k : Int) : (T.touchT k).most = T.most ∧ (T.touchT k).limit = T.limit ∧ (T.touchT k).pins = T.pins := by
  unfold TS.touchT
  split
  · exact fall_same _
  · exact ⟨rfl, rfl, rfl⟩
theorem add_same (T : TS) (k : Int) : (T.addT k).most = T.most ∧ (T.addT k).limit = T.limit ∧ (T.addT k).pins = T.pins := by
  unfold TS.addT
  split
  · exact ⟨rfl, rfl, rfl⟩
  · split <;> exact ⟨rfl, rfl, rfl⟩
theorem pin_same (T : TS) (k : Int) (on : Bool) : (T.pinT k on).most = T.most ∧ (T.pinT k on).limit = T.limit ∧ (T.pinT k on).keys = T.keys := by
  unfold TS.pinT
  split <;> exact ⟨rfl, rfl, rfl⟩
theorem TurnAt.pnodup (h : TurnAt B n w M T) : T.pins.Nodup := by obtain ⟨D, _, h2⟩ := h.pm; exact h2.nodup
theorem Small.touch (h : Small T) (hg : Good T) (k : Int) : Small (T.touchT k) := by
  have hp := touch_perm hg k
  refine ⟨fun x hx => h.keys x (hp.mem_iff.1 hx), fun x hx => hp.mem_iff.2 (h.pins x ?_)⟩
  rw [(touch_same T k).2.2] at hx
  exact hx
theorem Small.add (h : Small T) (k : Int) (hk : 0 ≤ k ∧ k ≤ 31) : Small (T.addT k) := by
  refine ⟨fun x hx => ?_, fun x hx => ?_⟩
  · unfold TS.addT TS.keys at hx
    split at hx
    · exact h.keys x hx
    · split at hx
      · exact h.keys x hx
      · rcases List.mem_append.1 hx with hx | hx
        · rcases List.mem_append.1 hx with hx | hx
          · exact h.keys x (List.mem_append.2 (.inl hx))
          · rw [List.mem_singleton.1 hx]; exact hk
        · exact h.keys x (List.mem_append.2 (.inr hx))
  · rw [(add_same T k).2.2] at hx
    have hm := h.pins x hx
    unfold TS.addT
    split
    · exact hm
    · split
      · exact hm
      · show x ∈ (T.plain ++ [k]) ++ T.dear
        rcases List.mem_append.1 hm with h1 | h1
        · exact List.mem_append.2 (.inl (List.mem_append.2 (.inl h1)))
        · exact List.mem_append.2 (.inr h1)
theorem Small.drop (h : Small T) (hn : T.pins.Nodup) (k : Int) : Small (T.dropT k) := by
  refine ⟨fun x hx => h.keys x ?_, fun x hx => ?_⟩
  · rcases List.mem_append.1 hx with h1 | h1
    · exact List.mem_append.2 (.inl (List.mem_of_mem_erase h1))
    · exact List.mem_append.2 (.inr (List.mem_of_mem_erase h1))
  · have hx' : x ∈ T.pins.erase k := hx
    rw [List.Nodup.mem_erase_iff hn] at hx'
    rcases List.mem_append.1 (h.pins x hx'.2) with h1 | h1
    · exact List.mem_append.2 (.inl ((List.mem_erase_of_ne hx'.1).2 h1))
    · exact List.mem_append.2 (.inr ((List.mem_erase_of_ne hx'.1).2 h1))
theorem Small.pin (h : Small T) (k : Int) (on : Bool) : Small (T.pinT k on) := by
  refine ⟨fun x hx => h.keys x (by rw [(pin_same T k on).2.2] at hx; exact hx), fun x hx => ?_⟩
  rw [(pin_same T k on).2.2]
  unfold TS.pinT at hx
  split at hx
  · next hk =>
    cases on with
    | true =>
      have hx' : x ∈ addTo T.pins k := hx
      unfold addTo at hx'
      split at hx'
      · exact h.pins x hx'
      · rcases List.mem_append.1 hx' with h1 | h1
        · exact h.pins x h1
        · rw [List.mem_singleton.1 h1]; exact (has_iff T k).1 hk
    | false => exact h.pins x (List.mem_of_mem_erase (show x ∈ T.pins.erase k from hx))
  · exact h.pins x hx
end Go.Proofs.YtijagdpkclghnaaDoor
/- Maps from integers to integers: laws of my own over the kit's, no program in them. -/
namespace Go
open Go.Maps (Keyed)
open Go.RowKit
/-- Block b is a map of at most n entries that gives f. -/
def World.imap (w : World) (P : Program) (k e : TypeId) (b n : Nat) (f : Int → Int) : Prop :=
  ∃ D : DataW Unit, w.ownsMap P k (plainElem P e) b n D ∧ Maps.IsMap D ∧ ∀ x, D.atKey (.int .i64 x) (.lit (.int .i64 0)) = .lit (.int .i64 (f x))
namespace World
variable {w w' : World} {P : Program} {k e : TypeId} {b n : Nat} {f : Int → Int}
theorem imap.lt (h : w.imap P k e b n f) : b < w.heap.size := by obtain ⟨D, h1, _⟩ := h; exact h1.lt
theorem imap.same (h : w.imap P k e b n f) (hb : w'.heap[b]? = w.heap[b]?) : w'.imap P k e b n f := by
  obtain ⟨D, ⟨es, clock, h1, h2⟩, h3⟩ := h
  exact ⟨D, ⟨es, clock, hb.trans h1, h2⟩, h3⟩
theorem imap_made (w : World) (P : Program) (k e : TypeId) : (w.alloc (.map #[] 0)).imap P k e w.heap.size 0 (fun _ => 0) := ⟨_, World.ownsMap_made _ _ _ _, Maps.isMap_empty, fun _ => rfl⟩
end World
section
variable {P : Program} {w : World} {ops : Array Oper} {rest : List Oper} {o : Oper} {a : Act} {Q : Exit → Act → World → Prop} {k e : TypeId} {b n : Nat} {f : Int → Int}
theorem wpList_lookup_im (hg : o.guard = none) (m x : Operand) (t : TypeId) (hop : o.op = Op.lookup t m x false) (hk : P.underlying k = some (.int .i64)) (ht : P.underlying t = some (.map k e)) (he : P.underlying e = some (.int .i64)) (hz : ∀ w, (zeroValue e).run P w = .ok (.int .i64 0) w)
    (hm : a.eval m = .map (some b)) (h : w.imap P k e b n f) (i : Int) (hx : a.eval x = .int .i64 i) (hi : In64 i) (r : Int) (hr : f i = r)
    (hK : wpList P ops Q rest (a.put o.dst (.int .i64 r)) w) : wpList P ops Q (o :: rest) a w := by
  obtain ⟨D, hown, _, hB⟩ := h
  refine wpList_lookup_own_int w hg m x t hop k e .i64 (Maps.int_keyed hk) ht he (hz w) b n D hm hown _ _ hx (Maps.keyOf_int_mk hk (a := i) (wf_in64 hi)) ?_
  intro c hc _
  rw [hB] at hc
  have : f i = c := by simpa using hc
  rw [← this, hr]
  exact hK
theorem wpList_mapUpdate_im (hg : o.guard = none) (m x v : Operand) (t : TypeId) (hop : o.op = Op.mapUpdate t m x v) (hk : P.underlying k = some (.int .i64)) (ht : P.underlying t = some (.map k e)) (he : P.underlying e = some (.int .i64))
    (hm : a.eval m = .map (some b)) (h : w.imap P k e b n f) (hn : n < 100000) (i j : Int) (hx : a.eval x = .int .i64 i) (hi : In64 i) (hv : a.eval v = .int .i64 j) (hj : In64 j)
    (hK : ∀ w', w'.imap P k e b (n + 1) (fun y => if y = i then j else f y) → w.grownBy w' (some b) → wpList P ops Q rest (a.put o.dst undef) w') : wpList P ops Q (o :: rest) a w := by
  obtain ⟨D, hown, hM, hB⟩ := h
  refine wpList_mapUpdate_own w hg m x v t hop k e (Maps.int_keyed hk) ht _ b n D hm hown (by unfold maxLen; omega) _ _ _ hx hv (Maps.keyOf_int_mk hk (a := i) (wf_in64 hi)) _ [] (plainElem_int he (wf_in64 hj)) ?_
  intro w' h1 h2
  refine hK w' ⟨_, h1, hM.put _ _, fun y => ?_⟩ h2
  show _ = DataW.lit (Lit.int .i64 (if y = i then j else f y))
  by_cases e : y = i
  · subst e
    rw [if_pos rfl]
    exact Maps.atKey_put_same hM (keyLit y) _ _
  · rw [if_neg e, Maps.atKey_put_other (litne e)]
    exact hB y
end
end Go
/- TurnUsed: its walk. -/
namespace Go.Proofs.YtijagdpkclghnaaDoor
open Go Go.RowKit
set_option maxRecDepth 100000
variable {B n : Nat} {w : World} {M : TM} {T : TS}
/-- Behind a touch the key is the last one. -/
theorem touch_last (hg : Good T) (k : Int) (hk : T.has k = true) (hd : T.dear.contains k = false) : ∃ X, (T.touchT k).keys = X ++ [k] ∧ ((T.touchT k).dear.contains k = decide (0 < T.limit)) := by
  have hnd : k ∉ T.dear := by simpa using hd
  have e0 : (T.moved k).dear = T.dear ++ [k] := by show T.dear.erase k ++ [k] = _; rw [List.erase_of_not_mem hnd]
  unfold TS.touchT
  rw [if_pos hk]
  by_cases hlim : (T.moved k).limit < (T.moved k).dear.length
  · cases hc : T.dear with
    | nil =>
      rw [hc, List.nil_append] at e0
      rw [TS.fallT_yes e0 hlim]
      have hl0 : T.limit = 0 := by
        have : T.limit < (T.moved k).dear.length := hlim
        rw [e0] at this; simp at this; exact this
      refine ⟨T.plain.erase k, by show (T.plain.erase k ++ [k]) ++ [] = _; rw [List.append_nil], ?_⟩
      rw [hl0]; rfl
    | cons d ds =>
      rw [hc, List.cons_append] at e0
      rw [TS.fallT_yes e0 hlim]
      refine ⟨(T.moved k).plain ++ [d] ++ ds, by show ((T.moved k).plain ++ [d]) ++ (ds ++ [k]) = _; rw [List.append_assoc ((T.moved k).plain ++ [d])], ?_⟩
      have h1 := hg.dlen
      rw [hc] at h1
      have h2 : 0 < T.limit := by simp at h1; omega
      show (ds ++ [k]).contains k = _
      rw [decide_eq_true h2]; simp
  · rw [TS.fallT_no hlim]
    have h2 : 0 < T.limit := by
      have h3 : ¬ T.limit < (T.moved k).dear.length := hlim
      rw [e0] at h3; simp at h3; omega
    refine ⟨(T.moved k).plain ++ T.dear, by show (T.moved k).plain ++ (T.moved k).dear = _; rw [e0, List.append_assoc], ?_⟩
    rw [e0, decide_eq_true h2]; simp
theorem TurnAt.down {B' : Nat} (h : TurnAt B n w M T) (hB : B' ≤ B) : TurnAt B' n w M T := ⟨h.row, irow_mono h.o1 hB, irow_mono h.o2 hB, h.pm, h.gm, h.g1, h.g2, h.m1, h.m2, h.d12, Nat.le_trans hB h.bg, Nat.le_trans hB h.bm⟩
theorem victim_free {T : TS} {v : Int} (h : T.victim = some v) : v ∈ T.keys ∧ T.pins.contains v = false := by
  unfold TS.victim at h
  have h1 := List.mem_of_find?_eq_some h
  have h2 := List.find?_some h
  exact ⟨h1, by simpa using h2⟩
theorem mem_addTo (l : List Int) (k : Int) : (addTo l k).contains k = true := by
  unfold addTo
  split
  · next h => exact h
  · simp
/-- In a row without doubles the last key stands behind each other one. -/
theorem last_pos {X : List Int} {a b : Int} {f : Int → Int} (hb : b ∈ X ++ [a]) (hne : a ≠ b) (hf : ∀ j x, j < (X ++ [a]).length → (X ++ [a])[j]? = some x → f x = (j : Int)) : f b < f a := by
  have h1 := hf X.length a (by simp) (by simp)
  have h2 : b ∈ X := by
    rcases List.mem_append.1 hb with h | h
    · exact h
    · exact absurd (List.mem_singleton.1 h).symm hne
  obtain ⟨j, hj, e⟩ := List.getElem_of_mem h2
  have h3 := hf j b (by simp; omega) (by rw [List.getElem?_append_left hj, List.getElem?_eq_getElem hj, e])
  omega
end Go.Proofs.YtijagdpkclghnaaDoor
/- TurnOnce: its walk. -/
namespace Go.Proofs.YtijagdpkclghnaaDoor
open Go Go.RowKit
set_option maxRecDepth 100000
variable {B n : Nat} {w w' : World} {M : TM} {T : TS}
theorem TurnAt.keep (h : TurnAt B n w M T) (hs : ∀ k, M.foot k → w'.heap[k]? = w.heap[k]?) : TurnAt B n w' M T :=
  ⟨by have := h.row; unfold World.row at *; rw [hs M.g (.inl rfl)]; exact this, irow_same h.o1 fun k hk => hs k (.inr (.inr (.inl hk))), irow_same h.o2 fun k hk => hs k (.inr (.inr (.inr hk))), h.pm.same (hs M.m (.inr (.inl rfl))), h.gm, h.g1, h.g2, h.m1, h.m2, h.d12, h.bg, h.bm⟩
theorem TurnAt.grown {b : Nat} (h : TurnAt B n w M T) (hg : w.grownBy w' (some b)) (hb : ¬ M.foot b) : TurnAt B n w' M T :=
  h.keep fun k hk => hg.block k (h.lts k hk).2 fun e => hb (Option.some.inj e ▸ hk)
theorem below_grown {b : Nat} {u : World} (h : Below B u w) (hg : w.grownBy w' (some b)) (hb : B ≤ b) (hB : B ≤ w.heap.size) : Below B u w' :=
  h.trans ⟨hg.os, hg.tape, hg.output, hg.size, fun k hk => hg.block k (Nat.lt_of_lt_of_le hk hB) fun e => by have := Option.some.inj e; omega⟩
theorem take_add {K : List Int} {i : Nat} {y : Int} (hn : K.Nodup) (hy : K[i]? = some y) : (K.take i).contains y = false ∧ addTo (K.take i) y = K.take (i + 1) := by
  have h1 : (K.take i).contains y = false := by
    rw [List.contains_eq_mem, decide_eq_false_iff_not]
    intro hm
    obtain ⟨j, hj, e⟩ := List.getElem_of_mem hm
    obtain ⟨hi, e2⟩ := List.getElem?_eq_some_iff.1 hy
    rw [List.getElem_take] at e
    have hj2 : j < i := by rw [List.length_take] at hj; omega
    have := (List.getElem_inj hn).1 (e.trans e2.symm)
    omega
  refine ⟨h1, ?_⟩
  unfold addTo
  rw [h1, List.take_add_one, hy]
  rfl
theorem bmap_len {P : Program} {t k e ty : TypeId} {b : Nat} {L : List Int} (ht : P.underlying t = some (.map k e)) (h : w.bmap P k e b n L) : (Builtin.len_ #[t] ty #[.map (some b)]).run P w = .ok (.int .i64 (L.length : Int)) w := by
  obtain ⟨D, hown, hB⟩ := h
  rw [hown.len ht ty, hB.size]
theorem drop_keys (hg : Good T) (k : Int) : (T.dropT k).keys = T.keys.erase k := by
  show T.plain.erase k ++ T.dear.erase k = (T.plain ++ T.dear).erase k
  rw [List.erase_append]
  split
  · next h =>
    have h2 : k ∉ T.dear := fun h2 => (List.nodup_append.1 hg.nodup).2.2 k (by simpa using h) k h2 rfl
    rw [List.erase_of_not_mem h2]
  · next h => rw [List.erase_of_not_mem (by simpa using h)]
theorem victim_nil (h : T.keys = []) : T.victim = none := by unfold TS.victim; rw [h]; rfl
theorem keys_len (T : TS) : T.keys.length = T.plain.length + T.dear.length := by unfold TS.keys; exact List.length_append
end Go.Proofs.YtijagdpkclghnaaDoor
/- TurnScan: its walk. -/
namespace Go.Proofs.YtijagdpkclghnaaDoor
open Go Go.RowKit
set_option maxRecDepth 100000
variable {B n : Nat} {w w' : World} {M M' : TM} {T T' : TS}
theorem pin_lists (T : TS) (k : Int) (on : Bool) : (T.pinT k on).plain = T.plain ∧ (T.pinT k on).dear = T.dear := by
  unfold TS.pinT; split <;> exact ⟨rfl, rfl⟩
theorem pins_step (hn : T.pins.Nodup) {K : List Int} {k : Int} (hK : K = T.keys) (h : ∀ x ∈ T.pins, k ≤ x ∧ x ∈ K) : ∀ x ∈ (T.pinT k false).pins, k + 1 ≤ x ∧ x ∈ K := by
  intro x hx
  unfold TS.pinT at hx
  split at hx
  · have hx' : x ∈ T.pins.erase k := hx
    have h1 := (List.Nodup.mem_erase_iff hn).1 hx'
    obtain ⟨h2, h3⟩ := h x h1.2
    have := h1.1
    exact ⟨by omega, h3⟩
  · next hk =>
    obtain ⟨h2, h3⟩ := h x hx
    have : x ≠ k := fun e => hk ((has_iff T k).2 (by rw [← e]; rw [hK] at h3; exact h3))
    exact ⟨by omega, h3⟩
/-- What goes of a full turn in which nothing is pinned. -/
theorem full_victim (hg : Good T) (hp : T.pins = []) (hf : T.full = true) : ∃ p ps, T.plain = p :: ps ∧ T.victim = some p ∧ T.dear.contains p = false ∧ p ∈ T.keys ∧ T.dropT p = { T with plain := ps } := by
  have h1 : T.most ≤ T.plain.length + T.dear.length := by simpa [TS.full] using hf
  have h2 := hg.dlen
  have h3 := hg.lim
  cases hpl : T.plain with
  | nil => rw [hpl] at h1; simp at h1; omega
  | cons p ps =>
    have hnd := hg.nodup
    rw [hpl, List.cons_append, List.nodup_cons, List.mem_append] at hnd
    have hd : p ∉ T.dear := fun h => hnd.1 (.inr h)
    refine ⟨p, ps, rfl, ?_, by simpa using hd, by unfold TS.keys; rw [hpl]; simp, ?_⟩
    · unfold TS.victim TS.keys
      rw [hpl, hp]; rfl
    · unfold TS.dropT
      rw [hpl, hp, List.erase_of_not_mem hd]
      simp
/-- A turn in a run of keys that come once: nothing is pinned, the dear ones are D; a row beside it. -/
structure ScanAt (B C : Nat) (u : World) (g most limit : Nat) (D : List Int) (v : Value) (X : List Int) (i : Nat) (w : World) (M : TM) (T : TS) : Prop where
  tat : TurnAt B 112 w M T
  good : Good T
  pins : T.pins = []
  dear : T.dear = D
  most : T.most = most
  limit : T.limit = limit
  keys : ∀ x ∈ T.keys, x < 1000 + (i : Int)
  g : M.g = g
  row : w.irow C tI v X
  apart : ∀ k, v.ownBlock = some k → ¬ M.foot k
  below : Below B u w
variable {C g most limit i : Nat} {u : World} {D X : List Int} {v : Value}
theorem ScanAt.step (h : ScanAt B C u g most limit D v X i w M T) (hs : Step M M' w w') (hT : TurnAt B 112 w' M' T') (hG : Good T') (hp : T'.pins = []) (hd : T'.dear = D) (hm : T'.most = most) (hl : T'.limit = limit) {i' : Nat} (hk : ∀ x ∈ T'.keys, x < 1000 + (i' : Int)) : ScanAt B C u g most limit D v X i' w' M' T' :=
  ⟨hT, hG, hp, hd, hm, hl, hk, hs.g.trans h.g, irow_same h.row fun k hk => hs.block k (h.row.lt k hk).2 (h.apart k hk), fun k hk => hs.out (h.row.lt k hk).2 (h.apart k hk), hs.under h.tat h.tat.le h.below⟩
theorem ScanAt.next (h : ScanAt B C u g most limit D v X i w M T) (hb : Below w.heap.size w w') : ScanAt B C u g most limit D v X i w' M T :=
  h.step (Step.of_below M hb) (h.tat.below' hb) h.good h.pins h.dear h.most h.limit h.keys
/-- A victim goes. -/
theorem ScanAt.gone (h : ScanAt B C u g most limit D v X i w M T) (hf : T.full = true) {p : Int} (hv : T.victim = some p) (hs : Step M M' w w') (hT : TurnAt B 112 w' M' (T.dropT p)) : ScanAt B C u g most limit D v X i w' M' (T.dropT p) ∧ (T.dropT p).keys.length < T.keys.length := by
  obtain ⟨p', ps, h1, h2, _, _, h5⟩ := full_victim h.good h.pins hf
  obtain rfl : p' = p := Option.some.inj (h2.symm.trans hv)
  refine ⟨h.step hs hT (h.good.drop p') (by rw [h5]; exact h.pins) (by rw [h5]; exact h.dear) (by rw [h5]; exact h.most) (by rw [h5]; exact h.limit) fun x hx => h.keys x ?_, ?_⟩
  · rw [h5] at hx
    have hx' : x ∈ ps ++ T.dear := hx
    show x ∈ T.plain ++ T.dear
    rw [h1, List.cons_append]
    exact List.mem_cons_of_mem _ hx'
  · rw [h5, keys_len, keys_len, h1]
    show ps.length + T.dear.length < _
    simp
/-- One more comes. -/
theorem ScanAt.come (h : ScanAt B C u g most limit D v X i w M T) (hf : T.full = false) (hi : i ≤ 60) : T.addE (1000 + (i : Int)) = 0 ∧ ∀ M' w', Step M M' w w' → TurnAt B 112 w' M' (T.addT (1000 + (i : Int))) → ScanAt B C u g most limit D v X (i + 1) w' M' (T.addT (1000 + (i : Int))) := by
  have hh : T.has (1000 + (i : Int)) = false := by
    cases e : T.has (1000 + (i : Int)) with
    | false => rfl
    | true => have := h.keys _ ((has_iff T _).1 e); omega
  have ha : T.addT (1000 + (i : Int)) = { T with plain := T.plain ++ [1000 + (i : Int)] } := by unfold TS.addT; rw [hh, hf]; rfl
  refine ⟨by unfold TS.addE; rw [hh, hf]; rfl, fun _ _ hs hT => ?_⟩
  refine h.step hs hT (h.good.add _ ⟨by omega, by omega⟩) (by rw [ha]; exact h.pins) (by rw [ha]; exact h.dear) (by rw [ha]; exact h.most) (by rw [ha]; exact h.limit) fun x hx => ?_
  rw [ha] at hx
  have hx' : x ∈ (T.plain ++ [1000 + (i : Int)]) ++ T.dear := hx
  rcases List.mem_append.1 hx' with h1 | h1
  · rcases List.mem_append.1 h1 with h2 | h2
    · have := h.keys x (List.mem_append.2 (.inl h2)); omega
    · have := List.mem_singleton.1 h2; omega
  · have := h.keys x (List.mem_append.2 (.inr h1)); omega
end Go.Proofs.YtijagdpkclghnaaDoor
/- The program's turn and the document's, step by step: plain laws. No program in it. -/
namespace Go.Proofs.YtijagdpkclghnaaDoor
open Go Go.RowKit
/-- They are the same turn. -/
structure Rel (T : TS) (R : RS) (P D : List RK) : Prop where
  srt : Srt P D R.ks
  pl : T.plain = P.map RK.n
  de : T.dear = D.map RK.n
  pin : ∀ x ∈ R.ks, x.pin = T.pins.contains x.n
  sub : ∀ k ∈ T.pins, k ∈ T.keys
  clk : ∀ x ∈ R.ks, x.at_ < R.clock
  mo : T.most = R.most
  li : T.limit = R.limit
variable {P D : List RK} {x y z : RK} {i : Nat} {T : TS} {R : RS} {k : Int}
theorem Rel.new (most limit : Nat) : Rel ⟨most, limit, [], [], []⟩ ⟨most, limit, [], 0⟩ [] [] :=
  ⟨⟨List.Perm.refl _, (fun x hx => by cases hx), (fun x hx => by cases hx), List.Pairwise.nil, List.Pairwise.nil, List.nodup_nil⟩, rfl, rfl, (fun x hx => by cases hx), (fun x hx => by cases hx), (fun x hx => by cases hx), rfl, rfl⟩
theorem Rel.keys (h : Rel T R P D) : T.keys = (P ++ D).map RK.n := by unfold TS.keys; rw [h.pl, h.de, List.map_append]
theorem Rel.mem (h : Rel T R P D) : k ∈ T.keys ↔ k ∈ R.ks.map RK.n := by rw [h.keys]; exact (h.srt.perm.map RK.n).mem_iff
theorem Rel.len (h : Rel T R P D) : R.ks.length = T.plain.length + T.dear.length := by
  rw [← h.srt.perm.length_eq, h.pl, h.de]; simp
/-- It is there. -/
theorem Rel.there (h : Rel T R P D) (hi : R.ks[i]? = some x) (he : x.n = k) : T.has k = true ∧ T.dear.contains k = x.dear := by
  have hx := List.mem_of_getElem? hi
  refine ⟨(has_iff T k).2 (h.mem.2 (List.mem_map.2 ⟨x, hx, he⟩)), ?_⟩
  cases hd : x.dear with
  | true =>
    rw [h.de, ← he]
    simpa using ⟨x, h.srt.inD hx hd, rfl⟩
  | false =>
    rw [← Bool.not_eq_true]
    intro hc
    rw [h.de, ← he] at hc
    exact not_in_other h.srt (h.srt.inP hx hd) (by simpa using hc)
/-- It isn't. -/
theorem Rel.gone (h : Rel T R P D) (hno : ∀ x ∈ R.ks, x.n ≠ k) : T.has k = false := by
  rw [← Bool.not_eq_true]
  intro hh
  obtain ⟨x, hx, e⟩ := List.mem_map.1 (h.mem.1 ((has_iff T k).1 hh))
  exact hno x hx e
theorem Rel.dears (h : Rel T R P D) : (R.ks.filter RK.dear).length = T.dear.length := by
  rw [← (h.srt.perm.filter RK.dear).length_eq, h.de, List.filter_append, List.filter_eq_nil_iff.2 fun z hz => by rw [h.srt.pd z hz]; simp, List.filter_eq_self.2 fun z hz => h.srt.dd z hz]
  simp
theorem Rel.add (h : Rel T R P D) (hh : T.has k = false) (hf : T.full = false) : Rel (T.addT k) { R with ks := R.ks ++ [⟨k, false, false, R.clock⟩], clock := R.clock + 1 } (P ++ [⟨k, false, false, R.clock⟩]) D := by
  have hk : k ∉ T.keys := fun hm => by rw [(has_iff T k).2 hm] at hh; cases hh
  have ha : T.addT k = { T with plain := T.plain ++ [k] } := by unfold TS.addT; rw [hh, hf]; rfl
  rw [ha]
  refine ⟨h.srt.new h.clk (fun hm => hk (h.mem.2 hm)) rfl rfl, by show T.plain ++ [k] = _; rw [h.pl, List.map_append]; rfl, h.de, fun x hx => ?_, fun q hq => ?_, fun x hx => ?_, h.mo, h.li⟩
  · rcases List.mem_append.1 hx with h1 | h1
    · exact h.pin x h1
    · rw [List.mem_singleton.1 h1]
      show false = T.pins.contains k
      symm
      rw [← Bool.not_eq_true]
      intro hc
      exact hk (h.sub k (by simpa using hc))
  · have h1 : q ∈ T.plain ++ T.dear := h.sub q hq
    show q ∈ (T.plain ++ [k]) ++ T.dear
    rcases List.mem_append.1 h1 with h2 | h2
    · exact List.mem_append.2 (.inl (List.mem_append.2 (.inl h2)))
    · exact List.mem_append.2 (.inr h2)
  · show x.at_ < R.clock + 1
    rcases List.mem_append.1 hx with h1 | h1
    · have := h.clk x h1; omega
    · rw [List.mem_singleton.1 h1]; exact Nat.lt_succ_self _
theorem mem_set {ks : List RK} (hz : z ∈ ks.set i y) : z ∈ ks ∨ z = y := by
  rcases List.mem_or_eq_of_mem_set hz with h | h
  · exact .inl h
  · exact .inr h
/-- A key was used: what that makes before one falls. -/
theorem Rel.moved (h : Rel T R P D) (hg : Good T) (hi : R.ks[i]? = some x) (he : x.n = k) : ∃ P' D', Rel (T.moved k) { R with ks := R.ks.set i { x with dear := true, at_ := R.clock }, clock := R.clock + 1 } P' (D' ++ [{ x with dear := true, at_ := R.clock }]) := by
  obtain ⟨P', D', h1, h2, h3⟩ := h.srt.out hi
  have hx := List.mem_of_getElem? hi
  have hh := (h.there hi he).1
  have hs := h1.toDear (y := { x with dear := true, at_ := R.clock }) hi h.srt.nn h.clk rfl rfl rfl
  refine ⟨P', D', hs, by show T.plain.erase k = _; rw [h.pl, ← he, h2], by show T.dear.erase k ++ [k] = _; rw [h.de, ← he, ← h3, List.map_append]; rfl, fun w hw => ?_, fun q hq => ?_, fun w hw => ?_, h.mo, h.li⟩
  · rcases mem_set hw with h4 | rfl
    · exact h.pin w h4
    · exact h.pin x hx
  · exact (moved_perm hg k hh).mem_iff.2 (h.sub q hq)
  · show w.at_ < R.clock + 1
    rcases mem_set hw with h4 | rfl
    · have := h.clk w h4; omega
    · exact Nat.lt_succ_self _
/-- One falls. -/
theorem Rel.fall (h : Rel T R P (y :: D)) (hj : R.ks[i]? = some y) (hl : T.limit < T.dear.length) : ∃ P' D', Rel T.fallT { R with ks := R.ks.set i { y with dear := false, at_ := R.clock }, clock := R.clock + 1 } P' D' := by
  have hd : T.dear = y.n :: D.map RK.n := h.de
  rw [TS.fallT_yes hd hl]
  obtain ⟨P', D', h1, h2, h3⟩ := h.srt.out hj
  have hy := List.mem_of_getElem? hj
  have hyP := not_in_other' h.srt (List.mem_cons_self (a := y) (l := D))
  rw [List.erase_of_not_mem hyP] at h2
  rw [List.map_cons, List.erase_cons_head] at h3
  have hs := h1.toPlain (y := { y with dear := false, at_ := R.clock }) hj h.srt.nn h.clk rfl rfl rfl
  refine ⟨P' ++ [{ y with dear := false, at_ := R.clock }], D', ?_⟩
  refine ⟨hs, by show T.plain ++ [y.n] = _; rw [h.pl, List.map_append, h2]; rfl, h3.symm, fun w hw => ?_, fun q hq => ?_, fun w hw => ?_, h.mo, h.li⟩
  · rcases mem_set hw with h4 | rfl
    · exact h.pin w h4
    · exact h.pin y hy
  · have h4 : q ∈ T.plain ++ T.dear := h.sub q hq
    rw [hd] at h4
    show q ∈ (T.plain ++ [y.n]) ++ D.map RK.n
    rw [List.append_assoc]; exact h4
  · show w.at_ < R.clock + 1
    rcases mem_set hw with h4 | rfl
    · have := h.clk w h4; omega
    · exact Nat.lt_succ_self _
theorem mem_set' {ks : List RK} (hn : (ks.map RK.n).Nodup) (hi : ks[i]? = some x) (hz : z ∈ ks.set i y) : z = y ∨ (z ∈ ks.eraseIdx i ∧ z ∈ ks ∧ z.n ≠ x.n) := by
  have h1 := (set_perm hi y).2.mem_iff.1 hz
  rcases List.mem_cons.1 h1 with h2 | h2
  · exact .inl h2
  · have h3 := ((set_perm hi y).1.map RK.n).nodup_iff.1 hn
    rw [List.map_cons, List.nodup_cons] at h3
    exact .inr ⟨h2, (List.eraseIdx_sublist ks i).subset h2, fun e => h3.1 (List.mem_map.2 ⟨z, h2, e⟩)⟩
theorem Rel.pinned (h : Rel T R P D) (hn : T.pins.Nodup) (hi : R.ks[i]? = some x) (he : x.n = k) (on : Bool) : ∃ P' D', Rel (T.pinT k on) { R with ks := R.ks.set i { x with pin := on } } P' D' := by
  obtain ⟨P', D', h1, h2, h3⟩ := h.srt.swap (y := { x with pin := on }) hi rfl rfl rfl
  have hh := (h.there hi he).1
  have hkk := (pin_same T k on).2.2
  have hpi : (T.pinT k on).pins = if on then addTo T.pins k else T.pins.erase k := by unfold TS.pinT; rw [if_pos hh]
  refine ⟨P', D', h1, (pin_lists T k on).1.trans (h.pl.trans h2.symm), (pin_lists T k on).2.trans (h.de.trans h3.symm), fun w hw => ?_, fun q hq => ?_, fun w hw => ?_, (pin_same T k on).1.trans h.mo, (pin_same T k on).2.1.trans h.li⟩
  · rw [hpi]
    rcases mem_set' h.srt.nn hi hw with rfl | ⟨_, h4, h5⟩
    · show on = _
      rw [he]
      cases on with
      | true => rw [if_pos rfl, mem_addTo]
      | false => rw [if_neg (by simp), erase_has hn]; simp
    · rw [he] at h5
      have h6 := h.pin w h4
      cases on with
      | true => rw [if_pos rfl, addTo_has, beq_eq_false_iff_ne.2 (Ne.symm h5), Bool.or_false]; exact h6
      | false => rw [if_neg (by simp), erase_has hn, beq_eq_false_iff_ne.2 (Ne.symm h5)]; simpa using h6
  · rw [hkk]
    rw [hpi] at hq
    cases on with
    | true =>
      rw [if_pos rfl] at hq
      unfold addTo at hq
      split at hq
      · exact h.sub q hq
      · rcases List.mem_append.1 hq with h4 | h4
        · exact h.sub q h4
        · rw [List.mem_singleton.1 h4]; exact (has_iff T k).1 hh
    | false =>
      rw [if_neg (by simp)] at hq
      exact h.sub q (List.mem_of_mem_erase hq)
  · rcases mem_set' h.srt.nn hi hw with rfl | ⟨_, h4, _⟩
    · exact h.clk x (List.mem_of_getElem? hi)
    · exact h.clk w h4
theorem Rel.dropped (h : Rel T R P D) (hg : Good T) (hn : T.pins.Nodup) (hi : R.ks[i]? = some x) (he : x.n = k) : ∃ P' D', Rel (T.dropT k) { R with ks := R.ks.eraseIdx i } P' D' := by
  obtain ⟨P', D', h1, h2, h3⟩ := h.srt.out hi
  have hsub := (List.eraseIdx_sublist R.ks i).subset
  refine ⟨P', D', h1, by show T.plain.erase k = _; rw [h.pl, ← he, h2], by show T.dear.erase k = _; rw [h.de, ← he, h3], fun w hw => ?_, fun q hq => ?_, fun w hw => h.clk w (hsub hw), h.mo, h.li⟩
  · have h3 := ((set_perm hi x).1.map RK.n).nodup_iff.1 h.srt.nn
    rw [List.map_cons, List.nodup_cons] at h3
    have h5 : w.n ≠ k := fun e => h3.1 (List.mem_map.2 ⟨w, hw, e.trans he.symm⟩)
    show w.pin = (T.pins.erase k).contains w.n
    rw [erase_has hn, beq_eq_false_iff_ne.2 (Ne.symm h5)]
    simpa using h.pin w (hsub hw)
  · have hq' : q ∈ T.pins.erase k := hq
    obtain ⟨h4, h5⟩ := (List.Nodup.mem_erase_iff hn).1 hq'
    rw [drop_keys hg]
    exact (List.Nodup.mem_erase_iff hg.nodup).2 ⟨h4, h.sub q h5⟩
theorem Rel.drop_none (h : Rel T R P D) (hh : T.has k = false) : T.dropT k = T := by
  have hk : k ∉ T.keys := fun hm => by rw [(has_iff T k).2 hm] at hh; cases hh
  have h1 : k ∉ T.plain ++ T.dear := hk
  unfold TS.dropT
  rw [List.erase_of_not_mem fun hm => h1 (List.mem_append.2 (.inl hm)), List.erase_of_not_mem fun hm => h1 (List.mem_append.2 (.inr hm)), List.erase_of_not_mem fun hm => hk (h.sub k hm)]
theorem find_congr {L : List RK} {p q : RK → Bool} (h : ∀ z ∈ L, p z = q z) : L.find? p = L.find? q := by
  induction L with
  | nil => rfl
  | cons a L ih =>
    have h1 := h a List.mem_cons_self
    have h2 := ih fun z hz => h z (List.mem_cons_of_mem _ hz)
    cases e : p a with
    | true => rw [List.find?_cons_of_pos e, List.find?_cons_of_pos (h1 ▸ e)]
    | false => rw [List.find?_cons_of_neg (by rw [e]; simp), List.find?_cons_of_neg (by rw [← h1, e]; simp), h2]
theorem Rel.vic (h : Rel T R P D) : T.victim = ((P.find? fun z => !(true && z.pin)).or (D.find? fun z => !(true && z.pin))).map RK.n := by
  unfold TS.victim
  rw [h.keys, List.find?_map, ← List.find?_append]
  congr 1
  refine find_congr fun z hz => ?_
  show (!T.pins.contains z.n) = _
  rw [h.pin z (h.srt.mem.2 (List.mem_append.1 hz))]; rfl
theorem Rel.vic1 (h : Rel T R P D) {r : Int} (hr : IsFirst R.ks false true r) : (r = -1 ∧ (P.find? fun z => !(true && z.pin)) = none) ∨ ∃ (i : Nat) (y : RK), r = (i : Int) ∧ R.ks[i]? = some y ∧ T.victim = some y.n := by
  rcases h.srt.first hr with ⟨h1, h2⟩ | ⟨i, y, h1, h2, h3⟩
  · exact .inl ⟨h2, h1⟩
  · refine .inr ⟨i, y, h2, h3, ?_⟩
    have h4 : (P.find? fun z => !(true && z.pin)) = some y := h1
    rw [h.vic, h4]; rfl
theorem Rel.vic2 (h : Rel T R P D) {r : Int} (hr : IsFirst R.ks true true r) (hP : (P.find? fun z => !(true && z.pin)) = none) : (r = -1 ∧ T.victim = none) ∨ ∃ (i : Nat) (y : RK), r = (i : Int) ∧ R.ks[i]? = some y ∧ T.victim = some y.n := by
  rcases h.srt.first hr with ⟨h1, h2⟩ | ⟨i, y, h1, h2, h3⟩
  · have h4 : (D.find? fun z => !(true && z.pin)) = none := h1
    exact .inl ⟨h2, by rw [h.vic, hP, h4]; rfl⟩
  · have h4 : (D.find? fun z => !(true && z.pin)) = some y := h1
    exact .inr ⟨i, y, h2, h3, by rw [h.vic, hP, h4]; rfl⟩
theorem find_all {L : List RK} : (L.find? fun z => !(false && z.pin)) = L.head? := by
  cases L with
  | nil => rfl
  | cons a L => exact List.find?_cons_of_pos rfl
/-- In what order they'd go: the next one. -/
theorem Srt.next1 {ks : List RK} (h : Srt P D ks) {r : Int} (hr : IsFirst ks false false r) : (r = -1 ∧ P = []) ∨ ∃ (i : Nat) (y : RK) (P' : List RK), r = (i : Int) ∧ ks[i]? = some y ∧ P = y :: P' := by
  rcases h.first hr with ⟨h1, h2⟩ | ⟨i, y, h1, h2, h3⟩
  · have h4 : (P.find? fun z => !(false && z.pin)) = none := h1
    rw [find_all] at h4
    exact .inl ⟨h2, List.head?_eq_none_iff.1 h4⟩
  · have h4 : (P.find? fun z => !(false && z.pin)) = some y := h1
    rw [find_all] at h4
    obtain ⟨P', e⟩ := List.head?_eq_some_iff.1 h4
    exact .inr ⟨i, y, P', h2, h3, e⟩
theorem Srt.next2 {ks : List RK} (h : Srt P D ks) {r : Int} (hr : IsFirst ks true false r) (hP : P = []) (hk : 0 < ks.length) : ∃ (i : Nat) (y : RK) (D' : List RK), r = (i : Int) ∧ ks[i]? = some y ∧ D = y :: D' := by
  rcases h.first hr with ⟨h1, h2⟩ | ⟨i, y, h1, h2, h3⟩
  · have h4 : (D.find? fun z => !(false && z.pin)) = none := h1
    rw [find_all] at h4
    have h5 := h.perm.length_eq
    rw [hP, List.head?_eq_none_iff.1 h4] at h5
    simp at h5; omega
  · have h4 : (D.find? fun z => !(false && z.pin)) = some y := h1
    rw [find_all] at h4
    obtain ⟨D', e⟩ := List.head?_eq_some_iff.1 h4
    exact ⟨i, y, D', h2, h3, e⟩
/-- Behind it: what is left. -/
theorem Srt.left {ks L : List RK} (h : Srt P D ks) (hi : ks[i]? = some y) (e : P ++ D = y :: L) : ∃ P' D', Srt P' D' (ks.eraseIdx i) ∧ (P' ++ D').map RK.n = L.map RK.n := by
  obtain ⟨P', D', h1, h2, h3⟩ := h.out hi
  refine ⟨P', D', h1, ?_⟩
  rw [List.map_append, h2, h3]
  have hn := h.names
  rw [List.map_append] at hn
  have h4 : (P.map RK.n ++ D.map RK.n).erase y.n = (P.map RK.n).erase y.n ++ (D.map RK.n).erase y.n := by
    rw [List.erase_append]
    split
    · next hm =>
      rw [List.erase_of_not_mem (l := D.map RK.n) fun hm2 => (List.nodup_append.1 hn).2.2 _ hm _ hm2 rfl]
    · next hm => rw [List.erase_of_not_mem hm]
  refine h4.symm.trans ?_
  rw [← List.map_append, e, List.map_cons, List.erase_cons_head]
end Go.Proofs.YtijagdpkclghnaaDoor
/- Rows of the document's keys: laws of my own. -/
namespace Go.Proofs.YtijagdpkclghnaaDoor
open Go Go.RowKit
set_option maxRecDepth 100000
abbrev RK.cells (x : RK) : List Value := [.int .i64 x.n, .bool x.dear, .bool x.pin, .int .i64 (x.at_ : Int)]
def keyCells (ks : List RK) : List Value := ks.flatMap RK.cells
variable {ks : List RK} {x y : RK} {i : Nat}
theorem keyCells_cons (x : RK) (ks : List RK) : keyCells (x :: ks) = x.cells ++ keyCells ks := by simp [keyCells]
theorem keyCells_len (ks : List RK) : (keyCells ks).length = ks.length * 4 := by
  induction ks with
  | nil => rfl
  | cons a ks ih => rw [keyCells_cons, List.length_append, ih]; simp; omega
theorem keyCells_append (a b : List RK) : keyCells (a ++ b) = keyCells a ++ keyCells b := by simp [keyCells]
theorem keyCells_get : ∀ {ks : List RK} {i : Nat} {x : RK}, ks[i]? = some x → ∀ j, j < 4 → (keyCells ks)[i * 4 + j]? = x.cells[j]?
  | [], i, x, h, _, _ => by simp at h
  | a :: ks, 0, x, h, j, hj => by
    simp at h; subst h
    rw [keyCells_cons, Nat.zero_mul, Nat.zero_add, List.getElem?_append_left (by simp; omega)]
  | a :: ks, i + 1, x, h, j, hj => by
    rw [keyCells_cons, List.getElem?_append_right (by simp; omega)]
    have e : (i + 1) * 4 + j - a.cells.length = i * 4 + j := by simp; omega
    rw [e]
    exact keyCells_get (by simpa using h) j hj
theorem keyCells_set : ∀ {ks : List RK} {i : Nat} {x : RK} (_ : ks[i]? = some x) (j : Nat) (_ : j < 4) (v : Value) (y : RK), x.cells.set j v = y.cells → (keyCells ks).set (i * 4 + j) v = keyCells (ks.set i y)
  | [], i, x, h, _, _, _, _, _ => by simp at h
  | a :: ks, 0, x, h, j, hj, v, y, hy => by
    simp at h; subst h
    rw [keyCells_cons, Nat.zero_mul, Nat.zero_add, List.set_append_left _ _ (by simp; omega), hy, List.set_cons_zero, keyCells_cons]
  | a :: ks, i + 1, x, h, j, hj, v, y, hy => by
    rw [keyCells_cons, List.set_append_right _ _ (by simp; omega), List.set_cons_succ, keyCells_cons]
    have e : (i + 1) * 4 + j - a.cells.length = i * 4 + j := by simp; omega
    rw [e, keyCells_set (by simpa using h) j hj v y hy]
abbrev kT : TypeId := 116
/-- The row of keys ks that v owns, no block of it below B. -/
def krow (w : World) (B : Nat) (v : Value) (ks : List RK) : Prop := w.ownsRow B kT 4 v ks.length (keyCells ks)
variable {w w' : World} {B : Nat} {v : Value}
theorem krow.nil (w : World) (B : Nat) : krow w B (.slice none 0 0) [] := World.ownsRow_nil _ _ _ _
theorem krow.lt (h : krow w B v ks) (k : Nat) (hk : v.ownBlock = some k) : B ≤ k ∧ k < w.heap.size := World.ownsRow.lt h k hk
theorem krow.shape (h : krow w B v ks) : ∃ a c, v = .slice a ks.length c := by
  obtain ⟨_, h⟩ := h
  rcases h with ⟨rfl, h2⟩ | ⟨g, cap, cur, rfl, _⟩
  · exact ⟨none, 0, by rw [h2]⟩
  · exact ⟨_, _, rfl⟩
theorem krow.same (h : krow w B v ks) (hb : ∀ k, v.ownBlock = some k → w'.heap[k]? = w.heap[k]?) : krow w' B v ks := by
  obtain ⟨hl, h⟩ := h
  refine ⟨hl, ?_⟩
  rcases h with h | ⟨g, cap, cur, hv, hB, hh, r⟩
  · exact .inl h
  · exact .inr ⟨g, cap, cur, hv, hB, (hb g (by rw [hv]; rfl)).trans hh, r⟩
theorem krow.below (h : krow w B v ks) (hb : Below w.heap.size w w') : krow w' B v ks := h.same fun k hk => hb.block k (h.lt k hk).2
/-- One of the keys: where it lies. -/
theorem krow.at (h : krow w B v ks) (hi : ks[i]? = some x) : ∃ g c, v = .slice (some ⟨g, 0, none⟩) ks.length c ∧ B ≤ g ∧ g < w.heap.size ∧ w.cell? ⟨g, i * 4, none⟩ = some (.int .i64 x.n) ∧ w.cell? ⟨g, i * 4 + 1, none⟩ = some (.bool x.dear) ∧
    w.cell? ⟨g, i * 4 + 2, none⟩ = some (.bool x.pin) ∧ w.cell? ⟨g, i * 4 + 3, none⟩ = some (.int .i64 (x.at_ : Int)) ∧ ∀ j, w.frozen? ⟨g, j, none⟩ = false := by
  have hil : i < ks.length := (List.getElem?_eq_some_iff.1 hi).1
  have hlt := h.lt
  have h0 := h
  obtain ⟨hl, h⟩ := h
  rcases h with ⟨rfl, h2⟩ | ⟨g, cap, cur, rfl, hB, hh, r⟩
  · omega
  · have hc := fun j hj => (World.ownsRow.cellAt h0 (i * 4 + j) (by omega)).trans (keyCells_get hi j hj)
    exact ⟨g, cap, rfl, hB, (hlt g rfl).2, hc 0 (by omega), hc 1 (by omega), hc 2 (by omega), hc 3 (by omega), fun j => World.ownsRow.frozenAt h0 j⟩
/-- A field of one of them is set. -/
theorem krow.set {g m c : Nat} (h : krow w B (.slice (some ⟨g, 0, none⟩) m c) ks) (hi : ks[i]? = some x) (j : Nat) (hj : j < 4) (u : Value) (y : RK) (hy : x.cells.set j u = y.cells) :
    krow (w.setCell ⟨g, i * 4 + j, none⟩ u) B (.slice (some ⟨g, 0, none⟩) m c) (ks.set i y) ∧ w.grownBy (w.setCell ⟨g, i * 4 + j, none⟩ u) (some g) := by
  have hm : m = ks.length := by
    obtain ⟨a, c', e⟩ := h.shape
    exact (Value.slice.inj e).2.1
  subst hm
  obtain ⟨h1, h2⟩ := World.ownsRow.stored h (i * 4 + j) u
  refine ⟨?_, h2⟩
  unfold krow
  rw [List.length_set, ← keyCells_set hi j hj u y hy]
  exact h1
end Go.Proofs.YtijagdpkclghnaaDoor
/- The document's turn in memory; Find, Dear, first: contracts. -/
namespace Go.Proofs.YtijagdpkclghnaaDoor
open Go Go.RowKit
set_option maxRecDepth 100000
abbrev rT : TypeId := 95
structure RefAt (B : Nat) (w : World) (r : Nat) (v : Value) (R : RS) : Prop where
  row : w.row r [.int .i64 (R.most : Int), .int .i64 (R.limit : Int), v, .int .i64 (R.clock : Int)] rT
  kr : krow w B v R.ks
  vr : v.ownBlock ≠ some r
  br : B ≤ r
variable {B r : Nat} {w w' : World} {v : Value} {R : RS} {ks : List RK} {x y z : RK} {i : Nat}
theorem RefAt.below (h : RefAt B w r v R) (hb : Below w.heap.size w w') : RefAt B w' r v R := ⟨h.row.below hb h.row.lt, h.kr.below hb, h.vr, h.br⟩
theorem RefAt.keep (h : RefAt B w r v R) (h1 : w'.heap[r]? = w.heap[r]?) (h2 : ∀ k, v.ownBlock = some k → w'.heap[k]? = w.heap[k]?) : RefAt B w' r v R := ⟨by have := h.row; unfold World.row at *; rw [h1]; exact this, h.kr.same h2, h.vr, h.br⟩
def IsFind (ks : List RK) (n z : Int) : Prop := (z = -1 ∧ ∀ x ∈ ks, x.n ≠ n) ∨ ∃ (i : Nat) (x : RK), z = (i : Int) ∧ ks[i]? = some x ∧ x.n = n
theorem Find_any (n : Int) (w : World) (h : RefAt B w r v R) (hl : R.ks.length ≤ 1000) :
    Calls Tryd.prog 43 #[pt r, .int .i64 n] w fun e w' => (∃ z, e = .returned (.int .i64 z) ∧ IsFind R.ks n z) ∧ w = w' := by
  obtain ⟨c0, c1, c2, c3, cz⟩ := h.row.four
  have hkr := h.kr
  obtain ⟨a, c, rfl⟩ := hkr.shape
  obtain ⟨m, hm⟩ : ∃ m, m = R.ks.length := ⟨_, rfl⟩
  rw [← hm] at c2 hkr hl
  have HK := Lib.hid (And.intro hkr hm)
  have hrl := h.row.lt
  clear hkr hm h
  go_enter Tryd.func43, Tryd.ntmps43
  go_wp2_with fail
  go_loopw [5] (fun x wr => ∃ (i : Nat), i ≤ m ∧ x = .int .i64 i ∧ w = wr ∧ ∀ j y, j < i → R.ks[j]? = some y → y.n ≠ n) (fun x _ => m - (intOf x).toNat)
  case atStart => exact ⟨0, by omega, rfl, rfl, fun j y hj => by omega⟩
  case round =>
    obtain ⟨i, hi, rfl, rfl, hall⟩ := hrel
    have HA := Lib.hid hall
    clear hall
    by_cases hlt : i < m
    · have hil : i < R.ks.length := by rw [← HK.out.2]; exact hlt
      obtain ⟨x, hx⟩ : ∃ x, R.ks[i]? = some x := ⟨R.ks[i], List.getElem?_eq_getElem hil⟩
      obtain ⟨g, c', ev, hBg, hgl, d0, d1, d2, d3, dz⟩ := HK.out.1.at hx
      obtain ⟨rfl, hmL, rfl⟩ := Value.slice.inj ev
      have HX := Lib.hid hx
      clear hmL ev hil hBg d1 d2 d3 hx
      by_cases he : x.n = n
      · have HE := Lib.hid he
        rw [he] at d0
        clear he
        go_wp2_with fail
        go_returns
        exact ⟨⟨_, rfl, .inr ⟨i, x, rfl, HX.out, HE.out⟩⟩, rfl⟩
      · go_wp2_with fail
        go_roundw
        case rel =>
          refine ⟨i + 1, by omega, by go_num, trivial, fun j y hj hy => ?_⟩
          by_cases e : j = i
          · subst e
            have := HX.out.symm.trans hy
            cases this
            exact he
          · exact HA.out j y (by omega) hy
        case measure => simp [intOf] <;> omega
    · go_wp2_with fail
      go_returns
      refine ⟨⟨_, rfl, .inl ⟨rfl, fun x hx => ?_⟩⟩, rfl⟩
      obtain ⟨j, hj, rfl⟩ := List.getElem_of_mem hx
      exact HA.out j _ (by have := HK.out.2; omega) (List.getElem?_eq_getElem hj)
theorem filter_take (hx : ks[i]? = some x) : ((ks.take (i + 1)).filter RK.dear).length = ((ks.take i).filter RK.dear).length + if x.dear then 1 else 0 := by
  rw [List.take_add_one, hx, List.filter_append, List.length_append]
  cases hd : x.dear <;> simp [List.filter, hd]
theorem Dear_any (w : World) (h : RefAt B w r v R) (hl : R.ks.length ≤ 1000) :
    Calls Tryd.prog 63 #[pt r] w fun e w' => e = .returned (.int .i64 ((R.ks.filter RK.dear).length : Int)) ∧ w = w' := by
  obtain ⟨c0, c1, c2, c3, cz⟩ := h.row.four
  have hkr := h.kr
  obtain ⟨a, c, rfl⟩ := hkr.shape
  obtain ⟨m, hm⟩ : ∃ m, m = R.ks.length := ⟨_, rfl⟩
  rw [← hm] at c2 hkr hl
  have HK := Lib.hid (And.intro hkr hm)
  have hrl := h.row.lt
  clear hkr hm h
  go_enter Tryd.func63, Tryd.ntmps63
  go_wp2_with fail
  go_loopw [3, 4] (fun s x wr => ∃ (i q : Nat), i ≤ m ∧ x = .int .i64 i ∧ s = .int .i64 q ∧ q ≤ i ∧ w = wr ∧ q = ((R.ks.take i).filter RK.dear).length) (fun _ x _ => m - (intOf x).toNat)
  case atStart => exact ⟨0, 0, by omega, rfl, rfl, by omega, rfl, by simp⟩
  case round =>
    obtain ⟨i, q, hi, rfl, rfl, hq, rfl, hqe⟩ := hrel
    have HQ := Lib.hid hqe
    clear hqe
    by_cases hlt : i < m
    · have hil : i < R.ks.length := by rw [← HK.out.2]; exact hlt
      obtain ⟨x, hx⟩ : ∃ x, R.ks[i]? = some x := ⟨R.ks[i], List.getElem?_eq_getElem hil⟩
      obtain ⟨g, c', ev, hBg, hgl, d0, d1, d2, d3, dz⟩ := HK.out.1.at hx
      obtain ⟨rfl, hmL, rfl⟩ := Value.slice.inj ev
      have HX := Lib.hid (filter_take hx)
      clear hmL ev hil hBg d0 d2 d3 hx
      cases hd : x.dear with
      | true =>
        rw [hd] at d1
        have HD := Lib.hid hd
        clear hd
        go_wp2_with fail
        go_roundw
        case rel => exact ⟨i + 1, q + 1, by omega, by go_num, by go_num, by omega, trivial, by rw [HX.out, HD.out, ← HQ.out]; rfl⟩
        case measure => simp [intOf] <;> omega
      | false =>
        rw [hd] at d1
        have HD := Lib.hid hd
        clear hd
        go_wp2_with fail
        go_roundw
        case rel => exact ⟨i + 1, q, by omega, by go_num, rfl, by omega, trivial, by rw [HX.out, HD.out, ← HQ.out]; rfl⟩
        case measure => simp [intOf] <;> omega
    · have hq2 : q = (R.ks.filter RK.dear).length := by rw [HQ.out, List.take_of_length_le (by have := HK.out.2; omega)]
      have HQ2 := Lib.hid hq2
      clear hq2
      go_wp2_with fail
      go_returns
      exact ⟨by rw [← HQ2.out]; rfl, rfl⟩
theorem isFirst_zero (b free : Bool) : IsFirst (ks.take 0) b free (-1) := .inl ⟨rfl, fun z hz => by simp at hz⟩
theorem mem_take_succ (hx : ks[i]? = some x) (hz : z ∈ ks.take (i + 1)) : z ∈ ks.take i ∨ z = x := by
  rw [List.take_add_one, hx] at hz
  rcases List.mem_append.1 hz with h | h
  · exact .inl h
  · exact .inr (by simpa using h)
theorem get_take {j : Nat} (h : (ks.take i)[j]? = some y) : j < i ∧ ks[j]? = some y := by
  rw [List.getElem?_take] at h
  split at h
  · next hj => exact ⟨hj, h⟩
  · cases h
theorem take_get {j : Nat} (h : ks[j]? = some y) (hj : j < i) : (ks.take i)[j]? = some y := by
  rw [List.getElem?_take, if_pos hj]; exact h
theorem isFirst_skip {b free : Bool} {q : Int} (h : IsFirst (ks.take i) b free q) (hx : ks[i]? = some x) (hf : fits b free x = false) : IsFirst (ks.take (i + 1)) b free q := by
  rcases h with ⟨rfl, h⟩ | ⟨j, y, rfl, hj, hy, hm⟩
  · refine .inl ⟨rfl, fun z hz => ?_⟩
    rcases mem_take_succ hx hz with h1 | rfl
    · exact h z h1
    · exact hf
  · obtain ⟨h1, h2⟩ := get_take hj
    refine .inr ⟨j, y, rfl, take_get h2 (by omega), hy, fun z hz hfz => ?_⟩
    rcases mem_take_succ hx hz with h3 | rfl
    · exact hm z h3 hfz
    · rw [hf] at hfz; cases hfz
theorem isFirst_here {b free : Bool} {q : Int} (h : IsFirst (ks.take i) b free q) (hx : ks[i]? = some x) (hf : fits b free x = true) (hc : q = -1 ∨ ∃ (j : Nat) (y : RK), q = (j : Int) ∧ ks[j]? = some y ∧ x.at_ < y.at_) : IsFirst (ks.take (i + 1)) b free (i : Int) := by
  refine .inr ⟨i, x, rfl, take_get hx (by omega), hf, fun z hz hfz => ?_⟩
  rcases mem_take_succ hx hz with h3 | rfl
  · rcases h with ⟨rfl, h⟩ | ⟨j, y, rfl, hj, hy, hm⟩
    · rw [h z h3] at hfz; cases hfz
    · rcases hc with hc | ⟨j', y', e, hj', hlt⟩
      · omega
      · obtain rfl : j = j' := by omega
        have := (get_take hj).2.symm.trans hj'
        cases this
        have := hm z h3 hfz
        omega
  · exact Nat.le_refl _
theorem isFirst_keep {b free : Bool} {j : Nat} (h : IsFirst (ks.take i) b free (j : Int)) (hx : ks[i]? = some x) (hj : ks[j]? = some y) (hle : y.at_ ≤ x.at_) : IsFirst (ks.take (i + 1)) b free (j : Int) := by
  rcases h with ⟨e, _⟩ | ⟨j', y', e, hj', hy, hm⟩
  · omega
  · obtain rfl : j = j' := by omega
    obtain ⟨h1, h2⟩ := get_take hj'
    have := h2.symm.trans hj
    cases this
    refine .inr ⟨j, y, rfl, take_get h2 (by omega), hy, fun z hz hfz => ?_⟩
    rcases mem_take_succ hx hz with h3 | rfl
    · exact hm z h3 hfz
    · exact hle
theorem isFirst_lt {b free : Bool} {q : Int} (h : IsFirst (ks.take i) b free q) : q = -1 ∨ ∃ (j : Nat) (y : RK), q = (j : Int) ∧ j < i ∧ ks[j]? = some y := by
  rcases h with ⟨rfl, _⟩ | ⟨j, y, rfl, hj, _⟩
  · exact .inl rfl
  · obtain ⟨h1, h2⟩ := get_take hj
    exact .inr ⟨j, y, rfl, h1, h2⟩
end Go.Proofs.YtijagdpkclghnaaDoor
/- The document's 'first': its contract. -/
namespace Go.Proofs.YtijagdpkclghnaaDoor
open Go Go.RowKit
set_option maxRecDepth 100000
variable {B r : Nat} {w w' : World} {v : Value} {R : RS} {ks : List RK} {x y z : RK} {i : Nat}
set_option maxHeartbeats 2000000 in
theorem first_any (b free : Bool) (w : World) (h : RefAt B w r v R) (hl : R.ks.length ≤ 1000) :
    Calls Tryd.prog 64 #[pt r, .bool b, .bool free] w fun e w' => (∃ q, e = .returned (.int .i64 q) ∧ IsFirst R.ks b free q) ∧ Below w.heap.size w w' := by
  have HR := Lib.hid h
  obtain ⟨m, hm⟩ : ∃ m, m = R.ks.length := ⟨_, rfl⟩
  rw [← hm] at hl
  have HM := Lib.hid hm
  obtain ⟨a, c, hv⟩ := h.kr.shape
  rw [← hm] at hv
  subst hv
  clear hm h
  obtain ⟨bl, hbl⟩ : ∃ bl, bl = w.heap.size := ⟨_, rfl⟩
  have hrl : r < bl := by rw [hbl]; exact HR.out.row.lt
  have HBL := Lib.hid hbl
  clear hbl
  go_enter Tryd.func64, Tryd.ntmps64
  go_wp2_with fail
  go_loopw [7, 8] (fun s x wr => ∃ (i : Nat) (q : Int), i ≤ m ∧ x = .int .i64 i ∧ s = .int .i64 q ∧ Below w.heap.size w wr ∧ IsFirst (R.ks.take i) b free q) (fun _ x _ => m - (intOf x).toNat)
  case atStart => exact ⟨0, -1, by omega, rfl, rfl, Below.refl _ _, isFirst_zero b free⟩
  case round =>
    obtain ⟨i, q, hi, rfl, rfl, hB, hq⟩ := hrel
    have hRr := HR.out.below hB
    obtain ⟨c0, c1, c2, c3, cz⟩ := hRr.row.four
    have hrl2 := hRr.row.lt
    have HQ := Lib.hid hq
    have hqc := isFirst_lt hq
    clear hq
    by_cases hlt : i < m
    · have hil : i < R.ks.length := by rw [← HM.out]; exact hlt
      obtain ⟨x, hx⟩ : ∃ x, R.ks[i]? = some x := ⟨R.ks[i], List.getElem?_eq_getElem hil⟩
      obtain ⟨g, c', ev, hBg, hgl, d0, d1, d2, d3, dz⟩ := hRr.kr.at hx
      obtain ⟨rfl, hmL, rfl⟩ := Value.slice.inj ev
      have HX := Lib.hid hx
      have HRR := Lib.hid hRr
      obtain ⟨xd, hxd⟩ : ∃ xd, xd = x.dear := ⟨_, rfl⟩
      obtain ⟨xp, hxp⟩ : ∃ xp, xp = x.pin := ⟨_, rfl⟩
      have hfit : fits b free x = ((xd == b) && !(free && xp)) := by rw [hxd, hxp]; rfl
      have HF := Lib.hid hfit
      rw [← hxd] at d1
      rw [← hxp] at d2
      clear hmL ev hil hBg d0 hx hRr hxd hxp hfit
      by_cases hf : fits b free x = true
      · have HFF := Lib.hid hf
        rw [HF.out] at hf
        have hcs : xd = b ∧ (free = false ∨ (free = true ∧ xp = false)) := by
          revert hf; cases xd <;> cases b <;> cases free <;> cases xp <;> simp
        clear hf
        have hq3 : q = -1 ∨ (∃ (j : Nat) (y : RK), q = (j : Int) ∧ j < i ∧ R.ks[j]? = some y ∧ x.at_ < y.at_) ∨ (∃ (j : Nat) (y : RK), q = (j : Int) ∧ j < i ∧ R.ks[j]? = some y ∧ ¬ x.at_ < y.at_) := by
          rcases hqc with h | ⟨j, y, h1, h2, h3⟩
          · exact .inl h
          · by_cases hh : x.at_ < y.at_
            · exact .inr (.inl ⟨j, y, h1, h2, h3, hh⟩)
            · exact .inr (.inr ⟨j, y, h1, h2, h3, hh⟩)
        clear hqc
        obtain ⟨xa, hxa⟩ : ∃ xa, xa = x.at_ := ⟨_, rfl⟩
        have HXA := Lib.hid hxa
        rw [← hxa] at d3 hq3
        clear hxa
        rcases hq3 with rfl | ⟨j, y, rfl, hji, hy, hlt3⟩ | ⟨j, y, rfl, hji, hy, hlt3⟩
        · obtain ⟨rfl, hcs⟩ := hcs
          rcases hcs with rfl | ⟨rfl, rfl⟩
          all_goals (
            go_wp2_with fail
            go_quiet (fail)
            go_wp2_with fail
            go_roundw
            case rel => exact ⟨i + 1, i, by omega, by go_num, by go_num, hB.drewN _, isFirst_here HQ.out HX.out HFF.out (.inl rfl)⟩
            case measure => simp [intOf] <;> omega)
        all_goals (
          obtain ⟨g2, c2', ev2, hBg2, hgl2, e0, e1, e2, e3, ez⟩ := HRR.out.kr.at hy
          obtain ⟨eg, hmL2, ec⟩ := Value.slice.inj ev2
          obtain rfl : g = g2 := by simpa using eg
          obtain ⟨ya, hya⟩ : ∃ ya, ya = y.at_ := ⟨_, rfl⟩
          have HYA := Lib.hid hya
          have hj0 : ((j : Int) < 0) = False := eq_false (by omega)
          have HY := Lib.hid hy
          rw [← hya] at e3 hlt3
          clear hya ev2 eg hmL2 ec hBg2 hgl2 e0 e1 e2 ez hy)
        · have hI : (xa : Int) < (ya : Int) := by omega
          obtain ⟨rfl, hcs⟩ := hcs
          rcases hcs with rfl | ⟨rfl, rfl⟩
          all_goals (
            go_wp2_with fail
            go_quiet (fail)
            go_wp2_with fail
            go_roundw
            case rel => exact ⟨i + 1, i, by omega, by go_num, by go_num, hB.drewN _, isFirst_here HQ.out HX.out HFF.out (.inr ⟨j, y, rfl, HY.out, by rw [← HXA.out, ← HYA.out]; exact hlt3⟩)⟩
            case measure => simp [intOf] <;> omega)
        · have hI : ¬ (xa : Int) < (ya : Int) := by omega
          obtain ⟨rfl, hcs⟩ := hcs
          rcases hcs with rfl | ⟨rfl, rfl⟩
          all_goals (
            go_wp2_with fail
            go_quiet (fail)
            go_wp2_with fail
            go_roundw
            case rel => exact ⟨i + 1, j, by omega, by go_num, rfl, hB.drewN _, isFirst_keep HQ.out HX.out HY.out (by rw [← HXA.out, ← HYA.out]; omega)⟩
            case measure => simp [intOf] <;> omega)
      · have hff : fits b free x = false := by simpa using hf
        have HFF := Lib.hid hff
        rw [HF.out] at hff
        clear hf hqc
        have hcs : xd ≠ b ∨ (xd = b ∧ free = true ∧ xp = true) := by
          revert hff; cases xd <;> cases b <;> cases free <;> cases xp <;> simp
        clear hff
        rcases hcs with hne | ⟨rfl, rfl, rfl⟩
        · have hne2 : (xd != b) = true := bne_iff_ne.2 hne
          go_wp2_with fail
          go_roundw
          case rel => exact ⟨i + 1, q, by omega, by go_num, rfl, hB, isFirst_skip HQ.out HX.out HFF.out⟩
          case measure => simp [intOf] <;> omega
        · go_wp2_with fail
          go_roundw
          case rel => exact ⟨i + 1, q, by omega, by go_num, rfl, hB, isFirst_skip HQ.out HX.out HFF.out⟩
          case measure => simp [intOf] <;> omega
    · have hqq : IsFirst R.ks b free q := by
        have := HQ.out
        rw [List.take_of_length_le (by have := HM.out; omega)] at this
        exact this
      have HQQ := Lib.hid hqq
      clear hqq
      go_wp2_with fail
      go_returns
      exact ⟨⟨q, rfl, HQQ.out⟩, hB⟩
end Go.Proofs.YtijagdpkclghnaaDoor
/- The document's Pin, Touch: contracts. -/
namespace Go.Proofs.YtijagdpkclghnaaDoor
open Go Go.RowKit
set_option maxRecDepth 100000
/-- What a call on the document's turn leaves. -/
structure RStep (r : Nat) (v v' : Value) (w w' : World) : Prop where
  os : w'.os = w.os
  tape : w'.tape = w.tape
  output : w'.output = w.output
  size : w.heap.size ≤ w'.heap.size
  own : ∀ k, v'.ownBlock = some k → v.ownBlock = some k ∨ w.heap.size ≤ k
  block : ∀ k, k < w.heap.size → k ≠ r → v.ownBlock ≠ some k → w'.heap[k]? = w.heap[k]?
variable {B r : Nat} {w w' w'' : World} {v v' v'' : Value} {R : RS} {ks : List RK} {x y z : RK} {i : Nat} {T : TS} {P D : List RK}
theorem RStep.of_below (h : Below w.heap.size w w') : RStep r v v w w' := ⟨h.os, h.tape, h.output, h.size, fun _ h => .inl h, fun k hk _ _ => h.block k hk⟩
theorem RStep.refl (r : Nat) (v : Value) (w : World) : RStep r v v w w := ⟨rfl, rfl, rfl, Nat.le_refl _, fun _ h => .inl h, fun _ _ _ _ => rfl⟩
theorem RStep.trans (h : RStep r v v' w w') (h2 : RStep r v' v'' w' w'') : RStep r v v'' w w'' :=
  ⟨h2.os.trans h.os, h2.tape.trans h.tape, h2.output.trans h.output, Nat.le_trans h.size h2.size, fun k hk => (h2.own k hk).elim (h.own k) fun h3 => .inr (Nat.le_trans h.size h3),
    fun k hk hr hv => (h2.block k (Nat.lt_of_lt_of_le hk h.size) hr fun e => (h.own k e).elim hv fun h3 => by omega).trans (h.block k hk hr hv)⟩
theorem setCell_else (w : World) (b o : Nat) (u : Value) {k : Nat} (hk : k ≠ b) : (w.setCell ⟨b, o, none⟩ u).heap[k]? = w.heap[k]? := by simp [World.setCell, Array.getElem?_modify, Ne.symm hk]
/-- A field of a key is set. -/
theorem RefAt.keySet {g m c : Nat} (h : RefAt B w r (.slice (some ⟨g, 0, none⟩) m c) R) (hi : R.ks[i]? = some x) (j : Nat) (hj : j < 4) (u : Value) (y : RK) (hy : x.cells.set j u = y.cells) :
    RefAt B (w.setCell ⟨g, i * 4 + j, none⟩ u) r (.slice (some ⟨g, 0, none⟩) m c) { R with ks := R.ks.set i y } ∧ RStep r (.slice (some ⟨g, 0, none⟩) m c) (.slice (some ⟨g, 0, none⟩) m c) w (w.setCell ⟨g, i * 4 + j, none⟩ u) := by
  obtain ⟨h1, h2⟩ := h.kr.set hi j hj u y hy
  have hgr : g ≠ r := fun e => h.vr (by rw [e]; rfl)
  refine ⟨⟨h.row.other _ _ hgr, h1, h.vr, h.br⟩, h2.os, h2.tape, h2.output, h2.size, fun k hk => .inl hk, fun k _ _ hv => setCell_else w g _ u fun e => hv (by rw [e]; rfl)⟩
/-- Its clock goes on. -/
theorem RefAt.tick (h : RefAt B w r v R) (c : Nat) : RefAt B (w.setCell ⟨r, 3, none⟩ (.int .i64 (c : Int))) r v { R with clock := c } ∧ RStep r v v w (w.setCell ⟨r, 3, none⟩ (.int .i64 (c : Int))) :=
  ⟨⟨h.row.set 3 _, h.kr.same fun k hk => setCell_else w r _ _ fun e => h.vr (by rw [hk, e]), h.vr, h.br⟩, rfl, rfl, rfl, by simp [World.setCell], fun k hk => .inl hk, fun k _ hr _ => setCell_else w r _ _ hr⟩
theorem RefAt.drew (h : RefAt B w r v R) : RefAt B w.drew r v R := h.keep rfl fun _ _ => rfl
theorem Rel.find (hrel : Rel T R P D) {k q : Int} (h : IsFind R.ks k q) : (q = -1 ∧ T.has k = false) ∨ ∃ (i : Nat) (x : RK), q = (i : Int) ∧ R.ks[i]? = some x ∧ x.n = k ∧ T.has k = true ∧ T.dear.contains k = x.dear := by
  rcases h with ⟨h1, h2⟩ | ⟨i, x, h1, h2, h3⟩
  · exact .inl ⟨h1, hrel.gone h2⟩
  · exact .inr ⟨i, x, h1, h2, h3, hrel.there h2 h3⟩
theorem Rel.len64 (hrel : Rel T R P D) (hg : Good T) : R.ks.length ≤ 64 := by
  have h1 := hg.len
  have h2 := hg.m64
  rw [hrel.len]; omega
theorem RPin_any (k : Int) (on : Bool) (w : World) (h : RefAt B w r v R) (hrel : Rel T R P D) (hg : Good T) (hn : T.pins.Nodup) :
    Calls Tryd.prog 44 #[pt r, .int .i64 k, .bool on] w fun e w' => e = .returned (.bool (T.has k)) ∧ ∃ R' P' D', RefAt B w' r v R' ∧ Rel (T.pinT k on) R' P' D' ∧ RStep r v v w w' ∧ R'.clock = R.clock := by
  have hl := hrel.len64 hg
  have hF := Find_any k w h (by omega)
  have HR := Lib.hid (And.intro h (And.intro hrel hn))
  clear h hrel hg hn
  go_enter Tryd.func44, Tryd.ntmps44
  go_wp2_with fail
  refine hF.mono ?_
  rintro e w' ⟨⟨q, rfl, hq⟩, rfl⟩
  rcases HR.out.2.1.find hq with ⟨rfl, hh⟩ | ⟨i, x, rfl, hi, he, hh, hd⟩
  · have HH := Lib.hid hh
    clear hF hq hh
    go_wp2_with fail
    go_returns
    refine ⟨by rw [HH.out]; rfl, R, P, D, HR.out.1, ?_, RStep.refl _ _ _, rfl⟩
    unfold TS.pinT
    rw [HH.out]
    exact HR.out.2.1
  · obtain ⟨c0, c1, c2, c3, cz⟩ := HR.out.1.row.four
    have hrl := HR.out.1.row.lt
    obtain ⟨g, c, rfl, hBg, hgl, d0, d1, d2, d3, dz⟩ := HR.out.1.kr.at hi
    have hil : i < R.ks.length := (List.getElem?_eq_some_iff.1 hi).1
    have HI := Lib.hid (And.intro hi (And.intro he (And.intro hh hd)))
    obtain ⟨m, hm⟩ : ∃ m, m = R.ks.length := ⟨_, rfl⟩
    rw [← hm] at c2 hl hil
    have HM := Lib.hid hm
    clear hF hq hh hi he hd hBg d0 d1 d3 hm
    go_wp2_with fail
    go_returns
    obtain ⟨N1, N2⟩ := HR.out.1.keySet HI.out.1 2 (by omega) (.bool on) { x with pin := on } rfl
    obtain ⟨P', D', N3⟩ := HR.out.2.1.pinned HR.out.2.2 HI.out.1 HI.out.2.1 on
    exact ⟨by rw [HI.out.2.2.1]; rfl, _, P', D', N1, N3, N2, rfl⟩
end Go.Proofs.YtijagdpkclghnaaDoor
/- The document's Touch: its contract. -/
namespace Go.Proofs.YtijagdpkclghnaaDoor
open Go Go.RowKit
set_option maxRecDepth 100000
variable {B r : Nat} {w w' w'' : World} {v v' v'' : Value} {R : RS} {ks : List RK} {x y z : RK} {i : Nat} {T : TS} {P D : List RK}
theorem RefAt.tick1 (h : RefAt B w r v R) : RefAt B (w.setCell ⟨r, 3, none⟩ (.int .i64 ((R.clock : Int) + 1))) r v { R with clock := R.clock + 1 } ∧ RStep r v v w (w.setCell ⟨r, 3, none⟩ (.int .i64 ((R.clock : Int) + 1))) := by
  have := h.tick (R.clock + 1)
  rw [show ((R.clock + 1 : Nat) : Int) = (R.clock : Int) + 1 by omega] at this
  exact this
theorem RStep.drew (r : Nat) (v : Value) (w : World) : RStep r v v w w.drew := ⟨rfl, rfl, rfl, Nat.le_refl _, fun _ h => .inl h, fun _ _ _ _ => rfl⟩
theorem Srt.firstDear (h : Srt P (y :: D) ks) {q : Int} (hr : IsFirst ks true false q) : ∃ i : Nat, q = (i : Int) ∧ ks[i]? = some y := by
  rcases h.first hr with ⟨h1, h2⟩ | ⟨i, y', h1, h2, h3⟩
  · have h4 : ((y :: D).find? fun z => !(false && z.pin)) = none := h1
    rw [find_all] at h4; cases h4
  · have h4 : ((y :: D).find? fun z => !(false && z.pin)) = some y' := h1
    rw [find_all] at h4
    cases h4
    exact ⟨i, h2, h3⟩
theorem setk (ks : List RK) (i : Nat) (y y' : RK) : (ks.set i y).set i y' = ks.set i y' := by rw [List.set_set]
set_option maxHeartbeats 2000000 in
theorem RTouch_any (k : Int) (w : World) (h : RefAt B w r v R) (hrel : Rel T R P D) (hg : Good T) (hcl : R.clock ≤ 1000) :
    Calls Tryd.prog 42 #[pt r, .int .i64 k] w fun e w' => e = .returned (.bool (T.has k)) ∧ ∃ R' P' D', RefAt B w' r v R' ∧ Rel (T.touchT k) R' P' D' ∧ RStep r v v w w' ∧ R'.clock ≤ R.clock + 2 := by
  have hl := hrel.len64 hg
  have hF := Find_any k w h (by omega)
  have HR := Lib.hid (And.intro h (And.intro hrel hg))
  clear h hrel hg
  go_enter Tryd.func42, Tryd.ntmps42
  go_wp2_with fail
  refine hF.mono ?_
  rintro e w' ⟨⟨q, rfl, hq⟩, rfl⟩
  rcases HR.out.2.1.find hq with ⟨rfl, hh⟩ | ⟨i, x, rfl, hi, he, hh, hd⟩
  · have HH := Lib.hid hh
    clear hF hq hh
    go_wp2_with fail
    go_returns
    refine ⟨by rw [HH.out]; rfl, R, P, D, HR.out.1, ?_, RStep.refl _ _ _, by omega⟩
    unfold TS.touchT
    rw [HH.out]
    exact HR.out.2.1
  · obtain ⟨c0, c1, c2, c3, cz⟩ := HR.out.1.row.four
    have hrl := HR.out.1.row.lt
    obtain ⟨g, c, rfl, hBg, hgl, d0, d1, d2, d3, dz⟩ := HR.out.1.kr.at hi
    have hil : i < R.ks.length := (List.getElem?_eq_some_iff.1 hi).1
    have HI := Lib.hid (And.intro hi (And.intro he (And.intro hh hd)))
    obtain ⟨m, hm⟩ : ∃ m, m = R.ks.length := ⟨_, rfl⟩
    rw [← hm] at c2 hl hil
    have HM := Lib.hid hm
    obtain ⟨hA0, sA0⟩ := HR.out.1.keySet HI.out.1 1 (by omega) (.bool true) { x with dear := true } rfl
    have hgr : g ≠ r := fun e => HR.out.1.vr (by rw [e]; rfl)
    clear hF hq hh hi he hd hBg d0 d2 d3 hm
    go_wp2_with fail
    refine wp_world (fun wa => RefAt B wa r (.slice (some ⟨g, 0, none⟩) R.ks.length c) { R with ks := R.ks.set i { x with dear := true } } ∧ RStep r (.slice (some ⟨g, 0, none⟩) R.ks.length c) (.slice (some ⟨g, 0, none⟩) R.ks.length c) w wa) ⟨hA0, sA0⟩ ?_
    rintro wa ⟨hA, sA⟩
    clear hA0 sA0 c0 c1 c2 c3 cz d1 dz hrl hgl
    have hA2 := hA.drew
    have sA2 := sA.trans (RStep.drew r _ wa)
    obtain ⟨e0, e1, e2, e3, ez⟩ := hA.row.four
    rw [← HM.out] at e2
    have hrl := hA.row.lt
    go_still_tail 11, (by kernel_rfl)
    change wpList _ _ _ _ _ wa.drew
    obtain ⟨w2, hw2⟩ : ∃ w2, w2 = wa.drew := ⟨_, rfl⟩
    rw [← hw2] at hA2 sA2 ⊢
    have hi1 : (R.ks.set i { x with dear := true })[i]? = some { x with dear := true } := by rw [List.getElem?_set_self (by have := HM.out; omega)]
    obtain ⟨g', c', ev, y0, hgl, y1, y2, y3, y4, dz⟩ := hA2.kr.at hi1
    obtain rfl : g = g' := by simpa using (Value.slice.inj ev).1
    obtain ⟨hB0, sB0⟩ := hA2.keySet hi1 3 (by omega) (.int .i64 (R.clock : Int)) { x with dear := true, at_ := R.clock } rfl
    have sB1 := sA2.trans sB0
    obtain ⟨hC0, sC0⟩ := hB0.tick1
    have sC1 := sB1.trans sC0
    have hrl2 := hA2.row.lt
    obtain ⟨f0, f1, f2, f3, fz⟩ := hB0.row.four
    have hRR : ({ ({ ({ R with ks := R.ks.set i { x with dear := true } } : RS) with ks := (R.ks.set i { x with dear := true }).set i { x with dear := true, at_ := R.clock } } : RS) with clock := R.clock + 1 } : RS) = { R with ks := R.ks.set i { x with dear := true, at_ := R.clock }, clock := R.clock + 1 } := by rw [List.set_set]
    have hC := Lib.hid (And.intro hC0 sC1)
    clear hA hA2 sA sA2 hB0 sB0 sB1 hC0 sC0 sC1 e0 e1 e2 e3 ez hw2 ev hi1 f0 f1 f2 y0 y1 y2 y3
    rw [hRR] at hC
    clear hRR
    obtain ⟨P2, D0, hM⟩ := HR.out.2.1.moved HR.out.2.2 HI.out.1 HI.out.2.1
    obtain ⟨R2, hR2⟩ : ∃ R2 : RS, R2 = { R with ks := R.ks.set i { x with dear := true, at_ := R.clock }, clock := R.clock + 1 } := ⟨_, rfl⟩
    rw [← hR2] at hC hM
    have hR2c : R2.clock = R.clock + 1 := by rw [hR2]
    have hR2l : R2.ks.length ≤ 1000 := by rw [hR2]; show (R.ks.set i _).length ≤ 1000; rw [List.length_set, ← HM.out]; omega
    have hR2m : R2.ks.length = m := by rw [hR2, HM.out]; exact List.length_set
    obtain ⟨D2, hD2⟩ : ∃ D2, D2 = D0 ++ [{ x with dear := true, at_ := R.clock }] := ⟨_, rfl⟩
    have hD2n : D2 ≠ [] := by rw [hD2]; simp
    rw [← hD2] at hM
    obtain ⟨nd, hnd⟩ : ∃ nd, nd = (T.moved k).dear.length := ⟨_, rfl⟩
    have hdears := hM.dears
    rw [← hnd] at hdears
    have hnd64 : nd ≤ 100 := by
      have h1 := moved_dear T k
      have h2 := HR.out.2.2.dlen
      have h3 := HR.out.2.2.lim
      have h4 := HR.out.2.2.m64
      omega
    have hDr := Dear_any _ hC.out.1 hR2l
    rw [hdears] at hDr
    have HMV := Lib.hid (And.intro hM (And.intro hnd (And.intro hR2m hR2c)))
    clear hM hnd hR2m hR2c hR2 hdears hD2
    go_wp2_with fail
    refine hDr.mono ?_
    rintro e w3 ⟨rfl, hw3⟩
    rw [hw3] at hC
    clear hDr hw3 f3 fz dz hgl hrl2 hrl y4
    obtain ⟨f0, f1, f2, f3, fz⟩ := hC.out.1.row.four
    have hrl := hC.out.1.row.lt
    by_cases hlim : R2.limit < nd
    · obtain ⟨y, D3, rfl⟩ : ∃ y D3, D2 = y :: D3 := by cases D2 with | nil => exact absurd rfl hD2n | cons y D3 => exact ⟨y, D3, rfl⟩
      have hFi := first_any true false w3 hC.out.1 hR2l
      have HLI := Lib.hid hlim
      clear hR2l
      go_wp2_with fail
      refine hFi.mono ?_
      rintro e w4 ⟨⟨q, rfl, hq⟩, hb4⟩
      obtain ⟨j, rfl, hj⟩ := HMV.out.1.srt.firstDear hq
      have hD4 := hC.out.1.below hb4
      have sD4 := hC.out.2.trans (RStep.of_below hb4)
      clear hFi hq hb4 f0 f1 f2 f3 fz hrl
      obtain ⟨f0, f1, f2, f3, fz⟩ := hD4.row.four
      have hrl := hD4.row.lt
      obtain ⟨g', c', ev, y0, hgl, y1, y2, y3, y4, dz⟩ := hD4.kr.at hj
      obtain ⟨eg, em, ec⟩ := Value.slice.inj ev
      obtain rfl : g = g' := by simpa using eg
      have hjl : j < m := by rw [← HMV.out.2.2.1]; exact (List.getElem?_eq_some_iff.1 hj).1
      rw [← HM.out] at f2
      obtain ⟨hE0, sE0⟩ := hD4.keySet hj 1 (by omega) (.bool false) { y with dear := false } rfl
      have sE1 := sD4.trans sE0
      have HJ := Lib.hid hj
      clear hj ev eg em ec y0 y1 y3 y4 hD4 sD4 sE0
      go_wp2_with fail
      refine wp_world (fun wa => RefAt B wa r (.slice (some ⟨g, 0, none⟩) R.ks.length c) { R2 with ks := R2.ks.set j { y with dear := false } } ∧ RStep r (.slice (some ⟨g, 0, none⟩) R.ks.length c) (.slice (some ⟨g, 0, none⟩) R.ks.length c) w wa) ⟨hE0, sE1⟩ ?_
      rintro wb ⟨hA, sA⟩
      clear hE0 sE1 f0 f1 f2 f3 fz y2 dz hrl hgl
      have hA2 := hA.drew
      have sA2 := sA.trans (RStep.drew r _ wb)
      obtain ⟨e0, e1, e2, e3, ez⟩ := hA.row.four
      rw [← HM.out] at e2
      have hrl := hA.row.lt
      go_still_tail 11, (by kernel_rfl)
      change wpList _ _ _ _ _ wb.drew
      obtain ⟨w5, hw5⟩ : ∃ w5, w5 = wb.drew := ⟨_, rfl⟩
      rw [← hw5] at hA2 sA2 ⊢
      have hi1 : (R2.ks.set j { y with dear := false })[j]? = some { y with dear := false } := by rw [List.getElem?_set_self (List.getElem?_eq_some_iff.1 HJ.out).1]
      obtain ⟨g', c'', ev, y0, hgl, y1, y2, y3, y4, dz⟩ := hA2.kr.at hi1
      obtain rfl : g = g' := by simpa using (Value.slice.inj ev).1
      have hcl2 : R2.clock ≤ 1001 := by rw [HMV.out.2.2.2]; omega
      obtain ⟨hB0, sB0⟩ := hA2.keySet hi1 3 (by omega) (.int .i64 (R2.clock : Int)) { y with dear := false, at_ := R2.clock } rfl
      have sB1 := sA2.trans sB0
      obtain ⟨hC0, sC0⟩ := hB0.tick1
      have sC1 := sB1.trans sC0
      have hrl2 := hA2.row.lt
      obtain ⟨f0, f1, f2, f3, fz⟩ := hB0.row.four
      have hRR : ({ ({ ({ R2 with ks := R2.ks.set j { y with dear := false } } : RS) with ks := (R2.ks.set j { y with dear := false }).set j { y with dear := false, at_ := R2.clock } } : RS) with clock := R2.clock + 1 } : RS) = { R2 with ks := R2.ks.set j { y with dear := false, at_ := R2.clock }, clock := R2.clock + 1 } := by rw [List.set_set]
      have HE := Lib.hid (And.intro hC0 sC1)
      rw [hRR] at HE
      clear hA hA2 sA sA2 hB0 sB0 sB1 hC0 sC0 sC1 e0 e1 e2 e3 ez hw5 ev hi1 f0 f1 f2 y0 y1 y2 y3 hRR
      go_wp2_with fail
      go_returns
      obtain ⟨P4, D4, hF4⟩ := HMV.out.1.fall HJ.out (by rw [← HMV.out.2.1, HMV.out.1.li]; exact HLI.out)
      refine ⟨by rw [HI.out.2.2.1]; rfl, _, HE.out.1, ⟨P4, D4, ?_⟩, HE.out.2, by have := HMV.out.2.2.2; show R2.clock + 1 ≤ R.clock + 2; omega⟩
      unfold TS.touchT
      rw [HI.out.2.2.1, if_pos rfl]
      exact hF4
    · have hdone : (T.moved k).fallT = T.moved k := TS.fallT_no (by rw [← HMV.out.2.1, HMV.out.1.li]; exact hlim)
      have HDN := Lib.hid hdone
      clear hdone
      go_wp2_with fail
      go_returns
      refine ⟨by rw [HI.out.2.2.1]; rfl, R2, P2, D2, hC.out.1, ?_, hC.out.2, by rw [HMV.out.2.2.2]; omega⟩
      unfold TS.touchT
      rw [HI.out.2.2.1, if_pos rfl, HDN.out]
      exact HMV.out.1
end Go.Proofs.YtijagdpkclghnaaDoor
/- The document's Add, Drop: contracts. -/
namespace Go.Proofs.YtijagdpkclghnaaDoor
open Go Go.RowKit
set_option maxRecDepth 100000
variable {B r : Nat} {w w' w1 : World} {v v' v'' : Value} {R : RS} {ks ks' : List RK} {x y z : RK} {i : Nat} {T : TS} {P D : List RK}
abbrev kZero : Value := .agg #[.int .i64 0, .bool false, .bool false, .int .i64 0]
theorem infoKey : (Tryd.prog.info? kT).map (fun i => (i.zero, i.size, i.bytes)) = some (some kZero, 4, 24) := by kernel_rfl
theorem info_key : ∃ i0, Tryd.prog.info? kT = some i0 ∧ i0.zero = some kZero ∧ i0.size = 4 ∧ i0.bytes = 24 := by
  obtain ⟨i, h⟩ : ∃ i, Tryd.prog.info? kT = some i := by
    cases e : Tryd.prog.info? kT with
    | none => have := infoKey; rw [e] at this; cases this
    | some i => exact ⟨i, rfl⟩
  have h2 := infoKey
  rw [h] at h2
  simp only [Option.map_some, Option.some.injEq, Prod.mk.injEq] at h2
  exact ⟨i, h, h2.1, h2.2.1, h2.2.2⟩
theorem keyOne (w : World) (x : RK) : ∀ (j : Nat) (u : Value), x.cells[j]? = some u → (w.alloc (.cells x.cells.toArray kT)).cell? ((⟨w.heap.size, 0, none⟩ : Addr).add j) = some u := by
  intro j u hj
  have := (World.row.new w x.cells kT).cell j hj
  cases j with
  | zero => exact this
  | succ j => simpa [Addr.add] using this
theorem key_cell (x : RK) : ∀ u ∈ x.cells, u.oneCell' = true := by
  intro u hu
  simp at hu
  rcases hu with rfl | rfl | rfl | rfl <;> rfl
theorem krow_snoc (h : w.ownsRow B kT 4 v (ks.length + 1) (keyCells ks ++ x.cells)) : krow w B v (ks ++ [x]) := by
  unfold krow
  rw [List.length_append, keyCells_append]
  have : keyCells [x] = x.cells := by simp [keyCells]
  rw [this]
  exact h
theorem krow_mono {C : Nat} (h : krow w B v ks) (hC : C ≤ B) : krow w C v ks := ⟨h.1, h.2.imp id fun ⟨g, cap, cur, hv, hB, q⟩ => ⟨g, cap, cur, hv, Nat.le_trans hC hB, q⟩⟩
/-- Its keys are others: in the row that it had, or in a new one. -/
theorem RefAt.keys (h : RefAt B w r v R) (hg : w.grownBy w1 v.ownBlock) (ho : krow w1 B v' ks) (hloc : v'.ownBlock = v.ownBlock ∨ ∃ k, v'.ownBlock = some k ∧ w.heap.size ≤ k) :
    RefAt B (w1.setCell ⟨r, 2, none⟩ v') r v' { R with ks := ks } ∧ RStep r v v' w (w1.setCell ⟨r, 2, none⟩ v') := by
  have hlt := h.row.lt
  have hv' : v'.ownBlock ≠ some r := by
    rcases hloc with e | ⟨k, e, hk⟩
    · rw [e]; exact h.vr
    · rw [e]; intro e2; cases e2; omega
  refine ⟨⟨(h.row.grown hg fun e => h.vr e.symm).set 2 _, ho.same fun k hk => setCell_else w1 r _ _ fun e => hv' (by rw [hk, e]), hv', h.br⟩, hg.os, hg.tape, hg.output, by simp [World.setCell]; exact hg.size, fun k hk => ?_, fun k hk hr hv => ?_⟩
  · rcases hloc with e | ⟨k', e, hk'⟩
    · exact .inl (e ▸ hk)
    · rw [e] at hk; cases hk; exact .inr hk'
  · rw [setCell_else w1 r _ _ hr]
    exact hg.block k hk fun e => hv e.symm
theorem own_len (a : Option Addr) (m n c : Nat) : (Value.slice a m c).ownBlock = (Value.slice a n c).ownBlock := by cases a <;> rfl
theorem Rel.fullR (hrel : Rel T R P D) : T.full = decide (R.most ≤ R.ks.length) := by unfold TS.full; rw [hrel.mo, hrel.len]
set_option maxHeartbeats 2000000 in
theorem RAdd_any (k : Int) (w : World) (h : RefAt B w r v R) (hrel : Rel T R P D) (hg : Good T) (hcl : R.clock ≤ 1000) (hB : B ≤ w.heap.size) :
    Calls Tryd.prog 62 #[pt r, .int .i64 k] w fun e w' => e = .returned (.int .i64 (T.addE k)) ∧ ∃ v' R', RefAt B w' r v' R' ∧ (∃ P' D', Rel (T.addT k) R' P' D') ∧ RStep r v v' w w' ∧ R'.clock ≤ R.clock + 1 := by
  have hl := hrel.len64 hg
  have hF := Find_any k w h (by omega)
  have HR := Lib.hid (And.intro h (And.intro hrel (And.intro hg hB)))
  have hB0 := Lib.hid hB
  obtain ⟨i0, hi, hz0, hz1, hz2⟩ := info_key
  have HIN : Hid (Tryd.prog.info? kT = some i0 ∧ i0.zero = some kZero ∧ i0.size = 4 ∧ i0.bytes = 24) := ⟨hi, hz0, hz1, hz2⟩
  clear hi hz0 hz1 hz2 hB
  go_enter Tryd.func62, Tryd.ntmps62
  go_wp2_with fail
  refine hF.mono ?_
  rintro e w' ⟨⟨q, rfl, hq⟩, rfl⟩
  rcases hrel.find hq with ⟨rfl, hh⟩ | ⟨i, x, rfl, hi, he, hh, hd⟩
  case inr =>
    have HH := Lib.hid hh
    clear hF hq hh hi he hd h hrel hg
    go_wp2_with fail
    go_returns
    refine ⟨by unfold TS.addE; rw [HH.out]; rfl, v, R, HR.out.1, ⟨P, D, ?_⟩, RStep.refl _ _ _, by omega⟩
    unfold TS.addT
    rw [HH.out]
    exact HR.out.2.1
  have HH := Lib.hid hh
  obtain ⟨c0, c1, c2, c3, cz⟩ := h.row.four
  have hrl := h.row.lt
  obtain ⟨a, c, rfl⟩ := h.kr.shape
  obtain ⟨m, hm⟩ : ∃ m, m = R.ks.length := ⟨_, rfl⟩
  have hm64 : R.most ≤ 64 := by rw [← hrel.mo]; exact hg.m64
  have HFU := Lib.hid hrel.fullR
  rw [← hm] at c2 hl
  have HM := Lib.hid hm
  clear hF hq hh h hrel hg hm
  by_cases hfu : R.most ≤ m
  · have hfI : (R.most : Int) ≤ (m : Int) := by omega
    go_wp2_with fail
    go_quiet (fail)
    go_wp2_with fail
    go_returns
    have hft : T.full = true := by rw [HFU.out, ← HM.out]; simpa using hfu
    refine ⟨by unfold TS.addE; rw [HH.out, hft]; rfl, _, R, HR.out.1.below ((Below.refl _ _).drewN _), ⟨P, D, ?_⟩, RStep.of_below ((Below.refl _ _).drewN _), by omega⟩
    unfold TS.addT
    rw [HH.out, hft]
    exact HR.out.2.1
  · have hfI : ¬ (R.most : Int) ≤ (m : Int) := by omega
    have hft : T.full = false := by rw [HFU.out, ← HM.out]; simpa using hfu
    have HFT := Lib.hid hft
    clear hft
    go_wp2_with fail
    go_quiet (fail)
    go_wp2_with fail
    have hA := HR.out.1.below ((Below.refl w.heap.size w).drewN nq)
    have sA : RStep r (.slice a R.ks.length c) (.slice a R.ks.length c) w (w.drewN nq) := RStep.of_below ((Below.refl _ _).drewN _)
    have hBn : B ≤ (w.drewN nq).heap.size := hB0.out
    obtain ⟨wn, hwn⟩ : ∃ wn, wn = w.drewN nq := ⟨_, rfl⟩
    rw [← hwn] at hA sA hBn ⊢
    clear hwn c0 c1 c2 c3 cz hrl
    obtain ⟨c0, c1, c2, c3, cz⟩ := hA.row.four
    have hrl := hA.row.lt
    rw [← HM.out] at c2
    have hko : wn.ownsRow B kT 4 (.slice a m c) m (keyCells R.ks) := by have := hA.kr; unfold krow at this; rw [← HM.out] at this; exact this
    obtain ⟨rc, hrc⟩ : ∃ rc, rc = R.clock := ⟨_, rfl⟩
    rw [← hrc] at c3 hcl
    go_cut [] (fun wc => ∃ v', RefAt B wc r v' { R with ks := R.ks ++ [⟨k, false, false, R.clock⟩] } ∧ RStep r (.slice a R.ks.length c) v' w wc)
    case first =>
      have HO := Lib.hid hko
      have HS : Hid (∀ o, (wn.alloc o).cell? ⟨r, 2, none⟩ = some (.slice a m c) ∧ (wn.alloc o).frozen? ⟨r, 2, none⟩ = false) := Lib.hid fun o => ⟨by rw [HM.out]; exact (hA.row.alloc o).cell 2 rfl, (hA.row.alloc o).free 2⟩
      have HNE : Hid (some r ≠ (Value.slice a m c).ownBlock) := Lib.hid fun e => hA.vr (by rw [← HM.out]; exact e.symm)
      have HCL := Lib.hid hrc
      clear hrc hko
      go_region_law
        ((refine step_append_lies _ (by rfl) (.tmp 25) (.tmp 32) 93 (by rfl) B kT i0 kZero 4 24 Tryd.underlying93 HIN.out.1 HIN.out.2.1 HIN.out.2.2.1 HIN.out.2.2.2 rfl (by decide) (.slice a m c) m (keyCells R.ks) (by rfl) (HO.out.alloc _) ⟨wn.heap.size, 0, none⟩ 1 1 (RK.cells ⟨k, false, false, rc⟩) (by rfl) rfl (keyOne wn ⟨k, false, false, rc⟩) (key_cell _) (by decide) (by unfold maxLen; omega) (by omega) (by simp; omega) _ rfl ?_; intro g1 cap1 w1 hown hgrow hat hlt1; have hk2 := hgrow.cell (HS.out (.cells (RK.cells ⟨k, false, false, rc⟩).toArray kT)).1 HNE.out; have hz2 := (hgrow.frozen_far ⟨r, 2, none⟩ (by simp; omega) HNE.out).trans (HS.out (.cells (RK.cells ⟨k, false, false, rc⟩).toArray kT)).2))
      all_goals (
        have hgrow' : (wn.alloc (.cells (RK.cells ⟨k, false, false, rc⟩).toArray kT)).grownBy w1 (Value.slice a m c).ownBlock := ⟨hgrow.os, hgrow.tape, hgrow.output, hgrow.size, hgrow.block⟩
        have hgr2 := (World.grownBy_alloc wn (.cells (RK.cells ⟨k, false, false, rc⟩).toArray kT) (Value.slice a m c).ownBlock).trans hgrow'
        rw [HM.out] at hown hgr2
        obtain ⟨N1, N2⟩ := hA.keys (w1 := w1) hgr2 (krow_snoc hown) (hat.imp (fun e => by rw [own_len a R.ks.length m c, e]; rfl) fun e => ⟨g1, rfl, by rw [e]; simp⟩)
        rw [HCL.out] at N1
        rw [show R.ks.length + 1 = m + 1 by rw [HM.out]] at N1 N2
        have HNN := Lib.hid (And.intro N1 (sA.trans N2))
        clear N1 N2 hown hgr2 hgrow' hgrow hat
        go_wp2_with fail
        go_meet
        case rel => exact ⟨_, HNN.out.1, HNN.out.2⟩)
    case rest =>
      obtain ⟨v', N1, S1⟩ := hcut
      obtain ⟨e0, e1, e2, e3, ez⟩ := N1.row.four
      have hrl3 := N1.row.lt
      rw [← hrc] at e3
      obtain ⟨N2, S2⟩ := N1.tick1
      have HN := Lib.hid (And.intro N2 (S1.trans S2))
      have hrcb := Lib.hid hrc
      clear N1 S1 N2 S2 hrc c0 c1 c2 c3 cz hrl hA sA hko hBn
      go_wp2_with fail
      go_returns
      rw [hrcb.out]
      refine ⟨by unfold TS.addE; rw [HH.out, HFT.out]; rfl, v', _, HN.out.1, ⟨_, D, HR.out.2.1.add HH.out HFT.out⟩, HN.out.2, Nat.le_refl _⟩
end Go.Proofs.YtijagdpkclghnaaDoor
/- The document's Drop, Victim: contracts. -/
namespace Go.Proofs.YtijagdpkclghnaaDoor
open Go Go.RowKit
set_option maxRecDepth 100000
variable {B r : Nat} {w w' w1 : World} {v v' v'' : Value} {R : RS} {ks ks' : List RK} {x y z : RK} {i : Nat} {T : TS} {P D : List RK}
theorem take_other {k : Nat} (hx : ks[k]? = some x) (hk : k ≠ i) : (ks.take (k + 1)).eraseIdx i = (ks.take k).eraseIdx i ++ [x] := by
  have hl := (List.getElem?_eq_some_iff.1 hx).1
  rw [List.take_add_one, hx]
  show (ks.take k ++ [x]).eraseIdx i = _
  by_cases h : i < (ks.take k).length
  · rw [List.eraseIdx_append_of_lt_length h]
  · have h2 : (ks.take k).length = k := by rw [List.length_take]; omega
    rw [List.eraseIdx_of_length_le (l := ks.take k) (by omega), List.eraseIdx_of_length_le (by simp; omega)]
theorem take_here (hi : i < ks.length) : (ks.take (i + 1)).eraseIdx i = (ks.take i).eraseIdx i := by
  have h2 : (ks.take i).length = i := by rw [List.length_take]; omega
  rw [List.take_add_one, List.getElem?_eq_getElem hi]
  show (ks.take i ++ [ks[i]]).eraseIdx i = _
  rw [List.eraseIdx_append_of_length_le (by omega), h2, Nat.sub_self, List.eraseIdx_of_length_le (l := ks.take i) (by omega)]
  simp
/-- Its keys are those of a row that was made since u. -/
theorem RefAt.keysFrom {u : World} (h : RefAt B w r v R) (hu : Below u.heap.size u w) (hr : r < u.heap.size) (ho : krow w u.heap.size v' ks) (hC : B ≤ u.heap.size) :
    RefAt B (w.setCell ⟨r, 2, none⟩ v') r v' { R with ks := ks } ∧ RStep r v v' u (w.setCell ⟨r, 2, none⟩ v') := by
  have hv' : v'.ownBlock ≠ some r := fun e => by have := (ho.lt r e).1; omega
  refine ⟨⟨h.row.set 2 _, krow_mono (ho.same fun k hk => setCell_else w r _ _ fun e => hv' (by rw [hk, e])) hC, hv', h.br⟩, hu.os, hu.tape, hu.output, by simp [World.setCell]; exact hu.size, fun k hk => .inr (ho.lt k hk).1, fun k hk hkr _ => ?_⟩
  rw [setCell_else w r _ _ hkr]
  exact hu.block k hk
/-- What Drop leaves. -/
def DropDone (B r : Nat) (v : Value) (R : RS) (k : Int) (w w' : World) (z : Bool) : Prop :=
  (z = false ∧ (∀ x ∈ R.ks, x.n ≠ k) ∧ w = w') ∨ (z = true ∧ ∃ (i : Nat) (x : RK) (v' : Value), R.ks[i]? = some x ∧ x.n = k ∧ RefAt B w' r v' { R with ks := R.ks.eraseIdx i } ∧ RStep r v v' w w')
set_option maxHeartbeats 2000000 in
theorem RDrop_any (k : Int) (w : World) (h : RefAt B w r v R) (hl : R.ks.length ≤ 1000) (hB : B ≤ w.heap.size) :
    Calls Tryd.prog 65 #[pt r, .int .i64 k] w fun e w' => ∃ z, e = .returned (.bool z) ∧ DropDone B r v R k w w' z := by
  have hF := Find_any k w h hl
  obtain ⟨i0, hi, hz0, hz1, hz2⟩ := info_key
  have HIN : Hid (Tryd.prog.info? kT = some i0 ∧ i0.zero = some kZero ∧ i0.size = 4 ∧ i0.bytes = 24) := ⟨hi, hz0, hz1, hz2⟩
  have HR := Lib.hid (And.intro h hB)
  clear hi hz0 hz1 hz2 h hB
  go_enter Tryd.func65, Tryd.ntmps65
  go_wp2_with fail
  refine hF.mono ?_
  rintro e w' ⟨⟨q, rfl, hq⟩, rfl⟩
  rcases hq with ⟨rfl, hno⟩ | ⟨i, x, rfl, hi, he⟩
  · have HNO := Lib.hid hno
    clear hF hno
    go_wp2_with fail
    go_returns
    exact ⟨false, rfl, .inl ⟨rfl, HNO.out, rfl⟩⟩
  · have hil : i < R.ks.length := (List.getElem?_eq_some_iff.1 hi).1
    have HI := Lib.hid (And.intro hi he)
    obtain ⟨c0, c1, c2, c3, cz⟩ := HR.out.1.row.four
    have hrl := HR.out.1.row.lt
    obtain ⟨a, c, rfl⟩ := HR.out.1.kr.shape
    obtain ⟨m, hm⟩ : ∃ m, m = R.ks.length := ⟨_, rfl⟩
    rw [← hm] at c2 hl hil
    have HM := Lib.hid hm
    clear hF hi he hm c0 c1 c2 c3 cz
    go_wp2_with fail
    go_loopw [6, 7] (fun s x wr => ∃ (j : Nat), j ≤ m ∧ x = .int .i64 j ∧ Below w.heap.size w wr ∧ krow wr w.heap.size s ((R.ks.take j).eraseIdx i)) (fun _ x _ => m - (intOf x).toNat)
    case atStart => exact ⟨0, by omega, rfl, Below.refl _ _, by rw [List.take_zero]; exact krow.nil _ _⟩
    case round =>
      obtain ⟨j, hj, rfl, hBl, hrow⟩ := hrel
      have hA := HR.out.1.below hBl
      obtain ⟨c0, c1, c2, c3, cz⟩ := hA.row.four
      rw [← HM.out] at c2
      have hrl2 := hA.row.lt
      have hbs := hBl.size
      obtain ⟨a6, c6, rfl⟩ := hrow.shape
      by_cases hlt : j < m
      · obtain ⟨y, hy⟩ : ∃ y, R.ks[j]? = some y := ⟨R.ks[j]'(by rw [← HM.out]; exact hlt), List.getElem?_eq_getElem (by rw [← HM.out]; exact hlt)⟩
        by_cases hji : j = i
        · have hth := take_here (ks := R.ks) (i := i) (by rw [← HM.out]; omega)
          rw [hji] at hrow
          rw [← hth] at hrow
          have hjI : (j : Int) = (i : Int) := by omega
          obtain ⟨l6, hl6⟩ : ∃ l6, l6 = ((R.ks.take j).eraseIdx i).length := ⟨_, rfl⟩
          have hl7 : ((R.ks.take (i + 1)).eraseIdx i).length = l6 := by rw [hl6, hji, hth]
          rw [hl7] at hrow
          rw [← hl6]
          have HRW := Lib.hid (And.intro hrow (And.intro hA hji))
          clear hrow hA hji hl6 hl7 hth hy
          go_wp2_with fail
          go_roundw
          case rel => exact ⟨i + 1, by omega, by go_num, hBl, HRW.out.1⟩
          case measure => simp [intOf] <;> omega
        · have hth := take_other hy hji
          obtain ⟨g, cg, ev, hBg, hgl, d0, d1, d2, d3, dz⟩ := hA.kr.at hy
          obtain ⟨rfl, hmL, rfl⟩ := Value.slice.inj ev
          obtain ⟨l6, hl6⟩ : ∃ l6, l6 = ((R.ks.take j).eraseIdx i).length := ⟨_, rfl⟩
          have hl6b : l6 ≤ m := by rw [hl6, List.length_eraseIdx, List.length_take]; have := HM.out; split <;> omega
          have hko : wr.ownsRow w.heap.size kT 4 (.slice a6 l6 c6) l6 (keyCells ((R.ks.take j).eraseIdx i)) := by rw [hl6]; exact hrow
          have HKO := Lib.hid (And.intro hko (And.intro hl6 (And.intro hth hA)))
          have hjI : ¬ (j : Int) = (i : Int) := by omega
          rw [← hl6]
          clear hmL ev hBg hrow hA hth hl6 hko hy dz
          go_wp2_with (at_builtin; refine wpList_append_own_at _ rfl _ _ 93 rfl w.heap.size kT i0 kZero 4 24 Tryd.underlying93 HIN.out.1 HIN.out.2.1 HIN.out.2.2.1 HIN.out.2.2.2 rfl (by decide) _ _ _ rfl (HKO.out.1.alloc _) ⟨wr.heap.size, 0, none⟩ 1 1 y.cells rfl rfl ?c1 ?c2 ?c3 ?c4 ?c5 ?_)
          case c1 => exact keyOne wr y
          case c2 => exact key_cell y
          case c3 => unfold maxLen; omega
          case c4 => omega
          case c5 => simp; omega
          intro v' w8 ho hgr _ hloc
          have hgr2 := (World.grownBy_alloc wr (.cells y.cells.toArray kT) (Value.slice a6 l6 c6).ownBlock).trans hgr
          have B8 : Below w.heap.size w w8 := hBl.trans ⟨hgr2.os, hgr2.tape, hgr2.output, hgr2.size, fun k hk => hgr2.block k (Nat.lt_of_lt_of_le hk hbs) fun e => by have := (HKO.out.1.lt k e.symm).1; omega⟩
          rw [HKO.out.2.1] at ho
          have ho2 := krow_snoc ho
          rw [← HKO.out.2.2.1] at ho2
          obtain ⟨a8, c8, rfl⟩ := ho2.shape
          have HO2 := Lib.hid (And.intro ho2 B8)
          clear ho hgr hgr2 hloc ho2 B8
          go_wp2_with fail
          go_roundw
          case rel => exact ⟨j + 1, by omega, by go_num, HO2.out.2, HO2.out.1⟩
          case measure => simp [intOf] <;> omega
      · have hfin : (R.ks.take j).eraseIdx i = R.ks.eraseIdx i := by rw [List.take_of_length_le (by have := HM.out; omega)]
        rw [hfin] at hrow ⊢
        obtain ⟨l6, hl6⟩ : ∃ l6, l6 = (R.ks.eraseIdx i).length := ⟨_, rfl⟩
        rw [← hl6] at hrow ⊢
        have HX := Lib.hid (And.intro hrow (And.intro hA hl6))
        clear hrow hA hfin hl6
        go_wp2_with fail
        go_returns
        obtain ⟨N1, N2⟩ := HX.out.2.1.keysFrom hBl HR.out.1.row.lt (by have := HX.out.1; rw [HX.out.2.2] at this; exact this) HR.out.2
        refine ⟨true, rfl, .inr ⟨rfl, i, x, .slice a6 l6 c6, HI.out.1, HI.out.2, ?_, ?_⟩⟩
        · rw [HX.out.2.2]; exact N1
        · rw [HX.out.2.2]; exact N2
theorem RVictim_any (w : World) (h : RefAt B w r v R) (hrel : Rel T R P D) (hg : Good T) :
    Calls Tryd.prog 61 #[pt r] w fun e w' => e = .returned (.tuple #[.int .i64 (T.victim.getD 0), .bool T.victim.isSome]) ∧ Below w.heap.size w w' := by
  have hl := hrel.len64 hg
  have h1 := first_any false true w h (by omega)
  have HR := Lib.hid (And.intro h hrel)
  clear h hrel hg
  go_enter Tryd.func61, Tryd.ntmps61
  go_wp2_with fail
  refine h1.mono ?_
  rintro e w2 ⟨⟨q, rfl, hq⟩, hb2⟩
  have hA := HR.out.1.below hb2
  have hcs : (∃ (i : Nat) (y : RK), q = (i : Int) ∧ R.ks[i]? = some y ∧ T.victim = some y.n) ∨ (q = -1 ∧ (P.find? fun z => !(true && z.pin)) = none) := (HR.out.2.vic1 hq).symm
  clear h1 hq
  rcases hcs with ⟨i, y, rfl, hi, hvic⟩ | ⟨rfl, hP⟩
  · obtain ⟨c0, c1, c2, c3, cz⟩ := hA.row.four
    have hrl := hA.row.lt
    obtain ⟨g, c, rfl, hBg, hgl, d0, d1, d2, d3, dz⟩ := hA.kr.at hi
    have hil : i < R.ks.length := (List.getElem?_eq_some_iff.1 hi).1
    obtain ⟨m, hm⟩ : ∃ m, m = R.ks.length := ⟨_, rfl⟩
    rw [← hm] at c2 hl hil
    have HV := Lib.hid hvic
    clear hi hvic hBg d1 d2 d3 hm hA
    go_wp2_with fail
    go_ret2
    rw [HV.out]
    exact ⟨rfl, hb2⟩
  · have h2 := first_any true true w2 hA (by omega)
    have HP := Lib.hid hP
    clear hP hA
    go_wp2_with fail
    refine h2.mono ?_
    rintro e w3 ⟨⟨q, rfl, hq⟩, hb3⟩
    have hA := (HR.out.1.below hb2).below hb3
    have hcs := HR.out.2.vic2 hq HP.out
    have B3 := hb2.trans (hb3.mono hb2.size)
    clear h2 hq
    rcases hcs with ⟨rfl, hvic⟩ | ⟨i, y, rfl, hi, hvic⟩
    · have HV := Lib.hid hvic
      clear hvic hA
      go_wp2_with fail
      go_ret2
      rw [HV.out]
      exact ⟨rfl, B3⟩
    · obtain ⟨c0, c1, c2, c3, cz⟩ := hA.row.four
      have hrl := hA.row.lt
      obtain ⟨g, c, rfl, hBg, hgl, d0, d1, d2, d3, dz⟩ := hA.kr.at hi
      have hil : i < R.ks.length := (List.getElem?_eq_some_iff.1 hi).1
      obtain ⟨m, hm⟩ : ∃ m, m = R.ks.length := ⟨_, rfl⟩
      rw [← hm] at c2 hl hil
      have HV := Lib.hid hvic
      clear hi hvic hBg d1 d2 d3 hm hA
      go_wp2_with fail
      go_ret2
      rw [HV.out]
      exact ⟨rfl, B3⟩
end Go.Proofs.YtijagdpkclghnaaDoor
/- The document's cache: rows of its cells, where it lies, what a call on it leaves: laws of my own. -/
namespace Go.Proofs.YtijagdpkclghnaaDoor
open Go Go.RowKit
set_option maxRecDepth 100000
/-- A cell of the document's cache. -/
structure CL where
  s : Int
  c : Int
  now : ByteArray
  old : ByteArray
  d : Bool
abbrev CL.cells (x : CL) : List Value := [.int .i64 x.s, .int .i64 x.c, .string x.now, .string x.old, .bool x.d]
def celCells (ks : List CL) : List Value := ks.flatMap CL.cells
variable {ks : List CL} {x y : CL} {i : Nat}
theorem celCells_cons (x : CL) (ks : List CL) : celCells (x :: ks) = x.cells ++ celCells ks := by simp [celCells]
theorem celCells_len (ks : List CL) : (celCells ks).length = ks.length * 5 := by
  induction ks with
  | nil => rfl
  | cons a ks ih => rw [celCells_cons, List.length_append, ih]; simp; omega
theorem celCells_append (a b : List CL) : celCells (a ++ b) = celCells a ++ celCells b := by simp [celCells]
theorem celCells_get : ∀ {ks : List CL} {i : Nat} {x : CL}, ks[i]? = some x → ∀ j, j < 5 → (celCells ks)[i * 5 + j]? = x.cells[j]?
  | [], i, x, h, _, _ => by simp at h
  | a :: ks, 0, x, h, j, hj => by
    simp at h; subst h
    rw [celCells_cons, Nat.zero_mul, Nat.zero_add, List.getElem?_append_left (by simp; omega)]
  | a :: ks, i + 1, x, h, j, hj => by
    rw [celCells_cons, List.getElem?_append_right (by simp; omega)]
    have e : (i + 1) * 5 + j - a.cells.length = i * 5 + j := by simp; omega
    rw [e]
    exact celCells_get (by simpa using h) j hj
theorem celCells_set : ∀ {ks : List CL} {i : Nat} {x : CL} (_ : ks[i]? = some x) (j : Nat) (_ : j < 5) (v : Value) (y : CL), x.cells.set j v = y.cells → (celCells ks).set (i * 5 + j) v = celCells (ks.set i y)
  | [], i, x, h, _, _, _, _, _ => by simp at h
  | a :: ks, 0, x, h, j, hj, v, y, hy => by
    simp at h; subst h
    rw [celCells_cons, Nat.zero_mul, Nat.zero_add, List.set_append_left _ _ (by simp; omega), hy, List.set_cons_zero, celCells_cons]
  | a :: ks, i + 1, x, h, j, hj, v, y, hy => by
    rw [celCells_cons, List.set_append_right _ _ (by simp; omega), List.set_cons_succ, celCells_cons]
    have e : (i + 1) * 5 + j - a.cells.length = i * 5 + j := by simp; omega
    rw [e, celCells_set (by simpa using h) j hj v y hy]
abbrev cT : TypeId := 86
/-- The row of cells ks that v owns, no block of it below B. -/
def crow (w : World) (B : Nat) (v : Value) (ks : List CL) : Prop := w.ownsRow B cT 5 v ks.length (celCells ks)
variable {w w' : World} {B : Nat} {v : Value}
theorem crow.nil (w : World) (B : Nat) : crow w B (.slice none 0 0) [] := World.ownsRow_nil _ _ _ _
theorem crow.lt (h : crow w B v ks) (k : Nat) (hk : v.ownBlock = some k) : B ≤ k ∧ k < w.heap.size := World.ownsRow.lt h k hk
theorem crow.shape (h : crow w B v ks) : ∃ a c, v = .slice a ks.length c := by
  obtain ⟨_, h⟩ := h
  rcases h with ⟨rfl, h2⟩ | ⟨g, cap, cur, rfl, _⟩
  · exact ⟨none, 0, by rw [h2]⟩
  · exact ⟨_, _, rfl⟩
theorem crow.same (h : crow w B v ks) (hb : ∀ k, v.ownBlock = some k → w'.heap[k]? = w.heap[k]?) : crow w' B v ks := by
  obtain ⟨hl, h⟩ := h
  refine ⟨hl, ?_⟩
  rcases h with h | ⟨g, cap, cur, hv, hB, hh, r⟩
  · exact .inl h
  · exact .inr ⟨g, cap, cur, hv, hB, (hb g (by rw [hv]; rfl)).trans hh, r⟩
theorem crow.below (h : crow w B v ks) (hb : Below w.heap.size w w') : crow w' B v ks := h.same fun k hk => hb.block k (h.lt k hk).2
/-- One of the keys: where it lies. -/
theorem crow.at (h : crow w B v ks) (hi : ks[i]? = some x) : ∃ g c, v = .slice (some ⟨g, 0, none⟩) ks.length c ∧ B ≤ g ∧ g < w.heap.size ∧ w.cell? ⟨g, i * 5, none⟩ = some (.int .i64 x.s) ∧ w.cell? ⟨g, i * 5 + 1, none⟩ = some (.int .i64 x.c) ∧
    w.cell? ⟨g, i * 5 + 2, none⟩ = some (.string x.now) ∧ w.cell? ⟨g, i * 5 + 3, none⟩ = some (.string x.old) ∧ w.cell? ⟨g, i * 5 + 4, none⟩ = some (.bool x.d) ∧ ∀ j, w.frozen? ⟨g, j, none⟩ = false := by
  have hil : i < ks.length := (List.getElem?_eq_some_iff.1 hi).1
  have hlt := h.lt
  have h0 := h
  obtain ⟨hl, h⟩ := h
  rcases h with ⟨rfl, h2⟩ | ⟨g, cap, cur, rfl, hB, hh, r⟩
  · omega
  · have hc := fun j hj => (World.ownsRow.cellAt h0 (i * 5 + j) (by omega)).trans (celCells_get hi j hj)
    exact ⟨g, cap, rfl, hB, (hlt g rfl).2, hc 0 (by omega), hc 1 (by omega), hc 2 (by omega), hc 3 (by omega), hc 4 (by omega), fun j => World.ownsRow.frozenAt h0 j⟩
/-- A field of one of them is set. -/
theorem crow.set {g m c : Nat} (h : crow w B (.slice (some ⟨g, 0, none⟩) m c) ks) (hi : ks[i]? = some x) (j : Nat) (hj : j < 5) (u : Value) (y : CL) (hy : x.cells.set j u = y.cells) :
    crow (w.setCell ⟨g, i * 5 + j, none⟩ u) B (.slice (some ⟨g, 0, none⟩) m c) (ks.set i y) ∧ w.grownBy (w.setCell ⟨g, i * 5 + j, none⟩ u) (some g) := by
  have hm : m = ks.length := by
    obtain ⟨a, c', e⟩ := h.shape
    exact (Value.slice.inj e).2.1
  subst hm
  obtain ⟨h1, h2⟩ := World.ownsRow.stored h (i * 5 + j) u
  refine ⟨?_, h2⟩
  unfold crow
  rw [List.length_set, ← celCells_set hi j hj u y hy]
  exact h1
/-- Where the document's cache lies: its block, its turn's, that one's keys, its cells. -/
structure RM where
  q : Nat
  r : Nat
  v : Value
  cv : Value
def RM.foot (M : RM) (k : Nat) : Prop := k = M.q ∨ k = M.r ∨ M.v.ownBlock = some k ∨ M.cv.ownBlock = some k
abbrev rC : TypeId := 79
structure RCAt (B : Nat) (w : World) (M : RM) (data : Nat) (R : RS) (cs : List CL) : Prop where
  row : w.row M.q [.pointer (some ⟨M.r, 0, none⟩), .int .i64 (data : Int), M.cv] rC
  turn : RefAt B w M.r M.v R
  cr : crow w B M.cv cs
  qr : M.q ≠ M.r
  qv : M.v.ownBlock ≠ some M.q
  qc : M.cv.ownBlock ≠ some M.q
  rc : M.cv.ownBlock ≠ some M.r
  vc : M.cv.ownBlock = none ∨ M.cv.ownBlock ≠ M.v.ownBlock
  bq : B ≤ M.q
structure MStep (M M' : RM) (w w' : World) : Prop where
  q : M'.q = M.q
  r : M'.r = M.r
  os : w'.os = w.os
  tape : w'.tape = w.tape
  output : w'.output = w.output
  size : w.heap.size ≤ w'.heap.size
  foot : ∀ k, M'.foot k → M.foot k ∨ w.heap.size ≤ k
  block : ∀ k, k < w.heap.size → ¬ M.foot k → w'.heap[k]? = w.heap[k]?
variable {M M' M'' : RM} {w'' w1 : World} {data : Nat} {R R' : RS} {cs cs' : List CL} {u : World}
theorem MStep.refl (M : RM) (w : World) : MStep M M w w := ⟨rfl, rfl, rfl, rfl, rfl, Nat.le_refl _, fun _ h => .inl h, fun _ _ _ => rfl⟩
theorem MStep.of_below (M : RM) (h : Below w.heap.size w w') : MStep M M w w' := ⟨rfl, rfl, h.os, h.tape, h.output, h.size, fun _ h => .inl h, fun k hk _ => h.block k hk⟩
theorem MStep.trans (h : MStep M M' w w') (h2 : MStep M' M'' w' w'') : MStep M M'' w w'' :=
  ⟨h2.q.trans h.q, h2.r.trans h.r, h2.os.trans h.os, h2.tape.trans h.tape, h2.output.trans h.output, Nat.le_trans h.size h2.size,
    fun k hk => (h2.foot k hk).elim (h.foot k) fun h3 => .inr (Nat.le_trans h.size h3),
    fun k hk hn => (h2.block k (Nat.lt_of_lt_of_le hk h.size) fun h3 => (h.foot k h3).elim hn (fun h4 => by omega)).trans (h.block k hk hn)⟩
theorem RCAt.lts (h : RCAt B w M data R cs) (k : Nat) (hk : M.foot k) : B ≤ k ∧ k < w.heap.size := by
  rcases hk with rfl | rfl | hk | hk
  · exact ⟨h.bq, h.row.lt⟩
  · exact ⟨h.turn.br, h.turn.row.lt⟩
  · exact h.turn.kr.lt k hk
  · exact h.cr.lt k hk
theorem RCAt.same (h : RCAt B w M data R cs) (hs : ∀ k, M.foot k → w'.heap[k]? = w.heap[k]?) : RCAt B w' M data R cs :=
  ⟨rowSame h.row (hs _ (.inl rfl)), h.turn.keep (hs _ (.inr (.inl rfl))) fun k hk => hs k (.inr (.inr (.inl hk))), h.cr.same fun k hk => hs k (.inr (.inr (.inr hk))), h.qr, h.qv, h.qc, h.rc, h.vc, h.bq⟩
theorem RCAt.below (h : RCAt B w M data R cs) (hb : Below w.heap.size w w') : RCAt B w' M data R cs := h.same fun k hk => hb.block k (h.lts k hk).2
theorem MStep.under (h : MStep M M' w w') (hT : RCAt B w M data R cs) (hu : Below B u w) : Below B u w' :=
  hu.trans ⟨h.os, h.tape, h.output, h.size, fun k hk => h.block k (Nat.lt_of_lt_of_le hk (Nat.le_trans hT.bq (Nat.le_of_lt hT.row.lt))) fun hf => by have := (hT.lts k hf).1; omega⟩
/-- Its turn was turned. -/
theorem RCAt.turned {v' : Value} (h : RCAt B w M data R cs) (hs : RStep M.r M.v v' w w') (ht : RefAt B w' M.r v' R') : RCAt B w' { M with v := v' } data R' cs ∧ MStep M { M with v := v' } w w' := by
  have hq := h.row.lt
  have k1 : w'.heap[M.q]? = w.heap[M.q]? := hs.block M.q hq h.qr h.qv
  have k2 : ∀ k, M.cv.ownBlock = some k → w'.heap[k]? = w.heap[k]? := fun k hk => hs.block k (h.cr.lt k hk).2 (fun e => h.rc (e ▸ hk)) fun e => h.vc.elim (fun e2 => by rw [e2] at hk; cases hk) fun e2 => e2 (hk.trans e.symm)
  refine ⟨⟨rowSame h.row k1, ht, h.cr.same k2, h.qr, fun e => (hs.own _ e).elim h.qv (fun h2 => by have h2 : w.heap.size ≤ M.q := h2; omega), h.qc, h.rc, ?_, h.bq⟩, rfl, rfl, hs.os, hs.tape, hs.output, hs.size, fun k hk => ?_, fun k hk hn => hs.block k hk (fun e => hn (.inr (.inl e))) fun e => hn (.inr (.inr (.inl e)))⟩
  · cases e : M.cv.ownBlock with
    | none => exact .inl rfl
    | some k =>
      right
      intro e2
      have h3 := h.cr.lt k e
      rcases hs.own k e2.symm with h4 | h4
      · exact h.vc.elim (fun e5 => by rw [e5] at e; cases e) fun e5 => e5 (e.trans h4.symm)
      · omega
  · rcases hk with hk | hk | hk | hk
    · exact .inl (.inl hk)
    · exact .inl (.inr (.inl hk))
    · exact (hs.own k hk).imp (fun h2 => .inr (.inr (.inl h2))) id
    · exact .inl (.inr (.inr (.inr hk)))
/-- A field of a cell is set. -/
theorem RCAt.cellSet {g m c : Nat} (h : RCAt B w M data R cs) (hv : M.cv = .slice (some ⟨g, 0, none⟩) m c) {x : CL} (hi : cs[i]? = some x) (j : Nat) (hj : j < 5) (u : Value) (y : CL) (hy : x.cells.set j u = y.cells) :
    RCAt B (w.setCell ⟨g, i * 5 + j, none⟩ u) M data R (cs.set i y) ∧ MStep M M w (w.setCell ⟨g, i * 5 + j, none⟩ u) := by
  have hc := h.cr
  rw [hv] at hc
  obtain ⟨h1, h2⟩ := hc.set hi j hj u y hy
  have hgo : M.cv.ownBlock = some g := by rw [hv]; rfl
  have hgq : g ≠ M.q := fun e => h.qc (by rw [hgo, e])
  have hgr : g ≠ M.r := fun e => h.rc (by rw [hgo, e])
  refine ⟨⟨h.row.other _ _ hgq, h.turn.keep (setCell_else w g _ u (Ne.symm hgr)) fun k hk => setCell_else w g _ u fun e => ?_, by rw [hv]; exact h1, h.qr, h.qv, h.qc, h.rc, h.vc, h.bq⟩, rfl, rfl, h2.os, h2.tape, h2.output, h2.size, fun k hk => .inl hk, fun k _ hn => setCell_else w g _ u fun e => hn (.inr (.inr (.inr (by rw [hgo, e]))))⟩
  subst e
  exact h.vc.elim (fun e2 => by rw [e2] at hgo; cases hgo) fun e2 => e2 (hgo.trans hk.symm)
/-- Its cells are others: in the row that it had, or in a new one. -/
theorem RCAt.cells {cv' : Value} (h : RCAt B w M data R cs) (hg : w.grownBy w1 M.cv.ownBlock) (ho : crow w1 B cv' cs') (hloc : cv'.ownBlock = M.cv.ownBlock ∨ ∃ k, cv'.ownBlock = some k ∧ w.heap.size ≤ k) :
    RCAt B (w1.setCell ⟨M.q, 2, none⟩ cv') { M with cv := cv' } data R cs' ∧ MStep M { M with cv := cv' } w (w1.setCell ⟨M.q, 2, none⟩ cv') := by
  have hq := h.row.lt
  have hr := h.turn.row.lt
  have n1 : cv'.ownBlock ≠ some M.q := by
    rcases hloc with e | ⟨k, e, hk⟩
    · rw [e]; exact h.qc
    · rw [e]; intro e2; cases e2; omega
  have n2 : cv'.ownBlock ≠ some M.r := by
    rcases hloc with e | ⟨k, e, hk⟩
    · rw [e]; exact h.rc
    · rw [e]; intro e2; cases e2; omega
  have n3 : cv'.ownBlock = none ∨ cv'.ownBlock ≠ M.v.ownBlock := by
    rcases hloc with e | ⟨k, e, hk⟩
    · rw [e]; exact h.vc
    · right; rw [e]; intro e2; have := (h.turn.kr.lt k e2.symm).2; omega
  have keep : ∀ k, k < w.heap.size → k ≠ M.q → M.cv.ownBlock ≠ some k → (w1.setCell ⟨M.q, 2, none⟩ cv').heap[k]? = w.heap[k]? := fun k hk hkq hv => by
    rw [setCell_else w1 M.q _ _ hkq]
    exact hg.block k hk fun e => hv e.symm
  refine ⟨⟨(h.row.grown hg fun e => h.qc e.symm).set 2 _, h.turn.keep (keep _ hr (Ne.symm h.qr) h.rc) fun k hk => keep k (h.turn.kr.lt k hk).2 (fun e => h.qv (e ▸ hk)) fun e => h.vc.elim (fun e2 => by rw [e2] at e; cases e) fun e2 => e2 (e.trans hk.symm),
    ho.same fun k hk => setCell_else w1 M.q _ _ fun e => n1 (by rw [hk, e]), h.qr, h.qv, n1, n2, n3, h.bq⟩, rfl, rfl, hg.os, hg.tape, hg.output, by simp [World.setCell]; exact hg.size, fun k hk => ?_, fun k hk hn => keep k hk (fun e => hn (.inl e)) fun e => hn (.inr (.inr (.inr e)))⟩
  rcases hk with hk | hk | hk | hk
  · exact .inl (.inl hk)
  · exact .inl (.inr (.inl hk))
  · exact .inl (.inr (.inr (.inl hk)))
  · rcases hloc with e | ⟨k', e, hk'⟩
    · exact .inl (.inr (.inr (.inr (e ▸ hk))))
    · have e3 : cv'.ownBlock = some k := hk
      rw [e] at e3; cases e3; exact .inr hk'
theorem crow_mono {C : Nat} (h : crow w B v ks) (hC : C ≤ B) : crow w C v ks := ⟨h.1, h.2.imp id fun ⟨g, cap, cur, hv, hB, q⟩ => ⟨g, cap, cur, hv, Nat.le_trans hC hB, q⟩⟩
theorem crow_snoc {x : CL} (h : w.ownsRow B cT 5 v (ks.length + 1) (celCells ks ++ x.cells)) : crow w B v (ks ++ [x]) := by
  unfold crow
  rw [List.length_append, celCells_append]
  have : celCells [x] = x.cells := by simp [celCells]
  rw [this]
  exact h
theorem cell_cell (x : CL) : ∀ u ∈ x.cells, u.oneCell' = true := by
  intro u hu
  simp at hu
  rcases hu with rfl | rfl | rfl | rfl | rfl <;> rfl
theorem celOne (w : World) (x : CL) : ∀ (j : Nat) (u : Value), x.cells[j]? = some u → (w.alloc (.cells x.cells.toArray cT)).cell? ((⟨w.heap.size, 0, none⟩ : Addr).add j) = some u := by
  intro j u hj
  have := (World.row.new w x.cells cT).cell j hj
  cases j with
  | zero => exact this
  | succ j => simpa [Addr.add] using this
abbrev cZero : Value := .agg #[.int .i64 0, .int .i64 0, .string { data := #[] }, .string { data := #[] }, .bool false]
theorem infoCel : (Tryd.prog.info? cT).map (fun i => (i.zero, i.size, i.bytes)) = some (some cZero, 5, 56) := by kernel_rfl
theorem info_cel : ∃ i0, Tryd.prog.info? cT = some i0 ∧ i0.zero = some cZero ∧ i0.size = 5 ∧ i0.bytes = 56 := by
  obtain ⟨i, h⟩ : ∃ i, Tryd.prog.info? cT = some i := by
    cases e : Tryd.prog.info? cT with
    | none => have := infoCel; rw [e] at this; cases this
    | some i => exact ⟨i, rfl⟩
  have h2 := infoCel
  rw [h] at h2
  simp only [Option.map_some, Option.some.injEq, Prod.mk.injEq] at h2
  exact ⟨i, h, h2.1, h2.2.1, h2.2.2⟩
theorem RCAt.three (h : RCAt B w M data R cs) : w.cell? ⟨M.q, 0, none⟩ = some (.pointer (some ⟨M.r, 0, none⟩)) ∧ w.cell? ⟨M.q, 1, none⟩ = some (.int .i64 (data : Int)) ∧ w.cell? ⟨M.q, 2, none⟩ = some M.cv ∧ (∀ i, w.frozen? ⟨M.q, i, none⟩ = false) :=
  ⟨h.row.cell 0 rfl, h.row.cell 1 rfl, h.row.cell 2 rfl, h.row.free⟩
end Go.Proofs.YtijagdpkclghnaaDoor
/- The document's cache: Find, out: contracts. -/
namespace Go.Proofs.YtijagdpkclghnaaDoor
open Go Go.RowKit
set_option maxRecDepth 100000
variable {B data : Nat} {w w' : World} {M M' : RM} {R R' : RS} {cs cs' : List CL} {x y : CL} {T : TS} {P D : List RK}
def IsFindC (cs : List CL) (i j z : Int) : Prop := (z = -1 ∧ ∀ x ∈ cs, ¬ (x.s = i ∧ x.c = j)) ∨ ∃ (k : Nat) (x : CL), z = (k : Int) ∧ cs[k]? = some x ∧ x.s = i ∧ x.c = j
theorem RFindC_any (i j : Int) (w : World) (h : RCAt B w M data R cs) (hl : cs.length ≤ 1000) :
    Calls Tryd.prog 41 #[pt M.q, .int .i64 i, .int .i64 j] w fun e w' => (∃ z, e = .returned (.int .i64 z) ∧ IsFindC cs i j z) ∧ w = w' := by
  obtain ⟨c0, c1, c2, cz⟩ := h.three
  obtain ⟨a, c, hcv⟩ := h.cr.shape
  obtain ⟨m, hm⟩ : ∃ m, m = cs.length := ⟨_, rfl⟩
  have hcr := h.cr
  rw [hcv, ← hm] at c2 hcr
  rw [← hm] at hl
  have HK := Lib.hid (And.intro hcr hm)
  have hql := h.row.lt
  clear h hcr hm hcv
  go_enter Tryd.func41, Tryd.ntmps41
  go_wp2_with fail
  go_loopw [7] (fun x wr => ∃ (k : Nat), k ≤ m ∧ x = .int .i64 k ∧ w = wr ∧ ∀ l y, l < k → cs[l]? = some y → ¬ (y.s = i ∧ y.c = j)) (fun x _ => m - (intOf x).toNat)
  case atStart => exact ⟨0, by omega, rfl, rfl, fun l y hl => by omega⟩
  case round =>
    obtain ⟨k, hk, rfl, rfl, hall⟩ := hrel
    have HA := Lib.hid hall
    clear hall
    by_cases hlt : k < m
    · have hkl : k < cs.length := by rw [← HK.out.2]; exact hlt
      obtain ⟨x, hx⟩ : ∃ x, cs[k]? = some x := ⟨cs[k], List.getElem?_eq_getElem hkl⟩
      obtain ⟨g, c', ev, hBg, hgl, d0, d1, d2, d3, d4, dz⟩ := HK.out.1.at hx
      obtain ⟨rfl, hmL, rfl⟩ := Value.slice.inj ev
      have HX := Lib.hid hx
      clear hmL ev hkl hBg d2 d3 d4 hx
      have next : ¬ (x.s = i ∧ x.c = j) → ∀ l y, l < k + 1 → cs[l]? = some y → ¬ (y.s = i ∧ y.c = j) := fun hn l y hl hy => by
        by_cases e : l = k
        · subst e
          have := HX.out.symm.trans hy
          cases this
          exact hn
        · exact HA.out l y (by omega) hy
      have HN := Lib.hid next
      clear next
      by_cases he : x.s = i
      · rw [he] at d0
        have HE := Lib.hid he
        clear he
        by_cases hf : x.c = j
        · have HF := Lib.hid hf
          rw [hf] at d1
          clear hf
          go_wp2_with fail
          go_returns
          exact ⟨⟨_, rfl, .inr ⟨k, x, rfl, HX.out, HE.out, HF.out⟩⟩, rfl⟩
        · go_wp2_with fail
          go_roundw
          case rel => exact ⟨k + 1, by omega, by go_num, trivial, HN.out fun e => hf e.2⟩
          case measure => simp [intOf] <;> omega
      · go_wp2_with fail
        go_roundw
        case rel => exact ⟨k + 1, by omega, by go_num, trivial, HN.out fun e => he e.1⟩
        case measure => simp [intOf] <;> omega
    · go_wp2_with fail
      go_returns
      refine ⟨⟨_, rfl, .inl ⟨rfl, fun x hx => ?_⟩⟩, rfl⟩
      obtain ⟨l, hl, rfl⟩ := List.getElem_of_mem hx
      exact HA.out l _ (by have := HK.out.2; omega) (List.getElem?_eq_getElem hl)
end Go.Proofs.YtijagdpkclghnaaDoor
