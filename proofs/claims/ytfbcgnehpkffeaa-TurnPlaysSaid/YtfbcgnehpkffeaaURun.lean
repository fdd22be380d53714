/- The laws' 'run': a contract. -/
import Derived.Test.YtfbcgnehpkffeaaUWakes
namespace Go.Proofs.Ytfbcgnehpkffeaa
open Go Go.RowKit
set_option maxRecDepth 100000
variable {B n : Nat} {w : World} {M : TM} {T : TS}
/-- An act as cells. -/
abbrev act3 (x : Int × Int × Bool) : List Value := [.int .i64 x.1, .int .i64 x.2.1, .bool x.2.2]
/-- Its keys are small, and what is pinned is there. -/
structure Small (T : TS) : Prop where
  keys : ∀ k ∈ T.keys, 0 ≤ k ∧ k ≤ 31
  pins : ∀ k ∈ T.pins, k ∈ T.keys
theorem and31 (x : Int) : 0 ≤ bits .and .i64 x 31 ∧ bits .and .i64 x 31 ≤ 31 := by
  have h : ((BitVec.ofInt 64 x) &&& (BitVec.ofInt 64 31)).toNat ≤ 31 := by
    rw [BitVec.toNat_and]
    exact Nat.le_trans Nat.and_le_right (by decide)
  obtain ⟨m, hm⟩ : ∃ m, m = ((BitVec.ofInt 64 x) &&& (BitVec.ofInt 64 31)).toNat := ⟨_, rfl⟩
  have e : bits .and .i64 x 31 = IntKind.i64.wrap (m : Int) := by rw [hm]; rfl
  rw [← hm] at h
  rw [e, show IntKind.i64.wrap (m : Int) = (m : Int) from by
    unfold IntKind.wrap
    simp [IntKind.bits, IntKind.signed]
    omega]
  omega
theorem touch_perm (h : Good T) (k : Int) : (T.touchT k).keys.Perm T.keys := by
  unfold TS.touchT
  by_cases hk : T.has k = true
  · rw [if_pos hk]
    have hp := moved_perm h k hk
    by_cases hlim : (T.moved k).limit < (T.moved k).dear.length
    · cases hc : (T.moved k).dear with
      | nil => rw [hc] at hlim; simp at hlim
      | cons d ds =>
        rw [TS.fallT_yes hc hlim]
        rw [hc] at hp
        show (((T.moved k).plain ++ [d]) ++ ds).Perm _
        rw [List.append_assoc]
        exact hp
    · rw [TS.fallT_no hlim]; exact hp
  · rw [if_neg hk]
theorem fall_same (T : TS) : T.fallT.most = T.most ∧ T.fallT.limit = T.limit ∧ T.fallT.pins = T.pins := by
  by_cases hlim : T.limit < T.dear.length
  · cases hc : T.dear with
    | nil => rw [hc] at hlim; simp at hlim
    | cons d ds => rw [TS.fallT_yes hc hlim]; exact ⟨rfl, rfl, rfl⟩
  · rw [TS.fallT_no hlim]; exact ⟨rfl, rfl, rfl⟩
theorem touch_same (T : TS) (k : Int) : (T.touchT k).most = T.most ∧ (T.touchT k).limit = T.limit ∧ (T.touchT k).pins = T.pins := by
  unfold TS.touchT
  split
  · exact fall_same _
  · exact ⟨rfl, rfl, rfl⟩
theorem add_same (T : TS) (k : Int) : (T.addT k).most = T.most ∧ (T.addT k).limit = T.limit ∧ (T.addT k).pins = T.pins := by
  unfold TS.addT
  split
  · exact ⟨rfl, rfl, rfl⟩
  · split <;> exact ⟨rfl, rfl, rfl⟩
theorem pin_same (T : TS) (k : Int) (on : Bool) : (T.pinT k on).most = T.most ∧ (T.pinT k on).limit = T.limit ∧ (T.pinT k on).keys = T.keys := by
  unfold TS.pinT
  split <;> exact ⟨rfl, rfl, rfl⟩
theorem TurnAt.pnodup (h : TurnAt B n w M T) : T.pins.Nodup := by obtain ⟨D, _, h2⟩ := h.pm; exact h2.nodup
theorem Small.touch (h : Small T) (hg : Good T) (k : Int) : Small (T.touchT k) := by
  have hp := touch_perm hg k
  refine ⟨fun x hx => h.keys x (hp.mem_iff.1 hx), fun x hx => hp.mem_iff.2 (h.pins x ?_)⟩
  rw [(touch_same T k).2.2] at hx
  exact hx
theorem Small.add (h : Small T) (k : Int) (hk : 0 ≤ k ∧ k ≤ 31) : Small (T.addT k) := by
  refine ⟨fun x hx => ?_, fun x hx => ?_⟩
  · unfold TS.addT TS.keys at hx
    split at hx
    · exact h.keys x hx
    · split at hx
      · exact h.keys x hx
      · rcases List.mem_append.1 hx with hx | hx
        · rcases List.mem_append.1 hx with hx | hx
          · exact h.keys x (List.mem_append.2 (.inl hx))
          · rw [List.mem_singleton.1 hx]; exact hk
        · exact h.keys x (List.mem_append.2 (.inr hx))
  · rw [(add_same T k).2.2] at hx
    have hm := h.pins x hx
    unfold TS.addT
    split
    · exact hm
    · split
      · exact hm
      · show x ∈ (T.plain ++ [k]) ++ T.dear
        rcases List.mem_append.1 hm with h1 | h1
        · exact List.mem_append.2 (.inl (List.mem_append.2 (.inl h1)))
        · exact List.mem_append.2 (.inr h1)
theorem Small.drop (h : Small T) (hn : T.pins.Nodup) (k : Int) : Small (T.dropT k) := by
  refine ⟨fun x hx => h.keys x ?_, fun x hx => ?_⟩
  · rcases List.mem_append.1 hx with h1 | h1
    · exact List.mem_append.2 (.inl (List.mem_of_mem_erase h1))
    · exact List.mem_append.2 (.inr (List.mem_of_mem_erase h1))
  · have hx' : x ∈ T.pins.erase k := hx
    rw [List.Nodup.mem_erase_iff hn] at hx'
    rcases List.mem_append.1 (h.pins x hx'.2) with h1 | h1
    · exact List.mem_append.2 (.inl ((List.mem_erase_of_ne hx'.1).2 h1))
    · exact List.mem_append.2 (.inr ((List.mem_erase_of_ne hx'.1).2 h1))
theorem Small.pin (h : Small T) (k : Int) (on : Bool) : Small (T.pinT k on) := by
  refine ⟨fun x hx => h.keys x (by rw [(pin_same T k on).2.2] at hx; exact hx), fun x hx => ?_⟩
  rw [(pin_same T k on).2.2]
  unfold TS.pinT at hx
  split at hx
  · next hk =>
    cases on with
    | true =>
      have hx' : x ∈ addTo T.pins k := hx
      unfold addTo at hx'
      split at hx'
      · exact h.pins x hx'
      · rcases List.mem_append.1 hx' with h1 | h1
        · exact h.pins x h1
        · rw [List.mem_singleton.1 h1]; exact (has_iff T k).1 hk
    | false => exact h.pins x (List.mem_of_mem_erase (show x ∈ T.pins.erase k from hx))
  · exact h.pins x hx
set_option maxHeartbeats 4000000 in
theorem run_any (x0 x1 : Int) (a : Option Addr) (len cap : Nat) (l : List (Int × Int × Bool)) (w : World) (_h0 : In64 x0) (_h1 : In64 x1) (hl : l.length = len) (hcap : len ≤ cap) (hna : a = none → len = 0 ∧ cap = 0)
    (hc : l = [] ∨ ∃ b o, a = some ⟨b, o, none⟩ ∧ ∀ i x, l[i]? = some x → ∀ j u, (act3 x)[j]? = some u → w.cell? ⟨b, o + i * 3 + j, none⟩ = some u) (most limit : Nat) (hmost : (most : Int) = 1 + (max 0 x0) % 20) (hlimit : (limit : Int) = (max 0 x1) % most) :
    Calls Try.prog 22 #[.agg #[.int .i64 x0, .int .i64 x1], .slice a len cap] w fun e w' => ∃ M T, e = .returned (.tuple #[pt M.g, .int .i64 (limit : Int), .bool true]) ∧ TurnAt w.heap.size 80 w' M T ∧ Good T ∧ T.most = most ∧ T.limit = limit ∧ Small T ∧ Below w.heap.size w w' := by
  have HC := Lib.hid hc
  have HNA := Lib.hid hna
  clear hc hna
  have hm20 : most ≤ 20 := by omega
  have hm1 : 1 ≤ most := by omega
  have hl1 : limit < most := by
    have : (max 0 x1) % (most : Int) < most := Int.emod_lt_of_pos _ (by omega)
    omega
  obtain ⟨z0, hz0⟩ : ∃ z0, max 0 x0 = z0 := ⟨_, rfl⟩
  obtain ⟨z1, hz1⟩ : ∃ z1, max 0 x1 = z1 := ⟨_, rfl⟩
  have hzz0 : 0 ≤ z0 := by omega
  have hzz1 : 0 ≤ z1 := by omega
  rw [hz0] at hmost
  rw [hz1] at hlimit
  have em : 1 + z0 % 20 = (most : Int) := hmost.symm
  have el : z1 % (most : Int) = (limit : Int) := hlimit.symm
  clear hmost hlimit
  obtain ⟨n, hn⟩ : ∃ n, n = min len 80 := ⟨_, rfl⟩
  have hn1 : min (len : Int) 80 = (n : Int) := by omega
  have hn2 : max (n : Int) 0 = (n : Int) := by omega
  have hn80 : n ≤ 80 := by omega
  have hnl : n ≤ len := by omega
  clear hn
  go_enter Try.func22, Try.ntmps22
  go_wp2_with fail
  have b1 : Below w.heap.size w (w.alloc (.cells #[.int .i64 x0, .int .i64 x1] 45)) := (by repeat' (first | (with_reducible exact Below.refl _ _) | (with_reducible assumption) | (with_reducible refine Below.setCell ?_ ?_ _) | (with_reducible refine Below.ext ?_ _ ?_) | (with_reducible refine Below.alloc ?_ ?_ _) | (with_reducible refine Below.drew ?_) | (with_reducible refine Below.drewN ?_ _) | (with_reducible exact Nat.le_refl _) | (dsimp only; omega) | (simp <;> omega)))
  refine (New_ok (B := w.heap.size) most limit _ b1.size hm1 (by omega) hl1).mono ?_
  rintro e w1 ⟨M0, rfl, hT0, hb0, _⟩
  have B0 := b1.trans (hb0.mono b1.size)
  obtain ⟨g, hgM⟩ : ∃ g, M0.g = g := ⟨_, rfl⟩
  rw [hgM]
  have G0 : Good ⟨most, limit, [], [], []⟩ := ⟨hm1, by show most ≤ 64; omega, hl1, by simp, by simp, by simp, fun k hk => by simp at hk⟩
  have S0 : Small ⟨most, limit, [], [], []⟩ := ⟨fun k hk => by simp [TS.keys] at hk, fun k hk => by simp at hk⟩
  clear b1 hb0
  go_wp2_with fail
  go_loopw [36] (fun x wr => ∃ (i : Nat) (M : TM) (T : TS), i ≤ n ∧ x = .int .i64 i ∧ TurnAt w.heap.size i wr M T ∧ Good T ∧ Small T ∧ T.most = most ∧ T.limit = limit ∧ M.g = g ∧ Below w.heap.size w wr) (fun x _ => n - (intOf x).toNat)
  case atStart => exact ⟨0, M0, _, by omega, rfl, hT0, G0, S0, rfl, rfl, hgM, B0⟩
  case round =>
    clear hT0 G0 S0 B0 hgM
    obtain ⟨i, M, T, hi, rfl, hT, hG, hS, hmo, hli, hgM, hB⟩ := hrel
    by_cases hlt2 : i < n
    · have hne : l ≠ [] := by intro e; rw [e] at hl; simp at hl; omega
      obtain ⟨b, o, rfl, hcell⟩ := HC.out.resolve_left hne
      obtain ⟨y, hy⟩ : ∃ y, l[i]? = some y := ⟨l[i]'(by omega), by rw [List.getElem?_eq_getElem (by omega)]⟩
      have bcell := fun (p : Addr) v (hp : w.cell? p = some v) => (hB.cell (p := p) (block_lt_of_cell hp)).trans hp
      have j0 := bcell _ _ (hcell i y hy 0 _ rfl)
      have j1 := bcell _ _ (hcell i y hy 1 _ rfl)
      have j2 := bcell _ _ (hcell i y hy 2 _ rfl)
      rw [Nat.add_zero] at j0
      have hbw : b < wr.heap.size := block_lt_of_cell j1
      clear hcell hy hne bcell
      obtain ⟨dd, kk, on⟩ := y
      have hT1 := hT.below' (w' := wr.alloc (.cells #[.int .i64 dd, .int .i64 kk, .bool on] 37)) (by repeat' (first | (with_reducible exact Below.refl _ _) | (with_reducible assumption) | (with_reducible refine Below.setCell ?_ ?_ _) | (with_reducible refine Below.ext ?_ _ ?_) | (with_reducible refine Below.alloc ?_ ?_ _) | (with_reducible refine Below.drew ?_) | (with_reducible refine Below.drewN ?_ _) | (with_reducible exact Nat.le_refl _) | (dsimp only; omega) | (simp <;> omega)))
      have B1 : Below w.heap.size w (wr.alloc (.cells #[.int .i64 dd, .int .i64 kk, .bool on] 37)) := hB.alloc hB.size _
      have HI := Lib.hid (And.intro hT1 (And.intro hG (And.intro hS (And.intro hmo (And.intro hli (And.intro hgM B1))))))
      obtain ⟨k, hk⟩ : ∃ k, bits .and .i64 kk 31 = k := ⟨_, rfl⟩
      have hk31 : Hid (0 ≤ k ∧ k ≤ 31) := Lib.hid (hk ▸ and31 kk)
      clear hT1 hG hS hmo hli B1 hT hB
      go_wp2_with fail
      iterate 2
        · have hc := Touch_any k _ HI.out.1 HI.out.2.1
          rw [hgM] at hc
          refine hc.mono ?_
          rintro e w2 ⟨rfl, M2, P2, S2⟩
          have B2 := S2.under HI.out.1 HI.out.1.le HI.out.2.2.2.2.2.2
          clear hc
          go_wp2_with fail
          go_roundw
          case rel => exact ⟨i + 1, M2, _, by omega, by go_num, P2.mono (by omega), HI.out.2.1.touch k, HI.out.2.2.1.touch HI.out.2.1 k, (touch_same T k).1.trans HI.out.2.2.2.1, (touch_same T k).2.1.trans HI.out.2.2.2.2.1, S2.g.trans hgM, B2⟩
          case measure => simp [intOf] <;> omega
      · have hc := Pin_any k on _ HI.out.1 (by omega) ⟨by have := hk31.out; omega, by have := hk31.out; omega⟩
        rw [hgM] at hc
        refine hc.mono ?_
        rintro e w2 ⟨rfl, P2, S2⟩
        have B2 := S2.under HI.out.1 HI.out.1.le HI.out.2.2.2.2.2.2
        clear hc
        go_wp2_with fail
        go_roundw
        case rel => exact ⟨i + 1, M, _, by omega, by go_num, P2, HI.out.2.1.pin k on, HI.out.2.2.1.pin k on, (pin_same T k on).1.trans HI.out.2.2.2.1, (pin_same T k on).2.1.trans HI.out.2.2.2.2.1, hgM, B2⟩
        case measure => simp [intOf] <;> omega
      · have hc := Drop_any k _ HI.out.1 HI.out.2.1 ⟨by have := hk31.out; omega, by have := hk31.out; omega⟩
        rw [hgM] at hc
        refine hc.mono ?_
        rintro e w2 ⟨rfl, M2, P2, S2⟩
        have B2 := S2.under HI.out.1 HI.out.1.le HI.out.2.2.2.2.2.2
        clear hc
        go_wp2_with fail
        go_roundw
        case rel => exact ⟨i + 1, M2, _, by omega, by go_num, P2.mono (by omega), HI.out.2.1.drop k, HI.out.2.2.1.drop HI.out.1.pnodup k, HI.out.2.2.2.1, HI.out.2.2.2.2.1, S2.g.trans hgM, B2⟩
        case measure => simp [intOf] <;> omega
      · have hc := Add_any k _ HI.out.1 HI.out.2.1
        rw [hgM] at hc
        refine hc.mono ?_
        rintro e w2 ⟨rfl, M2, P2, S2⟩
        have B2 := S2.under HI.out.1 HI.out.1.le HI.out.2.2.2.2.2.2
        clear hc
        go_wp2_with fail
        go_roundw
        case rel => exact ⟨i + 1, M2, _, by omega, by go_num, P2.mono (by omega), HI.out.2.1.add k ⟨by have := hk31.out; omega, by have := hk31.out; omega⟩, HI.out.2.2.1.add k hk31.out, (add_same T k).1.trans HI.out.2.2.2.1, (add_same T k).2.1.trans HI.out.2.2.2.2.1, S2.g.trans hgM, B2⟩
        case measure => simp [intOf] <;> omega
    · have HI := Lib.hid (And.intro hT (And.intro hG (And.intro hS (And.intro hmo (And.intro hli (And.intro hgM hB))))))
      have HE := Lib.hid el
      clear hT hG hS hmo hli hgM hB
      go_wp2_with fail
      go_ret3
      exact ⟨M, T, by rw [HI.out.2.2.2.2.2.1]; rfl, HI.out.1.mono (by omega), HI.out.2.1, HI.out.2.2.2.1, HI.out.2.2.2.2.1, HI.out.2.2.1, HI.out.2.2.2.2.2.2⟩
end Go.Proofs.Ytfbcgnehpkffeaa
