/- CacheOld: the walk. -/
import Derived.Test.YtijagdpkclghnaaDoorCWakesW
import Derived.Test.YtijagdpkclghnaaDoorOpen3
import Derived.Laws.Closers25
namespace Go.Proofs.YtijagdpkclghnaaDoor
open Go Go.RowKit
set_option maxRecDepth 100000
abbrev tAct : TypeId := 30
abbrev Ac : Type := Int × Int × Int × Int × Bool
abbrev act5 (y : Ac) : List Value := [.int .i64 y.1, .int .i64 y.2.1, .int .i64 y.2.2.1, .int .u8 y.2.2.2.1, .bool y.2.2.2.2]
theorem and3 (x : Int) : bits .and .i64 x 3 = 0 ∨ bits .and .i64 x 3 = 1 ∨ bits .and .i64 x 3 = 2 ∨ bits .and .i64 x 3 = 3 := by
  have h : ((BitVec.ofInt 64 x) &&& (BitVec.ofInt 64 3)).toNat ≤ 3 := by
    rw [BitVec.toNat_and]
    exact Nat.le_trans Nat.and_le_right (by decide)
  obtain ⟨m, hm⟩ : ∃ m, m = ((BitVec.ofInt 64 x) &&& (BitVec.ofInt 64 3)).toNat := ⟨_, rfl⟩
  have e : bits .and .i64 x 3 = IntKind.i64.wrap (m : Int) := by rw [hm]; rfl
  rw [← hm] at h
  rw [e, show IntKind.i64.wrap (m : Int) = (m : Int) from by
    unfold IntKind.wrap
    simp [IntKind.bits, IntKind.signed]
    omega]
  omega
theorem not_empty {s : ByteArray} (h : ¬ s = noB) : s.toList.isEmpty = false := by
  rw [← decide_eq_emptyBytes s]
  exact decide_eq_false h
set_option maxHeartbeats 4000000 in
theorem old_walk (x0 x1 : Int) (a : Option Addr) (len cap : Nat) (l : List Ac) (w : World) (hT : Tab w) (hl : l.length = len) (hcap : len ≤ cap) (hna : a = none → len = 0 ∧ cap = 0)
    (hc : l = [] ∨ ∃ b o, a = some ⟨b, o, none⟩ ∧ ∀ i x, l[i]? = some x → ∀ j u, (act5 x)[j]? = some u → w.cell? ⟨b, o + i * 5 + j, none⟩ = some u) :
    Calls Tryd.prog 3 #[.agg #[.int .i64 x0, .int .i64 x1], .slice a len cap] w fun e w' => e = .returned (.bool true) ∧ Below w.heap.size w w' := by
  have HT := Lib.hid hT
  have HC := Lib.hid (And.intro hc hl)
  have HNA := Lib.hid hna
  clear hc hna hT
  obtain ⟨z0, hz0⟩ : ∃ z0, max 0 x0 = z0 := ⟨_, rfl⟩
  obtain ⟨z1, hz1⟩ : ∃ z1, max 0 x1 = z1 := ⟨_, rfl⟩
  have hzz0 : 0 ≤ z0 := by omega
  have hzz1 : 0 ≤ z1 := by omega
  obtain ⟨t, et⟩ : ∃ t, z0 % 64 = t := ⟨_, rfl⟩
  obtain ⟨c, ec⟩ : ∃ c : Nat, z1 % 6 = (c : Int) := ⟨(z1 % 6).toNat, by omega⟩
  have ht : 0 ≤ t := by omega
  have ht2 : t < 64 := by omega
  have hc6 : c < 6 := by omega
  obtain ⟨n, hn⟩ : ∃ n, n = min len 60 := ⟨_, rfl⟩
  have hn1 : min (len : Int) 60 = (n : Int) := by omega
  have hn60 : n ≤ 60 := by omega
  have hnl : n ≤ len := by omega
  have HT2 := Lib.hid (And.intro ht (And.intro ht2 (And.intro hc6 (And.intro hn60 hnl))))
  clear hn
  go_enter Tryd.func3, Tryd.ntmps3
  go_upto_region 1 with fail
  obtain ⟨gx, hgx⟩ : ∃ g, g = w.heap.size := ⟨_, rfl⟩
  refine wp_world (fun w0 => w0.row gx [.int .i64 x0, .int .i64 x1] 22 ∧ Below w.heap.size w w0) ⟨World.row.new' hgx.symm, (by repeat' (first | (with_reducible exact Below.refl _ _) | (with_reducible assumption) | (with_reducible refine Below.setCell ?_ ?_ _) | (with_reducible refine Below.ext ?_ _ ?_) | (with_reducible refine Below.alloc ?_ ?_ _) | (with_reducible refine Below.drew ?_) | (with_reducible refine Below.drewN ?_ _) | (with_reducible exact Nat.le_refl _) | (dsimp only; omega) | (simp <;> omega)))⟩ ?_
  simp only [← hgx]
  have hgl : w.heap.size ≤ gx := Nat.le_of_eq hgx.symm
  rintro w0 ⟨rx, B0⟩
  rw [hgx] at B0
  clear hgx
  have H0 := Lib.hid (And.intro rx B0)
  clear rx B0
  go_wp2_with fail
  refine (newRun 4 2 6 w0 t c (by decide) (by decide) (by decide) (by decide) (by decide)).mono ?_
  rintro e w1 ⟨g, C1, rfl, R1⟩
  have rx := H0.out.1.below R1.b H0.out.1.lt
  have k0 := rx.cell 0 rfl
  have k1 := rx.cell 1 rfl
  have H1 := Lib.hid R1
  clear R1 rx
  go_wp2_with fail
  go_region
  simp only [et, ec]
  have R2 := H1.out.below (w' := w1.drew) ((Below.refl _ _).drew)
  have H2 := Lib.hid R2
  clear R2 k0 k1 et ec hz0 hz1 hzz0 hzz1 ht ht2 hc6
  go_wp2_with fail
  refine Calls.pure_to (wakes_any w1.drew (HT.out.below (H0.out.2.trans (H2.out.b.mono H0.out.2.size)) HT.out.lt)) ?_
  intro w2 b2
  have R3 := H2.out.below b2
  have H3 := Lib.hid R3
  clear R3 b2
  go_wp2_with fail
  go_loopw [43, 9, 10, 11] (fun i o nw d wr => ∃ (k : Nat) (C : CM) (T : TS) (L : List Int) (f : Int → Option Ent) (old now : ByteArray) (di : Bool), k ≤ n ∧ i = .int .i64 k ∧ o = .string old ∧ nw = .string now ∧ d = .bool di ∧ Run w0.heap.size (2 * k) 6 w0 wr g C T L f t c old now di ∧ (f t = none → L = [])) (fun i _ _ _ _ => n - (intOf i).toNat)
  case atStart => exact ⟨0, _, _, _, _, noB, noB, false, Nat.zero_le _, rfl, rfl, rfl, rfl, H3.out, fun _ => rfl⟩
  case round =>
    obtain ⟨k, C, T, L, f, old, now, di, hk, rfl, rfl, rfl, rfl, hR, hL⟩ := hrel
    by_cases hlt : k < n
    · have hne : l ≠ [] := by intro e; have := HC.out.2; rw [e] at this; simp at this; have := HT2.out.2.2.2.2; omega
      obtain ⟨b, o, rfl, hcell⟩ := HC.out.1.resolve_left hne
      obtain ⟨y, hy⟩ : ∃ y, l[k]? = some y := ⟨l[k]'(by have := HC.out.2; have := HT2.out.2.2.2.2; omega), by rw [List.getElem?_eq_getElem]⟩
      have Bw := H0.out.2.trans (hR.b.mono H0.out.2.size)
      have bcell := fun (p : Addr) v (hp : w.cell? p = some v) => (Bw.cell (p := p) (block_lt_of_cell hp)).trans hp
      have j0 := bcell _ _ (hcell k y hy 0 _ rfl)
      have j1 := bcell _ _ (hcell k y hy 1 _ rfl)
      have j2 := bcell _ _ (hcell k y hy 2 _ rfl)
      have j3 := bcell _ _ (hcell k y hy 3 _ rfl)
      have j4 := bcell _ _ (hcell k y hy 4 _ rfl)
      rw [Nat.add_zero] at j0
      have hbw : b < wr.heap.size := block_lt_of_cell j1
      clear hcell hy hne bcell Bw
      obtain ⟨yd, ys, yc, yb, yo⟩ := y
      simp only at j0 j1 j2 j3 j4
      have HR := Lib.hid (And.intro hR hL)
      have hkn := Lib.hid (show k < len by have := HT2.out.2.2.2.2; omega)
      clear hR hL
      go_upto_region 9 with fail
      obtain ⟨ga, hga⟩ : ∃ g, g = wr.heap.size := ⟨_, rfl⟩
      refine wp_world (fun w5 => w5.row ga [.int .i64 yd, .int .i64 ys, .int .i64 yc, .int .u8 yb, .bool yo] tAct ∧ Below wr.heap.size wr w5) ⟨World.row.new' hga.symm, (Below.refl _ _).alloc (Nat.le_refl _) _⟩ ?_
      simp only [← hga]
      rintro w5 ⟨ra, b5⟩
      rw [hga] at b5
      clear hga j0 j1 j2 j3 j4 hbw
      have k3 := ra.cell 3 rfl
      have R5 := HR.out.1.below b5
      have H5 := Lib.hid (And.intro R5 ra)
      clear R5 ra b5
      go_wp2_with fail
      refine Calls.pure_to (sec_any yb w5) ?_
      intro w6 b6
      have R6 := H5.out.1.below b6
      have k0 := (H5.out.2.below b6 H5.out.2.lt).cell 0 rfl
      have H6 := Lib.hid R6
      have hsz := Lib.hid (And.intro (secB_size yb) (secB_ne yb))
      obtain ⟨s, hs⟩ : ∃ s, s = secB yb := ⟨_, rfl⟩
      rw [← hs] at hsz ⊢
      have hv := and3 yd
      obtain ⟨v, hve⟩ : ∃ v, bits .and .i64 yd 3 = v := ⟨_, rfl⟩
      rw [hve] at hv
      clear R6 b6 k3 hs
      have hroom : Hid (f t ≠ none ∨ T.full = false) := Lib.hid (by
        cases e : f t with
        | none =>
          have hA := HR.out.1.at_
          rw [HR.out.2 e] at hA
          exact .inr (full_nil hA)
        | some E => exact .inl (by simp))
      have hkk := HT2.out.2.2.2.1
      rcases hv with rfl | rfl | rfl | rfl
      · go_wp2_with fail
        refine (putRun H6.out HT2.out.1 HT2.out.2.1 HT2.out.2.2.1 hsz.out.1 hroom.out (by omega)).mono ?_
        rintro e w7 ⟨rfl, C7, T7, L7, f7, R7, hf7⟩
        have H7 := Lib.hid (And.intro R7 (fun e => absurd e hf7 : f7 t = none → L7 = []))
        clear R7 hf7 k0 hve
        go_wp2_with fail
        refine (oldRun H7.out.1 HT2.out.1 HT2.out.2.1 HT2.out.2.2.1).mono ?_
        rintro e w8 ⟨rfl, R8⟩
        have H8 := Lib.hid R8
        clear R8
        obtain ⟨bo, hbo⟩ : ∃ b, b = !decide (old = noB) := ⟨_, rfl⟩
        rw [← hbo]
        go_wp2_with fail
        refine (getRun H8.out HT2.out.1 HT2.out.2.1 HT2.out.2.2.1).mono ?_
        rintro e w9 ⟨rfl, C9, T9, R9⟩
        have H9 := Lib.hid R9
        clear R9
        obtain ⟨bn, hbn⟩ : ∃ b, b = !decide (s = noB) := ⟨_, rfl⟩
        rw [← hbn]
        by_cases eo : old = noB
        · by_cases en : s = noB
          · first | exact absurd eo hsz.out.2 | exact absurd en hsz.out.2 | exact absurd eo EN.out | exact absurd en EN.out | (rw [decide_eq_true eo] at hbo; rw [decide_eq_true en] at hbn; simp only [Bool.not_true] at hbo; simp only [Bool.not_true] at hbn; subst hbo; subst hbn; go_wp2_with fail; refine ⟨⟨k + 1, C9, T9, _, _, old, s, true, by omega, by go_num, (by first | rfl | rw [eo]), (by first | rfl | rw [en]), rfl, H9.out.mono (by omega), H7.out.2⟩, ?_⟩; (simp [intOf] <;> omega))
          · first | exact absurd eo hsz.out.2 | exact absurd eo en | exact absurd eo EN.out | exact absurd EN.out en | (rw [decide_eq_true eo] at hbo; rw [decide_eq_false en] at hbn; have en2 := not_empty en; simp only [Bool.not_true] at hbo; simp only [Bool.not_false] at hbn; subst hbo; subst hbn; go_wp2_with fail; refine ⟨⟨k + 1, C9, T9, _, _, old, s, true, by omega, by go_num, (by first | rfl | rw [eo]), (by first | rfl | rw [en]), rfl, H9.out.mono (by omega), H7.out.2⟩, ?_⟩; (simp [intOf] <;> omega))
        · by_cases en : s = noB
          · first | exact absurd en hsz.out.2 | exact absurd en eo | exact absurd en EN.out | (rw [decide_eq_false eo] at hbo; rw [decide_eq_true en] at hbn; have eo2 := not_empty eo; simp only [Bool.not_false] at hbo; simp only [Bool.not_true] at hbn; subst hbo; subst hbn; go_wp2_with fail; refine ⟨⟨k + 1, C9, T9, _, _, old, s, true, by omega, by go_num, (by first | rfl | rw [eo]), (by first | rfl | rw [en]), rfl, H9.out.mono (by omega), H7.out.2⟩, ?_⟩; (simp [intOf] <;> omega))
          · first | exact absurd EN.out en | (rw [decide_eq_false eo] at hbo; rw [decide_eq_false en] at hbn; have eo2 := not_empty eo; have en2 := not_empty en; simp only [Bool.not_false] at hbo; simp only [Bool.not_false] at hbn; subst hbo; subst hbn; go_wp2_with fail; refine ⟨⟨k + 1, C9, T9, _, _, old, s, true, by omega, by go_num, (by first | rfl | rw [eo]), (by first | rfl | rw [en]), rfl, H9.out.mono (by omega), H7.out.2⟩, ?_⟩; (simp [intOf] <;> omega))
      · go_wp2_with fail
        refine (putRun H6.out HT2.out.1 HT2.out.2.1 HT2.out.2.2.1 hsz.out.1 hroom.out (by omega)).mono ?_
        rintro e w7 ⟨rfl, C7, T7, L7, f7, R7, hf7⟩
        have H7 := Lib.hid (And.intro R7 (fun e => absurd e hf7 : f7 t = none → L7 = []))
        clear R7 hf7 k0 hve
        go_wp2_with fail
        refine (oldRun H7.out.1 HT2.out.1 HT2.out.2.1 HT2.out.2.2.1).mono ?_
        rintro e w8 ⟨rfl, R8⟩
        have H8 := Lib.hid R8
        clear R8
        obtain ⟨bo, hbo⟩ : ∃ b, b = !decide (old = noB) := ⟨_, rfl⟩
        rw [← hbo]
        go_wp2_with fail
        refine (getRun H8.out HT2.out.1 HT2.out.2.1 HT2.out.2.2.1).mono ?_
        rintro e w9 ⟨rfl, C9, T9, R9⟩
        have H9 := Lib.hid R9
        clear R9
        obtain ⟨bn, hbn⟩ : ∃ b, b = !decide (s = noB) := ⟨_, rfl⟩
        rw [← hbn]
        by_cases eo : old = noB
        · by_cases en : s = noB
          · first | exact absurd eo hsz.out.2 | exact absurd en hsz.out.2 | exact absurd eo EN.out | exact absurd en EN.out | (rw [decide_eq_true eo] at hbo; rw [decide_eq_true en] at hbn; simp only [Bool.not_true] at hbo; simp only [Bool.not_true] at hbn; subst hbo; subst hbn; go_wp2_with fail; refine ⟨⟨k + 1, C9, T9, _, _, old, s, true, by omega, by go_num, (by first | rfl | rw [eo]), (by first | rfl | rw [en]), rfl, H9.out.mono (by omega), H7.out.2⟩, ?_⟩; (simp [intOf] <;> omega))
          · first | exact absurd eo hsz.out.2 | exact absurd eo en | exact absurd eo EN.out | exact absurd EN.out en | (rw [decide_eq_true eo] at hbo; rw [decide_eq_false en] at hbn; have en2 := not_empty en; simp only [Bool.not_true] at hbo; simp only [Bool.not_false] at hbn; subst hbo; subst hbn; go_wp2_with fail; refine ⟨⟨k + 1, C9, T9, _, _, old, s, true, by omega, by go_num, (by first | rfl | rw [eo]), (by first | rfl | rw [en]), rfl, H9.out.mono (by omega), H7.out.2⟩, ?_⟩; (simp [intOf] <;> omega))
        · by_cases en : s = noB
          · first | exact absurd en hsz.out.2 | exact absurd en eo | exact absurd en EN.out | (rw [decide_eq_false eo] at hbo; rw [decide_eq_true en] at hbn; have eo2 := not_empty eo; simp only [Bool.not_false] at hbo; simp only [Bool.not_true] at hbn; subst hbo; subst hbn; go_wp2_with fail; refine ⟨⟨k + 1, C9, T9, _, _, old, s, true, by omega, by go_num, (by first | rfl | rw [eo]), (by first | rfl | rw [en]), rfl, H9.out.mono (by omega), H7.out.2⟩, ?_⟩; (simp [intOf] <;> omega))
          · first | exact absurd EN.out en | (rw [decide_eq_false eo] at hbo; rw [decide_eq_false en] at hbn; have eo2 := not_empty eo; have en2 := not_empty en; simp only [Bool.not_false] at hbo; simp only [Bool.not_false] at hbn; subst hbo; subst hbn; go_wp2_with fail; refine ⟨⟨k + 1, C9, T9, _, _, old, s, true, by omega, by go_num, (by first | rfl | rw [eo]), (by first | rfl | rw [en]), rfl, H9.out.mono (by omega), H7.out.2⟩, ?_⟩; (simp [intOf] <;> omega))
      · go_wp2_with fail
        refine (fillRun H6.out HT2.out.1 HT2.out.2.1 HT2.out.2.2.1 hsz.out.1 hroom.out (by omega)).mono ?_
        rintro e w7 ⟨rfl, C7, T7, L7, f7, R7, hf7⟩
        have H7 := Lib.hid (And.intro R7 (fun e => absurd e hf7 : f7 t = none → L7 = []))
        clear R7 hf7 k0 hve
        cases di
        · simp only [Bool.false_eq_true, if_false] at H7
          go_wp2_with fail
          refine (oldRun H7.out.1 HT2.out.1 HT2.out.2.1 HT2.out.2.2.1).mono ?_
          rintro e w8 ⟨rfl, R8⟩
          have H8 := Lib.hid R8
          clear R8
          obtain ⟨bo, hbo⟩ : ∃ b, b = !decide (s = noB) := ⟨_, rfl⟩
          rw [← hbo]
          go_wp2_with fail
          refine (getRun H8.out HT2.out.1 HT2.out.2.1 HT2.out.2.2.1).mono ?_
          rintro e w9 ⟨rfl, C9, T9, R9⟩
          have H9 := Lib.hid R9
          clear R9
          obtain ⟨bn, hbn⟩ : ∃ b, b = !decide (s = noB) := ⟨_, rfl⟩
          rw [← hbn]
          by_cases eo : s = noB
          · by_cases en : s = noB
            · first | exact absurd eo hsz.out.2 | exact absurd en hsz.out.2 | exact absurd eo EN.out | exact absurd en EN.out | (rw [decide_eq_true eo] at hbo; rw [decide_eq_true en] at hbn; simp only [Bool.not_true] at hbo; simp only [Bool.not_true] at hbn; subst hbo; subst hbn; go_wp2_with fail; refine ⟨⟨k + 1, C9, T9, _, _, s, s, false, by omega, by go_num, (by first | rfl | rw [eo]), (by first | rfl | rw [en]), rfl, H9.out.mono (by omega), H7.out.2⟩, ?_⟩; (simp [intOf] <;> omega))
            · first | exact absurd eo hsz.out.2 | exact absurd eo en | exact absurd eo EN.out | exact absurd EN.out en | (rw [decide_eq_true eo] at hbo; rw [decide_eq_false en] at hbn; have en2 := not_empty en; simp only [Bool.not_true] at hbo; simp only [Bool.not_false] at hbn; subst hbo; subst hbn; go_wp2_with fail; refine ⟨⟨k + 1, C9, T9, _, _, s, s, false, by omega, by go_num, (by first | rfl | rw [eo]), (by first | rfl | rw [en]), rfl, H9.out.mono (by omega), H7.out.2⟩, ?_⟩; (simp [intOf] <;> omega))
          · by_cases en : s = noB
            · first | exact absurd en hsz.out.2 | exact absurd en eo | exact absurd en EN.out | (rw [decide_eq_false eo] at hbo; rw [decide_eq_true en] at hbn; have eo2 := not_empty eo; simp only [Bool.not_false] at hbo; simp only [Bool.not_true] at hbn; subst hbo; subst hbn; go_wp2_with fail; refine ⟨⟨k + 1, C9, T9, _, _, s, s, false, by omega, by go_num, (by first | rfl | rw [eo]), (by first | rfl | rw [en]), rfl, H9.out.mono (by omega), H7.out.2⟩, ?_⟩; (simp [intOf] <;> omega))
            · first | exact absurd EN.out en | (rw [decide_eq_false eo] at hbo; rw [decide_eq_false en] at hbn; have eo2 := not_empty eo; have en2 := not_empty en; simp only [Bool.not_false] at hbo; simp only [Bool.not_false] at hbn; subst hbo; subst hbn; go_wp2_with fail; refine ⟨⟨k + 1, C9, T9, _, _, s, s, false, by omega, by go_num, (by first | rfl | rw [eo]), (by first | rfl | rw [en]), rfl, H9.out.mono (by omega), H7.out.2⟩, ?_⟩; (simp [intOf] <;> omega))
        · simp only [if_true] at H7
          go_wp2_with fail
          refine (oldRun H7.out.1 HT2.out.1 HT2.out.2.1 HT2.out.2.2.1).mono ?_
          rintro e w8 ⟨rfl, R8⟩
          have H8 := Lib.hid R8
          clear R8
          obtain ⟨bo, hbo⟩ : ∃ b, b = !decide (s = noB) := ⟨_, rfl⟩
          rw [← hbo]
          go_wp2_with fail
          refine (getRun H8.out HT2.out.1 HT2.out.2.1 HT2.out.2.2.1).mono ?_
          rintro e w9 ⟨rfl, C9, T9, R9⟩
          have H9 := Lib.hid R9
          clear R9
          obtain ⟨bn, hbn⟩ : ∃ b, b = !decide (now = noB) := ⟨_, rfl⟩
          rw [← hbn]
          by_cases eo : s = noB
          · by_cases en : now = noB
            · first | exact absurd eo hsz.out.2 | exact absurd en hsz.out.2 | exact absurd eo EN.out | exact absurd en EN.out | (rw [decide_eq_true eo] at hbo; rw [decide_eq_true en] at hbn; simp only [Bool.not_true] at hbo; simp only [Bool.not_true] at hbn; subst hbo; subst hbn; go_wp2_with fail; refine ⟨⟨k + 1, C9, T9, _, _, s, now, true, by omega, by go_num, (by first | rfl | rw [eo]), (by first | rfl | rw [en]), rfl, H9.out.mono (by omega), H7.out.2⟩, ?_⟩; (simp [intOf] <;> omega))
            · first | exact absurd eo hsz.out.2 | exact absurd eo en | exact absurd eo EN.out | exact absurd EN.out en | (rw [decide_eq_true eo] at hbo; rw [decide_eq_false en] at hbn; have en2 := not_empty en; simp only [Bool.not_true] at hbo; simp only [Bool.not_false] at hbn; subst hbo; subst hbn; go_wp2_with fail; refine ⟨⟨k + 1, C9, T9, _, _, s, now, true, by omega, by go_num, (by first | rfl | rw [eo]), (by first | rfl | rw [en]), rfl, H9.out.mono (by omega), H7.out.2⟩, ?_⟩; (simp [intOf] <;> omega))
          · by_cases en : now = noB
            · first | exact absurd en hsz.out.2 | exact absurd en eo | exact absurd en EN.out | (rw [decide_eq_false eo] at hbo; rw [decide_eq_true en] at hbn; have eo2 := not_empty eo; simp only [Bool.not_false] at hbo; simp only [Bool.not_true] at hbn; subst hbo; subst hbn; go_wp2_with fail; refine ⟨⟨k + 1, C9, T9, _, _, s, now, true, by omega, by go_num, (by first | rfl | rw [eo]), (by first | rfl | rw [en]), rfl, H9.out.mono (by omega), H7.out.2⟩, ?_⟩; (simp [intOf] <;> omega))
            · first | exact absurd EN.out en | (rw [decide_eq_false eo] at hbo; rw [decide_eq_false en] at hbn; have eo2 := not_empty eo; have en2 := not_empty en; simp only [Bool.not_false] at hbo; simp only [Bool.not_false] at hbn; subst hbo; subst hbn; go_wp2_with fail; refine ⟨⟨k + 1, C9, T9, _, _, s, now, true, by omega, by go_num, (by first | rfl | rw [eo]), (by first | rfl | rw [en]), rfl, H9.out.mono (by omega), H7.out.2⟩, ?_⟩; (simp [intOf] <;> omega))
      · go_wp2_with fail
        refine (doneRun H6.out HT2.out.1 HT2.out.2.1 HT2.out.2.2.1 (HT.out.below (H0.out.2.trans (H6.out.b.mono H0.out.2.size)) HT.out.lt) (by omega)).mono ?_
        rintro e w7 ⟨rfl, C7, T7, f7, R7, hf7⟩
        have H7 := Lib.hid (And.intro R7 (fun e => HR.out.2 (hf7.1 e) : f7 t = none → L = []))
        clear R7 hf7 k0 hve
        by_cases en : now = noB
        · rw [if_pos en, if_pos en] at H7
          rw [decide_eq_true en]
          have EN := Lib.hid en
          clear en
          go_wp2_with fail
          refine (oldRun H7.out.1 HT2.out.1 HT2.out.2.1 HT2.out.2.2.1).mono ?_
          rintro e w8 ⟨rfl, R8⟩
          have H8 := Lib.hid R8
          clear R8
          obtain ⟨bo, hbo⟩ : ∃ b, b = !decide (old = noB) := ⟨_, rfl⟩
          rw [← hbo]
          go_wp2_with fail
          refine (getRun H8.out HT2.out.1 HT2.out.2.1 HT2.out.2.2.1).mono ?_
          rintro e w9 ⟨rfl, C9, T9, R9⟩
          have H9 := Lib.hid R9
          clear R9
          obtain ⟨bn, hbn⟩ : ∃ b, b = !decide (now = noB) := ⟨_, rfl⟩
          rw [← hbn]
          by_cases eo : old = noB
          · by_cases en : now = noB
            · first | exact absurd eo hsz.out.2 | exact absurd en hsz.out.2 | exact absurd eo EN.out | exact absurd en EN.out | (rw [decide_eq_true eo] at hbo; rw [decide_eq_true en] at hbn; simp only [Bool.not_true] at hbo; simp only [Bool.not_true] at hbn; subst hbo; subst hbn; go_wp2_with fail; refine ⟨⟨k + 1, C9, T9, _, _, old, now, di, by omega, by go_num, (by first | rfl | rw [eo]), (by first | rfl | rw [en]), rfl, H9.out.mono (by omega), H7.out.2⟩, ?_⟩; (simp [intOf] <;> omega))
            · first | exact absurd eo hsz.out.2 | exact absurd eo en | exact absurd eo EN.out | exact absurd EN.out en | (rw [decide_eq_true eo] at hbo; rw [decide_eq_false en] at hbn; have en2 := not_empty en; simp only [Bool.not_true] at hbo; simp only [Bool.not_false] at hbn; subst hbo; subst hbn; go_wp2_with fail; refine ⟨⟨k + 1, C9, T9, _, _, old, now, di, by omega, by go_num, (by first | rfl | rw [eo]), (by first | rfl | rw [en]), rfl, H9.out.mono (by omega), H7.out.2⟩, ?_⟩; (simp [intOf] <;> omega))
          · by_cases en : now = noB
            · first | exact absurd en hsz.out.2 | exact absurd en eo | exact absurd en EN.out | (rw [decide_eq_false eo] at hbo; rw [decide_eq_true en] at hbn; have eo2 := not_empty eo; simp only [Bool.not_false] at hbo; simp only [Bool.not_true] at hbn; subst hbo; subst hbn; go_wp2_with fail; refine ⟨⟨k + 1, C9, T9, _, _, old, now, di, by omega, by go_num, (by first | rfl | rw [eo]), (by first | rfl | rw [en]), rfl, H9.out.mono (by omega), H7.out.2⟩, ?_⟩; (simp [intOf] <;> omega))
            · first | exact absurd EN.out en | (rw [decide_eq_false eo] at hbo; rw [decide_eq_false en] at hbn; have eo2 := not_empty eo; have en2 := not_empty en; simp only [Bool.not_false] at hbo; simp only [Bool.not_false] at hbn; subst hbo; subst hbn; go_wp2_with fail; refine ⟨⟨k + 1, C9, T9, _, _, old, now, di, by omega, by go_num, (by first | rfl | rw [eo]), (by first | rfl | rw [en]), rfl, H9.out.mono (by omega), H7.out.2⟩, ?_⟩; (simp [intOf] <;> omega))
        · rw [if_neg en, if_neg en] at H7
          rw [decide_eq_false en]
          have EN := Lib.hid en
          clear en
          go_wp2_with fail
          refine (oldRun H7.out.1 HT2.out.1 HT2.out.2.1 HT2.out.2.2.1).mono ?_
          rintro e w8 ⟨rfl, R8⟩
          have H8 := Lib.hid R8
          clear R8
          obtain ⟨bo, hbo⟩ : ∃ b, b = !decide (now = noB) := ⟨_, rfl⟩
          rw [← hbo]
          go_wp2_with fail
          refine (getRun H8.out HT2.out.1 HT2.out.2.1 HT2.out.2.2.1).mono ?_
          rintro e w9 ⟨rfl, C9, T9, R9⟩
          have H9 := Lib.hid R9
          clear R9
          obtain ⟨bn, hbn⟩ : ∃ b, b = !decide (now = noB) := ⟨_, rfl⟩
          rw [← hbn]
          by_cases eo : now = noB
          · by_cases en : now = noB
            · first | exact absurd eo hsz.out.2 | exact absurd en hsz.out.2 | exact absurd eo EN.out | exact absurd en EN.out | (rw [decide_eq_true eo] at hbo; rw [decide_eq_true en] at hbn; simp only [Bool.not_true] at hbo; simp only [Bool.not_true] at hbn; subst hbo; subst hbn; go_wp2_with fail; refine ⟨⟨k + 1, C9, T9, _, _, now, now, false, by omega, by go_num, (by first | rfl | rw [eo]), (by first | rfl | rw [en]), rfl, H9.out.mono (by omega), H7.out.2⟩, ?_⟩; (simp [intOf] <;> omega))
            · first | exact absurd eo hsz.out.2 | exact absurd eo en | exact absurd eo EN.out | exact absurd EN.out en | (rw [decide_eq_true eo] at hbo; rw [decide_eq_false en] at hbn; have en2 := not_empty en; simp only [Bool.not_true] at hbo; simp only [Bool.not_false] at hbn; subst hbo; subst hbn; go_wp2_with fail; refine ⟨⟨k + 1, C9, T9, _, _, now, now, false, by omega, by go_num, (by first | rfl | rw [eo]), (by first | rfl | rw [en]), rfl, H9.out.mono (by omega), H7.out.2⟩, ?_⟩; (simp [intOf] <;> omega))
          · by_cases en : now = noB
            · first | exact absurd en hsz.out.2 | exact absurd en eo | exact absurd en EN.out | (rw [decide_eq_false eo] at hbo; rw [decide_eq_true en] at hbn; have eo2 := not_empty eo; simp only [Bool.not_false] at hbo; simp only [Bool.not_true] at hbn; subst hbo; subst hbn; go_wp2_with fail; refine ⟨⟨k + 1, C9, T9, _, _, now, now, false, by omega, by go_num, (by first | rfl | rw [eo]), (by first | rfl | rw [en]), rfl, H9.out.mono (by omega), H7.out.2⟩, ?_⟩; (simp [intOf] <;> omega))
            · first | exact absurd EN.out en | (rw [decide_eq_false eo] at hbo; rw [decide_eq_false en] at hbn; have eo2 := not_empty eo; have en2 := not_empty en; simp only [Bool.not_false] at hbo; simp only [Bool.not_false] at hbn; subst hbo; subst hbn; go_wp2_with fail; refine ⟨⟨k + 1, C9, T9, _, _, now, now, false, by omega, by go_num, (by first | rfl | rw [eo]), (by first | rfl | rw [en]), rfl, H9.out.mono (by omega), H7.out.2⟩, ?_⟩; (simp [intOf] <;> omega))
    · obtain rfl : k = n := by omega
      have HB := Lib.hid (H0.out.2.trans (hR.b.mono H0.out.2.size))
      clear hR hL
      go_wp2_with fail
      go_returns
      exact ⟨rfl, HB.out⟩
end Go.Proofs.YtijagdpkclghnaaDoor
