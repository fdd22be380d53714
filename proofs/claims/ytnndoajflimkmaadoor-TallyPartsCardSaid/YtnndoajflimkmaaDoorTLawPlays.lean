/- TallyPlays: its walk. -/
import Derived.Test.YtnndoajflimkmaaDoorTSame
import Derived.Test.YtnndoajflimkmaaDoorTWakes
import Derived.Test.YtnndoajflimkmaaDoorOpen3
import Derived.Deep.RegionWith
namespace Go.Proofs.YtnndoajflimkmaaDoor
open Go Go.RowKit
set_option maxRecDepth 100000
/-- What holds between two acts. -/
structure PlayAt (B : Nat) (w0 w : World) (g h n : Nat) (f : Nat → Int) : Prop where
  rt : w.row g (cel f) tT
  rr : w.row h (cel f) tR
  ne : g ≠ h
  bg : B ≤ g
  bh : B ≤ h
  fine : Fine f
  bars : ∀ j, 9 ≤ j → j < 73 → f j ≤ (n : Int)
  below : Below B w0 w
theorem PlayAt.le {B : Nat} {w0 w : World} {g h n : Nat} {f : Nat → Int} (P : PlayAt B w0 w g h n f) : B ≤ w.heap.size := Nat.le_trans P.bg (Nat.le_of_lt P.rt.lt)
theorem PlayAt.below' {B : Nat} {w0 w w' : World} {g h n : Nat} {f : Nat → Int} (P : PlayAt B w0 w g h n f) (hb : Below w.heap.size w w') : PlayAt B w0 w' g h n f :=
  ⟨P.rt.below hb P.rt.lt, P.rr.below hb P.rr.lt, P.ne, P.bg, P.bh, P.fine, P.bars, P.below.trans (hb.mono P.le)⟩
theorem PlayAt.step {B : Nat} {w0 w w1 w2 : World} {g h n : Nat} {f f' : Nat → Int} (P : PlayAt B w0 w g h n f) (h1 : Turned w w1 g (cel f') tT) (h2 : Turned w1 w2 h (cel f') tR) (hf : Fine f') (hb : ∀ j, 9 ≤ j → j < 73 → f' j ≤ ((n + 1 : Nat) : Int)) : PlayAt B w0 w2 g h (n + 1) f' :=
  ⟨h2.other h1.rowOf P.ne, h2.rowOf, P.ne, P.bg, P.bh, hf, hb, h2.below (h1.below P.below P.le P.bg) (Nat.le_trans P.le h1.size) P.bh⟩
theorem PlayAt.one {B : Nat} {w0 w : World} {g h n : Nat} {f : Nat → Int} (P : PlayAt B w0 w g h n f) : PlayAt B w0 w g h (n + 1) f :=
  ⟨P.rt, P.rr, P.ne, P.bg, P.bh, P.fine, fun j h1 h2 => by have := P.bars j h1 h2; omega, P.below⟩
theorem PlayAt.reset {B : Nat} {w0 w w1 : World} {g h n : Nat} {f : Nat → Int} (P : PlayAt B w0 w g h n f) (h1 : Turned w w1 g (cel zeroF) tT) : PlayAt B w0 (w1.alloc (.cells (cel zeroF).toArray tR)) g w1.heap.size (n + 1) zeroF :=
  have b1 := h1.below P.below P.le P.bg
  have l1 := Nat.le_trans P.le h1.size
  ⟨h1.rowOf.alloc _, World.row.new _ _ _, Nat.ne_of_lt h1.rowOf.lt, P.bg, l1, fine_zero, fun _ _ _ => by show (0 : Int) ≤ _; omega, b1.alloc l1 _⟩
theorem bars_add {f : Nat → Int} {n : Nat} (hb : ∀ j, 9 ≤ j → j < 73 → f j ≤ (n : Int)) (k x : Int) : ∀ j, 9 ≤ j → j < 73 → addS f k x j ≤ ((n + 1 : Nat) : Int) := by
  intro j h1 h2
  have := hb j h1 h2
  unfold addS
  split
  · rw [put_ne _ _ _ _ (by omega)]; omega
  · omega
theorem bars_note {f : Nat → Int} {n : Nat} (hb : ∀ j, 9 ≤ j → j < 73 → f j ≤ (n : Int)) (s : Int) : ∀ j, 9 ≤ j → j < 73 → noteS f s j ≤ ((n + 1 : Nat) : Int) := by
  intro j h1 h2
  have := hb j h1 h2
  unfold noteS
  rw [put_ne _ _ _ _ (by omega)]
  by_cases e : j = 9 + bl s
  · rw [e, put_at]; rw [e] at this; unfold upS; omega
  · rw [put_ne _ _ _ _ e]; omega
theorem tmod5 (d : Int) : d.tmod 5 = 2 ∨ d.tmod 5 = -2 ∨ d.tmod 5 = 3 ∨ d.tmod 5 = -3 ∨ d.tmod 5 = 4 ∨ d.tmod 5 = -4 ∨ d.tmod 5 = 0 ∨ d.tmod 5 = 1 ∨ d.tmod 5 = -1 := by
  by_cases h : 0 ≤ d
  · rw [Int.tmod_eq_emod_of_nonneg h]; omega
  · have e : d = -(-d) := by omega
    rw [e, Int.neg_tmod, Int.tmod_eq_emod_of_nonneg (by omega)]; omega
set_option maxHeartbeats 4000000 in
theorem plays_walk (a : Option Addr) (len cap : Nat) (l : List (Int × Int × Int × Int)) (w : World) (hN : Nam w) (hl : l.length = len) (hcap : len ≤ cap) (hin : ∀ x ∈ l, In4 x) (hna : a = none → len = 0 ∧ cap = 0)
    (hc : l = [] ∨ ∃ b o, a = some ⟨b, o, none⟩ ∧ ∀ i x, l[i]? = some x → ∀ j u, (int4 x)[j]? = some u → w.cell? ⟨b, o + i * 4 + j, none⟩ = some u) :
    Calls Tryd.prog 5 #[.slice a len cap] w fun e w' => e = .returned (.bool true) ∧ Below w.heap.size w w' := by
  have hlt := hN.lt
  have HN := Lib.hid hN
  have HC := Lib.hid hc
  have HNA := Lib.hid hna
  have HIN := Lib.hid hin
  clear hN hc hna hin
  have hz := fun w => run_zeroValue (P := Tryd.prog) (T := tR) (v := .agg (cel zeroF).toArray) (by kernel_rfl) w
  go_enter Tryd.func5, Tryd.ntmps5
  obtain ⟨n, hn⟩ : ∃ n, n = min len 60 := ⟨_, rfl⟩
  have hm1 : min (len : Int) 60 = (n : Int) := by omega
  have hm2 : max (n : Int) 0 = (n : Int) := by omega
  have hn60 : n ≤ 60 := by omega
  have hnl : n ≤ len := by omega
  clear hn
  go_wp2_with fail
  refine (New_any w).mono ?_
  rintro e w0 ⟨rfl, hw0⟩
  have r0 : w0.row w.heap.size (cel zeroF) tT := by rw [hw0]; exact World.row.new _ _ _
  have B0 : Below w.heap.size w w0 := by rw [hw0]; exact (by repeat' (first | (with_reducible exact Below.refl _ _) | (with_reducible assumption) | (with_reducible refine Below.setCell ?_ ?_ _) | (with_reducible refine Below.ext ?_ _ ?_) | (with_reducible refine Below.alloc ?_ ?_ _) | (with_reducible refine Below.drew ?_) | (with_reducible refine Below.drewN ?_ _) | (with_reducible exact Nat.le_refl _) | (dsimp only; omega) | (simp <;> omega)))
  have s0 : w.heap.size < w0.heap.size := by rw [hw0]; simp
  clear hw0
  obtain ⟨g, hg⟩ : ∃ g, g = w.heap.size := ⟨_, rfl⟩
  rw [← hg] at r0 s0 ⊢
  have hg1 : w.heap.size ≤ g := by omega
  clear hg
  go_wp2_with (refine wpList_box_row rfl _ _ rfl (cel zeroF) (by simp) ?_)
  have r1 := r0.alloc (.cells (cel zeroF).toArray tR)
  have q1 := World.row.new w0 (cel zeroF) tR
  have B1 : Below w.heap.size w (w0.alloc (.cells (cel zeroF).toArray tR)) := B0.alloc B0.size _
  refine Calls.pure_to (wakes_any _ (HN.out.below B1 hlt)) ?_
  intro w2 hb2
  have r2 := r1.below hb2 r1.lt
  have q2 := q1.below hb2 q1.lt
  have B2 := B1.trans (hb2.mono B1.size)
  have hsz := B0.size
  clear r0 B0 r1 B1 hb2 q1
  obtain ⟨h, hh⟩ : ∃ h, h = w0.heap.size := ⟨_, rfl⟩
  rw [← hh] at q2 hsz s0 ⊢
  clear hh
  have P2 : PlayAt w.heap.size w w2 g h 0 zeroF := ⟨r2, q2, by omega, hg1, hsz, fine_zero, fun j _ _ => Int.le_refl _, B2⟩
  clear r2 q2 B2 s0 hsz
  go_wp2_with fail
  go_loopw [4, 18] (fun y x wr => ∃ (i : Nat) (h : Nat) (f : Nat → Int), i ≤ n ∧ y = pt h ∧ x = .int .i64 i ∧ PlayAt w.heap.size w wr g h i f) (fun _ x _ => n - (intOf x).toNat)
  case atStart => exact ⟨0, h, zeroF, by omega, rfl, rfl, P2⟩
  case round =>
    clear P2
    obtain ⟨i, h', f, hi, rfl, rfl, P⟩ := hrel
    by_cases hlt2 : i < n
    · have hne : l ≠ [] := by intro e; rw [e] at hl; simp at hl; omega
      obtain ⟨b, o, rfl, hcell⟩ := HC.out.resolve_left hne
      obtain ⟨y, hy⟩ : ∃ y, l[i]? = some y := ⟨l[i]'(by omega), by rw [List.getElem?_eq_getElem (by omega)]⟩
      have hy4 := HIN.out y (List.mem_of_getElem? hy)
      have k0 := hcell i y hy 0 _ rfl
      have k1 := hcell i y hy 1 _ rfl
      have k2 := hcell i y hy 2 _ rfl
      have k3 := hcell i y hy 3 _ rfl
      have hbl := block_lt_of_cell k0
      have j0 := (P.below.cell (p := ⟨b, o + i * 4 + 0, none⟩) hbl).trans k0
      have j1 := (P.below.cell (p := ⟨b, o + i * 4 + 1, none⟩) hbl).trans k1
      have j2 := (P.below.cell (p := ⟨b, o + i * 4 + 2, none⟩) hbl).trans k2
      have j3 := (P.below.cell (p := ⟨b, o + i * 4 + 3, none⟩) hbl).trans k3
      rw [Nat.add_zero] at j0
      clear k0 k1 k2 k3 hcell hy hne
      obtain ⟨dd, kk, ss, nn⟩ := y
      obtain ⟨hd, hk, hs, hnn⟩ := hy4
      have P1 := P.below' (w' := wr.alloc (.cells #[.int .i64 dd, .int .i64 kk, .int .i64 ss, .int .i64 nn] 44)) (by repeat' (first | (with_reducible exact Below.refl _ _) | (with_reducible assumption) | (with_reducible refine Below.setCell ?_ ?_ _) | (with_reducible refine Below.ext ?_ _ ?_) | (with_reducible refine Below.alloc ?_ ?_ _) | (with_reducible refine Below.drew ?_) | (with_reducible refine Below.drewN ?_ _) | (with_reducible exact Nat.le_refl _) | (dsimp only; omega) | (simp <;> omega)))
      have ar := World.row.new wr [.int .i64 dd, .int .i64 kk, .int .i64 ss, .int .i64 nn] 44
      have n1 : wr.heap.size ≠ g := by have := P.rt.lt; omega
      have n2 : wr.heap.size ≠ h' := by have := P.rr.lt; omega
      have HP := Lib.hid P
      clear P
      rcases tmod5 dd with hm | hm | hm | hm | hm | hm | hm | hm | hm
      iterate 4
        · go_wp2_with fail
          refine Calls.turn_to (Note_any g ss f _ P1.rt P1.fine hs.2) ?_
          intro w1 h1
          have ar1 := h1.other ar n1
          obtain ⟨x0, x1, x2, x3, xz⟩ := ar1.four
          go_wp2_with fail
          refine Calls.turn_to (refNote_any h' ss f _ (h1.other P1.rr P1.ne.symm) P1.fine hs.2 (by have h3 := P1.bars (9 + bl ss) (by omega) (by have := bl_lt ss hs.2; omega); omega)) ?_
          intro w2 h2
          have P2 := P1.step h1 h2 (P1.fine.note ss hs.2) (bars_note P1.bars ss)
          clear h1 h2 ar ar1 x0 x1 x2 x3 xz P1
          go_wp2_with fail
          refine Calls.pure_to (same_any g h' _ _ P2.rt P2.rr) ?_
          intro w3 hb3
          have P3 := P2.below' hb3
          clear P2 hb3
          go_wp2_with fail
          go_roundw
          case rel => exact ⟨i + 1, h', _, by omega, rfl, by go_num, P3⟩
          case measure => simp [intOf] <;> omega
      iterate 2
        · by_cases h77 : ss = 77
          · have e77 : (ss == 77) = true := by rw [h77]; rfl
            clear h77
            go_wp2_with fail
            refine Calls.turn_to (Reset_any g f _ P1.rt) ?_
            intro w1 h1
            have P2 := P1.reset h1
            go_wp2_with (refine wpList_box_row rfl _ _ rfl (cel zeroF) (by simp) ?_)
            refine Calls.pure_to (same_any g _ _ _ P2.rt P2.rr) ?_
            intro w3 hb3
            have P3 := P2.below' hb3
            clear P2 hb3 P1 h1 ar
            go_wp2_with fail
            go_roundw
            case rel => exact ⟨i + 1, _, _, by omega, rfl, by go_num, P3⟩
            case measure => simp [intOf] <;> omega
          · have e77 : (ss == 77) = false := beq_eq_false_iff_ne.2 h77
            clear h77
            have P2 := P1.one
            go_wp2_with fail
            refine Calls.pure_to (same_any g h' _ _ P2.rt P2.rr) ?_
            intro w3 hb3
            have P3 := P2.below' hb3
            clear P2 hb3 P1 ar
            go_wp2_with fail
            go_roundw
            case rel => exact ⟨i + 1, h', _, by omega, rfl, by go_num, P3⟩
            case measure => simp [intOf] <;> omega
      iterate 3
        · go_wp2_with fail
          refine Calls.turn_to (Add_any g kk nn f _ P1.rt P1.fine hnn.2) ?_
          intro w1 h1
          have ar1 := h1.other ar n1
          obtain ⟨x0, x1, x2, x3, xz⟩ := ar1.four
          go_wp2_with fail
          refine Calls.turn_to (refAdd_any h' kk nn f _ (h1.other P1.rr P1.ne.symm) P1.fine hnn.2) ?_
          intro w2 h2
          have P2 := P1.step h1 h2 (P1.fine.add kk nn) (bars_add P1.bars kk nn)
          clear h1 h2 ar ar1 x0 x1 x2 x3 xz P1
          go_wp2_with fail
          refine Calls.pure_to (same_any g h' _ _ P2.rt P2.rr) ?_
          intro w3 hb3
          have P3 := P2.below' hb3
          clear P2 hb3
          go_wp2_with fail
          go_roundw
          case rel => exact ⟨i + 1, h', _, by omega, rfl, by go_num, P3⟩
          case measure => simp [intOf] <;> omega
    · go_wp2_with fail
      go_returns
      exact ⟨rfl, P.below⟩
end Go.Proofs.YtnndoajflimkmaaDoor
