/- TallySums: its walk. -/
import Derived.Test.YtnndoajflimkmaaDoorTSetB
import Derived.Test.YtnndoajflimkmaaDoorTWakes
import Derived.Deep.RegionWith
namespace Go.Proofs.YtnndoajflimkmaaDoor
open Go Go.RowKit
set_option maxRecDepth 100000
/-- What holds between two rounds. -/
structure SumAt (B : Nat) (w0 w : World) (g h : Nat) (f e : Nat → Int) : Prop where
  rt : w.row g (cel f) tT
  ru : w.row h (cel e) tT
  ne : g ≠ h
  bg : B ≤ g
  bh : B ≤ h
  ff : Fine f
  fe : Fine e
  below : Below B w0 w
theorem SumAt.le {B : Nat} {w0 w : World} {g h : Nat} {f e : Nat → Int} (P : SumAt B w0 w g h f e) : B ≤ w.heap.size := Nat.le_trans P.bg (Nat.le_of_lt P.rt.lt)
theorem SumAt.below' {B : Nat} {w0 w w' : World} {g h : Nat} {f e : Nat → Int} (P : SumAt B w0 w g h f e) (hb : Below w.heap.size w w') : SumAt B w0 w' g h f e :=
  ⟨P.rt.below hb P.rt.lt, P.ru.below hb P.ru.lt, P.ne, P.bg, P.bh, P.ff, P.fe, P.below.trans (hb.mono P.le)⟩
theorem SumAt.left {B : Nat} {w0 w w' : World} {g h : Nat} {f e f' : Nat → Int} (P : SumAt B w0 w g h f e) (h1 : Turned w w' g (cel f') tT) (hf : Fine f') : SumAt B w0 w' g h f' e :=
  ⟨h1.rowOf, h1.other P.ru P.ne.symm, P.ne, P.bg, P.bh, hf, P.fe, h1.below P.below P.le P.bg⟩
theorem SumAt.right {B : Nat} {w0 w w' : World} {g h : Nat} {f e e' : Nat → Int} (P : SumAt B w0 w g h f e) (h1 : Turned w w' h (cel e') tT) (hf : Fine e') : SumAt B w0 w' g h f e' :=
  ⟨h1.other P.rt P.ne, h1.rowOf, P.ne, P.bg, P.bh, P.ff, hf, h1.below P.below P.le P.bh⟩
set_option maxHeartbeats 4000000 in
theorem sums_walk (a : Option Addr) (len cap : Nat) (l : List Act4) (w : World) (hN : Nam w) (hl : l.length = len) (hcap : len ≤ cap) (hin : ∀ x ∈ l, In4 x) (hna : a = none → len = 0 ∧ cap = 0)
    (hc : l = [] ∨ ∃ b o, a = some ⟨b, o, none⟩ ∧ ∀ i x, l[i]? = some x → ∀ j u, (int4 x)[j]? = some u → w.cell? ⟨b, o + i * 4 + j, none⟩ = some u) :
    Calls Tryd.prog 4 #[.slice a len cap] w fun e w' => e = .returned (.bool true) ∧ Below w.heap.size w w' := by
  have hlt := hN.lt
  have HN := Lib.hid hN
  have HC := Lib.hid hc
  have HNA := Lib.hid hna
  have HIN := Lib.hid hin
  clear hN hc hna hin
  go_enter Tryd.func4, Tryd.ntmps4
  obtain ⟨n, hn⟩ : ∃ n, n = min len 60 := ⟨_, rfl⟩
  have hm1 : min (len : Int) 60 = (n : Int) := by omega
  have hm2 : max (n : Int) 0 = (n : Int) := by omega
  have hn60 : n ≤ 60 := by omega
  have hnl : n ≤ len := by omega
  clear hn
  go_wp2_with fail
  refine (New_any w).mono ?_
  rintro e w0 ⟨rfl, hw0⟩
  have r0 : w0.row w.heap.size (cel zeroF) tT := by rw [hw0]; exact World.row.new _ _ _
  have B0 : Below w.heap.size w w0 := by rw [hw0]; exact (by repeat' (first | (with_reducible exact Below.refl _ _) | (with_reducible assumption) | (with_reducible refine Below.setCell ?_ ?_ _) | (with_reducible refine Below.ext ?_ _ ?_) | (with_reducible refine Below.alloc ?_ ?_ _) | (with_reducible refine Below.drew ?_) | (with_reducible refine Below.drewN ?_ _) | (with_reducible exact Nat.le_refl _) | (dsimp only; omega) | (simp <;> omega)))
  have s0 : w.heap.size < w0.heap.size := by rw [hw0]; simp
  clear hw0
  obtain ⟨g, hg⟩ : ∃ g, g = w.heap.size := ⟨_, rfl⟩
  rw [← hg] at r0 s0 ⊢
  have hg1 : w.heap.size ≤ g := by omega
  clear hg
  go_wp2_with fail
  refine (New_any w0).mono ?_
  rintro e w2 ⟨rfl, hw2⟩
  have r2 : w2.row g (cel zeroF) tT := by rw [hw2]; exact r0.alloc _
  have q2 : w2.row w0.heap.size (cel zeroF) tT := by rw [hw2]; exact World.row.new _ _ _
  have B2 : Below w.heap.size w w2 := by rw [hw2]; exact B0.alloc B0.size _
  have hsz := B0.size
  clear hw2 r0 B0
  obtain ⟨h, hh⟩ : ∃ h, h = w0.heap.size := ⟨_, rfl⟩
  rw [← hh] at q2 hsz s0 ⊢
  clear hh
  have P2 : SumAt w.heap.size w w2 g h zeroF zeroF := ⟨r2, q2, by omega, hg1, hsz, fine_zero, fine_zero, B2⟩
  clear r2 q2 B2 s0 hsz
  go_wp2_with fail
  go_loopw [5, 24] (fun c x wr => ∃ (i : Nat), i ≤ n ∧ c = .int .i64 (oc ((l.take n).take i) : Nat) ∧ x = .int .i64 i ∧ SumAt w.heap.size w wr g h (((l.take n).take i).foldl actS zeroF) (((l.take n).reverse.take i).foldl actS zeroF)) (fun _ x _ => n - (intOf x).toNat)
  case atStart => exact ⟨0, by omega, rfl, rfl, P2⟩
  case round =>
    clear P2
    obtain ⟨i, hi, rfl, rfl, P⟩ := hrel
    by_cases hlt2 : i < n
    · have hne : l ≠ [] := by intro e; rw [e] at hl; simp at hl; omega
      obtain ⟨b, o, rfl, hcell⟩ := HC.out.resolve_left hne
      obtain ⟨r, hr⟩ : ∃ r, r = n - 1 - i := ⟨_, rfl⟩
      have er : (n : Int) - 1 - (i : Int) = (r : Int) := by omega
      have hrn : r < n := by omega
      obtain ⟨y, hy⟩ : ∃ y, l[i]? = some y := ⟨l[i]'(by omega), by rw [List.getElem?_eq_getElem (by omega)]⟩
      obtain ⟨z, hz⟩ : ∃ z, l[r]? = some z := ⟨l[r]'(by omega), by rw [List.getElem?_eq_getElem (by omega)]⟩
      have hy4 := HIN.out y (List.mem_of_getElem? hy)
      have hz4 := HIN.out z (List.mem_of_getElem? hz)
      have tk1 : (l.take n).take (i + 1) = (l.take n).take i ++ [y] := by rw [List.take_add_one, List.getElem?_take_of_lt hlt2, hy]; rfl
      have tk2 : (l.take n).reverse.take (i + 1) = (l.take n).reverse.take i ++ [z] := by
        rw [List.take_add_one, List.getElem?_reverse (by rw [List.length_take]; omega), List.length_take, show min n l.length - 1 - i = r by omega, List.getElem?_take_of_lt hrn, hz]; rfl
      have HT := Lib.hid (And.intro tk1 tk2)
      clear hr tk1 tk2
      have bcell := fun (p : Addr) v (hp : w.cell? p = some v) => (P.below.cell (p := p) (block_lt_of_cell hp)).trans hp
      have j0 := bcell _ _ (hcell i y hy 0 _ rfl)
      have j1 := bcell _ _ (hcell i y hy 1 _ rfl)
      have j2 := bcell _ _ (hcell i y hy 2 _ rfl)
      have j3 := bcell _ _ (hcell i y hy 3 _ rfl)
      rw [Nat.add_zero] at j0
      have hbB : b < w.heap.size := block_lt_of_cell (hcell i y hy 0 _ rfl)
      have hbw : b < wr.heap.size := block_lt_of_cell j1
      have HZ := Lib.hid (And.intro (hcell r z hz 0 _ rfl) (And.intro (hcell r z hz 1 _ rfl) (And.intro (hcell r z hz 2 _ rfl) (hcell r z hz 3 _ rfl))))
      clear hcell hy hz hne bcell
      obtain ⟨f, hf⟩ : ∃ f, f = ((l.take n).take i).foldl actS zeroF := ⟨_, rfl⟩
      obtain ⟨e, he⟩ : ∃ e, e = ((l.take n).reverse.take i).foldl actS zeroF := ⟨_, rfl⟩
      obtain ⟨c, hcn⟩ : ∃ c, c = oc ((l.take n).take i) := ⟨_, rfl⟩
      have hc60 : c ≤ 60 := by rw [hcn]; exact Nat.le_trans (oc_le _) (by simp; omega)
      rw [← hf, ← he] at P
      rw [← hcn]
      have HF := Lib.hid (And.intro hf (And.intro he hcn))
      clear hf he hcn
      obtain ⟨dd, kk, ss, nn⟩ := y
      obtain ⟨zd, zk, zs, zn⟩ := z
      have hfa := P.ff.act _ hy4
      have hea := P.fe.act _ hz4
      have P1 := P.below' (w' := ((wr.alloc (.cells #[pt g, pt h] 25)).alloc (.cells #[.int .i64 i, .int .i64 r] 3)).alloc (.cells #[.int .i64 dd, .int .i64 kk, .int .i64 ss, .int .i64 nn] 44)) (by repeat' (first | (with_reducible exact Below.refl _ _) | (with_reducible assumption) | (with_reducible refine Below.setCell ?_ ?_ _) | (with_reducible refine Below.ext ?_ _ ?_) | (with_reducible refine Below.alloc ?_ ?_ _) | (with_reducible refine Below.drew ?_) | (with_reducible refine Below.drewN ?_ _) | (with_reducible exact Nat.le_refl _) | (dsimp only; omega) | (simp <;> omega)))
      have R1 := ((World.row.new wr [pt g, pt h] 25).alloc (.cells #[.int .i64 i, .int .i64 r] 3)).alloc (.cells #[.int .i64 dd, .int .i64 kk, .int .i64 ss, .int .i64 nn] 44)
      have xg : wr.heap.size ≠ g := by have := P.rt.lt; omega
      have xh : wr.heap.size ≠ h := by have := P.ru.lt; omega
      clear P
      obtain ⟨hd, hk, hs, hnn⟩ := hy4
      obtain ⟨hzd, hzk, hzs, hznn⟩ := hz4
      have HA : Hid (actS f (dd, kk, ss, nn) = if ev dd then addS f kk nn else noteS f ss) := Lib.hid rfl
      have HE : Hid (actS e (zd, zk, zs, zn) = if ev zd then addS e zk zn else noteS e zs) := Lib.hid rfl
      cases hev : ev dd
      case' true =>
        have e0 : (bits .and .i64 dd 1 == 0) = true := hev
        rw [hev, if_pos rfl] at HA
        go_wp2_with fail
        refine wp_loop_rounds 3 ?_
        rw [rounds_succ]
        go_wp2_with fail
        refine Calls.turn_to (Add_any g kk nn f _ P1.rt P1.ff hnn.2) ?_
        intro w1 h1
        rw [← HA.out] at h1
        have P2 := P1.left h1 hfa
        have R2 := h1.other R1 xg
        have z0 := (P2.below.cell (p := ⟨b, o + r * 4 + 0, none⟩) hbB).trans HZ.out.1
        have z1 := (P2.below.cell (p := ⟨b, o + r * 4 + 1, none⟩) hbB).trans HZ.out.2.1
        have z2 := (P2.below.cell (p := ⟨b, o + r * 4 + 2, none⟩) hbB).trans HZ.out.2.2.1
        have z3 := (P2.below.cell (p := ⟨b, o + r * 4 + 3, none⟩) hbB).trans HZ.out.2.2.2
        rw [Nat.add_zero] at z0
        have hbw1 : b < w1.heap.size := block_lt_of_cell z1
        clear h1 P1 R1 e0 j0 j1 j2 j3 hbw
        go_wp2_with fail
      case' false =>
        have e0 : (bits .and .i64 dd 1 == 0) = false := hev
        rw [hev, if_neg (by decide)] at HA
        go_wp2_with fail
        refine wp_loop_rounds 3 ?_
        rw [rounds_succ]
        go_wp2_with fail
        refine Calls.turn_to (Note_any g ss f _ P1.rt P1.ff hs.2) ?_
        intro w1 h1
        rw [← HA.out] at h1
        have P2 := P1.left h1 hfa
        have R2 := h1.other R1 xg
        have z0 := (P2.below.cell (p := ⟨b, o + r * 4 + 0, none⟩) hbB).trans HZ.out.1
        have z1 := (P2.below.cell (p := ⟨b, o + r * 4 + 1, none⟩) hbB).trans HZ.out.2.1
        have z2 := (P2.below.cell (p := ⟨b, o + r * 4 + 2, none⟩) hbB).trans HZ.out.2.2.1
        have z3 := (P2.below.cell (p := ⟨b, o + r * 4 + 3, none⟩) hbB).trans HZ.out.2.2.2
        rw [Nat.add_zero] at z0
        have hbw1 : b < w1.heap.size := block_lt_of_cell z1
        clear h1 P1 R1 e0 j0 j1 j2 j3 hbw
        go_wp2_with fail
      all_goals (
        rw [rounds_succ]
        obtain ⟨p0, p1, pz⟩ := R2.two
        have xw : wr.heap.size < w1.heap.size := R2.lt
        have P3 := P2.below' (w' := (w1.alloc (.cells #[.int .i64 i, .int .i64 r] 3)).alloc (.cells #[.int .i64 zd, .int .i64 zk, .int .i64 zs, .int .i64 zn] 44)) (by repeat' (first | (with_reducible exact Below.refl _ _) | (with_reducible assumption) | (with_reducible refine Below.setCell ?_ ?_ _) | (with_reducible refine Below.ext ?_ _ ?_) | (with_reducible refine Below.alloc ?_ ?_ _) | (with_reducible refine Below.drew ?_) | (with_reducible refine Below.drewN ?_ _) | (with_reducible exact Nat.le_refl _) | (dsimp only; omega) | (simp <;> omega)))
        clear P2
        cases hez : ev zd
        case' true =>
          have e0 : (bits .and .i64 zd 1 == 0) = true := hez
          rw [hez, if_pos rfl] at HE
          go_wp2_with fail
          refine Calls.turn_to (Add_any h zk zn e _ P3.ru P3.fe hznn.2) ?_
          intro w2 h2
          rw [← HE.out] at h2
          have P4 := P3.right h2 hea
          clear h2 P3 e0 R2 p0 p1 pz z0 z1 z2 z3
          go_wp2_with fail
          rw [rounds_succ]
          go_wp2_with fail
        case' false =>
          have e0 : (bits .and .i64 zd 1 == 0) = false := hez
          rw [hez, if_neg (by decide)] at HE
          go_wp2_with fail
          refine Calls.turn_to (Note_any h zs e _ P3.ru P3.fe hzs.2) ?_
          intro w2 h2
          rw [← HE.out] at h2
          have P4 := P3.right h2 hea
          clear h2 P3 e0 R2 p0 p1 pz z0 z1 z2 z3
          go_wp2_with fail
          rw [rounds_succ]
          go_wp2_with fail
        all_goals (
          go_roundw
          case rel =>
            refine ⟨i + 1, by omega, ?_, by go_num, ?_⟩
            · rw [HT.out.1, oc_snoc, ← HF.out.2.2]
              show _ = Value.int .i64 ((c + (if ev dd then 0 else 1) : Nat) : Int)
              rw [hev]
              first | rfl | go_num
            · rw [HT.out.1, HT.out.2, List.foldl_append, List.foldl_append, ← HF.out.1, ← HF.out.2.1]
              exact P4
          case measure => simp [intOf] <;> omega))
    · have hL1 : (l.take n).take i = l.take n := List.take_of_length_le (by rw [List.length_take]; omega)
      have hL2 : (l.take n).reverse.take i = (l.take n).reverse := List.take_of_length_le (by rw [List.length_reverse, List.length_take]; omega)
      have hinL : ∀ x ∈ l.take n, In4 x := fun x hx => HIN.out x (List.mem_of_mem_take hx)
      rw [hL1, hL2, fold_rev _ hinL] at P
      rw [hL1]
      have htot := tot_fold (l.take n) zeroF 0 hinL (fun j _ _ => Int.le_refl _) (by rw [List.length_take]; omega)
      rw [show tot zeroF 64 = 0 from by kernel_rfl, Int.zero_add] at htot
      have hc60 : oc (l.take n) ≤ 60 := Nat.le_trans (oc_le _) (by rw [List.length_take]; omega)
      obtain ⟨f, hf⟩ : ∃ f, f = (l.take n).foldl actS zeroF := ⟨_, rfl⟩
      obtain ⟨c, hcn⟩ : ∃ c, c = oc (l.take n) := ⟨_, rfl⟩
      rw [← hf] at P htot
      rw [← hcn] at htot hc60 ⊢
      clear hL1 hL2 hinL hf hcn
      go_wp2_with fail
      refine (Bars_any g f _ P.rt).mono ?_
      rintro e w3 ⟨⟨v1, rfl, hv1⟩, hb3⟩
      have P3 := P.below' hb3
      clear P hb3
      go_wp2_with fail
      refine (Bars_any h f _ P3.ru).mono ?_
      rintro e w4 ⟨⟨v2, rfl, hv2⟩, hb4⟩
      have P4 := P3.below' hb4
      have hv1' := hv1.below hb4 (Nat.le_refl _)
      clear P3 hb4 hv1
      have htl := tot_last f 64
      obtain ⟨m, hm⟩ : ∃ m, m = lastTo f 64 := ⟨_, rfl⟩
      have hmle : m ≤ 64 := by rw [hm]; exact lastTo_le f 64
      rw [← hm] at hv1' hv2 htl
      clear hm
      obtain ⟨a1, c1, e1, hc1⟩ := hv1'
      rw [barsL_len] at e1
      subst e1
      obtain ⟨a2, c2, e2, hc2⟩ := hv2
      rw [barsL_len] at e2
      subst e2
      have HD := Lib.hid (And.intro hc1 hc2)
      have HTOT : Hid (∀ j, j ≤ 64 → 0 ≤ tot f j ∧ tot f j ≤ 60) := Lib.hid fun j hj => ⟨tot_nonneg f P4.ff.lo j, by have := tot_mono f P4.ff.lo j 64 hj; omega⟩
      have HTM : Hid (tot f m = (c : Int)) := Lib.hid (htl.trans htot)
      clear hc1 hc2 htl htot
      go_wp2_with fail
      refine (Most_any g f _ P4.rt).mono ?_
      rintro e w' ⟨rfl, rfl⟩
      go_wp2_with fail
      refine (Most_any h f _ P4.ru).mono ?_
      rintro e w' ⟨rfl, rfl⟩
      have hb73 : (f 73 != f 73) = false := bne_self_eq_false _
      go_upto_region 21 with fail
      clear hb73 hl hcap HNA HC HIN
      go_wp2_with fail
      go_loopw [10, 87] (fun s x wr => ∃ (j : Nat), j ≤ m ∧ s = .int .i64 (tot f j) ∧ x = .int .i64 j ∧ Below w4.heap.size w4 wr) (fun _ x _ => m - (intOf x).toNat)
      case atStart => exact ⟨0, by omega, rfl, rfl, Below.refl _ _⟩
      case round =>
        obtain ⟨j, hj, rfl, rfl, hB⟩ := hrel
        by_cases hlt3 : j < m
        · have ne : barsL f m ≠ [] := by intro e; have := barsL_len f m; rw [e] at this; simp at this; omega
          obtain ⟨b1, o1, rfl, d1⟩ := HD.out.1.resolve_left ne
          obtain ⟨b2, o2, rfl, d2⟩ := HD.out.2.resolve_left ne
          have g1 := d1 j _ (barsL_get f m j hlt3)
          have g2 := d2 j _ (barsL_get f m j hlt3)
          have k1 : wr.cell? ⟨b1, o1 + j, none⟩ = _ := (hB.cell (p := ⟨b1, o1 + j, none⟩) (block_lt_of_cell g1)).trans g1
          have k2 : wr.cell? ⟨b2, o2 + j, none⟩ = _ := (hB.cell (p := ⟨b2, o2 + j, none⟩) (block_lt_of_cell g2)).trans g2
          have t1 := HTOT.out j (by omega)
          have t2 := HTOT.out (j + 1) (by omega)
          rw [tot] at t2
          have hsum : Hid (tot f (j + 1) = tot f j + f (9 + j)) := Lib.hid rfl
          clear g1 g2 d1 d2 ne
          go_wp2_with fail
          go_quiet (fail)
          go_wp2_with fail
          go_roundw
          case rel => exact ⟨j + 1, by omega, by rw [hsum.out], by go_num, hB.drewN _⟩
          case measure => simp [intOf] <;> omega
        · have ej : j = m := by omega
          have et : tot f j = (c : Int) := by rw [ej]; exact HTM.out
          rw [et]
          clear et ej
          have P5 := P4.below' hB
          clear hB P4
          go_wp2_with fail
          obtain ⟨w5, hw5⟩ : ∃ w5, w5 = wr := ⟨_, rfl⟩
          subst hw5
          go_loopw [106] (fun x wr => ∃ (k : Nat), k ≤ 9 ∧ x = .int .i64 k ∧ w5 = wr) (fun x _ => 9 - (intOf x).toNat)
          case atStart => exact ⟨0, by omega, rfl, rfl⟩
          case round =>
            obtain ⟨k, hk, rfl, rfl⟩ := hrel
            by_cases hlt4 : k < 9
            · have g1 := Get_any g k f w5 P5.rt
              have g2 := Get_any h k f w5 P5.ru
              rw [if_pos (by omega)] at g1 g2
              go_wp2_with fail
              refine g1.mono ?_
              rintro e w' ⟨rfl, rfl⟩
              go_wp2_with fail
              refine g2.mono ?_
              rintro e w' ⟨rfl, rfl⟩
              go_wp2_with fail
              go_roundw
              case rel => exact ⟨k + 1, by omega, by go_num, trivial⟩
              case measure => simp [intOf] <;> omega
            · go_wp2_with fail
              refine Calls.pure_to (wakes_any _ (HN.out.below P5.below hlt)) ?_
              intro w6 hb6
              have B6 := P5.below.trans (hb6.mono P5.le)
              go_wp2_with fail
              go_returns
              exact ⟨rfl, B6⟩
end Go.Proofs.YtnndoajflimkmaaDoor
