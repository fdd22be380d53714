import Derived.Test.YtdgeobofpnbenaaDoorMRefC
namespace Go.Proofs.YtdgeobofpnbenaaDoor
open Go Go.RowKit
set_option maxRecDepth 100000
theorem bools_upto_step (i : Nat) : (bools fun j => decide (j < i)).set i (.bool true) = bools fun j => decide (j < i + 1) := by
  rw [bools_set]
  refine bools_congr fun j _ => ?_
  by_cases e : j = i
  · subst e; simp
  · rw [if_neg e]; exact decide_eq_decide.2 (by omega)
set_option maxHeartbeats 4000000 in
theorem refUpto_any (n : Int) (w : World) : Calls Tryd.prog 17 #[.int .i64 n] w fun e w' => e = .returned (Set4.upto n.toNat).val ∧ Below w.heap.size w w' := by
  go_enter Tryd.func17, Tryd.ntmps17
  go_wp2_with (refine wpList_alloc_row rfl 54 rfl _ infoBools ?_)
  go_loopw [4] (fun x wr => ∃ (i : Nat), i ≤ 256 ∧ ((i : Int) ≤ n ∨ i = 0) ∧ x = .int .i64 i ∧ Below w.heap.size w wr ∧ wr.row w.heap.size Set4.zero.cells 23 ∧ wr.row (w.heap.size + 1) (bools fun j => decide (j < i)) 54) (fun x _ => 256 - (intOf x).toNat)
  case atStart =>
    refine ⟨0, by omega, .inr rfl, rfl, (by repeat' (first | (with_reducible exact Below.refl _ _) | (with_reducible assumption) | (with_reducible refine Below.setCell ?_ ?_ _) | (with_reducible refine Below.ext ?_ _ ?_) | (with_reducible refine Below.alloc ?_ ?_ _) | (with_reducible refine Below.drew ?_) | (with_reducible refine Below.drewN ?_ _) | (with_reducible exact Nat.le_refl _) | (dsimp only; omega) | (simp <;> omega))), (World.row.new' (cs := Set4.zero.cells) rfl).alloc _, ?_⟩
    rw [bools_congr (f := fun j => decide (j < 0)) (g := fun _ => false) (fun j _ => by simp)]
    exact World.row.new' (by simp)
  case round =>
    obtain ⟨i, hi, hin, rfl, hB, r0, r1⟩ := hrel
    have close : ∀ W, Below w.heap.size w W → W.row w.heap.size Set4.zero.cells 23 → True := fun _ _ _ => trivial
    clear close
    by_cases h1 : i < 256
    · have e1 : decide ((i : Int) < 256) = true := by simp; omega
      by_cases h2 : (i : Int) < n
      · have hc := r1.cell i (bools_get _ i h1)
        have hz := r1.free i
        have R := Lib.hid (r1.set i (.bool true))
        go_wp2
        go_roundw
        case rel =>
          refine ⟨i + 1, by omega, .inl (by omega), by go_num, (by repeat' (first | (with_reducible exact Below.refl _ _) | (with_reducible assumption) | (with_reducible refine Below.setCell ?_ ?_ _) | (with_reducible refine Below.ext ?_ _ ?_) | (with_reducible refine Below.alloc ?_ ?_ _) | (with_reducible refine Below.drew ?_) | (with_reducible refine Below.drewN ?_ _) | (with_reducible exact Nat.le_refl _) | (dsimp only; omega) | (simp <;> omega))), r0.other _ _ (by first | (dsimp only; omega) | simp), ?_⟩
          have e := R.out
          rw [bools_upto_step] at e
          exact e
        case measure => simp [intOf] <;> omega
      · have e2 : decide ((i : Int) < n) = false := by simp; omega
        go_wp2_with (refine wpList_load_row rfl 54 _ rfl (w.heap.size + 1) rfl 54 _ (0, 0) _ r1 Tryd.underlying54 rfl (sizeBools' _) ?_)
        refine Calls.pure_to (Words_any (fun j => decide (j < i)) _) ?_
        intro w3 hb3
        have r2 := r0.below hb3 r0.lt
        have hB4 := hB.trans (hb3.mono hB.size)
        obtain ⟨c0, c1, c2, c3, z0⟩ := r2.four
        go_wp2
        have e : Set4.of (fun j => decide (j < i)) = Set4.upto n.toNat := Set4.of_congr fun j _ => decide_eq_decide.2 (by omega)
        refine bodyPost_row rfl rfl ((((r2.set 0 _).set 1 _).set 2 _).set 3 _) Tryd.underlying23 rfl (by kernel_rfl) rfl ⟨?_, (by repeat' (first | (with_reducible exact Below.refl _ _) | (with_reducible assumption) | (with_reducible refine Below.setCell ?_ ?_ _) | (with_reducible refine Below.ext ?_ _ ?_) | (with_reducible refine Below.alloc ?_ ?_ _) | (with_reducible refine Below.drew ?_) | (with_reducible refine Below.drewN ?_ _) | (with_reducible exact Nat.le_refl _) | (dsimp only; omega) | (simp <;> omega)))⟩
        rw [← e]; rfl
    · obtain rfl : i = 256 := by omega
      go_wp2_with (refine wpList_load_row rfl 54 _ rfl (w.heap.size + 1) rfl 54 _ (0, 0) _ r1 Tryd.underlying54 rfl (sizeBools' _) ?_)
      refine Calls.pure_to (Words_any (fun j => decide (j < 256)) _) ?_
      intro w3 hb3
      have r2 := r0.below hb3 r0.lt
      have hB4 := hB.trans (hb3.mono hB.size)
      obtain ⟨c0, c1, c2, c3, z0⟩ := r2.four
      go_wp2
      have e : Set4.of (fun j => decide (j < 256)) = Set4.upto n.toNat := Set4.of_congr fun j _ => decide_eq_decide.2 (by omega)
      refine bodyPost_row rfl rfl ((((r2.set 0 _).set 1 _).set 2 _).set 3 _) Tryd.underlying23 rfl (by kernel_rfl) rfl ⟨?_, (by repeat' (first | (with_reducible exact Below.refl _ _) | (with_reducible assumption) | (with_reducible refine Below.setCell ?_ ?_ _) | (with_reducible refine Below.ext ?_ _ ?_) | (with_reducible refine Below.alloc ?_ ?_ _) | (with_reducible refine Below.drew ?_) | (with_reducible refine Below.drewN ?_ _) | (with_reducible exact Nat.le_refl _) | (dsimp only; omega) | (simp <;> omega)))⟩
      rw [← e]; rfl
/-- With, or without, a number. -/
def change (s : Set4) (i : Int) (b : Bool) : Set4 := Set4.of fun j => if (j : Int) = i then b else s.has j
theorem change_out (s : Set4) (i : Int) (b : Bool) (h : i < 0 ∨ 256 ≤ i) : change s i b = s := (Set4.eq_of fun j hj => by rw [if_neg (by omega)]).symm
theorem change_with (s : Set4) (i : Nat) : change s (i : Int) true = s.with' i := Set4.of_congr fun j _ => by
  by_cases e : j = i
  · subst e; simp
  · rw [if_neg (by omega)]; simp [e]
theorem change_without (s : Set4) (i : Nat) : change s (i : Int) false = s.without i := Set4.of_congr fun j _ => by
  by_cases e : j = i
  · subst e; simp
  · rw [if_neg (by omega)]; simp [e]
theorem With_any (s : Set4) (i : Int) (w : World) : Calls Tryd.prog 20 #[s.val, .int .i64 i] w fun e w' => e = .returned (change s i true).val ∧ Below w.heap.size w w' := by
  by_cases h : i < 0 ∨ 256 ≤ i
  · rw [change_out s i true h]; exact With_no s i w h
  · obtain ⟨k, rfl⟩ : ∃ k : Nat, i = (k : Int) := ⟨i.toNat, by omega⟩
    rw [change_with]; exact With_yes s k w (by omega)
theorem Without_any (s : Set4) (i : Int) (w : World) : Calls Tryd.prog 22 #[s.val, .int .i64 i] w fun e w' => e = .returned (change s i false).val ∧ Below w.heap.size w w' := by
  by_cases h : i < 0 ∨ 256 ≤ i
  · rw [change_out s i false h]; exact Without_no s i w h
  · obtain ⟨k, rfl⟩ : ∃ k : Nat, i = (k : Int) := ⟨i.toNat, by omega⟩
    rw [change_without]; exact Without_yes s k w (by omega)
/-- Is an integer a number of the set? -/
def hasI (s : Set4) (i : Int) : Bool := decide (0 ≤ i) && s.has i.toNat
theorem Has_any (s : Set4) (i : Int) (w : World) : Calls Tryd.prog 18 #[s.val, .int .i64 i] w fun e w' => e = .returned (.bool (hasI s i)) ∧ Below w.heap.size w w' := by
  by_cases h : i < 0 ∨ 256 ≤ i
  · have e : hasI s i = false := by
      unfold hasI
      rcases h with h | h
      · simp; omega
      · rw [Set4.has_ge s (by omega)]; simp
    rw [e]; exact Has_no s i w h
  · obtain ⟨k, rfl⟩ : ∃ k : Nat, i = (k : Int) := ⟨i.toNat, by omega⟩
    have e : hasI s k = s.has k := by unfold hasI; simp
    rw [e]; exact Has_yes s k w (by omega)
theorem refHas_any (s : Set4) (i : Int) (w : World) : Calls Tryd.prog 19 #[s.val, .int .i64 i] w fun e w' => e = .returned (.bool (hasI s i)) ∧ Below w.heap.size w w' := by
  by_cases h : i < 0 ∨ 255 < i
  · have e : hasI s i = false := by
      unfold hasI
      rcases h with h | h
      · simp; omega
      · rw [Set4.has_ge s (by omega)]; simp
    rw [e]; exact refHas_no s i w h
  · obtain ⟨k, rfl⟩ : ∃ k : Nat, i = (k : Int) := ⟨i.toNat, by omega⟩
    have e : hasI s k = s.has k := by unfold hasI; simp
    rw [e]; exact refHas_yes s k w (by omega)
set_option maxHeartbeats 4000000 in
theorem refChange_any (s : Set4) (i : Int) (b : Bool) (w : World) : Calls Tryd.prog 21 #[s.val, .int .i64 i, .bool b] w fun e w' => e = .returned (change s i b).val ∧ Below w.heap.size w w' := by
  go_enter Tryd.func21, Tryd.ntmps21
  go_wp2_with fail
  refine Calls.pure_to (Numbers_any s _) ?_
  intro w1 hb1
  have r1 : w1.row (w.heap.size + 1) Set4.zero.cells 23 := (World.row.new' (cs := Set4.zero.cells) (by simp)).below hb1 (by simp)
  have hB1 : Below w.heap.size w w1 := (((Below.refl _ _).alloc (Nat.le_refl _) _).alloc (by simp) _).trans (hb1.mono (by simp; omega))
  have hs1 := r1.lt
  clear hb1
  have p1 := (r1.alloc (.cells (bools fun _ => false).toArray 54)).setRow_other (g := w1.heap.size) (ds := bools s.has) (by omega)
  have p2 := World.row.setRow (ds := bools s.has) (World.row.new w1 (bools fun _ => false) 54)
  have hB2 := (hB1.alloc (by omega) (.cells (bools fun _ => false).toArray 54)).setRow (show w.heap.size ≤ w1.heap.size by omega) (bools s.has).toArray
  by_cases h : i < 0 ∨ 256 ≤ i
  · have E := Lib.hid ((change_out s i b h).trans (Set4.of_has s).symm)
    have fin : ∀ (W w3 : World), Below W.heap.size W w3 → True := fun _ _ _ => trivial
    clear fin
    rcases h with h | h
    · have e1 : decide (0 ≤ i) = false := by simp; omega
      go_wp2_with (first | (refine wpList_alloc_row rfl 54 rfl _ infoBools ?_) | (refine wpList_store_row rfl 54 _ _ rfl w1.heap.size (bools s.has).toArray rfl rfl 54 _ (World.row.new w1 _ _) (sizeBools' _) (by simp [bools_len]) (bools_one _) ?_) | (refine wpList_load_row rfl 54 _ rfl w1.heap.size rfl 54 _ (0, 0) _ p2 Tryd.underlying54 rfl (sizeBools' _) ?_))
      refine Calls.pure_to (Words_any s.has _) ?_
      intro w3 hb3
      have r2 := p1.below hb3 p1.lt
      have hB4 := hB2.trans (hb3.mono hB2.size)
      obtain ⟨c0, c1, c2, c3, z0⟩ := r2.four
      go_wp2
      refine bodyPost_row rfl rfl ((((r2.set 0 _).set 1 _).set 2 _).set 3 _) Tryd.underlying23 rfl (by kernel_rfl) rfl ⟨?_, (by repeat' (first | (with_reducible exact Below.refl _ _) | (with_reducible assumption) | (with_reducible refine Below.setCell ?_ ?_ _) | (with_reducible refine Below.ext ?_ _ ?_) | (with_reducible refine Below.alloc ?_ ?_ _) | (with_reducible refine Below.drew ?_) | (with_reducible refine Below.drewN ?_ _) | (with_reducible exact Nat.le_refl _) | (dsimp only; omega) | (simp <;> omega)))⟩
      rw [E.out]; rfl
    · have e1 : decide (0 ≤ i) = true := by simp; omega
      have e2 : decide (i ≤ 255) = false := by simp; omega
      go_wp2_with (first | (refine wpList_alloc_row rfl 54 rfl _ infoBools ?_) | (refine wpList_store_row rfl 54 _ _ rfl w1.heap.size (bools s.has).toArray rfl rfl 54 _ (World.row.new w1 _ _) (sizeBools' _) (by simp [bools_len]) (bools_one _) ?_) | (refine wpList_load_row rfl 54 _ rfl w1.heap.size rfl 54 _ (0, 0) _ p2 Tryd.underlying54 rfl (sizeBools' _) ?_))
      refine Calls.pure_to (Words_any s.has _) ?_
      intro w3 hb3
      have r2 := p1.below hb3 p1.lt
      have hB4 := hB2.trans (hb3.mono hB2.size)
      obtain ⟨c0, c1, c2, c3, z0⟩ := r2.four
      go_wp2
      refine bodyPost_row rfl rfl ((((r2.set 0 _).set 1 _).set 2 _).set 3 _) Tryd.underlying23 rfl (by kernel_rfl) rfl ⟨?_, (by repeat' (first | (with_reducible exact Below.refl _ _) | (with_reducible assumption) | (with_reducible refine Below.setCell ?_ ?_ _) | (with_reducible refine Below.ext ?_ _ ?_) | (with_reducible refine Below.alloc ?_ ?_ _) | (with_reducible refine Below.drew ?_) | (with_reducible refine Below.drewN ?_ _) | (with_reducible exact Nat.le_refl _) | (dsimp only; omega) | (simp <;> omega)))⟩
      rw [E.out]; rfl
  · obtain ⟨k, rfl⟩ : ∃ k : Nat, i = (k : Int) := ⟨i.toNat, by omega⟩
    have hk : k < 256 := by omega
    have e1 : decide (0 ≤ (k : Int)) = true := by simp
    have e2 : decide ((k : Int) ≤ 255) = true := by simp; omega
    have hc := p2.cell k (bools_get _ k hk)
    have hz := p2.free k
    have p3 := p2.set k (.bool b)
    rw [bools_set] at p3
    have p4 := p1.other ⟨w1.heap.size, k, none⟩ (.bool b) (by first | (dsimp only; omega) | simp)
    have hB3 := hB2.setCell (p := ⟨w1.heap.size, k, none⟩) (show w.heap.size ≤ w1.heap.size by omega) (.bool b)
    have E := Lib.hid (show Set4.of (fun j => if j = k then b else s.has j) = change s (k : Int) b from Set4.of_congr fun j _ => by
      by_cases e : j = k
      · subst e; simp
      · rw [if_neg e, if_neg (by omega)])
    clear p1 hB2 h
    go_wp2_with (first | (refine wpList_alloc_row rfl 54 rfl _ infoBools ?_) | (refine wpList_store_row rfl 54 _ _ rfl w1.heap.size (bools s.has).toArray rfl rfl 54 _ (World.row.new w1 _ _) (sizeBools' _) (by simp [bools_len]) (bools_one _) ?_) | (refine wpList_load_row rfl 54 _ rfl w1.heap.size rfl 54 _ (0, 0) _ p3 Tryd.underlying54 rfl (sizeBools' _) ?_))
    refine Calls.pure_to (Words_any _ _) ?_
    intro w3 hb3
    have r2 := p4.below hb3 p4.lt
    have hB4 := hB3.trans (hb3.mono hB3.size)
    obtain ⟨c0, c1, c2, c3, z0⟩ := r2.four
    go_wp2
    refine bodyPost_row rfl rfl ((((r2.set 0 _).set 1 _).set 2 _).set 3 _) Tryd.underlying23 rfl (by kernel_rfl) rfl ⟨?_, (by repeat' (first | (with_reducible exact Below.refl _ _) | (with_reducible assumption) | (with_reducible refine Below.setCell ?_ ?_ _) | (with_reducible refine Below.ext ?_ _ ?_) | (with_reducible refine Below.alloc ?_ ?_ _) | (with_reducible refine Below.drew ?_) | (with_reducible refine Below.drewN ?_ _) | (with_reducible exact Nat.le_refl _) | (dsimp only; omega) | (simp <;> omega)))⟩
    rw [← E.out]; rfl
end Go.Proofs.YtdgeobofpnbenaaDoor
