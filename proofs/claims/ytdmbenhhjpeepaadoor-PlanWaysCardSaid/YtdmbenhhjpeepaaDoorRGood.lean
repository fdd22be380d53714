/- The document's Good: contract. -/
import Derived.Test.YtdmbenhhjpeepaaDoorPPlain
namespace Go.Proofs.YtdmbenhhjpeepaaDoor
open Go Go.RowKit
set_option maxRecDepth 100000
/-- How many of the first k. -/
def cnt (f : Nat → Bool) (k : Nat) : Nat := (List.range k).countP f
theorem cnt_succ (f : Nat → Bool) (k : Nat) : cnt f (k + 1) = cnt f k + (if f k = true then 1 else 0) := by
  unfold cnt; rw [List.range_succ, List.countP_append]; simp [List.countP_cons]
theorem cnt_le (f : Nat → Bool) (k : Nat) : cnt f k ≤ k := by unfold cnt; exact Nat.le_trans List.countP_le_length (by simp)
theorem RSt.at0 (r : RSt) : r.cs[0]? = some (.int .i64 r.data) := rfl
theorem at_mid {a b c : List Value} {n i : Nat} {v : Value} (ha : a.length = n) (hb : b[i]? = some v) : (a ++ (b ++ c))[n + i]? = some v := by
  have hl : i < b.length := (List.getElem?_eq_some_iff.1 hb).1
  rw [List.getElem?_append_right (by omega), ha, Nat.add_sub_cancel_left, List.getElem?_append_left hl, hb]
theorem RSt.atD (r : RSt) {k : Nat} (h : k < 32) : r.cs[1 + k]? = some (.bool (r.D k)) := at_mid (a := [.int .i64 r.data]) rfl (blist_get _ h)
theorem RSt.atH (r : RSt) {k : Nat} (h : k < 32) : r.cs[33 + k]? = some (.bool (r.H k)) := by
  have := at_mid (a := [.int .i64 r.data] ++ blist 32 r.D) (c := blist 32 r.K ++ (blist 32 r.L ++ [.bool r.odd])) (n := 33) (by simp [blist_len]) (blist_get r.H h)
  simpa [RSt.cs] using this
theorem RSt.atK (r : RSt) {k : Nat} (h : k < 32) : r.cs[65 + k]? = some (.bool (r.K k)) := by
  have := at_mid (a := [.int .i64 r.data] ++ (blist 32 r.D ++ blist 32 r.H)) (c := blist 32 r.L ++ [.bool r.odd]) (n := 65) (by simp [blist_len]) (blist_get r.K h)
  simpa [RSt.cs] using this
theorem RSt.atL (r : RSt) {k : Nat} (h : k < 32) : r.cs[97 + k]? = some (.bool (r.L k)) := by
  have := at_mid (a := [.int .i64 r.data] ++ (blist 32 r.D ++ (blist 32 r.H ++ blist 32 r.K))) (c := [.bool r.odd]) (n := 97) (by simp [blist_len]) (blist_get r.L h)
  simpa [RSt.cs] using this
def RSt.okAt (r : RSt) (i : Nat) : Bool := !((decide (r.data ≤ (i : Int)) && (r.D i || (r.H i || r.K i))) || ((decide (r.data + 2 ≤ (i : Int)) && r.L i) || (r.D i && !r.H i)))
def RSt.good (r : RSt) : Bool := (decide (2 ≤ r.data) && decide (r.data ≤ 30)) && (!r.odd && ((List.range 32).all r.okAt && (decide (0 < cnt r.D 32) && decide (cnt r.L 32 ≤ 2))))
theorem RSt.bad_at {r : RSt} {k : Nat} (hk : k < 32) (h : r.okAt k = false) : r.good = false := by
  have e : (List.range 32).all r.okAt = false := by
    cases e : (List.range 32).all r.okAt
    · rfl
    · rw [List.all_eq_true.1 e k (List.mem_range.2 hk)] at h; cases h
  unfold RSt.good
  rw [e]
  simp
theorem RSt.good_end {r : RSt} (hd : 2 ≤ r.data ∧ r.data ≤ 30) (ho : r.odd = false) (h : ∀ i, i < 32 → r.okAt i = true) : r.good = (decide (0 < cnt r.D 32) && decide (cnt r.L 32 ≤ 2)) := by
  have e : (List.range 32).all r.okAt = true := List.all_eq_true.2 fun i hi => h i (List.mem_range.1 hi)
  unfold RSt.good
  rw [e, ho]
  simp [hd.1, hd.2]
set_option maxHeartbeats 4000000 in
theorem refGood_any (r : RSt) (w : World) : Calls Tryd.prog 28 #[r.v] w fun e w' => e = .returned (.bool r.good) ∧ Below w.heap.size w w' := by
  by_cases h1 : r.data < 2
  · have hg : r.good = false := by unfold RSt.good; simp; omega
    rw [hg]
    clear hg
    go_enter Tryd.func28, Tryd.ntmps28
    go_upto_region 1 with fail
    refine wp_world (fun w1 => w1.row w.heap.size r.cs tR ∧ Below w.heap.size w w1) ⟨World.row.new' rfl, (by repeat' (first | (with_reducible exact Below.refl _ _) | (with_reducible assumption) | (with_reducible refine Below.setCell ?_ ?_ _) | (with_reducible refine Below.ext ?_ _ ?_) | (with_reducible refine Below.alloc ?_ ?_ _) | (with_reducible refine Below.drew ?_) | (with_reducible refine Below.drewN ?_ _) | (with_reducible exact Nat.le_refl _) | (dsimp only; omega) | (simp <;> omega)))⟩ ?_
    rintro w1 ⟨r1, B1⟩
    have c0 := r1.cell 0 r.at0
    go_wp2_with fail
    go_returns
    exact ⟨rfl, B1⟩
  by_cases h2 : 30 < r.data
  · have hg : r.good = false := by unfold RSt.good; simp; omega
    rw [hg]
    clear hg
    go_enter Tryd.func28, Tryd.ntmps28
    go_upto_region 1 with fail
    refine wp_world (fun w1 => w1.row w.heap.size r.cs tR ∧ Below w.heap.size w w1) ⟨World.row.new' rfl, (by repeat' (first | (with_reducible exact Below.refl _ _) | (with_reducible assumption) | (with_reducible refine Below.setCell ?_ ?_ _) | (with_reducible refine Below.ext ?_ _ ?_) | (with_reducible refine Below.alloc ?_ ?_ _) | (with_reducible refine Below.drew ?_) | (with_reducible refine Below.drewN ?_ _) | (with_reducible exact Nat.le_refl _) | (dsimp only; omega) | (simp <;> omega)))⟩ ?_
    rintro w1 ⟨r1, B1⟩
    have c0 := r1.cell 0 r.at0
    go_wp2_with fail
    go_returns
    exact ⟨rfl, B1⟩
  by_cases h3 : r.odd = true
  · have hg : r.good = false := by unfold RSt.good; rw [h3]; simp
    rw [hg]
    clear hg
    go_enter Tryd.func28, Tryd.ntmps28
    go_upto_region 1 with fail
    refine wp_world (fun w1 => w1.row w.heap.size r.cs tR ∧ Below w.heap.size w w1) ⟨World.row.new' rfl, (by repeat' (first | (with_reducible exact Below.refl _ _) | (with_reducible assumption) | (with_reducible refine Below.setCell ?_ ?_ _) | (with_reducible refine Below.ext ?_ _ ?_) | (with_reducible refine Below.alloc ?_ ?_ _) | (with_reducible refine Below.drew ?_) | (with_reducible refine Below.drewN ?_ _) | (with_reducible exact Nat.le_refl _) | (dsimp only; omega) | (simp <;> omega)))⟩ ?_
    rintro w1 ⟨r1, B1⟩
    have c0 := r1.cell 0 r.at0
    have c9 := r1.cell 129 r.oddAt
    rw [h3] at c9
    go_wp2_with fail
    go_returns
    exact ⟨rfl, B1⟩
  have h3 : r.odd = false := by simpa using h3
  obtain ⟨n, hn⟩ : ∃ n, n = r.data := ⟨_, rfl⟩
  rw [← hn] at h1 h2
  have HN := Lib.hid (And.intro hn h3)
  go_enter Tryd.func28, Tryd.ntmps28
  go_upto_region 1 with fail
  refine wp_world (fun w1 => w1.row w.heap.size r.cs tR ∧ Below w.heap.size w w1) ⟨World.row.new' rfl, (by repeat' (first | (with_reducible exact Below.refl _ _) | (with_reducible assumption) | (with_reducible refine Below.setCell ?_ ?_ _) | (with_reducible refine Below.ext ?_ _ ?_) | (with_reducible refine Below.alloc ?_ ?_ _) | (with_reducible refine Below.drew ?_) | (with_reducible refine Below.drewN ?_ _) | (with_reducible exact Nat.le_refl _) | (dsimp only; omega) | (simp <;> omega)))⟩ ?_
  rintro w1 ⟨r1, B1⟩
  have c0 := r1.cell 0 r.at0
  have c9 := r1.cell 129 r.oddAt
  rw [h3] at c9
  rw [← hn] at c0
  have HS := Lib.hid (And.intro r1 B1)
  clear r1 B1 hn h3
  go_wp2_with fail
  clear c0 c9
  go_loopw [3, 4, 5] (fun d l i wr => ∃ (k : Nat), k ≤ 32 ∧ d = .int .i64 (cnt r.D k) ∧ l = .int .i64 (cnt r.L k) ∧ i = .int .i64 k ∧ (∀ i, i < k → r.okAt i = true) ∧ wr.row w.heap.size r.cs tR ∧ Below w.heap.size w wr) (fun _ _ i _ => 32 - (intOf i).toNat)
  case atStart => exact ⟨0, by omega, rfl, rfl, rfl, fun i hi => absurd hi (Nat.not_lt_zero _), HS.out.1, HS.out.2⟩
  case round =>
    obtain ⟨k, hk, rfl, rfl, rfl, hok, hr, hB⟩ := hrel
    have eD := cnt_succ r.D k
    have eL := cnt_succ r.L k
    have lD := cnt_le r.D k
    have lL := cnt_le r.L k
    have c0 := hr.cell 0 r.at0
    rw [← HN.out.1] at c0
    by_cases hlt : k < 32
    · have cD := hr.cell _ (r.atD hlt)
      have cH := hr.cell _ (r.atH hlt)
      have cK := hr.cell _ (r.atK hlt)
      have cL := hr.cell _ (r.atL hlt)
      obtain ⟨u, hu⟩ : ∃ u, u = r.okAt k := ⟨_, rfl⟩
      have hu2 := hu
      unfold RSt.okAt at hu2
      rw [← HN.out.1] at hu2
      generalize r.D k = bd at *
      generalize r.H k = bh at *
      generalize r.K k = bk at *
      generalize r.L k = bl at *
      generalize cnt r.D k = d at *
      generalize cnt r.L k = l at *
      have HR := Lib.hid (And.intro hr (And.intro hB hok))
      have HE := Lib.hid (And.intro eD eL)
      have HU := Lib.hid (And.intro hu hu2)
      clear hr hB hok eD eL hu hu2
      by_cases e1 : n ≤ (k : Int)
      · have f1 := decide_eq_true e1
        by_cases e2 : n + 2 ≤ (k : Int)
        · have f2 := decide_eq_true e2
          have HF := Lib.hid (And.intro f1 f2)
          clear f1 f2
          cases bd <;> cases bh <;> cases bk <;> cases bl
          all_goals (go_wp2_with fail; first | (go_returns; exact ⟨(by rw [RSt.bad_at hlt (by rw [← HU.out.1, HU.out.2, HF.out.1, HF.out.2] <;> rfl)] <;> rfl), HR.out.2.1⟩) | (go_roundw; (case rel => exact ⟨k + 1, by omega, by rw [HE.out.1]; go_num, by rw [HE.out.2]; go_num, by go_num, (fun i hi => by rcases Nat.lt_succ_iff_lt_or_eq.1 hi with h | rfl; exact HR.out.2.2 i h; (rw [← HU.out.1, HU.out.2, HF.out.1, HF.out.2] <;> rfl)), HR.out.1, HR.out.2.1⟩); (case measure => simp [intOf] <;> omega)))
        · have f2 := decide_eq_false e2
          have HF := Lib.hid (And.intro f1 f2)
          clear f1 f2
          cases bd <;> cases bh <;> cases bk <;> cases bl
          all_goals (go_wp2_with fail; first | (go_returns; exact ⟨(by rw [RSt.bad_at hlt (by rw [← HU.out.1, HU.out.2, HF.out.1, HF.out.2] <;> rfl)] <;> rfl), HR.out.2.1⟩) | (go_roundw; (case rel => exact ⟨k + 1, by omega, by rw [HE.out.1]; go_num, by rw [HE.out.2]; go_num, by go_num, (fun i hi => by rcases Nat.lt_succ_iff_lt_or_eq.1 hi with h | rfl; exact HR.out.2.2 i h; (rw [← HU.out.1, HU.out.2, HF.out.1, HF.out.2] <;> rfl)), HR.out.1, HR.out.2.1⟩); (case measure => simp [intOf] <;> omega)))
      · have f1 := decide_eq_false e1
        have e2 : ¬ n + 2 ≤ (k : Int) := by omega
        have f2 := decide_eq_false e2
        have HF := Lib.hid (And.intro f1 f2)
        clear f1 f2
        cases bd <;> cases bh <;> cases bk <;> cases bl
        all_goals (go_wp2_with fail; first | (go_returns; exact ⟨(by rw [RSt.bad_at hlt (by rw [← HU.out.1, HU.out.2, HF.out.1, HF.out.2] <;> rfl)] <;> rfl), HR.out.2.1⟩) | (go_roundw; (case rel => exact ⟨k + 1, by omega, by rw [HE.out.1]; go_num, by rw [HE.out.2]; go_num, by go_num, (fun i hi => by rcases Nat.lt_succ_iff_lt_or_eq.1 hi with h | rfl; exact HR.out.2.2 i h; (rw [← HU.out.1, HU.out.2, HF.out.1, HF.out.2] <;> rfl)), HR.out.1, HR.out.2.1⟩); (case measure => simp [intOf] <;> omega)))
    · obtain rfl : k = 32 := by omega
      have hge := RSt.good_end (r := r) (by rw [← HN.out.1]; omega) HN.out.2 hok
      have HG := Lib.hid hge
      generalize cnt r.D 32 = d at *
      generalize cnt r.L 32 = l at *
      clear hge hok eD eL
      by_cases e1 : 0 < d
      · by_cases e2 : l ≤ 2
        · have e1I : (0 : Int) < (d : Int) := by omega
          have e2I : (l : Int) ≤ 2 := by omega
          have HF := Lib.hid (And.intro (decide_eq_true e1) (decide_eq_true e2))
          clear e1 e2
          go_wp2_with fail
          go_returns
          exact ⟨(by rw [HG.out, HF.out.1, HF.out.2] <;> rfl), hB⟩
        · have e1I : (0 : Int) < (d : Int) := by omega
          have e2I : ¬ (l : Int) ≤ 2 := by omega
          have HF := Lib.hid (And.intro (decide_eq_true e1) (decide_eq_false e2))
          clear e1 e2
          go_wp2_with fail
          go_returns
          exact ⟨(by rw [HG.out, HF.out.1, HF.out.2] <;> rfl), hB⟩
      · obtain rfl : d = 0 := by omega
        go_wp2_with fail
        go_returns
        exact ⟨(by rw [HG.out] <;> rfl), hB⟩
end Go.Proofs.YtdmbenhhjpeepaaDoor
