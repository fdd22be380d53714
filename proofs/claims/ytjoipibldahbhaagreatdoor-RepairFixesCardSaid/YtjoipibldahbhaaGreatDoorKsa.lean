/- Several texts in one: RefLost RefSort RLSorts RefSums RefData Outs RefFix. -/
import Derived.Test.YtjoipibldahbhaaGreatDoorKrh
/- The document's 'Lost': contract. -/
namespace Go.Proofs.YtjoipibldahbhaaGreatDoor
open Go Go.RowKit
set_option maxRecDepth 100000
abbrev tBool : TypeId := 4
variable {w w' : World} {v : Value} {lost : List Int}
/-- Which columns are lost, as cells. -/
def lcells (m : Nat) (lost : List Int) : List Value := (List.range m).map fun i => .bool (hasI lost i)
theorem lcells_len (m : Nat) (lost : List Int) : (lcells m lost).length = m := by simp [lcells]
theorem lcells_at {m i : Nat} (h : i < m) : (lcells m lost)[i]? = some (.bool (hasI lost i)) := by unfold lcells; simp [h]
theorem infoBoolP : (Tryz.prog.info? tBool).map (fun i => (i.zero, i.size, i.bytes)) = some (some (.bool false), 1, 1) := by kernel_rfl
theorem made_bools (n : Nat) : madeCells #[Value.bool false] n = (lcells n []).toArray := by
  apply Array.ext_getElem?
  intro i
  unfold madeCells lcells
  by_cases h : i < n
  · simp [h, Nat.mod_one, hasI]
  · simp [h]
theorem lcells_put {m : Nat} {c : Int} (h0 : 0 ≤ c) : (lcells m lost).set c.toNat (.bool true) = lcells m (lost ++ [c]) := by
  unfold lcells
  apply List.ext_getElem
  · simp
  · intro t h1 h2
    simp only [List.getElem_set, List.getElem_map, List.getElem_range, hasI_snoc]
    by_cases e : c.toNat = t
    · rw [if_pos e, decide_eq_true (show c = (t : Int) by omega), Bool.or_true]
    · rw [if_neg e, decide_eq_false (show ¬ c = (t : Int) by omega), Bool.or_false]
theorem cntI_range (d : Nat) (lost : List Int) : cntI d lost = ((List.range (d + 2)).filter (hasI lost)).length := by
  unfold cntI dsN
  rw [List.range_succ, List.range_succ, List.filter_append, List.filter_append, List.length_append, List.length_append]
  cases h1 : hasI lost d <;> cases h2 : hasI lost (d + 1) <;> simp [h1, h2]
theorem filt_succ (j : Nat) (lost : List Int) : ((List.range (j + 1)).filter (hasI lost)).length = ((List.range j).filter (hasI lost)).length + (if hasI lost j = true then 1 else 0) := by
  rw [List.range_succ, List.filter_append, List.length_append]
  cases h : hasI lost j <;> simp [h]
theorem Lost_range (d : Int) (w : World) (h : d < 2 ∨ 30 < d) :
    Calls Tryz.prog 23 #[.int .i64 d, v] w fun e w' => e = .returned (.tuple #[.slice none 0 0, .int .i64 0, .int .i64 3]) ∧ w = w' := by
  by_cases h1 : d < 2
  · go_enter Tryz.func23, Tryz.ntmps23
    go_wp2_with fail
    go_ret3
    exact ⟨rfl, rfl⟩
  · have h30 : 30 < d := by omega
    clear h
    go_enter Tryz.func23, Tryz.ntmps23
    go_wp2_with fail
    go_ret3
    exact ⟨rfl, rfl⟩
/-- What 'Lost' leaves, of a number of data columns that may be. -/
def LostR (w : World) (d : Nat) (lost : List Int) (e : Ending) (w' : World) : Prop :=
  Below w.heap.size w w' ∧ ((lossE d lost ≠ 0 ∧ e = .returned (.tuple #[.slice none 0 0, .int .i64 0, .int .i64 (lossE d lost)])) ∨
    (lossE d lost = 0 ∧ ∃ g, e = .returned (.tuple #[.slice (some ⟨g, 0, none⟩) (d + 2) (d + 2), .int .i64 (cntI d lost : Int), .int .i64 0]) ∧ w.heap.size ≤ g ∧ w'.row g (lcells (d + 2) lost) tBool))
set_option maxHeartbeats 2000000 in
theorem Lost_ok {d : Nat} (w : World) (h2 : 2 ≤ d) (h30 : d ≤ 30) (h : w.rd v (iV lost)) (hl : lost.length ≤ 1000) :
    Calls Tryz.prog 23 #[.int .i64 (d : Int), v] w (LostR w d lost) := by
  have hrd := h
  obtain ⟨a, cp, rfl, hcs⟩ := h
  rw [iV_len] at hrd ⊢
  obtain ⟨m, hm⟩ : ∃ m, m = lost.length := ⟨_, rfl⟩
  obtain ⟨D, hD⟩ : ∃ D, D = d + 2 := ⟨_, rfl⟩
  have hmk := run_make_row' (P := Tryz.prog) 58 tBool (.bool false) 1 Tryz.underlying58 infoBoolP rfl .i64 .i64 D (by omega) (by omega)
  have hdD : (d : Int) + 2 = (D : Int) := by omega
  rw [← hm] at hl hrd ⊢
  have HR := Lib.hid (And.intro hcs (And.intro hm hD))
  have hD32 : D ≤ 32 := by omega
  have hDd : D = d + 2 := hD
  have HD := Lib.hid hDd
  clear hcs hm hrd hD hDd
  go_enter Tryz.func23, Tryz.ntmps23
  go_wp2_with fail
  obtain ⟨g, hg⟩ : ∃ g, g = w.heap.size := ⟨_, rfl⟩
  refine wp_world (fun w1 => w1.row g (lcells D []) tBool ∧ Below w.heap.size w w1) ⟨by rw [made_bools, hg]; exact World.row.new w _ _, (by repeat' (first | (with_reducible exact Below.refl _ _) | (with_reducible assumption) | (with_reducible refine Below.setCell ?_ ?_ _) | (with_reducible refine Below.ext ?_ _ ?_) | (with_reducible refine Below.alloc ?_ ?_ _) | (with_reducible refine Below.drew ?_) | (with_reducible refine Below.drewN ?_ _) | (with_reducible exact Nat.le_refl _) | (dsimp only; omega) | (simp <;> omega)))⟩ ?_
  rintro w1 ⟨r1, B1⟩
  rw [← hg]
  have H1 := Lib.hid (And.intro r1 (And.intro B1 hg))
  clear r1 B1 hmk hg
  go_loopw [8] (fun x wr => ∃ j : Nat, j ≤ m ∧ x = .int .i64 (j : Int) ∧ badI d (lost.take j) = false ∧ wr.row g (lcells D (lost.take j)) tBool ∧ Below w.heap.size w wr) (fun x _ => m - (intOf x).toNat)
  case atStart => exact ⟨0, by omega, rfl, rfl, H1.out.1, H1.out.2.1⟩
  case round =>
    obtain ⟨j, hj, rfl, hb, hr, hB⟩ := hrel
    by_cases hlt : j < m
    · obtain ⟨c, hc⟩ : ∃ c, lost[j]? = some c := ⟨lost[j]'(by rw [← HR.out.2.1]; exact hlt), List.getElem?_eq_getElem (by rw [← HR.out.2.1]; exact hlt)⟩
      obtain ⟨b, o, rfl, hcell⟩ : ∃ b o, a = some ⟨b, o, none⟩ ∧ ∀ j u, (iV lost)[j]? = some u → w.cell? ⟨b, o + j, none⟩ = some u := by
        rcases HR.out.1 with h0 | h0
        · have : lost.length = 0 := by rw [← iV_len, h0]; rfl
          have := HR.out.2.1; omega
        · exact h0
      have hcj := hcell j _ (iV_get hc)
      have d0 := (hB.cell (p := ⟨b, o + j, none⟩) (block_lt_of_cell hcj)).trans hcj
      have htk : lost.take (j + 1) = lost.take j ++ [c] := by rw [List.take_add_one, hc]; rfl
      have HF := Lib.hid (And.intro hb (And.intro hr (And.intro hB (And.intro htk hc))))
      clear hb hr hB htk hcell hcj
      by_cases hneg : c < 0
      · have hE := lossE_bad (data := d) h2 h30 hc (.inl hneg)
        have HE := Lib.hid hE
        clear hE hc
        go_wp2_with fail
        go_ret3
        exact ⟨HF.out.2.2.1, .inl ⟨by rw [HE.out]; decide, by rw [HE.out]; rfl⟩⟩
      by_cases hbig : (d : Int) + 2 ≤ c
      · have hE := lossE_bad (data := d) h2 h30 hc (.inr hbig)
        have HE := Lib.hid hE
        clear hE hc
        go_wp2_with fail
        go_ret3
        exact ⟨HF.out.2.2.1, .inl ⟨by rw [HE.out]; decide, by rw [HE.out]; rfl⟩⟩
      obtain ⟨cn, rfl⟩ : ∃ cn : Nat, c = (cn : Int) := ⟨c.toNat, by omega⟩
      have hcnD : cn < D := by have := HD.out; omega
      have ck := HF.out.2.1.cell cn (lcells_at hcnD)
      have hgl := HF.out.2.1.lt
      have hfz := HF.out.2.1.free
      have hgw : w.heap.size ≤ g := by rw [H1.out.2.2]; exact Nat.le_refl _
      clear hc hneg
      go_wp2_with fail
      go_roundw
      case rel => exact ⟨j + 1, by omega, by go_num, by rw [HF.out.2.2.2.1]; exact bad_snoc HF.out.1 (by omega) (by omega), by rw [HF.out.2.2.2.1, ← lcells_put (by omega), Int.toNat_natCast]; exact HF.out.2.1.set cn _, HF.out.2.2.1.setCell hgw _⟩
      case measure => simp [intOf] <;> omega
    · obtain rfl : j = m := by omega
      have htk : lost.take j = lost := by rw [HR.out.2.1, List.take_length]
      rw [htk] at hb hr
      have HF := Lib.hid (And.intro hb (And.intro hr hB))
      clear hb hr hB htk
      go_wp2_with fail
      go_loopw [9, 10] (fun x y wr => ∃ k : Nat, k ≤ D ∧ y = .int .i64 (k : Int) ∧ x = .int .i64 (((List.range k).filter (hasI lost)).length : Int) ∧ wr.row g (lcells D lost) tBool ∧ Below w.heap.size w wr) (fun _ y _ => D - (intOf y).toNat)
      case atStart => exact ⟨0, by omega, rfl, rfl, HF.out.2.1, HF.out.2.2⟩
      case round =>
        obtain ⟨k, hk, rfl, rfl, hr, hB⟩ := hrel
        have hlen : ((List.range k).filter (hasI lost)).length ≤ k := by have := List.length_filter_le (hasI lost) (List.range k); rw [List.length_range] at this; exact this
        have hs := filt_succ k lost
        by_cases hkt : k < D
        · have ck := hr.cell k (lcells_at hkt)
          obtain ⟨q, hq⟩ : ∃ q, q = ((List.range k).filter (hasI lost)).length := ⟨_, rfl⟩
          rw [← hq] at hlen hs ⊢
          have HX := Lib.hid (And.intro hr (And.intro hB hs))
          clear hr hB hs hq
          cases hh : hasI lost k with
          | true =>
            rw [hh] at ck
            have HH := Lib.hid hh
            clear hh
            go_wp2_with fail
            go_roundw
            case rel => exact ⟨k + 1, by omega, by go_num, by rw [HX.out.2.2, HH.out, if_pos rfl]; go_num, HX.out.1, HX.out.2.1⟩
            case measure => simp [intOf] <;> omega
          | false =>
            rw [hh] at ck
            have HH := Lib.hid hh
            clear hh
            go_wp2_with fail
            go_roundw
            case rel => exact ⟨k + 1, by omega, by go_num, by rw [HX.out.2.2, HH.out, if_neg (by simp), Nat.add_zero], HX.out.1, HX.out.2.1⟩
            case measure => simp [intOf] <;> omega
        · obtain rfl : k = D := by omega
          have hcn : ((List.range k).filter (hasI lost)).length = cntI d lost := by rw [cntI_range, ← HD.out]
          rw [hcn] at hlen ⊢
          obtain ⟨q, hq⟩ : ∃ q, q = cntI d lost := ⟨_, rfl⟩
          rw [← hq] at hlen ⊢
          have HX := Lib.hid (And.intro hr (And.intro hB hq))
          clear hr hB hs hq hcn
          have hgw : w.heap.size ≤ g := by rw [H1.out.2.2]; exact Nat.le_refl _
          by_cases hq2 : 2 < q
          · have hE : lossE d lost = 20 := by rw [lossE_in lost h2 h30, if_neg (by rw [HF.out.1]; decide), if_pos (by rw [← HX.out.2.2]; exact hq2)]
            have HE := Lib.hid hE
            clear hE
            go_wp2_with fail
            go_ret3
            exact ⟨HX.out.2.1, .inl ⟨by rw [HE.out]; decide, by rw [HE.out]; rfl⟩⟩
          · have hE : lossE d lost = 0 := by rw [lossE_in lost h2 h30, if_neg (by rw [HF.out.1]; decide), if_neg (by rw [← HX.out.2.2]; exact hq2)]
            have HE := Lib.hid hE
            clear hE
            go_wp2_with fail
            go_ret3
            exact ⟨HX.out.2.1, .inr ⟨HE.out, g, by rw [← HD.out, ← HX.out.2.2]; rfl, hgw, by rw [← HD.out]; exact HX.out.1⟩⟩
end Go.Proofs.YtjoipibldahbhaaGreatDoor
/- The document's 'Sort': contract. -/
namespace Go.Proofs.YtjoipibldahbhaaGreatDoor
open Go Go.RowKit
set_option maxRecDepth 100000
variable {w w' : World} {v : Value} {lost : List Int}
theorem cntI_parts (d : Nat) (lost : List Int) : cntI d lost = (dsI d lost).length + (if hasI lost d = true then 1 else 0) + (if hasI lost (d + 1) = true then 1 else 0) := by
  unfold cntI; rw [dsI_len]
set_option maxHeartbeats 2000000 in
theorem RefSort_any (d : Int) (lost : List Int) (w : World) (h : w.rd v (iV lost)) (hl : lost.length ≤ 1000) :
    Calls Tryz.prog 10 #[.int .i64 d, v] w fun e w' => e = .returned (.tuple #[.int .i64 (if lossE d lost = 0 then kindL d.toNat lost else 0), .int .i64 (lossE d lost)]) ∧ Below w.heap.size w w' := by
  by_cases hr : d < 2 ∨ 30 < d
  · have hE := lossE_range lost hr
    have hL := Lost_range (v := v) d w hr
    rw [hE, if_neg (by decide)]
    have HL := Lib.hid hL
    clear hL h hE hr
    go_enter Tryz.func10, Tryz.ntmps10
    go_wp2_with fail
    refine HL.out.mono ?_
    rintro e w2 ⟨rfl, rfl⟩
    go_wp2_with fail
    go_ret2
    exact ⟨rfl, Below.refl _ _⟩
  obtain ⟨D, rfl⟩ : ∃ D : Nat, d = (D : Int) := ⟨d.toNat, by omega⟩
  have h2 : 2 ≤ D := by omega
  have h30 : D ≤ 30 := by omega
  rw [Int.toNat_natCast]
  have hL := Lost_ok w h2 h30 h hl
  by_cases hE : lossE D lost = 0
  · rw [hE, if_pos rfl]
    have hc := (cnt_le hE h2 h30).2.1
    have hp := cntI_parts D lost
    have hk : kindL D lost = kindF (dsI D lost).length (hasI lost D) (hasI lost (D + 1)) := rfl
    rw [hk]
    obtain ⟨p, hpe⟩ : ∃ p, p = hasI lost D := ⟨_, rfl⟩
    obtain ⟨q, hqe⟩ : ∃ q, q = hasI lost (D + 1) := ⟨_, rfl⟩
    obtain ⟨n, hne⟩ : ∃ n, n = (dsI D lost).length := ⟨_, rfl⟩
    obtain ⟨cc, hce⟩ : ∃ c, c = cntI D lost := ⟨_, rfl⟩
    rw [← hpe, ← hqe, ← hne]
    rw [← hpe, ← hqe, ← hne, ← hce] at hp
    rw [← hce] at hc
    have HQ := Lib.hid (And.intro hpe (And.intro hqe hce))
    have HL := Lib.hid (And.intro hL hE)
    clear hL h hE hr hk hpe hqe hne hce
    go_enter Tryz.func10, Tryz.ntmps10
    go_wp2_with fail
    refine HL.out.1.mono ?_
    rintro e w2 ⟨b2, hh⟩
    obtain ⟨g, rfl, hgw, hrow⟩ := (hh.resolve_left (by rintro ⟨h, _⟩; exact h HL.out.2)).2
    have c0 := hrow.cell D (lcells_at (by omega))
    have c1 := hrow.cell (D + 1) (lcells_at (by omega))
    have H2 := Lib.hid b2
    clear b2 hh hrow
    rw [← HQ.out.1] at c0
    rw [← HQ.out.2.1] at c1
    rw [← HQ.out.2.2]
    clear HQ
    subst hp
    cases p <;> cases q <;> simp only [Bool.false_eq_true, if_true, if_false, Nat.add_zero] at hc ⊢
    all_goals
      have hn : n = 0 ∨ n = 1 ∨ n = 2 := by omega
      rcases hn with rfl | rfl | rfl <;> first | (exfalso; omega) | skip
    all_goals
      clear hc
      go_wp2_with fail
      go_ret2
      exact ⟨rfl, H2.out⟩
  · rw [if_neg hE]
    have HL := Lib.hid (And.intro hL hE)
    obtain ⟨E, hEE⟩ : ∃ E, E = lossE (D : Int) lost := ⟨_, rfl⟩
    have hE0 : E ≠ 0 := by rw [hEE]; exact hE
    rw [← hEE]
    have HE := Lib.hid hEE
    clear hL h hE hr hEE
    go_enter Tryz.func10, Tryz.ntmps10
    go_wp2_with fail
    refine HL.out.1.mono ?_
    rintro e w2 ⟨b2, hh⟩
    obtain ⟨_, rfl⟩ := hh.resolve_right (by rintro ⟨h, _⟩; exact HL.out.2 h)
    rw [← HE.out]
    have H2 := Lib.hid b2
    clear b2 hh
    go_wp2_with fail
    go_ret2
    exact ⟨rfl, H2.out⟩
end Go.Proofs.YtjoipibldahbhaaGreatDoor
/- RepairSorts: which kind every lost columns are, and its name, is the document's: the walk. -/
namespace Go.Proofs.YtjoipibldahbhaaGreatDoor
open Go Go.RowKit
set_option maxRecDepth 100000
set_option maxHeartbeats 4000000 in
theorem sorts_walk {a : Option Addr} {n c : Nat} {xs : List Int} {d k : Int} (W : World) (hN : Nam W) (h1 : W.rd (.slice a n c) (iV xs)) (hn : xs.length = n) (hnc : n ≤ c) :
    Calls Tryz.prog 3 #[.int .i64 d, .slice a n c, .int .i64 k] W fun e W' => e = .returned (.bool true) ∧ Below W.heap.size W W' := by
  obtain ⟨m2, hm2⟩ : ∃ m2, m2 = min n 50 := ⟨_, rfl⟩
  have hmin : min (n : Int) 50 = (m2 : Int) := by omega
  have hm2n : m2 ≤ n := by omega
  have hrd := rd_take h1 hm2n
  obtain ⟨lost, hlost⟩ : ∃ l, l = xs.take m2 := ⟨_, rfl⟩
  have hll : lost.length ≤ 1000 := by rw [hlost, List.length_take]; omega
  rw [← hlost] at hrd
  obtain ⟨X, hX⟩ : ∃ X : Int → Int, ∀ d, X d = if lossE d lost = 0 then kindL d.toNat lost else 0 := ⟨_, fun _ => rfl⟩
  obtain ⟨E, hE⟩ : ∃ E : Int → Int, ∀ d, E d = lossE d lost := ⟨_, fun _ => rfl⟩
  obtain ⟨N, hNm⟩ : ∃ N : Int → ByteArray, ∀ k, Go.strV (nmOf k) = .string (N k) := ⟨fun k => ⟨(nmOf k).toArray⟩, fun _ => rfl⟩
  have hS : ∀ (d : Int) (w : World), Below W.heap.size W w → Calls Tryz.prog 9 #[.int .i64 d, .slice a m2 c] w fun e w' => e = .returned (.tuple #[.int .i64 (X d), .int .i64 (E d)]) ∧ Below w.heap.size w w' := fun d w hb => by
    rw [hX, hE]; exact Sort_any d lost w (hrd.below hb (Nat.le_refl _)) hll
  have hR : ∀ (d : Int) (w : World), Below W.heap.size W w → Calls Tryz.prog 10 #[.int .i64 d, .slice a m2 c] w fun e w' => e = .returned (.tuple #[.int .i64 (X d), .int .i64 (E d)]) ∧ Below w.heap.size w w' := fun d w hb => by
    rw [hX, hE]; exact RefSort_any d lost w (hrd.below hb (Nat.le_refl _)) hll
  have hA : ∀ (k : Int) (w : World), Below W.heap.size W w → Calls Tryz.prog 12 #[.int .i64 k] w fun e w' => e = .returned (.string (N k)) ∧ w = w' := fun k w hb => by
    rw [← hNm]; exact Name_any k w (hN.below hb hN.lt)
  have hB : ∀ (k : Int) (w : World), Calls Tryz.prog 13 #[.int .i64 k] w fun e w' => e = .returned (.string (N k)) ∧ Below w.heap.size w w' := fun k w => by
    rw [← hNm]; exact refName_any k w
  have H := Lib.hid (And.intro hS (And.intro hR (And.intro hA (And.intro hB hN))))
  clear hS hR hA hB hN hX hE hNm hrd hlost hll h1 hn hm2
  go_enter Tryz.func3, Tryz.ntmps3
  go_wp2_with fail
  refine (H.out.1 _ W (Below.refl _ _)).mono ?_
  rintro e w1 ⟨rfl, b1⟩
  have B1 := Lib.hid b1
  clear b1
  go_wp2_with fail
  refine (H.out.2.1 _ w1 B1.out).mono ?_
  rintro e w2 ⟨rfl, b2⟩
  have B2 := Lib.hid (B1.out.trans (b2.mono B1.out.size))
  clear b2 B1
  go_wp2_with fail
  refine (H.out.1 _ w2 B2.out).mono ?_
  rintro e w3 ⟨rfl, b3⟩
  have B3 := Lib.hid (B2.out.trans (b3.mono B2.out.size))
  clear b3 B2
  go_wp2_with fail
  refine (H.out.2.1 _ w3 B3.out).mono ?_
  rintro e w4 ⟨rfl, b4⟩
  have B4 := Lib.hid (B3.out.trans (b4.mono B3.out.size))
  clear b4 B3
  go_wp2_with fail
  refine (wakes_any w4 (H.out.2.2.2.2.below B4.out H.out.2.2.2.2.lt)).mono ?_
  rintro e w5 ⟨rfl, b5⟩
  have B5 := Lib.hid (B4.out.trans (b5.mono B4.out.size))
  clear b5 B4
  go_wp2_with fail
  refine (H.out.2.2.1 _ w5 B5.out).mono ?_
  rintro e w6 ⟨rfl, rfl⟩
  go_wp2_with fail
  refine (H.out.2.2.2.1 _ w5).mono ?_
  rintro e w7 ⟨rfl, b7⟩
  have B7 := Lib.hid (B5.out.trans (b7.mono B5.out.size))
  clear b7 B5
  go_wp2_with fail
  refine (H.out.2.2.1 _ w7 B7.out).mono ?_
  rintro e w6 ⟨rfl, rfl⟩
  go_wp2_with fail
  refine (H.out.2.2.2.1 _ w7).mono ?_
  rintro e w8 ⟨rfl, b8⟩
  have B8 := Lib.hid (B7.out.trans (b8.mono B7.out.size))
  clear b8 B7
  go_wp2_with fail
  go_returns
  exact ⟨rfl, B8.out⟩
end Go.Proofs.YtjoipibldahbhaaGreatDoor
/- The document's sums at a place: contract. -/
namespace Go.Proofs.YtjoipibldahbhaaGreatDoor
open Go Go.RowKit
set_option maxRecDepth 100000
variable {w w' : World} {v : Value} {lost : List Int} {cols : List (List Nat)} {n k t g : Nat}
theorem pB_keep (t : Nat) {i : Nat} (h : hasI lost i = false) : pB (dzF n cols lost (i + 1)) t = pB (dzF n cols lost i) t ^^^ (cols.getD i []).getD t 0 := by
  rw [dzF_keep h, pB_append, pB_one]
theorem pB_drop (t : Nat) {i : Nat} (h : hasI lost i = true) : pB (dzF n cols lost (i + 1)) t = pB (dzF n cols lost i) t := by
  rw [dzF_drop h, pB_append, pB_one, zeros_getD, Nat.xor_zero]
theorem qB_keep (t : Nat) {i : Nat} (h : hasI lost i = false) : qB 0 (dzF n cols lost (i + 1)) t = qB 0 (dzF n cols lost i) t ^^^ gm ((cols.getD i []).getD t 0) (pw i) := by
  rw [dzF_keep h, qB_append, qB_one, dzF_len, Nat.zero_add]
theorem qB_drop (t : Nat) {i : Nat} (h : hasI lost i = true) : qB 0 (dzF n cols lost (i + 1)) t = qB 0 (dzF n cols lost i) t := by
  rw [dzF_drop h, qB_append, qB_one, zeros_getD, gm_zero, Nat.xor_zero]
set_option maxHeartbeats 4000000 in
theorem Sums_ok (w : World) (h : RS w v cols) (hk : cols.length = k + 2) (hk30 : k ≤ 30) (hr : w.row g (lcells (k + 2) lost) tBool) (hf : Fits n cols lost) (ht : t < n) :
    Calls Tryz.prog 46 #[v, .slice (some ⟨g, 0, none⟩) (k + 2) (k + 2), .int .i64 (t : Int)] w fun e w' => e = .returned (.tuple #[.int .u8 (pB (dzF n cols lost k) t : Int), .int .u8 (qB 0 (dzF n cols lost k) t : Int)]) ∧ Below w.heap.size w w' := by
  rcases h.cases with ⟨rfl, _⟩ | ⟨hne, b, o, cp, rfl, hc, hcell⟩
  · simp at hk
  obtain ⟨m, hm⟩ : ∃ m, m = cols.length := ⟨_, rfl⟩
  rw [← hm] at hc ⊢
  have hm2 : m = k + 2 := by omega
  rw [← hm2] at hr ⊢
  have hm32 : m ≤ 32 := by omega
  obtain ⟨P, hP⟩ : ∃ P : Nat → Nat, ∀ i, P i = pB (dzF n cols lost i) t := ⟨_, fun _ => rfl⟩
  obtain ⟨Q, hQ⟩ : ∃ Q : Nat → Nat, ∀ i, Q i = qB 0 (dzF n cols lost i) t := ⟨_, fun _ => rfl⟩
  rw [← hP, ← hQ]
  have hz0 : dzF n cols lost 0 = [] := rfl
  have hP0 : P 0 = 0 := by rw [hP, hz0]; rfl
  have hQ0 : Q 0 = 0 := by rw [hQ, hz0]; rfl
  have hPl : ∀ i, i ≤ k → P i < 256 := fun i hi => by rw [hP]; exact pB_lt t _ (dzF_one hf (by omega)).all
  have hQl : ∀ i, i ≤ k → Q i < 256 := fun i hi => by rw [hQ]; exact qB_lt t _ 0 (dzF_one hf (by omega)).all
  have hPk : ∀ i, hasI lost i = false → P (i + 1) = P i ^^^ (cols.getD i []).getD t 0 := fun i hi => by rw [hP, hP, pB_keep t hi]
  have hPd : ∀ i, hasI lost i = true → P (i + 1) = P i := fun i hi => by rw [hP, hP, pB_drop t hi]
  have hQk : ∀ i, hasI lost i = false → Q (i + 1) = Q i ^^^ gm ((cols.getD i []).getD t 0) (pw i) := fun i hi => by rw [hQ, hQ, qB_keep t hi]
  have hQd : ∀ i, hasI lost i = true → Q (i + 1) = Q i := fun i hi => by rw [hQ, hQ, qB_drop t hi]
  have HP := Lib.hid (And.intro hP0 (And.intro hQ0 (And.intro hPl (And.intro hQl (And.intro hPk (And.intro hPd (And.intro hQk hQd)))))))
  have HR := Lib.hid (And.intro hcell (And.intro hm (And.intro hm2 (And.intro hr hf))))
  clear hP0 hQ0 hPl hQl hPk hPd hQk hQd hcell hm hm2 hr hf hne h hP hQ hz0 hk
  go_enter Tryz.func46, Tryz.ntmps46
  go_wp2_with fail
  go_loopw [8, 9, 10] (fun x y z wr => ∃ i : Nat, i ≤ k ∧ z = .int .i64 (i : Int) ∧ x = .int .u8 (P i : Int) ∧ y = .int .u8 (Q i : Int) ∧ Below w.heap.size w wr) (fun _ _ z _ => k - (intOf z).toNat)
  case atStart => exact ⟨0, by omega, rfl, by rw [HP.out.1]; rfl, by rw [HP.out.2.1]; rfl, Below.refl _ _⟩
  case round =>
    obtain ⟨i, hi, rfl, rfl, rfl, hB⟩ := hrel
    by_cases hlt : i < k
    · have him : i + 2 < m := by have := HR.out.2.2.1; omega
      have hrr := HR.out.2.2.2.1.below hB HR.out.2.2.2.1.lt
      have ck := hrr.cell i (lcells_at (by omega))
      have hPi := HP.out.2.2.1 i hi
      have hQi := HP.out.2.2.2.1 i hi
      cases hh : hasI lost i with
      | true =>
        rw [hh] at ck
        have HX := Lib.hid (And.intro hh hB)
        clear hh hB hrr
        go_wp2_with fail
        go_roundw
        case rel => exact ⟨i + 1, by omega, by go_num, by rw [HP.out.2.2.2.2.2.1 i HX.out.1], by rw [HP.out.2.2.2.2.2.2.2 i HX.out.1], HX.out.2⟩
        case measure => simp [intOf] <;> omega
      | false =>
        rw [hh] at ck
        have hic : i < cols.length := by rw [← HR.out.2.1]; omega
        have hci : cols[i]? = some (cols.getD i []) := by rw [List.getD, List.getElem?_eq_getElem hic]; rfl
        obtain ⟨hlA, hln⟩ := HR.out.2.2.2.2 i hic hh
        have d1 := HR.out.1 i _ hci
        have hI := fun w => idx_mk (P := Tryz.prog) Tryz.underlying9 hlA (k := t) (by omega) w
        have hXl := getD_lt hlA t
        have hPk := HP.out.2.2.2.2.1 i hh
        have hQk := HP.out.2.2.2.2.2.2.1 i hh
        obtain ⟨X, hX⟩ : ∃ X, X = (cols.getD i []).getD t 0 := ⟨_, rfl⟩
        obtain ⟨s, hs⟩ : ∃ s, s = mk (cols.getD i []) := ⟨_, rfl⟩
        unfold strV at d1
        rw [← hs] at hI d1
        rw [← hX] at hI hXl hPk hQk
        have hPw := RPower_ok i wr (by omega)
        have hMu := fun w' => RMul_any (pw i) X w' (pw_lt i) hXl
        rw [gm_comm (pw_lt i) hXl] at hMu
        obtain ⟨Z, hZ⟩ : ∃ Z, Z = gm X (pw i) := ⟨_, rfl⟩
        have hZl : Z < 256 := by rw [hZ]; exact gm_lt _ _ hXl
        rw [← hZ] at hMu hQk
        have x1 := u8x (P i) X hPi hXl
        have x2 := u8x (Q i) Z hQi hZl
        rw [← hPk] at x1
        rw [← hQk] at x2
        have d0 := (hB.cell (p := ⟨b, o + i, none⟩) (block_lt_of_cell d1)).trans d1
        have HX := Lib.hid (And.intro hPw (And.intro hMu (And.intro hB (And.intro d1 hPk))))
        clear hPw hMu hB hPk hQk hX hs hZ hh hrr hlA hln hci hic d1
        go_wp2_with fail
        refine HX.out.1.mono ?_
        rintro e w2 ⟨rfl, b2⟩
        have B2 := HX.out.2.2.1.trans (b2.mono HX.out.2.2.1.size)
        have d1 := (B2.cell (p := ⟨b, o + i, none⟩) (block_lt_of_cell HX.out.2.2.2.1)).trans HX.out.2.2.2.1
        have H2 := Lib.hid B2
        clear b2 B2 d0
        go_wp2_with fail
        refine (HX.out.2.1 w2).mono ?_
        rintro e w3 ⟨rfl, b3⟩
        have B3 := H2.out.trans (b3.mono H2.out.size)
        have d2 := (B3.cell (p := ⟨b, o + i, none⟩) (block_lt_of_cell HX.out.2.2.2.1)).trans HX.out.2.2.2.1
        have H3 := Lib.hid B3
        clear b3 B3 d1
        go_wp2_with fail
        go_roundw
        case rel => exact ⟨i + 1, by omega, by go_num, rfl, rfl, H3.out⟩
        case measure => simp [intOf] <;> omega
    · obtain rfl : i = k := by omega
      have him : m = i + 2 := HR.out.2.2.1
      have HB := Lib.hid hB
      clear hB
      go_wp2_with fail
      go_ret2
      exact ⟨rfl, HB.out⟩
end Go.Proofs.YtjoipibldahbhaaGreatDoor
/- The document's bytes of the lost data columns at a place: contract. -/
namespace Go.Proofs.YtjoipibldahbhaaGreatDoor
open Go Go.RowKit
set_option maxRecDepth 100000
variable {w w' : World} {v : Value} {lost : List Int} {cols : List (List Nat)} {n k t g : Nat}
theorem lessP_byte (hf : Fits n cols lost) (hk : cols.length = k + 2) (ht : t < n) : (lessP n cols lost k).getD t 0 = if hasI lost k = true then pB (dzF n cols lost k) t else pB (dzF n cols lost k) t ^^^ (cols.getD k []).getD t 0 := by
  unfold lessP
  cases h : hasI lost k with
  | true => rw [if_pos rfl, if_pos rfl, PL_at ht]
  | false => rw [if_neg (by simp), if_neg (by simp), xorL_at (by rw [PL_len]; exact ht) (by rw [PL_len, (hf k (by omega) h).2]), PL_at ht]
theorem lessQ_byte (hf : Fits n cols lost) (hk : cols.length = k + 2) (ht : t < n) : (lessQ n cols lost k).getD t 0 = if hasI lost (k + 1) = true then qB 0 (dzF n cols lost k) t else qB 0 (dzF n cols lost k) t ^^^ (cols.getD (k + 1) []).getD t 0 := by
  unfold lessQ
  cases h : hasI lost (k + 1) with
  | true => rw [if_pos rfl, if_pos rfl, QL_at ht]
  | false => rw [if_neg (by simp), if_neg (by simp), xorL_at (by rw [QL_len]; exact ht) (by rw [QL_len, (hf (k + 1) (by omega) h).2]), QL_at ht]
/-- The bytes at a place of the lost data columns, as they are brought back. -/
def datB (n k : Nat) (cols : List (List Nat)) (lost : List Int) (t : Nat) : List Nat := (dsN k lost).map fun i => ((dataL n k cols lost).getD i []).getD t 0
theorem datB_nil (h : dsN k lost = []) : datB n k cols lost t = [] := by unfold datB; rw [h]; rfl
theorem datB_one {i : Nat} (hd : dsN k lost = [i]) (hk : cols.length = k + 2) (hf : Fits n cols lost) (ht : t < n) :
    datB n k cols lost t = [if hasI lost k = true then gm ((lessQ n cols lost k).getD t 0) (inv (pw i)) else (lessP n cols lost k).getD t 0] := by
  have hi := (hasI_on hd (List.mem_cons_self ..)).1
  unfold datB dataL
  rw [hd]
  simp only [List.map_cons, List.map_nil]
  rw [set_same (by omega)]
  cases hasI lost k with
  | true => rw [if_pos rfl, if_pos rfl, mulL_at (by rw [lessQ_len hf (by omega)]; exact ht)]
  | false => rw [if_neg (by simp), if_neg (by simp)]
theorem datB_two {i j : Nat} (hd : dsN k lost = [i, j]) (hij : i ≠ j) (hk : cols.length = k + 2) (hf : Fits n cols lost) (ht : t < n) {p q V : Nat} (hp : p = (lessP n cols lost k).getD t 0) (hq : q = (lessQ n cols lost k).getD t 0) (hV : V = gm (inv (pw i ^^^ pw j)) (q ^^^ gm p (pw i))) :
    datB n k cols lost t = [p ^^^ V, V] := by
  have hi := (hasI_on hd (List.mem_cons_self ..)).1
  have hj := (hasI_on hd (List.mem_cons_of_mem _ (List.mem_cons_self ..))).1
  have hlp := lessP_len (k := k) hf (by omega)
  have hlq := lessQ_len (k := k) hf (by omega)
  have hpA := lessP_all (k := k) hf (by omega)
  have hqA := lessQ_all (k := k) hf (by omega)
  have hvv : (vB i j (lessP n cols lost k) (lessQ n cols lost k)).getD t 0 = V := by
    unfold vB
    rw [mulL_at (by rw [foldL_len (by rw [hlp, hlq]), hlq]; exact ht), foldL_at (by rw [hlq]; exact ht) (by rw [hlp, hlq]), hV, hp, hq]
    exact gm_comm (xor_lt8 _ _ (getD_lt hqA t) (gm_lt _ _ (getD_lt hpA t))) (inv_lt _)
  unfold datB dataL
  rw [hd]
  simp only [List.map_cons, List.map_nil]
  rw [set_same (by rw [List.length_set]; omega), set_ne hij, set_same (by omega), hvv]
  unfold uB
  rw [xorL_at (by rw [hlp]; exact ht) (by rw [vB_len (by rw [hlp, hlq]), hlp, hlq]), hvv, hp]
def whoF (lost : List Int) (j : Nat) : List Int := ((List.range j).filter (hasI lost)).map fun n : Nat => (n : Int)
theorem whoF_keep {j : Nat} (h : hasI lost j = true) : whoF lost (j + 1) = whoF lost j ++ [(j : Int)] := by
  unfold whoF; rw [List.range_succ, List.filter_append, List.map_append]; simp [h]
theorem whoF_drop {j : Nat} (h : hasI lost j = false) : whoF lost (j + 1) = whoF lost j := by
  unfold whoF; rw [List.range_succ, List.filter_append, List.map_append]; simp [h]
theorem whoF_len (j : Nat) : (whoF lost j).length ≤ j := by
  unfold whoF; rw [List.length_map]; have := List.length_filter_le (hasI lost) (List.range j); rw [List.length_range] at this; exact this
theorem whoF_ds : whoF lost k = (dsN k lost).map fun n : Nat => (n : Int) := rfl
theorem lit_rd8 {b c : Nat} {tt : TypeId} (xs : List Nat) (h : w.row b (xs.map u8V) tt) : w.rd (.slice (some ⟨b, 0, none⟩) xs.length c) (xs.map u8V) :=
  ⟨some ⟨b, 0, none⟩, c, by rw [List.length_map], .inr ⟨b, 0, rfl, fun j u hj => by rw [Nat.zero_add]; exact h.cell j hj⟩⟩
theorem look {a b p q z V : Nat} (ha : a < 256) (hb : b < 256) (hab : a ≠ b) (hp : p < 256) (hq : q < 256) (hV : V = gm (inv (a ^^^ b)) (q ^^^ gm p a)) (hz : z = p ^^^ V) :
    z < 256 ∧ p ^^^ z = V ∧ gm a z ^^^ gm b (p ^^^ z) = q ∧ ∀ x, x < 256 → gm a x ^^^ gm b (p ^^^ x) = q → x = z := by
  have hVl : V < 256 := by rw [hV]; exact gm_lt _ _ (inv_lt _)
  have hzl : z < 256 := by rw [hz]; exact xor_lt8 _ _ hp hVl
  have hpz : p ^^^ z = V := by rw [hz, ← Nat.xor_assoc, Nat.xor_self, Nat.zero_xor]
  have h1 := two_cols ha hb hab hp hq
  rw [← hV, ← hz] at h1
  rw [hpz]
  refine ⟨hzl, rfl, h1, fun x hx h => two_only (p := p) ha hb hab hx hzl ?_⟩
  rw [h, hpz, h1]
set_option maxHeartbeats 8000000 in
theorem Data_ok (w : World) (h : RS w v cols) (hk : cols.length = k + 2) (hk30 : k ≤ 30) (hr : w.row g (lcells (k + 2) lost) tBool) (hf : Fits n cols lost) (hall : AllC cols) (ht : t < n) (hc : cntI k lost ≤ 2) :
    Calls Tryz.prog 31 #[v, .slice (some ⟨g, 0, none⟩) (k + 2) (k + 2), .int .i64 (t : Int)] w fun e w' => ∃ v', e = .returned v' ∧ w'.rd v' ((datB n k cols lost t).map u8V) ∧ Below w.heap.size w w' ∧ (∀ b o m c, v' = .slice (some ⟨b, o, none⟩) m c → w.heap.size ≤ b) := by
  have hS := Sums_ok w h hk hk30 hr hf ht
  rcases h.cases with ⟨rfl, _⟩ | ⟨hne, b, o, cp, rfl, hcp, hcell⟩
  · simp at hk
  have hlp := lessP_byte hf hk ht
  have hlq := lessQ_byte hf hk ht
  have hlA := (dzF_one hf (show k ≤ cols.length by omega)).all
  obtain ⟨p0, hp0⟩ : ∃ p, p = pB (dzF n cols lost k) t := ⟨_, rfl⟩
  obtain ⟨q0, hq0⟩ : ∃ q, q = qB 0 (dzF n cols lost k) t := ⟨_, rfl⟩
  have hp0l : p0 < 256 := by rw [hp0]; exact pB_lt t _ hlA
  have hq0l : q0 < 256 := by rw [hq0]; exact qB_lt t _ 0 hlA
  rw [← hp0, ← hq0] at hS
  rw [← hp0] at hlp
  rw [← hq0] at hlq
  obtain ⟨lp, hlpe⟩ : ∃ p, p = (lessP n cols lost k).getD t 0 := ⟨_, rfl⟩
  obtain ⟨lq, hlqe⟩ : ∃ q, q = (lessQ n cols lost k).getD t 0 := ⟨_, rfl⟩
  rw [← hlpe] at hlp
  rw [← hlqe] at hlq
  have hlpl : lp < 256 := by rw [hlpe]; exact getD_lt (lessP_all hf (by omega)) t
  have hlql : lq < 256 := by rw [hlqe]; exact getD_lt (lessQ_all hf (by omega)) t
  obtain ⟨m, hm⟩ : ∃ m, m = cols.length := ⟨_, rfl⟩
  have hm2 : m = k + 2 := by omega
  rw [← hm] at hcp hS ⊢
  rw [← hm2] at hr hS ⊢
  have hmk : (m : Int) - 2 = (k : Int) := by omega
  have hm32 : m ≤ 32 := by omega
  have HR := Lib.hid (And.intro hcell (And.intro hm (And.intro hm2 (And.intro hr (And.intro hf (And.intro hall (And.intro hlp (And.intro hlq (And.intro hlpe (And.intro hlqe hc))))))))))
  obtain ⟨i0, hi0, hz0, hz1, hz2⟩ := info_int
  have HI : Hid (Tryz.prog.info? tI = some i0 ∧ i0.zero = some (.int .i64 0) ∧ i0.size = 1 ∧ i0.bytes = 8) := ⟨hi0, hz0, hz1, hz2⟩
  clear hi0 hz0 hz1 hz2
  have HS := Lib.hid hS
  have HK := Lib.hid hk
  clear hcell hm hm2 hr hf hall hlp hlq hlpe hlqe hS hne h hlA hp0 hq0 hc hk
  go_enter Tryz.func31, Tryz.ntmps31
  go_wp2_with fail
  refine HS.out.mono ?_
  rintro e w2 ⟨rfl, b2⟩
  have B2 := Lib.hid b2
  clear b2
  have hrw := HR.out.2.2.2.1.below B2.out HR.out.2.2.2.1.lt
  have cp0 := hrw.cell k (lcells_at (by have := HR.out.2.2.1; omega))
  have cq0 := hrw.cell (k + 1) (lcells_at (by have := HR.out.2.2.1; omega))
  have hkc : k < cols.length ∧ k + 1 < cols.length := by have := HK.out; omega
  have gp := HR.out.1 k (cols.getD k []) (by rw [List.getD, List.getElem?_eq_getElem hkc.1]; rfl)
  have gq := HR.out.1 (k + 1) (cols.getD (k + 1) []) (by rw [List.getD, List.getElem?_eq_getElem hkc.2]; rfl)
  have dp := (B2.out.cell (p := ⟨b, o + k, none⟩) (block_lt_of_cell gp)).trans gp
  have dq := (B2.out.cell (p := ⟨b, o + (k + 1), none⟩) (block_lt_of_cell gq)).trans gq
  have HD := Lib.hid (And.intro cp0 (And.intro cq0 (And.intro dp (And.intro dq hrw))))
  clear cp0 cq0 gp gq dp dq hrw hkc
  have hkm : k + 2 = m := HR.out.2.2.1.symm
  have HM := Lib.hid hkm
  clear hkm
  have hlt : k + 1 < m := by have := HM.out; omega
  obtain ⟨pk, hpk⟩ : ∃ p, p = hasI lost k := ⟨_, rfl⟩
  obtain ⟨qk, hqk⟩ : ∃ p, p = hasI lost (k + 1) := ⟨_, rfl⟩
  have ck := HD.out.1
  have cq := HD.out.2.1
  rw [← hpk] at ck
  rw [← hqk] at cq
  have HPQ := Lib.hid (And.intro hpk hqk)
  clear hpk hqk
  go_upto_if 34 with fail
  go_cut [8] from 35 to 42 (fun x wc => x = .int .u8 (lp : Int) ∧ wc = w2)
  case first =>
    have hlp := HR.out.2.2.2.2.2.2.1
    rw [← HPQ.out.1] at hlp
    cases pk with
    | true =>
      have hh := HPQ.out.1.symm
      rw [if_pos rfl] at hlp
      have HL := Lib.hid hlp
      clear hlp hh
      go_wp2_with fail
      go_meet
      case rel => exact ⟨by rw [HL.out], rfl⟩
    | false =>
      have hh := HPQ.out.1.symm
      rw [if_neg (by simp)] at hlp
      obtain ⟨hlA, hln⟩ := HR.out.2.2.2.2.1 k (by rw [← HR.out.2.1]; omega) hh
      have hI := fun w => idx_mk (P := Tryz.prog) Tryz.underlying9 hlA (k := t) (by omega) w
      have hXl := getD_lt hlA t
      have d1 := HD.out.2.2.1
      obtain ⟨X, hX⟩ : ∃ X, X = (cols.getD k []).getD t 0 := ⟨_, rfl⟩
      obtain ⟨s, hs⟩ : ∃ s, s = mk (cols.getD k []) := ⟨_, rfl⟩
      unfold strV at d1
      rw [← hs] at hI d1
      rw [← hX] at hI hXl hlp
      have x1 := u8x p0 X hp0l hXl
      rw [← hlp] at x1
      clear hlp hh hX hs hlA hln
      go_wp2_with fail
      go_meet
      case rel => exact ⟨rfl, rfl⟩
  case rest =>
    obtain ⟨rfl, rfl⟩ := hcut
    go_upto_if 48 with fail
    go_cut [9] from 49 to 57 (fun x wx => x = .int .u8 (lq : Int) ∧ wx = wc)
    case first =>
      have hlp := HR.out.2.2.2.2.2.2.2.1
      rw [← HPQ.out.2] at hlp
      cases qk with
      | true =>
        have hh := HPQ.out.2.symm
        rw [if_pos rfl] at hlp
        have HL := Lib.hid hlp
        clear hlp hh
        go_wp2_with fail
        go_meet
        case rel => exact ⟨by rw [HL.out], rfl⟩
      | false =>
        have hh := HPQ.out.2.symm
        rw [if_neg (by simp)] at hlp
        obtain ⟨hlA, hln⟩ := HR.out.2.2.2.2.1 (k + 1) (by rw [← HR.out.2.1]; exact hlt) hh
        have hI := fun w => idx_mk (P := Tryz.prog) Tryz.underlying9 hlA (k := t) (by omega) w
        have hXl := getD_lt hlA t
        have d1 := HD.out.2.2.2.1
        obtain ⟨X, hX⟩ : ∃ X, X = (cols.getD (k + 1) []).getD t 0 := ⟨_, rfl⟩
        obtain ⟨s, hs⟩ : ∃ s, s = mk (cols.getD (k + 1) []) := ⟨_, rfl⟩
        unfold strV at d1
        rw [← hs] at hI d1
        rw [← hX] at hI hXl hlp
        have x1 := u8x q0 X hq0l hXl
        rw [← hlp] at x1
        clear hlp hh hX hs hlA hln
        go_wp2_with fail
        go_meet
        case rel => exact ⟨rfl, rfl⟩
    case rest =>
      obtain ⟨rfl, rfl⟩ := hcut
      clear ck cq
      go_wp2_with fail
      go_loopw [10, 11] (fun x y wr => ∃ j : Nat, j ≤ k ∧ y = .int .i64 (j : Int) ∧ wr.ownsRow w.heap.size tI 1 x (whoF lost j).length (iV (whoF lost j)) ∧ Below w.heap.size w wr) (fun _ y _ => k - (intOf y).toNat)
      case atStart => exact ⟨0, by omega, rfl, World.ownsRow_nil _ _ _ _, B2.out⟩
      case round =>
        obtain ⟨j, hj, rfl, ho, hB⟩ := hrel
        by_cases hjt : j < k
        · have hrr := HR.out.2.2.2.1.below hB HR.out.2.2.2.1.lt
          have ck := hrr.cell j (lcells_at (by omega))
          obtain ⟨os, hos⟩ : ∃ os, os = whoF lost j := ⟨_, rfl⟩
          rw [← hos] at ho
          have hol : os.length ≤ j := by rw [hos]; exact whoF_len j
          obtain ⟨p, hp⟩ : ∃ p, p = os.length := ⟨_, rfl⟩
          rw [← hp] at ho hol
          obtain ⟨ao, co, rfl⟩ := own_shape1 ho
          cases hh : hasI lost j with
          | true =>
            rw [hh] at ck
            have hW := whoF_keep hh
            rw [← hos] at hW
            have HX := Lib.hid (And.intro ho (And.intro hB (And.intro hW hp)))
            clear ho hB hW hh hos hp hrr
            go_wp2_with (at_builtin; refine wpList_append_own _ rfl _ _ 22 rfl w.heap.size tI i0 (.int .i64 0) 1 8 Tryz.underlying22 HI.out.1 HI.out.2.1 HI.out.2.2.1 HI.out.2.2.2 rfl (by decide) _ _ _ rfl (HX.out.1.alloc _) ⟨wr.heap.size, 0, none⟩ 1 1 [.int .i64 (j : Int)] rfl rfl ?c1 ?c2 ?c3 ?c4 ?c5 ?_)
            case c1 => exact one_cell _ _ _
            case c2 => simp [Value.oneCell']
            case c3 => unfold maxLen; omega
            case c4 => omega
            case c5 => have := HX.out.2.1.size; simp; omega
            intro v' w3 ho3 hg3 _
            have B3 : Below w.heap.size w w3 := (HX.out.2.1.alloc HX.out.2.1.size _).grown hg3 (by have := HX.out.2.1.size; simp; omega) (fun k hk => by have := (HX.out.1.lt k hk).1; have := HX.out.2.1.size; omega)
            rw [HX.out.2.2.2] at ho3
            have ho4 := iV_snoc ho3
            rw [← HX.out.2.2.1] at ho4
            have H3 := Lib.hid (And.intro B3 ho4)
            clear B3 ho4 ho3 hg3
            go_wp2_with fail
            go_roundw
            case rel => exact ⟨j + 1, by omega, by go_num, H3.out.2, H3.out.1⟩
            case measure => simp [intOf] <;> omega
          | false =>
            rw [hh] at ck
            have hW := whoF_drop hh
            rw [← hos] at hW
            have HX := Lib.hid (And.intro ho (And.intro hB (And.intro hW hp)))
            clear ho hB hW hh hos hp hrr
            go_wp2_with fail
            go_roundw
            case rel => exact ⟨j + 1, by omega, by go_num, by rw [HX.out.2.2.1, ← HX.out.2.2.2]; exact HX.out.1, HX.out.2.1⟩
            case measure => simp [intOf] <;> omega
        · obtain rfl : j = k := by omega
          rw [whoF_ds] at ho
          have hrr := HR.out.2.2.2.1.below hB HR.out.2.2.2.1.lt
          have ck := hrr.cell j (lcells_at (by omega))
          rw [← HPQ.out.1] at ck
          have HX := Lib.hid (And.intro ho hB)
          clear ho hB hrr
          match hd : dsN j lost with
          | [] =>
            have ho := HX.out.1
            rw [hd] at ho
            obtain ⟨ao, co, rfl⟩ := own_shape1 ho
            have HE := Lib.hid (datB_nil (n := n) (cols := cols) (t := t) hd)
            clear ho hd
            go_wp2_with fail
            go_returns
            exact ⟨_, rfl, ⟨none, 0, by rw [HE.out]; rfl, .inl (by rw [HE.out]; rfl)⟩, HX.out.2, fun b o m c h => by cases h⟩
          | [i] =>
            have ho := HX.out.1
            have hij := (hasI_on hd (List.mem_cons_self ..)).1
            have hD := datB_one (n := n) hd HK.out HR.out.2.2.2.2.1 ht
            rw [← HR.out.2.2.2.2.2.2.2.2.1, ← HR.out.2.2.2.2.2.2.2.2.2.1, ← HPQ.out.1] at hD
            rw [hd] at ho
            obtain ⟨go, co, rfl, _, hgo, _, _, hcs, _⟩ := (own_form ho).resolve_left (by rintro ⟨_, h⟩; cases h)
            have hc0 := hcs 0 (.int .i64 (i : Int)) rfl
            have HE := Lib.hid hD
            clear ho hd hcs hD
            cases pk with
            | false =>
              have hE : datB n j cols lost t = [lp] := by rw [HE.out, if_neg (by simp)]
              have HE2 := Lib.hid hE
              clear HE hE
              go_wp2_with fail
              go_returns
              refine ⟨_, rfl, ?_, HX.out.2.alloc HX.out.2.size _, fun b o m c h => by cases h; exact HX.out.2.size⟩
              rw [HE2.out]
              exact lit_rd8 [lp] (World.row.new wr [u8V lp] tU8)
            | true =>
              have hE : datB n j cols lost t = [gm lq (inv (pw i))] := by rw [HE.out, if_pos rfl]
              obtain ⟨z, hz⟩ : ∃ z, z = gm lq (inv (pw i)) := ⟨_, rfl⟩
              rw [← hz] at hE
              have hPw := RPower_ok i wr (by omega)
              obtain ⟨A, hA⟩ : ∃ A, A = pw i := ⟨_, rfl⟩
              have hDv := fun w' => RDiv_ok lq A w' hlql (by rw [hA]; exact pw_lt i) (by rw [hA]; exact pw_ne i (by omega))
              rw [← hA] at hPw
              rw [← hA] at hz
              simp only [← hz] at hDv
              have HE2 := Lib.hid (And.intro hE (And.intro hPw hDv))
              clear HE hE hz hPw hDv hA
              go_wp2_with fail
              refine HE2.out.2.1.mono ?_
              rintro e w4 ⟨rfl, b4⟩
              have hc4 := (b4.cell (p := ⟨go, 0, none⟩) hgo).trans hc0
              have H4 := Lib.hid (HX.out.2.trans (b4.mono HX.out.2.size))
              clear b4
              go_wp2_with fail
              refine (HE2.out.2.2 w4).mono ?_
              rintro e w5 ⟨rfl, b5⟩
              have H5 := Lib.hid (H4.out.trans (b5.mono H4.out.size))
              clear b5
              go_wp2_with fail
              go_returns
              refine ⟨_, rfl, ?_, H5.out.alloc H5.out.size _, fun b o m c h => by cases h; exact H5.out.size⟩
              rw [HE2.out.1]
              exact lit_rd8 [z] (World.row.new w5 [u8V z] tU8)
          | [i, i2] =>
            have ho := HX.out.1
            have hik := (hasI_on hd (List.mem_cons_self ..)).1
            have hik2 := (hasI_on hd (List.mem_cons_of_mem _ (List.mem_cons_self ..))).1
            have hii : i ≠ i2 := by have := (two_of HR.out.2.2.2.2.2.2.2.2.2.2 hd).2.2.2; omega
            obtain ⟨V, hV⟩ : ∃ V, V = gm (inv (pw i ^^^ pw i2)) (lq ^^^ gm lp (pw i)) := ⟨_, rfl⟩
            obtain ⟨z, hz⟩ : ∃ z, z = lp ^^^ V := ⟨_, rfl⟩
            have hE := datB_two (n := n) hd hii HK.out HR.out.2.2.2.2.1 ht HR.out.2.2.2.2.2.2.2.2.1 HR.out.2.2.2.2.2.2.2.2.2.1 hV
            rw [← hz] at hE
            obtain ⟨hzl, hpz, hzq, hon⟩ := look (pw_lt i) (pw_lt i2) (fun h => hii (pw_inj (by omega) (by omega) h)) hlpl hlql hV hz
            have hPw := RPower_ok i wr (by omega)
            have hPw2 := fun w' => RPower_ok i2 w' (by omega)
            have hAl := pw_lt i
            have hBl := pw_lt i2
            obtain ⟨A, hA⟩ : ∃ A, A = pw i := ⟨_, rfl⟩
            obtain ⟨B, hB⟩ : ∃ B, B = pw i2 := ⟨_, rfl⟩
            rw [← hA] at hPw hzq hon hAl
            rw [← hB] at hPw2 hzq hon hBl
            rw [hd] at ho
            obtain ⟨go, co, rfl, _, hgo, _, _, hcs, _⟩ := (own_form ho).resolve_left (by rintro ⟨_, h⟩; cases h)
            have hc0 := hcs 0 (.int .i64 (i : Int)) rfl
            have hc1 := hcs 1 (.int .i64 (i2 : Int)) rfl
            have HE := Lib.hid (And.intro hE (And.intro hPw (And.intro hPw2 (And.intro hpz (And.intro hzq (And.intro hon hc1))))))
            clear ho hd hcs hE hPw hPw2 hpz hzq hon hA hB hV hz hii hc1
            go_wp2_with fail
            refine HE.out.2.1.mono ?_
            rintro e w4 ⟨rfl, b4⟩
            have hc4 := (b4.cell (p := ⟨go, 1, none⟩) hgo).trans HE.out.2.2.2.2.2.2
            have H4 := Lib.hid (HX.out.2.trans (b4.mono HX.out.2.size))
            clear b4 hc0
            go_wp2_with fail
            refine (HE.out.2.2.1 w4).mono ?_
            rintro e w5 ⟨rfl, b5⟩
            have H5 := Lib.hid (H4.out.trans (b5.mono H4.out.size))
            clear b5 hc4
            go_wp2_with fail
            go_loopw [16] (fun x wr => ∃ y : Nat, y ≤ z ∧ x = .int .i64 (y : Int) ∧ Below w.heap.size w wr) (fun x _ => 256 - (intOf x).toNat)
            case atStart => exact ⟨0, by omega, rfl, H5.out⟩
            case round =>
              obtain ⟨y, hy, rfl, hB⟩ := hrel
              have hyl : y < 256 := by omega
              obtain ⟨Y, hY⟩ : ∃ Y, Y = lp ^^^ y := ⟨_, rfl⟩
              have hYl : Y < 256 := by rw [hY]; exact xor_lt8 _ _ hlpl hyl
              have hM1 := RMul_any A y wr hAl hyl
              have hM2 := fun w' => RMul_any B Y w' hBl hYl
              obtain ⟨S, hS⟩ : ∃ S, S = gm A y := ⟨_, rfl⟩
              obtain ⟨T, hT⟩ : ∃ T, T = gm B Y := ⟨_, rfl⟩
              have hSl : S < 256 := by rw [hS]; exact gm_lt _ _ hAl
              have hTl : T < 256 := by rw [hT]; exact gm_lt _ _ hBl
              obtain ⟨U, hU⟩ : ∃ U, U = S ^^^ T := ⟨_, rfl⟩
              have x1 := u8x lp y hlpl hyl
              have x2 := u8x S T hSl hTl
              rw [← hY] at x1
              rw [← hU] at x2
              rw [← hS] at hM1
              rw [← hT] at hM2
              have hUz : U = lq → y = z := fun h => HE.out.2.2.2.2.2.1 y hyl (by rw [← hY, ← hS, ← hT, ← hU]; exact h)
              have hzU : y = z → U = lq := fun h => by rw [hU, hS, hT, hY, h]; exact HE.out.2.2.2.2.1
              have hYV : y = z → Y = V := fun h => by rw [hY, h]; exact HE.out.2.2.2.1
              have HZ := Lib.hid (And.intro hM1 (And.intro hM2 (And.intro hUz (And.intro hzU (And.intro hYV hB)))))
              clear hM1 hM2 hUz hzU hYV hS hT hU hY hB
              by_cases hq : U = lq
              · have hyz := HZ.out.2.2.1 hq
                subst hyz
                have hYV := HZ.out.2.2.2.2.1 rfl
                subst hYV
                subst hq
                go_wp2_with fail
                refine HZ.out.1.mono ?_
                rintro e w6 ⟨rfl, b6⟩
                have H6 := Lib.hid (HZ.out.2.2.2.2.2.trans (b6.mono HZ.out.2.2.2.2.2.size))
                clear b6
                go_wp2_with fail
                refine (HZ.out.2.1 w6).mono ?_
                rintro e w7 ⟨rfl, b7⟩
                have H7 := Lib.hid (H6.out.trans (b7.mono H6.out.size))
                clear b7
                go_wp2_with fail
                go_returns
                refine ⟨_, rfl, ?_, H7.out.alloc H7.out.size _, fun b o m c h => by cases h; exact H7.out.size⟩
                rw [HE.out.1]
                exact lit_rd8 [y, Y] (World.row.new w7 [u8V y, u8V Y] tU8)
              · have hyz : y < z := by
                  rcases Nat.lt_or_ge y z with h | h
                  · exact h
                  · exact absurd (HZ.out.2.2.2.1 (by omega)) hq
                have hUI : ((U : Int) == (lq : Int)) = false := by simp; omega
                go_wp2_with fail
                refine HZ.out.1.mono ?_
                rintro e w6 ⟨rfl, b6⟩
                have H6 := Lib.hid (HZ.out.2.2.2.2.2.trans (b6.mono HZ.out.2.2.2.2.2.size))
                clear b6
                go_wp2_with fail
                refine (HZ.out.2.1 w6).mono ?_
                rintro e w7 ⟨rfl, b7⟩
                have H7 := Lib.hid (H6.out.trans (b7.mono H6.out.size))
                clear b7
                go_wp2_with fail
                go_roundw
                case rel => exact ⟨y + 1, by omega, by go_num, H7.out⟩
                case measure => simp [intOf] <;> omega
          | i :: i2 :: i3 :: r =>
            exfalso
            have := (two_of HR.out.2.2.2.2.2.2.2.2.2.2 hd).1
            cases this
end Go.Proofs.YtjoipibldahbhaaGreatDoor
/- A row of slices of bytes, each of which grows: laws of my own. -/
namespace Go.Proofs.YtjoipibldahbhaaGreatDoor
open Go Go.RowKit
set_option maxRecDepth 100000
variable {w w' : World} {B g k : Nat} {vs : List Value} {f : Nat → List Nat}
abbrev noV : Value := .slice none 0 0
abbrev tBy : TypeId := 62
/-- Slices of bytes in a row at g, each with a block of its own. -/
structure Outs (w : World) (B g k : Nat) (vs : List Value) (f : Nat → List Nat) : Prop where
  row : w.row g vs tBy
  len : vs.length = k + 2
  own : ∀ i, i < k → w.ownsRow B tU8 1 (vs.getD i noV) (f i).length ((f i).map u8V)
  apart : ∀ i j, i < k → j < k → i ≠ j → ∀ x, (vs.getD i noV).ownBlock = some x → (vs.getD j noV).ownBlock ≠ some x
  low : g < B
theorem Outs.below (h : Outs w B g k vs f) (hb : Below w.heap.size w w') : Outs w' B g k vs f :=
  ⟨h.row.below hb h.row.lt, h.len, fun i hi => (h.own i hi).below hb, h.apart, h.low⟩
def upd (f : Nat → List Nat) (i : Nat) (x : Nat) : Nat → List Nat := fun j => if j = i then f i ++ [x] else f j
theorem upd_same (f : Nat → List Nat) (i x : Nat) : upd f i x i = f i ++ [x] := by unfold upd; rw [if_pos rfl]
theorem upd_ne (f : Nat → List Nat) {i j : Nat} (x : Nat) (h : j ≠ i) : upd f i x j = f j := by unfold upd; rw [if_neg h]
theorem Outs.put {i x : Nat} {v' : Value} (h : Outs w B g k vs f) (hi : i < k) (ho : w'.ownsRow B tU8 1 v' ((f i).length + 1) ((f i).map u8V ++ [u8V x])) (hg : w.grownBy w' (vs.getD i noV).ownBlock)
    (hn : v'.ownBlock = (vs.getD i noV).ownBlock ∨ ∃ y, v'.ownBlock = some y ∧ w.heap.size ≤ y) : Outs (w'.setCell ⟨g, i, none⟩ v') B g k (vs.set i v') (upd f i x) := by
  have hgo : ∀ j, j < k → (vs.getD j noV).ownBlock ≠ some g := fun j hj e => by have := ((h.own j hj).lt g e).1; have := h.low; omega
  have hv : v'.ownBlock ≠ some g := fun e => by have := (ho.lt g e).1; have := h.low; omega
  have hlen := h.len
  have hgetN : ∀ j, j ≠ i → (vs.set i v').getD j noV = vs.getD j noV := fun j hj => by rw [List.getD, List.getElem?_set_ne (fun e => hj e.symm)]; rfl
  have hgetS : (vs.set i v').getD i noV = v' := by simp [List.getD, show i < vs.length by omega]
  have hap : ∀ j, j < k → j ≠ i → ∀ x, v'.ownBlock = some x → (vs.getD j noV).ownBlock ≠ some x := fun j hj hji x hx hx2 => by
    rcases hn with e | ⟨y, e, hy⟩
    · rw [e] at hx; exact h.apart i j hi hj (fun e => hji e.symm) x hx hx2
    · rw [e] at hx; rw [Option.some.injEq] at hx; have := ((h.own j hj).lt x hx2).2; omega
  refine ⟨?_, by rw [List.length_set]; exact hlen, fun j hj => ?_, fun a b ha hb hab x hx => ?_, h.low⟩
  · exact (h.row.grown hg (fun e => hgo i hi e.symm)).set i v'
  · by_cases e : j = i
    · subst e
      rw [hgetS, upd_same, List.length_append, List.map_append]
      exact own_same ho fun x hx => Below.heap_setCell _ _ _ _ fun e => hv (by rw [hx]; exact congrArg some e)
    · rw [hgetN j e, upd_ne f x e]
      have h1 : w'.ownsRow B tU8 1 (vs.getD j noV) (f j).length ((f j).map u8V) := own_same (h.own j hj) fun x hx => hg.block x ((h.own j hj).lt x hx).2 (fun e2 => h.apart i j hi hj (fun e3 => e e3.symm) x e2.symm hx)
      exact own_same h1 fun x hx => Below.heap_setCell _ _ _ _ fun e => hgo j hj (by rw [hx]; exact congrArg some e)
  · by_cases e : a = i
    · subst e
      rw [hgetS] at hx
      rw [hgetN b fun e => hab e.symm]
      exact hap b hb (fun e => hab e.symm) x hx
    · rw [hgetN a e] at hx
      by_cases e2 : b = i
      · subst e2
        rw [hgetS]
        exact fun h2 => hap a ha e x h2 hx
      · rw [hgetN b e2]
        exact h.apart a b ha hb hab x hx
end Go.Proofs.YtjoipibldahbhaaGreatDoor
/- The document's 'Fix': contract. -/
namespace Go.Proofs.YtjoipibldahbhaaGreatDoor
open Go Go.RowKit
set_option maxRecDepth 100000
variable {w w' : World} {v vl : Value} {lost : List Int} {cols : List (List Nat)} {n k g : Nat}
theorem app_p {l : List (List Nat)} {a b : List Nat} (h : l.length = k) : (l ++ [a, b]).getD k [] = a := by subst h; simp [List.getD]
theorem app_q {l : List (List Nat)} {a b : List Nat} (h : l.length = k) : (l ++ [a, b]).getD (k + 1) [] = b := by subst h; simp [List.getD]
/-- All that is brought back, as a list. -/
theorem fixD_eq (hk : cols.length = k + 2) : fixD cols lost = (dataL (lenL cols lost) k cols lost).take k ++ [if hasI lost k = true then PL (lenL cols lost) ((dataL (lenL cols lost) k cols lost).take k) else cols.getD k [], if hasI lost (k + 1) = true then QL (lenL cols lost) ((dataL (lenL cols lost) k cols lost).take k) else cols.getD (k + 1) []] := by
  obtain ⟨n, hn⟩ : ∃ n, n = lenL cols lost := ⟨_, rfl⟩
  unfold fixD
  rw [← hn, show cols.length - 2 = k by omega]
  unfold fixL
  have hdl := dataL_len (n := n) (k := k) (cols := cols) (lost := lost)
  obtain ⟨a1, a2, a3⟩ := againL_at (n := n) (p := hasI lost k) (q := hasI lost (k + 1)) (c := dataL n k cols lost) (k := k) (by omega)
  have hb : ∀ i, k ≤ i → (dataL n k cols lost).getD i [] = cols.getD i [] := fun i hi => by
    unfold dataL
    split
    · rfl
    · next i' hd => exact set_ne (by have := (hasI_on hd (List.mem_cons_self ..)).1; omega)
    · next i' j' r hd =>
      have h1 := (hasI_on hd (List.mem_cons_self ..)).1
      have h2 := (hasI_on hd (List.mem_cons_of_mem _ (List.mem_cons_self ..))).1
      rw [set_ne (by omega), set_ne (by omega)]
  rw [hb k (Nat.le_refl _)] at a2
  rw [hb (k + 1) (by omega)] at a3
  have htl : ((dataL n k cols lost).take k).length = k := by rw [List.length_take]; omega
  refine ext_getD (by rw [againL_len, List.length_append, htl]; simp; omega) fun i hi => ?_
  rw [againL_len] at hi
  have h3 : i < k ∨ i = k ∨ i = k + 1 := by omega
  rcases h3 with h3 | rfl | rfl
  · rw [a1 i h3, List.getD, List.getD, List.getElem?_append_left (by omega), List.getElem?_take_of_lt h3]
  · rw [a2]; exact (app_p htl).symm
  · rw [a3]; exact (app_q htl).symm
/-- The bytes of the data columns up to a place. -/
def preB (n k : Nat) (cols : List (List Nat)) (lost : List Int) (t i : Nat) : List Nat := ((dataL n k cols lost).getD i []).take t
theorem dataL_off {i : Nat} (h : hasI lost i = false) (hik : i < k) : (dataL n k cols lost).getD i [] = cols.getD i [] := by
  unfold dataL
  split
  · rfl
  · next i' hd => exact set_ne (fun e => by have := (hasI_on hd (List.mem_cons_self ..)).2; rw [e, h] at this; cases this)
  · next i' j' r hd =>
    have h1 := (hasI_on hd (List.mem_cons_self ..)).2
    have h2 := (hasI_on hd (List.mem_cons_of_mem _ (List.mem_cons_self ..))).2
    have _ := hik
    rw [set_ne (fun e => by rw [e, h] at h1; cases h1), set_ne (fun e => by rw [e, h] at h2; cases h2)]
/-- How many lost data columns lie ahead of a column. -/
def ahead_ (lost : List Int) (i : Nat) : Nat := ((List.range i).filter (hasI lost)).length
theorem datB_at {i t : Nat} (hi : i < k) (hh : hasI lost i = true) : (datB n k cols lost t)[ahead_ lost i]? = some (((dataL n k cols lost).getD i []).getD t 0) := by
  have h1 : (dsN k lost)[ahead_ lost i]? = some i := by
    unfold dsN ahead_
    have e : List.range k = List.range i ++ i :: (List.range (k - i - 1)).map (fun j => i + 1 + j) := by
      apply List.ext_getElem
      · simp; omega
      · intro t h1 h2
        simp only [List.getElem_range]
        by_cases h3 : t < i
        · rw [List.getElem_append_left (by simpa using h3)]; simp
        · rw [List.getElem_append_right (by simp; omega)]
          simp only [List.length_range]
          by_cases h4 : t = i
          · subst h4; simp
          · obtain ⟨s, rfl⟩ : ∃ s, t = i + 1 + s := ⟨t - i - 1, by omega⟩
            simp [show i + 1 + s - i = s + 1 by omega]
    rw [e, List.filter_append, List.getElem?_append_right (Nat.le_refl _), Nat.sub_self, List.filter_cons, if_pos hh]; rfl
  unfold datB
  rw [List.getElem?_map, h1]; rfl
theorem ahead_keep {i : Nat} (h : hasI lost i = true) : ahead_ lost (i + 1) = ahead_ lost i + 1 := by unfold ahead_; rw [filt_succ, if_pos h]
theorem ahead_drop {i : Nat} (h : hasI lost i = false) : ahead_ lost (i + 1) = ahead_ lost i := by unfold ahead_; rw [filt_succ, if_neg (by simp [h])]; rfl
end Go.Proofs.YtjoipibldahbhaaGreatDoor
