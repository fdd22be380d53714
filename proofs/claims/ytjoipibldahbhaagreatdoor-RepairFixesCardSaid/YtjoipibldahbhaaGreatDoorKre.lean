/- Several texts in one: REq There FieldP Once TSet Field RMul RFo RMk. -/
import Derived.Test.YtjoipibldahbhaaGreatDoorKrd
import Derived.Lib.Hide
import Derived.Test.YtjoipibldahbhaaGreatDoorProg
import Derived.Tactics
import Derived.Tactics2
import Derived.Defers
import Derived.Laws.Pointers
import Derived.Laws.LoneSync
import Derived.RegionTactic
import Derived.RegionCalls
import Derived.ChangeAlike
import Derived.Lib.BitFns
import Derived.IntWalk
import Derived.Handy
import Derived.Deep.DeepCutAuto
import Derived.Deep.CutBlock
import Derived.StillTailTactics
import Derived.Maps.AppendAt
import Derived.BigQuiet
import Derived.Deep.OwnRows
/- The law's 'equal' over texts: contract. -/
namespace Go.Proofs.YtjoipibldahbhaaGreatDoor
open Go Go.RowKit
set_option maxRecDepth 100000
variable {w : World}
theorem equal_ok {v u : Value} {ls : List (List Nat)} (w : World) (h1 : RS w v ls) (h2 : RS w u ls) (hl : ls.length ≤ 1000) :
    Calls Tryz.prog 18 #[v, u] w fun e w' => e = .returned (.bool true) ∧ Below w.heap.size w w' := by
  obtain ⟨a1, c1, rfl, _, hc1⟩ := h1
  obtain ⟨a2, c2, rfl, _, hc2⟩ := h2
  have HC := Lib.hid (And.intro hc1 hc2)
  obtain ⟨m, hm⟩ : ∃ m, m = ls.length := ⟨_, rfl⟩
  rw [← hm] at hl ⊢
  have HM := Lib.hid hm
  clear hc1 hc2 hm
  go_enter Tryz.func18, Tryz.ntmps18
  go_wp2_with fail
  go_loopw [13] (fun y wr => ∃ (i : Nat), i ≤ m ∧ y = .int .i64 i ∧ Below w.heap.size w wr) (fun y _ => m - (intOf y).toNat)
  case atStart => exact ⟨0, by omega, rfl, Below.refl _ _⟩
  case round =>
    obtain ⟨i, him, rfl, hB⟩ := hrel
    by_cases hlt2 : i < m
    · have hil : i < ls.length := by rw [← HM.out]; exact hlt2
      have ne : ls ≠ [] := by intro e; rw [e] at hil; simp at hil
      obtain ⟨b1, o1, rfl, d1⟩ := HC.out.1.resolve_left ne
      obtain ⟨b2, o2, rfl, d2⟩ := HC.out.2.resolve_left ne
      have hx : ls[i]? = some ls[i] := List.getElem?_eq_getElem hil
      have g1 := d1 i _ hx
      have g2 := d2 i _ hx
      obtain ⟨y, hy⟩ : ∃ y, y = mk ls[i] := ⟨_, rfl⟩
      unfold strV at g1 g2
      rw [← hy] at g1 g2
      have k1 : wr.cell? ⟨b1, o1 + i, none⟩ = _ := (hB.cell (p := ⟨b1, o1 + i, none⟩) (block_lt_of_cell g1)).trans g1
      have k2 : wr.cell? ⟨b2, o2 + i, none⟩ = _ := (hB.cell (p := ⟨b2, o2 + i, none⟩) (block_lt_of_cell g2)).trans g2
      clear g1 g2 d1 d2 ne hx hil hy
      go_wp2_with fail
      go_quiet (fail)
      go_wp2_with fail
      go_roundw
      case rel => exact ⟨i + 1, by omega, by go_num, hB.drewN _⟩
      case measure => simp [intOf] <;> omega
    · go_wp2_with fail
      go_returns
      exact ⟨rfl, hB⟩
end Go.Proofs.YtjoipibldahbhaaGreatDoor
/- The columns that are there: contract. -/
namespace Go.Proofs.YtjoipibldahbhaaGreatDoor
open Go Go.RowKit
set_option maxRecDepth 100000
variable {w w' : World} {B : Nat} {v : Value} {ls : List (List Nat)} {lost : List Int} {k : Nat}
def thereF (ls : List (List Nat)) (lost : List Int) (j : Nat) : List (List Nat) := ((List.range j).filter fun i => !hasI lost i).map fun i => ls.getD i []
def thereL (ls : List (List Nat)) (lost : List Int) : List (List Nat) := thereF ls lost ls.length
theorem thereF_keep {j : Nat} (h : hasI lost j = false) : thereF ls lost (j + 1) = thereF ls lost j ++ [ls.getD j []] := by
  unfold thereF; rw [List.range_succ, List.filter_append]; simp [h]
theorem thereF_drop {j : Nat} (h : hasI lost j = true) : thereF ls lost (j + 1) = thereF ls lost j := by
  unfold thereF; rw [List.range_succ, List.filter_append]; simp [h]
theorem thereF_len (j : Nat) : (thereF ls lost j).length ≤ j := by
  unfold thereF; rw [List.length_map]
  exact Nat.le_trans (List.length_filter_le _ _) (by simp)
theorem thereF_mem {l : List Nat} {j : Nat} (hj : j ≤ ls.length) (h : l ∈ thereF ls lost j) : l ∈ ls := by
  unfold thereF at h
  obtain ⟨i, hi, rfl⟩ := List.mem_map.1 h
  have h1 : i < j := by simpa using (List.mem_filter.1 hi).1
  rw [List.getD, List.getElem?_eq_getElem (by omega)]
  exact List.getElem_mem _
theorem dsI_con {i : Nat} (hi : i < k) : (dsI k lost).contains (i : Int) = hasI lost i := by
  rw [Bool.eq_iff_iff, List.contains_iff_mem, dsI_mem]
  unfold hasI
  rw [List.contains_iff_mem]
  exact ⟨fun h => h.2.2, fun h => ⟨by omega, by omega, h⟩⟩
theorem dsI_out {i : Nat} (hi : k ≤ i) : (dsI k lost).contains (i : Int) = false := by
  rw [← Bool.not_eq_true, List.contains_iff_mem, dsI_mem]
  rintro ⟨_, h, _⟩
  omega
theorem info_str : ∃ i0, Tryz.prog.info? tStr = some i0 ∧ i0.zero = some (.string { data := #[] }) ∧ i0.size = 1 ∧ i0.bytes = 16 := ⟨_, rfl, rfl, rfl, rfl⟩
theorem strs_snoc {B : Nat} {e : TypeId} {os : List (List Nat)} {l : List Nat} (h : w.ownsRow B e 1 v (os.length + 1) (os.map strV ++ [strV l])) : w.ownsRow B e 1 v (os ++ [l]).length ((os ++ [l]).map strV) := by
  rw [List.length_append, List.map_append]
  exact h
set_option maxHeartbeats 8000000 in
theorem there_ok {a : Option Addr} {n c : Nat} {p q : Bool} (w : World) (h : RS w v ls) (hk : ls.length = k + 2) (hk30 : k ≤ 30) (hp : p = hasI lost k) (hq : q = hasI lost (k + 1)) (hd : w.rd (.slice a n c) (iV (dsI k lost))) (hdl : (dsI k lost).length ≤ 1000) :
    Calls Tryz.prog 25 #[v, lossV (.slice a n c) p q] w fun e w' => ∃ v', e = .returned v' ∧ RS w' v' (thereL ls lost) ∧ Below w.heap.size w w' := by
  rcases h.cases with ⟨rfl, _⟩ | ⟨hne, b, o, cp, rfl, hc, hcell⟩
  · simp at hk
  obtain ⟨m, hm⟩ : ∃ m, m = ls.length := ⟨_, rfl⟩
  obtain ⟨i0, hi0, hz0, hz1, hz2⟩ := info_str
  have HI : Hid (Tryz.prog.info? tStr = some i0 ∧ i0.zero = some (.string { data := #[] }) ∧ i0.size = 1 ∧ i0.bytes = 16) := ⟨hi0, hz0, hz1, hz2⟩
  rw [← hm] at hc ⊢
  have hmk : (m : Int) - 2 = (k : Int) := by omega
  have hm2 : m = k + 2 := by omega
  have HR := Lib.hid (And.intro hcell (And.intro hm (And.intro hp (And.intro hq (And.intro hd hdl)))))
  have HM := Lib.hid hm2
  clear hcell hm hp hq hd hdl hi0 hz0 hz1 hz2 hne h hk hm2
  go_enter Tryz.func25, Tryz.ntmps25
  go_wp2_with fail
  obtain ⟨g, hg⟩ : ∃ g, g = w.heap.size := ⟨_, rfl⟩
  refine wp_world (fun w1 => w1.row g (lcs (.slice a n c) p q) tLs ∧ Below w.heap.size w w1 ∧ g < w1.heap.size) ⟨World.row.new' (cs := lcs (.slice a n c) p q) hg.symm, (by repeat' (first | (with_reducible exact Below.refl _ _) | (with_reducible assumption) | (with_reducible refine Below.setCell ?_ ?_ _) | (with_reducible refine Below.ext ?_ _ ?_) | (with_reducible refine Below.alloc ?_ ?_ _) | (with_reducible refine Below.drew ?_) | (with_reducible refine Below.drewN ?_ _) | (with_reducible exact Nat.le_refl _) | (dsimp only; omega) | (simp <;> omega))), by rw [hg]; simp⟩ ?_
  rintro w1 ⟨r1, B1, s1⟩
  rw [← hg]
  have hgw : w.heap.size ≤ g := by omega
  have s1 : g + 1 ≤ w1.heap.size := s1
  have H1 := Lib.hid (And.intro r1 B1)
  clear r1 B1 hg
  go_loopw [5, 11] (fun x y wr => ∃ (j : Nat) (os : List (List Nat)), j ≤ m ∧ y = .int .i64 (j : Int) ∧ os = thereF ls lost j ∧ wr.ownsRow (g + 1) tStr 1 x os.length (os.map strV) ∧ wr.row g (lcs (.slice a n c) p q) tLs ∧ Below w.heap.size w wr ∧ g + 1 ≤ wr.heap.size) (fun _ y _ => m - (intOf y).toNat)
  case atStart => exact ⟨0, [], by omega, rfl, rfl, World.ownsRow_nil _ _ _ _, H1.out.1, H1.out.2, s1⟩
  case round =>
    obtain ⟨j, os, hj, rfl, hos, ho, r1, hB, hs⟩ := hrel
    obtain ⟨ao, co, rfl⟩ := own_shape1 ho
    by_cases hlt : j < m
    · have hlj : ls[j]? = some (ls.getD j []) := by rw [List.getD, List.getElem?_eq_getElem (by rw [← HR.out.2.1]; exact hlt)]; rfl
      obtain ⟨l, hl⟩ : ∃ l, l = ls.getD j [] := ⟨_, rfl⟩
      rw [← hl] at hlj
      have hcj := HR.out.1 j l hlj
      have hbl := block_lt_of_cell hcj
      have d0 := (hB.cell (p := ⟨b, o + j, none⟩) hbl).trans hcj
      have hbw : b < wr.heap.size := Nat.lt_of_lt_of_le hbl hB.size
      obtain ⟨c0, c1, c2, cz⟩ : wr.cell? ⟨g, 0, none⟩ = some (.slice a n c) ∧ wr.cell? ⟨g, 1, none⟩ = some (.bool p) ∧ wr.cell? ⟨g, 2, none⟩ = some (.bool q) ∧ (∀ i, wr.frozen? ⟨g, i, none⟩ = false) := ⟨r1.cell 0 rfl, r1.cell 1 rfl, r1.cell 2 rfl, r1.free⟩
      have hgl := r1.lt
      have hcon := con_rd (j : Int) (HR.out.2.2.2.2.1.below hB (Nat.le_refl _)) (by have := HR.out.2.2.2.2.2; omega)
      obtain ⟨bc, hbc⟩ : ∃ bc, bc = (dsI k lost).contains (j : Int) := ⟨_, rfl⟩
      rw [← hbc] at hcon
      obtain ⟨s, hsm⟩ : ∃ s, s = mk l := ⟨_, rfl⟩
      simp only [strV] at d0
      rw [← hsm] at d0
      have hol : os.length ≤ j := by rw [hos]; exact thereF_len j
      have HF := Lib.hid (And.intro hos (And.intro ho (And.intro r1 (And.intro hB (And.intro hcon (And.intro hl hsm))))))
      clear hos ho r1 hB hcon hl hlj hcj hsm
      obtain ⟨b1, hb1⟩ : ∃ b1, b1 = ((j : Int) == (k : Int)) := ⟨_, rfl⟩
      obtain ⟨b2, hb2⟩ : ∃ b2, b2 = ((j : Int) == (k : Int) + 1) := ⟨_, rfl⟩
      have hM : hasI lost j = (bc || (p && b1) || (q && b2)) ∧ (bc = true → b1 = false ∧ b2 = false) ∧ (b1 = true → b2 = false) := by
        have hj3 : j < k ∨ j = k ∨ j = k + 1 := by have := HM.out; omega
        rcases hj3 with h | h | h
        · have e1 : b1 = false := by rw [hb1]; simp; omega
          have e2 : b2 = false := by rw [hb2]; simp; omega
          rw [e1, e2, hbc, dsI_con h]; simp
        · subst h
          have e1 : b1 = true := by rw [hb1]; simp
          have e2 : b2 = false := by rw [hb2]; simp; omega
          rw [e1, e2, hbc, dsI_out (Nat.le_refl _), HR.out.2.2.1]; simp
        · subst h
          have e1 : b1 = false := by rw [hb1]; simp; omega
          have e2 : b2 = true := by rw [hb2]; simp
          rw [e1, e2, hbc, dsI_out (by omega), HR.out.2.2.2.1]; simp
      have hb1' := hb1.symm
      have hb2' := hb2.symm
      clear hb1 hb2 hbc
      have HK := Lib.hid (fun h : hasI lost j = true => thereF_drop (ls := ls) h)
      have HG := Lib.hid (fun h : hasI lost j = false => thereF_keep (ls := ls) h)
      have hm30 : m ≤ 32 := by have := HM.out; omega
      cases hM2 : hasI lost j with
      | true =>
        rw [hM2] at hM
        have H2 := Lib.hid (HK.out hM2)
        clear HK HG hM2
        cases bc <;> cases p <;> cases q <;> cases b1 <;> cases b2 <;> (first | (exfalso; revert hM; simp; done) | skip)
        all_goals
          clear hM
          go_wp2_with fail
          refine HF.out.2.2.2.2.1.mono ?_
          rintro e w2 ⟨rfl, rfl⟩
          go_wp2_with fail
          go_roundw
          case rel => exact ⟨j + 1, os, by omega, by go_num, by rw [H2.out]; exact HF.out.1, HF.out.2.1, HF.out.2.2.1, HF.out.2.2.2.1, hs⟩
          case measure => simp [intOf] <;> omega
      | false =>
        rw [hM2] at hM
        have H2 := Lib.hid (HG.out hM2)
        clear HK HG hM2
        cases bc <;> cases p <;> cases q <;> cases b1 <;> cases b2 <;> (first | (exfalso; revert hM; simp; done) | skip)
        all_goals
          clear hM
          go_wp2_with fail
          refine HF.out.2.2.2.2.1.mono ?_
          rintro e w2 ⟨rfl, rfl⟩
          go_wp2_with (at_builtin; refine wpList_append_own _ rfl _ _ 33 rfl (g + 1) tStr i0 (.string { data := #[] }) 1 16 Tryz.underlying33 HI.out.1 HI.out.2.1 HI.out.2.2.1 HI.out.2.2.2 rfl (by decide) _ _ _ rfl (HF.out.2.1.alloc _) ⟨wr.heap.size, 0, none⟩ 1 1 [.string s] rfl rfl ?c1 ?c2 ?c3 ?c4 ?c5 ?_)
          case c1 => exact one_cell _ _ _
          case c2 => simp [Value.oneCell']
          case c3 => unfold maxLen; omega
          case c4 => omega
          case c5 => simp; omega
          intro v' w3 ho3 hg3 _
          have s6 := (HF.out.2.2.1.alloc (.cells #[.string s] tStr)).grown hg3 (fun e => by have := (HF.out.2.1.lt g e.symm).1; omega)
          have B3 : Below w.heap.size w w3 := (HF.out.2.2.2.1.alloc HF.out.2.2.2.1.size _).grown hg3 (by simp; omega) (fun k hk => by have := (HF.out.2.1.lt k hk).1; omega)
          have hs3 : g + 1 ≤ w3.heap.size := by have := hg3.size; simp at this; omega
          rw [HF.out.2.2.2.2.2.2] at ho3
          have ho4 := strs_snoc ho3
          have H3 := Lib.hid (And.intro s6 (And.intro B3 ho4))
          clear s6 B3 ho4 ho3 hg3
          go_wp2_with fail
          go_roundw
          case rel => exact ⟨j + 1, os ++ [l], by omega, by go_num, by rw [H2.out, HF.out.1, HF.out.2.2.2.2.2.1], H3.out.2.2, H3.out.1, H3.out.2.1, hs3⟩
          case measure => simp [intOf] <;> omega
    · obtain rfl : j = m := by omega
      have HF := Lib.hid (And.intro ho (And.intro hos hB))
      clear ho hos hB r1
      go_wp2_with fail
      go_returns
      refine ⟨_, rfl, ?_, HF.out.2.2⟩
      have := RS.of_own HF.out.1
      rw [HF.out.2.1, HR.out.2.1] at this
      rw [HF.out.2.1, HR.out.2.1]
      exact this
end Go.Proofs.YtjoipibldahbhaaGreatDoor
/- The cells of a field of 256 elements: plain laws. No program in it. -/
namespace Go.Proofs.YtjoipibldahbhaaGreatDoor
open Go Go.RowKit
/-- Cell j of a field whose tables are made for the first k powers. -/
def fldC (d s m : Int) (k j : Nat) : Value :=
  if j = 0 then .int .u32 d else if j = 1 then .int .i32 s else if j = 2 then .int .u32 0 else if j = 3 then .int .i64 m
  else if j < 260 then .int .i64 (if j - 4 ≠ 0 ∧ lg (j - 4) < k then ((lg (j - 4) : Nat) : Int) else 0)
  else .int .u8 (if (j - 260) % 255 < k then ((pw ((j - 260) % 255) : Nat) : Int) else 0)
def fld (d s m : Int) (k : Nat) : List Value := (List.range 770).map (fldC d s m k)
theorem fld_len (d s m : Int) (k : Nat) : (fld d s m k).length = 770 := by simp [fld]
theorem fld_get (d s m : Int) (k j : Nat) (h : j < 770) : (fld d s m k)[j]? = some (fldC d s m k j) := by simp [fld, h]
theorem fld_set {d s m d' s' m' : Int} {k k' i : Nat} {v : Value} (_hi : i < 770) (h : ∀ j, j < 770 → fldC d' s' m' k' j = if j = i then v else fldC d s m k j) : (fld d s m k).set i v = fld d' s' m' k' := by
  apply List.ext_getElem?
  intro j
  by_cases hj : j < 770
  · rw [fld_get _ _ _ _ _ hj, h j hj, List.getElem?_set, fld_len]
    by_cases e : i = j
    · subst e; simp [hj]
    · rw [if_neg e, if_neg (Ne.symm e), fld_get _ _ _ _ _ hj]
  · rw [List.getElem?_eq_none (by rw [List.length_set, fld_len]; omega), List.getElem?_eq_none (by rw [fld_len]; omega)]
theorem fld_lock (d s s' m : Int) (k : Nat) : (fld d s m k).set 1 (.int .i32 s') = fld d s' m k := fld_set (by omega) fun j _ => by
  unfold fldC; by_cases h : j = 1 <;> simp [h]
theorem fld_done (d d' s m : Int) (k : Nat) : (fld d s m k).set 0 (.int .u32 d') = fld d' s m k := fld_set (by omega) fun j _ => by
  unfold fldC; by_cases h : j = 0 <;> simp [h]
theorem fld_made (d s m m' : Int) (k : Nat) : (fld d s m k).set 3 (.int .i64 m') = fld d s m' k := fld_set (by omega) fun j _ => by
  unfold fldC; by_cases h : j = 3 <;> simp [h]
/-- One power more. -/
theorem fld_step (d s m : Int) (k : Nat) (hk : k < 255) :
    (((fld d s m k).set (260 + k) (.int .u8 (pw k : Int))).set (260 + (k + 255)) (.int .u8 (pw k : Int))).set (4 + pw k) (.int .i64 (k : Int)) = fld d s m (k + 1) := by
  have hp := pw_lt k
  apply List.ext_getElem?
  intro j
  by_cases hj : j < 770
  · rw [fld_get _ _ _ _ _ hj, List.getElem?_set, List.getElem?_set, List.getElem?_set]
    simp only [List.length_set, fld_len]
    by_cases h3 : 4 + pw k = j
    · rw [if_pos h3, if_pos (by omega)]
      have e : j - 4 = pw k := by omega
      have hn := pw_ne k hk
      unfold fldC
      rw [if_neg (by omega), if_neg (by omega), if_neg (by omega), if_neg (by omega), if_pos (by omega), e, lg_pw k hk, if_pos ⟨hn, by omega⟩]
    · rw [if_neg h3]
      by_cases h2 : 260 + (k + 255) = j
      · rw [if_pos h2, if_pos (by omega)]
        have e : (j - 260) % 255 = k := by omega
        unfold fldC
        rw [if_neg (by omega), if_neg (by omega), if_neg (by omega), if_neg (by omega), if_neg (by omega), e, if_pos (by omega)]
      · rw [if_neg h2]
        by_cases h1 : 260 + k = j
        · rw [if_pos h1, if_pos (by omega)]
          have e : (j - 260) % 255 = k := by omega
          unfold fldC
          rw [if_neg (by omega), if_neg (by omega), if_neg (by omega), if_neg (by omega), if_neg (by omega), e, if_pos (by omega)]
        · rw [if_neg h1, fld_get _ _ _ _ _ hj]
          unfold fldC
          by_cases hl : j < 260
          · by_cases h4 : j < 4
            · have : j = 0 ∨ j = 1 ∨ j = 2 ∨ j = 3 := by omega
              rcases this with rfl | rfl | rfl | rfl <;> rfl
            · have hne : j - 4 ≠ 0 → lg (j - 4) ≠ k := fun h0 e => by
                have := (lg_ok (j - 4) (by omega) h0).2
                rw [e] at this
                omega
              have e0 : ¬ j = 0 := by omega
              have e1 : ¬ j = 1 := by omega
              have e2 : ¬ j = 2 := by omega
              have e3 : ¬ j = 3 := by omega
              simp only [e0, e1, e2, e3, hl, if_false, if_true]
              by_cases h0 : j - 4 = 0
              · rw [if_neg (by simp [h0]), if_neg (by simp [h0])]
              · have := hne h0
                by_cases hlt : lg (j - 4) < k
                · rw [if_pos ⟨h0, hlt⟩, if_pos ⟨h0, by omega⟩]
                · rw [if_neg (by simp [hlt]), if_neg (by rintro ⟨_, h⟩; omega)]
          · have : (j - 260) % 255 ≠ k := by omega
            have e0 : ¬ j = 0 := by omega
            have e1 : ¬ j = 1 := by omega
            have e2 : ¬ j = 2 := by omega
            have e3 : ¬ j = 3 := by omega
            simp only [e0, e1, e2, e3, hl, if_false]
            by_cases hlt : (j - 260) % 255 < k
            · rw [if_pos hlt, if_pos (by omega)]
            · rw [if_neg hlt, if_neg (by omega)]
  · rw [List.getElem?_eq_none (by simp only [List.length_set, fld_len]; omega), List.getElem?_eq_none (by rw [fld_len]; omega)]
/-- A field whose tables aren't made yet, and one whose tables are. -/
abbrev fld0 : List Value := fld 0 0 0 0
abbrev fld1 : List Value := fld 1 0 1 255
theorem fld1_log (c : Nat) (hc : c < 256) (h0 : c ≠ 0) : fld1[4 + c]? = some (.int .i64 ((lg c : Nat) : Int)) := by
  rw [fld_get _ _ _ _ _ (by omega)]
  unfold fldC
  have := (lg_ok c hc h0).1
  rw [if_neg (by omega), if_neg (by omega), if_neg (by omega), if_neg (by omega), if_pos (by omega), show 4 + c - 4 = c by omega, if_pos ⟨h0, this⟩]
theorem fld1_exp (i : Nat) (hi : i < 510) : fld1[260 + i]? = some (.int .u8 ((pw (i % 255) : Nat) : Int)) := by
  rw [fld_get _ _ _ _ _ (by omega)]
  unfold fldC
  rw [if_neg (by omega), if_neg (by omega), if_neg (by omega), if_neg (by omega), if_neg (by omega), show 260 + i - 260 = i by omega, if_pos (by omega)]
theorem inv_mod (c : Nat) (hc : c < 256) (h0 : c ≠ 0) : pw ((255 - lg c) % 255) = inv c := by
  have := (lg_ok c hc h0).1
  unfold inv
  by_cases h : lg c = 0
  · rw [h]
    show pw 0 = pw 255
    rw [pw_255]; rfl
  · rw [Nat.mod_eq_of_lt (by omega)]
theorem lg_one : lg 1 = 0 := by decide +kernel
end Go.Proofs.YtjoipibldahbhaaGreatDoor
/- sync.Once, atomics, of one goroutine: contracts. -/
namespace Go.Proofs.YtjoipibldahbhaaGreatDoor
open Go Go.RowKit
set_option maxRecDepth 100000
theorem disable_any (w : World) : (callFunc 117 #[]).run Tryz.prog w = .ok (.value (.tuple #[])) w := run_call_mark0 Tryz.func117 (by kernel_rfl) (by kernel_rfl) (by kernel_rfl) .disable (by kernel_rfl) w
theorem enable_any (w : World) : (callFunc 119 #[]).run Tryz.prog w = .ok (.value (.tuple #[])) w := run_call_mark0 Tryz.func119 (by kernel_rfl) (by kernel_rfl) (by kernel_rfl) .enable (by kernel_rfl) w
theorem acquire_any (a : Addr) (w : World) : (callFunc 120 #[.pointer (some a)]).run Tryz.prog w = .ok (.value (.tuple #[])) w := run_call_marked Tryz.func120 (by kernel_rfl) (by kernel_rfl) (by kernel_rfl) .acquire (by kernel_rfl) a w
theorem release_any (a : Addr) (w : World) : (callFunc 122 #[.pointer (some a)]).run Tryz.prog w = .ok (.value (.tuple #[])) w := run_call_marked Tryz.func122 (by kernel_rfl) (by kernel_rfl) (by kernel_rfl) .releaseMerge (by kernel_rfl) a w
/-- A stored truth, entered as a deferred call. -/
theorem store_deferred (a : Addr) (x : Value) (u : FrameMode) (w : World) (hc : w.cell? a = some x) (hz : w.frozen? a = false) :
    CallsD Tryz.prog 112 #[.pointer (some a), .bool true] u w fun e u' w' => u' = u ∧ (e = .returned (.tuple #[]) ∧ w' = w.drew.setCell a (.int .u32 1)) := by
  have hc' : w.drew.cell? a = some x := by go_simp
  have hz' : w.drew.frozen? a = false := by go_simp
  have hst := run_call_store (P := Tryz.prog) Tryz.func115 (by kernel_rfl) (by kernel_rfl) (by kernel_rfl) (by kernel_rfl) (k := .u32) (y := 1) hc' hz'
  go_enter_d Tryz.func112, Tryz.ntmps112
  go_wp2
  go_region_calls
  all_goals (go_end0; exact ⟨rfl, rfl⟩)
theorem unlock_deferred (a : Addr) (u : FrameMode) (w : World) (hc : w.cell? a = some (.int .i32 1)) (hz : w.frozen? a = false) :
    CallsD Tryz.prog 111 #[.pointer (some a)] u w fun e u' w' => u' = u ∧ (e = .returned (.tuple #[]) ∧ w' = w.setCell a (.int .i32 0)) := by
  have hd := disable_any
  have he := enable_any
  have hr := release_any
  have hadd := run_call_add (P := Tryz.prog) Tryz.func123 (by kernel_rfl) (by kernel_rfl) (by kernel_rfl) .i32 (by kernel_rfl) (y := -1) (s := 0) hc hz (by simp [go_sem]; rfl)
  have hcv := run_convert_to_unsafe (P := Tryz.prog) (src := 196) (dst := 186) Tryz.underlying196 Tryz.underlying186 (by kernel_rfl) hc
  go_enter_d Tryz.func111, Tryz.ntmps111
  go_wp2
  go_end0
  go_wp2
  all_goals go_end0
  all_goals exact ⟨rfl, rfl⟩
theorem lock_free (a : Addr) (w : World) (hc : w.cell? a = some (.int .i32 0)) (hz : w.frozen? a = false) :
    Calls Tryz.prog 110 #[.pointer (some a)] w fun e w' => e = .returned (.tuple #[]) ∧ w' = w.setCell a (.int .i32 1) := by
  have hd := disable_any
  have he := enable_any
  have ha := acquire_any
  have hcas := run_call_cas_hit (P := Tryz.prog) Tryz.func118 (by kernel_rfl) (by kernel_rfl) (by kernel_rfl) .i32 (by kernel_rfl) (y := 1) hc hz
  have hc' : (w.setCell a (.int .i32 1)).cell? a = some (.int .i32 1) := World.cell?_setCell_same w a _ hc
  have hcv := run_convert_to_unsafe (P := Tryz.prog) (src := 196) (dst := 186) Tryz.underlying196 Tryz.underlying186 (by kernel_rfl) hc'
  go_enter Tryz.func110, Tryz.ntmps110
  go_wp2
  first | go_end0 | (simp only [Exit.inBlock, Exit.then]; refine bodyPost_ret (results_none rfl _ _ _) rfl ?_) | refine bodyPost_ret (results_none rfl _ _ _) rfl ?_
  go_wp2
  all_goals go_end0
  all_goals exact ⟨rfl, rfl⟩
end Go.Proofs.YtjoipibldahbhaaGreatDoor
/- The 74 counts of a tally as one row of cells; what its calls make of them: plain laws. -/
namespace Go.Proofs.YtjoipibldahbhaaGreatDoor
open Go Go.RowKit
/-- The greatest count. -/
abbrev GR : Int := 4611686018427387904
def cel (f : Nat → Int) : List Value := (List.range 74).map fun i => .int .i64 (f i)
theorem cel_len (f : Nat → Int) : (cel f).length = 74 := by simp [cel]
theorem cel_get (f : Nat → Int) (i : Nat) (h : i < 74) : (cel f)[i]? = some (.int .i64 (f i)) := by simp [cel, h]
theorem cel_ext {f h : Nat → Int} (e : ∀ i, i < 74 → f i = h i) : cel f = cel h := by
  unfold cel
  exact List.map_congr_left fun i hi => by rw [e i (by simpa using hi)]
def put (f : Nat → Int) (i : Nat) (v : Int) : Nat → Int := fun j => if j = i then v else f j
theorem put_at (f : Nat → Int) (i : Nat) (v : Int) : put f i v i = v := by simp [put]
theorem put_ne (f : Nat → Int) (i j : Nat) (v : Int) (h : j ≠ i) : put f i v j = f j := by simp [put, h]
theorem put_put (f : Nat → Int) (i : Nat) (u v : Int) : put (put f i u) i v = put f i v := by funext j; unfold put; split <;> rfl
theorem put_same (f : Nat → Int) (i : Nat) : put f i (f i) = f := by
  funext j; unfold put; split
  · next h => rw [h]
  · rfl
theorem put_comm (f : Nat → Int) (i j : Nat) (u v : Int) (h : i ≠ j) : put (put f i u) j v = put (put f j v) i u := by
  funext k; unfold put; by_cases h1 : k = i <;> by_cases h2 : k = j <;> simp_all
theorem cel_set (f : Nat → Int) (i : Nat) (v : Int) : (cel f).set i (.int .i64 v) = cel (put f i v) := by
  apply List.ext_getElem?
  intro j
  rw [List.getElem?_set]
  by_cases h : i = j
  · subst h
    by_cases h2 : i < 74
    · rw [if_pos rfl, if_pos (by rw [cel_len]; exact h2), cel_get _ _ h2, put_at]
    · have : ¬ i < (cel f).length := by rw [cel_len]; exact h2
      rw [if_pos rfl, if_neg this, List.getElem?_eq_none (by rw [cel_len]; omega)]
  · rw [if_neg h]
    by_cases h2 : j < 74
    · rw [cel_get _ _ h2, cel_get _ _ h2, put_ne _ _ _ _ (Ne.symm h)]
    · rw [List.getElem?_eq_none (by rw [cel_len]; omega), List.getElem?_eq_none (by rw [cel_len]; omega)]
def zeroF : Nat → Int := fun _ => 0
/-- One count goes up. -/
def upS (a n : Int) : Int := a + min n (GR - a)
def addS (f : Nat → Int) (k n : Int) : Nat → Int := if 0 ≤ k ∧ k < 9 ∧ 0 < n then put f k.toNat (upS (f k.toNat) n) else f
def bl (s : Int) : Nat := Lib.bitLen (max 0 s).toNat
def noteS (f : Nat → Int) (s : Int) : Nat → Int := put (put f (9 + bl s) (upS (f (9 + bl s)) 1)) 73 (max (f 73) s)
/-- All counts are counts. -/
structure Fine (f : Nat → Int) : Prop where
  lo : ∀ i, 0 ≤ f i
  hi : ∀ i, i < 73 → f i ≤ GR
  top : f 73 ≤ 9223372036854775807
theorem upS_le {a n : Int} (_ : a ≤ GR) : upS a n ≤ GR := by unfold upS; omega
theorem upS_ge {a n : Int} (h : a ≤ GR) (hn : 0 ≤ n) : a ≤ upS a n := by unfold upS; omega
theorem fine_zero : Fine zeroF := ⟨fun _ => Int.le_refl _, fun _ _ => by show (0 : Int) ≤ _; decide, by show (0 : Int) ≤ _; decide⟩
theorem Fine.put {f : Nat → Int} (h : Fine f) (i : Nat) (v : Int) (hi : i < 73) (h0 : 0 ≤ v) (h1 : v ≤ GR) : Fine (put f i v) := by
  refine ⟨fun j => ?_, fun j hj => ?_, ?_⟩
  · unfold YtjoipibldahbhaaGreatDoor.put; split
    · exact h0
    · exact h.lo j
  · unfold YtjoipibldahbhaaGreatDoor.put; split
    · exact h1
    · exact h.hi j hj
  · rw [put_ne _ _ _ _ (by omega)]; exact h.top
theorem Fine.puttop {f : Nat → Int} (h : Fine f) (v : Int) (h0 : 0 ≤ v) (h1 : v ≤ 9223372036854775807) : Fine (YtjoipibldahbhaaGreatDoor.put f 73 v) := by
  refine ⟨fun j => ?_, fun j hj => ?_, ?_⟩
  · unfold YtjoipibldahbhaaGreatDoor.put; split
    · exact h0
    · exact h.lo j
  · rw [put_ne _ _ _ _ (by omega)]; exact h.hi j hj
  · rw [put_at]; exact h1
theorem bl_lt (s : Int) (h : s ≤ 9223372036854775807) : bl s < 64 := by
  unfold bl
  have := Lib.bitLen_le (max 0 s).toNat 63 (by omega) (by omega)
  omega
theorem Fine.add {f : Nat → Int} (h : Fine f) (k n : Int) : Fine (addS f k n) := by
  unfold addS
  split
  · next hc =>
    have h1 := h.hi k.toNat (by omega)
    have h2 := h.lo k.toNat
    exact h.put _ _ (by omega) (Int.le_trans h2 (upS_ge h1 (by omega))) (upS_le h1)
  · exact h
theorem Fine.note {f : Nat → Int} (h : Fine f) (s : Int) (hs : s ≤ 9223372036854775807) : Fine (noteS f s) := by
  unfold noteS
  have hb := bl_lt s hs
  have h1 := h.hi (9 + bl s) (by omega)
  have h2 := h.lo (9 + bl s)
  have h3 := h.lo 73
  have h4 := h.top
  exact (h.put _ _ (by omega) (Int.le_trans h2 (upS_ge h1 (by omega))) (upS_le h1)).puttop _ (by omega) (by omega)
/-! What a call that turns one block leaves. -/
def Turned (w w' : World) (g : Nat) (cs : List Value) (t : TypeId) : Prop := w.grownBy w' (some g) ∧ w'.row g cs t
variable {w w' : World} {g : Nat} {cs : List Value} {t : TypeId}
theorem Turned.rowOf (h : Turned w w' g cs t) : w'.row g cs t := h.2
theorem Turned.other (h : Turned w w' g cs t) {b : Nat} {ds : List Value} {t' : TypeId} (hr : w.row b ds t') (hn : b ≠ g) : w'.row b ds t' := hr.grown h.1 (by simpa using hn)
theorem Turned.size (h : Turned w w' g cs t) : w.heap.size ≤ w'.heap.size := h.1.size
theorem Turned.below (h : Turned w w' g cs t) {B : Nat} {u : World} (hb : Below B u w) (hB : B ≤ w.heap.size) (hg : B ≤ g) : Below B u w' := hb.grown h.1 hB (fun k hk => by cases hk; exact hg)
theorem Turned.under (h : Turned w w' g cs t) {B : Nat} (hB : B ≤ w.heap.size) (hg : B ≤ g) : Below B w w' := h.below (Below.refl _ _) hB hg
theorem Turned.trans {w'' : World} {ds : List Value} (h : Turned w w' g cs t) (h2 : Turned w' w'' g ds t) : Turned w w'' g ds t :=
  ⟨⟨h2.1.os.trans h.1.os, h2.1.tape.trans h.1.tape, h2.1.output.trans h.1.output, Nat.le_trans h.1.size h2.1.size, fun k hk hn => (h2.1.block k (Nat.lt_of_lt_of_le hk h.1.size) hn).trans (h.1.block k hk hn)⟩, h2.2⟩
theorem Turned.same (h : w.row g cs t) : Turned w w g cs t := ⟨World.grownBy.refl _ _, h⟩
theorem Turned.of_below (h : w.row g cs t) (hb : Below w.heap.size w w') : Turned w w' g cs t := ⟨hb.grownBy _, h.below hb h.lt⟩
theorem Turned.set (h : w.row g cs t) (i : Nat) (v : Value) : Turned w (w.setCell ⟨g, i, none⟩ v) g (cs.set i v) t :=
  ⟨⟨rfl, rfl, rfl, by simp [World.setCell], fun k _ hn => by simp [World.setCell, Array.getElem?_modify, show g ≠ k from fun e => hn (by rw [e])]⟩, h.set i v⟩
theorem Calls.turn_to {P : Program} {f : FuncId} {args : Array Value} {v : Value} {R : Ending → World → Prop}
    (h : Calls P f args w fun e w' => e = .returned v ∧ Turned w w' g cs t) (k : ∀ w', Turned w w' g cs t → R (.returned v) w') : Calls P f args w R :=
  h.mono fun _ w' ⟨he, hm⟩ => he ▸ k w' hm
end Go.Proofs.YtjoipibldahbhaaGreatDoor
/- The field of 256 elements, by tables, made once: contracts of Product, make, Do, ready, Div, New. -/
namespace Go.Proofs.YtjoipibldahbhaaGreatDoor
open Go Go.RowKit
set_option maxRecDepth 100000
variable {w w' : World} {B : Nat}
abbrev tFld : TypeId := 105
theorem Turned.drew {g : Nat} {cs : List Value} {t : TypeId} (h : Turned w w' g cs t) : Turned w w'.drew g cs t := ⟨⟨h.1.os, h.1.tape, h.1.output, h.1.size, h.1.block⟩, h.2⟩
theorem Turned.fields {g : Nat} {cs ds : List Value} {t : TypeId} (h : Turned w w' g cs t) (e : cs = ds) : Turned w w' g ds t := e ▸ h
theorem Turned.step {g i : Nat} {cs : List Value} {t : TypeId} (h : Turned w w' g cs t) (v : Value) : Turned w (w'.setCell ⟨g, i, none⟩ v) g (cs.set i v) t := h.trans (Turned.set h.rowOf i v)
theorem W_one8 (c : Nat) : W [c, 0, 0, 0, 0, 0, 0, 0] = c := by simp [W]
theorem W_mod8 (l : List Nat) (h : AllB l) : W l % 256 = l.getD 0 0 := by
  have := W_byte h 0
  simpa using this
theorem gm_two : ∀ c, c < 256 → gm c 2 = dbl c := by decide +kernel
theorem Product_two (c : Nat) (hc : c < 256) (w : World) : Calls Tryz.prog 106 #[.int .u8 (c : Int), .int .u8 2] w fun e w' => e = .returned (.int .u8 (dbl c : Int)) ∧ w = w' := by
  have hl : AllB [c, 0, 0, 0, 0, 0, 0, 0] := fun b hb => by simp at hb; omega
  have hT := Times_any [c, 0, 0, 0, 0, 0, 0, 0] 2 w hl rfl (by omega)
  rw [W_one8] at hT
  have hm := W_mod8 _ (hl.map fun b hb => gm_lt b 2 hb)
  obtain ⟨y, hy⟩ : ∃ y, y = W ([c, 0, 0, 0, 0, 0, 0, 0].map fun b => gm b 2) := ⟨_, rfl⟩
  rw [← hy] at hm hT
  have hm2 : y % 256 = dbl c := by rw [hm]; exact gm_two c hc
  have HM := Lib.hid hm2
  clear hm hm2 hy hl
  rw [show ((2 : Nat) : Int) = 2 from rfl] at hT
  go_enter Tryz.func106, Tryz.ntmps106
  go_wp2_with fail
  refine hT.mono ?_
  rintro e w2 ⟨rfl, rfl⟩
  clear hT
  go_wp2_with fail
  go_returns
  exact ⟨by rw [show ((dbl c : Nat) : Int) = (y : Int) % 256 from by rw [← HM.out]; omega]; rfl, rfl⟩
/-! Atomic numbers. -/
theorem at_load (a : Addr) (x : Int) (w : World) (hc : w.cell? a = some (.int .i64 x)) :
    Calls Tryz.prog 34 #[.pointer (some a)] w fun e w' => e = .returned (.int .i64 x) ∧ w = w' := by
  have hl := run_call_load (P := Tryz.prog) Tryz.func54 (by kernel_rfl) (by kernel_rfl) (by kernel_rfl) .i64 (by kernel_rfl) hc
  go_enter Tryz.func34, Tryz.ntmps34
  go_wp2_with fail
  go_returns
  exact ⟨rfl, rfl⟩
theorem at_add (a : Addr) (x y : Int) (w : World) (hc : w.cell? a = some (.int .i64 x)) (hz : w.frozen? a = false) (h0 : 0 ≤ x + y) (h1 : x + y < 9223372036854775808) :
    Calls Tryz.prog 29 #[.pointer (some a), .int .i64 y] w fun e w' => e = .returned (.int .i64 (x + y)) ∧ w' = w.setCell a (.int .i64 (x + y)) := by
  have hs : IntKind.i64.wrap (x + y) = x + y := IntWalk.i64_in _ (by omega)
  obtain ⟨z, hzz⟩ : ∃ z, z = x + y := ⟨_, rfl⟩
  rw [← hzz] at hs ⊢
  have hl := run_call_add (P := Tryz.prog) Tryz.func45 (by kernel_rfl) (by kernel_rfl) (by kernel_rfl) .i64 (by kernel_rfl) (y := y) (s := z) hc hz (by simp [go_sem]; rw [← hzz, hs])
  clear hs hzz
  go_enter Tryz.func29, Tryz.ntmps29
  go_wp2_with fail
  go_returns
  exact ⟨rfl, rfl⟩
set_option maxHeartbeats 1600000 in
theorem make_any {b : Nat} (w : World) (h : w.row b (fld 0 1 0 0) tFld) :
    Calls Tryz.prog 97 #[.pointer (some ⟨b, 0, none⟩)] w fun e w' => e = .returned (.tuple #[]) ∧ Turned w w' b (fld 0 1 1 255) tFld := by
  have HR := Lib.hid h
  clear h
  go_enter Tryz.func97, Tryz.ntmps97
  go_wp2_with fail
  go_loopw [2, 4] (fun x y wr => ∃ k : Nat, k ≤ 255 ∧ x = .int .u8 (pw k : Int) ∧ y = .int .i64 (k : Int) ∧ Turned w wr b (fld 0 1 0 k) tFld) (fun _ y _ => 255 - (intOf y).toNat)
  case atStart => exact ⟨0, by omega, rfl, rfl, Turned.same HR.out⟩
  case round =>
    obtain ⟨k, hk, rfl, rfl, hT⟩ := hrel
    by_cases hlt : k < 255
    · have hst := fld_step 0 1 0 k hlt
      obtain ⟨p, hp⟩ : ∃ p, p = pw k := ⟨_, rfl⟩
      have hp8 : p < 256 := by rw [hp]; exact pw_lt k
      rw [← hp] at hst ⊢
      have HT := Lib.hid (And.intro hT (And.intro hst hp))
      have hr := hT.rowOf
      obtain ⟨v1, c1⟩ : ∃ v, wr.cell? ⟨b, 260 + k, none⟩ = some v := ⟨_, hr.cellAt (260 + k) (by rw [fld_len]; omega)⟩
      obtain ⟨v2, c2⟩ : ∃ v, wr.cell? ⟨b, 260 + (k + 255), none⟩ = some v := ⟨_, hr.cellAt (260 + (k + 255)) (by rw [fld_len]; omega)⟩
      obtain ⟨v3, c3⟩ : ∃ v, wr.cell? ⟨b, 4 + p, none⟩ = some v := ⟨_, hr.cellAt (4 + p) (by rw [fld_len]; omega)⟩
      have hz := hr.free
      have hbl := hr.lt
      clear hT hst hp hr
      have hl1 : b < wr.heap.size := hbl
      go_wp2_with fail
      refine wp_region_mix_exts (fun _ => False) [] false (by kernel_rfl) (by kernel_rfl) ?_
      intro _
      repeat ((with_reducible refine wpMix_light ?hh ?_); (case hh => rfl); go_big_quiet_step (fail); (with_reducible refine wpQuiet_nil ?_))
      (with_reducible refine wpMix_heavy ?hh ?hw (fun K hK => ?_)); (case hh => rfl); (case hw => rfl)
      go_simp
      refine hK.out _ _ (toExtS (fun _ h => False.elim h)) ?_
      clear hK K
      try simp only [Act.put, List.setIfInBounds_toArray, List.set_cons_zero, List.set_cons_succ]
      repeat ((with_reducible refine wpMix_light ?hh ?_); (case hh => rfl); go_big_quiet_step (fail); (with_reducible refine wpQuiet_nil ?_))
      (with_reducible refine wpMix_heavy ?hh ?hw (fun K hK => ?_)); (case hh => rfl); (case hw => rfl)
      go_simp
      refine hK.out _ _ (toExtS (fun _ h => False.elim h)) ?_
      clear hK K
      try simp only [Act.put, List.setIfInBounds_toArray, List.set_cons_zero, List.set_cons_succ]
      refine wpMix_nil ?_
      go_wp2_with fail
      have H3 := Lib.hid (((((HT.out.1.step (i := 260 + k) (.int .u8 (p : Int))).step (i := 260 + (k + 255)) (.int .u8 (p : Int))).step (i := 4 + p) (.int .i64 (k : Int))).fields HT.out.2.1).drew)
      clear c1 c2 c3 hz hbl hl1
      refine (Product_two p hp8 _).mono ?_
      rintro e w2 ⟨rfl, rfl⟩
      go_wp2_with fail
      go_roundw
      case rel => exact ⟨k + 1, by omega, by rw [HT.out.2.2]; rfl, by go_num, H3.out⟩
      case measure => simp [intOf] <;> omega
    · obtain rfl : k = 255 := by omega
      have hr := hT.rowOf
      have c3 := hr.cell 3 (fld_get _ _ _ _ _ (by omega))
      have hz := hr.free 3
      have HT := Lib.hid hT
      clear hT hr hlt hk
      go_wp2_with fail
      refine (at_add _ 0 1 wr c3 hz (by omega) (by omega)).mono ?_
      rintro e w2 ⟨rfl, rfl⟩
      clear c3 hz
      go_wp2_with fail
      go_returns
      exact ⟨rfl, (HT.out.step (i := 3) (.int .i64 1)).fields (fld_made _ _ _ _ _)⟩
/-! The tables are made once. -/
abbrev mkFn (b : Nat) : Value := .func (.func 97) #[.pointer (some ⟨b, 0, none⟩)] #[]
theorem bool_load (a : Addr) (d : Int) (w : World) (hc : w.cell? a = some (.int .u32 d)) :
    Calls Tryz.prog 104 #[.pointer (some a)] w fun e w' => e = .returned (.bool (d != 0)) ∧ w = w' := by
  have hl := run_call_load (P := Tryz.prog) Tryz.func109 (by kernel_rfl) (by kernel_rfl) (by kernel_rfl) .u32 (by kernel_rfl) hc
  go_enter Tryz.func104, Tryz.ntmps104
  go_wp2_with fail
  go_returns
  exact ⟨rfl, rfl⟩
set_option maxHeartbeats 1600000 in
theorem slow_any {b : Nat} (w : World) (h : w.row b fld0 tFld) :
    Calls Tryz.prog 105 #[.pointer (some ⟨b, 0, none⟩), mkFn b] w fun e w' => e = .returned (.tuple #[]) ∧ Turned w w' b fld1 tFld := by
  have h0 := h.cell 0 (fld_get _ _ _ _ _ (by omega))
  have h1 := h.cell 1 (fld_get _ _ _ _ _ (by omega))
  have hz := h.free
  have T1 : Turned w (w.setCell ⟨b, 1, none⟩ (.int .i32 1)) b (fld 0 1 0 0) tFld := ((Turned.same h).step (i := 1) (.int .i32 1)).fields (fld_lock _ _ _ _ _)
  have hl0 := (lock_free ⟨b, 1, none⟩ w h1 (hz 1)).mono fun _ _ h => And.intro h.1 h.2.symm
  obtain ⟨w1, hw1⟩ : ∃ w1, w1 = w.setCell ⟨b, 1, none⟩ (.int .i32 1) := ⟨_, rfl⟩
  rw [← hw1] at T1 hl0
  have k0 := T1.rowOf.cell 0 (fld_get _ _ _ _ _ (by omega))
  have hnot : ∀ (x : Bool) (w : World), (Op.unary .not (.bool x)).run Tryz.prog w = .ok (.bool (!x)) w := fun _ _ => rfl
  have HT := Lib.hid T1
  clear T1 h1 h0 hz h hw1
  go_enter_defers Tryz.func105, Tryz.ntmps105
  go_wp2_with fail
  refine hl0.mono ?_
  rintro e w' ⟨rfl, rfl⟩
  clear hl0
  go_wp2_with fail
  refine (bool_load ⟨b, 0, none⟩ 0 w1 k0).mono ?_
  rintro e w' ⟨rfl, rfl⟩
  clear k0
  go_wp2_with fail
  refine (make_any w1 HT.out.rowOf).mono ?_
  rintro e w2 ⟨rfl, T2⟩
  have T2 := HT.out.trans T2
  have T3 := (T2.drew.step (i := 0) (.int .u32 1)).fields (fld_done _ _ _ _ _)
  have T4 := (T3.step (i := 1) (.int .i32 0)).fields (fld_lock _ _ _ _ _)
  go_wp2_with fail
  refine leaves_cons (f := 112) (args := #[.pointer (some ⟨b, 0, none⟩), .bool true]) (by simp) (by simp [go_sem]) ?_
  refine (store_deferred ⟨b, 0, none⟩ (.int .u32 0) .returning _ (T2.rowOf.cell 0 (fld_get _ _ _ _ _ (by omega))) (T2.rowOf.free 0)).mono ?_
  rintro e u' w'' ⟨rfl, rfl, rfl⟩
  refine leaves_cons (f := 111) (args := #[.pointer (some ⟨b, 1, none⟩)]) (by simp [settle]) (by simp [go_sem]) ?_
  refine (unlock_deferred ⟨b, 1, none⟩ _ _ (T3.rowOf.cell 1 (fld_get _ _ _ _ _ (by omega))) (T3.rowOf.free 1)).mono ?_
  rintro e u' w'' ⟨rfl, rfl, rfl⟩
  simp [Leaves, settle, results, Tryz.results105]
  exact T4
/-- The field: its tables made, or not yet. -/
def FieldAt (w : World) (b : Nat) : Prop := w.row b fld0 tFld ∨ w.row b fld1 tFld
theorem do_any {b : Nat} (w : World) (h : FieldAt w b) :
    Calls Tryz.prog 96 #[.pointer (some ⟨b, 0, none⟩), mkFn b] w fun e w' => e = .returned (.tuple #[]) ∧ Turned w w' b fld1 tFld := by
  have hnot : ∀ (x : Bool) (w : World), (Op.unary .not (.bool x)).run Tryz.prog w = .ok (.bool (!x)) w := fun _ _ => rfl
  rcases h with h | h
  · have k0 := h.cell 0 (fld_get _ _ _ _ _ (by omega))
    have H := Lib.hid h
    clear h
    go_enter Tryz.func96, Tryz.ntmps96
    go_wp2_with fail
    refine (bool_load ⟨b, 0, none⟩ 0 w k0).mono ?_
    rintro e w' ⟨rfl, rfl⟩
    clear k0
    go_wp2_with fail
    refine (slow_any w H.out).mono ?_
    rintro e w2 ⟨rfl, T⟩
    have T := Lib.hid T
    go_wp2_with fail
    go_end0
    exact ⟨rfl, T.out⟩
  · have k0 := h.cell 0 (fld_get _ _ _ _ _ (by omega))
    have H := Lib.hid h
    clear h
    go_enter Tryz.func96, Tryz.ntmps96
    go_wp2_with fail
    refine (bool_load ⟨b, 0, none⟩ 1 w k0).mono ?_
    rintro e w' ⟨rfl, rfl⟩
    clear k0
    go_wp2_with fail
    go_end0
    exact ⟨rfl, Turned.same H.out⟩
theorem ready_any {b : Nat} (w : World) (h : FieldAt w b) :
    Calls Tryz.prog 81 #[.pointer (some ⟨b, 0, none⟩)] w fun e w' => e = .returned (.bool true) ∧ Turned w w' b fld1 tFld := by
  have hmf : ∀ (fn : Fn) (first cap : Array Value) (w : World), (Instr.makeFunc fn first cap).run Tryz.prog w = .ok (.func fn first cap) w := fun _ _ _ _ => rfl
  have H := Lib.hid h
  clear h
  go_enter Tryz.func81, Tryz.ntmps81
  go_wp2_with fail
  refine (do_any w H.out).mono ?_
  rintro e w2 ⟨rfl, T⟩
  have T := Lib.hid T
  go_wp2_with fail
  go_returns
  exact ⟨rfl, T.out⟩
set_option maxHeartbeats 1600000 in
/-- What is 1 divided by an element. -/
theorem Inv_ok {b : Nat} (w : World) (h : FieldAt w b) (c : Nat) (hc : c < 256) (h0 : c ≠ 0) :
    Calls Tryz.prog 62 #[.pointer (some ⟨b, 0, none⟩), .int .u8 1, .int .u8 (c : Int)] w fun e w' => e = .returned (.tuple #[.int .u8 (inv c : Int), .int .i64 0]) ∧ Turned w w' b fld1 tFld := by
  have H := Lib.hid h
  clear h
  go_enter Tryz.func62, Tryz.ntmps62
  go_wp2_with fail
  refine (ready_any w H.out).mono ?_
  rintro e w2 ⟨rfl, T⟩
  have hr := T.rowOf
  have T := Lib.hid T
  obtain ⟨l, hl⟩ : ∃ l, l = lg c := ⟨_, rfl⟩
  have c1 := fld1_log 1 (by omega) (by omega)
  rw [lg_one] at c1
  have c1 := hr.cell _ c1
  have c2 := hr.cell _ (fld1_log c hc h0)
  have c3 := hr.cell _ (fld1_exp (255 - lg c) (by omega))
  rw [inv_mod c hc h0] at c3
  rw [← hl] at c2 c3
  have hl2 : l < 255 := by rw [hl]; exact (lg_ok c hc h0).1
  have hbl := hr.lt
  have hw : ((l : Nat) : Int) ≤ 255 := by omega
  clear hl hr
  go_wp2_with fail
  refine wp_region_ext w2.heap.size (Nat.le_refl _) (by kernel_rfl) (by kernel_rfl) ?_
  intro _
  repeat (go_big_quiet_step (fail))
  refine wpQuiet_nil ?_
  intro x
  have T2 := Lib.hid (Turned.of_below T.out.rowOf x.below)
  clear c1 c2 c3 hbl
  go_wp2_with fail
  go_ret2
  exact ⟨rfl, T.out.trans T2.out⟩
theorem fld0_plain : fld0 = (List.range 770).map fun j => if j = 0 then .int .u32 0 else if j = 1 then .int .i32 0 else if j = 2 then .int .u32 0 else if j < 260 then .int .i64 0 else .int .u8 0 := by
  refine List.map_congr_left fun j _ => ?_
  unfold fldC
  by_cases h3 : j = 3
  · subst h3; rfl
  · simp [h3]
theorem fld0_zero : Tryz.zeroCells105 = fld0.toArray := by
  rw [fld0_plain]
  kernel_rfl
theorem fNew_any (w : World) : Calls Tryz.prog 24 #[] w fun e w' => e = .returned (.pointer (some ⟨w.heap.size, 0, none⟩)) ∧ Below w.heap.size w w' ∧ w'.row w.heap.size fld0 tFld := by
  go_enter Tryz.func24, Tryz.ntmps24
  go_wp2_with fail
  go_returns
  rw [fld0_zero]
  exact ⟨rfl, (by repeat' (first | (with_reducible exact Below.refl _ _) | (with_reducible assumption) | (with_reducible refine Below.setCell ?_ ?_ _) | (with_reducible refine Below.ext ?_ _ ?_) | (with_reducible refine Below.alloc ?_ ?_ _) | (with_reducible refine Below.drew ?_) | (with_reducible refine Below.drewN ?_ _) | (with_reducible exact Nat.le_refl _) | (dsimp only; omega) | (simp <;> omega))), World.row.new' rfl⟩
end Go.Proofs.YtjoipibldahbhaaGreatDoor
/- The document's product of two elements: a contract. -/
namespace Go.Proofs.YtjoipibldahbhaaGreatDoor
open Go Go.RowKit
set_option maxRecDepth 100000
abbrev bitV (C j : Nat) : Value := .int .i64 ((C.testBit j).toNat : Int)
def bitsRow (C : Nat) : List Value := (List.range 15).map (bitV C)
theorem bitsRow_at (C : Nat) {j : Nat} (h : j < 15) : (bitsRow C)[j]? = some (bitV C j) := by unfold bitsRow; rw [List.getElem?_map, List.getElem?_range h]; rfl
theorem bitsRow_set {C D m : Nat} (hm : m < 15) (ho : ∀ j, j ≠ m → D.testBit j = C.testBit j) : (bitsRow C).set m (bitV D m) = bitsRow D := by
  apply List.ext_getElem?
  intro j
  by_cases e : m = j
  · subst e
    rw [bitsRow_at D hm, List.getElem?_set_self (by unfold bitsRow; simpa using hm)]
  · rw [List.getElem?_set_ne e]
    by_cases hj : j < 15
    · rw [bitsRow_at C hj, bitsRow_at D hj]; unfold bitV; rw [ho j (fun h => e h.symm)]
    · unfold bitsRow; rw [List.getElem?_eq_none (by simpa using hj), List.getElem?_eq_none (by simpa using hj)]
theorem flip_at (C m : Nat) : (C ^^^ 2 ^ m).testBit m = !C.testBit m := by rw [Nat.testBit_xor, Nat.testBit_two_pow_self]; cases C.testBit m <;> rfl
theorem flip_else (C m : Nat) {j : Nat} (h : j ≠ m) : (C ^^^ 2 ^ m).testBit j = C.testBit j := by rw [Nat.testBit_xor, Nat.testBit_two_pow]; simp [Ne.symm h]
theorem shl_split (y n : Nat) : y <<< n = (if y % 2 = 1 then 2 ^ n else 0) ^^^ (y / 2) <<< (n + 1) := by
  apply Nat.eq_of_testBit_eq
  intro j
  rw [Nat.testBit_xor, Nat.testBit_shiftLeft, Nat.testBit_shiftLeft, Nat.testBit_div_two]
  have h0 : y.testBit 0 = decide (y % 2 = 1) := by rw [Nat.testBit_zero]
  have hb : ∀ c : Prop, [Decidable c] → j ≠ n → ((if c then 2 ^ n else 0) : Nat).testBit j = false := fun c _ hne => by
    split
    · rw [Nat.testBit_two_pow]; exact decide_eq_false (Ne.symm hne)
    · exact Nat.zero_testBit j
  rcases Nat.lt_trichotomy j n with h1 | h1 | h1
  · rw [hb _ (by omega), decide_eq_false (by omega : ¬ j ≥ n), decide_eq_false (by omega : ¬ j ≥ n + 1)]
    rfl
  · subst h1
    rw [Nat.sub_self, h0, decide_eq_true (by omega : j ≥ j), decide_eq_false (by omega : ¬ j ≥ j + 1)]
    by_cases h3 : y % 2 = 1
    · rw [if_pos h3, Nat.testBit_two_pow_self]; simp [h3]
    · rw [if_neg h3, Nat.zero_testBit]; simp [h3]
  · rw [hb _ (by omega), decide_eq_true (by omega : j ≥ n), decide_eq_true (by omega : j ≥ n + 1), show j - (n + 1) + 1 = j - n by omega]
    simp
theorem clmF_succ (n a B : Nat) : clmF (n + 1) a B = (if a % 2 = 1 then B else 0) ^^^ clmF n (a / 2) (B <<< 1) := rfl
theorem red_flips : ∀ t, t < 7 → 2 ^ (t + 8) ^^^ 2 ^ (t + 4) ^^^ 2 ^ (t + 3) ^^^ 2 ^ (t + 2) ^^^ 2 ^ t = 285 <<< t := by decide
theorem div_step (x t : Nat) : x / 2 ^ t = 2 * (x / 2 ^ (t + 1)) + (x.testBit t).toNat := by
  rw [Nat.testBit_eq_decide_div_mod_eq, Nat.pow_succ, ← Nat.div_div_eq_div_mul]
  by_cases h : x / 2 ^ t % 2 = 1
  · simp [h]; omega
  · simp [h]; omega
theorem mulbit {d x y : Nat} (hd : d = 0 ∨ d = 1) : (wrap64 ((d : Int) + wrap64 ((x : Int) % 2 * ((y : Int) % 2)))).tmod 2 = if x % 2 = 1 ∧ y % 2 = 1 then 1 - (d : Int) else (d : Int) := by
  have hx : (x % 2 = 0 ∧ (x : Int) % 2 = 0) ∨ (x % 2 = 1 ∧ (x : Int) % 2 = 1) := by omega
  have hy : (y % 2 = 0 ∧ (y : Int) % 2 = 0) ∨ (y % 2 = 1 ∧ (y : Int) % 2 = 1) := by omega
  rcases hx with ⟨h1, h2⟩ | ⟨h1, h2⟩ <;> rcases hy with ⟨h3, h4⟩ | ⟨h3, h4⟩ <;> rw [h1, h2, h3, h4] <;> rcases hd with rfl | rfl <;> decide +kernel
/-- The remaining steps of the remainder. -/
def redN : Nat → Nat → Nat
  | 0, C => C
  | t + 1, C => redN t (redS C (t + 8))
theorem red_N (C : Nat) : redN 7 C = red C := rfl
theorem flipV {C D m : Nat} (hD : D.testBit m = C.testBit m) : Value.int .i64 (wrap64 (1 - ((D.testBit m).toNat : Int))) = bitV (C ^^^ 2 ^ m) m := by
  unfold bitV
  rw [flip_at, hD]
  cases C.testBit m
  · exact congrArg (Value.int .i64) (by decide +kernel)
  · exact congrArg (Value.int .i64) (by decide +kernel)
theorem flip_row {w : World} {g C D m : Nat} {t : TypeId} (hr : w.row g (bitsRow C) t) (hm : m < 15) (hD : D.testBit m = C.testBit m) : (w.setCell ⟨g, m, none⟩ (.int .i64 (wrap64 (1 - ((D.testBit m).toNat : Int))))).row g (bitsRow (C ^^^ 2 ^ m)) t := by
  rw [flipV hD]
  have := hr.set m (bitV (C ^^^ 2 ^ m) m)
  rw [bitsRow_set hm fun j hj => flip_else C m hj] at this
  exact this
set_option maxHeartbeats 2000000 in
theorem RMul_any (a b : Nat) (w : World) (ha : a < 256) (hb : b < 256) : Calls Tryz.prog 49 #[.int .u8 (a : Int), .int .u8 (b : Int)] w fun e w' => e = .returned (.int .u8 (gm a b : Int)) ∧ Below w.heap.size w w' := by
  have HG := Lib.hid (red_mul ha hb)
  go_enter Tryz.func49, Tryz.ntmps49
  go_upto_region 2 with fail
  obtain ⟨g, hg⟩ : ∃ g, g = w.heap.size := ⟨_, rfl⟩
  refine wp_world (fun w0 => w0.row g (bitsRow 0) 141 ∧ Below w.heap.size w w0) ⟨World.row.new' (cs := bitsRow 0) hg.symm, (by repeat' (first | (with_reducible exact Below.refl _ _) | (with_reducible assumption) | (with_reducible refine Below.setCell ?_ ?_ _) | (with_reducible refine Below.ext ?_ _ ?_) | (with_reducible refine Below.alloc ?_ ?_ _) | (with_reducible refine Below.drew ?_) | (with_reducible refine Below.drewN ?_ _) | (with_reducible exact Nat.le_refl _) | (dsimp only; omega) | (simp <;> omega)))⟩ ?_
  simp only [← hg]
  rintro w0 ⟨r0, B0⟩
  rw [hg] at B0
  have hgB : w.heap.size ≤ g := by rw [hg]; exact Nat.le_refl _
  clear hg
  have H0 := Lib.hid (And.intro r0 B0)
  clear r0 B0
  go_wp2_with fail
  go_loopw [6, 7] (fun xv iv wr => ∃ (i x C : Nat), i ≤ 8 ∧ iv = .int .i64 (i : Int) ∧ xv = .int .i64 (x : Int) ∧ x < 256 ∧ wr.row g (bitsRow C) 141 ∧ Below w.heap.size w wr ∧ C ^^^ clmF (8 - i) x (b <<< i) = clmF 8 a b) (fun _ iv _ => 8 - (intOf iv).toNat)
  case atStart => exact ⟨0, a, 0, by omega, rfl, rfl, ha, H0.out.1, H0.out.2, by rw [Nat.zero_xor]; rfl⟩
  case round =>
    obtain ⟨i, x, C, hi, rfl, rfl, hx, hr, hB, hC⟩ := hrel
    by_cases hlt : i < 8
    · obtain ⟨p, hp⟩ : ∃ p, p = x % 2 := ⟨_, rfl⟩
      have hp2 : p = 0 ∨ p = 1 := by omega
      obtain ⟨Cn, hCn⟩ : ∃ Cn, Cn = C ^^^ (if x % 2 = 1 then b <<< i else 0) := ⟨_, rfl⟩
      have hCn2 : Cn ^^^ clmF (8 - (i + 1)) (x / 2) (b <<< (i + 1)) = clmF 8 a b := by
        rw [← hC, show 8 - i = (8 - (i + 1)) + 1 by omega]
        rw [clmF_succ, hCn, ← Nat.shiftLeft_add, Nat.xor_assoc]
      have H1 := Lib.hid (And.intro hr (And.intro hB (And.intro hCn hCn2)))
      clear hr hB hC hCn hCn2
      go_wp2_with fail
      go_loopw [8, 9] (fun yv kv wr => ∃ (k y D : Nat), k ≤ 8 ∧ kv = .int .i64 (k : Int) ∧ yv = .int .i64 (y : Int) ∧ y < 256 ∧ wr.row g (bitsRow D) 141 ∧ Below w.heap.size w wr ∧ y = b / 2 ^ k ∧ D ^^^ (if x % 2 = 1 then y <<< (i + k) else 0) = Cn) (fun _ kv _ => 8 - (intOf kv).toNat)
      case atStart => exact ⟨0, b, C, by omega, rfl, rfl, hb, H1.out.1, H1.out.2.1, by simp, H1.out.2.2.1.symm⟩
      case round =>
        obtain ⟨k, y, D, hk, rfl, rfl, hy, hr, hB, hyk, hD⟩ := hrel
        by_cases hlt2 : k < 8
        · have hik : i + k < 15 := by omega
          have ck := hr.cell (i + k) (bitsRow_at D hik)
          have zk := hr.free
          have gl := hr.lt
          have hyn : y / 2 = b / 2 ^ (k + 1) := by rw [hyk, Nat.pow_succ, Nat.div_div_eq_div_mul]
          have HY := Lib.hid (And.intro hyn (And.intro hr (And.intro hB hD)))
          clear hyn hr hB hD hyk
          obtain ⟨d, hd⟩ : ∃ d, d = (D.testBit (i + k)).toNat := ⟨_, rfl⟩
          have hd2 : d = 0 ∨ d = 1 := by rw [hd]; cases D.testBit (i + k) <;> simp
          rw [show bitV D (i + k) = .int .i64 (d : Int) by rw [hd]] at ck
          have HD := Lib.hid hd
          clear hd
          go_wp2_with fail
          obtain ⟨D2, hD2⟩ : ∃ D2, D2 = if x % 2 = 1 ∧ y % 2 = 1 then D ^^^ 2 ^ (i + k) else D := ⟨_, rfl⟩
          have hval : Value.int .i64 ((wrap64 ((d : Int) + wrap64 ((x : Int) % 2 * ((y : Int) % 2)))).tmod 2) = bitV D2 (i + k) := by
            rw [mulbit hd2, hD2]
            unfold bitV
            split
            · rw [flip_at]; rcases hd2 with h | h <;> cases e : D.testBit (i + k) <;> (have := HD.out; rw [e] at this; simp at this; subst this) <;> first | rfl | (exfalso; omega)
            · rw [HD.out]
          have hrow := HY.out.2.1.set (i + k) (bitV D2 (i + k))
          rw [bitsRow_set hik (fun j hj => by rw [hD2]; split; exact flip_else D _ hj; rfl)] at hrow
          refine ⟨⟨k + 1, y / 2, D2, by omega, by go_num, by go_num, by omega, by rw [hval]; exact hrow, by rw [hval]; exact HY.out.2.2.1.setCell hgB _, HY.out.1, ?_⟩, by simp [intOf]; omega⟩
          rw [← HY.out.2.2.2, hD2, show i + (k + 1) = i + k + 1 by omega]
          by_cases h1 : x % 2 = 1
          · rw [if_pos h1, if_pos h1, shl_split y (i + k)]
            by_cases h2 : y % 2 = 1
            · rw [if_pos ⟨h1, h2⟩, if_pos h2, Nat.xor_assoc]
            · rw [if_neg (fun h => h2 h.2), if_neg h2, Nat.zero_xor]
          · rw [if_neg h1, if_neg h1, if_neg (fun h => h1 h.1)]
        · obtain rfl : k = 8 := by omega
          have hy0 : y = 0 := by rw [hyk]; omega
          have hDn : D = Cn := by rw [← hD, hy0]; simp
          subst hDn
          have HX := Lib.hid (And.intro hr hB)
          clear hr hB hD hyk
          go_wp2_with fail
          go_roundw
          case rel => exact ⟨i + 1, x / 2, D, by omega, by go_num, by go_num, by omega, HX.out.1, HX.out.2, H1.out.2.2.2⟩
          case measure => simp [intOf] <;> omega
    · obtain rfl : i = 8 := by omega
      have hC2 : C = clmF 8 a b := by rw [← hC]; simp [clmF]
      have HX := Lib.hid (And.intro hr (And.intro hB hC2))
      clear hr hB hC hC2
      go_wp2_with fail
      go_loopw [10] (fun iv wr => ∃ (t C : Nat), t ≤ 7 ∧ iv = .int .i64 ((t + 7 : Nat) : Int) ∧ wr.row g (bitsRow C) 141 ∧ Below w.heap.size w wr ∧ redN t C = red (clmF 8 a b)) (fun iv _ => (intOf iv).toNat)
      case atStart => exact ⟨7, C, by omega, rfl, HX.out.1, HX.out.2.1, by rw [red_N, HX.out.2.2]⟩
      case round =>
        obtain ⟨t, C, ht, rfl, hr, hB, hC⟩ := hrel
        by_cases ht0 : t = 0
        · subst ht0
          obtain ⟨G, hG⟩ : ∃ G, G = gm a b := ⟨_, rfl⟩
          have hCG : C = G := by rw [hG, ← HG.out]; exact hC
          subst hCG
          have hG256 : C < 256 := by rw [hG]; exact gm_lt a b ha
          have HZ := Lib.hid (And.intro hr (And.intro hB hG))
          have gl := hr.lt
          clear hr hB hC hG
          go_wp2_with fail
          go_loopw [11, 12] (fun nv iv wx => ∃ t : Nat, t ≤ 8 ∧ iv = .int .i64 ((t : Int) - 1) ∧ nv = .int .i64 ((C / 2 ^ t : Nat) : Int) ∧ wr = wx) (fun _ iv _ => (intOf iv + 1).toNat)
          case atStart => exact ⟨8, by omega, rfl, by rw [show C / 2 ^ 8 = 0 by omega]; rfl, rfl⟩
          case round =>
            obtain ⟨t, ht, rfl, rfl, rfl⟩ := hrel
            cases t with
            | zero =>
              go_wp2_with fail
              go_returns
              exact ⟨by rw [← HZ.out.2.2]; rfl, HZ.out.2.1⟩
            | succ t =>
              have ck := HZ.out.1.cell t (bitsRow_at C (by omega))
              obtain ⟨d, hd⟩ : ∃ d, d = (C.testBit t).toNat := ⟨_, rfl⟩
              have hd2 : d ≤ 1 := by rw [hd]; exact Bool.toNat_le _
              rw [show bitV C t = .int .i64 (d : Int) by rw [hd]] at ck
              have hst := div_step C t
              rw [← hd] at hst
              obtain ⟨n, hn⟩ : ∃ n, n = C / 2 ^ (t + 1) := ⟨_, rfl⟩
              have hn256 : n < 256 := by rw [hn]; exact Nat.lt_of_le_of_lt (Nat.div_le_self _ _) hG256
              rw [← hn] at hst ⊢
              have HS := Lib.hid (And.intro hst hn)
              clear hst hn hd
              have e1 : ((t + 1 : Nat) : Int) - 1 = (t : Int) := by omega
              rw [e1]
              go_wp2_with fail
              refine ⟨⟨t, by omega, rfl, congrArg (Value.int .i64) (by have := HS.out.1; omega), trivial⟩, ?_⟩
              simp [intOf]
        · obtain ⟨i, hi⟩ : ∃ i, i = t + 7 := ⟨_, rfl⟩
          rw [← hi]
          obtain ⟨t', rfl⟩ : ∃ t', t = t' + 1 := ⟨t - 1, by omega⟩
          have hi8 : 8 ≤ i := by omega
          have hi14 : i ≤ 14 := by omega
          have ck := hr.cell i (bitsRow_at C (by omega))
          have zk := hr.free
          have gl := hr.lt
          cases hbit : C.testBit i with
          | true =>
            rw [show bitV C i = .int .i64 1 by unfold bitV; rw [hbit]; rfl] at ck
            have c4 := hr.cell (i - 4) (bitsRow_at C (by omega))
            have c5 := hr.cell (i - 5) (bitsRow_at C (by omega))
            have c6 := hr.cell (i - 6) (bitsRow_at C (by omega))
            have c8 := hr.cell (i - 8) (bitsRow_at C (by omega))
            have r1 := hr.set i (bitV (C ^^^ 2 ^ i) i)
            rw [bitsRow_set (by omega) fun j hj => flip_else C i hj, show bitV (C ^^^ 2 ^ i) i = .int .i64 0 by unfold bitV; rw [flip_at, hbit]; rfl] at r1
            have r2 := flip_row (D := C) r1 (m := i - 4) (by omega) (by rw [flip_else C i (by omega)])
            have r3 := flip_row (D := C) r2 (m := i - 5) (by omega) (by rw [flip_else _ (i - 4) (by omega), flip_else C i (by omega)])
            have r4 := flip_row (D := C) r3 (m := i - 6) (by omega) (by rw [flip_else _ (i - 5) (by omega), flip_else _ (i - 4) (by omega), flip_else C i (by omega)])
            have r5 := flip_row (D := C) r4 (m := i - 8) (by omega) (by rw [flip_else _ (i - 6) (by omega), flip_else _ (i - 5) (by omega), flip_else _ (i - 4) (by omega), flip_else C i (by omega)])
            have hfl : C ^^^ 2 ^ i ^^^ 2 ^ (i - 4) ^^^ 2 ^ (i - 5) ^^^ 2 ^ (i - 6) ^^^ 2 ^ (i - 8) = redS C (t' + 8) := by
              unfold redS
              rw [show t' + 8 = i by omega, if_pos hbit, ← red_flips (i - 8) (by omega), show i - 8 + 8 = i by omega, show i - 8 + 4 = i - 4 by omega, show i - 8 + 3 = i - 5 by omega, show i - 8 + 2 = i - 6 by omega]
              simp only [Nat.xor_assoc]
            rw [hfl] at r5
            have HZ := Lib.hid (And.intro r5 (And.intro hB (And.intro hC hi)))
            clear hr hB hC hi r1 r2 r3 r4 r5 hfl
            go_wp2_with fail
            refine ⟨⟨t', _, by omega, by rw [HZ.out.2.2.2]; congr 1; omega, HZ.out.1, ((((HZ.out.2.1.setCell hgB _).setCell hgB _).setCell hgB _).setCell hgB _).setCell hgB _, HZ.out.2.2.1⟩, ?_⟩
            simp [intOf]; omega
          | false =>
            rw [show bitV C i = .int .i64 0 by unfold bitV; rw [hbit]; rfl] at ck
            have hfl : redS C (t' + 8) = C := by
              unfold redS
              rw [show t' + 8 = i by omega, hbit]; simp
            have hC2 : redN t' C = red (clmF 8 a b) := by rw [← hC]; show _ = redN t' (redS C (t' + 8)); rw [hfl]
            have HZ := Lib.hid (And.intro hr (And.intro hB (And.intro hC2 hi)))
            clear hr hB hC hi hC2 hfl
            go_wp2_with fail
            refine ⟨⟨t', C, by omega, by rw [HZ.out.2.2.2]; congr 1; omega, HZ.out.1, HZ.out.2.1, HZ.out.2.2.1⟩, ?_⟩
            simp [intOf]; omega
end Go.Proofs.YtjoipibldahbhaaGreatDoor
/- The document's buffers: Fit, Fold, powers, quotients: contracts. -/
namespace Go.Proofs.YtjoipibldahbhaaGreatDoor
open Go Go.RowKit
set_option maxRecDepth 100000
variable {w w' : World} {v : Value} {ls : List (List Nat)} {B : Nat}
theorem RFit_any (w : World) (h : RS w v ls) (hl : ls.length ≤ 100000) : Calls Tryz.prog 30 #[v] w fun e w' => e = .returned (.int .i64 (fitE ls)) ∧ Below w.heap.size w w' := by
  rcases h.cases with ⟨rfl, a, c, rfl⟩ | ⟨hne, b, o, c, rfl, hc, hcell⟩
  · go_enter Tryz.func30, Tryz.ntmps30
    go_wp2_with fail
    refine wp_loop_rounds 1 ?_
    rw [rounds_succ]
    go_wp2_with fail
    refine wp_loop_rounds 1 ?_
    rw [rounds_succ]
    go_wp2_with fail
    go_returns
    exact ⟨rfl, Below.refl _ _⟩
  · obtain ⟨m, hm⟩ : ∃ m, m = ls.length := ⟨_, rfl⟩
    rw [← hm] at hl hc ⊢
    have h0 : ls[0]? = some (ls.headD []) := by cases ls with
      | nil => exact absurd rfl hne
      | cons a r => rfl
    have c0 := hcell 0 _ h0
    rw [Nat.add_zero] at c0
    obtain ⟨n0, hn0⟩ : ∃ n, n = (ls.headD []).length := ⟨_, rfl⟩
    have hs0 := mk_size (ls.headD [])
    rw [← hn0] at hs0
    obtain ⟨s0, hse⟩ : ∃ s, s = mk (ls.headD []) := ⟨_, rfl⟩
    rw [← hse] at hs0
    replace c0 : w.cell? ⟨b, o, none⟩ = some (.string s0) := by rw [hse]; exact c0
    have HC := Lib.hid (And.intro hcell (And.intro hm hn0))
    clear hcell hm hn0 hse h0 hne h
    go_enter Tryz.func30, Tryz.ntmps30
    go_wp2_with fail
    go_loopw [3] (fun x wr => ∃ k : Nat, k ≤ m ∧ x = .int .i64 (k : Int) ∧ w = wr ∧ ∀ (j : Nat) (l : List Nat), j < k → ls[j]? = some l → l.length ≤ 65536) (fun x _ => m - (intOf x).toNat)
    case atStart => exact ⟨0, by omega, rfl, rfl, fun j l hj => by omega⟩
    case round =>
      obtain ⟨k, hk, rfl, rfl, hall⟩ := hrel
      have HA := Lib.hid hall
      clear hall
      by_cases hlt : k < m
      · obtain ⟨l, hlk⟩ : ∃ l, ls[k]? = some l := ⟨_, List.getElem?_eq_getElem (by rw [← HC.out.2.1]; exact hlt)⟩
        have ck := HC.out.1 k l hlk
        have hsz := mk_size l
        obtain ⟨s, hs⟩ : ∃ s, s = mk l := ⟨_, rfl⟩
        rw [← hs] at hsz
        replace ck : w.cell? ⟨b, o + k, none⟩ = some (.string s) := by rw [hs]; exact ck
        have HL := Lib.hid hlk
        clear hs hlk
        by_cases hbig : 65536 < l.length
        · go_wp2_with fail
          go_returns
          exact ⟨by rw [fitE_2 HL.out hbig]; rfl, Below.refl _ _⟩
        · go_wp2_with fail
          go_roundw
          case rel =>
            refine ⟨k + 1, by omega, by go_num, trivial, fun j y hj hy => ?_⟩
            by_cases e : j = k
            · subst e
              have := HL.out.symm.trans hy
              cases this
              omega
            · exact HA.out j y (by omega) hy
          case measure => simp [intOf] <;> omega
      · obtain rfl : k = m := by omega
        go_wp2_with fail
        go_loopw [4] (fun x wr => ∃ i : Nat, i ≤ k ∧ x = .int .i64 (i : Int) ∧ Below w.heap.size w wr ∧ ∀ (j : Nat) (l : List Nat), j < i → ls[j]? = some l → l.length = n0) (fun x _ => k - (intOf x).toNat)
        case atStart => exact ⟨0, by omega, rfl, Below.refl _ _, fun j l hj => by omega⟩
        case round =>
          obtain ⟨i, hi, rfl, hB, hall2⟩ := hrel
          have HA2 := Lib.hid hall2
          clear hall2
          have hsm : Hid (∀ (j : Nat) (l : List Nat), ls[j]? = some l → l.length ≤ 65536) := Lib.hid fun j l hj => HA.out j l (by have := (List.getElem?_eq_some_iff.1 hj).1; have := HC.out.2.1; omega) hj
          by_cases hlt2 : i < k
          · obtain ⟨l, hlk⟩ : ∃ l, ls[i]? = some l := ⟨_, List.getElem?_eq_getElem (by rw [← HC.out.2.1]; exact hlt2)⟩
            have ck0 := HC.out.1 i l hlk
            have ck := (hB.cell (p := ⟨b, o + i, none⟩) (block_lt_of_cell ck0)).trans ck0
            have c00 := (hB.cell (p := ⟨b, o, none⟩) (block_lt_of_cell c0)).trans c0
            have HBB := Lib.hid hB
            clear hB ck0
            have hsz := mk_size l
            obtain ⟨s, hs⟩ : ∃ s, s = mk l := ⟨_, rfl⟩
            rw [← hs] at hsz
            replace ck : wr.cell? ⟨b, o + i, none⟩ = some (.string s) := by rw [hs]; exact ck
            have HL := Lib.hid hlk
            clear hs hlk
            by_cases hne : l.length = n0
            · have hq : (s.size : Int) = (s0.size : Int) := by omega
              go_wp2_with fail
              go_quiet (fail)
              go_wp2_with fail
              go_roundw
              case rel =>
                refine ⟨i + 1, by omega, by go_num, HBB.out.drewN _, fun j y hj hy => ?_⟩
                by_cases e : j = i
                · subst e
                  have := HL.out.symm.trans hy
                  cases this
                  exact hne
                · exact HA2.out j y (by omega) hy
              case measure => simp [intOf] <;> omega
            · have hq : ¬ (s.size : Int) = (s0.size : Int) := by omega
              go_wp2_with fail
              go_quiet (fail)
              go_wp2_with fail
              go_returns
              exact ⟨by rw [fitE_4 hsm.out HL.out (by rw [← HC.out.2.2]; exact hne)]; rfl, HBB.out.drewN _⟩
          · have HBB := Lib.hid hB
            clear hB
            go_wp2_with fail
            go_returns
            exact ⟨by rw [fitE_0 hsm.out fun j l hj => by rw [← HC.out.2.2]; exact HA2.out j l (by have := (List.getElem?_eq_some_iff.1 hj).1; have := HC.out.2.1; omega) hj]; rfl, HBB.out⟩
theorem u8x : ∀ (a b : Nat), a < 256 → b < 256 → bits .xor .u8 (a : Int) (b : Int) = ((a ^^^ b : Nat) : Int) := u8_xor_nat
theorem idx_at {P : Program} {t : TypeId} (ht : P.underlying t = some .string) {l : List Nat} (hl : AllB l) {k y : Nat} (hk : l[k]? = some y) (w : World) :
    (Instr.index t (.string (mk l)) (.int .i64 (k : Int))).run P w = .ok (.int .u8 (y : Int)) w := by
  have h := idx_mk (P := P) ht hl (List.getElem?_eq_some_iff.1 hk).1 w
  rw [show l.getD k 0 = y by simp [List.getD, hk]] at h
  exact h
theorem one_u8 (w : World) (n : Nat) : ∀ (j : Nat) (u : Value), [u8V n][j]? = some u → (w.alloc (.cells #[u8V n] tU8)).cell? ((⟨w.heap.size, 0, none⟩ : Addr).add j) = some u := by
  intro j u hj
  have := (World.row.new w [u8V n] tU8).cell j hj
  cases j with
  | zero => exact this
  | succ j => simp at hj
set_option maxHeartbeats 1000000 in
theorem RFold_ok (a l : List Nat) (c : Nat) (w : World) (hc : c < 256) (ha : AllB a) (hl : AllB l) (e : a.length = l.length) (hn : a.length ≤ 65536) :
    Calls Tryz.prog 50 #[strV a, .int .u8 (c : Int), strV l] w fun e w' => e = .returned (.tuple #[strV (foldL a c l), .int .i64 0]) ∧ Below w.heap.size w w' := by
  have hsz := mk_size l
  obtain ⟨i0, hi0, hz0, hz1, hz2⟩ := info_u8
  have HIN : Hid (Tryz.prog.info? tU8 = some i0 ∧ i0.zero = some (.int .u8 0) ∧ i0.size = 1 ∧ i0.bytes = 1) := ⟨hi0, hz0, hz1, hz2⟩
  obtain ⟨n, hnl⟩ : ∃ n, n = l.length := ⟨_, rfl⟩
  have hF := RFit_any (ls := [a, l]) _ (RS.of_row (World.row.new w [strV a, strV l] tStr)) (by simp)
  rw [fitE_two hn e] at hF
  have hb1 := (Below.refl w.heap.size w).alloc (Nat.le_refl _) (.cells [strV a, strV l].toArray tStr)
  obtain ⟨s, hs⟩ : ∃ s, s = mk l := ⟨_, rfl⟩
  obtain ⟨sa, hsa⟩ : ∃ s, s = mk a := ⟨_, rfl⟩
  have hszA := mk_size a
  rw [← hs, ← hnl] at hsz
  rw [← hsa, e, ← hnl] at hszA
  have HL := Lib.hid (And.intro hc (And.intro ha (And.intro hl (And.intro e (And.intro hnl (And.intro hs hsa))))))
  rw [show strV l = .string s by rw [hs], show strV a = .string sa by rw [hsa]] at hF hb1 ⊢
  rw [e, ← hnl] at hn
  have HF := Lib.hid (And.intro hF hb1)
  clear hc ha hl e hnl hs hsa hi0 hz0 hz1 hz2 hF hb1
  go_enter Tryz.func50, Tryz.ntmps50
  go_wp2_with fail
  refine HF.out.1.mono ?_
  rintro e w1 ⟨rfl, b1⟩
  have B1 := Lib.hid (HF.out.2.trans (b1.mono HF.out.2.size))
  clear b1
  go_wp2_with fail
  go_loopw [9, 10] (fun v x wr => ∃ (k : Nat) (os : List Nat), k ≤ n ∧ x = .int .i64 (k : Int) ∧ os = (List.range k).map (fZ (fun x y => x ^^^ gm y c) a l) ∧ wr.ownsRow w1.heap.size tU8 1 v k (os.map u8V) ∧ Below w1.heap.size w1 wr) (fun _ x _ => n - (intOf x).toNat)
  case atStart => exact ⟨0, [], by omega, rfl, rfl, World.ownsRow_nil _ _ _ _, Below.refl _ _⟩
  case round =>
    obtain ⟨k, os, hk, rfl, hos, hr, hB⟩ := hrel
    obtain ⟨av, cv, rfl⟩ := own_shape1 hr
    by_cases hlt : k < n
    · obtain ⟨y, hy⟩ : ∃ y, l[k]? = some y := ⟨_, List.getElem?_eq_getElem (by rw [← HL.out.2.2.2.2.1]; exact hlt)⟩
      obtain ⟨x, hx⟩ : ∃ x, a[k]? = some x := ⟨_, List.getElem?_eq_getElem (by rw [HL.out.2.2.2.1, ← HL.out.2.2.2.2.1]; exact hlt)⟩
      have hIl := idx_at (P := Tryz.prog) Tryz.underlying9 HL.out.2.2.1 hy
      have hIa := idx_at (P := Tryz.prog) Tryz.underlying9 HL.out.2.1 hx
      rw [← HL.out.2.2.2.2.2.1] at hIl
      rw [← HL.out.2.2.2.2.2.2] at hIa
      have hyl : y < 256 := HL.out.2.2.1 y (List.mem_of_getElem? hy)
      have hxl : x < 256 := HL.out.2.1 x (List.mem_of_getElem? hx)
      have hM := RMul_any c y wr HL.out.1 hyl
      rw [gm_comm HL.out.1 hyl] at hM
      obtain ⟨p, hp⟩ : ∃ p, p = gm y c := ⟨_, rfl⟩
      have hpl : p < 256 := by rw [hp]; exact gm_lt y c hyl
      rw [← hp] at hM
      have hxo := u8x x p hxl hpl
      have hnx : os ++ [x ^^^ p] = (List.range (k + 1)).map (fZ (fun x y => x ^^^ gm y c) a l) := by
        rw [List.range_succ, List.map_append, hos]
        congr 1
        simp [fZ, List.getD, hx, hy, hp]
      have HX := Lib.hid (And.intro hM (And.intro hnx (And.intro hr hB)))
      clear hM hnx hr hB hos hx hy hp
      go_wp2_with fail
      refine HX.out.1.mono ?_
      rintro e w2 ⟨rfl, b2⟩
      have B2 := HX.out.2.2.2.trans (b2.mono HX.out.2.2.2.size)
      have hr2 := ownsRow_below HX.out.2.2.1 b2
      have hbs := B2.size
      have H2 := Lib.hid (And.intro B2 hr2)
      clear b2 B2 hr2
      go_wp2_with (at_builtin; refine wpList_append_own_at _ rfl _ _ 62 rfl w1.heap.size tU8 i0 (.int .u8 0) 1 1 Tryz.underlying62 HIN.out.1 HIN.out.2.1 HIN.out.2.2.1 HIN.out.2.2.2 rfl (by decide) _ _ _ rfl (H2.out.2.alloc _) ⟨w2.heap.size, 0, none⟩ 1 1 [u8V (x ^^^ p)] rfl rfl ?c1 ?c2 ?c3 ?c4 ?c5 ?_)
      case c1 => exact one_u8 w2 (x ^^^ p)
      case c2 => intro u hu; rw [List.mem_singleton.1 hu]; rfl
      case c3 => unfold maxLen; omega
      case c4 => omega
      case c5 => simp; omega
      intro v' w8 ho hgr _ hloc
      rw [show (os.map u8V ++ [u8V (x ^^^ p)]) = (os ++ [x ^^^ p]).map u8V by rw [List.map_append]; rfl] at ho
      have hgr2 := (World.grownBy_alloc w2 (.cells [u8V (x ^^^ p)].toArray tU8) (Value.slice av k cv).ownBlock).trans hgr
      have B8 := below_own1 H2.out.1 hgr2 H2.out.2
      obtain ⟨a3, c3, rfl⟩ := own_shape1 ho
      have H8 := Lib.hid (And.intro ho B8)
      clear ho hgr hgr2 hloc B8
      go_wp2_with fail
      go_roundw
      case rel => exact ⟨k + 1, _, by omega, by go_num, HX.out.2.1, H8.out.1, H8.out.2⟩
      case measure => simp [intOf] <;> omega
    · obtain rfl : k = n := by omega
      have hcv := text_own (P := Tryz.prog) hr (Nat.le_refl _) Tryz.underlying62 Tryz.underlying5 Tryz.underlying9
      have hos2 : os.take k = foldL a c l := by
        rw [hos, fZ_take (Nat.le_refl _), fZ_zip HL.out.2.2.2.1 (by rw [HL.out.2.2.2.1]; exact HL.out.2.2.2.2.1)]
        rfl
      rw [hos2] at hcv
      have HB := Lib.hid (B1.out.trans (hB.mono B1.out.size))
      clear hB hr hos hos2
      go_wp2_with fail
      go_ret2
      exact ⟨rfl, HB.out⟩
theorem RPower_ok (i : Nat) (w : World) (hi : i < 30) : Calls Tryz.prog 47 #[.int .i64 (i : Int)] w fun e w' => e = .returned (.int .u8 (pw i : Int)) ∧ Below w.heap.size w w' := by
  go_enter Tryz.func47, Tryz.ntmps47
  go_wp2_with fail
  go_loopw [3, 4] (fun s x wr => ∃ k : Nat, k ≤ i ∧ x = .int .i64 (k : Int) ∧ s = .int .u8 (pw k : Int) ∧ Below w.heap.size w wr) (fun _ x _ => i - (intOf x).toNat)
  case atStart => exact ⟨0, by omega, rfl, rfl, Below.refl _ _⟩
  case round =>
    obtain ⟨k, hk, rfl, rfl, hB⟩ := hrel
    by_cases hlt : k < i
    · have hM := RMul_any (pw k) 2 wr (pw_lt k) (by omega)
      rw [show gm (pw k) 2 = pw (k + 1) from (gm_pws k 1)] at hM
      have HX := Lib.hid (And.intro hM hB)
      clear hM hB
      go_wp2_with fail
      refine HX.out.1.mono ?_
      rintro e w2 ⟨rfl, b2⟩
      have B2 := Lib.hid (HX.out.2.trans (b2.mono HX.out.2.size))
      clear b2
      go_wp2_with fail
      go_roundw
      case rel => exact ⟨k + 1, by omega, by go_num, rfl, B2.out⟩
      case measure => simp [intOf] <;> omega
    · obtain rfl : k = i := by omega
      have HB := Lib.hid hB
      clear hB
      go_wp2_with fail
      go_returns
      exact ⟨rfl, HB.out⟩
/-- A quotient, looked for. -/
theorem RDiv_ok (q a : Nat) (w : World) (hq : q < 256) (ha : a < 256) (h0 : a ≠ 0) : Calls Tryz.prog 48 #[.int .u8 (q : Int), .int .u8 (a : Int)] w fun e w' => e = .returned (.tuple #[.int .u8 (gm q (inv a) : Int), .int .i64 0]) ∧ Below w.heap.size w w' := by
  obtain ⟨z, hz⟩ : ∃ z, z = gm q (inv a) := ⟨_, rfl⟩
  have hzl : z < 256 := by rw [hz]; exact gm_lt _ _ hq
  have hza : gm z a = q := by rw [hz]; exact gm_div ha h0 hq
  have hon : ∀ x, x < 256 → gm x a = q → x = z := fun x hx h => gm_cancel ha h0 hx hzl (h.trans hza.symm)
  rw [← hz]
  have haI : ((a : Int) == 0) = false := by simpa using h0
  have HZ := Lib.hid (And.intro hza (And.intro hon ha))
  clear hza hon hz h0
  go_enter Tryz.func48, Tryz.ntmps48
  go_wp2_with fail
  go_loopw [6] (fun x wr => ∃ k : Nat, k ≤ z ∧ x = .int .i64 (k : Int) ∧ Below w.heap.size w wr) (fun x _ => 256 - (intOf x).toNat)
  case atStart => exact ⟨0, by omega, rfl, Below.refl _ _⟩
  case round =>
    obtain ⟨k, hk, rfl, hB⟩ := hrel
    have hM := RMul_any k a wr (by omega) HZ.out.2.2
    obtain ⟨p, hp⟩ : ∃ p, p = gm k a := ⟨_, rfl⟩
    rw [← hp] at hM
    have HX := Lib.hid (And.intro hM (And.intro hB hp))
    clear hM hB hp
    by_cases hkz : p = q
    · have hkz2 : k = z := HZ.out.2.1 k (by omega) (by rw [← HX.out.2.2]; exact hkz)
      subst hkz2
      subst hkz
      go_wp2_with fail
      refine HX.out.1.mono ?_
      rintro e w2 ⟨rfl, b2⟩
      have B2 := Lib.hid (HX.out.2.1.trans (b2.mono HX.out.2.1.size))
      clear b2
      go_wp2_with fail
      go_ret2
      exact ⟨rfl, B2.out⟩
    · have hkl : k < z := by
        rcases Nat.lt_or_ge k z with h | h
        · exact h
        · exact absurd (by rw [HX.out.2.2, show k = z by omega]; exact HZ.out.1) hkz
      have hpI : ((p : Int) == (q : Int)) = false := by simp; omega
      go_wp2_with fail
      refine HX.out.1.mono ?_
      rintro e w2 ⟨rfl, b2⟩
      have B2 := Lib.hid (HX.out.2.1.trans (b2.mono HX.out.2.1.size))
      clear b2
      go_wp2_with fail
      go_roundw
      case rel => exact ⟨k + 1, by omega, by go_num, B2.out⟩
      case measure => simp [intOf] <;> omega
end Go.Proofs.YtjoipibldahbhaaGreatDoor
/- The document's parities: a contract. -/
namespace Go.Proofs.YtjoipibldahbhaaGreatDoor
open Go Go.RowKit
set_option maxRecDepth 100000
variable {w w' : World} {v : Value} {ls : List (List Nat)} {B : Nat}
theorem zeros_row (w : World) (n : Nat) : (w.alloc (.cells (madeCells #[Value.int .u8 0] n) tU8)).row w.heap.size ((zeros n).map u8V) tU8 := by
  have e : madeCells #[Value.int .u8 0] n = ((zeros n).map u8V).toArray := by
    apply Array.ext_getElem?
    intro i
    unfold madeCells zeros
    by_cases h : i < n
    · simp [h, Nat.mod_one]
    · simp [h]
  rw [e]
  exact World.row.new w _ tU8
theorem zeros_text (w : World) (n : Nat) : (convert 62 9 (.slice (some ⟨w.heap.size, 0, none⟩) n n)).run Tryz.prog (w.alloc (.cells (madeCells #[Value.int .u8 0] n) tU8)) = .ok (.string (mk (zeros n))) (w.alloc (.cells (madeCells #[Value.int .u8 0] n) tU8)) := by
  have := text_of (P := Tryz.prog) (zeros_row w n) Tryz.underlying62 Tryz.underlying5 Tryz.underlying9
  rw [zeros_len] at this
  exact this
/-- Columns of one length. -/
def One (n : Nat) (ls : List (List Nat)) : Prop := ∀ l ∈ ls, AllB l ∧ l.length = n
theorem One.fit {n : Nat} (h : One n ls) (hn : n ≤ 65536) : fitE ls = 0 := fitE_0 (fun j l hj => by rw [(h l (List.mem_of_getElem? hj)).2]; exact hn) (fun j l hj => by
  rw [(h l (List.mem_of_getElem? hj)).2]
  cases ls with
  | nil => simp at hj
  | cons a r => exact (h a (List.mem_cons_self ..)).2.symm)
theorem One.all {n : Nat} (h : One n ls) : AllC ls := fun l hl => (h l hl).1
set_option maxHeartbeats 1000000 in
theorem RMake_ok (n : Nat) (w : World) (h : RS w v ls) (h2 : 2 ≤ ls.length) (h30 : ls.length ≤ 30) (ho : One n ls) (hn : n ≤ 65536) :
    Calls Tryz.prog 32 #[v] w fun e w' => e = .returned (.tuple #[strV (PL n ls), strV (QL n ls), .int .i64 0]) ∧ Below w.heap.size w w' := by
  have hF := RFit_any w h (by omega)
  rw [ho.fit hn] at hF
  have HF := Lib.hid hF
  clear hF
  rcases h.cases with ⟨rfl, a, c, rfl⟩ | ⟨hne, b, o, c, rfl, hc, hcell⟩
  · simp at h2
  obtain ⟨m, hm⟩ : ∃ m, m = ls.length := ⟨_, rfl⟩
  obtain ⟨a0, ha0⟩ : ∃ a0, ls[0]? = some a0 := ⟨_, List.getElem?_eq_getElem (by omega)⟩
  have ha0n := (ho a0 (List.mem_of_getElem? ha0)).2
  rw [← hm] at h2 h30 hc HF ⊢
  have hmk := run_make_row' (P := Tryz.prog) 62 tU8 (.int .u8 0) 1 Tryz.underlying62 infoU8p rfl .i64 .i64 n (by omega) (by omega)
  have HC := Lib.hid (And.intro hcell (And.intro hm (And.intro ho (And.intro ha0 ha0n))))
  clear hcell hm ho ha0 ha0n hne h
  go_enter Tryz.func32, Tryz.ntmps32
  go_wp2_with fail
  refine HF.out.mono ?_
  rintro e w1 ⟨rfl, b1⟩
  have c00 := HC.out.1 0 a0 HC.out.2.2.2.1
  rw [Nat.add_zero] at c00
  have c0 := (b1.cell (p := ⟨b, o, none⟩) (block_lt_of_cell c00)).trans c00
  have hsz := mk_size a0
  rw [HC.out.2.2.2.2] at hsz
  obtain ⟨s0, hs0⟩ : ∃ s, s = mk a0 := ⟨_, rfl⟩
  rw [← hs0] at hsz
  rw [show strV a0 = .string s0 by rw [hs0]] at c0
  have hcv := zeros_text w1 n
  obtain ⟨sz, hsze⟩ : ∃ s, s = mk (zeros n) := ⟨_, rfl⟩
  rw [← hsze] at hcv
  have B1 := Lib.hid (And.intro b1 (And.intro (b1.alloc b1.size (.cells (madeCells #[Value.int .u8 0] n) tU8)) hsze))
  clear b1 c00 hs0 hsze
  go_wp2_with fail
  go_loopw [6, 7, 8] (fun pv qv x wr => ∃ k : Nat, k ≤ m ∧ x = .int .i64 (k : Int) ∧ pv = strV (PL n (ls.take k)) ∧ qv = strV (QL n (ls.take k)) ∧ Below w.heap.size w wr) (fun _ _ x _ => m - (intOf x).toNat)
  case atStart => exact ⟨0, by omega, rfl, by rw [List.take_zero, PL_nil, B1.out.2.2], by rw [List.take_zero, QL_nil, B1.out.2.2], B1.out.2.1⟩
  case round =>
    obtain ⟨k, hk, rfl, rfl, rfl, hB⟩ := hrel
    by_cases hlt : k < m
    · obtain ⟨l, hlk⟩ : ∃ l, ls[k]? = some l := ⟨_, List.getElem?_eq_getElem (by rw [← HC.out.2.1]; exact hlt)⟩
      have ho := HC.out.2.2.1
      obtain ⟨hlA, hln⟩ := ho l (List.mem_of_getElem? hlk)
      have htA : AllC (ls.take k) := fun x hx => ho.all x (List.mem_of_mem_take hx)
      have htk : ls.take (k + 1) = ls.take k ++ [l] := by rw [List.take_add_one, hlk]; rfl
      have htl : (ls.take k).length = k := by rw [List.length_take]; have := HC.out.2.1; omega
      have hP := RPower_ok k wr (by omega)
      obtain ⟨pl, hpl⟩ : ∃ p, p = PL n (ls.take k) := ⟨_, rfl⟩
      obtain ⟨ql, hql⟩ : ∃ p, p = QL n (ls.take k) := ⟨_, rfl⟩
      have hplA : AllB pl := by rw [hpl]; exact PL_all htA
      have hqlA : AllB ql := by rw [hql]; exact QL_all htA
      have hpln : pl.length = l.length := by rw [hpl, PL_len, hln]
      have hqln : ql.length = l.length := by rw [hql, QL_len, hln]
      have h1 := fun w' => RFold_ok pl l 1 w' (by omega) hplA hlA hpln (by omega)
      rw [foldL_one hlA hpln] at h1
      have h2' := fun w' => RFold_ok ql l (pw k) w' (pw_lt k) hqlA hlA hqln (by omega)
      have e1 : xorL pl l = PL n (ls.take (k + 1)) := by rw [htk, hpl, PL_snoc hln]
      have e2 : foldL ql (pw k) l = QL n (ls.take (k + 1)) := by
        have := QL_snoc (ls := ls.take k) hln
        rw [htl, ← hql, ← htk] at this
        exact this
      rw [e1] at h1
      rw [e2] at h2'
      have ck0 := HC.out.1 k l hlk
      have HX := Lib.hid (And.intro hP (And.intro h1 (And.intro h2' (And.intro hB ck0))))
      rw [← hpl, ← hql]
      clear hP h1 h2' hB ck0 hpl hql e1 e2 htk htl hplA hqlA hpln hqln hlA hln ho htA hlk
      go_wp2_with fail
      refine HX.out.1.mono ?_
      rintro e w2 ⟨rfl, b2⟩
      have B2 := HX.out.2.2.2.1.trans (b2.mono HX.out.2.2.2.1.size)
      have ck := (B2.cell (p := ⟨b, o + k, none⟩) (block_lt_of_cell HX.out.2.2.2.2)).trans HX.out.2.2.2.2
      have H2 := Lib.hid B2
      clear b2 B2
      go_wp2_with fail
      refine (HX.out.2.1 w2).mono ?_
      rintro e w3 ⟨rfl, b3⟩
      have B3 := H2.out.trans (b3.mono H2.out.size)
      have ck := (B3.cell (p := ⟨b, o + k, none⟩) (block_lt_of_cell HX.out.2.2.2.2)).trans HX.out.2.2.2.2
      have H3 := Lib.hid B3
      clear b3 B3
      go_wp2_with fail
      refine (HX.out.2.2.1 w3).mono ?_
      rintro e w4 ⟨rfl, b4⟩
      have B4 := Lib.hid (H3.out.trans (b4.mono H3.out.size))
      clear b4
      go_wp2_with fail
      go_roundw
      case rel => exact ⟨k + 1, by omega, by go_num, rfl, rfl, B4.out⟩
      case measure => simp [intOf] <;> omega
    · obtain rfl : k = m := by omega
      have HB := Lib.hid hB
      rw [List.take_of_length_le (by have := HC.out.2.1; omega)]
      clear hB
      go_wp2_with fail
      go_returns
      exact ⟨rfl, HB.out⟩
end Go.Proofs.YtjoipibldahbhaaGreatDoor
