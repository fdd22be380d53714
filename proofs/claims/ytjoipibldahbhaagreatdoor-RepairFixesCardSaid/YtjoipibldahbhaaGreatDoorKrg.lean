/- Several texts in one: FixW Fxr Fixer FixOk RCut RRowF RWakes Back Back2. -/
import Derived.Test.YtjoipibldahbhaaGreatDoorKrf
import Derived.Ground.Names2Prog
import Derived.Shelf.Slices.Clone
/- The walk of 'fix'. -/
namespace Go.Proofs.YtjoipibldahbhaaGreatDoor
open Go Go.RowKit
set_option maxRecDepth 100000
variable {w w' : World} {v : Value} {b F gc gr cap k n : Nat} {d : Nat → Int} {cols : List (List Nat)} {lost : List Int}
theorem dsI_map (k : Nat) (lost : List Int) : dsI k lost = (dsN k lost).map fun n : Nat => (n : Int) := rfl
theorem rd_at {xs : List Int} {a : Option Addr} {nd c : Nat} (h : w.rd (.slice a nd c) (iV xs)) (hn : xs ≠ []) : ∃ bd od, a = some ⟨bd, od, none⟩ ∧ nd = xs.length ∧ bd < w.heap.size ∧ ∀ j x, xs[j]? = some x → w.cell? ⟨bd, od + j, none⟩ = some (.int .i64 x) := by
  rcases h.cases with ⟨h0, _⟩ | ⟨_, bd, od, cp, hv, hc⟩
  · exact absurd (by simpa [iV] using h0) hn
  · obtain ⟨rfl, rfl, rfl⟩ := Value.slice.inj hv
    refine ⟨bd, od, rfl, iV_len xs, ?_, fun j x hj => hc j _ (iV_get hj)⟩
    obtain ⟨x, hx⟩ : ∃ x, xs[0]? = some x := by cases xs with
      | nil => exact absurd rfl hn
      | cons x r => exact ⟨x, rfl⟩
    exact block_lt_of_cell (hc 0 _ (iV_get hx))
set_option maxHeartbeats 8000000 in
theorem fix_ok {a : Option Addr} {nd c : Nat} {p q : Bool} (w : World) (h : RowAt w b F gc gr cap k n d cols) (hk2 : 2 ≤ k) (hk : k ≤ 30) (hn : n ≤ 65536) (hp : p = hasI lost k) (hq : q = hasI lost (k + 1)) (hd : w.rd (.slice a nd c) (iV (dsI k lost))) (hcn : cntI k lost ≤ 2) (hf : Fits n cols lost) :
    Calls Tryz.prog 28 #[.pointer (some ⟨gr, 0, none⟩), lossV (.slice a nd c) p q] w fun e w' => e = .returned (.tuple #[]) ∧ Kept (RS2 b gc) w w' ∧ RowAt w' b F gc gr cap k n d (fixL n k cols lost) := by
  have hdl : (dsI k lost).length ≤ 2 := by rw [dsI_len]; unfold cntI at hcn; omega
  have hnd : nd = (dsI k lost).length := by
    obtain ⟨a', c', hv, _⟩ := hd
    have := (Value.slice.inj hv).2.1
    rw [iV_len] at this; exact this
  have hl2 := h.len
  have hone := dataL_one hf hl2 (by rw [← dsI_len]; exact hdl)
  have hL := fun w1 (hb : Below w.heap.size w w1) => less_ok w1 (h.below hb) hk hn hp hq (hd.below hb (Nat.le_refl _)) (by omega) hf
  have hfx : fixL n k cols lost = againL n k p q (dataL n k cols lost) := by rw [hp, hq]; rfl
  have HR := Lib.hid (And.intro h (And.intro hp (And.intro hq (And.intro hd (And.intro hcn (And.intro hf (And.intro hdl (And.intro hnd (And.intro hone (And.intro hL (And.intro hl2 hfx)))))))))))
  clear h hp hq hd hcn hf hdl hnd hone hL hl2 hfx
  go_enter Tryz.func28, Tryz.ntmps28
  go_wp2_with fail
  obtain ⟨g1, hg1⟩ : ∃ g, g = w.heap.size := ⟨_, rfl⟩
  have b1 : Below w.heap.size w (w.alloc (.cells #[.slice a nd c, .bool p, .bool q] tLs)) := (Below.refl _ _).alloc (Nat.le_refl _) _
  refine (HR.out.2.2.2.2.2.2.2.2.2.1 _ b1).mono ?_
  rintro e w2 ⟨rfl, b2⟩
  have r2 := (World.row.new' (w := w) (cs := lcs (.slice a nd c) p q) (t := tLs) hg1.symm).below b2 (by rw [hg1]; simp)
  rw [← hg1]
  have B2 := b1.trans (b2.mono b1.size)
  have hgr : gr < g1 := by rw [hg1]; exact HR.out.1.row.lt
  obtain ⟨l0, l1, l2, l3⟩ : w2.cell? ⟨g1, 0, none⟩ = some (.slice a nd c) ∧ w2.cell? ⟨g1, 1, none⟩ = some (.bool p) ∧ w2.cell? ⟨g1, 2, none⟩ = some (.bool q) ∧ g1 < w2.heap.size := ⟨r2.cell 0 rfl, r2.cell 1 rfl, r2.cell 2 rfl, r2.lt⟩
  have hK := kind_any a nd c p q (by rw [HR.out.2.2.2.2.2.2.2.1]; exact HR.out.2.2.2.2.2.2.1) w2
  have H2 := Lib.hid (And.intro r2 (And.intro B2 (And.intro hg1 hK)))
  clear b1 b2 r2 B2 hg1 hK
  obtain ⟨P, hP⟩ : ∃ P, P = lessP n cols lost k := ⟨_, rfl⟩
  obtain ⟨Q, hQ⟩ : ∃ Q, Q = lessQ n cols lost k := ⟨_, rfl⟩
  rw [← hP, ← hQ]
  have HPQ := Lib.hid (And.intro hP hQ)
  clear hP hQ
  go_wp2_with fail
  refine H2.out.2.2.2.mono ?_
  rintro e w3 ⟨rfl, b3⟩
  have A3 := HR.out.1.below (H2.out.2.1.trans (b3.mono H2.out.2.1.size))
  have r3 := H2.out.1.below b3 H2.out.1.lt
  have B3 := H2.out.2.1.trans (b3.mono H2.out.2.1.size)
  have hd3 := HR.out.2.2.2.1.below B3 (Nat.le_refl _)
  clear l0 l1 l2 l3
  obtain ⟨l0, l1, l2, l3⟩ : w3.cell? ⟨g1, 0, none⟩ = some (.slice a nd c) ∧ w3.cell? ⟨g1, 1, none⟩ = some (.bool p) ∧ w3.cell? ⟨g1, 2, none⟩ = some (.bool q) ∧ g1 < w3.heap.size := ⟨r3.cell 0 rfl, r3.cell 1 rfl, r3.cell 2 rfl, r3.lt⟩
  obtain ⟨c0, c1, c2, c3, hg⟩ := A3.four
  have hgc := A3.lt
  have hne1 : gc ≠ g1 := by have := A3.o3; omega
  have hne2 : b ≠ g1 := by have := A3.o1; have := A3.o2; have := A3.o3; omega
  have H3 := Lib.hid (And.intro A3 (And.intro r3 (And.intro (Kept.of_below (RS2 b gc) B3) (And.intro hd3 (And.intro hne1 hne2)))))
  clear A3 r3 b3 B3 hd3 hne1 hne2
  have hcases : (dsN k lost = [] ∧ nd = 0) ∨ (∃ i, dsN k lost = [i] ∧ nd = 1 ∧ i < k ∧ ¬ (p = true ∧ q = true)) ∨ (∃ i j, dsN k lost = [i, j] ∧ nd = 2 ∧ i < k ∧ j < k ∧ i ≠ j) := by
    have h1 := HR.out.2.2.2.2.2.2.2.1
    have h2 := HR.out.2.2.2.2.1
    rw [dsI_len] at h1
    have hm : ∀ i, i ∈ dsN k lost → i < k := fun i hi => (dsN_mem.1 hi).1
    have hlt := dsN_lt k lost
    unfold cntI at h2
    rw [← HR.out.2.1, ← HR.out.2.2.1] at h2
    cases hds : dsN k lost with
    | nil => rw [hds] at h1; exact .inl ⟨rfl, h1⟩
    | cons i r =>
      rw [hds] at h1 h2 hm hlt
      cases r with
      | nil =>
        refine .inr (.inl ⟨i, rfl, h1, hm i (by simp), ?_⟩)
        rintro ⟨rfl, rfl⟩
        simp at h2
      | cons j r =>
        have hr : r = [] := by cases r with
          | nil => rfl
          | cons x r => simp at h2; omega
        subst hr
        refine .inr (.inr ⟨i, j, rfl, h1, hm i (by simp), hm j (by simp), ?_⟩)
        simp at hlt
        omega
  rcases hcases with ⟨hds, rfl⟩ | ⟨i, hds, rfl, hik, hpq⟩ | ⟨i, j, hds, rfl, hik, hjk, hij⟩
  · have hD : dataL n k cols lost = cols := by unfold dataL; rw [hds]
    have hA := H3.out.1
    rw [← hD] at hA
    have HT := Lib.hid (And.intro hA (And.intro H3.out.2.1 H3.out.2.2.1))
    clear hA hD hds l0 l1 l2 l3 c0 c1 c2 c3 hg hgc
    have k0 : kindF 0 false false = 0 := rfl
    have k1 : kindF 0 false true = 3 := rfl
    have k2 : kindF 0 true false = 2 := rfl
    have k3 : kindF 0 true true = 6 := rfl
    cases p <;> cases q
    · obtain ⟨l0, l1, l2, l3⟩ : w3.cell? ⟨g1, 0, none⟩ = some (.slice a 0 c) ∧ w3.cell? ⟨g1, 1, none⟩ = some (.bool false) ∧ w3.cell? ⟨g1, 2, none⟩ = some (.bool false) ∧ g1 < w3.heap.size := ⟨HT.out.2.1.cell 0 rfl, HT.out.2.1.cell 1 rfl, HT.out.2.1.cell 2 rfl, HT.out.2.1.lt⟩
      go_wp2_with fail
      refine (again_ok w3 HT.out.1 hk2 hk hn HR.out.2.2.2.2.2.2.2.2.1).mono ?_
      rintro e w9 ⟨rfl, K9, A9⟩
      have H9 := Lib.hid (And.intro (HT.out.2.2.trans K9) A9)
      clear K9 A9 l0 l1 l2 l3
      go_wp2_with fail
      go_end0
      exact ⟨rfl, H9.out.1, by rw [HR.out.2.2.2.2.2.2.2.2.2.2.2]; exact H9.out.2⟩
    · obtain ⟨l0, l1, l2, l3⟩ : w3.cell? ⟨g1, 0, none⟩ = some (.slice a 0 c) ∧ w3.cell? ⟨g1, 1, none⟩ = some (.bool false) ∧ w3.cell? ⟨g1, 2, none⟩ = some (.bool true) ∧ g1 < w3.heap.size := ⟨HT.out.2.1.cell 0 rfl, HT.out.2.1.cell 1 rfl, HT.out.2.1.cell 2 rfl, HT.out.2.1.lt⟩
      go_wp2_with fail
      refine (again_ok w3 HT.out.1 hk2 hk hn HR.out.2.2.2.2.2.2.2.2.1).mono ?_
      rintro e w9 ⟨rfl, K9, A9⟩
      have H9 := Lib.hid (And.intro (HT.out.2.2.trans K9) A9)
      clear K9 A9 l0 l1 l2 l3
      go_wp2_with fail
      go_end0
      exact ⟨rfl, H9.out.1, by rw [HR.out.2.2.2.2.2.2.2.2.2.2.2]; exact H9.out.2⟩
    · obtain ⟨l0, l1, l2, l3⟩ : w3.cell? ⟨g1, 0, none⟩ = some (.slice a 0 c) ∧ w3.cell? ⟨g1, 1, none⟩ = some (.bool true) ∧ w3.cell? ⟨g1, 2, none⟩ = some (.bool false) ∧ g1 < w3.heap.size := ⟨HT.out.2.1.cell 0 rfl, HT.out.2.1.cell 1 rfl, HT.out.2.1.cell 2 rfl, HT.out.2.1.lt⟩
      go_wp2_with fail
      refine (again_ok w3 HT.out.1 hk2 hk hn HR.out.2.2.2.2.2.2.2.2.1).mono ?_
      rintro e w9 ⟨rfl, K9, A9⟩
      have H9 := Lib.hid (And.intro (HT.out.2.2.trans K9) A9)
      clear K9 A9 l0 l1 l2 l3
      go_wp2_with fail
      go_end0
      exact ⟨rfl, H9.out.1, by rw [HR.out.2.2.2.2.2.2.2.2.2.2.2]; exact H9.out.2⟩
    · obtain ⟨l0, l1, l2, l3⟩ : w3.cell? ⟨g1, 0, none⟩ = some (.slice a 0 c) ∧ w3.cell? ⟨g1, 1, none⟩ = some (.bool true) ∧ w3.cell? ⟨g1, 2, none⟩ = some (.bool true) ∧ g1 < w3.heap.size := ⟨HT.out.2.1.cell 0 rfl, HT.out.2.1.cell 1 rfl, HT.out.2.1.cell 2 rfl, HT.out.2.1.lt⟩
      go_wp2_with fail
      refine (again_ok w3 HT.out.1 hk2 hk hn HR.out.2.2.2.2.2.2.2.2.1).mono ?_
      rintro e w9 ⟨rfl, K9, A9⟩
      have H9 := Lib.hid (And.intro (HT.out.2.2.trans K9) A9)
      clear K9 A9 l0 l1 l2 l3
      go_wp2_with fail
      go_end0
      exact ⟨rfl, H9.out.1, by rw [HR.out.2.2.2.2.2.2.2.2.2.2.2]; exact H9.out.2⟩
  · obtain ⟨bd, od, rfl, hnl, hbd, hcell⟩ := rd_at H3.out.2.2.2.1 (by rw [dsI_map, hds]; simp)
    clear hnl
    have x0 := hcell 0 (i : Int) (by rw [dsI_map, hds]; rfl)
    rw [Nat.add_zero] at x0
    obtain ⟨u, d0⟩ := H3.out.1.held (i := i) (by omega)
    have dz := H3.out.1.free
    clear hcell
    have hne1 := H3.out.2.2.2.2.1
    have k0 : kindF 1 false false = 1 := rfl
    have k1 : kindF 1 false true = 5 := rfl
    have k2 : kindF 1 true false = 4 := rfl
    cases p <;> cases q
    · go_wp2_with fail
      refine wp_region_mix_exts (fun x => (x = gr ∨ x = F) ∨ x = g1) [38] false (by kernel_rfl) (by kernel_rfl) ?_
      intro _
      repeat ((with_reducible refine wpMix_light ?hh ?_); (case hh => rfl); go_big_quiet_step (fail); (with_reducible refine wpQuiet_nil ?_))
      (with_reducible refine wpMix_heavy ?hh ?hw (fun K hK => ?_)); (case hh => rfl); (case hw => rfl)
      go_simp
      refine hK.out _ _ (toExtS (fun x hx => rfl)) ?_
      clear hK K
      try simp only [Act.put, List.setIfInBounds_toArray, List.set_cons_zero, List.set_cons_succ]
      repeat ((with_reducible refine wpMix_light ?hh ?_); (case hh => rfl); go_big_quiet_step (fail); (with_reducible refine wpQuiet_nil ?_))
      (with_reducible refine wpMix_heavy ?hh ?hw (fun K hK => ?_)); (case hh => rfl); (case hw => rfl)
      go_simp
      refine hK.out _ _ (toExtS (fun x hx => hx.elim (H3.out.1.keep i _ x) (fun e => Below.heap_setCell _ _ _ _ (by dsimp only; omega)))) ?_
      clear hK K
      try simp only [Act.put]
      refine wpMix_nil ?_
      obtain ⟨A4, K4⟩ := H3.out.1.stored i P
      have r4 := (H3.out.2.1.other ⟨gc, i, none⟩ (strV P) H3.out.2.2.2.2.1).drew
      have hD : dataL n k cols lost = cols.set i P := by unfold dataL; rw [hds, ← HR.out.2.1, ← HPQ.out.1]; rfl
      rw [← hD] at A4
      have HT := Lib.hid (And.intro A4 (And.intro r4 (H3.out.2.2.1.trans K4)))
      obtain ⟨w5, hw5⟩ : ∃ w5, w5 = (w3.setCell ⟨gc, i, none⟩ (strV P)).drew := ⟨_, rfl⟩
      rw [show Value.string (mk P) = strV P from rfl, ← hw5]
      rw [← hw5] at HT
      clear A4 K4 r4 hD hds hw5 l0 l1 l2 l3 c0 c1 c2 c3 hg hgc x0 dz d0 hbd
      obtain ⟨l0, l1, l2, l3⟩ : w5.cell? ⟨g1, 0, none⟩ = some (.slice (some ⟨bd, od, none⟩) 1 c) ∧ w5.cell? ⟨g1, 1, none⟩ = some (.bool false) ∧ w5.cell? ⟨g1, 2, none⟩ = some (.bool false) ∧ g1 < w5.heap.size := ⟨HT.out.2.1.cell 0 rfl, HT.out.2.1.cell 1 rfl, HT.out.2.1.cell 2 rfl, HT.out.2.1.lt⟩
      go_wp2_with fail
      refine (again_ok w5 HT.out.1 hk2 hk hn HR.out.2.2.2.2.2.2.2.2.1).mono ?_
      rintro e w9 ⟨rfl, K9, A9⟩
      have H9 := Lib.hid (And.intro (HT.out.2.2.trans K9) A9)
      clear K9 A9 l0 l1 l2 l3
      go_wp2_with fail
      go_end0
      exact ⟨rfl, H9.out.1, by rw [HR.out.2.2.2.2.2.2.2.2.2.2.2]; exact H9.out.2⟩
    · go_wp2_with fail
      refine wp_region_mix_exts (fun x => (x = gr ∨ x = F) ∨ x = g1) [38] false (by kernel_rfl) (by kernel_rfl) ?_
      intro _
      repeat ((with_reducible refine wpMix_light ?hh ?_); (case hh => rfl); go_big_quiet_step (fail); (with_reducible refine wpQuiet_nil ?_))
      (with_reducible refine wpMix_heavy ?hh ?hw (fun K hK => ?_)); (case hh => rfl); (case hw => rfl)
      go_simp
      refine hK.out _ _ (toExtS (fun x hx => rfl)) ?_
      clear hK K
      try simp only [Act.put, List.setIfInBounds_toArray, List.set_cons_zero, List.set_cons_succ]
      repeat ((with_reducible refine wpMix_light ?hh ?_); (case hh => rfl); go_big_quiet_step (fail); (with_reducible refine wpQuiet_nil ?_))
      (with_reducible refine wpMix_heavy ?hh ?hw (fun K hK => ?_)); (case hh => rfl); (case hw => rfl)
      go_simp
      refine hK.out _ _ (toExtS (fun x hx => hx.elim (H3.out.1.keep i _ x) (fun e => Below.heap_setCell _ _ _ _ (by dsimp only; omega)))) ?_
      clear hK K
      try simp only [Act.put]
      refine wpMix_nil ?_
      obtain ⟨A4, K4⟩ := H3.out.1.stored i P
      have r4 := (H3.out.2.1.other ⟨gc, i, none⟩ (strV P) H3.out.2.2.2.2.1).drew
      have hD : dataL n k cols lost = cols.set i P := by unfold dataL; rw [hds, ← HR.out.2.1, ← HPQ.out.1]; rfl
      rw [← hD] at A4
      have HT := Lib.hid (And.intro A4 (And.intro r4 (H3.out.2.2.1.trans K4)))
      obtain ⟨w5, hw5⟩ : ∃ w5, w5 = (w3.setCell ⟨gc, i, none⟩ (strV P)).drew := ⟨_, rfl⟩
      rw [show Value.string (mk P) = strV P from rfl, ← hw5]
      rw [← hw5] at HT
      clear A4 K4 r4 hD hds hw5 l0 l1 l2 l3 c0 c1 c2 c3 hg hgc x0 dz d0 hbd
      obtain ⟨l0, l1, l2, l3⟩ : w5.cell? ⟨g1, 0, none⟩ = some (.slice (some ⟨bd, od, none⟩) 1 c) ∧ w5.cell? ⟨g1, 1, none⟩ = some (.bool false) ∧ w5.cell? ⟨g1, 2, none⟩ = some (.bool true) ∧ g1 < w5.heap.size := ⟨HT.out.2.1.cell 0 rfl, HT.out.2.1.cell 1 rfl, HT.out.2.1.cell 2 rfl, HT.out.2.1.lt⟩
      go_wp2_with fail
      refine (again_ok w5 HT.out.1 hk2 hk hn HR.out.2.2.2.2.2.2.2.2.1).mono ?_
      rintro e w9 ⟨rfl, K9, A9⟩
      have H9 := Lib.hid (And.intro (HT.out.2.2.trans K9) A9)
      clear K9 A9 l0 l1 l2 l3
      go_wp2_with fail
      go_end0
      exact ⟨rfl, H9.out.1, by rw [HR.out.2.2.2.2.2.2.2.2.2.2.2]; exact H9.out.2⟩
    · go_wp2_with fail
      refine (byQ_ok w3 H3.out.1 hk hik (by rw [HPQ.out.2]; exact lessQ_all HR.out.2.2.2.2.2.1 (by have := HR.out.2.2.2.2.2.2.2.2.2.2.1; omega)) (by rw [HPQ.out.2, lessQ_len HR.out.2.2.2.2.2.1 (by have := HR.out.2.2.2.2.2.2.2.2.2.2.1; omega)]; exact hn)).mono ?_
      rintro e w5 ⟨rfl, K5, A5⟩
      have r5 := K5.row H3.out.2.1 (by rintro (h | h); exact H3.out.2.2.2.2.2 h.symm; exact hne1 h.symm)
      have hD : dataL n k cols lost = cols.set i (mulL (inv (pw i)) Q) := by unfold dataL; rw [hds, ← HR.out.2.1, ← HPQ.out.2]; rfl
      rw [← hD] at A5
      have HT := Lib.hid (And.intro A5 (And.intro r5 (H3.out.2.2.1.trans K5)))
      clear A5 K5 r5 hD hds l0 l1 l2 l3 c0 c1 c2 c3 hg hgc x0 dz d0 hbd
      obtain ⟨l0, l1, l2, l3⟩ : w5.cell? ⟨g1, 0, none⟩ = some (.slice (some ⟨bd, od, none⟩) 1 c) ∧ w5.cell? ⟨g1, 1, none⟩ = some (.bool true) ∧ w5.cell? ⟨g1, 2, none⟩ = some (.bool false) ∧ g1 < w5.heap.size := ⟨HT.out.2.1.cell 0 rfl, HT.out.2.1.cell 1 rfl, HT.out.2.1.cell 2 rfl, HT.out.2.1.lt⟩
      go_wp2_with fail
      refine (again_ok w5 HT.out.1 hk2 hk hn HR.out.2.2.2.2.2.2.2.2.1).mono ?_
      rintro e w9 ⟨rfl, K9, A9⟩
      have H9 := Lib.hid (And.intro (HT.out.2.2.trans K9) A9)
      clear K9 A9 l0 l1 l2 l3
      go_wp2_with fail
      go_end0
      exact ⟨rfl, H9.out.1, by rw [HR.out.2.2.2.2.2.2.2.2.2.2.2]; exact H9.out.2⟩
    · exact absurd ⟨rfl, rfl⟩ hpq
  · obtain ⟨bd, od, rfl, hnl, hbd, hcell⟩ := rd_at H3.out.2.2.2.1 (by rw [dsI_map, hds]; simp)
    clear hnl
    have x0 := hcell 0 (i : Int) (by rw [dsI_map, hds]; rfl)
    have x1 := hcell 1 (j : Int) (by rw [dsI_map, hds]; rfl)
    rw [Nat.add_zero] at x0
    clear hcell
    have hne1 := H3.out.2.2.2.2.1
    have k0 : kindF 2 p q = 7 := rfl
    go_wp2_with fail
    refine wp_region_mix_ext w3.heap.size [] true (Nat.le_refl _) (by kernel_rfl) (by kernel_rfl) ?_
    intro _
    repeat ((with_reducible refine wpMix_light ?hh ?_); (case hh => rfl); go_big_quiet_step (fail); (with_reducible refine wpQuiet_nil ?_))
    refine wpMix_last (by rfl) (by rfl) (fun K hK => ?_)
    go_simp
    have hl2 := HR.out.2.2.2.2.2.2.2.2.2.2.1
    have hPl : P.length = n := by rw [HPQ.out.1]; exact lessP_len HR.out.2.2.2.2.2.1 (by omega)
    have hQl : Q.length = n := by rw [HPQ.out.2]; exact lessQ_len HR.out.2.2.2.2.2.1 (by omega)
    refine (both_ok w3.drew (H3.out.1.below ((Below.refl _ _).drew)) hk hik hjk hij (by rw [HPQ.out.1]; exact lessP_all HR.out.2.2.2.2.2.1 (by omega)) (by rw [HPQ.out.2]; exact lessQ_all HR.out.2.2.2.2.2.1 (by omega)) (by rw [hPl, hQl]) (by rw [hQl]; exact hn)).mono ?_
    rintro e w5 ⟨rfl, K5, A5⟩
    refine hK.out _ _ ?_
    clear hK K
    try simp only [Act.put, List.setIfInBounds_toArray, List.set_cons_zero, List.set_cons_succ]
    have r5 := K5.row H3.out.2.1.drew (by rintro (h | h); exact H3.out.2.2.2.2.2 h.symm; exact hne1 h.symm)
    have hD : dataL n k cols lost = (cols.set j (vB i j P Q)).set i (uB i j P Q) := by unfold dataL; rw [hds, ← HPQ.out.2, ← HPQ.out.1]
    rw [← hD] at A5
    have HT := Lib.hid (And.intro A5 (And.intro r5 ((H3.out.2.2.1.trans (Kept.of_below _ ((Below.refl _ _).drew))).trans K5)))
    clear A5 K5 r5 hD hds l0 l1 l2 l3 c0 c1 c2 c3 hg hgc x0 x1 hbd hl2 hPl hQl
    obtain ⟨l0, l1, l2, l3⟩ : w5.cell? ⟨g1, 0, none⟩ = some (.slice (some ⟨bd, od, none⟩) 2 c) ∧ w5.cell? ⟨g1, 1, none⟩ = some (.bool p) ∧ w5.cell? ⟨g1, 2, none⟩ = some (.bool q) ∧ g1 < w5.heap.size := ⟨HT.out.2.1.cell 0 rfl, HT.out.2.1.cell 1 rfl, HT.out.2.1.cell 2 rfl, HT.out.2.1.lt⟩
    go_wp2_with fail
    refine (again_ok w5 HT.out.1 hk2 hk hn HR.out.2.2.2.2.2.2.2.2.1).mono ?_
    rintro e w9 ⟨rfl, K9, A9⟩
    have H9 := Lib.hid (And.intro (HT.out.2.2.trans K9) A9)
    clear K9 A9 l0 l1 l2 l3
    go_wp2_with fail
    go_end0
    exact ⟨rfl, H9.out.1, by rw [HR.out.2.2.2.2.2.2.2.2.2.2.2]; exact H9.out.2⟩
end Go.Proofs.YtjoipibldahbhaaGreatDoor
/- A Fixer: New, Done, Clone of the columns: contracts. -/
namespace Go.Proofs.YtjoipibldahbhaaGreatDoor
open Go Go.RowKit Go.Shelf
set_option maxRecDepth 100000
shelf_lay Lays2.n16 Nm2 16 at Tryz as cloneL
variable {w w' : World} {v : Value} {b F gc gr cap k n : Nat} {d : Nat → Int} {cols ls : List (List Nat)} {lost : List Int}
theorem clone_RS (h : RS w v ls) (hne : ls ≠ []) (hl : ls.length ≤ 1000) : Calls Tryz.prog 27 #[v] w fun e w' => ∃ gc cap, e = .returned (.slice (some ⟨gc, 0, none⟩) ls.length cap) ∧ w.heap.size ≤ gc ∧ w'.ownsRow gc tStr 1 (.slice (some ⟨gc, 0, none⟩) ls.length cap) ls.length (ls.map strV) ∧ Below w.heap.size w w' := by
  rcases h.cases with ⟨h0, _⟩ | ⟨_, bl, o, c, rfl, hc, hcell⟩
  · exact absurd h0 hne
  have := Any.slices_Clone_string cloneL bl o ls.length c (ls.map mk) w (by simp) (by omega) (fun j hj => by
    have hj' : j < ls.length := by simpa using hj
    rw [hcell j _ (List.getElem?_eq_getElem hj')]
    simp [List.getD, hj'])
  refine this.mono ?_
  rintro e w' ⟨v', rfl, ho, hnn, hb⟩
  rw [List.take_of_length_le (by simp), List.map_map] at ho
  have ho : w'.ownsRow w.heap.size tStr 1 v' ls.length (ls.map strV) := ho
  rcases own_form ho with ⟨h1, _⟩ | ⟨g, cap, rfl, hB, hg, h1, h2, _⟩
  · exact absurd h1 hnn
  · refine ⟨g, cap, rfl, hB, ?_, hb⟩
    obtain ⟨hlen, ho⟩ := ho
    refine ⟨hlen, ?_⟩
    rcases ho with ⟨h3, _⟩ | ⟨g', cap', cur, hv, _, r⟩
    · cases h3
    · obtain ⟨rfl, rfl⟩ : g = g' ∧ cap = cap' := by simpa using hv
      exact .inr ⟨g, cap, cur, rfl, Nat.le_refl _, r⟩
/-- A Fixer: its field, and its counts. -/
structure FixerAt (w : World) (b F : Nat) (d : Nat → Int) : Prop where
  fld : FieldAt w b
  fx : w.row F (fxc b d) tFx
  o1 : b < F
theorem FixerAt.below (h : FixerAt w b F d) (hb : Below w.heap.size w w') : FixerAt w' b F d := ⟨h.fld.below hb h.fld.lt, h.fx.below hb h.fx.lt, h.o1⟩
theorem fxc_cell (b : Nat) (d : Nat → Int) {i : Nat} (hi : i < 8) : (fxc b d)[1 + i]? = some (.int .i64 (d i)) := by
  rw [Nat.add_comm]
  unfold fxc
  rw [List.getElem?_cons_succ, List.getElem?_map, List.getElem?_range hi]; rfl
def bump (d : Nat → Int) (i : Nat) : Nat → Int := fun j => if j = i then d i + 1 else d j
theorem fxc_bump (b : Nat) (d : Nat → Int) (i : Nat) (hi : i < 8) : (fxc b d).set (1 + i) (.int .i64 (d i + 1)) = fxc b (bump d i) := by
  unfold fxc
  rw [Nat.add_comm, List.set_cons_succ]
  congr 1
  apply List.ext_getElem?
  intro j
  rw [List.getElem?_set]
  by_cases hj : j < 8
  · by_cases e : i = j
    · subst e; simp [hj, bump]
    · rw [if_neg e, List.getElem?_map, List.getElem?_map, List.getElem?_range hj]
      simp [bump, Ne.symm e]
  · rw [List.getElem?_eq_none (l := List.map _ _) (by simp; omega), List.getElem?_eq_none (by simp; omega)]
    split <;> simp_all
theorem NewF_any (w : World) : Calls Tryz.prog 15 #[] w fun e w' => ∃ b F, e = .returned (.pointer (some ⟨F, 0, none⟩)) ∧ w.heap.size ≤ b ∧ FixerAt w' b F (fun _ => 0) ∧ Below w.heap.size w w' := by
  go_enter Tryz.func15, Tryz.ntmps15
  go_wp2_with fail
  refine (fNew_any w).mono ?_
  rintro e w1 ⟨rfl, b1, r1⟩
  have H1 := Lib.hid (And.intro b1 r1)
  clear b1 r1
  go_wp2_with fail
  go_returns
  have hr := World.row.new w1 (fxc w.heap.size fun _ => 0) tFx
  refine ⟨w.heap.size, w1.heap.size, rfl, Nat.le_refl _, ⟨(FieldAt.below (.inl H1.out.2) ((Below.refl w1.heap.size w1).alloc (Nat.le_refl _) _) H1.out.2.lt), hr, H1.out.2.lt⟩, H1.out.1.alloc H1.out.1.size _⟩
theorem Done_in (w : World) (h : FixerAt w b F d) (i : Nat) (hi : i < 8) : Calls Tryz.prog 20 #[.pointer (some ⟨F, 0, none⟩), .int .i64 (i : Int)] w fun e w' => e = .returned (.int .i64 (d i)) ∧ w = w' := by
  have c0 := h.fx.cell _ (fxc_cell b d hi)
  have hF := h.fx.lt
  clear h
  go_enter Tryz.func20, Tryz.ntmps20
  go_wp2_with fail
  refine (at_load _ (d i) w c0).mono ?_
  rintro e w2 ⟨rfl, rfl⟩
  go_wp2_with fail
  go_returns
  exact ⟨rfl, rfl⟩
theorem Done_out (w : World) (p : Option Addr) (i : Int) (hi : i < 0 ∨ 8 ≤ i) : Calls Tryz.prog 20 #[.pointer p, .int .i64 i] w fun e w' => e = .returned (.int .i64 0) ∧ w = w' := by
  cases p with
  | none =>
    clear hi
    go_enter Tryz.func20, Tryz.ntmps20
    go_wp2_with fail
    go_returns
    exact ⟨rfl, rfl⟩
  | some p =>
    by_cases h : i < 0
    · clear hi
      go_enter Tryz.func20, Tryz.ntmps20
      go_wp2_with fail
      go_returns
      exact ⟨rfl, rfl⟩
    · have h8 : 8 ≤ i := by omega
      clear hi
      go_enter Tryz.func20, Tryz.ntmps20
      go_wp2_with fail
      go_returns
      exact ⟨rfl, rfl⟩
theorem Done_nil (w : World) (i : Int) : Calls Tryz.prog 20 #[.pointer none, .int .i64 i] w fun e w' => e = .returned (.int .i64 0) ∧ w = w' := by
  go_enter Tryz.func20, Tryz.ntmps20
  go_wp2_with fail
  go_returns
  exact ⟨rfl, rfl⟩
end Go.Proofs.YtjoipibldahbhaaGreatDoor
/- Fix of a Fixer: contracts. -/
namespace Go.Proofs.YtjoipibldahbhaaGreatDoor
open Go Go.RowKit
set_option maxRecDepth 100000
variable {w w' : World} {v vl : Value} {b F gc gr cap k n : Nat} {d : Nat → Int} {cols ls : List (List Nat)} {lost : List Int}
def fixE (cols : List (List Nat)) (lost : List Int) : Int := if lossE ((cols.length : Int) - 2) lost ≠ 0 then lossE ((cols.length : Int) - 2) lost else fitE (thereL cols lost)
theorem lossE_zero {d : Int} {lost : List Int} (h : lossE d lost = 0) : 2 ≤ d ∧ d ≤ 30 := by
  by_cases hd : d < 2 ∨ 30 < d
  · rw [lossE_range lost hd] at h; omega
  · omega
theorem Fix_nil (w : World) : Calls Tryz.prog 16 #[.pointer none, v, vl] w fun e w' => e = .returned (.tuple #[.slice none 0 0, .int .i64 1]) ∧ w = w' := by
  go_enter Tryz.func16, Tryz.ntmps16
  go_wp2_with fail
  go_ret2
  exact ⟨rfl, rfl⟩
theorem RS.len (h : RS w v ls) : ∃ a c, v = .slice a ls.length c := by
  obtain ⟨a, c, hv, _⟩ := h
  exact ⟨a, c, hv⟩
theorem Fix_loss (w : World) (p : Addr) (h : RS w v cols) (hl : w.rd vl (iV lost)) (hn : lost.length ≤ 1000) (he : lossE ((cols.length : Int) - 2) lost ≠ 0) (hc : cols.length ≤ 1000) :
    Calls Tryz.prog 16 #[.pointer (some p), v, vl] w fun e w' => e = .returned (.tuple #[.slice none 0 0, .int .i64 (fixE cols lost)]) ∧ Below w.heap.size w w' := by
  have hE : fixE cols lost = lossE ((cols.length : Int) - 2) lost := by unfold fixE; rw [if_pos he]
  rw [hE]
  have hO := of_any ((cols.length : Int) - 2) lost w hl hn
  obtain ⟨a, c, rfl⟩ := h.len
  obtain ⟨E, hE2⟩ : ∃ E, E = lossE ((cols.length : Int) - 2) lost := ⟨_, rfl⟩
  obtain ⟨m, hm⟩ : ∃ m, m = cols.length := ⟨_, rfl⟩
  rw [← hE2] at hO he ⊢
  rw [← hm] at hO hc ⊢
  have HO := Lib.hid hO
  clear hO hE hE2 h hl hm
  go_enter Tryz.func16, Tryz.ntmps16
  go_wp2_with fail
  refine HO.out.mono ?_
  rintro e w1 ⟨a1, n1, c1, p1, q1, rfl, b1, _⟩
  have H1 := Lib.hid b1
  clear b1
  go_wp2_with fail
  go_ret2
  exact ⟨rfl, H1.out.alloc H1.out.size _⟩
set_option maxHeartbeats 4000000 in
theorem Fix_fit (w : World) (p : Addr) (h : RS w v cols) (hl : w.rd vl (iV lost)) (hn : lost.length ≤ 1000) (he : lossE ((cols.length : Int) - 2) lost = 0) (hall : AllC cols) (hf : fitE (thereL cols lost) ≠ 0) :
    Calls Tryz.prog 16 #[.pointer (some p), v, vl] w fun e w' => e = .returned (.tuple #[.slice none 0 0, .int .i64 (fixE cols lost)]) ∧ Below w.heap.size w w' := by
  have hE : fixE cols lost = fitE (thereL cols lost) := by unfold fixE; rw [if_neg (by simp [he])]
  rw [hE]
  have hO := of_any ((cols.length : Int) - 2) lost w hl hn
  rw [he] at hO
  obtain ⟨a, c, rfl⟩ := h.len
  obtain ⟨E, hE2⟩ : ∃ E, E = fitE (thereL cols lost) := ⟨_, rfl⟩
  obtain ⟨m, hm⟩ : ∃ m, m = cols.length := ⟨_, rfl⟩
  have hm32 : m ≤ 32 := by have := (lossE_zero he).2; omega
  have hE24 := (fitE_cases (thereL cols lost)).resolve_left hf
  rw [← hE2] at hf hE24 ⊢
  rw [← hm] at hO h ⊢
  have HO := Lib.hid (And.intro hO (And.intro hE2 (And.intro h (And.intro hm (And.intro hall (And.intro hf hE24))))))
  clear hO hE hE2 h hl hm he hall hf hE24
  go_enter Tryz.func16, Tryz.ntmps16
  go_wp2_with fail
  refine HO.out.1.mono ?_
  rintro e w1 ⟨a1, n1, c1, p1, q1, rfl, b1, hk⟩
  obtain ⟨h1, h2, h3, h4, h5, h6, h7⟩ := hk trivial
  obtain ⟨k, hkk⟩ : ∃ k : Nat, ((m : Int) - 2).toNat = k := ⟨_, rfl⟩
  rw [hkk] at h1 h2 h3 h4
  have hmk : m = k + 2 := by omega
  have H1 := Lib.hid (And.intro b1 (And.intro h1 (And.intro h2 (And.intro h3 (And.intro h4 (And.intro hmk (And.intro h7 h6)))))))
  clear b1 h1 h2 h3 h4 h5 h6 h7 hk hkk hmk
  go_wp2_with fail
  have b2 : Below w.heap.size w (w1.alloc (.cells #[.slice a1 n1 c1, .bool p1, .bool q1] tLs)) := H1.out.1.alloc H1.out.1.size _
  have hb2 : Below w1.heap.size w1 (w1.alloc (.cells #[.slice a1 n1 c1, .bool p1, .bool q1] tLs)) := (Below.refl _ _).alloc (Nat.le_refl _) _
  have hT := there_ok (k := k) (lost := lost) _ (HO.out.2.2.1.below b2) (by rw [← HO.out.2.2.2.1]; exact H1.out.2.2.2.2.2.1) (by have := H1.out.2.2.2.2.2.1; omega) H1.out.2.2.1 H1.out.2.2.2.1 ((H1.out.2.2.2.2.1.rd).below hb2 (Nat.le_refl _)) (by have := H1.out.2.1; have := H1.out.2.2.2.2.2.2.1; omega)
  refine hT.mono ?_
  rintro e w3 ⟨v3, rfl, hR3, b3⟩
  have B3 := b2.trans (b3.mono b2.size)
  have hA := Add_any w3 hR3 (by have := thereF_len (ls := cols) (lost := lost) cols.length; have := HO.out.2.2.2.1; unfold thereL; omega) (fun l hl => HO.out.2.2.2.2.1 l (thereF_mem (Nat.le_refl _) hl))
  rw [← HO.out.2.1, if_neg HO.out.2.2.2.2.2.1] at hA
  have H3 := Lib.hid (And.intro hA B3)
  clear hT hA b2 hb2 b3 B3 hR3
  have hE := HO.out.2.2.2.2.2.1
  go_wp2_with fail
  refine H3.out.1.mono ?_
  rintro e w4 ⟨rfl, b4⟩
  have H4 := Lib.hid (H3.out.2.trans (b4.mono H3.out.2.size))
  clear b4
  go_wp2_with fail
  go_ret2
  exact ⟨rfl, H4.out⟩
end Go.Proofs.YtjoipibldahbhaaGreatDoor
/- Fix of a Fixer, where it brings a row back: contract. -/
namespace Go.Proofs.YtjoipibldahbhaaGreatDoor
open Go Go.RowKit
set_option maxRecDepth 100000
variable {w w' : World} {v vl : Value} {b F gc gr cap k n : Nat} {d : Nat → Int} {cols ls : List (List Nat)} {lost : List Int}
theorem there_some (hk : cols.length = k + 2) (h2 : 2 ≤ k) (hcn : cntI k lost ≤ 2) : thereL cols lost ≠ [] := by
  intro h
  unfold thereL thereF at h
  have h := List.map_eq_nil_iff.1 h
  have hall : ∀ i, i < k + 2 → hasI lost i = true := fun i hi => by
    have := List.filter_eq_nil_iff.1 h i (by rw [hk]; simpa using hi)
    simpa using this
  have hd : dsN k lost = List.range k := List.filter_eq_self.2 fun i hi => hall i (by have : i < k := by simpa using hi
                                                                                      omega)
  unfold cntI at hcn
  rw [hd, hall k (by omega), hall (k + 1) (by omega)] at hcn
  simp at hcn
  omega
/-- How long the columns are that are there. -/
def lenL (cols : List (List Nat)) (lost : List Int) : Nat := ((thereL cols lost).headD []).length
theorem there_fits (hall : AllC cols) (hf : fitE (thereL cols lost) = 0) : Fits (lenL cols lost) cols lost := fun i hi hh => by
  have hm : cols.getD i [] ∈ thereL cols lost := by
    unfold thereL thereF
    exact List.mem_map.2 ⟨i, List.mem_filter.2 ⟨by simpa using hi, by simp [hh]⟩, rfl⟩
  obtain ⟨j, hj⟩ := List.getElem?_of_mem hm
  refine ⟨hall _ ?_, (fitE_inv hf j _ hj).2⟩
  rw [List.getD, List.getElem?_eq_getElem hi]
  exact List.getElem_mem _
theorem lenL_le (hf : fitE (thereL cols lost) = 0) (hne : thereL cols lost ≠ []) : lenL cols lost ≤ 65536 := by
  unfold lenL
  cases h : thereL cols lost with
  | nil => exact absurd h hne
  | cons x r => exact (fitE_inv hf 0 x (by rw [h]; rfl)).1
def fixD (cols : List (List Nat)) (lost : List Int) : List (List Nat) := fixL (lenL cols lost) (cols.length - 2) cols lost
theorem kindF_in (n : Nat) (p q : Bool) : 0 ≤ kindF n p q ∧ kindF n p q < 8 := by
  unfold kindF
  repeat' split
  all_goals omega
theorem kindL_nat (k : Nat) (lost : List Int) : ∃ i : Nat, i < 8 ∧ kindL k lost = (i : Int) := by
  have := kindF_in (dsI k lost).length (hasI lost k) (hasI lost (k + 1))
  exact ⟨(kindL k lost).toNat, by unfold kindL; omega, by unfold kindL; omega⟩
theorem fixE_zero (h : fixE cols lost = 0) : lossE ((cols.length : Int) - 2) lost = 0 ∧ fitE (thereL cols lost) = 0 := by
  unfold fixE at h
  by_cases he : lossE ((cols.length : Int) - 2) lost = 0
  · rw [if_neg (by simp [he])] at h; exact ⟨he, h⟩
  · rw [if_pos he] at h; exact absurd h he
theorem Kept.narrow {S S' : Nat → Prop} {w1 w2 : World} (h0 : Below w.heap.size w w1) (K : Kept S w1 w2) (hS : ∀ x, x < w.heap.size → S x → S' x) : Kept S' w w2 :=
  ⟨K.os.trans h0.os, K.tape.trans h0.tape, K.output.trans h0.output, Nat.le_trans h0.size K.size, fun x hx hn => (K.block x (Nat.lt_of_lt_of_le hx h0.size) fun hs => hn (hS x hx hs)).trans (h0.block x hx)⟩
abbrev FS (b F : Nat) : Nat → Prop := fun x => x = b ∨ x = F
set_option maxHeartbeats 8000000 in
theorem Fix_ok (w : World) (h : FixerAt w b F d) (hs : RS w v cols) (hl : w.rd vl (iV lost)) (hn : lost.length ≤ 1000) (he : fixE cols lost = 0) (hall : AllC cols) (hd : ∀ i, 0 ≤ d i ∧ d i < 4611686018427387904) :
    Calls Tryz.prog 16 #[.pointer (some ⟨F, 0, none⟩), v, vl] w fun e w' => ∃ v', e = .returned (.tuple #[v', .int .i64 0]) ∧ RS w' v' (fixD cols lost) ∧ Kept (FS b F) w w' ∧ FixerAt w' b F (bump d (kindL (cols.length - 2) lost).toNat) := by
  obtain ⟨he1, he2⟩ := fixE_zero he
  have hk30 := lossE_zero he1
  obtain ⟨k, hk⟩ : ∃ k, cols.length = k + 2 := ⟨cols.length - 2, by omega⟩
  have hk2 : 2 ≤ k := by omega
  have hk3 : k ≤ 30 := by omega
  rw [show (cols.length : Int) - 2 = (k : Int) by omega] at he1
  have hcn := (cnt_le he1 hk2 hk3).2.1
  have hne := there_some hk hk2 hcn
  have hfit := there_fits hall he2
  have hln := lenL_le he2 hne
  obtain ⟨ki, hki, hkL⟩ := kindL_nat k lost
  have hfd : fixD cols lost = fixL (lenL cols lost) k cols lost := by unfold fixD; rw [hk]; rfl
  rw [hfd, hk, show k + 2 - 2 = k by omega, hkL, Int.toNat_natCast]
  obtain ⟨n, hnn⟩ : ∃ n, n = lenL cols lost := ⟨_, rfl⟩
  rw [← hnn] at hfit hln ⊢
  obtain ⟨a, c, hv⟩ := hs.len
  rw [hk] at hv
  subst hv
  have hO := of_ok w hk2 hk3 hl hn
  have HO := Lib.hid (And.intro h (And.intro hs (And.intro hO (And.intro he1 (And.intro he2 (And.intro hk (And.intro hcn (And.intro hne (And.intro hfit (And.intro hkL (And.intro hnn (And.intro hall hd))))))))))))
  clear h hs hl he hall hd he1 he2 hk30 hk hcn hne hfit hkL hfd hnn hO
  go_enter Tryz.func16, Tryz.ntmps16
  go_wp2_with fail
  refine HO.out.2.2.1.mono ?_
  rintro e w1 ⟨a1, n1, c1, p1, q1, he1, b1, hk1⟩
  rw [HO.out.2.2.2.1] at he1
  subst he1
  obtain ⟨h1, h2, h3, h4⟩ := hk1 HO.out.2.2.2.1
  have H1 := Lib.hid (And.intro b1 (And.intro h1 (And.intro h2 (And.intro h3 h4))))
  clear b1 h1 h2 h3 h4 hk1
  go_wp2_with fail
  obtain ⟨gl, hgl⟩ : ∃ g, g = w1.heap.size := ⟨_, rfl⟩
  have b2 : Below w.heap.size w (w1.alloc (.cells #[.slice a1 n1 c1, .bool p1, .bool q1] tLs)) := H1.out.1.alloc H1.out.1.size _
  have hb2 : Below w1.heap.size w1 (w1.alloc (.cells #[.slice a1 n1 c1, .bool p1, .bool q1] tLs)) := (Below.refl _ _).alloc (Nat.le_refl _) _
  have r2 : (w1.alloc (.cells #[.slice a1 n1 c1, .bool p1, .bool q1] tLs)).row gl (lcs (.slice a1 n1 c1) p1 q1) tLs := World.row.new' (cs := lcs (.slice a1 n1 c1) p1 q1) hgl.symm
  have hds2 : (dsI k lost).length ≤ 2 := by rw [dsI_len]; have := HO.out.2.2.2.2.2.2.1; unfold cntI at this; omega
  have hd2 := (H1.out.2.2.2.2.rd).below hb2 (Nat.le_refl _)
  have hT := there_ok (k := k) (lost := lost) _ (HO.out.2.1.below b2) HO.out.2.2.2.2.2.1 hk3 H1.out.2.2.1 H1.out.2.2.2.1 hd2 (by omega)
  refine hT.mono ?_
  rintro e w3 ⟨v3, rfl, hR3, b3⟩
  have B3 := b2.trans (b3.mono b2.size)
  have r3 := r2.below b3 r2.lt
  have hd3 := hd2.below b3 (Nat.le_refl _)
  have hA := Add_any w3 hR3 (by have := thereF_len (ls := cols) (lost := lost) cols.length; have := HO.out.2.2.2.2.2.1; unfold thereL; omega) (fun l hl => HO.out.2.2.2.2.2.2.2.2.2.2.2.1 l (thereF_mem (Nat.le_refl _) hl))
  rw [HO.out.2.2.2.2.1, if_pos rfl] at hA
  have H3 := Lib.hid (And.intro hA (And.intro B3 (And.intro r3 (And.intro hd3 (And.intro hR3 (And.intro hgl hds2))))))
  rw [← hgl]
  clear hT hA b2 hb2 b3 B3 hR3 r2 r3 hd2 hd3 hds2 hgl
  go_wp2_with fail
  refine H3.out.1.mono ?_
  rintro e w4 ⟨rfl, b4⟩
  have B4 := H3.out.2.1.trans (b4.mono H3.out.2.1.size)
  have r4 := H3.out.2.2.1.below b4 H3.out.2.2.1.lt
  have hd4 := H3.out.2.2.2.1.below b4 (Nat.le_refl _)
  have hR4 := H3.out.2.2.2.2.1.below b4
  obtain ⟨l0, l1, l2, l3⟩ : w4.cell? ⟨gl, 0, none⟩ = some (.slice a1 n1 c1) ∧ w4.cell? ⟨gl, 1, none⟩ = some (.bool p1) ∧ w4.cell? ⟨gl, 2, none⟩ = some (.bool q1) ∧ gl < w4.heap.size := ⟨r4.cell 0 rfl, r4.cell 1 rfl, r4.cell 2 rfl, r4.lt⟩
  rcases hR4.cases with ⟨h0, _⟩ | ⟨_, bo, oo, cc, rfl, hcc, hcell⟩
  · exact absurd h0 HO.out.2.2.2.2.2.2.2.1
  have hh : (thereL cols lost)[0]? = some ((thereL cols lost).headD []) := by
    cases h : thereL cols lost with
    | nil => exact absurd h HO.out.2.2.2.2.2.2.2.1
    | cons x r => rfl
  have d0 := hcell 0 _ hh
  have hnl : 0 < (thereL cols lost).length := by cases h : thereL cols lost with
    | nil => exact absurd h HO.out.2.2.2.2.2.2.2.1
    | cons x r => simp
  obtain ⟨nl, hnl2⟩ : ∃ nl, nl = (thereL cols lost).length := ⟨_, rfl⟩
  rw [← hnl2] at hnl hcc ⊢
  have hsz : (mk ((thereL cols lost).headD [])).size = n := by rw [mk_size, HO.out.2.2.2.2.2.2.2.2.2.2.1]; rfl
  rw [Nat.add_zero] at d0
  simp only [strV] at d0
  obtain ⟨s, hs⟩ : ∃ s, s = mk ((thereL cols lost).headD []) := ⟨_, rfl⟩
  rw [← hs] at hsz d0
  have hbo := block_lt_of_cell d0
  have hcl := clone_RS (w := w4.drew) ((HO.out.2.1.below B4).below ((Below.refl _ _).drew)) (by intro h; have := HO.out.2.2.2.2.2.1; rw [h] at this; simp at this) (by have := HO.out.2.2.2.2.2.1; omega)
  rw [HO.out.2.2.2.2.2.1] at hcl
  have H4 := Lib.hid (And.intro B4 (And.intro r4 (And.intro hd4 (And.intro hcl H3.out.2.2.2.2.2.1))))
  clear B4 r4 hd4 hR4 hcell hh hcl hnl2 hs b4
  go_wp2_with fail
  refine wp_region_mix_ext w4.heap.size [] false (Nat.le_refl _) (by kernel_rfl) (by kernel_rfl) ?_
  intro _
  repeat ((with_reducible refine wpMix_light ?hh ?_); (case hh => rfl); go_big_quiet_step (fail); (with_reducible refine wpQuiet_nil ?_))
  (with_reducible refine wpMix_heavy ?hh ?hw (fun K hK => ?_)); (case hh => rfl); (case hw => rfl)
  go_simp
  refine H4.out.2.2.2.1.mono ?_
  rintro e w5 ⟨gc, cap, rfl, hgc, ho5, b5⟩
  have hgc : w4.heap.size ≤ gc := hgc
  have b5 := ((Below.refl w4.heap.size w4).drew).trans b5
  refine hK.out _ _ (Below.toExt b5 (Nat.le_refl _)) ?_
  clear hK K
  try simp only [Act.put, List.setIfInBounds_toArray, List.set_cons_zero, List.set_cons_succ]
  repeat ((with_reducible refine wpMix_light ?hh ?_); (case hh => rfl); go_big_quiet_step (fail); (with_reducible refine wpQuiet_nil ?_))
  (with_reducible refine wpMix_heavy ?hh ?hw (fun K hK => ?_)); (case hh => rfl); (case hw => rfl)
  go_simp
  have b6 : Below w4.heap.size w4 (w5.alloc (.cells #[.pointer (some ⟨F, 0, none⟩), .slice (some ⟨gc, 0, none⟩) (k + 2) cap, .int .i64 (k : Int), .int .i64 (n : Int)] tRow)) := b5.alloc b5.size _
  refine hK.out _ _ (Below.toExt b6 (Nat.le_refl _)) ?_
  clear hK K
  try simp only [Act.put, List.setIfInBounds_toArray, List.set_cons_zero, List.set_cons_succ]
  repeat ((with_reducible refine wpMix_light ?hh ?_); (case hh => rfl); go_big_quiet_step (fail); (with_reducible refine wpQuiet_nil ?_))
  refine wpMix_nil ?_
  have r6 := World.row.new w5 (rcs F gc cap k n) tRow
  obtain ⟨gr, hgr⟩ : ∃ g, g = w5.heap.size := ⟨_, rfl⟩
  obtain ⟨w6, hw6⟩ : ∃ w6, w6 = w5.alloc (.cells (rcs F gc cap k n).toArray tRow) := ⟨_, rfl⟩
  have ho6 := World.ownsRow.alloc ho5 (.cells (rcs F gc cap k n).toArray tRow)
  rw [show (w5.alloc (.cells #[.pointer (some ⟨F, 0, none⟩), .slice (some ⟨gc, 0, none⟩) (k + 2) cap, .int .i64 (k : Int), .int .i64 (n : Int)] tRow)) = w6 from hw6.symm] at b6 ⊢
  rw [← hw6] at r6 ho6
  rw [← hgr] at r6 ⊢
  have hFw : F < w.heap.size := HO.out.1.fx.lt
  have hbw : b < F := HO.out.1.o1
  have hgc6 : gc < gr := by rw [hgr]; exact (World.ownsRow.lt ho5 gc rfl).2
  have B6 := H4.out.1.trans (b6.mono H4.out.1.size)
  have A6 : RowAt w6 b F gc gr cap k n d cols := ⟨HO.out.1.fld.below B6 (by omega), HO.out.1.fx.below B6 hFw, r6, ho6, HO.out.2.2.2.2.2.1, hbw, by have := H4.out.1.size; omega, hgc6⟩
  have r6l := H4.out.2.1.below b6 H4.out.2.1.lt
  have hfix := fix_ok (lost := lost) w6 A6 hk2 hk3 hln H1.out.2.2.1 H1.out.2.2.2.1 (H4.out.2.2.1.below b6 (Nat.le_refl _)) HO.out.2.2.2.2.2.2.1 HO.out.2.2.2.2.2.2.2.2.1
  clear l0 l1 l2 l3 d0
  obtain ⟨l0, l1, l2, l3⟩ : w6.cell? ⟨gl, 0, none⟩ = some (.slice a1 n1 c1) ∧ w6.cell? ⟨gl, 1, none⟩ = some (.bool p1) ∧ w6.cell? ⟨gl, 2, none⟩ = some (.bool q1) ∧ gl < w6.heap.size := ⟨r6l.cell 0 rfl, r6l.cell 1 rfl, r6l.cell 2 rfl, r6l.lt⟩
  have hglb : gl ≠ b := by have := H4.out.2.2.2.2; have := H1.out.1.size; omega
  have hglc : gl ≠ gc := by have := H4.out.2.1.lt; omega
  have hgw : w.heap.size ≤ gc := by have := H4.out.1.size; omega
  have hFr : F ≠ gr := by omega
  have hbr : b ≠ gr := by omega
  have H6 := Lib.hid (And.intro hfix (And.intro B6 (And.intro r6l (And.intro hglb (And.intro hglc (And.intro hgw (And.intro hFr hbr)))))))
  clear hfix B6 r6l hglb hglc A6 r6 ho6 ho5 b5 b6 hgr hw6 hgc hbo hsz hgw hFr hbr hgc6
  go_wp2_with fail
  refine H6.out.1.mono ?_
  rintro e w7 ⟨rfl, K7, A7⟩
  have r7 := K7.row H6.out.2.2.1 (by rintro (h | h); exact H6.out.2.2.2.1 h; exact H6.out.2.2.2.2.1 h)
  have hkf : kindF n1 p1 q1 = (ki : Int) := by rw [← HO.out.2.2.2.2.2.2.2.2.2.1, H1.out.2.1, H1.out.2.2.1, H1.out.2.2.2.1]; rfl
  have hkind := fun w => kind_any a1 n1 c1 p1 q1 (by have := H3.out.2.2.2.2.2.2; have := H1.out.2.1; omega) w
  rw [hkf] at hkind
  clear l0 l1 l2 l3 hkf
  obtain ⟨l0, l1, l2, l3⟩ : w7.cell? ⟨gl, 0, none⟩ = some (.slice a1 n1 c1) ∧ w7.cell? ⟨gl, 1, none⟩ = some (.bool p1) ∧ w7.cell? ⟨gl, 2, none⟩ = some (.bool q1) ∧ gl < w7.heap.size := ⟨r7.cell 0 rfl, r7.cell 1 rfl, r7.cell 2 rfl, r7.lt⟩
  have H7 := Lib.hid (And.intro K7 (And.intro A7 hkind))
  clear K7 A7 r7 hkind
  go_wp2_with fail
  refine wp_region_mix_ext w7.heap.size [] true (Nat.le_refl _) (by kernel_rfl) (by kernel_rfl) ?_
  intro _
  repeat ((with_reducible refine wpMix_light ?hh ?_); (case hh => rfl); go_big_quiet_step (fail); (with_reducible refine wpQuiet_nil ?_))
  (with_reducible refine wpMix_heavy ?hh ?hw (fun K hK => ?_)); (case hh => rfl); (case hw => rfl)
  go_simp
  refine (H7.out.2.2 _).mono ?_
  rintro e w8 ⟨rfl, b8⟩
  have b8 := ((Below.refl w7.heap.size w7).drew).trans b8
  refine hK.out _ _ (Below.toExt b8 (Nat.le_refl _)) ?_
  clear hK K
  try simp only [Act.put, List.setIfInBounds_toArray, List.set_cons_zero, List.set_cons_succ]
  repeat ((with_reducible refine wpMix_light ?hh ?_); (case hh => rfl); go_big_quiet_step (fail); (with_reducible refine wpQuiet_nil ?_))
  refine wpMix_last (by rfl) (by rfl) (fun K hK => ?_)
  go_simp
  have A8 := H7.out.2.1.below b8
  have K8 : Kept (FS b F) w w8 := Kept.narrow H6.out.2.1 (H7.out.1.trans (Kept.of_below _ b8)) (fun x hx hs => hs.elim .inl fun h => by have := H6.out.2.2.2.2.2.1; omega)
  have hdi := HO.out.2.2.2.2.2.2.2.2.2.2.2.2 ki
  refine (at_add ⟨F, 1 + ki, none⟩ (d ki) 1 w8 (A8.fx.cell _ (fxc_cell b d hki)) (A8.fx.free _) (by omega) (by omega)).mono ?_
  rintro e w9 ⟨rfl, rfl⟩
  refine hK.out _ _ ?_
  clear hK K
  (try simp only [Act.put, List.setIfInBounds_toArray, List.set_cons_zero, List.set_cons_succ])
  have hFr := H6.out.2.2.2.2.2.2.1
  have hFc := A8.o2
  have rr := A8.row.other ⟨F, 1 + ki, none⟩ (.int .i64 (d ki + 1)) (by dsimp only; omega)
  have rx := A8.fx.set (1 + ki) (.int .i64 (d ki + 1))
  rw [fxc_bump b d ki hki] at rx
  have fx := A8.fld.imp (fun h => h.other ⟨F, 1 + ki, none⟩ (.int .i64 (d ki + 1)) (by dsimp only; omega)) (fun h => h.other ⟨F, 1 + ki, none⟩ (.int .i64 (d ki + 1)) (by dsimp only; omega))
  have ox : (w8.setCell ⟨F, 1 + ki, none⟩ (.int .i64 (d ki + 1))).ownsRow gc tStr 1 (.slice (some ⟨gc, 0, none⟩) (k + 2) cap) (k + 2) ((fixL n k cols lost).map strV) := own_set A8.own (by dsimp only; omega) _
  have K9 := K8.trans (Kept.set (w := w8) (a := ⟨F, 1 + ki, none⟩) (FS b F) (.inr rfl) (.int .i64 (d ki + 1)))
  obtain ⟨w9, hw9⟩ : ∃ w9, w9 = w8.setCell ⟨F, 1 + ki, none⟩ (.int .i64 (d ki + 1)) := ⟨_, rfl⟩
  rw [← hw9] at rr rx fx ox K9 ⊢
  have c1 := rr.cell 1 rfl
  have hgl9 := rr.lt
  have H9 := Lib.hid (And.intro rx (And.intro fx (And.intro (RS.of_own ox) K9)))
  clear rr rx fx ox K9 hw9 A8 K8 hdi b8 l0 l1 l2 l3
  go_wp2_with fail
  go_ret2
  exact ⟨_, rfl, H9.out.2.2.1, H9.out.2.2.2, ⟨H9.out.2.1, H9.out.1, hbw⟩⟩
end Go.Proofs.YtjoipibldahbhaaGreatDoor
/- The law's 'cut': texts of at most so many bytes; contract. -/
namespace Go.Proofs.YtjoipibldahbhaaGreatDoor
open Go Go.RowKit
set_option maxRecDepth 100000
def cutI (ls : List (List Nat)) (n : Nat) (even : Bool) (i : Nat) : List Nat :=
  if (even && decide (0 < i)) = true then ((ls.getD i []).take n ++ zeros n).take ((ls.getD 0 []).take n).length else (ls.getD i []).take n
def cutF (ls : List (List Nat)) (n : Nat) (even : Bool) (m : Nat) : List (List Nat) := (List.range m).map (cutI ls n even)
def cutL (ls : List (List Nat)) (n : Nat) (even : Bool) : List (List Nat) := cutF ls n even (min ls.length 36)
variable {w : World} {v : Value} {ls : List (List Nat)}
theorem cutF_snoc (n : Nat) (even : Bool) (m : Nat) : cutF ls n even (m + 1) = cutF ls n even m ++ [cutI ls n even m] := by
  unfold cutF
  rw [List.range_succ, List.map_append]; rfl
theorem cutF_len (n : Nat) (even : Bool) (m : Nat) : (cutF ls n even m).length = m := by simp [cutF]
theorem mk_extract (l : List Nat) (k : Nat) : (mk l).extract 0 k = mk (l.take k) := by
  apply ByteArray.ext
  apply Array.ext'
  rw [mk_data, List.map_take, ← mk_data, ByteArray.data_extract, Array.toList_extract]
  simp [List.extract_eq_take_drop]
theorem slice_mk (l : List Nat) (k : Nat) (hk : k ≤ l.length) (w : World) : (Instr.slice tStr (.string (mk l)) none (some (.int .i64 (k : Int))) none).run Tryz.prog w = .ok (.string (mk (l.take k))) w := by
  rw [run_slice_string_h w tStr (mk l) Tryz.underlying9 .i64 (k : Int) (by omega) (by rw [mk_size]; omega), Int.toNat_natCast, mk_extract]
theorem cut_ok (n : Nat) (even : Bool) (w : World) (h : RS w v ls) (hn : n ≤ 100) :
    Calls Tryz.prog 14 #[v, .int .i64 (n : Int), .bool even] w fun e w' => ∃ v', e = .returned v' ∧ w'.ownsRow w.heap.size tStr 1 v' (cutL ls n even).length ((cutL ls n even).map strV) ∧ Below w.heap.size w w' := by
  obtain ⟨a, cp, rfl, hc, hcell⟩ := h
  obtain ⟨m, hm⟩ : ∃ m, m = ls.length := ⟨_, rfl⟩
  obtain ⟨m2, hm2⟩ : ∃ m2, m2 = min ls.length 36 := ⟨_, rfl⟩
  obtain ⟨i0, hi0, hz0, hz1, hz2⟩ := info_str
  have HI : Hid (Tryz.prog.info? tStr = some i0 ∧ i0.zero = some (.string { data := #[] }) ∧ i0.size = 1 ∧ i0.bytes = 16) := ⟨hi0, hz0, hz1, hz2⟩
  have hmin : min (m : Int) 36 = (m2 : Int) := by omega
  have hm36 : m2 ≤ 36 := by omega
  have hmm : m2 ≤ m := by omega
  have hmk := run_make_row' (P := Tryz.prog) 62 tU8 (.int .u8 0) 1 Tryz.underlying62 infoU8p rfl .i64 .i64 n (by omega) (by omega)
  rw [← hm] at hc ⊢
  have HR := Lib.hid (And.intro hcell (And.intro hm hm2))
  clear hcell hi0 hz0 hz1 hz2 hm2 hm
  go_enter Tryz.func14, Tryz.ntmps14
  go_wp2_with fail
  go_loopw [7, 16] (fun x y wr => ∃ (i : Nat) (os : List (List Nat)), i ≤ m2 ∧ y = .int .i64 (i : Int) ∧ os = cutF ls n even i ∧ wr.ownsRow w.heap.size tStr 1 x os.length (os.map strV) ∧ Below w.heap.size w wr) (fun _ y _ => m2 - (intOf y).toNat)
  case atStart => exact ⟨0, [], by omega, rfl, rfl, World.ownsRow_nil _ _ _ _, Below.refl _ _⟩
  case round =>
    obtain ⟨i, os, hi, rfl, hos, ho, hB⟩ := hrel
    by_cases hlt : i < m2
    · have hil : i < ls.length := by rw [← HR.out.2.1]; omega
      have hne : ls ≠ [] := by intro e; rw [e] at hil; simp at hil
      obtain ⟨b, o, rfl, hcell⟩ := HR.out.1.resolve_left hne
      have hli : ls[i]? = some (ls.getD i []) := by rw [List.getD, List.getElem?_eq_getElem hil]; rfl
      obtain ⟨l, hl⟩ : ∃ l, l = ls.getD i [] := ⟨_, rfl⟩
      rw [← hl] at hli
      have g1 := hcell i _ hli
      have d0 := (hB.cell (p := ⟨b, o + i, none⟩) (block_lt_of_cell g1)).trans g1
      clear g1 hcell hne hil hli
      have hsl := slice_mk l (min l.length n) (Nat.min_le_left _ _)
      rw [show l.take (min l.length n) = l.take n by rw [Nat.min_comm, ← List.take_take, List.take_length]] at hsl
      have hsz := mk_size l
      have hmn : min (l.length : Int) (n : Int) = ((min l.length n : Nat) : Int) := by omega
      obtain ⟨kk, hK⟩ : ∃ kk, kk = min l.length n := ⟨_, rfl⟩
      obtain ⟨ln, hln⟩ : ∃ ln, ln = l.length := ⟨_, rfl⟩
      rw [← hK] at hsl hmn
      rw [← hln] at hsz hmn
      obtain ⟨s, hs⟩ : ∃ s, s = mk l := ⟨_, rfl⟩
      obtain ⟨s2, hs2⟩ : ∃ s, s = mk (l.take n) := ⟨_, rfl⟩
      unfold strV at d0
      rw [← hs] at d0 hsl hsz
      rw [← hs2] at hsl
      have hol : os.length = i := by rw [hos, cutF_len]
      have hol2 : os.length ≤ 36 := by omega
      have HF := Lib.hid (And.intro hos (And.intro ho (And.intro hB (And.intro hl (And.intro hs2 (And.intro hK (And.intro hln hol)))))))
      clear hos ho hB hl hs hs2 hK hln hol
      cases even with
      | false =>
        obtain ⟨ao, co, rfl⟩ := own_shape1 HF.out.2.1
        have hcx : mk (cutI ls n false i) = s2 := by unfold cutI; rw [if_neg (by simp), ← HF.out.2.2.2.1, HF.out.2.2.2.2.1]
        go_upto_region 8 with fail
        obtain ⟨sx, hsx⟩ : ∃ sx, sx = s2 := ⟨_, rfl⟩
        rw [← hsx]
        rw [← hsx] at hcx
        obtain ⟨wt, hwt⟩ : ∃ wt, wt = wr := ⟨_, rfl⟩
        rw [← hwt]
        have HT : Hid (wt.ownsRow w.heap.size tStr 1 (.slice ao os.length co) os.length (os.map strV) ∧ Below w.heap.size w wt ∧ Value.string sx = strV (cutI ls n false i)) := ⟨by rw [hwt]; exact HF.out.2.1, by rw [hwt]; exact HF.out.2.2.1, by rw [← hcx]⟩
        clear hcx hsx hwt
        go_wp2_with (at_builtin; refine wpList_append_own _ rfl _ _ 33 rfl w.heap.size tStr i0 (.string { data := #[] }) 1 16 Tryz.underlying33 HI.out.1 HI.out.2.1 HI.out.2.2.1 HI.out.2.2.2 rfl (by decide) _ _ _ rfl (HT.out.1.alloc _) ⟨wt.heap.size, 0, none⟩ 1 1 [.string sx] rfl rfl ?c1 ?c2 ?c3 ?c4 ?c5 ?_)
        case c1 => exact one_cell _ _ _
        case c2 => simp [Value.oneCell']
        case c3 => unfold maxLen; omega
        case c4 => omega
        case c5 => have := HT.out.2.1.size; simp; omega
        intro v' w3 ho3 hg3 _
        have B3 : Below w.heap.size w w3 := (HT.out.2.1.alloc HT.out.2.1.size _).grown hg3 (by have := HT.out.2.1.size; simp; omega) (fun k hk => by have := (HT.out.1.lt k hk).1; have := HT.out.2.1.size; omega)
        rw [HT.out.2.2] at ho3
        have ho4 := strs_snoc ho3
        have H3 := Lib.hid (And.intro B3 ho4)
        clear B3 ho4 ho3 hg3
        go_wp2_with fail
        go_roundw
        case rel => exact ⟨i + 1, os ++ [cutI ls n false i], by omega, by go_num, by rw [HF.out.1, cutF_snoc], H3.out.2, H3.out.1⟩
        case measure => simp [intOf] <;> omega
      | true =>
        by_cases h0 : i = 0
        · have e0 : (0 < i) = False := eq_false (by omega)
          obtain ⟨ao, co, rfl⟩ := own_shape1 HF.out.2.1
          have hcx : mk (cutI ls n true i) = s2 := by unfold cutI; rw [if_neg (by simp [h0]), ← HF.out.2.2.2.1, HF.out.2.2.2.2.1]
          clear h0
          go_upto_region 8 with fail
          obtain ⟨sx, hsx⟩ : ∃ sx, sx = s2 := ⟨_, rfl⟩
          rw [← hsx]
          rw [← hsx] at hcx
          obtain ⟨wt, hwt⟩ : ∃ wt, wt = wr := ⟨_, rfl⟩
          rw [← hwt]
          have HT : Hid (wt.ownsRow w.heap.size tStr 1 (.slice ao os.length co) os.length (os.map strV) ∧ Below w.heap.size w wt ∧ Value.string sx = strV (cutI ls n true i)) := ⟨by rw [hwt]; exact HF.out.2.1, by rw [hwt]; exact HF.out.2.2.1, by rw [← hcx]⟩
          clear hcx hsx hwt e0
          go_wp2_with (at_builtin; refine wpList_append_own _ rfl _ _ 33 rfl w.heap.size tStr i0 (.string { data := #[] }) 1 16 Tryz.underlying33 HI.out.1 HI.out.2.1 HI.out.2.2.1 HI.out.2.2.2 rfl (by decide) _ _ _ rfl (HT.out.1.alloc _) ⟨wt.heap.size, 0, none⟩ 1 1 [.string sx] rfl rfl ?c1 ?c2 ?c3 ?c4 ?c5 ?_)
          case c1 => exact one_cell _ _ _
          case c2 => simp [Value.oneCell']
          case c3 => unfold maxLen; omega
          case c4 => omega
          case c5 => have := HT.out.2.1.size; simp; omega
          intro v' w3 ho3 hg3 _
          have B3 : Below w.heap.size w w3 := (HT.out.2.1.alloc HT.out.2.1.size _).grown hg3 (by have := HT.out.2.1.size; simp; omega) (fun k hk => by have := (HT.out.1.lt k hk).1; have := HT.out.2.1.size; omega)
          rw [HT.out.2.2] at ho3
          have ho4 := strs_snoc ho3
          have H3 := Lib.hid (And.intro B3 ho4)
          clear B3 ho4 ho3 hg3
          go_wp2_with fail
          go_roundw
          case rel => exact ⟨i + 1, os ++ [cutI ls n true i], by omega, by go_num, by rw [HF.out.1, cutF_snoc], H3.out.2, H3.out.1⟩
          case measure => simp [intOf] <;> omega
        · have e0 : (0 < i) = True := eq_true (by omega)
          have hpos : 0 < os.length := by rw [HF.out.2.2.2.2.2.2.2]; omega
          obtain ⟨go, co, rfl, hgB, hgo, hoc, _, hcs, hfz⟩ := (own_form HF.out.2.1).resolve_left (by rintro ⟨_, h⟩; omega)
          have hc0 := hcs 0 (strV (cutI ls n true 0)) (by rw [HF.out.1, List.getElem?_map]; unfold cutF; rw [List.getElem?_map, List.getElem?_range (by omega)]; rfl)
          have hI0 : cutI ls n true 0 = (ls.getD 0 []).take n := by unfold cutI; rw [if_neg (by simp)]
          rw [hI0] at hc0
          have hsz0 := mk_size ((ls.getD 0 []).take n)
          have hle0 : ((ls.getD 0 []).take n).length ≤ n := List.length_take_le _ _
          have hsl2 := slice_mk ((l.take n) ++ zeros n) ((ls.getD 0 []).take n).length (by rw [List.length_append, zeros_len]; omega)
          have hcx : mk (cutI ls n true i) = mk (((l.take n) ++ zeros n).take ((ls.getD 0 []).take n).length) := by unfold cutI; rw [if_pos (by simp; omega), ← HF.out.2.2.2.1]
          obtain ⟨sx, hsx⟩ : ∃ sx, sx = mk (((l.take n) ++ zeros n).take ((ls.getD 0 []).take n).length) := ⟨_, rfl⟩
          rw [← mk_append, ← HF.out.2.2.2.2.1] at hsl2
          rw [← hsx] at hsl2 hcx
          obtain ⟨n0, hn0⟩ : ∃ n0, n0 = ((ls.getD 0 []).take n).length := ⟨_, rfl⟩
          obtain ⟨s0, hs0⟩ : ∃ s0, s0 = mk ((ls.getD 0 []).take n) := ⟨_, rfl⟩
          unfold strV at hc0
          rw [← hn0] at hsl2 hsz0 hle0
          rw [← hs0] at hsz0 hc0
          have hcv := text_of (P := Tryz.prog) (zeros_row wr n).drew Tryz.underlying62 Tryz.underlying5 Tryz.underlying9
          rw [zeros_len] at hcv
          obtain ⟨sz, hsze⟩ : ∃ s, s = mk (zeros n) := ⟨_, rfl⟩
          rw [← hsze] at hcv hsl2
          have hsum : (9223372036854775807 < s2.size + sz.size) = False := eq_false (by
            have h1 := mk_size (l.take n)
            have h2 := mk_size (zeros n)
            rw [← HF.out.2.2.2.2.1] at h1
            rw [← hsze, zeros_len] at h2
            have h3 : (l.take n).length ≤ n := List.length_take_le _ _
            omega)
          have HC := Lib.hid hcx
          clear hcx hsx hn0 hs0 hI0 hsze hcs
          go_upto_region 7 with fail
          refine wp_region_mix_ext wr.heap.size [35] false (Nat.le_refl _) (by kernel_rfl) (by kernel_rfl) ?_
          intro _
          repeat ((with_reducible refine wpMix_light ?hh ?_); (case hh => rfl); go_big_quiet_step (fail); (with_reducible refine wpQuiet_nil ?_))
          (with_reducible refine wpMix_heavy ?hh ?hw (fun K hK => ?_)); (case hh => rfl); (case hw => rfl)
          go_simp
          refine hK.out _ _ (Below.toExt (((Below.refl _ _).alloc (Nat.le_refl _) _).drew) (Nat.le_refl _)) ?_
          clear hK K
          try simp only [Act.put, List.setIfInBounds_toArray, List.set_cons_zero, List.set_cons_succ]
          repeat ((with_reducible refine wpMix_light ?hh ?_); (case hh => rfl); go_big_quiet_step (fail); (with_reducible refine wpQuiet_nil ?_))
          (with_reducible refine wpMix_heavy ?hh ?hw (fun K hK => ?_)); (case hh => rfl); (case hw => rfl)
          go_simp
          refine hK.out _ _ (Below.toExt (((Below.refl _ _).alloc (Nat.le_refl _) _).drew) (Nat.le_refl _)) ?_
          clear hK K
          try simp only [Act.put, List.setIfInBounds_toArray, List.set_cons_zero, List.set_cons_succ]
          repeat ((with_reducible refine wpMix_light ?hh ?_); (case hh => rfl); go_big_quiet_step (fail); (with_reducible refine wpQuiet_nil ?_))
          refine wpMix_nil ?_
          obtain ⟨wt, hwt⟩ : ∃ wt, wt = (wr.alloc (.cells (madeCells #[Value.int .u8 0] n) tU8)).drew := ⟨_, rfl⟩
          rw [← hwt]
          have HT : Hid (wt.ownsRow w.heap.size tStr 1 (.slice (some ⟨go, 0, none⟩) os.length co) os.length (os.map strV) ∧ Below w.heap.size w wt ∧ Value.string sx = strV (cutI ls n true i)) := ⟨by rw [hwt]; exact (HF.out.2.1.alloc _).drew, by rw [hwt]; exact (HF.out.2.2.1.alloc HF.out.2.2.1.size _).drew, by rw [← HC.out]⟩
          clear hwt hsum hcv hsl2 hsl hsz0 hle0 hc0 hfz hmk e0 h0 hpos
          go_wp2_with (at_builtin; refine wpList_append_own _ rfl _ _ 33 rfl w.heap.size tStr i0 (.string { data := #[] }) 1 16 Tryz.underlying33 HI.out.1 HI.out.2.1 HI.out.2.2.1 HI.out.2.2.2 rfl (by decide) _ _ _ rfl (HT.out.1.alloc _) ⟨wt.heap.size, 0, none⟩ 1 1 [.string sx] rfl rfl ?c1 ?c2 ?c3 ?c4 ?c5 ?_)
          case c1 => exact one_cell _ _ _
          case c2 => simp [Value.oneCell']
          case c3 => unfold maxLen; omega
          case c4 => omega
          case c5 => have := HT.out.2.1.size; simp; omega
          intro v' w3 ho3 hg3 _
          have B3 : Below w.heap.size w w3 := (HT.out.2.1.alloc HT.out.2.1.size _).grown hg3 (by have := HT.out.2.1.size; simp; omega) (fun k hk => by have := (HT.out.1.lt k hk).1; have := HT.out.2.1.size; omega)
          rw [HT.out.2.2] at ho3
          have ho4 := strs_snoc ho3
          have H3 := Lib.hid (And.intro B3 ho4)
          clear B3 ho4 ho3 hg3
          go_wp2_with fail
          go_roundw
          case rel => exact ⟨i + 1, os ++ [cutI ls n true i], by omega, by go_num, by rw [HF.out.1, cutF_snoc], H3.out.2, H3.out.1⟩
          case measure => simp [intOf] <;> omega
    · obtain rfl : i = m2 := by omega
      have HF := Lib.hid (And.intro ho (And.intro hos hB))
      clear ho hos hB
      go_wp2_with fail
      go_returns
      refine ⟨_, rfl, ?_, HF.out.2.2⟩
      have h := HF.out.1
      rw [HF.out.2.1, HR.out.2.2] at h
      exact h
end Go.Proofs.YtjoipibldahbhaaGreatDoor
/- The law's 'row': all columns of some data columns; contract. -/
namespace Go.Proofs.YtjoipibldahbhaaGreatDoor
open Go Go.RowKit
set_option maxRecDepth 100000
variable {w : World} {v : Value} {ds : List (List Nat)}
def evenN (ds : List (List Nat)) (n : Nat) : Nat := ((ds.getD 0 []).take n).length
theorem evenN_le (n : Nat) : evenN ds n ≤ n := List.length_take_le _ _
theorem cutL_len (n : Nat) (even : Bool) : (cutL ds n even).length = min ds.length 36 := cutF_len ..
theorem cutL_all (n : Nat) (even : Bool) (h : AllC ds) : AllC (cutL ds n even) := fun l hl => by
  obtain ⟨i, _, rfl⟩ := List.mem_map.1 hl
  have hA : AllB (ds.getD i []) := by
    by_cases hi : i < ds.length
    · rw [List.getD, List.getElem?_eq_getElem hi]; exact h _ (List.getElem_mem hi)
    · rw [List.getD, List.getElem?_eq_none (by omega)]; intro b hb; simp at hb
  unfold cutI
  split
  · exact AllB.take (fun b hb => by
      rcases List.mem_append.1 hb with h1 | h1
      · exact hA.take n b h1
      · exact zeros_all n b h1) _
  · exact hA.take n
theorem cutL_one (n : Nat) (h : AllC ds) : One (evenN ds n) (cutL ds n true) := fun l hl => by
  refine ⟨cutL_all n true h l hl, ?_⟩
  obtain ⟨i, _, rfl⟩ := List.mem_map.1 hl
  unfold cutI evenN
  split
  · rw [List.length_take, List.length_append, zeros_len]
    have : ((ds.getD 0 []).take n).length ≤ n := List.length_take_le _ _
    omega
  · rename_i h0
    have h0 : i = 0 := by
      by_cases e : i = 0
      · exact e
      · exact absurd (by simp; omega) h0
    rw [h0]
/-- A row whole, or nothing. -/
def wholeL (n : Nat) (l : List (List Nat)) : List (List Nat) := l ++ [PL n l, QL n l]
def rowL (ds : List (List Nat)) : List (List Nat) := if 2 ≤ min ds.length 36 ∧ min ds.length 36 ≤ 30 then wholeL (evenN ds 40) (cutL ds 40 true) else []
theorem two_cells (w : World) (v u : Value) (t : TypeId) : ∀ (j : Nat) (x : Value), [v, u][j]? = some x → (w.alloc (.cells #[v, u] t)).cell? ((⟨w.heap.size, 0, none⟩ : Addr).add j) = some x := by
  intro j x h
  rcases j with _ | _ | j
  · simp at h; subst h; simp [Addr.add]
  · simp at h; subst h; simp [Addr.add]
  · simp at h
theorem row_any (w : World) (h : RS w v ds) (hall : AllC ds) :
    Calls Tryz.prog 19 #[v] w fun e w' => ∃ v', e = .returned v' ∧ RS w' v' (rowL ds) ∧ Below w.heap.size w w' := by
  have hC := cut_ok 40 true w h (by omega)
  obtain ⟨i0, hi0, hz0, hz1, hz2⟩ := info_str
  have HI : Hid (Tryz.prog.info? tStr = some i0 ∧ i0.zero = some (.string { data := #[] }) ∧ i0.size = 1 ∧ i0.bytes = 16) := ⟨hi0, hz0, hz1, hz2⟩
  have HC := Lib.hid hC
  have HL := cutL_len (ds := ds) 40 true
  obtain ⟨l, hl⟩ : ∃ l, l = cutL ds 40 true := ⟨_, rfl⟩
  have hO := cutL_one 40 hall
  have hA := cutL_all 40 true hall
  rw [← hl] at hO hA
  obtain ⟨n, hn⟩ : ∃ n, n = evenN ds 40 := ⟨_, rfl⟩
  have hn4 : n ≤ 40 := by rw [hn]; exact evenN_le 40
  have hr : rowL ds = if 2 ≤ l.length ∧ l.length ≤ 30 then wholeL n l else [] := by unfold rowL; rw [hl, HL, hn]
  rw [← hn] at hO
  have hl36 : l.length ≤ 36 := by rw [hl, HL]; omega
  have HO := Lib.hid (And.intro hO (And.intro hA (And.intro hr hl)))
  clear hC hi0 hz0 hz1 hz2 hO hA hr HL hn h hl
  go_enter Tryz.func19, Tryz.ntmps19
  go_wp2_with fail
  refine HC.out.mono ?_
  rintro e w1 ⟨v1, rfl, o1, b1⟩
  rw [← HO.out.2.2.2] at o1
  have hRS := RS.of_own o1
  have H1 := Lib.hid (And.intro o1 (And.intro b1 hRS))
  clear o1 b1 hRS
  go_wp2_with fail
  by_cases hin : 2 ≤ l.length ∧ l.length ≤ 30
  · refine (Make_ok n w1 H1.out.2.2 hin.1 hin.2 HO.out.1 (by omega)).mono ?_
    rintro e w2 ⟨rfl, b2⟩
    have H2 := Lib.hid (And.intro (World.ownsRow.below H1.out.1 b2) (H1.out.2.1.trans (b2.mono H1.out.2.1.size)))
    obtain ⟨p, hp⟩ : ∃ p, p = PL n l := ⟨_, rfl⟩
    obtain ⟨q, hq⟩ : ∃ q, q = QL n l := ⟨_, rfl⟩
    obtain ⟨a1, c1, rfl⟩ := own_shape1 H1.out.1
    rw [← hp, ← hq]
    obtain ⟨sp, hsp⟩ : ∃ s, s = mk p := ⟨_, rfl⟩
    obtain ⟨sq, hsq⟩ : ∃ s, s = mk q := ⟨_, rfl⟩
    have HP := Lib.hid (And.intro hp (And.intro hq (And.intro hsp hsq)))
    rw [show strV p = .string sp by rw [hsp], show strV q = .string sq by rw [hsq]]
    clear b2 hp hq hsp hsq
    go_wp2_with (at_builtin; refine wpList_append_own _ rfl _ _ 33 rfl w.heap.size tStr i0 (.string { data := #[] }) 1 16 Tryz.underlying33 HI.out.1 HI.out.2.1 HI.out.2.2.1 HI.out.2.2.2 rfl (by decide) _ _ _ rfl (H2.out.1.alloc _) ⟨w2.heap.size, 0, none⟩ 2 2 [.string sp, .string sq] rfl rfl ?c1 ?c2 ?c3 ?c4 ?c5 ?_)
    case c1 => exact two_cells _ _ _ _
    case c2 => simp [Value.oneCell']
    case c3 => unfold maxLen; omega
    case c4 => omega
    case c5 => have := H2.out.2.size; simp; omega
    intro v' w3 ho3 hg3 _
    have B3 : Below w.heap.size w w3 := (H2.out.2.alloc H2.out.2.size _).grown hg3 (by have := H2.out.2.size; simp; omega) (fun k hk => by have := (H2.out.1.lt k hk).1; have := H2.out.2.size; omega)
    have ho4 : w3.ownsRow w.heap.size tStr 1 v' (l.length + 2) ((wholeL n l).map strV) := by
      have e : l.map strV ++ [Value.string sp, Value.string sq] = (wholeL n l).map strV := by
        unfold wholeL
        rw [HP.out.2.2.1, HP.out.2.2.2, List.map_append, HP.out.1, HP.out.2.1]; rfl
      rw [← e]
      exact ho3
    have H3 := Lib.hid (And.intro B3 (RS.of_own ho4))
    clear B3 ho4 ho3 hg3
    go_wp2_with fail
    go_returns
    refine ⟨_, rfl, ?_, H3.out.1⟩
    rw [HO.out.2.2.1, if_pos hin]
    exact H3.out.2
  · refine (Make_range w1 H1.out.2.2 (by omega)).mono ?_
    rintro e w2 ⟨rfl, b2⟩
    have H2 := Lib.hid (H1.out.2.1.trans (b2.mono H1.out.2.1.size))
    clear b2
    go_wp2_with fail
    go_returns
    refine ⟨_, rfl, ?_, H2.out⟩
    rw [HO.out.2.2.1, if_neg hin]
    exact ⟨none, 0, rfl, Nat.le_refl _, .inl rfl⟩
end Go.Proofs.YtjoipibldahbhaaGreatDoor
/- The law's signs of life: contract. -/
namespace Go.Proofs.YtjoipibldahbhaaGreatDoor
open Go Go.RowKit
set_option maxRecDepth 100000
variable {w : World}
def wkC : List (List Nat) := [[63], [1], [109, 111, 114, 101], [1], [7]]
theorem wk_fixE : fixE wkC [2, 0] = 0 := by decide +kernel
theorem wk_fixD : fixD wkC [2, 0] = [[1], [1], [1], [1], [7]] := by decide +kernel
theorem wk_all : AllC wkC := by unfold AllC AllB wkC; decide
theorem wk_sortE : lossE 3 [2, 0, 2] = 0 := by decide +kernel
theorem wk_sortK : kindL 3 [2, 0, 2] = 7 := by decide +kernel
theorem lit_rdI {b c : Nat} {t : TypeId} (xs : List Int) (h : w.row b (iV xs) t) : w.rd (.slice (some ⟨b, 0, none⟩) xs.length c) (iV xs) :=
  ⟨some ⟨b, 0, none⟩, c, by rw [iV_len], .inr ⟨b, 0, rfl, fun j u hj => by rw [Nat.zero_add]; exact h.cell j hj⟩⟩
set_option maxHeartbeats 1000000 in
theorem wakes_any (w : World) (hN : Nam w) : Calls Tryz.prog 11 #[] w fun e w' => e = .returned (.bool true) ∧ Below w.heap.size w w' := by
  have HN := Lib.hid hN
  clear hN
  go_enter Tryz.func11, Tryz.ntmps11
  go_wp2_with fail
  refine (NewF_any w).mono ?_
  rintro e w1 ⟨b, F, rfl, hb, hf, b1⟩
  have H1 := Lib.hid (And.intro hb (And.intro hf b1))
  clear hb hf b1
  go_wp2_with fail
  obtain ⟨wd, hwd⟩ : ∃ wd, wd = (w1.alloc (.cells #[Value.string { data := #[63] }, Value.string { data := #[1] }, Value.string { data := #[109, 111, 114, 101] }, Value.string { data := #[1] }, Value.string { data := #[7] }] tStr)).alloc (.cells #[Value.int .i64 2, Value.int .i64 0] tI) := ⟨_, rfl⟩
  have hb1 : Below w1.heap.size w1 wd := by rw [hwd]; exact ((Below.refl _ _).alloc (Nat.le_refl _) _).alloc (by simp) _
  have r1 : wd.row w1.heap.size (wkC.map strV) tStr := by rw [hwd]; exact World.row.alloc (World.row.new w1 (wkC.map strV) tStr) _
  have r2 : wd.row (w1.heap.size + 1) (iV [2, 0]) tI := by rw [hwd]; exact World.row.new' (cs := iV [2, 0]) (by simp)
  rw [← hwd]
  have hF := Fix_ok wd (H1.out.2.1.below hb1) (RS.of_row r1) (lit_rdI (c := 2) _ r2) (by decide) wk_fixE wk_all (fun i => by simp)
  rw [wk_fixD] at hF
  have HF := Lib.hid (And.intro hF hb1)
  clear hF hb1 r1 r2 hwd
  refine HF.out.1.mono ?_
  rintro e w2 ⟨v2, rfl, rs2, k2, f2⟩
  obtain ⟨b2, o2, c2, rfl, hc2, hcell⟩ := (rs2.cases.resolve_left (by rintro ⟨h, _⟩; cases h)).2
  have g0 : w2.cell? ⟨b2, o2 + 0, none⟩ = some (.string { data := #[1] }) := hcell 0 [1] rfl
  have g2 : w2.cell? ⟨b2, o2 + 2, none⟩ = some (.string { data := #[1] }) := hcell 2 [1] rfl
  have g4 : w2.cell? ⟨b2, o2 + 4, none⟩ = some (.string { data := #[7] }) := hcell 4 [7] rfl
  have hB2 : Below w.heap.size w w2 := (H1.out.2.2.trans (HF.out.2.mono H1.out.2.2.size)).trans (k2.below (by have := H1.out.2.2.size; have := HF.out.2.size; omega) (by have := H1.out.1; have := H1.out.2.1.o1; rintro k (h | h) <;> omega))
  have H2 := Lib.hid (And.intro hB2 (And.intro g0 (And.intro g2 g4)))
  clear hcell rs2 k2 f2 hB2 g0 g2 g4
  go_wp2_with fail
  have hS := Sort_any 3 [2, 0, 2] _ (lit_rdI (c := 3) [2, 0, 2] (World.row.new w2 (iV [2, 0, 2]) tI)) (by decide)
  rw [wk_sortE, if_pos rfl, show ((3 : Int)).toNat = 3 from rfl, wk_sortK] at hS
  refine hS.mono ?_
  rintro e w3 ⟨rfl, b3⟩
  have b23 : Below w2.heap.size w2 w3 := ((Below.refl _ _).alloc (Nat.le_refl _) _).trans (b3.mono (by simp))
  have g0 := (b23.cell (p := ⟨b2, o2 + 0, none⟩) (block_lt_of_cell H2.out.2.1)).trans H2.out.2.1
  have g2 := (b23.cell (p := ⟨b2, o2 + 2, none⟩) (block_lt_of_cell H2.out.2.2.1)).trans H2.out.2.2.1
  have g4 := (b23.cell (p := ⟨b2, o2 + 4, none⟩) (block_lt_of_cell H2.out.2.2.2)).trans H2.out.2.2.2
  rw [Nat.add_zero] at g0
  have B3 := H2.out.1.trans (b23.mono H2.out.1.size)
  have HB := Lib.hid B3
  have hNm := Name_any 7 w3 (HN.out.below B3 HN.out.lt)
  rw [show Go.strV (nmOf 7) = .string { data := #[100, 97, 116, 97, 43, 100, 97, 116, 97] } from rfl] at hNm
  have HNm := Lib.hid hNm
  clear b23 B3 hS b3 hNm
  go_wp2_with fail
  refine HNm.out.mono ?_
  rintro e w4 ⟨rfl, rfl⟩
  go_wp2_with fail
  go_returns
  exact ⟨rfl, HB.out⟩
end Go.Proofs.YtjoipibldahbhaaGreatDoor
/- A whole row with lost columns is brought back: plain laws. No program in it. -/
namespace Go.Proofs.YtjoipibldahbhaaGreatDoor
open Go Go.RowKit
variable {n k : Nat} {l cols : List (List Nat)} {lost : List Int}
theorem ext_getD {a b : List (List Nat)} (h : a.length = b.length) (hi : ∀ i, i < a.length → a.getD i [] = b.getD i []) : a = b := by
  apply List.ext_getElem h
  intro i h1 h2
  have := hi i h1
  simpa [List.getD, h1, h2] using this
theorem ext_getB {a b : List Nat} (h : a.length = b.length) (hi : ∀ i, i < a.length → a.getD i 0 = b.getD i 0) : a = b := by
  apply List.ext_getElem h
  intro i h1 h2
  have := hi i h1
  simpa [List.getD, h1, h2] using this
theorem set_same {a : List (List Nat)} {i : Nat} {x : List Nat} (h : i < a.length) : (a.set i x).getD i [] = x := by simp [List.getD, h]
theorem set_ne {a : List (List Nat)} {i j : Nat} {x : List Nat} (h : i ≠ j) : (a.set i x).getD j [] = a.getD j [] := by simp [List.getD, h]
theorem wholeL_len : (wholeL n l).length = l.length + 2 := by simp [wholeL]
theorem wholeL_data {i : Nat} (h : i < l.length) : (wholeL n l).getD i [] = l.getD i [] := by
  unfold wholeL; simp [List.getD, List.getElem?_append_left h]
theorem wholeL_p : (wholeL n l).getD l.length [] = PL n l := by unfold wholeL; simp [List.getD]
theorem wholeL_q : (wholeL n l).getD (l.length + 1) [] = QL n l := by unfold wholeL; simp [List.getD]
theorem PL_at {t : Nat} (h : t < n) : (PL n l).getD t 0 = pB l t := by unfold PL; simp [List.getD, h]
theorem QL_at {t : Nat} (h : t < n) : (QL n l).getD t 0 = qB 0 l t := by unfold QL; simp [List.getD, h]
theorem xorL_at {a b : List Nat} {t : Nat} (h : t < a.length) (e : a.length = b.length) : (xorL a b).getD t 0 = a.getD t 0 ^^^ b.getD t 0 := by
  unfold xorL; simp [List.getD, List.getElem?_zipWith, h, show t < b.length by omega]
theorem mulL_at {a : List Nat} {t c : Nat} (h : t < a.length) : (mulL c a).getD t 0 = gm (a.getD t 0) c := by
  unfold mulL; simp [List.getD, h]
theorem foldL_at {a b : List Nat} {t c : Nat} (h : t < a.length) (e : a.length = b.length) : (foldL a c b).getD t 0 = a.getD t 0 ^^^ gm (b.getD t 0) c := by
  unfold foldL; simp [List.getD, List.getElem?_zipWith, h, show t < b.length by omega]
theorem pB_set {z : List Nat} {t : Nat} : ∀ {l : List (List Nat)} {i : Nat}, i < l.length → pB (l.set i z) t = pB l t ^^^ ((l.getD i []).getD t 0 ^^^ z.getD t 0)
  | [], i, h => by simp at h
  | x :: r, 0, h => by
    rw [List.set_cons_zero, pB_cons, pB_cons]
    show z.getD t 0 ^^^ pB r t = x.getD t 0 ^^^ pB r t ^^^ (x.getD t 0 ^^^ z.getD t 0)
    generalize x.getD t 0 = a, pB r t = b, z.getD t 0 = c
    apply Nat.eq_of_testBit_eq; intro i; simp only [Nat.testBit_xor]
    cases a.testBit i <;> cases b.testBit i <;> cases c.testBit i <;> rfl
  | x :: r, i + 1, h => by
    rw [List.set_cons_succ, pB_cons, pB_cons, pB_set (by simpa using h), Nat.xor_assoc]
    simp [List.getD]
theorem qB_set {z : List Nat} {t : Nat} : ∀ {l : List (List Nat)} {i m : Nat}, i < l.length → qB m (l.set i z) t = qB m l t ^^^ (gm ((l.getD i []).getD t 0) (pw (m + i)) ^^^ gm (z.getD t 0) (pw (m + i)))
  | [], i, m, h => by simp at h
  | x :: r, 0, m, h => by
    rw [List.set_cons_zero, qB_cons, qB_cons]
    show gm (z.getD t 0) (pw m) ^^^ qB (m + 1) r t = gm (x.getD t 0) (pw m) ^^^ qB (m + 1) r t ^^^ (gm (x.getD t 0) (pw (m + 0)) ^^^ gm (z.getD t 0) (pw (m + 0)))
    rw [Nat.add_zero]
    generalize gm (x.getD t 0) (pw m) = a, qB (m + 1) r t = b, gm (z.getD t 0) (pw m) = c
    apply Nat.eq_of_testBit_eq; intro i; simp only [Nat.testBit_xor]
    cases a.testBit i <;> cases b.testBit i <;> cases c.testBit i <;> rfl
  | x :: r, i + 1, m, h => by
    rw [List.set_cons_succ, qB_cons, qB_cons, qB_set (by simpa using h), Nat.xor_assoc, show m + 1 + i = m + (i + 1) by omega]
    simp [List.getD]
theorem dzF_get {j i : Nat} (h : i < j) : (dzF n cols lost j).getD i [] = if hasI lost i = true then zeros n else cols.getD i [] := by
  unfold dzF; simp [List.getD, h]
theorem dzF_same (hs : ∀ i, i < k → hasI lost i = false → cols.getD i [] = l.getD i []) : dzF n cols lost k = dzF n l lost k := by
  unfold dzF
  refine List.map_congr_left fun i hi => ?_
  cases h : hasI lost i with
  | true => rfl
  | false => rw [if_neg (by simp), if_neg (by simp), hs i (by simpa using hi) h]
theorem mem_ds {i : Nat} (hi : i < k) : hasI lost i = true ↔ i ∈ dsN k lost := by
  rw [dsN_mem]; unfold hasI; rw [List.contains_iff_mem]; exact ⟨fun h => ⟨hi, h⟩, fun h => h.2⟩
theorem hasI_off {i : Nat} {s : List Nat} (hd : dsN k lost = s) (hi : i < k) (hn : i ∉ s) : hasI lost i = false := by
  rw [← Bool.not_eq_true, mem_ds hi, hd]; exact hn
theorem hasI_on {i : Nat} {s : List Nat} (hd : dsN k lost = s) (hn : i ∈ s) : i < k ∧ hasI lost i = true := by
  have h : i ∈ dsN k lost := by rw [hd]; exact hn
  have hk := (dsN_mem.1 h).1
  exact ⟨hk, (mem_ds hk).2 h⟩
theorem dzF_one' {i : Nat} (hd : dsN l.length lost = [i]) : dzF n l lost l.length = l.set i (zeros n) := by
  obtain ⟨hi, hh⟩ := hasI_on hd (List.mem_cons_self ..)
  refine ext_getD (by rw [dzF_len, List.length_set]) fun t ht => ?_
  rw [dzF_len] at ht
  rw [dzF_get ht]
  by_cases e : t = i
  · subst e; rw [if_pos hh, set_same hi]
  · rw [hasI_off hd ht (by simpa using e), if_neg (by simp), set_ne (fun h => e h.symm)]
theorem dzF_two {i j : Nat} (hd : dsN l.length lost = [i, j]) (hij : i ≠ j) : dzF n l lost l.length = (l.set i (zeros n)).set j (zeros n) := by
  obtain ⟨hi, hh⟩ := hasI_on hd (List.mem_cons_self ..)
  obtain ⟨hj, hh2⟩ := hasI_on hd (List.mem_cons_of_mem _ (List.mem_cons_self ..))
  refine ext_getD (by rw [dzF_len, List.length_set, List.length_set]) fun t ht => ?_
  rw [dzF_len] at ht
  rw [dzF_get ht]
  by_cases e : t = j
  · subst e; rw [if_pos hh2, set_same (by simpa using hj)]
  · rw [set_ne (fun h => e h.symm)]
    by_cases e2 : t = i
    · subst e2; rw [if_pos hh, set_same hi]
    · rw [hasI_off hd ht (by simp [e, e2]), if_neg (by simp), set_ne (fun h => e2 h.symm)]
theorem two_of (hc : cntI k lost ≤ 2) {i j : Nat} {r : List Nat} (hd : dsN k lost = i :: j :: r) : r = [] ∧ hasI lost k = false ∧ hasI lost (k + 1) = false ∧ i < j := by
  unfold cntI at hc
  have hp := dsN_lt k lost
  rw [hd] at hc hp
  simp only [List.length_cons] at hc
  refine ⟨List.length_eq_zero_iff.1 (by omega), ?_, ?_, ?_⟩
  · cases h : hasI lost k with
    | false => rfl
    | true => rw [h] at hc; simp at hc; omega
  · cases h : hasI lost (k + 1) with
    | false => rfl
    | true => rw [h] at hc; simp at hc; omega
  · exact (List.pairwise_cons.1 hp).1 j (List.mem_cons_self ..)
theorem one_of (hc : cntI k lost ≤ 2) {i : Nat} (hd : dsN k lost = [i]) (hp : hasI lost k = true) : hasI lost (k + 1) = false := by
  unfold cntI at hc
  rw [hd, hp] at hc
  cases h : hasI lost (k + 1) with
  | false => rfl
  | true => rw [h] at hc; simp at hc
end Go.Proofs.YtjoipibldahbhaaGreatDoor
/- A whole row with lost columns is brought back: plain laws, second part. No program in it. -/
namespace Go.Proofs.YtjoipibldahbhaaGreatDoor
open Go Go.RowKit
variable {n k : Nat} {l cols : List (List Nat)} {lost : List Int}
theorem PL_one (h : One n l) : One n (wholeL n l) := fun x hx => by
  rcases List.mem_append.1 hx with h1 | h1
  · exact h x h1
  · simp at h1
    rcases h1 with rfl | rfl
    · exact ⟨PL_all h.all, PL_len ..⟩
    · exact ⟨QL_all h.all, QL_len ..⟩
theorem One.at (h : One n l) {i : Nat} (hi : i < l.length) : AllB (l.getD i []) ∧ (l.getD i []).length = n := by
  rw [List.getD, List.getElem?_eq_getElem hi]
  exact h _ (List.getElem_mem hi)
theorem fits_of (ho : One n l) (hlen : cols.length = l.length + 2) (hs : ∀ i, i < l.length + 2 → hasI lost i = false → cols.getD i [] = (wholeL n l).getD i []) : Fits n cols lost := fun i hi hh => by
  rw [hs i (by omega) hh]
  exact (PL_one ho).at (by rw [wholeL_len]; omega)
theorem lessP_at (hs : ∀ i, i < l.length + 2 → hasI lost i = false → cols.getD i [] = (wholeL n l).getD i []) (hp : hasI lost l.length = false) {t : Nat} (ht : t < n) :
    (lessP n cols lost l.length).getD t 0 = pB (dzF n l lost l.length) t ^^^ pB l t := by
  unfold lessP
  rw [if_neg (by simp [hp]), xorL_at (by rw [PL_len]; exact ht) (by rw [PL_len, hs _ (by omega) hp, wholeL_p, PL_len]), PL_at ht, hs _ (by omega) hp, wholeL_p, PL_at ht, dzF_same (l := l) fun i hi hh => by rw [hs i (by omega) hh, wholeL_data hi]]
theorem lessQ_at (hs : ∀ i, i < l.length + 2 → hasI lost i = false → cols.getD i [] = (wholeL n l).getD i []) (hp : hasI lost (l.length + 1) = false) {t : Nat} (ht : t < n) :
    (lessQ n cols lost l.length).getD t 0 = qB 0 (dzF n l lost l.length) t ^^^ qB 0 l t := by
  unfold lessQ
  rw [if_neg (by simp [hp]), xorL_at (by rw [QL_len]; exact ht) (by rw [QL_len, hs _ (by omega) hp, wholeL_q, QL_len]), QL_at ht, hs _ (by omega) hp, wholeL_q, QL_at ht, dzF_same (l := l) fun i hi hh => by rw [hs i (by omega) hh, wholeL_data hi]]
theorem xor_cut (a b : Nat) : (a ^^^ b) ^^^ a = b := by rw [Nat.xor_comm, ← Nat.xor_assoc, Nat.xor_self, Nat.zero_xor]
theorem xor_cut3 (a b c : Nat) : ((a ^^^ b) ^^^ c) ^^^ a = b ^^^ c := by rw [Nat.xor_assoc a b c, xor_cut]
theorem one_p (ho : One n l) (hlen : cols.length = l.length + 2) (hs : ∀ i, i < l.length + 2 → hasI lost i = false → cols.getD i [] = (wholeL n l).getD i []) {i : Nat} (hd : dsN l.length lost = [i]) (hp : hasI lost l.length = false) :
    lessP n cols lost l.length = l.getD i [] := by
  obtain ⟨hi, _⟩ := hasI_on hd (List.mem_cons_self ..)
  have hlp := lessP_len (k := l.length) (fits_of ho hlen hs) (by omega)
  refine ext_getB (by rw [hlp, (ho.at hi).2]) fun t ht => ?_
  rw [hlp] at ht
  rw [lessP_at hs hp ht, dzF_one' hd, pB_set hi, zeros_getD, Nat.xor_zero, xor_cut]
theorem inv_back {x i : Nat} (hx : x < 256) (hi : i < 255) : gm (gm x (pw i)) (inv (pw i)) = x := by
  rw [gm_assoc hx (pw_lt i) (inv_lt _), gm_comm (pw_lt i) (inv_lt _), gm_inv (pw_lt i) (pw_ne i hi), gm_oneR hx]
theorem one_q (ho : One n l) (hlen : cols.length = l.length + 2) (hs : ∀ i, i < l.length + 2 → hasI lost i = false → cols.getD i [] = (wholeL n l).getD i []) (h30 : l.length ≤ 30) {i : Nat} (hd : dsN l.length lost = [i]) (hp : hasI lost (l.length + 1) = false) :
    mulL (inv (pw i)) (lessQ n cols lost l.length) = l.getD i [] := by
  obtain ⟨hi, _⟩ := hasI_on hd (List.mem_cons_self ..)
  have hlq := lessQ_len (k := l.length) (fits_of ho hlen hs) (by omega)
  refine ext_getB (by rw [mulL_len, hlq, (ho.at hi).2]) fun t ht => ?_
  rw [mulL_len] at ht
  rw [mulL_at ht]
  rw [hlq] at ht
  rw [lessQ_at hs hp ht, dzF_one' hd, qB_set hi, zeros_getD, gm_zero, Nat.xor_zero, xor_cut, Nat.zero_add, inv_back (getD_lt (ho.at hi).1 t) (by omega)]
theorem two_vals {x y a b : Nat} (hy : y < 256) (ha : a < 256) (hb : b < 256) (hab : a ≠ b) : gm ((gm x a ^^^ gm y b) ^^^ gm (x ^^^ y) a) (inv (a ^^^ b)) = y := by
  have hn : a ^^^ b ≠ 0 := fun h => hab (xor_eq_zero h)
  have hl : a ^^^ b < 256 := Nat.xor_lt_two_pow (n := 8) ha hb
  have e : (gm x a ^^^ gm y b) ^^^ gm (x ^^^ y) a = gm y (a ^^^ b) := by
    rw [gm_left, gm_right]
    generalize gm x a = p, gm y b = q, gm y a = r
    apply Nat.eq_of_testBit_eq; intro i; simp only [Nat.testBit_xor]
    cases p.testBit i <;> cases q.testBit i <;> cases r.testBit i <;> rfl
  rw [e, gm_assoc hy hl (inv_lt _), gm_comm hl (inv_lt _), gm_inv hl hn, gm_oneR hy]
theorem two_v (ho : One n l) (hlen : cols.length = l.length + 2) (hs : ∀ i, i < l.length + 2 → hasI lost i = false → cols.getD i [] = (wholeL n l).getD i []) (h30 : l.length ≤ 30) {i j : Nat} (hd : dsN l.length lost = [i, j]) (hij : i ≠ j)
    (hp : hasI lost l.length = false) (hq : hasI lost (l.length + 1) = false) :
    vB i j (lessP n cols lost l.length) (lessQ n cols lost l.length) = l.getD j [] ∧ uB i j (lessP n cols lost l.length) (lessQ n cols lost l.length) = l.getD i [] := by
  obtain ⟨hi, _⟩ := hasI_on hd (List.mem_cons_self ..)
  obtain ⟨hj, _⟩ := hasI_on hd (List.mem_cons_of_mem _ (List.mem_cons_self ..))
  have hlp := lessP_len (k := l.length) (fits_of ho hlen hs) (by omega)
  have hlq := lessQ_len (k := l.length) (fits_of ho hlen hs) (by omega)
  have hpv : ∀ t, t < n → (lessP n cols lost l.length).getD t 0 = (l.getD i []).getD t 0 ^^^ (l.getD j []).getD t 0 := fun t ht => by
    rw [lessP_at hs hp ht, dzF_two hd hij, pB_set (by simpa using hj), pB_set hi, zeros_getD, set_ne hij, Nat.xor_zero, Nat.xor_zero]
    rw [xor_cut3]
  have hqv : ∀ t, t < n → (lessQ n cols lost l.length).getD t 0 = gm ((l.getD i []).getD t 0) (pw i) ^^^ gm ((l.getD j []).getD t 0) (pw j) := fun t ht => by
    rw [lessQ_at hs hq ht, dzF_two hd hij, qB_set (by simpa using hj), qB_set hi, zeros_getD, gm_zero, gm_zero, set_ne hij, Nat.xor_zero, Nat.xor_zero, Nat.zero_add, Nat.zero_add]
    rw [xor_cut3]
  have hv : vB i j (lessP n cols lost l.length) (lessQ n cols lost l.length) = l.getD j [] := by
    refine ext_getB (by rw [vB_len (by rw [hlp, hlq]), hlq, (ho.at hj).2]) fun t ht => ?_
    rw [vB_len (by rw [hlp, hlq]), hlq] at ht
    unfold vB
    rw [mulL_at (by rw [foldL_len (by rw [hlp, hlq]), hlq]; exact ht), foldL_at (by rw [hlq]; exact ht) (by rw [hlp, hlq]), hqv t ht, hpv t ht]
    exact two_vals (getD_lt (ho.at hj).1 t) (pw_lt i) (pw_lt j) fun h => hij (pw_inj (by omega) (by omega) h)
  refine ⟨hv, ?_⟩
  refine ext_getB (by rw [uB_len (by rw [hlp, hlq]), hlp, (ho.at hi).2]) fun t ht => ?_
  rw [uB_len (by rw [hlp, hlq]), hlp] at ht
  unfold uB
  rw [hv, xorL_at (by rw [hlp]; exact ht) (by rw [hlp, (ho.at hj).2]), hpv t ht, Nat.xor_assoc, Nat.xor_self, Nat.xor_zero]
/-- The data columns, brought back. -/
theorem data_back (ho : One n l) (hlen : cols.length = l.length + 2) (hs : ∀ i, i < l.length + 2 → hasI lost i = false → cols.getD i [] = (wholeL n l).getD i []) (h30 : l.length ≤ 30) (hc : cntI l.length lost ≤ 2) :
    (∀ i, i < l.length → (dataL n l.length cols lost).getD i [] = l.getD i []) ∧ (∀ i, l.length ≤ i → (dataL n l.length cols lost).getD i [] = cols.getD i []) := by
  have hoff : ∀ i, i < l.length → hasI lost i = false → cols.getD i [] = l.getD i [] := fun i hi hh => by rw [hs i (by omega) hh, wholeL_data hi]
  unfold dataL
  split
  · next hd => exact ⟨fun i hi => hoff i hi (hasI_off hd hi (by simp)), fun i _ => rfl⟩
  · next i hd =>
    obtain ⟨hi, _⟩ := hasI_on hd (List.mem_cons_self ..)
    have hv : (if hasI lost l.length = true then mulL (inv (pw i)) (lessQ n cols lost l.length) else lessP n cols lost l.length) = l.getD i [] := by
      cases hp : hasI lost l.length with
      | true => rw [if_pos rfl]; exact one_q ho hlen hs h30 hd (one_of hc hd hp)
      | false => rw [if_neg (by simp)]; exact one_p ho hlen hs hd hp
    rw [hv]
    refine ⟨fun t ht => ?_, fun t ht => set_ne (by omega)⟩
    by_cases e : i = t
    · subst e; rw [set_same (by omega)]
    · rw [set_ne e]; exact hoff t ht (hasI_off hd ht (by simp; omega))
  · next i j r hd =>
    obtain ⟨rfl, hp, hq, hij⟩ := two_of hc hd
    obtain ⟨hi, _⟩ := hasI_on hd (List.mem_cons_self ..)
    obtain ⟨hj, _⟩ := hasI_on hd (List.mem_cons_of_mem _ (List.mem_cons_self ..))
    obtain ⟨h1, h2⟩ := two_v ho hlen hs h30 hd (by omega) hp hq
    rw [h1, h2]
    refine ⟨fun t ht => ?_, fun t ht => by rw [set_ne (by omega), set_ne (by omega)]⟩
    by_cases e : i = t
    · subst e; rw [set_same (by simp; omega)]
    · rw [set_ne e]
      by_cases e2 : j = t
      · subst e2; rw [set_same (by omega)]
      · rw [set_ne e2]; exact hoff t ht (hasI_off hd ht (by simp; omega))
theorem againL_len {p q : Bool} {c : List (List Nat)} : (againL n k p q c).length = c.length := by unfold againL; cases p <;> cases q <;> simp
theorem againL_at {p q : Bool} {c : List (List Nat)} (hk : k + 1 < c.length) :
    (∀ i, i < k → (againL n k p q c).getD i [] = c.getD i []) ∧ (againL n k p q c).getD k [] = (if p = true then PL n (c.take k) else c.getD k []) ∧ (againL n k p q c).getD (k + 1) [] = (if q = true then QL n (c.take k) else c.getD (k + 1) []) := by
  have e1 : k ≠ k + 1 := by omega
  have e2 : k + 1 ≠ k := by omega
  unfold againL
  cases p <;> cases q <;> simp only [if_true, if_false, Bool.false_eq_true]
  · exact ⟨fun _ _ => trivial, trivial, trivial⟩
  · exact ⟨fun i hi => set_ne (by omega), set_ne e2, set_same hk⟩
  · exact ⟨fun i hi => set_ne (by omega), set_same (by omega), set_ne e1⟩
  · exact ⟨fun i hi => by rw [set_ne (by omega), set_ne (by omega)], by rw [set_ne e2, set_same (by omega)], by rw [set_same (by simpa using hk)]⟩
theorem fixL_back (ho : One n l) (hlen : cols.length = l.length + 2) (hs : ∀ i, i < l.length + 2 → hasI lost i = false → cols.getD i [] = (wholeL n l).getD i []) (h30 : l.length ≤ 30) (hc : cntI l.length lost ≤ 2) : fixL n l.length cols lost = wholeL n l := by
  obtain ⟨h1, h2⟩ := data_back ho hlen hs h30 hc
  have hdl := dataL_len (n := n) (k := l.length) (cols := cols) (lost := lost)
  have htk : (dataL n l.length cols lost).take l.length = l := by
    refine ext_getD (by rw [List.length_take]; omega) fun i hi => ?_
    rw [List.length_take] at hi
    rw [← h1 i (by omega)]
    simp [List.getD, show i < l.length by omega]
  unfold fixL
  obtain ⟨a1, a2, a3⟩ := againL_at (n := n) (p := hasI lost l.length) (q := hasI lost (l.length + 1)) (c := dataL n l.length cols lost) (k := l.length) (by omega)
  rw [htk] at a2 a3
  refine ext_getD (by rw [againL_len, wholeL_len]; omega) fun i hi => ?_
  rw [againL_len] at hi
  have h3 : i < l.length ∨ i = l.length ∨ i = l.length + 1 := by omega
  rcases h3 with h3 | rfl | rfl
  · rw [wholeL_data h3, ← h1 i h3, a1 i h3]
  · rw [a2, wholeL_p, h2 _ (Nat.le_refl _)]
    cases hp : hasI lost l.length with
    | true => rw [if_pos rfl]
    | false => rw [if_neg (by simp), hs _ (by omega) hp, wholeL_p]
  · rw [a3, wholeL_q, h2 _ (by omega)]
    cases hq : hasI lost (l.length + 1) with
    | true => rw [if_pos rfl]
    | false => rw [if_neg (by simp), hs _ (by omega) hq, wholeL_q]
/-- Any two lost columns of a whole row are told. -/
theorem fix_back (ho : One n l) (hn : n ≤ 65536) (hlen : cols.length = l.length + 2) (hs : ∀ i, i < l.length + 2 → hasI lost i = false → cols.getD i [] = (wholeL n l).getD i []) (he : lossE l.length lost = 0) : fixE cols lost = 0 ∧ fixD cols lost = wholeL n l := by
  obtain ⟨h2, h30⟩ := lossE_zero he
  have hc : cntI l.length lost ≤ 2 := by
    rw [lossE_in _ (by omega) (by omega)] at he
    by_cases hb : badI l.length lost = true
    · rw [if_pos hb] at he; cases he
    · rw [if_neg hb] at he
      by_cases hc : 2 < cntI l.length lost
      · rw [if_pos hc] at he; cases he
      · omega
  have hne := there_some hlen (by omega) hc
  have hF := fits_of ho hlen hs
  have hth : One n (thereL cols lost) := fun x hx => by
    unfold thereL thereF at hx
    obtain ⟨i, hi, rfl⟩ := List.mem_map.1 hx
    obtain ⟨h3, h4⟩ := List.mem_filter.1 hi
    exact hF i (by simpa using h3) (by simpa using h4)
  have hlenL : lenL cols lost = n := by
    unfold lenL
    cases h : thereL cols lost with
    | nil => exact absurd h hne
    | cons a r => exact (hth a (by rw [h]; exact List.mem_cons_self ..)).2
  constructor
  · unfold fixE
    rw [show (cols.length : Int) - 2 = (l.length : Int) by omega, if_neg (by simp [he])]
    exact hth.fit hn
  · unfold fixD
    rw [hlenL, show cols.length - 2 = l.length by omega]
    exact fixL_back ho hlen hs (by omega) hc
end Go.Proofs.YtjoipibldahbhaaGreatDoor
