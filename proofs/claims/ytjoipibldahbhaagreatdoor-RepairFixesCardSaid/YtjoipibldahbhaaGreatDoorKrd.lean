/- Several texts in one: Bf Bg Bh Par LossP LossW LossOf RSort RName RRow. -/
import Derived.Test.YtjoipibldahbhaaGreatDoorKrc
import Derived.Lib.Hide
import Derived.Sort.Row
import Derived.Sort.Grow
import Derived.Shelf.SlGeneric
import Derived.Ground.SlgnProg
import Derived.Ground.SlgmProg
import Derived.Shelf.SlicesG.Turned
import Derived.Shelf.SortM.Plain
import Derived.Shelf.SortM.SortNone
import Derived.Test.YtjoipibldahbhaaGreatDoorRows
import Derived.Test.YtjoipibldahbhaaGreatDoorProg
import Derived.Handy
import Derived.Maps.AppendAt
import Derived.Test.YtjoipibldahbhaaGreatDoorTie
import Derived.Test.YtjoipibldahbhaaGreatDoorCards
import Derived.ChangeSame
/- Buffers: fit, Add, Scale, Fold, Double: contracts. -/
namespace Go.Proofs.YtjoipibldahbhaaGreatDoor
open Go Go.RowKit
set_option maxRecDepth 100000
abbrev tStr : TypeId := 9
abbrev strV (l : List Nat) : Value := .string (mk l)
/-- The slice v reads as the texts of ls. -/
def RS (w : World) (v : Value) (ls : List (List Nat)) : Prop :=
  ∃ a c, v = .slice a ls.length c ∧ ls.length ≤ c ∧ (ls = [] ∨ ∃ b o, a = some ⟨b, o, none⟩ ∧ ∀ (j : Nat) (l : List Nat), ls[j]? = some l → w.cell? ⟨b, o + j, none⟩ = some (strV l))
variable {w w' : World} {v : Value} {ls : List (List Nat)} {B : Nat}
theorem RS.below (h : RS w v ls) (hb : Below w.heap.size w w') : RS w' v ls := by
  obtain ⟨a, c, hv, hc, h⟩ := h
  refine ⟨a, c, hv, hc, h.imp id ?_⟩
  rintro ⟨b, o, ha, hcell⟩
  exact ⟨b, o, ha, fun j l hj => (hb.cell (p := ⟨b, o + j, none⟩) (block_lt_of_cell (hcell j l hj))).trans (hcell j l hj)⟩
theorem RS.cases (h : RS w v ls) : (ls = [] ∧ ∃ a c, v = .slice a 0 c) ∨ (ls ≠ [] ∧ ∃ b o c, v = .slice (some ⟨b, o, none⟩) ls.length c ∧ ls.length ≤ c ∧ ∀ (j : Nat) (l : List Nat), ls[j]? = some l → w.cell? ⟨b, o + j, none⟩ = some (strV l)) := by
  obtain ⟨a, c, hv, hc, h⟩ := h
  by_cases e : ls = []
  · subst e; exact .inl ⟨rfl, a, c, hv⟩
  · rcases h with h | ⟨b, o, ha, hcell⟩
    · exact absurd h e
    · subst ha; exact .inr ⟨e, b, o, c, hv, hc, hcell⟩
theorem RS.of_row {g : Nat} {t : TypeId} (h : w.row g (ls.map strV) t) : RS w (.slice (some ⟨g, 0, none⟩) ls.length ls.length) ls :=
  ⟨_, _, rfl, Nat.le_refl _, .inr ⟨g, 0, rfl, fun j l hj => by rw [Nat.zero_add]; exact h.cell j (by rw [List.getElem?_map, hj]; rfl)⟩⟩
theorem RS.of_own {n : Nat} {e : TypeId} (h : w.ownsRow B e 1 v n (ls.map strV)) : RS w v ls := by
  have hn : n = ls.length := by have := h.1; rw [List.length_map] at this; omega
  rcases h.2 with ⟨h1, h2⟩ | ⟨g, cap, cur, hv, _, _, h1, _⟩
  · exact ⟨none, 0, by rw [h1, ← hn, h2], by omega, .inl (List.length_eq_zero_iff.1 (by omega))⟩
  · refine ⟨_, cap, by rw [hv, hn], by omega, .inr ⟨g, 0, rfl, fun j l hj => ?_⟩⟩
    subst hv
    rw [Nat.zero_add, World.ownsRow.cellAt h j (by have := (List.getElem?_eq_some_iff.1 hj).1; omega), List.getElem?_map, hj]
    rfl
/-- May these be buffers of one length? -/
def fitE (ls : List (List Nat)) : Int := if ls.any (fun l => decide (65536 < l.length)) = true then 2 else if ls.any (fun l => decide (l.length ≠ (ls.headD []).length)) = true then 4 else 0
theorem fitE_2 {k : Nat} {l : List Nat} (hk : ls[k]? = some l) (h : 65536 < l.length) : fitE ls = 2 := by
  unfold fitE
  rw [if_pos (List.any_eq_true.2 ⟨l, List.mem_of_getElem? hk, by simpa using h⟩)]
theorem fitE_4 {k : Nat} {l : List Nat} (hs : ∀ (j : Nat) (l : List Nat), ls[j]? = some l → l.length ≤ 65536) (hk : ls[k]? = some l) (h : l.length ≠ (ls.headD []).length) : fitE ls = 4 := by
  unfold fitE
  rw [if_neg, if_pos (List.any_eq_true.2 ⟨l, List.mem_of_getElem? hk, by simpa using h⟩)]
  intro hh
  obtain ⟨x, hx, hl⟩ := List.any_eq_true.1 hh
  obtain ⟨j, hj, rfl⟩ := List.getElem_of_mem hx
  have := hs j _ (List.getElem?_eq_getElem hj)
  simp at hl
  omega
theorem fitE_0 (hs : ∀ (j : Nat) (l : List Nat), ls[j]? = some l → l.length ≤ 65536) (he : ∀ (j : Nat) (l : List Nat), ls[j]? = some l → l.length = (ls.headD []).length) : fitE ls = 0 := by
  unfold fitE
  rw [if_neg, if_neg]
  · intro hh
    obtain ⟨x, hx, hl⟩ := List.any_eq_true.1 hh
    obtain ⟨j, hj, rfl⟩ := List.getElem_of_mem hx
    exact of_decide_eq_true hl (he j _ (List.getElem?_eq_getElem hj))
  · intro hh
    obtain ⟨x, hx, hl⟩ := List.any_eq_true.1 hh
    obtain ⟨j, hj, rfl⟩ := List.getElem_of_mem hx
    have := hs j _ (List.getElem?_eq_getElem hj)
    simp at hl
    omega
theorem fit_any (w : World) (h : RS w v ls) (hl : ls.length ≤ 100000) : Calls Tryz.prog 38 #[v] w fun e w' => e = .returned (.int .i64 (fitE ls)) ∧ w = w' := by
  rcases h.cases with ⟨rfl, a, c, rfl⟩ | ⟨hne, b, o, c, rfl, hc, hcell⟩
  · go_enter Tryz.func38, Tryz.ntmps38
    go_wp2_with fail
    refine wp_loop_rounds 1 ?_
    rw [rounds_succ]
    go_wp2_with fail
    refine wp_loop_rounds 1 ?_
    rw [rounds_succ]
    go_wp2_with fail
    go_returns
    exact ⟨rfl, rfl⟩
  · obtain ⟨m, hm⟩ : ∃ m, m = ls.length := ⟨_, rfl⟩
    rw [← hm] at hl hc ⊢
    have h0 : ls[0]? = some (ls.headD []) := by cases ls with
      | nil => exact absurd rfl hne
      | cons a r => rfl
    have c0 := hcell 0 _ h0
    rw [Nat.add_zero] at c0
    obtain ⟨n0, hn0⟩ : ∃ n, n = (ls.headD []).length := ⟨_, rfl⟩
    have hs0 := mk_size (ls.headD [])
    rw [← hn0] at hs0
    obtain ⟨s0, hse⟩ : ∃ s, s = mk (ls.headD []) := ⟨_, rfl⟩
    rw [← hse] at hs0
    replace c0 : w.cell? ⟨b, o, none⟩ = some (.string s0) := by rw [hse]; exact c0
    have HC := Lib.hid (And.intro hcell (And.intro hm hn0))
    clear hcell hm hn0 hse h0 hne h
    go_enter Tryz.func38, Tryz.ntmps38
    go_wp2_with fail
    go_loopw [9] (fun x wr => ∃ k : Nat, k ≤ m ∧ x = .int .i64 (k : Int) ∧ w = wr ∧ ∀ (j : Nat) (l : List Nat), j < k → ls[j]? = some l → l.length ≤ 65536) (fun x _ => m - (intOf x).toNat)
    case atStart => exact ⟨0, by omega, rfl, rfl, fun j l hj => by omega⟩
    case round =>
      obtain ⟨k, hk, rfl, rfl, hall⟩ := hrel
      have HA := Lib.hid hall
      clear hall
      by_cases hlt : k < m
      · obtain ⟨l, hlk⟩ : ∃ l, ls[k]? = some l := ⟨_, List.getElem?_eq_getElem (by rw [← HC.out.2.1]; exact hlt)⟩
        have ck := HC.out.1 k l hlk
        have hsz := mk_size l
        obtain ⟨s, hs⟩ : ∃ s, s = mk l := ⟨_, rfl⟩
        rw [← hs] at hsz
        replace ck : w.cell? ⟨b, o + k, none⟩ = some (.string s) := by rw [hs]; exact ck
        have HL := Lib.hid hlk
        clear hs hlk
        by_cases hbig : 65536 < l.length
        · go_wp2_with fail
          go_returns
          exact ⟨by rw [fitE_2 HL.out hbig]; rfl, rfl⟩
        · go_wp2_with fail
          go_roundw
          case rel =>
            refine ⟨k + 1, by omega, by go_num, trivial, fun j y hj hy => ?_⟩
            by_cases e : j = k
            · subst e
              have := HL.out.symm.trans hy
              cases this
              omega
            · exact HA.out j y (by omega) hy
          case measure => simp [intOf] <;> omega
      · obtain rfl : k = m := by omega
        go_wp2_with fail
        go_loopw [19] (fun x wr => ∃ i : Nat, i ≤ k ∧ x = .int .i64 (i : Int) ∧ w = wr ∧ ∀ (j : Nat) (l : List Nat), j < i → ls[j]? = some l → l.length = n0) (fun x _ => k - (intOf x).toNat)
        case atStart => exact ⟨0, by omega, rfl, rfl, fun j l hj => by omega⟩
        case round =>
          obtain ⟨i, hi, rfl, rfl, hall2⟩ := hrel
          have HA2 := Lib.hid hall2
          clear hall2
          have hsm : Hid (∀ (j : Nat) (l : List Nat), ls[j]? = some l → l.length ≤ 65536) := Lib.hid fun j l hj => HA.out j l (by have := (List.getElem?_eq_some_iff.1 hj).1; have := HC.out.2.1; omega) hj
          by_cases hlt2 : i < k
          · obtain ⟨l, hlk⟩ : ∃ l, ls[i]? = some l := ⟨_, List.getElem?_eq_getElem (by rw [← HC.out.2.1]; exact hlt2)⟩
            have ck := HC.out.1 i l hlk
            have hsz := mk_size l
            obtain ⟨s, hs⟩ : ∃ s, s = mk l := ⟨_, rfl⟩
            rw [← hs] at hsz
            replace ck : w.cell? ⟨b, o + i, none⟩ = some (.string s) := by rw [hs]; exact ck
            have HL := Lib.hid hlk
            clear hs hlk
            by_cases hne : l.length = n0
            · have hq : (s.size : Int) = (s0.size : Int) := by omega
              go_wp2_with fail
              go_roundw
              case rel =>
                refine ⟨i + 1, by omega, by go_num, trivial, fun j y hj hy => ?_⟩
                by_cases e : j = i
                · subst e
                  have := HL.out.symm.trans hy
                  cases this
                  exact hne
                · exact HA2.out j y (by omega) hy
              case measure => simp [intOf] <;> omega
            · have hq : ¬ (s.size : Int) = (s0.size : Int) := by omega
              go_wp2_with fail
              go_returns
              exact ⟨by rw [fitE_4 hsm.out HL.out (by rw [← HC.out.2.2]; exact hne)]; rfl, rfl⟩
          · go_wp2_with fail
            go_returns
            exact ⟨by rw [fitE_0 hsm.out fun j l hj => by rw [← HC.out.2.2]; exact HA2.out j l (by have := (List.getElem?_eq_some_iff.1 hj).1; have := HC.out.2.1; omega) hj]; rfl, rfl⟩
end Go.Proofs.YtjoipibldahbhaaGreatDoor
/- Buffers: Add, Scale, Fold, Double: contracts. -/
namespace Go.Proofs.YtjoipibldahbhaaGreatDoor
open Go Go.RowKit
set_option maxRecDepth 100000
variable {w w' : World} {v : Value} {ls : List (List Nat)} {B : Nat}
def xorL (a b : List Nat) : List Nat := List.zipWith (· ^^^ ·) a b
def addL : List (List Nat) → List Nat
  | [] => []
  | a :: r => r.foldl xorL a
theorem fitE_inv (h : fitE ls = 0) : ∀ (j : Nat) (l : List Nat), ls[j]? = some l → l.length ≤ 65536 ∧ l.length = (ls.headD []).length := by
  intro j l hj
  have hs : ∀ (j : Nat) (l : List Nat), ls[j]? = some l → l.length ≤ 65536 := fun j l hj => by
    rcases Nat.lt_or_ge 65536 l.length with h1 | h1
    · rw [fitE_2 hj h1] at h; cases h
    · exact h1
  refine ⟨hs j l hj, ?_⟩
  by_cases e : l.length = (ls.headD []).length
  · exact e
  · rw [fitE_4 hs hj e] at h; cases h
theorem fitE_cases (ls : List (List Nat)) : fitE ls = 0 ∨ fitE ls = 2 ∨ fitE ls = 4 := by
  unfold fitE
  split
  · exact .inr (.inl rfl)
  · split
    · exact .inr (.inr rfl)
    · exact .inl rfl
theorem xorL_len {a b : List Nat} (h : a.length = b.length) : (xorL a b).length = a.length := by unfold xorL; simp [h]
theorem xor_lt8 : ∀ x y, x < 256 → y < 256 → x ^^^ y < 256 := fun _ _ hx hy => Nat.xor_lt_two_pow (n := 8) hx hy
theorem addL_snoc {a : List Nat} {r : List (List Nat)} {k : Nat} {b : List Nat} (h : r[k]? = some b) : addL (a :: r.take (k + 1)) = xorL (addL (a :: r.take k)) b := by
  show (r.take (k + 1)).foldl xorL a = xorL ((r.take k).foldl xorL a) b
  rw [List.take_add_one, h, List.foldl_append]; rfl
set_option maxHeartbeats 1000000 in
theorem Add_any (w : World) (h : RS w v ls) (hl : ls.length ≤ 100000) (hall : ∀ l ∈ ls, AllB l) :
    Calls Tryz.prog 26 #[v] w fun e w' => e = .returned (.tuple #[.string (if fitE ls = 0 then mk (addL ls) else { data := #[] }), .int .i64 (fitE ls)]) ∧ Below w.heap.size w w' := by
  have hF := fit_any w h hl
  have HF := Lib.hid hF
  clear hF
  by_cases h0 : fitE ls = 0
  · rw [if_pos h0, h0]
    rw [h0] at HF
    rcases h.cases with ⟨rfl, a, c, rfl⟩ | ⟨hne, b, o, c, rfl, hc, hcell⟩
    · clear h
      go_enter Tryz.func26, Tryz.ntmps26
      go_wp2_with fail
      refine HF.out.mono ?_
      rintro e w1 ⟨rfl, rfl⟩
      go_wp2_with fail
      go_ret2
      exact ⟨rfl, Below.refl _ _⟩
    · have hinv := fitE_inv h0
      obtain ⟨a, r, rfl⟩ : ∃ a r, ls = a :: r := by cases ls with
        | nil => exact absurd rfl hne
        | cons a r => exact ⟨a, r, rfl⟩
      have c0 := hcell 0 a rfl
      rw [Nat.add_zero] at c0
      obtain ⟨m, hm⟩ : ∃ m, m = r.length := ⟨_, rfl⟩
      have hm1 : (a :: r).length = m + 1 := by rw [hm]; rfl
      rw [hm1] at hl hc HF ⊢
      have hn0 : a.length ≤ 65536 := (hinv 0 a rfl).1
      have hA0 : AllB a := hall a (List.mem_cons_self ..)
      have HC := Lib.hid (And.intro hcell (And.intro hm (And.intro hinv (And.intro hall hA0))))
      clear hcell hm hinv hall hne h h0 hA0
      go_enter Tryz.func26, Tryz.ntmps26
      go_wp2_with fail
      refine HF.out.mono ?_
      rintro e w1 ⟨rfl, rfl⟩
      go_wp2_with fail
      · obtain rfl : m = 0 := by omega
        have hr0 : r = [] := List.length_eq_zero_iff.1 HC.out.2.1.symm
        subst hr0
        refine wp_loop_rounds 1 ?_
        rw [rounds_succ]
        go_wp2_with fail
        go_ret2
        exact ⟨rfl, Below.refl _ _⟩
      · go_loopw [5, 24] (fun s x wr => ∃ (k : Nat) (acc : List Nat), k ≤ m ∧ x = .int .i64 (k : Int) ∧ s = .string (mk acc) ∧ acc = addL (a :: r.take k) ∧ AllB acc ∧ acc.length = a.length ∧ Below w.heap.size w wr) (fun _ x _ => m - (intOf x).toNat)
        case atStart => exact ⟨0, a, by omega, rfl, rfl, rfl, HC.out.2.2.2.2, rfl, Below.refl _ _⟩
        case round =>
          obtain ⟨k, acc, hk, rfl, rfl, hacc, hA, hAl, hB⟩ := hrel
          by_cases hlt : k < m
          · obtain ⟨y, hy⟩ : ∃ y, r[k]? = some y := ⟨_, List.getElem?_eq_getElem (by rw [← HC.out.2.1]; exact hlt)⟩
            have hyl := (HC.out.2.2.1 (k + 1) y hy).2
            have hyA := HC.out.2.2.2.1 y (List.mem_cons_of_mem _ (List.mem_of_getElem? hy))
            have ck0 := HC.out.1 (k + 1) y hy
            have ck := (hB.cell (p := ⟨b, o + (k + 1), none⟩) (block_lt_of_cell ck0)).trans ck0
            rw [show o + (k + 1) = o + 1 + k by omega] at ck
            have hlen : acc.length = y.length := by rw [hAl, hyl]; rfl
            have hW := words_add acc y wr (· ^^^ ·) xor_lt8 hA hyA hlen (by omega) fun w' _ l m hl hm h8 m8 => AddF_any l m w' hl hm h8 m8
            have hnx := addL_snoc (a := a) hy
            rw [← hacc] at hnx
            have HX := Lib.hid (And.intro hW (And.intro hnx (And.intro (AllB.zip hA hyA) (And.intro ((xorL_len hlen).trans hAl) hB))))
            clear hW hnx hB hA hAl hyl hyA ck0 hacc hlen hy
            go_wp2_with fail
            refine HX.out.1.mono ?_
            rintro e w2 ⟨rfl, b2⟩
            have B2 := Lib.hid (HX.out.2.2.2.2.trans (b2.mono HX.out.2.2.2.2.size))
            clear b2
            go_wp2_with fail
            go_roundw
            case rel => exact ⟨k + 1, _, by omega, by go_num, rfl, HX.out.2.1.symm, HX.out.2.2.1, HX.out.2.2.2.1, B2.out⟩
            case measure => simp [intOf] <;> omega
          · obtain rfl : k = m := by omega
            rw [List.take_of_length_le (by have := HC.out.2.1; omega)] at hacc
            have HB := Lib.hid (And.intro hB hacc)
            clear hB hacc hA hAl
            go_wp2_with fail
            go_ret2
            exact ⟨by rw [← HB.out.2]; rfl, HB.out.1⟩
  · rw [if_neg h0]
    have h24 := (fitE_cases ls).resolve_left h0
    rcases h24 with h2 | h2
    all_goals
      rw [h2] at HF ⊢
      clear h0 h2
      go_enter Tryz.func26, Tryz.ntmps26
      go_wp2_with fail
      refine HF.out.mono ?_
      rintro e w1 ⟨rfl, rfl⟩
      go_wp2_with fail
      go_ret2
      exact ⟨rfl, Below.refl _ _⟩
end Go.Proofs.YtjoipibldahbhaaGreatDoor
/- Buffers: Scale, Fold, Double of buffers that fit; powers: contracts. -/
namespace Go.Proofs.YtjoipibldahbhaaGreatDoor
open Go Go.RowKit
set_option maxRecDepth 100000
variable {w w' : World} {v : Value} {ls : List (List Nat)} {B : Nat}
def mulL (c : Nat) (l : List Nat) : List Nat := l.map fun b => gm b c
theorem mulL_len (c : Nat) (l : List Nat) : (mulL c l).length = l.length := by unfold mulL; simp
theorem mulL_all {l : List Nat} (h : AllB l) (c : Nat) : AllB (mulL c l) := h.map fun b hb => gm_lt b c hb
theorem fitE_one {l : List Nat} (h : l.length ≤ 65536) : fitE [l] = 0 := fitE_0 (fun j m hj => by cases j with | zero => simp at hj; subst hj; exact h | succ j => simp at hj) (fun j m hj => by cases j with | zero => simp at hj; subst hj; rfl | succ j => simp at hj)
theorem fitE_two {l m : List Nat} (h : l.length ≤ 65536) (e : l.length = m.length) : fitE [l, m] = 0 := fitE_0
  (fun j x hj => by
    cases j with
    | zero => simp at hj; subst hj; exact h
    | succ j => cases j with
      | zero => simp at hj; subst hj; omega
      | succ j => simp at hj)
  (fun j x hj => by
    cases j with
    | zero => simp at hj; subst hj; rfl
    | succ j => cases j with
      | zero => simp at hj; subst hj; exact e.symm
      | succ j => simp at hj)
theorem makeF : ∀ (fn : Fn) (first cap : Array Value) (w : World), (Instr.makeFunc fn first cap).run Tryz.prog w = .ok (.func fn first cap) w := fun _ _ _ _ => rfl
theorem Scale_ok (c : Nat) (l : List Nat) (w : World) (hc : c < 256) (hl : AllB l) (hn : l.length ≤ 65536) :
    Calls Tryz.prog 63 #[.int .u8 (c : Int), strV l] w fun e w' => e = .returned (.tuple #[strV (mulL c l), .int .i64 0]) ∧ Below w.heap.size w w' := by
  have HL := Lib.hid (And.intro hc (And.intro hl hn))
  clear hc hl hn
  go_enter Tryz.func63, Tryz.ntmps63
  go_upto_region 1 with fail
  obtain ⟨g, hg⟩ : ∃ g, g = w.heap.size := ⟨_, rfl⟩
  refine wp_world (fun w0 => w0.row g [.int .u8 (c : Int)] tU8 ∧ Below w.heap.size w w0) ⟨World.row.new' hg.symm, (by repeat' (first | (with_reducible exact Below.refl _ _) | (with_reducible assumption) | (with_reducible refine Below.setCell ?_ ?_ _) | (with_reducible refine Below.ext ?_ _ ?_) | (with_reducible refine Below.alloc ?_ ?_ _) | (with_reducible refine Below.drew ?_) | (with_reducible refine Below.drewN ?_ _) | (with_reducible exact Nat.le_refl _) | (dsimp only; omega) | (simp <;> omega)))⟩ ?_
  simp only [← hg]
  rintro w0 ⟨r0, B0⟩
  rw [hg] at B0
  clear hg
  have H0 := Lib.hid (And.intro r0 B0)
  clear r0 B0
  go_wp2_with fail
  refine (fit_any (ls := [l]) _ (RS.of_row (World.row.new w0 [strV l] _)) (by simp)).mono ?_
  rintro e w1 ⟨rfl, rfl⟩
  rw [fitE_one HL.out.2.2]
  have hb1 := (Below.refl w0.heap.size w0).alloc (Nat.le_refl _) (.cells [strV l].toArray tStr)
  obtain ⟨w1, hw1⟩ : ∃ w1, w1 = w0.alloc (.cells [strV l].toArray tStr) := ⟨_, rfl⟩
  rw [← hw1] at hb1
  have hW : Calls Tryz.prog 39 #[.string (mk l), .string (mk l), .func (.func 82) #[] #[.pointer (some ⟨g, 0, none⟩)]] w1 fun e w' => e = .returned (.string (mk (mulL c l))) ∧ Below w1.heap.size w1 w' := by
    have := words_scale l l ⟨g, 0, none⟩ w1 (fun x _ => gm x c) (fun x _ hx _ => gm_lt x c hx) HL.out.2.1 HL.out.2.1 rfl HL.out.2.2 fun w' hb x m hx _ h8 m8 => ScaleF_any x m c ⟨g, 0, none⟩ w' HL.out.1 (((H0.out.1.below hb1 H0.out.1.lt).below hb (H0.out.1.below hb1 H0.out.1.lt).lt).cell 0 rfl) hx h8 m8
    rw [show List.zipWith (fun x _ => gm x c) l l = mulL c l by unfold mulL; rw [List.zipWith_self]] at this
    exact this
  subst hw1
  have HW := Lib.hid (And.intro hW (H0.out.2.trans (hb1.mono H0.out.2.size)))
  clear hW hb1
  have hmf := makeF
  go_wp2_with fail
  refine HW.out.1.mono ?_
  rintro e w2 ⟨rfl, b2⟩
  have B2 := Lib.hid (HW.out.2.trans (b2.mono HW.out.2.size))
  clear b2
  go_wp2_with fail
  go_ret2
  exact ⟨rfl, B2.out⟩
/-- A buffer, and another one times an element added. -/
def foldL (a : List Nat) (c : Nat) (l : List Nat) : List Nat := List.zipWith (fun x y => x ^^^ gm y c) a l
theorem foldL_len {a l : List Nat} (h : a.length = l.length) (c : Nat) : (foldL a c l).length = a.length := by unfold foldL; simp [h]
theorem zipA {f : Nat → Nat → Nat} (hf : ∀ x y, x < 256 → y < 256 → f x y < 256) {l m : List Nat} (hl : AllB l) (hm : AllB m) : AllB (List.zipWith f l m) := fun x hx => by
  obtain ⟨i, hi, rfl⟩ := List.getElem_of_mem hx
  rw [List.getElem_zipWith]
  exact hf _ _ (hl _ (List.getElem_mem _)) (hm _ (List.getElem_mem _))
theorem foldL_all {a l : List Nat} (ha : AllB a) (hl : AllB l) (c : Nat) : AllB (foldL a c l) := zipA (fun x y hx hy => xor_lt8 x _ hx (gm_lt y c hy)) ha hl
theorem Fold_ok (a l : List Nat) (c : Nat) (w : World) (hc : c < 256) (ha : AllB a) (hl : AllB l) (e : a.length = l.length) (hn : a.length ≤ 65536) :
    Calls Tryz.prog 60 #[strV a, .int .u8 (c : Int), strV l] w fun e w' => e = .returned (.tuple #[strV (foldL a c l), .int .i64 0]) ∧ Below w.heap.size w w' := by
  have HL := Lib.hid (And.intro hc (And.intro ha (And.intro hl (And.intro e hn))))
  clear hc hl hn ha e
  go_enter Tryz.func60, Tryz.ntmps60
  go_upto_region 1 with fail
  obtain ⟨g, hg⟩ : ∃ g, g = w.heap.size := ⟨_, rfl⟩
  refine wp_world (fun w0 => w0.row g [.int .u8 (c : Int)] tU8 ∧ Below w.heap.size w w0) ⟨World.row.new' hg.symm, (by repeat' (first | (with_reducible exact Below.refl _ _) | (with_reducible assumption) | (with_reducible refine Below.setCell ?_ ?_ _) | (with_reducible refine Below.ext ?_ _ ?_) | (with_reducible refine Below.alloc ?_ ?_ _) | (with_reducible refine Below.drew ?_) | (with_reducible refine Below.drewN ?_ _) | (with_reducible exact Nat.le_refl _) | (dsimp only; omega) | (simp <;> omega)))⟩ ?_
  simp only [← hg]
  rintro w0 ⟨r0, B0⟩
  rw [hg] at B0
  clear hg
  have H0 := Lib.hid (And.intro r0 B0)
  clear r0 B0
  go_wp2_with fail
  refine (fit_any (ls := [a, l]) _ (RS.of_row (World.row.new w0 [strV a, strV l] _)) (by simp)).mono ?_
  rintro e w1 ⟨rfl, rfl⟩
  rw [fitE_two HL.out.2.2.2.2 HL.out.2.2.2.1]
  have hb1 := (Below.refl w0.heap.size w0).alloc (Nat.le_refl _) (.cells [strV a, strV l].toArray tStr)
  obtain ⟨w1, hw1⟩ : ∃ w1, w1 = w0.alloc (.cells [strV a, strV l].toArray tStr) := ⟨_, rfl⟩
  rw [← hw1] at hb1
  have hW : Calls Tryz.prog 39 #[.string (mk a), .string (mk l), .func (.func 79) #[] #[.pointer (some ⟨g, 0, none⟩)]] w1 fun e w' => e = .returned (.string (mk (foldL a c l))) ∧ Below w1.heap.size w1 w' :=
    words_fold a l ⟨g, 0, none⟩ w1 (fun x y => x ^^^ gm y c) (fun x y hx hy => xor_lt8 x _ hx (gm_lt y c hy)) HL.out.2.1 HL.out.2.2.1 HL.out.2.2.2.1 HL.out.2.2.2.2 fun w' hb x m hx hm h8 m8 => FoldF_any x m c ⟨g, 0, none⟩ w' HL.out.1 (((H0.out.1.below hb1 H0.out.1.lt).below hb (H0.out.1.below hb1 H0.out.1.lt).lt).cell 0 rfl) hx hm h8 m8
  subst hw1
  have HW := Lib.hid (And.intro hW (H0.out.2.trans (hb1.mono H0.out.2.size)))
  clear hW hb1
  have hmf := makeF
  go_wp2_with fail
  refine HW.out.1.mono ?_
  rintro e w2 ⟨rfl, b2⟩
  have B2 := Lib.hid (HW.out.2.trans (b2.mono HW.out.2.size))
  clear b2
  go_wp2_with fail
  go_ret2
  exact ⟨rfl, B2.out⟩
/-- A buffer doubled, and another one added. -/
def doubleL (a l : List Nat) : List Nat := List.zipWith (fun x y => dbl x ^^^ y) a l
theorem doubleL_len {a l : List Nat} (h : a.length = l.length) : (doubleL a l).length = a.length := by unfold doubleL; simp [h]
theorem doubleL_all {a l : List Nat} (ha : AllB a) (hl : AllB l) : AllB (doubleL a l) := zipA (fun x y hx hy => xor_lt8 _ y (dbl_lt x hx) hy) ha hl
theorem Double_ok (a l : List Nat) (w : World) (ha : AllB a) (hl : AllB l) (e : a.length = l.length) (hn : a.length ≤ 65536) :
    Calls Tryz.prog 53 #[strV a, strV l] w fun e w' => e = .returned (.tuple #[strV (doubleL a l), .int .i64 0]) ∧ Below w.heap.size w w' := by
  have HL := Lib.hid (And.intro ha (And.intro hl (And.intro e hn)))
  clear hl hn ha e
  go_enter Tryz.func53, Tryz.ntmps53
  go_wp2_with fail
  refine (fit_any (ls := [a, l]) _ (RS.of_row (World.row.new w [strV a, strV l] _)) (by simp)).mono ?_
  rintro e w1 ⟨rfl, rfl⟩
  rw [fitE_two HL.out.2.2.2 HL.out.2.2.1]
  have hb1 := (Below.refl w.heap.size w).alloc (Nat.le_refl _) (.cells [strV a, strV l].toArray tStr)
  have hW : Calls Tryz.prog 39 #[.string (mk a), .string (mk l), .func (.func 66) #[] #[]] (w.alloc (.cells [strV a, strV l].toArray tStr)) fun e w' => e = .returned (.string (mk (doubleL a l))) ∧ Below (w.alloc (.cells [strV a, strV l].toArray tStr)).heap.size (w.alloc (.cells [strV a, strV l].toArray tStr)) w' :=
    words_double a l _ (fun x y => dbl x ^^^ y) (fun x y hx hy => xor_lt8 _ y (dbl_lt x hx) hy) HL.out.1 HL.out.2.1 HL.out.2.2.1 HL.out.2.2.2 fun w' _ x m hx hm h8 m8 => DoubleF_any x m w' hx hm h8 m8
  have HW := Lib.hid (And.intro hW hb1)
  clear hW hb1
  go_wp2_with fail
  refine HW.out.1.mono ?_
  rintro e w2 ⟨rfl, b2⟩
  have B2 := Lib.hid (HW.out.2.trans (b2.mono HW.out.2.size))
  clear b2
  go_wp2_with fail
  go_ret2
  exact ⟨rfl, B2.out⟩
/-- Power: 2 to the power of a column's number. -/
def powN (i : Int) : Nat := if 0 ≤ i ∧ i < 30 then pw i.toNat else 0
theorem one_c1 : AllB [1] := fun b hb => by simp at hb; omega
theorem one_c0 : AllB [0] := fun b hb => by simp at hb; omega
theorem Power_ok (i : Nat) (w : World) (hi : i < 30) : Calls Tryz.prog 61 #[.int .i64 (i : Int)] w fun e w' => e = .returned (.int .u8 (pw i : Int)) ∧ Below w.heap.size w w' := by
  have hS := Scale_ok 1 [1] w (by omega) one_c1 (by simp)
  rw [show mulL 1 [1] = [pw 0] by decide] at hS
  have HS := Lib.hid hS
  clear hS
  go_enter Tryz.func61, Tryz.ntmps61
  go_wp2_with fail
  refine HS.out.mono ?_
  rintro e w1 ⟨rfl, b1⟩
  have B1 := Lib.hid b1
  clear b1
  go_wp2_with fail
  go_loopw [3, 16] (fun s x wr => ∃ k : Nat, k ≤ i ∧ x = .int .i64 (k : Int) ∧ s = strV [pw k] ∧ Below w.heap.size w wr) (fun _ x _ => i - (intOf x).toNat)
  case atStart => exact ⟨0, by omega, rfl, rfl, B1.out⟩
  case round =>
    obtain ⟨k, hk, rfl, rfl, hB⟩ := hrel
    by_cases hlt : k < i
    · have hA : AllB [pw k] := fun b hb => by have := pw_lt k; simp at hb; omega
      have hD := Double_ok [pw k] [0] wr hA one_c0 rfl (by simp)
      rw [show doubleL [pw k] [0] = [pw (k + 1)] by show [dbl (pw k) ^^^ 0] = [dbl (pw k)]; rw [Nat.xor_zero]] at hD
      have HX := Lib.hid (And.intro hD hB)
      clear hD hB hA
      go_wp2_with fail
      refine HX.out.1.mono ?_
      rintro e w2 ⟨rfl, b2⟩
      have B2 := Lib.hid (HX.out.2.trans (b2.mono HX.out.2.size))
      clear b2
      go_wp2_with fail
      go_roundw
      case rel => exact ⟨k + 1, by omega, by go_num, rfl, B2.out⟩
      case measure => simp [intOf] <;> omega
    · obtain rfl : k = i := by omega
      have hA : AllB [pw k] := fun b hb => by have := pw_lt k; simp at hb; omega
      have hsz := mk_size [pw k]
      obtain ⟨s, hs⟩ : ∃ s, s = mk [pw k] := ⟨_, rfl⟩
      rw [show strV [pw k] = .string s by rw [hs]]
      rw [← hs] at hsz
      have HB := Lib.hid (And.intro hB (And.intro hs hA))
      clear hB hs hA
      go_wp2_with fail
      go_returns
      refine ⟨?_, HB.out.1⟩
      obtain ⟨_, rfl, hA⟩ := HB.out
      exact congrArg (fun n : Nat => Ending.returned (.int .u8 (n : Int))) (mk_get hA (by simp) (by rw [mk_size]; simp))
end Go.Proofs.YtjoipibldahbhaaGreatDoor
/- Parities, byte by byte: plain laws. No program in it. -/
namespace Go.Proofs.YtjoipibldahbhaaGreatDoor
open Go Go.RowKit
/-- Sums of the bytes at a place, plain and with weights. -/
def pB : List (List Nat) → Nat → Nat
  | [], _ => 0
  | l :: r, t => l.getD t 0 ^^^ pB r t
def qB : Nat → List (List Nat) → Nat → Nat
  | _, [], _ => 0
  | i, l :: r, t => gm (l.getD t 0) (pw i) ^^^ qB (i + 1) r t
theorem pB_cons (l : List Nat) (r : List (List Nat)) (t : Nat) : pB (l :: r) t = l.getD t 0 ^^^ pB r t := rfl
theorem qB_cons (i : Nat) (l : List Nat) (r : List (List Nat)) (t : Nat) : qB i (l :: r) t = gm (l.getD t 0) (pw i) ^^^ qB (i + 1) r t := rfl
theorem pB_append (b : List (List Nat)) (t : Nat) : ∀ a, pB (a ++ b) t = pB a t ^^^ pB b t
  | [] => by simp [pB]
  | l :: a => by rw [List.cons_append, pB_cons, pB_cons, pB_append b t a, Nat.xor_assoc]
theorem qB_append (b : List (List Nat)) (t : Nat) : ∀ (a : List (List Nat)) (i : Nat), qB i (a ++ b) t = qB i a t ^^^ qB (i + a.length) b t
  | [], i => by simp [qB]
  | l :: a, i => by rw [List.cons_append, qB_cons, qB_cons, qB_append b t a (i + 1), Nat.xor_assoc, List.length_cons, show i + 1 + a.length = i + (a.length + 1) by omega]
theorem pB_one (l : List Nat) (t : Nat) : pB [l] t = l.getD t 0 := by simp [pB]
theorem qB_one (l : List Nat) (i t : Nat) : qB i [l] t = gm (l.getD t 0) (pw i) := by simp [qB]
variable {ls : List (List Nat)} {n : Nat}
def AllC (ls : List (List Nat)) : Prop := ∀ l ∈ ls, AllB l
theorem pB_lt (t : Nat) : ∀ ls, AllC ls → pB ls t < 256
  | [], _ => by unfold pB; omega
  | l :: r, h => xor_lt8 _ _ (getD_lt (h l (List.mem_cons_self ..)) t) (pB_lt t r fun x hx => h x (List.mem_cons_of_mem _ hx))
theorem qB_lt (t : Nat) : ∀ ls i, AllC ls → qB i ls t < 256
  | [], i, _ => by unfold qB; omega
  | l :: r, i, h => xor_lt8 _ _ (gm_lt _ _ (getD_lt (h l (List.mem_cons_self ..)) t)) (qB_lt t r (i + 1) fun x hx => h x (List.mem_cons_of_mem _ hx))
/-- The parities. -/
def PL (n : Nat) (ls : List (List Nat)) : List Nat := (List.range n).map (pB ls)
def QL (n : Nat) (ls : List (List Nat)) : List Nat := (List.range n).map (qB 0 ls)
theorem PL_len (n : Nat) (ls : List (List Nat)) : (PL n ls).length = n := by simp [PL]
theorem QL_len (n : Nat) (ls : List (List Nat)) : (QL n ls).length = n := by simp [QL]
theorem PL_all (h : AllC ls) : AllB (PL n ls) := fun x hx => by
  obtain ⟨t, _, rfl⟩ := List.mem_map.1 hx
  exact pB_lt t ls h
theorem QL_all (h : AllC ls) : AllB (QL n ls) := fun x hx => by
  obtain ⟨t, _, rfl⟩ := List.mem_map.1 hx
  exact qB_lt t ls 0 h
def zeros (n : Nat) : List Nat := List.replicate n 0
theorem PL_nil (n : Nat) : PL n [] = zeros n := by unfold PL zeros; apply List.ext_getElem <;> simp [pB]
theorem QL_nil (n : Nat) : QL n [] = zeros n := by unfold QL zeros; apply List.ext_getElem <;> simp [qB]
theorem zeros_all (n : Nat) : AllB (zeros n) := fun b hb => by rw [List.eq_of_mem_replicate hb]; omega
theorem zeros_len (n : Nat) : (zeros n).length = n := by simp [zeros]
theorem getD_at {l : List Nat} {t : Nat} (h : t < l.length) : l.getD t 0 = l[t] := by simp [List.getD, h]
theorem PL_snoc {l : List Nat} (h : l.length = n) : xorL (PL n ls) l = PL n (ls ++ [l]) := by
  unfold xorL PL
  apply List.ext_getElem
  · simp [h]
  · intro t h1 h2
    have ht : t < l.length := by simp at h2; omega
    simp only [List.getElem_zipWith, List.getElem_map, List.getElem_range]
    rw [pB_append, pB_one, getD_at ht]
theorem QL_snoc {l : List Nat} (h : l.length = n) : foldL (QL n ls) (pw ls.length) l = QL n (ls ++ [l]) := by
  unfold foldL QL
  apply List.ext_getElem
  · simp [h]
  · intro t h1 h2
    have ht : t < l.length := by simp at h2; omega
    simp only [List.getElem_zipWith, List.getElem_map, List.getElem_range]
    rw [qB_append, qB_one, getD_at ht, Nat.zero_add]
theorem foldL_one {a l : List Nat} (hl : AllB l) (h : a.length = l.length) : foldL a 1 l = xorL a l := by
  unfold foldL xorL
  apply List.ext_getElem
  · simp
  · intro t h1 h2
    have ht : t < l.length := by simp at h2; omega
    simp only [List.getElem_zipWith]
    rw [gm_oneR (hl _ (List.getElem_mem ht))]
theorem qB_succ (t : Nat) : ∀ (ls : List (List Nat)) (i : Nat), AllC ls → qB (i + 1) ls t = dbl (qB i ls t)
  | [], i, _ => by simp [qB, dbl_zero]
  | l :: r, i, h => by
    have hl := getD_lt (h l (List.mem_cons_self ..)) t
    rw [qB_cons, qB_cons, dbl_xor, qB_succ t r (i + 1) fun x hx => h x (List.mem_cons_of_mem _ hx), ← gm_dbl]
    congr 1
    rw [gm_comm hl (pw_lt _), gm_comm (dbl_lt _ hl) (pw_lt _), gm_pw _ _ hl, gm_pw _ _ (dbl_lt _ hl)]
    have : ∀ n x, dbls (n + 1) x = dbls n (dbl x) := fun n => by
      induction n with
      | zero => intro x; rfl
      | succ n ih => intro x; show dbl (dbls (n + 1) x) = dbl (dbls n (dbl x)); rw [ih]
    rw [this]
/-- The weighted sum from the back: doubled, and the next one added. -/
theorem QL_cons {l : List Nat} (h : l.length = n) (hl : AllB l) (hs : AllC ls) : doubleL (QL n ls) l = QL n (l :: ls) := by
  unfold doubleL QL
  apply List.ext_getElem
  · simp [h]
  · intro t h1 h2
    have ht : t < l.length := by simp at h2; omega
    simp only [List.getElem_zipWith, List.getElem_map, List.getElem_range]
    rw [qB_cons, qB_succ t ls 0 hs, getD_at ht, show gm l[t] (pw 0) = l[t] from gm_oneR (hl _ (List.getElem_mem ht)), Nat.xor_comm]
theorem addL_PL {l : List Nat} {r : List (List Nat)} (h : ∀ x ∈ l :: r, x.length = n) : addL (l :: r) = PL n (l :: r) := by
  have h0 : PL n [l] = l := by
    unfold PL
    apply List.ext_getElem
    · simp [h l (List.mem_cons_self ..)]
    · intro t h1 h2; simp [pB, h2]
  suffices hs : ∀ (r a : List (List Nat)), (∀ x ∈ r, x.length = n) → r.foldl xorL (PL n a) = PL n (a ++ r) by
    have := hs r [l] fun x hx => h x (List.mem_cons_of_mem _ hx)
    rw [h0] at this
    exact this
  intro r
  induction r with
  | nil => intro a _; simp
  | cons x r ih =>
    intro a hx
    rw [List.foldl_cons, PL_snoc (hx x (List.mem_cons_self ..)), ih _ fun y hy => hx y (List.mem_cons_of_mem _ hy), List.append_assoc]; rfl
end Go.Proofs.YtjoipibldahbhaaGreatDoor
/- Which columns of a row are lost: plain laws. No program in it. -/
namespace Go.Proofs.YtjoipibldahbhaaGreatDoor
open Go Go.RowKit Go.Sort
def iV (l : List Int) : List Value := l.map (Value.int .i64)
theorem iV_len (l : List Int) : (iV l).length = l.length := by simp [iV]
theorem iV_get {l : List Int} {j : Nat} {x : Int} (h : l[j]? = some x) : (iV l)[j]? = some (.int .i64 x) := by simp [iV, h]
/-- Is this column lost? -/
def hasI (lost : List Int) (i : Nat) : Bool := lost.contains (i : Int)
def badI (data : Nat) (lost : List Int) : Bool := lost.any fun c => decide (c < 0 ∨ (data : Int) + 2 ≤ c)
/-- The data columns that are lost. -/
def dsN (data : Nat) (lost : List Int) : List Nat := (List.range data).filter (hasI lost)
def dsI (data : Nat) (lost : List Int) : List Int := (dsN data lost).map fun n : Nat => (n : Int)
def cntI (data : Nat) (lost : List Int) : Nat := (dsN data lost).length + (if hasI lost data then 1 else 0) + (if hasI lost (data + 1) then 1 else 0)
def lossE (data : Int) (lost : List Int) : Int := if data < 2 ∨ 30 < data then 3 else if badI data.toNat lost = true then 3 else if 2 < cntI data.toNat lost then 20 else 0
theorem lossE_range {data : Int} (lost : List Int) (h : data < 2 ∨ 30 < data) : lossE data lost = 3 := by unfold lossE; rw [if_pos h]
theorem lossE_in {data : Nat} (lost : List Int) (h1 : 2 ≤ data) (h2 : data ≤ 30) : lossE data lost = if badI data lost = true then 3 else if 2 < cntI data lost then 20 else 0 := by
  unfold lossE
  rw [if_neg (by omega), Int.toNat_natCast]
theorem lossE_bad {data j : Nat} {c : Int} {lost : List Int} (h1 : 2 ≤ data) (h2 : data ≤ 30) (hj : lost[j]? = some c) (hc : c < 0 ∨ (data : Int) + 2 ≤ c) : lossE data lost = 3 := by
  have : badI data lost = true := List.any_eq_true.2 ⟨c, List.mem_of_getElem? hj, by simpa using hc⟩
  rw [lossE_in _ h1 h2, if_pos this]
theorem dsN_mem {data : Nat} {lost : List Int} {i : Nat} : i ∈ dsN data lost ↔ i < data ∧ (i : Int) ∈ lost := by
  unfold dsN hasI
  simp
theorem dsI_mem {data : Nat} {lost : List Int} {x : Int} : x ∈ dsI data lost ↔ 0 ≤ x ∧ x < data ∧ x ∈ lost := by
  unfold dsI
  rw [List.mem_map]
  constructor
  · rintro ⟨i, hi, rfl⟩
    obtain ⟨h1, h2⟩ := dsN_mem.1 hi
    exact ⟨by omega, by omega, h2⟩
  · rintro ⟨h1, h2, h3⟩
    refine ⟨x.toNat, dsN_mem.2 ⟨by omega, ?_⟩, by omega⟩
    rw [Int.toNat_of_nonneg h1]; exact h3
theorem dsN_lt (data : Nat) (lost : List Int) : (dsN data lost).Pairwise (· < ·) := List.Pairwise.filter _ (List.pairwise_lt_range)
theorem dsI_lt (data : Nat) (lost : List Int) : (dsI data lost).Pairwise (· < ·) := by
  unfold dsI
  rw [List.pairwise_map]
  exact (dsN_lt data lost).imp fun h => by omega
theorem dsI_len (data : Nat) (lost : List Int) : (dsI data lost).length = (dsN data lost).length := by unfold dsI; simp
/-- Rising lists of the same numbers are the same. -/
theorem rise_eq {l l' : List Int} (h1 : l.Pairwise (· < ·)) (h2 : l'.Pairwise (· < ·)) (hm : ∀ x, x ∈ l ↔ x ∈ l') : l = l' := by
  induction l generalizing l' with
  | nil =>
    cases l' with
    | nil => rfl
    | cons a l' => exact absurd ((hm a).2 (List.mem_cons_self ..)) (by simp)
  | cons a l ih =>
    cases l' with
    | nil => exact absurd ((hm a).1 (List.mem_cons_self ..)) (by simp)
    | cons b l' =>
      obtain ⟨a1, a2⟩ := List.pairwise_cons.1 h1
      obtain ⟨b1, b2⟩ := List.pairwise_cons.1 h2
      have e : a = b := by
        rcases List.mem_cons.1 ((hm a).1 (List.mem_cons_self ..)) with e | e
        · exact e
        · rcases List.mem_cons.1 ((hm b).2 (List.mem_cons_self ..)) with e' | e'
          · exact e'.symm
          · have := a1 b e'; have := b1 a e; omega
      subst e
      rw [ih a2 b2 fun x => ?_]
      constructor
      · intro hx
        rcases List.mem_cons.1 ((hm x).1 (List.mem_cons_of_mem _ hx)) with e | e
        · subst e; have := a1 x hx; omega
        · exact e
      · intro hx
        rcases List.mem_cons.1 ((hm x).2 (List.mem_cons_of_mem _ hx)) with e | e
        · subst e; have := b1 x hx; omega
        · exact e
def riseI (l : List Int) : List Int := l.mergeSort fun x y => decide (x ≤ y)
theorem riseI_perm (l : List Int) : (riseI l).Perm l := List.mergeSort_perm _ _
theorem riseI_lt {l : List Int} (hn : l.Nodup) : (riseI l).Pairwise (· < ·) := by
  have h1 : (riseI l).Pairwise fun x y => decide (x ≤ y) = true := List.pairwise_mergeSort (fun a b c h1 h2 => by simp at *; omega) (fun a b => by simp; omega) l
  have h2 : (riseI l).Nodup := (riseI_perm l).nodup_iff.2 hn
  exact (h1.and h2).imp fun h => by have := h.1; have := h.2; simp at *; omega
/-- What is found of the numbers that were looked at. -/
structure Found (data : Nat) (pre xs : List Int) (p q : Bool) : Prop where
  once : xs.Nodup
  mem : ∀ x, x ∈ xs ↔ 0 ≤ x ∧ x < data ∧ x ∈ pre
  p : p = hasI pre data
  q : q = hasI pre (data + 1)
  good : badI data pre = false
  len : xs.length ≤ pre.length
variable {data : Nat} {pre xs : List Int} {p q : Bool} {c : Int}
theorem found_nil : Found data [] [] false false := ⟨List.nodup_nil, fun x => by simp, rfl, rfl, rfl, Nat.le_refl _⟩
theorem hasI_snoc (pre : List Int) (c : Int) (i : Nat) : hasI (pre ++ [c]) i = (hasI pre i || decide (c = i)) := by
  unfold hasI
  rw [Bool.eq_iff_iff]
  simp only [List.contains_iff_mem, List.mem_append, List.mem_singleton, Bool.or_eq_true, decide_eq_true_eq]
  exact ⟨fun h => h.imp id Eq.symm, fun h => h.imp id Eq.symm⟩
theorem bad_snoc (hb : badI data pre = false) (h0 : 0 ≤ c) (h1 : c < (data : Int) + 2) : badI data (pre ++ [c]) = false := by
  unfold badI at *
  rw [List.any_append, hb]
  simp; omega
theorem Found.isP (h : Found data pre xs p q) (hc : c = (data : Int)) : Found data (pre ++ [c]) xs true q := by
  refine ⟨h.once, fun x => ?_, ?_, ?_, bad_snoc h.good (by omega) (by omega), by have := h.len; simp; omega⟩
  · rw [h.mem, List.mem_append, List.mem_singleton]
    constructor
    · rintro ⟨h1, h2, h3⟩; exact ⟨h1, h2, .inl h3⟩
    · rintro ⟨h1, h2, h3 | h3⟩
      · exact ⟨h1, h2, h3⟩
      · omega
  · rw [hasI_snoc, decide_eq_true hc, Bool.or_true]
  · rw [hasI_snoc, decide_eq_false (by omega), Bool.or_false]; exact h.q
theorem Found.isQ (h : Found data pre xs p q) (hc : c = (data : Int) + 1) : Found data (pre ++ [c]) xs p true := by
  refine ⟨h.once, fun x => ?_, ?_, ?_, bad_snoc h.good (by omega) (by omega), by have := h.len; simp; omega⟩
  · rw [h.mem, List.mem_append, List.mem_singleton]
    constructor
    · rintro ⟨h1, h2, h3⟩; exact ⟨h1, h2, .inl h3⟩
    · rintro ⟨h1, h2, h3 | h3⟩
      · exact ⟨h1, h2, h3⟩
      · omega
  · rw [hasI_snoc, decide_eq_false (by omega), Bool.or_false]; exact h.p
  · rw [hasI_snoc, decide_eq_true (by omega), Bool.or_true]
theorem Found.old (h : Found data pre xs p q) (hm : xs.contains c = true) : Found data (pre ++ [c]) xs p q := by
  have hm' : c ∈ xs := by simpa using hm
  obtain ⟨h1, h2, h3⟩ := (h.mem c).1 hm'
  refine ⟨h.once, fun x => ?_, ?_, ?_, bad_snoc h.good (by omega) (by omega), by have := h.len; simp; omega⟩
  · rw [h.mem, List.mem_append, List.mem_singleton]
    constructor
    · rintro ⟨h1, h2, h3⟩; exact ⟨h1, h2, .inl h3⟩
    · rintro ⟨h1, h2, h4 | h4⟩
      · exact ⟨h1, h2, h4⟩
      · rw [h4]; exact ⟨by omega, by omega, h3⟩
  · rw [hasI_snoc, decide_eq_false (by omega), Bool.or_false]; exact h.p
  · rw [hasI_snoc, decide_eq_false (by omega), Bool.or_false]; exact h.q
theorem Found.new (h : Found data pre xs p q) (hm : xs.contains c = false) (h0 : 0 ≤ c) (h1 : c < data) : Found data (pre ++ [c]) (xs ++ [c]) p q := by
  have hm' : ¬ c ∈ xs := by simpa using hm
  refine ⟨?_, fun x => ?_, ?_, ?_, bad_snoc h.good (by omega) (by omega), by have := h.len; simp; omega⟩
  · rw [List.nodup_append]
    refine ⟨h.once, by simp, fun a ha b hb => ?_⟩
    rw [List.mem_singleton] at hb
    subst hb
    exact fun e => hm' (e ▸ ha)
  · rw [List.mem_append, h.mem, List.mem_append, List.mem_singleton]
    constructor
    · rintro (⟨h1, h2, h3⟩ | h3)
      · exact ⟨h1, h2, .inl h3⟩
      · subst h3; exact ⟨h0, h1, .inr rfl⟩
    · rintro ⟨h1, h2, h3 | h3⟩
      · exact .inl ⟨h1, h2, h3⟩
      · exact .inr h3
  · rw [hasI_snoc, decide_eq_false (by omega), Bool.or_false]; exact h.p
  · rw [hasI_snoc, decide_eq_false (by omega), Bool.or_false]; exact h.q
theorem Found.sorted (h : Found data pre xs p q) : riseI xs = dsI data pre :=
  rise_eq (riseI_lt h.once) (dsI_lt data pre) fun x => by rw [(riseI_perm xs).mem_iff, h.mem, dsI_mem]
theorem Found.count (h : Found data pre xs p q) : cntI data pre = xs.length + (if p then 1 else 0) + (if q then 1 else 0) := by
  unfold cntI
  rw [← dsI_len, ← h.sorted, (riseI_perm xs).length_eq, h.p, h.q]
/-- A row of numbers put in order where it lies. -/
theorem own_sorted {w : World} {B g n cap : Nat} {e : TypeId} {zs : List Int} (h : w.ownsRow B e 1 (.slice (some ⟨g, 0, none⟩) n cap) n (iV xs)) (hl : zs.length = xs.length) (q : Nat) (os : Array Obj) :
    (grow (putRow (Value.int .i64) (Sort.ahead w q) g 0 zs.toArray) os).ownsRow B e 1 (.slice (some ⟨g, 0, none⟩) n cap) n (iV zs) ∧ w.grownBy (grow (putRow (Value.int .i64) (Sort.ahead w q) g 0 zs.toArray) os) (some g) := by
  have hn : n = xs.length := by have := h.1; rw [iV_len] at this; omega
  subst hn
  have hlt := h.lt
  obtain ⟨_, h⟩ := h
  rcases h with ⟨h1, _⟩ | ⟨g', cap', cur, hv, hB, hh, h1, h2, hs, ht⟩
  · cases h1
  obtain ⟨rfl, rfl⟩ : g = g' ∧ cap = cap' := by simpa using hv
  have hg : g < w.heap.size := (hlt g rfl).2
  rw [Nat.mul_one] at hs ht
  have hb : (grow (putRow (Value.int .i64) (Sort.ahead w q) g 0 zs.toArray) os).heap[g]? = some (.cells (putCells (Value.int .i64) 0 zs.toArray cur) e (0, 0)) := by
    unfold grow putRow mapBlock Sort.ahead
    rw [Array.getElem?_append_left (by simpa using hg)]
    simp [Array.getElem?_modify, hh, onCells]
  refine ⟨⟨by rw [iV_len, Nat.mul_one, hl], .inr ⟨g, cap, _, rfl, hB, hb, by omega, h2, by simp [putCells, hs], ?_⟩⟩, ⟨rfl, rfl, rfl, by simp [grow, putRow, mapBlock, Sort.ahead], fun k hk hn => ?_⟩⟩
  · rw [Nat.mul_one]
    apply List.ext_getElem?
    intro j
    rw [List.getElem?_take]
    by_cases hj : j < xs.length
    · rw [if_pos hj]
      have hjc : j < cur.size := by omega
      have hx : zs[j]? = some (zs[j]'(by omega)) := List.getElem?_eq_getElem (by omega)
      rw [iV_get hx]
      simp [putCells, hjc, show j < zs.length by omega]
    · rw [if_neg hj, List.getElem?_eq_none (by rw [iV_len]; omega)]
  · unfold grow putRow mapBlock Sort.ahead
    rw [Array.getElem?_append_left (by simpa using hk)]
    simp [Array.getElem?_modify, show g ≠ k from fun e => hn (by rw [e])]
end Go.Proofs.YtjoipibldahbhaaGreatDoor
/- Which columns are lost: slices.Contains, slices.Sort, count, kind: contracts. -/
namespace Go.Proofs.YtjoipibldahbhaaGreatDoor
open Go Go.RowKit Go.Shelf Go.Sort
set_option maxRecDepth 100000
shelf_lay_g SlLaysN.n31 Slgn 31 at Tryz 35 as conL
shelf_lay_g SlLaysM.n5 Slgm 5 at Tryz 36 as sortL
variable {w w' : World} {B : Nat} {v : Value}
abbrev tI : TypeId := 3
abbrev tLs : TypeId := 54
theorem con_rd {xs : List Int} (x : Int) (h : w.rd v (iV xs)) (hl : xs.length ≤ 1000000) : Calls Tryz.prog 35 #[v, .int .i64 x] w fun e w' => e = .returned (.bool (xs.contains x)) ∧ w = w' := by
  rcases h.cases with ⟨h0, a, c, rfl⟩ | ⟨_, b, o, c, rfl, hc⟩
  · have : xs = [] := by simpa [iV] using h0
    subst this
    exact (AnyG.slices_Contains_int_empty conL a c x w).mono fun e w' ⟨h1, h2⟩ => ⟨h1, h2.symm⟩
  · rw [iV_len]
    have := AnyG.slices_Contains_int conL b o xs.length c xs x w (Nat.le_refl _) (by omega) (fun j hj => hc j _ (iV_get (by simp [List.getD, hj])))
    rw [List.take_of_length_le (Nat.le_refl _)] at this
    exact this.mono fun e w' ⟨h1, h2⟩ => ⟨h1, h2.symm⟩
theorem sort_own {n : Nat} {xs : List Int} (h : w.ownsRow B tI 1 v n (iV xs)) (hl : xs.length ≤ 1000000) :
    Calls Tryz.prog 36 #[v] w fun e w' => e = .returned (.tuple #[]) ∧ w'.ownsRow B tI 1 v n (iV (riseI xs)) ∧ w.grownBy w' v.ownBlock := by
  have hn : n = xs.length := by have := h.1; rw [iV_len] at this; omega
  subst hn
  rcases own_form h with ⟨rfl, h0⟩ | ⟨g, cap, rfl, hB, hg, h1, h2, hc, hz⟩
  · have : xs = [] := List.length_eq_zero_iff.1 h0
    subst this
    refine (AnyM.slices_Sort_int_none sortL none 0 w).mono ?_
    rintro e w' ⟨rfl, rfl⟩
    refine ⟨rfl, ?_, World.grownBy.refl _ _⟩
    rw [show riseI [] = [] by unfold riseI; simp]
    exact h
  · have hH : Holds (Value.int .i64) w g 0 xs.toArray := fun j hj => by
      have hj' : j < xs.length := by simpa using hj
      refine ⟨?_, hz (0 + j)⟩
      rw [Nat.zero_add, hc j _ (iV_get (List.getElem?_eq_getElem hj'))]
      congr 2
      rw [getElem!_def]
      simp [hj']
    refine (AnyM.slices_Sort_int sortL g 0 cap xs w hH hg (by omega)).mono ?_
    rintro e w' ⟨rfl, q, os, rfl⟩
    exact ⟨rfl, own_sorted h (riseI_perm xs).length_eq q os⟩
/-! A loss. -/
abbrev lossV (v : Value) (p q : Bool) : Value := .agg #[v, .bool p, .bool q]
def kindF (n : Nat) (p q : Bool) : Int := if n = 2 then 7 else if (p && q) = true then 6 else if n = 1 ∧ p = true then 4 else if n = 1 ∧ q = true then 5 else if n = 1 then 1 else if p = true then 2 else if q = true then 3 else 0
theorem kind_any (a : Option Addr) (n c : Nat) (p q : Bool) (hn : n ≤ 2) (w : World) :
    Calls Tryz.prog 22 #[lossV (.slice a n c) p q] w fun e w' => e = .returned (.int .i64 (kindF n p q)) ∧ Below w.heap.size w w' := by
  have hn' : n = 0 ∨ n = 1 ∨ n = 2 := by omega
  rcases hn' with rfl | rfl | rfl <;> cases p <;> cases q
  all_goals
    go_enter Tryz.func22, Tryz.ntmps22
    go_wp2_with fail
    go_returns
    exact ⟨rfl, (by repeat' (first | (with_reducible exact Below.refl _ _) | (with_reducible assumption) | (with_reducible refine Below.setCell ?_ ?_ _) | (with_reducible refine Below.ext ?_ _ ?_) | (with_reducible refine Below.alloc ?_ ?_ _) | (with_reducible refine Below.drew ?_) | (with_reducible refine Below.drewN ?_ _) | (with_reducible exact Nat.le_refl _) | (dsimp only; omega) | (simp <;> omega)))⟩
theorem index_two (p q : Bool) (w : World) : (Instr.index 134 (.agg #[.bool p, .bool q]) (.int .i64 0)).run Tryz.prog w = .ok (.bool p) w ∧ (Instr.index 134 (.agg #[.bool p, .bool q]) (.int .i64 1)).run Tryz.prog w = .ok (.bool q) w := ⟨by kernel_rfl, by kernel_rfl⟩
theorem count_any (a : Option Addr) (n c : Nat) (p q : Bool) (hn : n ≤ 1000) (w : World) :
    Calls Tryz.prog 37 #[lossV (.slice a n c) p q] w fun e w' => e = .returned (.int .i64 ((n : Int) + (if p then 1 else 0) + (if q then 1 else 0))) ∧ Below w.heap.size w w' := by
  have hi0 := fun w => (index_two p q w).1
  have hi1 := fun w => (index_two p q w).2
  cases p <;> cases q
  all_goals
    go_enter Tryz.func37, Tryz.ntmps37
    go_wp2_with fail
    refine wp_loop_rounds 3 ?_
    rw [rounds_succ]
    go_wp2_with fail
    rw [rounds_succ]
    go_wp2_with fail
    rw [rounds_succ]
    go_wp2_with fail
    go_returns
    exact ⟨by simp <;> omega, (by repeat' (first | (with_reducible exact Below.refl _ _) | (with_reducible assumption) | (with_reducible refine Below.setCell ?_ ?_ _) | (with_reducible refine Below.ext ?_ _ ?_) | (with_reducible refine Below.alloc ?_ ?_ _) | (with_reducible refine Below.drew ?_) | (with_reducible refine Below.drewN ?_ _) | (with_reducible exact Nat.le_refl _) | (dsimp only; omega) | (simp <;> omega)))⟩
end Go.Proofs.YtjoipibldahbhaaGreatDoor
/- The loss of numbers: contract of 'of'. -/
namespace Go.Proofs.YtjoipibldahbhaaGreatDoor
open Go Go.RowKit
set_option maxRecDepth 100000
variable {w w' : World} {B : Nat} {v : Value}
def lcs (v : Value) (p q : Bool) : List Value := [v, .bool p, .bool q]
abbrev lcs0 : List Value := lcs (.slice none 0 0) false false
theorem rtLs (v : Value) (p q : Bool) : RowTy Tryz.prog tLs (lcs v p q).length := ⟨_, Tryz.underlying54, rfl, by show _ = some 3; kernel_rfl⟩
theorem of_range (d : Int) (w : World) (h : d < 2 ∨ 30 < d) :
    Calls Tryz.prog 21 #[.int .i64 d, v] w fun e w' => e = .returned (.tuple #[lossV (.slice none 0 0) false false, .int .i64 3]) ∧ Below w.heap.size w w' := by
  by_cases h1 : d < 2
  · go_enter Tryz.func21, Tryz.ntmps21
    go_wp2_with fail
    exact bodyPost_ct rfl rfl (World.row.new' (cs := lcs0) rfl) (rtLs _ _ _) rfl ⟨rfl, (by repeat' (first | (with_reducible exact Below.refl _ _) | (with_reducible assumption) | (with_reducible refine Below.setCell ?_ ?_ _) | (with_reducible refine Below.ext ?_ _ ?_) | (with_reducible refine Below.alloc ?_ ?_ _) | (with_reducible refine Below.drew ?_) | (with_reducible refine Below.drewN ?_ _) | (with_reducible exact Nat.le_refl _) | (dsimp only; omega) | (simp <;> omega)))⟩
  · have h30 : 30 < d := by omega
    clear h
    go_enter Tryz.func21, Tryz.ntmps21
    go_wp2_with fail
    exact bodyPost_ct rfl rfl (World.row.new' (cs := lcs0) rfl) (rtLs _ _ _) rfl ⟨rfl, (by repeat' (first | (with_reducible exact Below.refl _ _) | (with_reducible assumption) | (with_reducible refine Below.setCell ?_ ?_ _) | (with_reducible refine Below.ext ?_ _ ?_) | (with_reducible refine Below.alloc ?_ ?_ _) | (with_reducible refine Below.drew ?_) | (with_reducible refine Below.drewN ?_ _) | (with_reducible exact Nat.le_refl _) | (dsimp only; omega) | (simp <;> omega)))⟩
theorem info_int : ∃ i0, Tryz.prog.info? tI = some i0 ∧ i0.zero = some (.int .i64 0) ∧ i0.size = 1 ∧ i0.bytes = 8 := ⟨_, rfl, rfl, rfl, rfl⟩
theorem own_set {B n : Nat} {e : TypeId} {xs : List Value} {a : Addr} (h : w.ownsRow B e 1 v n xs) (ha : a.block < B) (x : Value) : (w.setCell a x).ownsRow B e 1 v n xs :=
  own_same h fun k hk => Below.heap_setCell _ _ _ _ fun e => by have := (World.ownsRow.lt h k hk).1; omega
theorem own_mono {B B' n : Nat} {e : TypeId} {xs : List Value} (h : w.ownsRow B' e 1 v n xs) (hB : B ≤ B') : w.ownsRow B e 1 v n xs := by
  obtain ⟨hl, h⟩ := h
  refine ⟨hl, ?_⟩
  rcases h with h | ⟨g, cap, cur, hv, hb, r⟩
  · exact .inl h
  · exact .inr ⟨g, cap, cur, hv, by omega, r⟩
theorem one_cell (w : World) (v : Value) (t : TypeId) : ∀ (j : Nat) (u : Value), [v][j]? = some u → (w.alloc (.cells #[v] t)).cell? ((⟨w.heap.size, 0, none⟩ : Addr).add j) = some u := by
  intro j u h
  cases j with
  | zero => simp at h; subst h; simp [Addr.add]
  | succ j => simp at h
theorem iV_snoc {B : Nat} {e : TypeId} {xs : List Int} {x : Int} (h : w.ownsRow B e 1 v (xs.length + 1) (iV xs ++ [.int .i64 x])) : w.ownsRow B e 1 v (xs ++ [x]).length (iV (xs ++ [x])) := by
  rw [List.length_append]
  unfold iV at *
  rw [List.map_append]
  exact h
/-- What 'of' leaves. -/
def OfR (w : World) (data : Nat) (lost : List Int) (e : Ending) (w' : World) : Prop :=
  ∃ (a : Option Addr) (n c : Nat) (p q : Bool), e = .returned (.tuple #[lossV (.slice a n c) p q, .int .i64 (lossE data lost)]) ∧ Below w.heap.size w w' ∧ (lossE data lost = 0 → n = (dsI data lost).length ∧ p = hasI lost data ∧ q = hasI lost (data + 1) ∧ w'.ownsRow w.heap.size tI 1 (.slice a n c) n (iV (dsI data lost)))
set_option maxHeartbeats 4000000 in
theorem of_ok {data : Nat} {lost : List Int} (w : World) (h2 : 2 ≤ data) (h30 : data ≤ 30) (h : w.rd v (iV lost)) (hl : lost.length ≤ 1000) :
    Calls Tryz.prog 21 #[.int .i64 (data : Int), v] w (OfR w data lost) := by
  have hrd := h
  obtain ⟨a, cp, rfl, hcs⟩ := h
  rw [iV_len]
  rw [iV_len] at hrd
  obtain ⟨m, hm⟩ : ∃ m, m = lost.length := ⟨_, rfl⟩
  obtain ⟨i0, hi0, hz0, hz1, hz2⟩ := info_int
  have HI : Hid (Tryz.prog.info? tI = some i0 ∧ i0.zero = some (.int .i64 0) ∧ i0.size = 1 ∧ i0.bytes = 8) := ⟨hi0, hz0, hz1, hz2⟩
  rw [← hm] at hl hrd ⊢
  have HR := Lib.hid (And.intro hcs (And.intro hm hrd))
  clear hcs hm hrd hi0 hz0 hz1 hz2
  go_enter Tryz.func21, Tryz.ntmps21
  go_wp2_with fail
  obtain ⟨g4, hg4⟩ : ∃ g, g = w.heap.size := ⟨_, rfl⟩
  obtain ⟨g6, hg6⟩ : ∃ g, g = w.heap.size + 1 := ⟨_, rfl⟩
  refine wp_world (fun w1 => w1.row g4 lcs0 tLs ∧ w1.row g6 lcs0 tLs ∧ Below w.heap.size w w1 ∧ g6 < w1.heap.size) ⟨by rw [hg4]; exact (World.row.new' (cs := lcs0) rfl).alloc _, World.row.new' (cs := lcs0) (by rw [hg6]; simp), (by repeat' (first | (with_reducible exact Below.refl _ _) | (with_reducible assumption) | (with_reducible refine Below.setCell ?_ ?_ _) | (with_reducible refine Below.ext ?_ _ ?_) | (with_reducible refine Below.alloc ?_ ?_ _) | (with_reducible refine Below.drew ?_) | (with_reducible refine Below.drewN ?_ _) | (with_reducible exact Nat.le_refl _) | (dsimp only; omega) | (simp <;> omega))), by rw [hg6]; simp⟩ ?_
  rintro w1 ⟨r4, r6, B1, s1⟩
  rw [← hg6, ← hg4]
  have h46 : g4 < g6 := by omega
  have h4w : w.heap.size ≤ g4 := by omega
  have h6s : g6 + 1 ≤ w1.heap.size := s1
  have H1 := Lib.hid (And.intro r4 (And.intro r6 B1))
  clear r4 r6 B1 hg4 hg6 s1
  go_loopw [18] (fun x wr => ∃ (j : Nat) (xs : List Int) (p q : Bool) (vd : Value), j ≤ m ∧ x = .int .i64 (j : Int) ∧ Found data (lost.take j) xs p q ∧ wr.row g4 lcs0 tLs ∧ wr.row g6 (lcs vd p q) tLs ∧ wr.ownsRow (g6 + 1) tI 1 vd xs.length (iV xs) ∧ Below w.heap.size w wr ∧ g6 + 1 ≤ wr.heap.size) (fun x _ => m - (intOf x).toNat)
  case atStart => exact ⟨0, [], false, false, .slice none 0 0, by omega, rfl, by rw [List.take_zero]; exact found_nil, H1.out.1, H1.out.2.1, World.ownsRow_nil _ _ _ _, H1.out.2.2, h6s⟩
  case round =>
    obtain ⟨j, xs, p, q, vd, hj, rfl, hF, r4, r6, ho, hB, hs⟩ := hrel
    have hxm : xs.length ≤ j := by have := hF.len; rw [List.length_take] at this; omega
    by_cases hlt : j < m
    · obtain ⟨c, hc⟩ : ∃ c, lost[j]? = some c := ⟨lost[j]'(by rw [← HR.out.2.1]; exact hlt), List.getElem?_eq_getElem (by rw [← HR.out.2.1]; exact hlt)⟩
      obtain ⟨b, o, rfl, hcell⟩ : ∃ b o, a = some ⟨b, o, none⟩ ∧ ∀ j u, (iV lost)[j]? = some u → w.cell? ⟨b, o + j, none⟩ = some u := by
        rcases HR.out.1 with h0 | h0
        · have : lost.length = 0 := by rw [← iV_len, h0]; rfl
          have := HR.out.2.1; omega
        · exact h0
      have hcj := hcell j _ (iV_get hc)
      have hbl := block_lt_of_cell hcj
      have d0 := (hB.cell (p := ⟨b, o + j, none⟩) hbl).trans hcj
      have hbw : b < wr.heap.size := Nat.lt_of_lt_of_le hbl hB.size
      have htk : lost.take (j + 1) = lost.take j ++ [c] := by rw [List.take_add_one, hc]; rfl
      have HF := Lib.hid (And.intro hF (And.intro r4 (And.intro r6 (And.intro ho (And.intro hB (And.intro htk hc))))))
      clear hF ho hB htk hcell hcj hc
      obtain ⟨e0, e1, e2, ez⟩ : wr.cell? ⟨g4, 0, none⟩ = some (.slice none 0 0) ∧ wr.cell? ⟨g4, 1, none⟩ = some (.bool false) ∧ wr.cell? ⟨g4, 2, none⟩ = some (.bool false) ∧ (∀ i, wr.frozen? ⟨g4, i, none⟩ = false) := ⟨r4.cell 0 rfl, r4.cell 1 rfl, r4.cell 2 rfl, r4.free⟩
      have h4l := r4.lt
      have h6l := r6.lt
      by_cases hneg : c < 0
      · have hE := lossE_bad (data := data) h2 h30 HF.out.2.2.2.2.2.2 (.inl hneg)
        have HE := Lib.hid hE
        clear hE r6 r4
        go_wp2_with fail
        exact bodyPost_ct (cs := lcs0) rfl rfl (((HF.out.2.1.set 0 _).set 1 _).set 2 _) (rtLs _ _ _) rfl ⟨_, _, _, _, _, by rw [HE.out]; rfl, ((HF.out.2.2.2.2.1.setCell h4w _).setCell h4w _).setCell h4w _, fun h => absurd (HE.out ▸ h) (by decide)⟩
      by_cases hbig : (data : Int) + 2 ≤ c
      · have hE := lossE_bad (data := data) h2 h30 HF.out.2.2.2.2.2.2 (.inr hbig)
        have HE := Lib.hid hE
        clear hE r6 r4
        go_wp2_with fail
        exact bodyPost_ct (cs := lcs0) rfl rfl (((HF.out.2.1.set 0 _).set 1 _).set 2 _) (rtLs _ _ _) rfl ⟨_, _, _, _, _, by rw [HE.out]; rfl, ((HF.out.2.2.2.2.1.setCell h4w _).setCell h4w _).setCell h4w _, fun h => absurd (HE.out ▸ h) (by decide)⟩
      clear e0 e1 e2 ez
      obtain ⟨ad, cd, hvd⟩ := own_shape1 HF.out.2.2.2.1
      obtain ⟨c0, c1, c2, cz⟩ : wr.cell? ⟨g6, 0, none⟩ = some vd ∧ wr.cell? ⟨g6, 1, none⟩ = some (.bool p) ∧ wr.cell? ⟨g6, 2, none⟩ = some (.bool q) ∧ (∀ i, wr.frozen? ⟨g6, i, none⟩ = false) := ⟨r6.cell 0 rfl, r6.cell 1 rfl, r6.cell 2 rfl, r6.free⟩
      clear r4 r6
      have h6w : w.heap.size ≤ g6 := by omega
      by_cases hcp : c = (data : Int)
      · have hF2 := HF.out.1.isP hcp
        rw [← HF.out.2.2.2.2.2.1] at hF2
        have H2 := Lib.hid hF2
        clear hF2
        subst hcp
        go_wp2_with fail
        go_roundw
        case rel => exact ⟨j + 1, xs, true, q, vd, by omega, by go_num, H2.out, HF.out.2.1.other _ _ (by dsimp only; omega), HF.out.2.2.1.set 1 _, own_set HF.out.2.2.2.1 (by dsimp only; omega) _, HF.out.2.2.2.2.1.setCell h6w _, by simpa using hs⟩
        case measure => simp [intOf] <;> omega
      by_cases hcq : c = (data : Int) + 1
      · have hF2 := HF.out.1.isQ hcq
        rw [← HF.out.2.2.2.2.2.1] at hF2
        have H2 := Lib.hid hF2
        clear hF2
        subst hcq
        go_wp2_with fail
        go_roundw
        case rel => exact ⟨j + 1, xs, p, true, vd, by omega, by go_num, H2.out, HF.out.2.1.other _ _ (by dsimp only; omega), HF.out.2.2.1.set 2 _, own_set HF.out.2.2.2.1 (by dsimp only; omega) _, HF.out.2.2.2.2.1.setCell h6w _, by simpa using hs⟩
        case measure => simp [intOf] <;> omega
      have hcon := con_rd c HF.out.2.2.2.1.rd (by omega)
      cases hct : xs.contains c with
      | true =>
        rw [hct] at hcon
        have hF2 := HF.out.1.old hct
        rw [← HF.out.2.2.2.2.2.1] at hF2
        have H2 := Lib.hid (And.intro hF2 hcon)
        clear hF2 hcon hct hvd
        go_wp2_with fail
        refine H2.out.2.mono ?_
        rintro e w2 ⟨rfl, rfl⟩
        go_wp2_with fail
        go_roundw
        case rel => exact ⟨j + 1, xs, p, q, vd, by omega, by go_num, H2.out.1, HF.out.2.1, HF.out.2.2.1, HF.out.2.2.2.1, HF.out.2.2.2.2.1, hs⟩
        case measure => simp [intOf] <;> omega
      | false =>
        rw [hct] at hcon
        have hF2 := HF.out.1.new hct (by omega) (by omega)
        rw [← HF.out.2.2.2.2.2.1] at hF2
        have H2 := Lib.hid (And.intro hF2 (And.intro hcon hvd))
        clear hF2 hcon hct hvd
        go_wp2_with fail
        refine H2.out.2.1.mono ?_
        rintro e w2 ⟨rfl, rfl⟩
        go_wp2_with (at_builtin; refine wpList_append_own _ rfl _ _ 22 rfl (g6 + 1) tI i0 (.int .i64 0) 1 8 Tryz.underlying22 HI.out.1 HI.out.2.1 HI.out.2.2.1 HI.out.2.2.2 rfl (by decide) _ _ _ rfl (HF.out.2.2.2.1.alloc _) ⟨wr.heap.size, 0, none⟩ 1 1 [.int .i64 c] rfl rfl ?c1 ?c2 ?c3 ?c4 ?c5 ?_)
        case c1 => exact one_cell _ _ _
        case c2 => simp [Value.oneCell']
        case c3 => unfold maxLen; omega
        case c4 => omega
        case c5 => simp; omega
        intro v' w3 ho3 hg3 _
        have s4 := (HF.out.2.1.alloc (.cells #[.int .i64 c] tI)).grown hg3 (fun e => by have := (HF.out.2.2.2.1.lt g4 e.symm).1; omega)
        have s6 := (HF.out.2.2.1.alloc (.cells #[.int .i64 c] tI)).grown hg3 (fun e => by have := (HF.out.2.2.2.1.lt g6 e.symm).1; omega)
        have B3 : Below w.heap.size w w3 := (HF.out.2.2.2.2.1.alloc HF.out.2.2.2.2.1.size _).grown hg3 (by simp; omega) (fun k hk => by have := (HF.out.2.2.2.1.lt k hk).1; omega)
        have hs3 : g6 + 1 ≤ w3.heap.size := by have := hg3.size; simp at this; omega
        have ho4 := iV_snoc ho3
        obtain ⟨a3, c3, rfl⟩ := own_shape1 ho3
        clear c0 c1 c2 cz h4l h6l d0 hbw
        obtain ⟨c0, c1, c2, cz⟩ : w3.cell? ⟨g6, 0, none⟩ = some vd ∧ w3.cell? ⟨g6, 1, none⟩ = some (.bool p) ∧ w3.cell? ⟨g6, 2, none⟩ = some (.bool q) ∧ (∀ i, w3.frozen? ⟨g6, i, none⟩ = false) := ⟨s6.cell 0 rfl, s6.cell 1 rfl, s6.cell 2 rfl, s6.free⟩
        have H3 := Lib.hid (And.intro s4 (And.intro s6 (And.intro B3 ho4)))
        clear s4 s6 B3 ho4 ho3 hg3
        go_wp2_with fail
        go_roundw
        case rel => exact ⟨j + 1, xs ++ [c], p, q, _, by omega, by go_num, H2.out.1, H3.out.1.other _ _ (by dsimp only; omega), H3.out.2.1.set 0 _, own_set H3.out.2.2.2 (by dsimp only; omega) _, H3.out.2.2.1.setCell h6w _, by simpa using hs3⟩
        case measure => simp [intOf] <;> omega
    · obtain rfl : j = m := by omega
      have hF' : Found data lost xs p q := by rw [List.take_of_length_le (by rw [HR.out.2.1]; exact Nat.le_refl _)] at hF; exact hF
      have hso := sort_own ho (by omega)
      obtain ⟨ad, cd, rfl⟩ := own_shape1 ho
      obtain ⟨c0, c1, c2, z0⟩ : wr.cell? ⟨g6, 0, none⟩ = some (.slice ad xs.length cd) ∧ wr.cell? ⟨g6, 1, none⟩ = some (.bool p) ∧ wr.cell? ⟨g6, 2, none⟩ = some (.bool q) ∧ (∀ i, wr.frozen? ⟨g6, i, none⟩ = false) := ⟨r6.cell 0 rfl, r6.cell 1 rfl, r6.cell 2 rfl, r6.free⟩
      have h6l := r6.lt
      have HF := Lib.hid (And.intro hF' (And.intro r4 (And.intro r6 (And.intro ho (And.intro hB hso)))))
      clear hF hF' r4 r6 ho hB hso
      go_wp2_with fail
      refine HF.out.2.2.2.2.2.mono ?_
      rintro e w2 ⟨rfl, ho2, hg2⟩
      obtain ⟨k0, k1, k2⟩ : HF.out.2.2.1 = HF.out.2.2.1 ∧ True ∧ True := ⟨rfl, trivial, trivial⟩
      have r4b := HF.out.2.1.grown hg2 (fun e => by have := (HF.out.2.2.2.1.lt g4 e.symm).1; omega)
      have r6b := HF.out.2.2.1.grown hg2 (fun e => by have := (HF.out.2.2.2.1.lt g6 e.symm).1; omega)
      have B2 : Below w.heap.size w w2 := HF.out.2.2.2.2.1.grown hg2 HF.out.2.2.2.2.1.size (fun k hk => by have := (HF.out.2.2.2.1.lt k hk).1; omega)
      have hcn := HF.out.1.count
      have hds := HF.out.1.sorted
      rw [hds] at ho2
      have hdl : (dsI data lost).length = xs.length := by rw [← hds]; exact (riseI_perm xs).length_eq
      have hgood := HF.out.1.good
      have hp := HF.out.1.p
      have hq := HF.out.1.q
      have hE := lossE_in lost h2 h30
      rw [hgood, if_neg (by simp)] at hE
      obtain ⟨q0, q1, q2, qz⟩ : w2.cell? ⟨g6, 0, none⟩ = some (.slice ad xs.length cd) ∧ w2.cell? ⟨g6, 1, none⟩ = some (.bool p) ∧ w2.cell? ⟨g6, 2, none⟩ = some (.bool q) ∧ (∀ i, w2.frozen? ⟨g6, i, none⟩ = false) := ⟨r6b.cell 0 rfl, r6b.cell 1 rfl, r6b.cell 2 rfl, r6b.free⟩
      have HS := Lib.hid (And.intro r4b (And.intro r6b (And.intro ho2 (And.intro B2 (And.intro hcn (And.intro hdl (And.intro hE (And.intro hp hq))))))))
      clear c0 c1 c2 z0 HF hds hcn hE hp hq r4b r6b ho2 B2 hgood hg2 hdl k0 k1 k2
      go_wp2_with fail
      refine (count_any ad xs.length cd p q (by omega) w2).mono ?_
      rintro e w3 ⟨rfl, b3⟩
      have s4 := HS.out.1.below b3 HS.out.1.lt
      have s6 := HS.out.2.1.below b3 HS.out.2.1.lt
      obtain ⟨k0, k1, k2, kz⟩ : w3.cell? ⟨g6, 0, none⟩ = some (.slice ad xs.length cd) ∧ w3.cell? ⟨g6, 1, none⟩ = some (.bool p) ∧ w3.cell? ⟨g6, 2, none⟩ = some (.bool q) ∧ (∀ i, w3.frozen? ⟨g6, i, none⟩ = false) := ⟨s6.cell 0 rfl, s6.cell 1 rfl, s6.cell 2 rfl, s6.free⟩
      obtain ⟨e0, e1, e2, ez⟩ : w3.cell? ⟨g4, 0, none⟩ = some (.slice none 0 0) ∧ w3.cell? ⟨g4, 1, none⟩ = some (.bool false) ∧ w3.cell? ⟨g4, 2, none⟩ = some (.bool false) ∧ (∀ i, w3.frozen? ⟨g4, i, none⟩ = false) := ⟨s4.cell 0 rfl, s4.cell 1 rfl, s4.cell 2 rfl, s4.free⟩
      have h4l := s4.lt
      have h6l3 := s6.lt
      have H3 := Lib.hid (And.intro s4 (And.intro (HS.out.2.2.2.1.trans (b3.mono HS.out.2.2.2.1.size)) (ownsRow_below HS.out.2.2.1 b3)))
      clear s4 s6 b3 q0 q1 q2 qz
      obtain ⟨n, hn⟩ : ∃ n : Int, n = (xs.length : Int) + (if p = true then 1 else 0) + (if q = true then 1 else 0) := ⟨_, rfl⟩
      have hn2 : n = (cntI data lost : Int) := by rw [hn, HS.out.2.2.2.2.1]; cases p <;> cases q <;> simp
      rw [← hn]
      have HN := Lib.hid hn2
      clear hn hn2
      by_cases hbig : 2 < n
      · have hE : lossE data lost = 20 := by rw [HS.out.2.2.2.2.2.2.1, if_pos (by rw [HN.out] at hbig; omega)]
        have HE := Lib.hid hE
        clear hE
        go_wp2_with fail
        exact bodyPost_ct (cs := lcs0) rfl rfl (((H3.out.1.set 0 _).set 1 _).set 2 _) (rtLs _ _ _) rfl ⟨_, _, _, _, _, by rw [HE.out]; rfl, ((H3.out.2.1.setCell h4w _).setCell h4w _).setCell h4w _, fun h => absurd (HE.out ▸ h) (by decide)⟩
      · have hE : lossE data lost = 0 := by rw [HS.out.2.2.2.2.2.2.1, if_neg (by rw [HN.out] at hbig; omega)]
        have HE := Lib.hid hE
        clear hE
        go_wp2_with fail
        refine bodyPost_ct (cs := lcs (.slice ad xs.length cd) p q) rfl rfl (((H3.out.1.set 0 _).set 1 _).set 2 _) (rtLs _ _ _) rfl ⟨_, _, _, _, _, by rw [HE.out]; rfl, ((H3.out.2.1.setCell h4w _).setCell h4w _).setCell h4w _, fun h => ⟨HS.out.2.2.2.2.2.1.symm, HS.out.2.2.2.2.2.2.2.1, HS.out.2.2.2.2.2.2.2.2, ?_⟩⟩
        exact own_mono (own_set (own_set (own_set H3.out.2.2 (by dsimp only; omega) _) (by dsimp only; omega) _) (by dsimp only; omega) _) (by omega)
end Go.Proofs.YtjoipibldahbhaaGreatDoor
/- Sort: contract. -/
namespace Go.Proofs.YtjoipibldahbhaaGreatDoor
open Go Go.RowKit
set_option maxRecDepth 100000
variable {w w' : World} {B : Nat} {v : Value}
def kindL (data : Nat) (lost : List Int) : Int := kindF (dsI data lost).length (hasI lost data) (hasI lost (data + 1))
theorem cnt_le {data : Nat} {lost : List Int} (h : lossE data lost = 0) (h2 : 2 ≤ data) (h30 : data ≤ 30) : (dsI data lost).length ≤ 2 ∧ cntI data lost ≤ 2 ∧ badI data lost = false := by
  rw [lossE_in lost h2 h30] at h
  by_cases hb : badI data lost = true
  · rw [if_pos hb] at h; omega
  · rw [if_neg hb] at h
    by_cases hc : 2 < cntI data lost
    · rw [if_pos hc] at h; omega
    · refine ⟨?_, by omega, by simpa using hb⟩
      unfold cntI at hc
      rw [dsI_len]; omega
theorem lossE_cases (d : Int) (lost : List Int) : lossE d lost = 0 ∨ lossE d lost = 3 ∨ lossE d lost = 20 := by
  unfold lossE
  split
  · exact .inr (.inl rfl)
  · split
    · exact .inr (.inl rfl)
    · split
      · exact .inr (.inr rfl)
      · exact .inl rfl
/-- 'of', whatever number of columns there is. -/
theorem of_any (d : Int) (lost : List Int) (w : World) (h : w.rd v (iV lost)) (hl : lost.length ≤ 1000) :
    Calls Tryz.prog 21 #[.int .i64 d, v] w fun e w' => ∃ (a : Option Addr) (n c : Nat) (p q : Bool), e = .returned (.tuple #[lossV (.slice a n c) p q, .int .i64 (lossE d lost)]) ∧ Below w.heap.size w w' ∧
      (lossE d lost = 0 → n = (dsI d.toNat lost).length ∧ p = hasI lost d.toNat ∧ q = hasI lost (d.toNat + 1) ∧ w'.ownsRow w.heap.size tI 1 (.slice a n c) n (iV (dsI d.toNat lost)) ∧ 2 ≤ d ∧ d ≤ 30 ∧ n ≤ 2) := by
  by_cases hd : d < 2 ∨ 30 < d
  · rw [lossE_range lost hd]
    refine (of_range d w hd).mono ?_
    rintro e w' ⟨rfl, b⟩
    exact ⟨none, 0, 0, false, false, rfl, b, fun h => absurd h (by decide)⟩
  · obtain ⟨data, rfl⟩ : ∃ data : Nat, d = (data : Int) := ⟨d.toNat, by omega⟩
    refine (of_ok w (by omega) (by omega) h hl).mono ?_
    rintro e w' ⟨a, n, c, p, q, rfl, b, hk⟩
    refine ⟨a, n, c, p, q, rfl, b, fun h => ?_⟩
    obtain ⟨h1, h2, h3, h4⟩ := hk h
    rw [Int.toNat_natCast]
    exact ⟨h1, h2, h3, h4, by omega, by omega, by have := (cnt_le h (by omega) (by omega)).1; omega⟩
set_option maxHeartbeats 1000000 in
theorem Sort_any (d : Int) (lost : List Int) (w : World) (h : w.rd v (iV lost)) (hl : lost.length ≤ 1000) :
    Calls Tryz.prog 9 #[.int .i64 d, v] w fun e w' => e = .returned (.tuple #[.int .i64 (if lossE d lost = 0 then kindL d.toNat lost else 0), .int .i64 (lossE d lost)]) ∧ Below w.heap.size w w' := by
  have hO := of_any d lost w h hl
  obtain ⟨E, hE⟩ : ∃ E, E = lossE d lost := ⟨_, rfl⟩
  rw [← hE] at hO ⊢
  have HO := Lib.hid (And.intro hO hE)
  clear hO hE h
  go_enter Tryz.func9, Tryz.ntmps9
  go_wp2_with fail
  refine HO.out.1.mono ?_
  rintro e w1 ⟨a, n, c, p, q, rfl, b1, hk⟩
  by_cases h0 : E = 0
  · subst h0
    obtain ⟨h1, h2, h3, _, _, _, h5⟩ := hk rfl
    have hK := fun w => kind_any a n c p q h5 w
    have HK := Lib.hid (And.intro b1 (And.intro (show kindF n p q = kindL d.toNat lost by rw [h1, h2, h3]; rfl) hK))
    clear b1 hk h1 h2 h3 h5 hK
    go_wp2_with fail
    refine (HK.out.2.2 _).mono ?_
    rintro e w2 ⟨rfl, b2⟩
    have H2 := Lib.hid b2
    clear b2
    go_wp2_with fail
    go_ret2
    exact ⟨by rw [← HK.out.2.1]; rfl, (HK.out.1.alloc HK.out.1.size _).trans (H2.out.mono (by have := HK.out.1.size; simp; omega))⟩
  · have HK := Lib.hid b1
    clear b1 hk
    go_wp2_with fail
    go_ret2
    exact ⟨rfl, HK.out.alloc HK.out.size _⟩
end Go.Proofs.YtjoipibldahbhaaGreatDoor
/- The kinds' names: contracts. -/
namespace Go.Proofs.YtjoipibldahbhaaGreatDoor
open Go Go.RowKit
set_option maxRecDepth 100000
def nmS : List (List UInt8) := [[119, 104, 111, 108, 101], [100, 97, 116, 97], [112], [113], [100, 97, 116, 97, 43, 112], [100, 97, 116, 97, 43, 113], [112, 43, 113], [100, 97, 116, 97, 43, 100, 97, 116, 97]]
/-- The variable names holds the names. -/
def Nam (w : World) : Prop := ∀ j s, nmS[j]? = some s → w.cell? ⟨0, j, none⟩ = some (Go.strV s)
theorem Nam.lt {w : World} (h : Nam w) : 0 < w.heap.size := block_lt_of_cell (h 0 _ rfl)
theorem Nam.below {w w' : World} {B : Nat} (h : Nam w) (hb : Below B w w') (hB : 0 < B) : Nam w' := fun j s hj => by
  rw [hb.cell (p := ⟨0, j, none⟩) hB]; exact h j s hj
def nmOf (k : Int) : List UInt8 := if 0 ≤ k ∧ k < 8 then nmS.getD k.toNat [] else []
theorem nmS_at (j : Nat) (h : j < 8) : nmS[j]? = some (nmS.getD j []) := by
  have e : j < nmS.length := h
  simp [List.getD, e]
theorem Name_any (k : Int) (w : World) (hN : Nam w) : Calls Tryz.prog 12 #[.int .i64 k] w fun e w' => e = .returned (Go.strV (nmOf k)) ∧ w = w' := by
  go_enter Tryz.func12, Tryz.ntmps12
  by_cases hk : 0 ≤ k ∧ k < 8
  · have h0 := hk.1
    have h1 := hk.2
    have e1 : (k < 0) = False := eq_false (by omega)
    have e2 : (8 ≤ k) = False := eq_false (by omega)
    have hc := hN k.toNat _ (nmS_at k.toNat (by omega))
    have hx : nmOf k = nmS.getD k.toNat [] := by unfold nmOf; rw [if_pos hk]
    go_wp2_with fail
    all_goals (try (exfalso; omega))
    go_returns
    exact ⟨by first | rfl | (rw [hx]; rfl), rfl⟩
  · have hx : nmOf k = [] := by unfold nmOf; rw [if_neg hk]
    by_cases h0 : k < 0
    · go_wp2_with fail
      go_returns
      exact ⟨by first | rfl | (rw [hx]; rfl), rfl⟩
    · have e2 : (8 ≤ k) = True := eq_true (by omega)
      go_wp2_with fail
      all_goals (try (exfalso; omega))
      go_returns
      exact ⟨by first | rfl | (rw [hx]; rfl), rfl⟩
theorem refName_any (k : Int) (w : World) : Calls Tryz.prog 13 #[.int .i64 k] w fun e w' => e = .returned (Go.strV (nmOf k)) ∧ Below w.heap.size w w' := by
  go_enter Tryz.func13, Tryz.ntmps13
  by_cases hk : 0 ≤ k ∧ k < 8
  · have h0 := hk.1
    have h1 := hk.2
    have e1 : (k < 0) = False := eq_false (by omega)
    have e2 : (8 ≤ k) = False := eq_false (by omega)
    have hx : nmOf k = nmS.getD k.toNat [] := by unfold nmOf; rw [if_pos hk]
    go_upto_region 2 with fail
    refine wp_world (fun wc => Below w.heap.size w wc ∧ wc.row w.heap.size (nmS.map Go.strV) 9) ⟨(by repeat' (first | (with_reducible exact Below.refl _ _) | (with_reducible assumption) | (with_reducible refine Below.setCell ?_ ?_ _) | (with_reducible refine Below.ext ?_ _ ?_) | (with_reducible refine Below.alloc ?_ ?_ _) | (with_reducible refine Below.drew ?_) | (with_reducible refine Below.drewN ?_ _) | (with_reducible exact Nat.le_refl _) | (dsimp only; omega) | (simp <;> omega))), World.row.new w (nmS.map Go.strV) 9⟩ ?_
    intro wc ⟨hB, hr⟩
    have hc := hr.cell k.toNat (show (nmS.map Go.strV)[k.toNat]? = some (Go.strV (nmS.getD k.toNat [])) by rw [List.getElem?_map, nmS_at _ (by omega)]; rfl)
    go_wp2_with fail
    all_goals (try (exfalso; omega))
    go_returns
    exact ⟨by first | rfl | (rw [hx]; rfl), hB⟩
  · have hx : nmOf k = [] := by unfold nmOf; rw [if_neg hk]
    by_cases h0 : k < 0
    · go_wp2_with fail
      go_returns
      exact ⟨by first | rfl | (rw [hx]; rfl), (by repeat' (first | (with_reducible exact Below.refl _ _) | (with_reducible assumption) | (with_reducible refine Below.setCell ?_ ?_ _) | (with_reducible refine Below.ext ?_ _ ?_) | (with_reducible refine Below.alloc ?_ ?_ _) | (with_reducible refine Below.drew ?_) | (with_reducible refine Below.drewN ?_ _) | (with_reducible exact Nat.le_refl _) | (dsimp only; omega) | (simp <;> omega)))⟩
    · have e2 : (8 ≤ k) = True := eq_true (by omega)
      go_wp2_with fail
      all_goals (try (exfalso; omega))
      go_returns
      exact ⟨by first | rfl | (rw [hx]; rfl), (by repeat' (first | (with_reducible exact Below.refl _ _) | (with_reducible assumption) | (with_reducible refine Below.setCell ?_ ?_ _) | (with_reducible refine Below.ext ?_ _ ?_) | (with_reducible refine Below.alloc ?_ ?_ _) | (with_reducible refine Below.drew ?_) | (with_reducible refine Below.drewN ?_ _) | (with_reducible exact Nat.le_refl _) | (dsimp only; omega) | (simp <;> omega)))⟩
end Go.Proofs.YtjoipibldahbhaaGreatDoor
/- Rows of laws that list one variable of strings: from the walk to the row. -/
namespace Go.Proofs.YtjoipibldahbhaaGreatDoor
open Go Go.ChangeShapes Go.WideShapes Go.ChangeAt Go.RowKit
set_option maxRecDepth 100000
theorem own : ownKnob Tryz.prog.godebug = none := by kernel_rfl
theorem laidOut : laidOutB Tryz.prog = true := by kernel_rfl
abbrev laidL : List (String × DataW Unit) := [("trunnion/repair.names", Rows.laid_trunnion_repair_names)]
theorem Nam.of {W : World} (h : laidMet Tryz.prog laidL W) : Nam W :=
  strs_of_head (ss := nmS) (P := Tryz.prog) (name := "trunnion/repair.names") (rest := []) (g := 0) (t := 61) (e := 9) (n := 8) (by kernel_rfl) (by kernel_rfl) Tryz.underlying61 Tryz.underlying9 (by kernel_rfl) (by kernel_rfl) h
/-- A world in which the variable holds what the program's text lays. -/
noncomputable def laidWorld (os : Os) : World :=
  { World.holding Tryz.prog os ⟨#[], #[], []⟩ with heap := (World.holding Tryz.prog os ⟨#[], #[], []⟩).heap.modify 0 fun
      | .cells _ t frozen => .cells (nmS.map Go.strV).toArray t frozen
      | o => o }
theorem laidWorld_met (os : Os) (args : Array Value) : laidMet Tryz.prog laidL ((laidWorld os).forCall (fun _ _ => 0) ⟨#[], args, []⟩).memory :=
  laidMet_of_run' 8 (by kernel_rfl) (by kernel_rfl)
theorem law_row {spec : ChangeSpec} {n : Nat} {fn : Func} (hf : Tryz.prog.funcs[n]? = some fn) (hvars : spec.vars = []) (hres : fn.resultTypes = #[4]) (hin : Tryz.prog.inits.idxOf? n = none)
    (hr : ∀ t ∈ fn.params.toList, Tryz.prog.readableRec t = true ∧ t < Tryz.prog.types.size) (os : Os) (started : os.Started) (H : Type) (enc : TypeId × Value → H) (zeros : Array Value)
    (hv : ((laidWorld os).forCall (fun _ _ => 0) ⟨#[], zeros, []⟩).variablesB Tryz.prog = true)
    (hrr : (((laidWorld os).forCall (fun _ _ => 0) ⟨#[], zeros, []⟩).heap.toList.drop Tryz.prog.globals.size).take ((begin Tryz.prog (fun _ _ => 0) default).world.heap.size - Tryz.prog.globals.size) =
      (begin Tryz.prog (fun _ _ => 0) default).world.heap.toList.drop Tryz.prog.globals.size)
    (hok : Input.okWideB Tryz.prog ((laidWorld os).forCall (fun _ _ => 0) ⟨#[], zeros, []⟩) n ⟨#[], zeros, []⟩ = true)
    (hpre : spec.preB enc Tryz.prog fn [] false ((laidWorld os).forCall (fun _ _ => 0) ⟨#[], zeros, []⟩).memory zeros 8 = true)
    (hsz : spec.sizedB enc Tryz.prog fn false ((laidWorld os).forCall (fun _ _ => 0) ⟨#[], zeros, []⟩).memory zeros 8 = true)
    (walk : ∀ (W : World) (base : Nat) (args : Array Value) (ds : List (DataW H)) (p : List MemPlace), (∀ (j : Nat) t v, fn.params[j]? = some t → args[j]? = some v → Value.okWide Tryz.prog W .any base t v) →
      DataW.TrodAll enc Tryz.prog W 0 (fun _ => true) true fn.params.toList args.toList ds p → (DataW.weightsEach Tryz.prog (fn.params.toList ++ spec.plain.varTypes Tryz.prog) (ds ++ [])).all (· ≤ reachBytes) = true → Nam W →
      spec.fn H (ds ++ []) = { results := [.lit (.bool true)], args := ds } ∧ Calls Tryz.prog n args W fun e W' => e = .returned (.bool true) ∧ Below W.heap.size W W') :
    ReturnsInHanded {} Tryz.checked os n .any (fun w args => (spec.pre enc Tryz.prog fn [] false w args ∧ laidMet Tryz.prog laidL w) ∧ sizedMet enc Tryz.prog fn (OpenSpec.ofChange spec) false w args)
      (spec.post enc Tryz.prog fn false true false false) := by
  refine returnsInHanded_of_change_and (C := Tryz.checked) (X := fun w _ => laidMet Tryz.prog laidL w) (fun _ _ _ hh h => h.of_heap hh) own started hin hf
    (ChangeSpec.witness_at (enc := enc) (C := Tryz.checked) (os := os) (X := fun w _ => laidMet Tryz.prog laidL w) false (laidWorld os) zeros 8 rfl hv hrr hok hpre hsz (laidWorld_met os _)) ?_
  intro W base args ds gs before hval hW _ hsz0 hL _
  have hW' := hW
  obtain ⟨p, q, hA, hV, rfl, hfz, hnd⟩ := hW
  rw [hvars] at hV
  obtain ⟨rfl, rfl⟩ := trodVars_none hV
  obtain ⟨h1, h2⟩ := walk W base args ds p hval hA hsz0 (Nam.of hL)
  exact h2.mono fun e W' ⟨he, bel⟩ => ⟨_, he, law_post laidOut hr hW' hvars hres Tryz.underlying4 h1 bel⟩
end Go.Proofs.YtjoipibldahbhaaGreatDoor
