/- Several texts in one: RefFixA RefFixB RefFixW RLFixes. -/
import Derived.Test.YtjoipibldahbhaaGreatDoorKsa
/- The document's 'Fix', where it refuses for the numbers: contract. -/
namespace Go.Proofs.YtjoipibldahbhaaGreatDoor
open Go Go.RowKit
set_option maxRecDepth 100000
variable {w w' : World} {v vl : Value} {lost : List Int} {cols : List (List Nat)} {n k g : Nat}
theorem fixE_loss (he : lossE ((cols.length : Int) - 2) lost ≠ 0) : fixE cols lost = lossE ((cols.length : Int) - 2) lost := by unfold fixE; rw [if_pos he]
theorem fixE_fit (he : lossE ((cols.length : Int) - 2) lost = 0) : fixE cols lost = fitE (thereL cols lost) := by unfold fixE; rw [if_neg (by simp [he])]
theorem RefFix_loss (w : World) (h : RS w v cols) (hl : w.rd vl (iV lost)) (hn : lost.length ≤ 1000) (hc : cols.length ≤ 1000) (he : lossE ((cols.length : Int) - 2) lost ≠ 0) :
    Calls Tryz.prog 17 #[v, vl] w fun e w' => e = .returned (.tuple #[.slice none 0 0, .int .i64 (fixE cols lost)]) ∧ Below w.heap.size w w' := by
  rw [fixE_loss he]
  obtain ⟨a, c, rfl⟩ := h.len
  obtain ⟨L, hL⟩ : ∃ L, L = cols.length := ⟨_, rfl⟩
  rw [← hL] at he hc ⊢
  obtain ⟨E, hE⟩ : ∃ E, E = lossE ((L : Int) - 2) lost := ⟨_, rfl⟩
  have hE0 : E ≠ 0 := by rw [hE]; exact he
  rw [← hE]
  by_cases hr : (L : Int) - 2 < 2 ∨ 30 < (L : Int) - 2
  · have hE3 : E = 3 := by rw [hE]; exact lossE_range lost hr
    have hLo := Lost_range (v := vl) ((L : Int) - 2) w hr
    have HL := Lib.hid hLo
    clear hLo hL hE he hr h hl hn
    subst hE3
    go_enter Tryz.func17, Tryz.ntmps17
    go_wp2_with fail
    refine HL.out.mono ?_
    rintro e w2 ⟨rfl, rfl⟩
    go_wp2_with fail
    go_ret2
    exact ⟨rfl, Below.refl _ _⟩
  · obtain ⟨d, hd⟩ : ∃ d : Nat, (L : Int) - 2 = (d : Int) := ⟨L - 2, by omega⟩
    rw [hd] at hE he
    have hLo := Lost_ok w (show 2 ≤ d by omega) (show d ≤ 30 by omega) hl hn
    have HL := Lib.hid (And.intro hLo (And.intro he hE))
    clear hLo hL hE he hr h hl hn
    go_enter Tryz.func17, Tryz.ntmps17
    go_wp2_with fail
    refine HL.out.1.mono ?_
    rintro e w2 ⟨b2, hh⟩
    obtain ⟨_, rfl⟩ := hh.resolve_right (by rintro ⟨h, _⟩; exact HL.out.2.1 h)
    rw [← HL.out.2.2]
    have H2 := Lib.hid b2
    clear b2 hh
    go_wp2_with fail
    go_ret2
    exact ⟨rfl, H2.out⟩
end Go.Proofs.YtjoipibldahbhaaGreatDoor
/- Plain laws for the document's 'Fix'. -/
namespace Go.Proofs.YtjoipibldahbhaaGreatDoor
open Go Go.RowKit
set_option maxRecDepth 100000
variable {w w' : World} {v vl : Value} {lost : List Int} {cols : List (List Nat)} {n k g B : Nat} {vs : List Value}
theorem Outs.congr {f f' : Nat → List Nat} (h : Outs w B g k vs f) (e : ∀ i, i < k → f i = f' i) : Outs w B g k vs f' :=
  ⟨h.row, h.len, fun i hi => by rw [← e i hi]; exact h.own i hi, h.apart, h.low⟩
theorem cell_blk {g o : Nat} (h : w'.heap[g]? = w.heap[g]?) : w'.cell? ⟨g, o, none⟩ = w.cell? ⟨g, o, none⟩ := by
  unfold World.cell?; simp only [h]
theorem preB_succ {i t : Nat} (hl : ((dataL n k cols lost).getD i []).length = n) (ht : t < n) : preB n k cols lost (t + 1) i = preB n k cols lost t i ++ [((dataL n k cols lost).getD i []).getD t 0] := by
  unfold preB
  rw [List.take_add_one, List.getElem?_eq_getElem (by omega)]
  rw [getD_at (l := (dataL n k cols lost).getD i []) (t := t) (by omega)]; rfl
theorem dataL_at (hf : Fits n cols lost) (hk : cols.length = k + 2) (hc : (dsN k lost).length ≤ 2) {i : Nat} (hi : i < k) : AllB ((dataL n k cols lost).getD i []) ∧ ((dataL n k cols lost).getD i []).length = n := by
  have h := dataL_one hf hk hc
  have hl : ((dataL n k cols lost).take k).length = k := by rw [List.length_take, dataL_len]; omega
  have h2 := h.at (i := i) (by rw [hl]; exact hi)
  have e : ((dataL n k cols lost).take k).getD i [] = (dataL n k cols lost).getD i [] := by
    rw [List.getD, List.getD, List.getElem?_take_of_lt hi]
  rw [e] at h2
  exact h2
theorem ds_le (hc : cntI k lost ≤ 2) : (dsN k lost).length ≤ 2 := by unfold cntI at hc; omega
/-- Where the bytes lie that were told. -/
theorem dat_at {w5 : World} {f : Nat → List Nat} {l : List Nat} {vd : Value} (ho : Outs w B g k vs f) (hs : B ≤ w.heap.size) (hb : Below w.heap.size w w5) (hd : w5.rd vd (l.map u8V)) (hfr : ∀ b o m c, vd = .slice (some ⟨b, o, none⟩) m c → w.heap.size ≤ b) {q : Nat} (hq : q < g) (hq2 : q < w.heap.size) :
    ∃ gd od, (∀ j x, l[j]? = some x → w5.cell? ⟨gd, od + j, none⟩ = some (u8V x)) ∧ (l ≠ [] → ∃ cd, vd = .slice (some ⟨gd, od, none⟩) l.length cd) ∧ gd < w5.heap.size ∧ gd ≠ g ∧ ∀ i, i < k → (vs.getD i noV).ownBlock ≠ some gd := by
  have hlow := ho.low
  by_cases hl : l = []
  · subst hl
    refine ⟨q, 0, fun j x h => by simp at h, fun h => absurd rfl h, Nat.lt_of_lt_of_le hq2 hb.size, by omega, fun i hi e => ?_⟩
    have := ((ho.own i hi).lt q e).1
    omega
  · obtain ⟨a, c, rfl, hc⟩ := hd
    obtain ⟨b, o, rfl, hcell⟩ := hc.resolve_left (by intro h; exact hl (List.map_eq_nil_iff.1 h))
    have hbw := hfr b o _ c rfl
    have hcl : ∀ j x, l[j]? = some x → w5.cell? ⟨b, o + j, none⟩ = some (u8V x) := fun j x h => hcell j _ (by rw [List.getElem?_map, h]; rfl)
    obtain ⟨x0, h0⟩ : ∃ x, l[0]? = some x := ⟨_, List.getElem?_eq_getElem (List.length_pos_iff.2 hl)⟩
    have hlt := block_lt_of_cell (hcl 0 x0 h0)
    refine ⟨b, o, hcl, fun _ => ⟨c, by rw [List.length_map]⟩, hlt, by omega, fun i hi e => ?_⟩
    have := ((ho.own i hi).lt b e).2
    omega
/-- A row of slices, that grow by one byte each, up to a column. -/
structure Inner (w3 w5 wr : World) (g2 gd k n t i : Nat) (cols : List (List Nat)) (lost : List Int) (vs : List Value) : Prop where
  ou : Outs wr (g2 + 1) g2 k vs (fun j => if j < i then preB n k cols lost (t + 1) j else preB n k cols lost t j)
  ap : ∀ j, j < k → (vs.getD j noV).ownBlock ≠ some gd
  gd_ : wr.heap[gd]? = w5.heap[gd]?
  gs : gd < wr.heap.size
  below : Below w3.heap.size w3 wr
  size : g2 + 1 ≤ wr.heap.size
theorem Inner.put {w3 w5 wr w7 : World} {g2 gd t i X : Nat} {v7 vi : Value} (h : Inner w3 w5 wr g2 gd k n t i cols lost vs) (hg2 : g2 = w3.heap.size) (hgg : gd ≠ g2) (hi : i < k) (hps : preB n k cols lost (t + 1) i = preB n k cols lost t i ++ [X])
    (hpl : (preB n k cols lost t i).length = t) (hvi : vi = vs.getD i noV) (ho7 : w7.ownsRow (g2 + 1) tU8 1 v7 (t + 1) ((preB n k cols lost t i).map u8V ++ [u8V X])) (hgr : wr.grownBy w7 vi.ownBlock) (hn7 : v7.ownBlock = vi.ownBlock ∨ ∃ y, v7.ownBlock = some y ∧ wr.heap.size ≤ y) :
    Inner w3 w5 (w7.setCell ⟨g2, i, none⟩ v7) g2 gd k n t (i + 1) cols lost (vs.set i v7) := by
  subst hvi
  have hfi : (if i < i then preB n k cols lost (t + 1) i else preB n k cols lost t i) = preB n k cols lost t i := if_neg (by omega)
  have hvl : i < vs.length := by rw [h.ou.len]; omega
  have hgb := hgr.block gd h.gs fun e => h.ap i hi e.symm
  have hsz := hgr.size
  refine ⟨(h.ou.put (x := X) hi (by rw [hfi, hpl]; exact ho7) hgr hn7).congr fun j hj => ?_, fun j hj e => ?_, ?_, by rw [World.size_setCell]; exact Nat.lt_of_lt_of_le h.gs hsz, ?_, by rw [World.size_setCell]; have := h.size; omega⟩
  · by_cases e : j = i
    · subst e
      rw [upd_same]; show (if j < j then preB n k cols lost (t + 1) j else preB n k cols lost t j) ++ [X] = _; rw [hfi, if_pos (by omega), hps]
    · rw [upd_ne _ _ e]
      by_cases e2 : j < i
      · rw [if_pos e2, if_pos (by omega)]
      · rw [if_neg e2, if_neg (by omega)]
  · by_cases e2 : j = i
    · subst e2
      rw [show (vs.set j v7).getD j noV = v7 by simp [List.getD, hvl]] at e
      rcases hn7 with h7 | ⟨y, h7, hy⟩
      · exact h.ap j hj (h7 ▸ e)
      · rw [h7, Option.some.injEq] at e; have := h.gs; omega
    · rw [show (vs.set i v7).getD j noV = vs.getD j noV by rw [List.getD, List.getElem?_set_ne (fun e => e2 e.symm)]; rfl] at e
      exact h.ap j hj e
  · rw [Below.heap_setCell _ _ _ _ (fun e => hgg e), hgb, h.gd_]
  · refine (h.below.grown hgr h.below.size fun x hx => ?_).setCell (by dsimp only; omega) _
    have := ((h.ou.own i hi).lt x hx).1
    omega
end Go.Proofs.YtjoipibldahbhaaGreatDoor
/- The document's 'Fix', of numbers that may be: contract. -/
namespace Go.Proofs.YtjoipibldahbhaaGreatDoor
open Go Go.RowKit
set_option maxRecDepth 100000
variable {w w' : World} {v vl : Value} {lost : List Int} {cols : List (List Nat)} {n k g : Nat}
theorem infoByP : (Tryz.prog.info? tBy).map (fun i => (i.zero, i.size, i.bytes)) = some (some noV, 1, 24) := by kernel_rfl
theorem made_novs (n : Nat) : madeCells #[noV] n = (List.replicate n noV).toArray := by
  apply Array.ext_getElem?
  intro i
  unfold madeCells
  by_cases h : i < n
  · simp [h, Nat.mod_one]
  · simp [h]
theorem outs_new {g2 m : Nat} {w3 : World} (hg : g2 = w3.heap.size) (hm : m = k + 2) : Outs (w3.alloc (.cells (madeCells #[noV] m) tBy)) (g2 + 1) g2 k (List.replicate m noV) (preB n k cols lost 0) := by
  have hr : ∀ i, (List.replicate m noV).getD i noV = noV := fun i => by
    by_cases h : i < m
    · simp [List.getD, h]
    · simp [List.getD, h]
  refine ⟨by rw [made_novs, hg]; exact World.row.new w3 _ _, by rw [List.length_replicate]; exact hm, fun i hi => ?_, fun i j hi hj hij x hx => ?_, by omega⟩
  · rw [hr, show preB n k cols lost 0 i = [] from rfl]
    exact World.ownsRow_nil _ _ _ _
  · rw [hr] at hx; cases hx
set_option maxHeartbeats 16000000 in
theorem RefFix_ok (w : World) (h : RS w v cols) (hl : w.rd vl (iV lost)) (hn : lost.length ≤ 1000) (hall : AllC cols) (he : lossE ((cols.length : Int) - 2) lost = 0) :
    Calls Tryz.prog 17 #[v, vl] w fun e w' => ∃ v', e = .returned (.tuple #[v', .int .i64 (fixE cols lost)]) ∧ RS w' v' (if fixE cols lost = 0 then fixD cols lost else []) ∧ Below w.heap.size w w' := by
  have hfE := fixE_fit he
  have h30 := lossE_zero he
  obtain ⟨k, hk⟩ : ∃ k, cols.length = k + 2 := ⟨cols.length - 2, by omega⟩
  have hk2 : 2 ≤ k := by omega
  have hk30 : k ≤ 30 := by omega
  rw [show (cols.length : Int) - 2 = (k : Int) by omega] at he
  have hcn := (cnt_le he hk2 hk30).2.1
  have hLo := Lost_ok w hk2 hk30 hl hn
  rcases h.cases with ⟨rfl, _⟩ | ⟨hne, b, o, cp, rfl, hcp, hcell⟩
  · simp at hk
  obtain ⟨m, hm⟩ : ∃ m, m = cols.length := ⟨_, rfl⟩
  have hm2 : m = k + 2 := by omega
  rw [← hm] at hcp ⊢
  have hmk : (m : Int) - 2 = (k : Int) := by omega
  have hm32 : m ≤ 32 := by omega
  obtain ⟨i0, hi0, hz0, hz1, hz2⟩ := info_str
  have HI : Hid (Tryz.prog.info? tStr = some i0 ∧ i0.zero = some (.string { data := #[] }) ∧ i0.size = 1 ∧ i0.bytes = 16) := ⟨hi0, hz0, hz1, hz2⟩
  have HR := Lib.hid (And.intro hcell (And.intro hm (And.intro hm2 (And.intro hall (And.intro h (And.intro hcn (And.intro he (And.intro hfE hLo))))))))
  have HK := Lib.hid hk
  obtain ⟨FE, hFE⟩ : ∃ FE, FE = fixE cols lost := ⟨_, rfl⟩
  rw [← hFE]
  have HFE := Lib.hid hFE
  clear hFE
  clear hcell hm hm2 hall h hcn he hfE hLo hne hk hi0 hz0 hz1 hz2 hl hn h30
  go_enter Tryz.func17, Tryz.ntmps17
  go_wp2_with fail
  refine HR.out.2.2.2.2.2.2.2.2.mono ?_
  rintro e w2 ⟨b2, hh⟩
  obtain ⟨_, g, rfl, hgw, hrow⟩ := hh.resolve_left (by rintro ⟨h, _⟩; exact h HR.out.2.2.2.2.2.2.1)
  rw [show k + 2 = m from HR.out.2.2.1.symm] at hrow ⊢
  have H2 := Lib.hid (And.intro b2 hrow)
  clear b2 hh hrow
  go_wp2_with fail
  go_loopw [10, 11] (fun x y wr => ∃ j : Nat, j ≤ m ∧ y = .int .i64 (j : Int) ∧ wr.ownsRow w2.heap.size tStr 1 x (thereF cols lost j).length ((thereF cols lost j).map strV) ∧ Below w2.heap.size w2 wr) (fun _ y _ => m - (intOf y).toNat)
  case atStart => exact ⟨0, by omega, rfl, World.ownsRow_nil _ _ _ _, Below.refl _ _⟩
  case round =>
    obtain ⟨j, hj, rfl, ho, hB⟩ := hrel
    have hrow := H2.out.2.below hB H2.out.2.lt
    obtain ⟨os, hos⟩ : ∃ os, os = thereF cols lost j := ⟨_, rfl⟩
    rw [← hos] at ho
    have hol : os.length ≤ j := by rw [hos]; exact thereF_len j
    obtain ⟨p, hp⟩ : ∃ p, p = os.length := ⟨_, rfl⟩
    rw [← hp] at ho hol
    obtain ⟨ao, co, rfl⟩ := own_shape1 ho
    by_cases hjt : j < m
    · have ck := hrow.cell j (lcells_at hjt)
      have hgl := hrow.lt
      have hcj := HR.out.1 j (cols.getD j []) (by rw [List.getD, List.getElem?_eq_getElem (by rw [← HR.out.2.1]; exact hjt)]; rfl)
      have d0 := ((H2.out.1.trans (hB.mono H2.out.1.size)).cell (p := ⟨b, o + j, none⟩) (block_lt_of_cell hcj)).trans hcj
      obtain ⟨s, hs⟩ : ∃ s, s = mk (cols.getD j []) := ⟨_, rfl⟩
      unfold strV at d0
      rw [← hs] at d0
      cases hh : hasI lost j with
      | true =>
        rw [hh] at ck
        have hW := thereF_drop (ls := cols) hh
        rw [← hos] at hW
        have HX := Lib.hid (And.intro ho (And.intro hB (And.intro hrow (And.intro hW hp))))
        clear ho hB hrow hW hp hh hos hcj hs
        go_wp2_with fail
        go_roundw
        case rel => exact ⟨j + 1, by omega, by go_num, by rw [HX.out.2.2.2.1, ← HX.out.2.2.2.2]; exact HX.out.1, HX.out.2.1⟩
        case measure => simp [intOf] <;> omega
      | false =>
        rw [hh] at ck
        have hW := thereF_keep (ls := cols) hh
        rw [← hos] at hW
        have HX := Lib.hid (And.intro ho (And.intro hB (And.intro hrow (And.intro hW (And.intro hp hs)))))
        clear ho hB hrow hW hp hh hos hcj hs
        go_wp2_with (at_builtin; refine wpList_append_own _ rfl _ _ 33 rfl w2.heap.size tStr i0 (.string { data := #[] }) 1 16 Tryz.underlying33 HI.out.1 HI.out.2.1 HI.out.2.2.1 HI.out.2.2.2 rfl (by decide) _ _ _ rfl (HX.out.1.alloc _) ⟨wr.heap.size, 0, none⟩ 1 1 [.string s] rfl rfl ?c1 ?c2 ?c3 ?c4 ?c5 ?_)
        case c1 => exact one_cell _ _ _
        case c2 => simp [Value.oneCell']
        case c3 => unfold maxLen; omega
        case c4 => omega
        case c5 => have := HX.out.2.1.size; simp; omega
        intro v' w3 ho3 hg3 _
        have B3 : Below w2.heap.size w2 w3 := (HX.out.2.1.alloc HX.out.2.1.size _).grown hg3 (by have := HX.out.2.1.size; simp; omega) (fun k hk => by have := (HX.out.1.lt k hk).1; have := HX.out.2.1.size; omega)
        rw [HX.out.2.2.2.2.1, show Value.string s = strV (cols.getD j []) by rw [HX.out.2.2.2.2.2]] at ho3
        have ho4 := strs_snoc ho3
        rw [← HX.out.2.2.2.1] at ho4
        have H3 := Lib.hid (And.intro ho4 B3)
        clear B3 ho4 ho3 hg3
        go_wp2_with fail
        go_roundw
        case rel => exact ⟨j + 1, by omega, by go_num, H3.out.1, H3.out.2⟩
        case measure => simp [intOf] <;> omega
    · obtain rfl : m = j := by omega
      have hth : os = thereL cols lost := by rw [hos, HR.out.2.1]; rfl
      have B1 : Below w.heap.size w wr := H2.out.1.trans (hB.mono H2.out.1.size)
      have hFi := RFit_any wr (RS.of_own ho) (by omega)
      rw [hth] at hFi
      obtain ⟨E, hE⟩ : ∃ E, E = fitE (thereL cols lost) := ⟨_, rfl⟩
      rw [← hE] at hFi
      have HX := Lib.hid (And.intro ho (And.intro B1 (And.intro hrow (And.intro hth (And.intro hp (And.intro hFi hE))))))
      clear ho B1 hB hrow hth hp hos hFi hE
      go_wp2_with fail
      refine HX.out.2.2.2.2.2.1.mono ?_
      rintro e w3 ⟨rfl, b3⟩
      by_cases hE0 : E = 0
      · have hfit : fitE (thereL cols lost) = 0 := by rw [← HX.out.2.2.2.2.2.2]; exact hE0
        have hFE0 : FE = 0 := by rw [HFE.out, HR.out.2.2.2.2.2.2.2.1]; exact hfit
        have hthn := there_some HK.out hk2 HR.out.2.2.2.2.2.1
        have hF := there_fits HR.out.2.2.2.1 hfit
        have hn64 := lenL_le hfit hthn
        obtain ⟨n, hn⟩ : ∃ n, n = lenL cols lost := ⟨_, rfl⟩
        rw [← hn] at hF hn64
        have hp0 : 0 < p := by rw [HX.out.2.2.2.2.1, HX.out.2.2.2.1]; exact List.length_pos_iff.2 hthn
        obtain ⟨gh, ch, hv, _, hgh, _, _, hcs, _⟩ := (own_form HX.out.1).resolve_left (by rintro ⟨_, h⟩; omega)
        obtain ⟨rfl, rfl⟩ : ao = some ⟨gh, 0, none⟩ ∧ co = ch := by simpa using hv
        have hl0 : (thereL cols lost)[0]? = some ((thereL cols lost).headD []) := by
          cases h : thereL cols lost with
          | nil => exact absurd h hthn
          | cons a r => rfl
        have hc0 := hcs 0 (strV ((thereL cols lost).headD [])) (by rw [HX.out.2.2.2.1, List.getElem?_map, hl0]; rfl)
        have hsz := mk_size ((thereL cols lost).headD [])
        rw [show ((thereL cols lost).headD []).length = n by rw [hn]; rfl] at hsz
        obtain ⟨sh, hsh⟩ : ∃ s, s = mk ((thereL cols lost).headD []) := ⟨_, rfl⟩
        unfold strV at hc0
        rw [← hsh] at hc0 hsz
        have hc3 := (b3.cell (p := ⟨gh, 0, none⟩) hgh).trans hc0
        have hr3 := HX.out.2.2.1.below b3 HX.out.2.2.1.lt
        have B3 := HX.out.2.1.trans (b3.mono HX.out.2.1.size)
        have hmk2 := run_make_row' (P := Tryz.prog) 82 tBy noV 24 Tryz.underlying82 infoByP rfl .i64 .i64 m (by omega) (by omega)
        have hkm : (k : Int) + 2 = (m : Int) := by omega
        have H3 := Lib.hid (And.intro hc3 (And.intro hr3 (And.intro B3 (And.intro hF hn))))
        subst hE0
        subst hFE0
        clear b3 hc3 hr3 B3 hF hn hfit hthn hv hcs hl0 hc0 hsh hgh HFE
        go_wp2_with fail
        obtain ⟨g2, hg2⟩ : ∃ g, g = w3.heap.size := ⟨_, rfl⟩
        refine wp_world (fun w4 => Outs w4 (g2 + 1) g2 k (List.replicate m noV) (preB n k cols lost 0) ∧ Below w3.heap.size w3 w4 ∧ g2 + 1 ≤ w4.heap.size) ⟨outs_new hg2 (by have := HR.out.2.2.1; omega), (by repeat' (first | (with_reducible exact Below.refl _ _) | (with_reducible assumption) | (with_reducible refine Below.setCell ?_ ?_ _) | (with_reducible refine Below.ext ?_ _ ?_) | (with_reducible refine Below.alloc ?_ ?_ _) | (with_reducible refine Below.drew ?_) | (with_reducible refine Below.drewN ?_ _) | (with_reducible exact Nat.le_refl _) | (dsimp only; omega) | (simp <;> omega))), by simp [hg2]⟩ ?_
        rintro w4 ⟨ou4, b4, s4⟩
        rw [← hg2]
        have H4 := Lib.hid (And.intro ou4 (And.intro b4 (And.intro s4 hg2)))
        clear ou4 b4 s4 hg2 hmk2
        go_loopw [13] (fun x wr => ∃ (t : Nat) (vs : List Value), t ≤ n ∧ x = .int .i64 (t : Int) ∧ Outs wr (g2 + 1) g2 k vs (preB n k cols lost t) ∧ Below w3.heap.size w3 wr ∧ g2 + 1 ≤ wr.heap.size) (fun x _ => n - (intOf x).toNat)
        case atStart => exact ⟨0, _, by omega, rfl, H4.out.1, H4.out.2.1, H4.out.2.2.1⟩
        case round =>
          clear HX
          obtain ⟨t, vs, ht, rfl, hou, hB, hs4⟩ := hrel
          have hch := (hB.cell (p := ⟨gh, 0, none⟩) (block_lt_of_cell H3.out.1)).trans H3.out.1
          by_cases htn : t < n
          · have BW : Below w.heap.size w wr := H3.out.2.2.1.trans (hB.mono H3.out.2.2.1.size)
            have hD := Data_ok (n := n) (t := t) wr (HR.out.2.2.2.2.1.below BW) HK.out hk30 (by rw [← HR.out.2.2.1]; exact H3.out.2.1.below hB H3.out.2.1.lt) H3.out.2.2.2.1 HR.out.2.2.2.1 htn HR.out.2.2.2.2.2.1
            rw [← HR.out.2.2.1, ← HR.out.2.1] at hD
            have HD := Lib.hid (And.intro hou (And.intro hB (And.intro hD hs4)))
            clear hou hB hD BW hs4
            go_wp2_with fail
            refine HD.out.2.2.1.mono ?_
            rintro e w5 ⟨vd, rfl, rd5, b5, hfr⟩
            obtain ⟨gd, od, hdc, hds, hgd5, hgg, hap⟩ := dat_at HD.out.1 HD.out.2.2.2 b5 rd5 hfr (q := g) (by have := H3.out.2.1.lt; have := H4.out.2.2.2; omega) (Nat.lt_of_lt_of_le H3.out.2.1.lt HD.out.2.1.size)
            have H5 := Lib.hid (And.intro (HD.out.1.below b5) (And.intro (HD.out.2.1.trans (b5.mono HD.out.2.1.size)) (And.intro hap (And.intro hdc (And.intro hds (Nat.le_trans HD.out.2.2.2 b5.size))))))
            clear rd5 b5 hfr hap hdc hds HD
            go_wp2_with fail
            go_loopw [15, 16] (fun x y wq => ∃ (i : Nat) (vs : List Value), i ≤ k ∧ y = .int .i64 (i : Int) ∧ x = .int .i64 (ahead_ lost i : Int) ∧ Inner w3 w5 wq g2 gd k n t i cols lost vs) (fun _ y _ => k - (intOf y).toNat)
            case atStart => exact ⟨0, vs, by omega, rfl, rfl, ⟨H5.out.1.congr (fun i _ => by rw [if_neg (by omega)]), H5.out.2.2.1, rfl, hgd5, H5.out.2.1, H5.out.2.2.2.2.2⟩⟩
            case round =>
              obtain ⟨i, vq, hi, rfl, rfl, hin⟩ := hrel
              have hou := hin.ou
              have hB := hin.below
              have hgd := hin.gd_
              have hgs := hin.gs
              have hs4 := hin.size
              by_cases hik : i < k
              · have hfl := (H3.out.2.1.below hB H3.out.2.1.lt).cell i (lcells_at (m := m) (by have := HR.out.2.2.1; omega))
                have hvl : i < vq.length := by rw [hou.len]; omega
                have hvqi : vq[i]? = some (vq.getD i noV) := by rw [List.getD, List.getElem?_eq_getElem hvl]; rfl
                have hvi := hou.row.cell i hvqi
                have hgl2 := hou.row.lt
                have hfz2 := hou.row.free
                have hown := hou.own i hik
                rw [if_neg (by omega)] at hown
                obtain ⟨hdA, hdn⟩ := dataL_at H3.out.2.2.2.1 HK.out (ds_le HR.out.2.2.2.2.2.1) hik
                have hpl : (preB n k cols lost t i).length = t := by unfold preB; rw [List.length_take]; omega
                rw [hpl] at hown
                have hps := preB_succ (t := t) hdn htn
                obtain ⟨vi, hvie⟩ : ∃ x, x = vq.getD i noV := ⟨_, rfl⟩
                rw [← hvie] at hvi hown hvqi
                obtain ⟨X, hX⟩ : ∃ X, X = ((dataL n k cols lost).getD i []).getD t 0 := ⟨_, rfl⟩
                have hXl : X < 256 := by rw [hX]; exact getD_lt hdA t
                rw [← hX] at hps
                have hal : ahead_ lost i ≤ i := by unfold ahead_; have := List.length_filter_le (hasI lost) (List.range i); rw [List.length_range] at this; exact this
                cases hh : hasI lost i with
                | true =>
                  rw [hh] at hfl
                  have hda := datB_at (n := n) (cols := cols) (t := t) hik hh
                  rw [← hX] at hda
                  have hdne : datB n k cols lost t ≠ [] := by intro e; rw [e] at hda; simp at hda
                  obtain ⟨cd, rfl⟩ := H5.out.2.2.2.2.1 hdne
                  have hdc := H5.out.2.2.2.1 _ X hda
                  have hdl : ahead_ lost i < (datB n k cols lost t).length := (List.getElem?_eq_some_iff.1 hda).1
                  have hdcq : wr.cell? ⟨gd, od + ahead_ lost i, none⟩ = some (u8V X) := by rw [cell_blk hgd]; exact hdc
                  obtain ⟨ah, hah⟩ : ∃ x, x = ahead_ lost i := ⟨_, rfl⟩
                  obtain ⟨dl, hdle⟩ : ∃ x, x = (datB n k cols lost t).length := ⟨_, rfl⟩
                  have hak := ahead_keep hh
                  rw [← hah] at hdcq hdl hal hak ⊢
                  rw [← hdle] at hdl ⊢
                  have HQ := Lib.hid (And.intro hin (And.intro hown (And.intro hps (And.intro hpl (And.intro hvie (And.intro hvqi (And.intro hgg hak)))))))
                  clear hin hou hgd hB hown hvie hps hpl hak hX hah hdle hdc hdA hdn hda hdne hh hvqi
                  go_upto_region 24 with fail
                  refine wp_region_mix_exts (fun x => x = g2 ∨ x = gd) [] true (by kernel_rfl) (by kernel_rfl) ?_
                  intro _
                  repeat ((with_reducible refine wpMix_light ?hh ?_); (case hh => rfl); go_big_quiet_step (fail); (with_reducible refine wpQuiet_nil ?_))
                  (with_reducible refine wpMix_heavy ?hh ?hw (fun K hK => ?_)); (case hh => rfl); (case hw => rfl)
                  go_simp
                  refine hK.out _ _ (toExtS (fun x hx => (((Below.refl _ _).alloc (Nat.le_refl wr.heap.size) _).drew).block x (by rcases hx with rfl | rfl <;> assumption))) ?_
                  clear hK K
                  try simp only [Act.put, List.setIfInBounds_toArray, List.set_cons_zero, List.set_cons_succ]
                  repeat ((with_reducible refine wpMix_light ?hh ?_); (case hh => rfl); go_big_quiet_step (fail); (with_reducible refine wpQuiet_nil ?_))
                  (with_reducible refine wpMix_heavy ?hh ?hw (fun K hK => ?_)); (case hh => rfl); (case hw => rfl)
                  have hq6 : Below wr.heap.size wr (wr.alloc (.cells #[u8V X] tU8)).drew := ((Below.refl _ _).alloc (Nat.le_refl _) _).drew
                  with_reducible apply w_append1
                  (case ht => exact Tryz.underlying62)
                  (case hi => exact infoU8p)
                  (case hzs => rfl)
                  (case hsz => decide)
                  (case hown => exact (World.ownsRow.alloc HQ.out.2.1 _).drew)
                  (case hs => rfl)
                  (case hx => rfl)
                  (case hr => exact (World.row.new wr [u8V X] tU8).drew)
                  (case hl => rfl)
                  (case h1 => intro u hu; rw [List.mem_singleton.1 hu]; rfl)
                  (case h63 => omega)
                  (case hbb => decide)
                  (case hbase => have := HQ.out.1.size; simp; omega)
                  intro v7 w7 ho7 hg7 hn7
                  obtain ⟨a7, cap7, rfl⟩ := own_shape1 ho7
                  have hgr : wr.grownBy w7 vi.ownBlock := (RowKit.Below.grownBy hq6 vi.ownBlock).trans hg7
                  have hv2 : vi.ownBlock ≠ some g2 := fun e => by have := (HQ.out.2.1.lt g2 e).1; omega
                  have hvq : vi.ownBlock ≠ some gd := fun e => HQ.out.1.ap i hik (HQ.out.2.2.2.2.1 ▸ e)
                  have hI := HQ.out.1.put H4.out.2.2.2 HQ.out.2.2.2.2.2.2.1 hik HQ.out.2.2.1 HQ.out.2.2.2.1 HQ.out.2.2.2.2.1 ho7 hgr (hn7.imp id fun e => ⟨_, e, by simp⟩)
                  have hr7 := HQ.out.1.ou.row.grown hgr (fun e => hv2 e.symm)
                  have c7 := hr7.cell i HQ.out.2.2.2.2.2.1
                  have l7 := hr7.lt
                  have f7 := hr7.free
                  have HI7 := Lib.hid hI
                  refine hK.out _ _ (toExtS (fun x hx => hgr.block x (by rcases hx with rfl | rfl <;> assumption) (fun e => hx.elim (fun h => hv2 (by rw [← e, h])) (fun h => hvq (by rw [← e, h]))))) ?_
                  clear hK K ho7 hg7 hn7 hgr hv2 hvq hI hr7 hq6 hvi hgl2 hfz2
                  try simp only [Act.put, List.setIfInBounds_toArray, List.set_cons_zero, List.set_cons_succ]
                  repeat ((with_reducible refine wpMix_light ?hh ?_); (case hh => rfl); go_big_quiet_step (fail); (with_reducible refine wpQuiet_nil ?_))
                  refine wpMix_last (by rfl) (by rfl) (fun K hK => ?_)
                  go_simp
                  refine hK.out _ _ ?_
                  clear hK K
                  go_wp2_with fail
                  go_roundw
                  case rel => exact ⟨i + 1, _, by omega, by go_num, by rw [HQ.out.2.2.2.2.2.2.2]; rfl, HI7.out⟩
                  case measure => simp [intOf] <;> omega
                | false =>
                  rw [hh] at hfl
                  have him : i < cols.length := by rw [← HR.out.2.1]; have := HR.out.2.2.1; omega
                  obtain ⟨hlA, hln⟩ := H3.out.2.2.2.1 i him hh
                  have hXe : X = (cols.getD i []).getD t 0 := by rw [hX, dataL_off hh hik]
                  have hI := fun w => idx_mk (P := Tryz.prog) Tryz.underlying9 hlA (k := t) (by omega) w
                  rw [← hXe] at hI
                  have g1 := HR.out.1 i (cols.getD i []) (by rw [List.getD, List.getElem?_eq_getElem him]; rfl)
                  have BW : Below w.heap.size w wr := H3.out.2.2.1.trans (hB.mono H3.out.2.2.1.size)
                  have d1 := (BW.cell (p := ⟨b, o + i, none⟩) (block_lt_of_cell g1)).trans g1
                  have hbs : b < wr.heap.size := Nat.lt_of_lt_of_le (block_lt_of_cell g1) BW.size
                  have hbg : b < g2 := by have := block_lt_of_cell g1; have := H3.out.2.2.1.size; have := H4.out.2.2.2; dsimp only at *; omega
                  obtain ⟨s, hs⟩ : ∃ s, s = mk (cols.getD i []) := ⟨_, rfl⟩
                  unfold strV at d1
                  rw [← hs] at hI d1
                  have hak := ahead_drop hh
                  obtain ⟨ah, hah⟩ : ∃ x, x = ahead_ lost i := ⟨_, rfl⟩
                  rw [← hah] at hal hak ⊢
                  have HQ := Lib.hid (And.intro hin (And.intro hown (And.intro hps (And.intro hpl (And.intro hvie (And.intro hvqi (And.intro hgg hak)))))))
                  clear hin hou hgd hB hown hvie hps hpl hak hX hah hdA hdn hh hvqi hXe hlA hln g1 BW hs
                  go_upto_region 26 with fail
                  refine wp_region_mix_exts (fun x => x = g2 ∨ x = b) [] true (by kernel_rfl) (by kernel_rfl) ?_
                  intro _
                  repeat ((with_reducible refine wpMix_light ?hh ?_); (case hh => rfl); go_big_quiet_step (fail); (with_reducible refine wpQuiet_nil ?_))
                  (with_reducible refine wpMix_heavy ?hh ?hw (fun K hK => ?_)); (case hh => rfl); (case hw => rfl)
                  go_simp
                  refine hK.out _ _ (toExtS (fun x hx => (((Below.refl _ _).alloc (Nat.le_refl wr.heap.size) _).drew).block x (by rcases hx with rfl | rfl <;> assumption))) ?_
                  clear hK K
                  try simp only [Act.put, List.setIfInBounds_toArray, List.set_cons_zero, List.set_cons_succ]
                  repeat ((with_reducible refine wpMix_light ?hh ?_); (case hh => rfl); go_big_quiet_step (fail); (with_reducible refine wpQuiet_nil ?_))
                  (with_reducible refine wpMix_heavy ?hh ?hw (fun K hK => ?_)); (case hh => rfl); (case hw => rfl)
                  have hq6 : Below wr.heap.size wr (wr.alloc (.cells #[u8V X] tU8)).drew := ((Below.refl _ _).alloc (Nat.le_refl _) _).drew
                  with_reducible apply w_append1
                  (case ht => exact Tryz.underlying62)
                  (case hi => exact infoU8p)
                  (case hzs => rfl)
                  (case hsz => decide)
                  (case hown => exact (World.ownsRow.alloc HQ.out.2.1 _).drew)
                  (case hs => rfl)
                  (case hx => rfl)
                  (case hr => exact (World.row.new wr [u8V X] tU8).drew)
                  (case hl => rfl)
                  (case h1 => intro u hu; rw [List.mem_singleton.1 hu]; rfl)
                  (case h63 => omega)
                  (case hbb => decide)
                  (case hbase => have := HQ.out.1.size; simp; omega)
                  intro v7 w7 ho7 hg7 hn7
                  obtain ⟨a7, cap7, rfl⟩ := own_shape1 ho7
                  have hgr : wr.grownBy w7 vi.ownBlock := (RowKit.Below.grownBy hq6 vi.ownBlock).trans hg7
                  have hv2 : vi.ownBlock ≠ some g2 := fun e => by have := (HQ.out.2.1.lt g2 e).1; omega
                  have hvq : vi.ownBlock ≠ some b := fun e => by have := (HQ.out.2.1.lt b e).1; omega
                  have hI := HQ.out.1.put H4.out.2.2.2 HQ.out.2.2.2.2.2.2.1 hik HQ.out.2.2.1 HQ.out.2.2.2.1 HQ.out.2.2.2.2.1 ho7 hgr (hn7.imp id fun e => ⟨_, e, by simp⟩)
                  have hr7 := HQ.out.1.ou.row.grown hgr (fun e => hv2 e.symm)
                  have c7 := hr7.cell i HQ.out.2.2.2.2.2.1
                  have l7 := hr7.lt
                  have f7 := hr7.free
                  have HI7 := Lib.hid hI
                  refine hK.out _ _ (toExtS (fun x hx => hgr.block x (by rcases hx with rfl | rfl <;> assumption) (fun e => hx.elim (fun h => hv2 (by rw [← e, h])) (fun h => hvq (by rw [← e, h]))))) ?_
                  clear hK K ho7 hg7 hn7 hgr hv2 hvq hI hr7 hq6 hvi hgl2 hfz2
                  try simp only [Act.put, List.setIfInBounds_toArray, List.set_cons_zero, List.set_cons_succ]
                  repeat ((with_reducible refine wpMix_light ?hh ?_); (case hh => rfl); go_big_quiet_step (fail); (with_reducible refine wpQuiet_nil ?_))
                  refine wpMix_last (by rfl) (by rfl) (fun K hK => ?_)
                  go_simp
                  refine hK.out _ _ ?_
                  clear hK K
                  go_wp2_with fail
                  go_roundw
                  case rel => exact ⟨i + 1, _, by omega, by go_num, by rw [HQ.out.2.2.2.2.2.2.2], HI7.out⟩
                  case measure => simp [intOf] <;> omega
              · obtain rfl : k = i := by omega
                have HQ := Lib.hid (And.intro hou (And.intro hB hs4))
                clear hin hou hgd hgs hB hs4
                go_wp2_with fail
                go_roundw
                case rel => exact ⟨t + 1, vq, by omega, by go_num, HQ.out.1.congr (fun j hj => by rw [if_pos hj]), HQ.out.2.1, HQ.out.2.2⟩
                case measure => simp [intOf] <;> omega
          · obtain rfl : n = t := by omega
            have hda := fun i (hi : i < k) => dataL_at H3.out.2.2.2.1 HK.out (ds_le HR.out.2.2.2.2.2.1) hi
            have hdl := dataL_len (n := n) (k := k) (cols := cols) (lost := lost)
            obtain ⟨ds, hds⟩ : ∃ ds, ds = dataL n k cols lost := ⟨_, rfl⟩
            have hpre : ∀ i, i < k → preB n k cols lost n i = ds.getD i [] := fun i hi => by
              unfold preB; rw [← hds]; exact List.take_of_length_le (by rw [hds, (hda i hi).2]; exact Nat.le_refl _)
            have hone := dataL_one H3.out.2.2.2.1 HK.out (ds_le HR.out.2.2.2.2.2.1)
            rw [← hds] at hone hdl
            have hou2 := hou.congr hpre
            have HZ := Lib.hid (And.intro hou2 (And.intro hB (And.intro hone (And.intro hds (And.intro hdl (show ∀ i, i < k → AllB (ds.getD i []) ∧ (ds.getD i []).length = n from fun i hi => by have := hda i hi; rw [← hds] at this; exact this))))))
            clear hou hou2 hB hone hds hdl hda hpre
            go_wp2_with fail
            obtain ⟨w8, hw8⟩ : ∃ w8, w8 = wr := ⟨_, rfl⟩
            rw [← hw8]
            rw [← hw8] at HZ
            clear hw8 hch
            go_loopw [17, 18] (fun x y wq => ∃ i : Nat, i ≤ k ∧ y = .int .i64 (i : Int) ∧ wq.ownsRow w8.heap.size tStr 1 x i ((ds.take i).map strV) ∧ Below w8.heap.size w8 wq) (fun _ y _ => k - (intOf y).toNat)
            case atStart => exact ⟨0, by omega, rfl, World.ownsRow_nil _ _ _ _, Below.refl _ _⟩
            case round =>
              obtain ⟨i, hi, rfl, ho, hB⟩ := hrel
              obtain ⟨ao, co, rfl⟩ := own_shape1 ho
              by_cases hik : i < k
              · have hou := HZ.out.1.below hB
                have hvl : i < vs.length := by rw [hou.len]; omega
                have hvi := hou.row.cell i (show vs[i]? = some (vs.getD i noV) by rw [List.getD, List.getElem?_eq_getElem hvl]; rfl)
                have hgl2 := hou.row.lt
                have hown := hou.own i hik
                obtain ⟨hdA, hdn⟩ := HZ.out.2.2.2.2.2 i hik
                rw [hdn] at hown
                obtain ⟨vi, hvie⟩ : ∃ x, x = vs.getD i noV := ⟨_, rfl⟩
                rw [← hvie] at hvi hown
                obtain ⟨av, cv, rfl⟩ := own_shape1 hown
                have hcv := fun w' (hb : Below wr.heap.size wr w') => text_own (P := Tryz.prog) (hown.below hb) (Nat.le_refl _) Tryz.underlying62 Tryz.underlying5 Tryz.underlying9
                have hcv0 := hcv wr (Below.refl _ _)
                rw [List.take_of_length_le (by rw [hdn]; exact Nat.le_refl _)] at hcv0
                have htk : ds.take (i + 1) = ds.take i ++ [ds.getD i []] := by
                  have hil : i < ds.length := by rw [HZ.out.2.2.2.2.1, HK.out]; omega
                  rw [List.take_add_one, List.getD, List.getElem?_eq_getElem hil]; rfl
                obtain ⟨s, hs⟩ : ∃ s, s = mk (ds.getD i []) := ⟨_, rfl⟩
                rw [← hs] at hcv0
                have HQ := Lib.hid (And.intro ho (And.intro hB (And.intro htk hs)))
                clear ho hB htk hs hou hown hvie hcv hdA hdn
                go_wp2_with (at_builtin; refine wpList_append_own _ rfl _ _ 33 rfl w8.heap.size tStr i0 (.string { data := #[] }) 1 16 Tryz.underlying33 HI.out.1 HI.out.2.1 HI.out.2.2.1 HI.out.2.2.2 rfl (by decide) _ _ _ rfl (HQ.out.1.alloc _) ⟨wr.heap.size, 0, none⟩ 1 1 [.string s] rfl rfl ?c1 ?c2 ?c3 ?c4 ?c5 ?_)
                case c1 => exact one_cell _ _ _
                case c2 => simp [Value.oneCell']
                case c3 => unfold maxLen; omega
                case c4 => omega
                case c5 => have := HQ.out.2.1.size; simp; omega
                intro v' w9 ho9 hg9 _
                have B9 : Below w8.heap.size w8 w9 := (HQ.out.2.1.alloc HQ.out.2.1.size _).grown hg9 (by have := HQ.out.2.1.size; simp; omega) (fun k hk => by have := (HQ.out.1.lt k hk).1; have := HQ.out.2.1.size; omega)
                have ho10 : w9.ownsRow w8.heap.size tStr 1 v' (i + 1) ((ds.take (i + 1)).map strV) := by
                  have e : (ds.take (i + 1)).map strV = (ds.take i).map strV ++ [.string s] := by rw [HQ.out.2.2.1, List.map_append, HQ.out.2.2.2]; rfl
                  rw [e]
                  first | exact ho9 | (rw [List.map_take]; exact ho9)
                have H9 := Lib.hid (And.intro ho10 B9)
                clear B9 ho9 hg9 ho10
                go_wp2_with fail
                go_roundw
                case rel => exact ⟨i + 1, by omega, by go_num, H9.out.1, H9.out.2⟩
                case measure => simp [intOf] <;> omega
              · obtain rfl : k = i := by omega
                have hRM := RMake_ok n wr (by have := RS.of_own ho; exact this) (by rw [List.length_take, HZ.out.2.2.2.2.1, HK.out]; omega) (by rw [List.length_take]; omega) HZ.out.2.2.1 hn64
                have BW : Below w.heap.size w wr := (H3.out.2.2.1.trans (HZ.out.2.1.mono H3.out.2.2.1.size)).trans (hB.mono (Nat.le_trans H3.out.2.2.1.size HZ.out.2.1.size))
                have hrg := (H3.out.2.1.below HZ.out.2.1 H3.out.2.1.lt).below hB (Nat.lt_of_lt_of_le H3.out.2.1.lt HZ.out.2.1.size)
                obtain ⟨pk, hpk⟩ : ∃ p, p = hasI lost k := ⟨_, rfl⟩
                obtain ⟨qk, hqk⟩ : ∃ p, p = hasI lost (k + 1) := ⟨_, rfl⟩
                obtain ⟨sP, hsP⟩ : ∃ s, s = mk (PL n (ds.take k)) := ⟨_, rfl⟩
                obtain ⟨sQ, hsQ⟩ : ∃ s, s = mk (QL n (ds.take k)) := ⟨_, rfl⟩
                unfold strV at hRM
                rw [← hsP, ← hsQ] at hRM
                have HQ := Lib.hid (And.intro ho (And.intro BW (And.intro hRM (And.intro hpk (And.intro hqk (And.intro hsP (And.intro hsQ hrg)))))))
                clear ho hB hRM BW hpk hqk hsP hsQ hrg
                go_wp2_with fail
                refine HQ.out.2.2.1.mono ?_
                rintro e w9 ⟨rfl, b9⟩
                have hrg := HQ.out.2.2.2.2.2.2.2.below b9 HQ.out.2.2.2.2.2.2.2.lt
                have cpk := hrg.cell k (lcells_at (by have := HR.out.2.2.1; omega))
                have cqk := hrg.cell (k + 1) (lcells_at (by have := HR.out.2.2.1; omega))
                rw [← HQ.out.2.2.2.1] at cpk
                rw [← HQ.out.2.2.2.2.1] at cqk
                have hkc : k < cols.length ∧ k + 1 < cols.length := by have := HK.out; omega
                have gp := HR.out.1 k (cols.getD k []) (by rw [List.getD, List.getElem?_eq_getElem hkc.1]; rfl)
                have gq := HR.out.1 (k + 1) (cols.getD (k + 1) []) (by rw [List.getD, List.getElem?_eq_getElem hkc.2]; rfl)
                have B9 := HQ.out.2.1.trans (b9.mono HQ.out.2.1.size)
                have dp := (B9.cell (p := ⟨b, o + k, none⟩) (block_lt_of_cell gp)).trans gp
                have dq := (B9.cell (p := ⟨b, o + (k + 1), none⟩) (block_lt_of_cell gq)).trans gq
                obtain ⟨sp, hsp⟩ : ∃ s, s = mk (cols.getD k []) := ⟨_, rfl⟩
                obtain ⟨sq, hsq⟩ : ∃ s, s = mk (cols.getD (k + 1) []) := ⟨_, rfl⟩
                unfold strV at dp dq
                rw [← hsp] at dp
                rw [← hsq] at dq
                have hlt : k + 1 < m := by have := HR.out.2.2.1; omega
                have H9 := Lib.hid (And.intro (HQ.out.1.below b9) (And.intro B9 (And.intro hsp (And.intro hsq b9))))
                clear hrg gp gq B9 hsp hsq b9 hkc
                obtain ⟨s1, hs1⟩ : ∃ s, s = if pk = true then sP else sp := ⟨_, rfl⟩
                obtain ⟨s2, hs2⟩ : ∃ s, s = if qk = true then sQ else sq := ⟨_, rfl⟩
                have H89 : w8.heap.size ≤ w9.heap.size := by
                  rcases own_form H9.out.1 with ⟨_, h⟩ | ⟨g', _, _, h1, h2, _⟩
                  · omega
                  · omega
                have HS := Lib.hid (And.intro hs1 hs2)
                clear hs1 hs2
                go_upto_if 135 with fail
                go_cut [19] from 136 to 139 (fun x wc => x = .string s1 ∧ wc = w9)
                case first =>
                  cases pk with
                  | true =>
                    have e := Lib.hid (show sP = s1 by rw [HS.out.1, if_pos rfl])
                    go_wp2_with fail
                    go_meet
                    case rel => exact ⟨by rw [e.out], rfl⟩
                  | false =>
                    have e := Lib.hid (show sp = s1 by rw [HS.out.1, if_neg (by simp)])
                    go_wp2_with fail
                    go_meet
                    case rel => exact ⟨by rw [e.out], rfl⟩
                case rest =>
                  obtain ⟨rfl, rfl⟩ := hcut
                  go_upto_if 145 with fail
                  go_cut [20] from 146 to 150 (fun x wx => x = .string s2 ∧ wx = wc)
                  case first =>
                    cases qk with
                    | true =>
                      have e := Lib.hid (show sQ = s2 by rw [HS.out.2, if_pos rfl])
                      go_wp2_with fail
                      go_meet
                      case rel => exact ⟨by rw [e.out], rfl⟩
                    | false =>
                      have e := Lib.hid (show sq = s2 by rw [HS.out.2, if_neg (by simp)])
                      go_wp2_with fail
                      go_meet
                      case rel => exact ⟨by rw [e.out], rfl⟩
                  case rest =>
                    obtain ⟨rfl, rfl⟩ := hcut
                    go_wp2_with (at_builtin; refine wpList_append_own _ rfl _ _ 33 rfl w8.heap.size tStr i0 (.string { data := #[] }) 1 16 Tryz.underlying33 HI.out.1 HI.out.2.1 HI.out.2.2.1 HI.out.2.2.2 rfl (by decide) _ _ _ rfl (H9.out.1.alloc _) ⟨wc.heap.size, 0, none⟩ 1 1 [.string s1] rfl rfl ?c1 ?c2 ?c3 ?c4 ?c5 ?_)
                    case c1 => exact one_cell _ _ _
                    case c2 => simp [Value.oneCell']
                    case c3 => unfold maxLen; omega
                    case c4 => omega
                    case c5 => have := H89; simp; omega
                    intro v10 w10 ho10 hg10 _
                    obtain ⟨a10, c10, rfl⟩ := own_shape1 ho10
                    have B10 : Below w.heap.size w w10 := (H9.out.2.1.alloc H9.out.2.1.size _).grown hg10 (by have := H9.out.2.1.size; simp; omega) (fun k hk => by have := (H9.out.1.lt k hk).1; have := H3.out.2.2.1.size; have := HZ.out.2.1.size; omega)
                    have H10s : w8.heap.size ≤ w10.heap.size := by have := hg10.size; simp at this; omega
                    have H10 := Lib.hid (And.intro ho10 B10)
                    clear ho10 hg10 B10
                    go_wp2_with (at_builtin; refine wpList_append_own _ rfl _ _ 33 rfl w8.heap.size tStr i0 (.string { data := #[] }) 1 16 Tryz.underlying33 HI.out.1 HI.out.2.1 HI.out.2.2.1 HI.out.2.2.2 rfl (by decide) _ _ _ rfl (H10.out.1.alloc _) ⟨w10.heap.size, 0, none⟩ 1 1 [.string s2] rfl rfl ?c1 ?c2 ?c3 ?c4 ?c5 ?_)
                    case c1 => exact one_cell _ _ _
                    case c2 => simp [Value.oneCell']
                    case c3 => unfold maxLen; omega
                    case c4 => omega
                    case c5 => have := H10s; simp; omega
                    intro v11 w11 ho11 hg11 _
                    have B11 : Below w.heap.size w w11 := (H10.out.2.alloc H10.out.2.size _).grown hg11 (by have := H10.out.2.size; simp; omega) (fun k hk => by have := (H10.out.1.lt k hk).1; have := H3.out.2.2.1.size; have := HZ.out.2.1.size; omega)
                    have H11 := Lib.hid (And.intro ho11 B11)
                    clear ho11 hg11 B11
                    go_wp2_with fail
                    go_ret2
                    refine ⟨v11, rfl, ?_, H11.out.2⟩
                    have hfd := fixD_eq (lost := lost) HK.out
                    rw [← H3.out.2.2.2.2, ← HZ.out.2.2.2.1, ← HQ.out.2.2.2.1, ← HQ.out.2.2.2.2.1] at hfd
                    have e1 : strV (if pk = true then PL n (ds.take k) else cols.getD k []) = .string s1 := by
                      rw [HS.out.1]; cases pk <;> simp [strV, HQ.out.2.2.2.2.2.1, H9.out.2.2.1]
                    have e2 : strV (if qk = true then QL n (ds.take k) else cols.getD (k + 1) []) = .string s2 := by
                      rw [HS.out.2]; cases qk <;> simp [strV, HQ.out.2.2.2.2.2.2.1, H9.out.2.2.2.1]
                    have e3 : (fixD cols lost).map strV = ((ds.take k).map strV ++ [.string s1]) ++ [.string s2] := by
                      rw [hfd, List.map_append]
                      simp only [List.map_cons, List.map_nil, e1, e2, List.append_assoc]
                      rfl
                    have h11 : w11.ownsRow w8.heap.size tStr 1 v11 (k + 1 + 1) ((fixD cols lost).map strV) := by
                      rw [e3]
                      have := H11.out.1
                      first | exact this | (simpa using this)
                    first
                      | exact RS.of_own h11
                      | (rw [if_pos rfl]; exact RS.of_own h11)
      · have hEE : FE = E := by rw [HFE.out, HR.out.2.2.2.2.2.2.2.1, ← HX.out.2.2.2.2.2.2]
        subst hEE
        have H3 := Lib.hid (HX.out.2.1.trans (b3.mono HX.out.2.1.size))
        clear b3
        go_wp2_with fail
        go_ret2
        refine ⟨_, rfl, ?_, H3.out⟩
        exact ⟨none, 0, rfl, Nat.le_refl _, .inl rfl⟩
end Go.Proofs.YtjoipibldahbhaaGreatDoor
/- RepairFixes: of every columns, whichever are lost, all are the document's, or its error: the walk. -/
namespace Go.Proofs.YtjoipibldahbhaaGreatDoor
open Go Go.RowKit
set_option maxRecDepth 100000
variable {w w' : World} {v vl : Value} {lost : List Int} {cols : List (List Nat)}
def fixR (cols : List (List Nat)) (lost : List Int) : List (List Nat) := if fixE cols lost = 0 then fixD cols lost else []
theorem FixP_any {w0 : World} {b F : Nat} {d : Nat → Int} (w : World) (hb : Below w0.heap.size w0 w) (hB : w0.heap.size ≤ b) (h : FixerAt w b F d) (hs : RS w v cols) (hl : w.rd vl (iV lost)) (hn : lost.length ≤ 1000) (hc : cols.length ≤ 1000) (hall : AllC cols) (hd : ∀ i, 0 ≤ d i ∧ d i < 4611686018427387904) :
    Calls Tryz.prog 16 #[.pointer (some ⟨F, 0, none⟩), v, vl] w fun e w' => ∃ v', e = .returned (.tuple #[v', .int .i64 (fixE cols lost)]) ∧ RS w' v' (fixR cols lost) ∧ Below w0.heap.size w0 w' := by
  unfold fixR
  by_cases he : fixE cols lost = 0
  · refine (Fix_ok w h hs hl hn he hall hd).mono ?_
    rintro e w' ⟨v', rfl, r1, k1, _⟩
    have ho := h.o1
    exact ⟨v', by rw [he], by rw [if_pos he]; exact r1, hb.trans (k1.below hb.size (by rintro k (rfl | rfl) <;> omega))⟩
  · by_cases hlo : lossE ((cols.length : Int) - 2) lost = 0
    · have hft : fitE (thereL cols lost) ≠ 0 := by rw [← fixE_fit hlo]; exact he
      refine (Fix_fit w ⟨F, 0, none⟩ hs hl hn hlo hall hft).mono ?_
      rintro e w' ⟨rfl, b1⟩
      exact ⟨_, rfl, by rw [if_neg he]; exact ⟨none, 0, rfl, Nat.le_refl _, .inl rfl⟩, hb.trans (b1.mono hb.size)⟩
    · refine (Fix_loss w ⟨F, 0, none⟩ hs hl hn hlo hc).mono ?_
      rintro e w' ⟨rfl, b1⟩
      exact ⟨_, rfl, by rw [if_neg he]; exact ⟨none, 0, rfl, Nat.le_refl _, .inl rfl⟩, hb.trans (b1.mono hb.size)⟩
theorem FixD_any (w : World) (hs : RS w v cols) (hl : w.rd vl (iV lost)) (hn : lost.length ≤ 1000) (hc : cols.length ≤ 1000) (hall : AllC cols) :
    Calls Tryz.prog 17 #[v, vl] w fun e w' => ∃ v', e = .returned (.tuple #[v', .int .i64 (fixE cols lost)]) ∧ RS w' v' (fixR cols lost) ∧ Below w.heap.size w w' := by
  by_cases hlo : lossE ((cols.length : Int) - 2) lost = 0
  · exact RefFix_ok w hs hl hn hall hlo
  · refine (RefFix_loss w hs hl hn hc hlo).mono ?_
    rintro e w' ⟨rfl, b1⟩
    have he : fixE cols lost ≠ 0 := by rw [fixE_loss hlo]; exact hlo
    exact ⟨_, rfl, by unfold fixR; rw [if_neg he]; exact ⟨none, 0, rfl, Nat.le_refl _, .inl rfl⟩, b1⟩
theorem fixR_len (hc : cols.length ≤ 1000) : (fixR cols lost).length ≤ 1000 := by
  unfold fixR
  split
  · next he =>
    have h1 := lossE_zero (fixE_zero he).1
    obtain ⟨k, hk⟩ : ∃ k, cols.length = k + 2 := ⟨cols.length - 2, by omega⟩
    rw [fixD_eq hk, List.length_append, List.length_take]
    simp; omega
  · simp
set_option maxHeartbeats 4000000 in
theorem fixes_walk {a a2 : Option Addr} {n c n2 c2 : Nat} {ds : List (List Nat)} {xs : List Int} {even : Bool} (W : World) (hN : Nam W) (hs : RS W (.slice a n c) ds) (hall : AllC ds) (h1 : W.rd (.slice a2 n2 c2) (iV xs)) (hn : xs.length = n2) (hnc : n2 ≤ c2) :
    Calls Tryz.prog 4 #[.slice a n c, .slice a2 n2 c2, .bool even] W fun e W' => e = .returned (.bool true) ∧ Below W.heap.size W W' := by
  obtain ⟨m2, hm2⟩ : ∃ m2, m2 = min n2 10 := ⟨_, rfl⟩
  have hmin : min (n2 : Int) 10 = (m2 : Int) := by omega
  have hm2n : m2 ≤ n2 := by omega
  have hrd := rd_take h1 hm2n
  obtain ⟨lost, hlost⟩ : ∃ l, l = xs.take m2 := ⟨_, rfl⟩
  have hll : lost.length ≤ 1000 := by rw [hlost, List.length_take]; omega
  rw [← hlost] at hrd
  have hC := cut_ok 20 even W.drew (hs.below (Below.refl _ _).drew) (by omega)
  have hA := cutL_all 20 even hall
  have hcl : (cutL ds 20 even).length ≤ 1000 := by rw [cutL_len]; omega
  obtain ⟨cols, hcols⟩ : ∃ c, c = cutL ds 20 even := ⟨_, rfl⟩
  rw [← hcols] at hC hA hcl
  have H0 := Lib.hid (And.intro hN (And.intro hrd (And.intro hC (And.intro hA (And.intro hcl hll)))))
  clear hN hrd hC hA hcl hll hs hall h1 hn hlost hcols hm2
  go_enter Tryz.func4, Tryz.ntmps4
  go_upto_region 1 with fail
  refine wp_region_mix_ext W.heap.size [] false (Nat.le_refl _) (by kernel_rfl) (by kernel_rfl) ?_
  intro _
  repeat ((with_reducible refine wpMix_light ?hh ?_); (case hh => rfl); go_big_quiet_step (fail); (with_reducible refine wpQuiet_nil ?_))
  (with_reducible refine wpMix_heavy ?hh ?hw (fun K hK => ?_)); (case hh => rfl); (case hw => rfl)
  go_simp
  refine H0.out.2.2.1.mono ?_
  rintro e w1 ⟨v1, rfl, o1, b1⟩
  have hb1 : Below W.heap.size W w1 := ((Below.refl W.heap.size W).drew).trans b1
  have H1 := Lib.hid (And.intro hb1 (RS.of_own o1))
  refine hK.out _ _ (Below.toExt hb1 (Nat.le_refl _)) ?_
  clear hK K
  try simp only [Act.put, List.setIfInBounds_toArray, List.set_cons_zero, List.set_cons_succ]
  clear hb1 o1 b1
  repeat ((with_reducible refine wpMix_light ?hh ?_); (case hh => rfl); go_big_quiet_step (fail); (with_reducible refine wpQuiet_nil ?_))
  refine wpMix_nil ?_
  go_wp2_with fail
  refine (NewF_any w1).mono ?_
  rintro e w2 ⟨b, F, rfl, hb, hf, b2⟩
  have H2 := Lib.hid (And.intro hb (And.intro hf b2))
  clear hb hf b2
  go_wp2_with fail
  have hB2 := H1.out.1.trans (H2.out.2.2.mono H1.out.1.size)
  refine (FixP_any (lost := lost) w2 H2.out.2.2 H2.out.1 H2.out.2.1 (H1.out.2.below H2.out.2.2) (H0.out.2.1.below hB2 (Nat.le_refl _)) H0.out.2.2.2.2.2 H0.out.2.2.2.2.1 H0.out.2.2.2.1 (fun i => ⟨Int.le_refl _, by omega⟩)).mono ?_
  rintro e w3 ⟨v3, rfl, rs3, b3⟩
  obtain ⟨E, hE⟩ : ∃ E, E = fixE cols lost := ⟨_, rfl⟩
  rw [← hE]
  have H3 := Lib.hid (And.intro rs3 (And.intro b3 (And.intro hE (H1.out.1.trans (b3.mono H1.out.1.size)))))
  clear rs3 b3 hE hB2
  go_wp2_with fail
  refine (FixD_any (lost := lost) w3 (H1.out.2.below H3.out.2.1) (H0.out.2.1.below H3.out.2.2.2 (Nat.le_refl _)) H0.out.2.2.2.2.2 H0.out.2.2.2.2.1 H0.out.2.2.2.1).mono ?_
  rintro e w4 ⟨v4, rfl, rs4, b4⟩
  rw [← H3.out.2.2.1]
  have H4 := Lib.hid (And.intro rs4 (And.intro (H3.out.1.below b4) (H3.out.2.2.2.trans (b4.mono H3.out.2.2.2.size))))
  clear rs4 b4
  go_wp2_with fail
  refine (wakes_any w4 (H0.out.1.below H4.out.2.2 H0.out.1.lt)).mono ?_
  rintro e w5 ⟨rfl, b5⟩
  have hQ := equal_ok w5 (H4.out.2.1.below b5) (H4.out.1.below b5) (fixR_len H0.out.2.2.2.2.1)
  have H5 := Lib.hid (And.intro hQ (H4.out.2.2.trans (b5.mono H4.out.2.2.size)))
  clear hQ b5
  go_wp2_with fail
  refine H5.out.1.mono ?_
  rintro e w6 ⟨rfl, b6⟩
  have H6 := Lib.hid (H5.out.2.trans (b6.mono H5.out.2.size))
  clear b6
  go_wp2_with fail
  go_returns
  exact ⟨rfl, H6.out⟩
end Go.Proofs.YtjoipibldahbhaaGreatDoor
