/- Several texts in one: No Bk Syn Kept Less ByQ Again Fix1. -/
import Derived.Test.YtjoipibldahbhaaGreatDoorKre
import Derived.Shelf.Strings.Repeat
import Derived.Shelf.Lay
import Derived.Ground.NamesProg
import Derived.Lib.Agree
import Derived.RangeFuncNested
import Derived.RangeFuncBound
import Derived.RangeFuncBox
import Derived.RangeFuncCalls
import Derived.RangeFuncLeaves
import Derived.Shelf.Abstract
import Derived.Shelf.RegionOpen
import Derived.WalkKit
import Derived.OwnWalkIn
import Derived.TacticsInMore
import Derived.LoopNIn
import Derived.LoopIn
/- Noughts: a contract over the shelf's strings.Repeat. -/
namespace Go.Proofs.YtjoipibldahbhaaGreatDoor
open Go Go.RowKit Go.Shelf
set_option maxRecDepth 100000
shelf_lay Lays.n105 Nm 105 at Tryz as laysRepeat
theorem repExtra : Builder.Extra Tryz.prog laysRepeat_ren where
  sizeBuilder := by kernel_rfl
  liesBuilder := by kernel_rfl
  t5 := laysRepeat.t5
  a5 := laysRepeat.a5
  z5 := laysRepeat.z5
  v5 := laysRepeat.v5
  infoByte := by kernel_rfl
  cellsByte := by kernel_rfl
  sizeByte := by kernel_rfl
  neB5 := by decide
theorem repeat_zeros (n : Nat) : (⟨(Lib.repeatL (mk [0]).data.toList n).toArray⟩ : ByteArray) = mk (zeros n) := by
  apply ByteArray.ext
  apply Array.ext'
  rw [mk_data]
  show Lib.repeatL (mk [0]).data.toList n = _
  rw [mk_data]
  induction n with
  | zero => rfl
  | succ n ih =>
    unfold zeros at *
    rw [List.replicate_succ]
    show [0].map UInt8.ofNat ++ Lib.repeatL ([0].map UInt8.ofNat) n = _
    rw [ih]
    rfl
theorem Noughts_ok (n : Nat) (w : World) (hn : n ≤ 65536) : Calls Tryz.prog 51 #[.int .i64 (n : Int)] w fun e w' => e = .returned (strV (zeros n)) ∧ Below w.heap.size w w' := by
  have hR : Calls Tryz.prog 64 #[.string { data := #[0] }, .int .i64 (n : Int)] w fun e w' => e = .returned (strV (zeros n)) ∧ Below w.heap.size w w' := by
    have := Any.strings_Repeat laysRepeat repExtra (mk [0]) n w (by omega) (by rw [mk_size]; simp; omega)
    rw [repeat_zeros] at this
    exact this
  have hm : min (n : Int) 65536 = (n : Int) := by omega
  have hm2 : max 0 (n : Int) = (n : Int) := by omega
  go_enter Tryz.func51, Tryz.ntmps51
  go_wp2_with fail
  refine hR.mono ?_
  rintro e w1 ⟨rfl, b1⟩
  go_wp2_with fail
  go_returns
  exact ⟨rfl, b1⟩
end Go.Proofs.YtjoipibldahbhaaGreatDoor
/- slices.Backward over texts: the iterator's contract. -/
namespace Go.Proofs.YtjoipibldahbhaaGreatDoor
open Go Go.RowKit Go.Shelf
attribute [local go_sem] Oper.semAt_some
set_option maxRecDepth 100000
/-- A column of m bytes. -/
abbrev Col (m : Nat) := { l : List Nat // AllB l ∧ l.length = m }
def dC (m : Nat) : Col m := ⟨zeros m, zeros_all m, zeros_len m⟩
abbrev enB {m : Nat} (x : Nat × Col m) : Array Value := #[.int .i64 (x.1 : Int), strV x.2.1]
def bkF {m : Nat} (cols : List (Col m)) (j : Nat) : Nat × Col m := (cols.length - 1 - j, cols.getD (cols.length - 1 - j) (dC m))
def bkT {m : Nat} (cols : List (Col m)) (k : Nat) : List (Nat × Col m) := (List.range k).map (bkF cols)
theorem bkT_succ {m : Nat} (cols : List (Col m)) (k : Nat) : bkT cols (k + 1) = bkT cols k ++ [bkF cols k] := by unfold bkT; rw [List.range_succ, List.map_append]; rfl
theorem bkT_len {m : Nat} (cols : List (Col m)) (k : Nat) : (bkT cols k).length = k := by simp [bkT]
/-- What the columns that came are, the last one first. -/
def accC {m : Nat} (pre : List (Nat × Col m)) : List (List Nat) := pre.foldl (fun a x => x.2.1 :: a) []
theorem accC_snoc {m : Nat} (pre : List (Nat × Col m)) (x : Nat × Col m) : accC (pre ++ [x]) = x.2.1 :: accC pre := by unfold accC; rw [List.foldl_append]; rfl
theorem accC_all {m : Nat} : ∀ pre : List (Nat × Col m), One m (accC pre) := fun pre => by
  have : ∀ (pre : List (Nat × Col m)) (a : List (List Nat)), One m a → One m (pre.foldl (fun a x => x.2.1 :: a) a) := fun pre => by
    induction pre with
    | nil => intro a h; exact h
    | cons x pre ih =>
      intro a h
      rw [List.foldl_cons]
      refine ih _ fun l hl => ?_
      rcases List.mem_cons.1 hl with rfl | hl
      · exact x.2.2
      · exact h l hl
  exact this pre [] (fun l hl => by cases hl)
theorem accC_bk {m : Nat} (cols : List (Col m)) : ∀ k, k ≤ cols.length → accC (bkT cols k) = (cols.drop (cols.length - k)).map (·.1)
  | 0, _ => by
    rw [Nat.sub_zero, List.drop_length]; rfl
  | k + 1, h => by
    have hi : cols.length - (k + 1) < cols.length := by omega
    rw [bkT_succ, accC_snoc, accC_bk cols k (by omega)]
    have e : cols.drop (cols.length - (k + 1)) = cols[cols.length - (k + 1)] :: cols.drop (cols.length - k) := by
      rw [List.drop_eq_getElem_cons hi, show cols.length - (k + 1) + 1 = cols.length - k by omega]
    rw [e, List.map_cons]
    congr 1
    unfold bkF
    simp only
    rw [show cols.length - 1 - k = cols.length - (k + 1) by omega]
    simp [List.getD, hi]
/-- What a round keeps: what lay below n₀, and the iterator's own box. -/
def KpB (n₀ Bs : Nat) (A B : World) : Prop := Below n₀ A B ∧ B.heap[Bs]? = A.heap[Bs]?
theorem kpB_t {n₀ Bs : Nat} {A B C : World} (h : KpB n₀ Bs A B) (k : KpB n₀ Bs B C) : KpB n₀ Bs A C := ⟨h.1.trans k.1, k.2.trans h.2⟩
theorem kpB_b {n₀ Bs : Nat} {w : World} (hn : n₀ ≤ w.heap.size) (hB : Bs < w.heap.size) (W : World) (l : Nat) (o o' : Obj) (hl : w.heap.size ≤ l) (h : W.heap[l]? = some o) (_ : o.isCells = false) (_ : o.isWalk = false) : KpB n₀ Bs W (W.putObj l o') :=
  ⟨belowK_b hn W l o o' hl h ‹_› ‹_›, World.putObj_heap_other (by omega)⟩
set_option maxHeartbeats 2000000 in
theorem back1_in {m : Nat} (n : Nat) (hn : 1 ≤ n) (l Bs n₀ b off len cap : Nat) (cols : List (Col m)) (hlen : cols.length = len) (hsm : len ≤ 100000) (hb : b < n₀) (J Jx : List (Nat × Col m) → World → Prop)
    (hY : ∀ pre x W, J pre W → pre.length < len → YieldAt Fence.wide (n - 1) Tryz.prog l (enB x) W fun e W' =>
      (e = .returned (.bool true) ∧ J (pre ++ [x]) W' ∧ KpB n₀ Bs W W') ∨ (e = .returned (.bool false) ∧ Jx (pre ++ [x]) W'))
    (W : World) (hBs : W.cell? ⟨Bs, 0, none⟩ = some (.slice (some ⟨b, off, none⟩) len cap)) (hc : ∀ j, j < len → W.cell? ⟨b, off + j, none⟩ = some (strV (cols.getD j (dC m)).1)) (h0 : J [] W) :
    CallsIn Fence.wide n Tryz.prog 65 #[.func (.yield l) #[] #[], .pointer (some ⟨Bs, 0, none⟩)] W fun e W' => (∃ v, e = .returned v) ∧
      ((∃ ys, ys = bkT cols len ∧ J ys W') ∨ (∃ pre, (∃ k, k ≤ len ∧ pre = bkT cols k) ∧ Jx pre W')) := by
  refine callsIn_of_wp Tryz.func65 rfl trivial ?_ rfl
  simp only [Tryz.ntmps65, List.size_toArray, List.length_cons, List.length_nil, Nat.reduceAdd, Nat.reduceSub, Array.replicate_succ, Array.replicate_zero, List.push_toArray, List.append_toArray, List.nil_append, List.cons_append]
  gi_wp2
  gi_loopw [3] (fun i wr => ∃ k : Nat, k ≤ len ∧ i = .int .i64 ((len : Int) - 1 - (k : Int)) ∧ J (bkT cols k) wr ∧ KpB n₀ Bs W wr)
    (fun i _ => (intOf i + 1).toNat)
  case atStart => exact ⟨0, Nat.zero_le _, by simp, h0, Below.refl _ _, rfl⟩
  case round =>
    obtain ⟨k, hk, rfl, hJs, hnx⟩ := hrel
    by_cases hlt : k < len
    · obtain ⟨i, hi⟩ : ∃ i : Nat, (len : Int) - 1 - (k : Int) = (i : Int) := ⟨len - 1 - k, by omega⟩
      rw [hi]
      have hil : i < len := by omega
      have hcx : wr.cell? ⟨b, off + i, none⟩ = some (strV (cols.getD i (dC m)).1) := (hnx.1.cell (p := ⟨b, off + i, none⟩) hb).trans (hc i hil)
      have hBx : wr.cell? ⟨Bs, 0, none⟩ = some (.slice (some ⟨b, off, none⟩) len cap) := by unfold World.cell? at *; rw [hnx.2]; exact hBs
      have hbk : bkF cols k = (i, cols.getD i (dC m)) := by unfold bkF; rw [show cols.length - 1 - k = i by omega]
      obtain ⟨x, hx⟩ : ∃ x, x = cols.getD i (dC m) := ⟨_, rfl⟩
      rw [← hx] at hcx hbk
      clear hx
      obtain ⟨fn, tmps, assign, body, hy, hR⟩ := hY _ (i, x) wr hJs (by rw [bkT_len]; exact hlt)
      replace hy : (Instr.yield l #[.int .i64 (i : Int), strV x.1]).run Tryz.prog wr = .ok (.round l fn tmps assign body) wr := hy
      gi_wp2
      refine hR.mono ?_
      rintro e W3 (⟨rfl, hJ3, hk3⟩ | ⟨rfl, hJx3⟩)
      · gi_wp2
        go_roundw
        case rel => exact ⟨k + 1, by omega, by rw [show (len : Int) - 1 - ((k + 1 : Nat) : Int) = (i : Int) - 1 by omega], by rw [bkT_succ, hbk]; exact hJ3, kpB_t hnx hk3⟩
        case measure => simp [intOf]
      · gi_wp2
        refine bodyPost_ret (results_none rfl _ _ _) rfl ?_
        exact ⟨⟨_, rfl⟩, .inr ⟨_, ⟨k + 1, by omega, by rw [bkT_succ, hbk]⟩, hJx3⟩⟩
    · obtain rfl : k = len := by omega
      rw [show (k : Int) - 1 - (k : Int) = -1 by omega]
      gi_wp2
      go_end0
      exact ⟨⟨_, rfl⟩, .inl ⟨_, rfl, hJs⟩⟩
theorem back_any (a : Option Addr) (m c : Nat) (w : World) : Calls Tryz.prog 52 #[.slice a m c] w fun e w' => e = .returned (.func (.func 65) #[] #[.pointer (some ⟨w.heap.size, 0, none⟩)]) ∧ w' = w.alloc (.cells #[.slice a m c] 33) := by
  have hmf := makeF
  go_enter Tryz.func52, Tryz.ntmps52
  go_wp2_with fail
  go_returns
  exact ⟨rfl, rfl⟩
end Go.Proofs.YtjoipibldahbhaaGreatDoor
/- The program's parities: Make: contracts. -/
namespace Go.Proofs.YtjoipibldahbhaaGreatDoor
open Go Go.RowKit Go.Shelf
attribute [local go_sem] Oper.semAt_some
set_option maxRecDepth 100000
variable {w w' : World} {v : Value} {ls : List (List Nat)} {B : Nat}
theorem to_cols {n : Nat} : ∀ ls : List (List Nat), One n ls → ∃ cols : List (Col n), cols.map (·.1) = ls
  | [], _ => ⟨[], rfl⟩
  | l :: r, h => by
    obtain ⟨cs, hcs⟩ := to_cols r fun x hx => h x (List.mem_cons_of_mem _ hx)
    exact ⟨⟨l, h l (List.mem_cons_self ..)⟩ :: cs, by rw [List.map_cons, hcs]⟩
theorem back_stops {m : Nat} (n : Nat) (hn : 1 ≤ n) (Bs n₀ b off len cap : Nat) (cols : List (Col m)) (hlen : cols.length = len) (hsm : len ≤ 100000) (hb : b < n₀) (w : World) (hBl : Bs < w.heap.size) (hn₀ : n₀ ≤ w.heap.size)
    (hBs : w.cell? ⟨Bs, 0, none⟩ = some (.slice (some ⟨b, off, none⟩) len cap)) (hc : ∀ j, j < len → w.cell? ⟨b, off + j, none⟩ = some (strV (cols.getD j (dC m)).1)) :
    SeqStopsK Fence.wide n Tryz.prog 65 #[.pointer (some ⟨Bs, 0, none⟩)] (enB (m := m)) (KpB n₀ Bs) (fun ys => ys = bkT cols len) (fun pre => ∃ k, k ≤ len ∧ pre = bkT cols k) len w := fun l J Jx W hW _ _ hY h0 =>
  back1_in n hn l Bs n₀ b off len cap cols hlen hsm hb J Jx hY W ((hW.cell (p := ⟨Bs, 0, none⟩) hBl).trans hBs) (fun j hj => (hW.cell (p := ⟨b, off + j, none⟩) (Nat.lt_of_lt_of_le hb hn₀)).trans (hc j hj)) h0
set_option maxHeartbeats 2000000 in
theorem Make_ok (n : Nat) (w : World) (h : RS w v ls) (h2 : 2 ≤ ls.length) (h30 : ls.length ≤ 30) (ho : One n ls) (hn : n ≤ 65536) :
    Calls Tryz.prog 33 #[v] w fun e w' => e = .returned (.tuple #[strV (PL n ls), strV (QL n ls), .int .i64 0]) ∧ Below w.heap.size w w' := by
  rcases h.cases with ⟨rfl, a, c, rfl⟩ | ⟨hne, b, o, c, rfl, hc, hcell⟩
  · simp at h2
  obtain ⟨m, hm⟩ : ∃ m, m = ls.length := ⟨_, rfl⟩
  have hA := fun w' (hb : Below w.heap.size w w') => Add_any w' (h.below hb) (by omega) ho.all
  obtain ⟨l0, r0, hl0⟩ : ∃ l r, ls = l :: r := by cases ls with
    | nil => exact absurd rfl hne
    | cons a r => exact ⟨a, r, rfl⟩
  have hadd : addL ls = PL n ls := by rw [hl0]; exact addL_PL fun x hx => (ho x (by rw [hl0]; exact hx)).2
  rw [ho.fit hn, if_pos rfl, hadd] at hA
  rw [← hm] at h2 h30 hc hA ⊢
  have HA := Lib.hid hA
  have HC := Lib.hid (And.intro hcell (And.intro hm (And.intro ho h)))
  clear hcell hm ho hne h hA hl0 hadd
  refine (callsIn_wide (n := 6)).1 ?_
  refine callsIn_of_wp_marks Tryz.func33 rfl trivial ?_ rfl
  simp only [Tryz.ntmps33, List.size_toArray, List.length_cons, List.length_nil, Nat.reduceAdd, Nat.reduceSub, Array.replicate_succ, Array.replicate_zero, List.push_toArray, List.append_toArray, List.nil_append, List.cons_append]
  gi_wp2_with fail
  have hb0 : Below w.heap.size w (w.alloc (.cells #[Value.string { data := #[] }] tStr)) := (Below.refl _ _).alloc (Nat.le_refl _) _
  refine ⟨trivial, (callsIn_wide.2 (HA.out _ hb0)).mono ?_⟩
  rintro e w1 ⟨rfl, b1⟩
  have r1 := (World.row.new w [Value.string { data := #[] }] tStr).below b1 (by simp)
  have B1 := Lib.hid (hb0.trans (b1.mono hb0.size))
  obtain ⟨g, hg⟩ : ∃ g, g = w.heap.size := ⟨_, rfl⟩
  rw [← hg] at r1
  simp only [← hg]
  have HG := Lib.hid hg
  have hsz := mk_size (PL n ls)
  rw [PL_len] at hsz
  obtain ⟨sp, hsp⟩ : ∃ s, s = mk (PL n ls) := ⟨_, rfl⟩
  rw [← hsp] at hsz ⊢
  have HS := Lib.hid hsp
  have R1 := Lib.hid r1
  clear hb0 b1 r1 hg hsp
  gi_wp2_with fail
  refine ⟨trivial, (callsIn_wide.2 (Noughts_ok n w1 hn)).mono ?_⟩
  rintro e w2 ⟨rfl, b2⟩
  have r2 := R1.out.below b2 R1.out.lt
  have c3 := r2.cell 0 rfl
  have z3 := r2.free
  have g3 := r2.lt
  have R2 := Lib.hid (And.intro r2 (B1.out.trans (b2.mono B1.out.size)))
  clear b2 r2
  gi_wp2_with fail
  refine ⟨trivial, (callsIn_wide.2 (back_any _ _ _ _)).mono ?_⟩
  rintro e w3 ⟨rfl, rfl⟩
  have r3 := R2.out.1.set 0 (strV (zeros n))
  have B3 : Below w.heap.size w (w2.setCell ⟨g, 0, none⟩ (strV (zeros n))) := R2.out.2.setCell (by rw [HG.out]; exact Nat.le_refl _) _
  obtain ⟨w3, hw3⟩ : ∃ w3, w3 = w2.setCell ⟨g, 0, none⟩ (strV (zeros n)) := ⟨_, rfl⟩
  rw [← hw3] at r3 B3 ⊢
  clear c3 z3 g3 hw3
  obtain ⟨cols, hcols⟩ := to_cols ls HC.out.2.2.1
  have hcl : cols.length = m := by rw [HC.out.2.1, ← hcols, List.length_map]
  have hbw : b < w.heap.size := by
    obtain ⟨l, hl⟩ : ∃ l, ls[0]? = some l := ⟨_, List.getElem?_eq_getElem (by have := HC.out.2.1; omega)⟩
    have := block_lt_of_cell (HC.out.1 0 l hl)
    exact this
  obtain ⟨w4, hw4⟩ : ∃ w4, w4 = w3.alloc (.cells #[.slice (some ⟨b, o, none⟩) m c] 33) := ⟨_, rfl⟩
  have h34 : Below w3.heap.size w3 w4 := by rw [hw4]; exact (Below.refl _ _).alloc (Nat.le_refl _) _
  have h4s : w4.heap.size = w3.heap.size + 1 := by rw [hw4]; simp
  have hbx := (World.row.new w3 [.slice (some ⟨b, o, none⟩) m c] 33).cell 0 rfl
  rw [show w3.alloc (.cells [.slice (some ⟨b, o, none⟩) m c].toArray 33) = w4 from hw4.symm] at hbx
  have hgw3 : g < w3.heap.size := r3.lt
  have B4 : Below w.heap.size w w4 := B3.trans (h34.mono B3.size)
  have hst := back_stops 5 (by omega) w3.heap.size w.heap.size b o m c cols hcl (by omega) hbw w4 (by omega) B4.size hbx (fun j hj => by
    have hj2 : j < cols.length := by omega
    have e : ls[j]? = some (cols.getD j (dC n)).1 := by rw [← hcols, List.getElem?_map]; simp [List.getD, hj2]
    exact (B4.cell (p := ⟨b, o + j, none⟩) hbw).trans (HC.out.1 j _ e))
  have r4 := r3.below h34 hgw3
  rw [← hw4]
  have H4 := Lib.hid (And.intro r4 (And.intro B4 (And.intro hst (And.intro hw4 hcols))))
  clear hw4 r4 B4 hst hbx h34 r3 B3 hcols
  have hgl4 : w.heap.size ≤ w4.heap.size := H4.out.2.1.size
  have hBs4 : w3.heap.size < w4.heap.size := by omega
  have hg0 : w.heap.size ≤ g := by rw [HG.out]; exact Nat.le_refl _
  gi_wp2_with fail
  refine wpIn_rangeFunc_ownG rfl (by omega) (gf := 65) (lb := #[.pointer (some ⟨w3.heap.size, 0, none⟩)]) rfl trivial (enters_of Tryz.func65 (by kernel_rfl) rfl)
    H4.out.2.2.1 kpB_t (kpB_b hgl4 hBs4) (Below.refl _ _) (fun _ => rfl)
    (fun pre W => (W.cell? ⟨g, 0, none⟩ = some (strV (QL n (accC pre))) ∧ W.frozen? ⟨g, 0, none⟩ = false) ∧ (Below w.heap.size w W ∧ w4.heap.size ≤ W.heap.size))
    (fun _ _ _ => False)
    (OwnFrom.and (Own.from (fun s A B row hs hg hr => ⟨cell_kept hs.1 hg hr, (frozen_kept hs.1 hg hr).trans hs.2⟩) _) (OwnFrom.and (ownFrom_below (Nat.le_refl _) hgl4) (fun s A B row hs hg _ => Nat.le_trans hs hg.size)))
    (fun _ _ _ _ _ hs _ _ => hs)
    ⟨⟨by rw [show accC ([] : List (Nat × Col n)) = [] from rfl, QL_nil]; exact H4.out.1.cell 0 rfl, H4.out.1.free 0⟩, H4.out.2.1, Nat.le_refl _⟩
    (fun x => { tmps := #[.slice (some ⟨b, o, none⟩) m c, undef, .string sp, .pointer (some ⟨g, 0, none⟩), .int .i64 0, undef, strV x.2.1, .slice (some ⟨b, o, none⟩) m c, .int .i64 m, .bool (decide ((m : Int) < 2)), .bool (decide ((m : Int) < 2)), .slice (some ⟨b, o, none⟩) m c, .int .i64 m, .bool (decide (30 < (m : Int))), .bool (decide ((m : Int) < 2) || decide (30 < (m : Int))), .tuple #[.string sp, .int .i64 0], .slice (some ⟨b, o, none⟩) m c, .tuple #[.string sp, .int .i64 0], .string sp, .int .i64 0, .int .i64 0, .bool false, undef, .string sp, .int .i64 n, strV (zeros n), .slice (some ⟨b, o, none⟩) m c, .func (.func 65) #[] #[.pointer (some ⟨w3.heap.size, 0, none⟩)], .int .i64 (x.1 : Int), strV x.2.1, undef, undef, undef, undef, undef, undef, undef, undef], defers := [] }) ?assign ?body ?done ?stop
  case assign =>
    intro l x W K hK
    gi_wp2
    exact hK
  case body =>
    rintro l pre x W ⟨⟨hcq, hfq⟩, hBW, hsW⟩ _
    have hD := Double_ok (QL n (accC pre)) x.2.1 W (QL_all (accC_all pre).all) x.2.2.1 (by rw [QL_len]; exact x.2.2.2.symm) (by rw [QL_len]; exact hn)
    rw [QL_cons x.2.2.2 x.2.2.1 (accC_all pre).all, ← accC_snoc] at hD
    have HD := Lib.hid hD
    clear hD
    gi_wp2_with fail
    refine ⟨trivial, (CallsIn.inRound l (callsIn_wide.2 HD.out)).mono ?_⟩
    rintro e W1 ⟨rfl, b1⟩
    have hgW := block_lt_of_cell hcq
    have hq1 := (b1.cell (p := ⟨g, 0, none⟩) hgW).trans hcq
    have hz1 : W1.frozen? ⟨g, 0, none⟩ = false := by rw [← hfq]; unfold World.frozen?; rw [b1.block g hgW]
    have hg1 : g < W1.heap.size := Nat.lt_of_lt_of_le hgW b1.size
    have HB := Lib.hid (And.intro b1 (And.intro hBW (And.intro hsW hcq)))
    have hgw3b : g ≠ w3.heap.size := by omega
    clear b1 hBW hcq hfq
    gi_wp2_with fail
    have hs1 := HB.out.1.size
    have hW4 := HB.out.2.2.1
    refine ⟨⟨by simp [World.setCell]; omega, fun k ob hk hko hcell => ?_⟩, ⟨(HB.out.1.mono (Nat.le_trans hgl4 hW4)).setCell hg0 _, ?_⟩, ⟨World.cell?_setCell_same' _ _ _ (by rw [hq1]; rfl), by rw [World.frozen?_setCell]; exact hz1⟩, (HB.out.2.1.trans (HB.out.1.mono (Nat.le_trans hgl4 hW4))).setCell hg0 _, by simp [World.setCell]; omega⟩
    · have hkl := (Array.getElem?_eq_some_iff.1 hko).1
      have hkg : k ≠ g := by omega
      rw [← hko, ← HB.out.1.block k hkl]
      simp [World.setCell, Array.getElem?_modify, Ne.symm hkg]
    · rw [← HB.out.1.block w3.heap.size (by omega)]
      simp [World.setCell, Array.getElem?_modify, hgw3b]
  case done =>
    rintro D ys W hD rfl ⟨⟨hcq, hfq⟩, hBW, hsW⟩ hK
    rw [accC_bk cols m (by omega), show cols.length - m = 0 by omega, List.drop_zero, H4.out.2.2.2.2] at hcq
    have hgW := block_lt_of_cell hcq
    gi_wp2_with fail
    gi_region
    all_goals
      gi_wp2_with fail
      have hKs := (KeepsOthers.setCell W ⟨g, 0, none⟩ (strV (QL n ls))).same D _ hK rfl
      have hcs := World.cell?_setCell_same' W ⟨g, 0, none⟩ (strV (QL n ls)) (by rw [hcq]; rfl)
      have hbs := hBW.setCell (p := ⟨g, 0, none⟩) hg0 (strV (QL n ls))
      obtain ⟨W', h1, h2, h3, h4⟩ : ∃ W', W' = (W.setCell ⟨g, 0, none⟩ (strV (QL n ls))).drew ∧ W'.heap[D]? = some (.deferred (some [])) ∧ W'.cell? ⟨g, 0, none⟩ = some (strV (QL n ls)) ∧ Below w.heap.size w W' := ⟨_, rfl, hKs, hcs, hbs.drew⟩
      rw [show (W.setCell ⟨g, 0, none⟩ (Value.string (mk (QL n ls)))).drew = W' from h1.symm]
      refine ⟨by simp, .inl ⟨_, _, rfl, run_takeDeferred h2, ?_⟩⟩
      have hc5 := cell_kept h3 (grownBy_putObj' _ D (.deferred none)) (fun r e => by cases e; exact ⟨_, h2, rfl⟩)
      refine ⟨.tuple #[.string sp, strV (QL n ls), .int .i64 0], ?_, by rw [HS.out], h4.trans (belowK_b (w := w) (Nat.le_refl _) W' D _ _ (by omega) h2 rfl rfl)⟩
      simp [results, Tryz.f33, go_sem, hc5]
  case stop =>
    rintro D c pre W _ _ h _
    exact h.elim
theorem results_tct {fn : Func} {p q r : Tmp} {ty : TypeId} (h : fn.results = #[.tmp p, .cell q ty, .tmp r]) (tmps : Array Value) (P : Program) (w : World) :
    (results fn tmps).run P w = ((asAddr (tmps.getD q undef)).run P w).andThen fun a w₁ => ((loadVar ty a).run P w₁).andThen fun v w₂ => .ok (.tuple #[tmps.getD p undef, v, tmps.getD r undef]) w₂ := by
  simp only [results, h]
  simp [Sem.run_bind, Result.andThen]
theorem Make_range (w : World) (h : RS w v ls) (hr : ls.length < 2 ∨ 30 < ls.length) :
    Calls Tryz.prog 33 #[v] w fun e w' => e = .returned (.tuple #[.string { data := #[] }, .string { data := #[] }, .int .i64 3]) ∧ Below w.heap.size w w' := by
  obtain ⟨a, c, rfl, hc, _⟩ := h
  obtain ⟨m, hm⟩ : ∃ m, m = ls.length := ⟨_, rfl⟩
  rw [← hm] at hr hc ⊢
  clear hm
  by_cases h1 : m < 2
  · go_enter Tryz.func33, Tryz.ntmps33
    go_wp2_with fail
    refine bodyPost_ret ((results_tct rfl _ _ _).trans ?_) rfl ⟨rfl, (by repeat' (first | (with_reducible exact Below.refl _ _) | (with_reducible assumption) | (with_reducible refine Below.setCell ?_ ?_ _) | (with_reducible refine Below.ext ?_ _ ?_) | (with_reducible refine Below.alloc ?_ ?_ _) | (with_reducible refine Below.drew ?_) | (with_reducible refine Below.drewN ?_ _) | (with_reducible exact Nat.le_refl _) | (dsimp only; omega) | (simp <;> omega)))⟩
    go_simp
  · have h2 : 30 < m := by omega
    go_enter Tryz.func33, Tryz.ntmps33
    go_wp2_with fail
    refine bodyPost_ret ((results_tct rfl _ _ _).trans ?_) rfl ⟨rfl, (by repeat' (first | (with_reducible exact Below.refl _ _) | (with_reducible assumption) | (with_reducible refine Below.setCell ?_ ?_ _) | (with_reducible refine Below.ext ?_ _ ?_) | (with_reducible refine Below.alloc ?_ ?_ _) | (with_reducible refine Below.drew ?_) | (with_reducible refine Below.drewN ?_ _) | (with_reducible exact Nat.le_refl _) | (dsimp only; omega) | (simp <;> omega)))⟩
    go_simp
theorem Make_fit (w : World) (h : RS w v ls) (h2 : 2 ≤ ls.length) (h30 : ls.length ≤ 30) (hall : AllC ls) (hf : fitE ls ≠ 0) :
    Calls Tryz.prog 33 #[v] w fun e w' => e = .returned (.tuple #[.string { data := #[] }, .string { data := #[] }, .int .i64 (fitE ls)]) ∧ Below w.heap.size w w' := by
  have hA := fun w' (hb : Below w.heap.size w w') => Add_any w' (h.below hb) (by omega) hall
  rw [if_neg hf] at hA
  have h24 := (fitE_cases ls).resolve_left hf
  obtain ⟨a, c, rfl, hc, _⟩ := h
  obtain ⟨m, hm⟩ : ∃ m, m = ls.length := ⟨_, rfl⟩
  rw [← hm] at h2 h30 hc hA ⊢
  clear hm
  rcases h24 with h24 | h24
  all_goals
    rw [h24] at hA ⊢
    have HA := Lib.hid hA
    clear hA h24 hf
    go_enter Tryz.func33, Tryz.ntmps33
    go_wp2_with fail
    have hb0 : Below w.heap.size w (w.alloc (.cells #[Value.string { data := #[] }] tStr)) := (Below.refl _ _).alloc (Nat.le_refl _) _
    refine (HA.out _ hb0).mono ?_
    rintro e w1 ⟨rfl, b1⟩
    have r1 := (World.row.new w [Value.string { data := #[] }] tStr).below b1 (by simp)
    have c1 := r1.cell 0 rfl
    have z1 := r1.free
    have l1 := r1.lt
    have B1 := hb0.trans (b1.mono hb0.size)
    clear hb0 b1
    go_wp2_with fail
    refine bodyPost_ret ((results_tct rfl _ _ _).trans ?_) rfl ⟨rfl, B1.setCell (Nat.le_refl _) _⟩
    go_simp
end Go.Proofs.YtjoipibldahbhaaGreatDoor
/- What a call that changes some old blocks leaves: plain laws; a row that is being brought back. -/
namespace Go.Proofs.YtjoipibldahbhaaGreatDoor
open Go Go.RowKit
set_option maxRecDepth 100000
/-- All old blocks but those of S are as they were. -/
structure Kept (S : Nat → Prop) (w w' : World) : Prop where
  os : w'.os = w.os
  tape : w'.tape = w.tape
  output : w'.output = w.output
  size : w.heap.size ≤ w'.heap.size
  block : ∀ k, k < w.heap.size → ¬ S k → w'.heap[k]? = w.heap[k]?
variable {S : Nat → Prop} {w w' w'' : World} {v : Value}
theorem Kept.refl (S : Nat → Prop) (w : World) : Kept S w w := ⟨rfl, rfl, rfl, Nat.le_refl _, fun _ _ _ => rfl⟩
theorem Kept.trans (h : Kept S w w') (h2 : Kept S w' w'') : Kept S w w'' :=
  ⟨h2.os.trans h.os, h2.tape.trans h.tape, h2.output.trans h.output, Nat.le_trans h.size h2.size, fun k hk hn => (h2.block k (Nat.lt_of_lt_of_le hk h.size) hn).trans (h.block k hk hn)⟩
theorem Kept.of_below (S : Nat → Prop) (h : Below w.heap.size w w') : Kept S w w' := ⟨h.os, h.tape, h.output, h.size, fun k hk _ => h.block k hk⟩
theorem Kept.set (S : Nat → Prop) {a : Addr} (h : S a.block) (x : Value) : Kept S w (w.setCell a x) :=
  ⟨rfl, rfl, rfl, by simp [World.setCell], fun k _ hn => by
    have : a.block ≠ k := fun e => hn (by rw [← e]; exact h)
    simp [World.setCell, Array.getElem?_modify, this]⟩
theorem Kept.of_turned (S : Nat → Prop) {g : Nat} {cs : List Value} {t : TypeId} (h : Turned w w' g cs t) (hg : S g) : Kept S w w' :=
  ⟨h.1.os, h.1.tape, h.1.output, h.1.size, fun k hk hn => h.1.block k hk fun e => by cases e; exact hn hg⟩
theorem Kept.row (h : Kept S w w') {g : Nat} {cs : List Value} {t : TypeId} (hr : w.row g cs t) (hn : ¬ S g) : w'.row g cs t := by
  have := hr.lt
  unfold World.row at *
  rw [h.block g this hn]; exact hr
theorem Kept.below (h : Kept S w w') {B : Nat} (hB : B ≤ w.heap.size) (hS : ∀ k, S k → B ≤ k) : Below B w w' :=
  ⟨h.os, h.tape, h.output, h.size, fun k hk => h.block k (by omega) fun hs => by have := hS k hs; omega⟩
/-! A row that is being brought back. -/
abbrev tRow : TypeId := 78
abbrev tFx : TypeId := 72
def rcs (F gc cap k n : Nat) : List Value := [.pointer (some ⟨F, 0, none⟩), .slice (some ⟨gc, 0, none⟩) (k + 2) cap, .int .i64 (k : Int), .int .i64 (n : Int)]
/-- A Fixer's cells: its field, and its counts. -/
def fxc (b : Nat) (d : Nat → Int) : List Value := .pointer (some ⟨b, 0, none⟩) :: (List.range 8).map fun i => .int .i64 (d i)
structure RowAt (w : World) (b F gc gr cap k n : Nat) (d : Nat → Int) (cols : List (List Nat)) : Prop where
  fld : FieldAt w b
  fx : w.row F (fxc b d) tFx
  row : w.row gr (rcs F gc cap k n) tRow
  own : w.ownsRow gc tStr 1 (.slice (some ⟨gc, 0, none⟩) (k + 2) cap) (k + 2) (cols.map strV)
  len : cols.length = k + 2
  o1 : b < F
  o2 : F < gc
  o3 : gc < gr
variable {b F gc gr cap k n : Nat} {d : Nat → Int} {cols : List (List Nat)}
theorem FieldAt.lt (h : FieldAt w b) : b < w.heap.size := h.elim World.row.lt World.row.lt
theorem FieldAt.below (h : FieldAt w b) {B : Nat} (hb : Below B w w') (hB : b < B) : FieldAt w' b := h.imp (fun h => h.below hb hB) fun h => h.below hb hB
theorem RowAt.below (h : RowAt w b F gc gr cap k n d cols) (hb : Below w.heap.size w w') : RowAt w' b F gc gr cap k n d cols :=
  ⟨h.fld.below hb h.fld.lt, h.fx.below hb h.fx.lt, h.row.below hb h.row.lt, ownsRow_below h.own hb, h.len, h.o1, h.o2, h.o3⟩
theorem RowAt.cell (h : RowAt w b F gc gr cap k n d cols) {i : Nat} {l : List Nat} (hi : cols[i]? = some l) : w.cell? ⟨gc, i, none⟩ = some (strV l) := by
  rcases own_form h.own with ⟨h1, _⟩ | ⟨g, c, hv, _, _, _, _, hc, _⟩
  · cases h1
  · obtain ⟨⟨rfl, _⟩, rfl⟩ := by simpa using hv
    exact hc i _ (by rw [List.getElem?_map, hi]; rfl)
theorem RowAt.free (h : RowAt w b F gc gr cap k n d cols) (i : Nat) : w.frozen? ⟨gc, i, none⟩ = false := World.ownsRow.frozenAt h.own i
theorem RowAt.lt (h : RowAt w b F gc gr cap k n d cols) : gc < w.heap.size := (World.ownsRow.lt h.own gc rfl).2
theorem RowAt.four (h : RowAt w b F gc gr cap k n d cols) : w.cell? ⟨gr, 0, none⟩ = some (.pointer (some ⟨F, 0, none⟩)) ∧ w.cell? ⟨gr, 1, none⟩ = some (.slice (some ⟨gc, 0, none⟩) (k + 2) cap) ∧ w.cell? ⟨gr, 2, none⟩ = some (.int .i64 (k : Int)) ∧ w.cell? ⟨gr, 3, none⟩ = some (.int .i64 (n : Int)) ∧ gr < w.heap.size :=
  ⟨h.row.cell 0 rfl, h.row.cell 1 rfl, h.row.cell 2 rfl, h.row.cell 3 rfl, h.row.lt⟩
/-- A column stored. -/
theorem RowAt.set (h : RowAt w b F gc gr cap k n d cols) (i : Nat) (l : List Nat) : RowAt (w.setCell ⟨gc, i, none⟩ (strV l)) b F gc gr cap k n d (cols.set i l) := by
  have h1 := h.o1
  have h2 := h.o2
  have h3 := h.o3
  refine ⟨h.fld.imp (fun h => h.other _ _ (by dsimp only; omega)) fun h => h.other _ _ (by dsimp only; omega), h.fx.other _ _ (by dsimp only; omega), h.row.other _ _ (by dsimp only; omega), ?_, by rw [List.length_set]; exact h.len, h.o1, h.o2, h.o3⟩
  have := (World.ownsRow.stored h.own i (strV l)).1
  rw [List.map_set]
  exact this
/-- The field's tables were made. -/
theorem RowAt.field (h : RowAt w b F gc gr cap k n d cols) (hT : Turned w w' b fld1 tFld) : RowAt w' b F gc gr cap k n d cols := by
  have h1 := h.o1
  have h2 := h.o2
  have h3 := h.o3
  refine ⟨.inr hT.rowOf, hT.other h.fx (by omega), hT.other h.row (by omega), ?_, h.len, h.o1, h.o2, h.o3⟩
  refine World.ownsRow.kept h.own hT.1 (.inr ?_)
  intro e
  have : gc = b := by simpa [Value.ownBlock] using e
  omega
end Go.Proofs.YtjoipibldahbhaaGreatDoor
/- The parities of what is there: contract of 'less'. -/
namespace Go.Proofs.YtjoipibldahbhaaGreatDoor
open Go Go.RowKit
set_option maxRecDepth 100000
variable {w w' : World} {v : Value} {b F gc gr cap k n : Nat} {d : Nat → Int} {cols : List (List Nat)} {lost : List Int}
/-- The first j data columns, nought where they are lost. -/
def dzF (n : Nat) (cols : List (List Nat)) (lost : List Int) (j : Nat) : List (List Nat) := (List.range j).map fun i => if hasI lost i = true then zeros n else cols.getD i []
theorem dzF_len (n : Nat) (cols : List (List Nat)) (lost : List Int) (j : Nat) : (dzF n cols lost j).length = j := by simp [dzF]
theorem dzF_keep {j : Nat} (h : hasI lost j = false) : dzF n cols lost (j + 1) = dzF n cols lost j ++ [cols.getD j []] := by
  unfold dzF; rw [List.range_succ, List.map_append]; simp [h]
theorem dzF_drop {j : Nat} (h : hasI lost j = true) : dzF n cols lost (j + 1) = dzF n cols lost j ++ [zeros n] := by
  unfold dzF; rw [List.range_succ, List.map_append]; simp [h]
theorem zeros_getD (n t : Nat) : (zeros n).getD t 0 = 0 := by
  unfold zeros
  by_cases h : t < n
  · simp [List.getD, h]
  · simp [List.getD, h]
theorem PL_zero (ls : List (List Nat)) : PL n (ls ++ [zeros n]) = PL n ls := by
  unfold PL
  refine List.map_congr_left fun t _ => ?_
  rw [pB_append, pB_one, zeros_getD, Nat.xor_zero]
theorem QL_zero (ls : List (List Nat)) : QL n (ls ++ [zeros n]) = QL n ls := by
  unfold QL
  refine List.map_congr_left fun t _ => ?_
  rw [qB_append, qB_one, zeros_getD, gm_zero, Nat.xor_zero]
/-- All columns that are there are texts of n bytes. -/
def Fits (n : Nat) (cols : List (List Nat)) (lost : List Int) : Prop := ∀ i, i < cols.length → hasI lost i = false → AllB (cols.getD i []) ∧ (cols.getD i []).length = n
theorem dzF_one (h : Fits n cols lost) {j : Nat} (hj : j ≤ cols.length) : One n (dzF n cols lost j) := by
  intro l hl
  unfold dzF at hl
  obtain ⟨i, hi, rfl⟩ := List.mem_map.1 hl
  have hi' : i < j := by simpa using hi
  cases hh : hasI lost i with
  | true => rw [if_pos rfl]; exact ⟨zeros_all n, zeros_len n⟩
  | false => rw [if_neg (by simp)]; exact h i (by omega) hh
def lessP (n : Nat) (cols : List (List Nat)) (lost : List Int) (k : Nat) : List Nat := if hasI lost k = true then PL n (dzF n cols lost k) else xorL (PL n (dzF n cols lost k)) (cols.getD k [])
def lessQ (n : Nat) (cols : List (List Nat)) (lost : List Int) (k : Nat) : List Nat := if hasI lost (k + 1) = true then QL n (dzF n cols lost k) else xorL (QL n (dzF n cols lost k)) (cols.getD (k + 1) [])
/-- Two buffers added. -/
theorem add_two {x y : List Nat} {t : TypeId} {g : Nat} (w : World) (h : w.row g [strV x, strV y] t) (hx : AllB x) (hy : AllB y) (e : x.length = y.length) (hn : x.length ≤ 65536) :
    Calls Tryz.prog 26 #[.slice (some ⟨g, 0, none⟩) 2 2] w fun e w' => e = .returned (.tuple #[strV (xorL x y), .int .i64 0]) ∧ Below w.heap.size w w' := by
  have hR : RS w (.slice (some ⟨g, 0, none⟩) 2 2) [x, y] := RS.of_row (ls := [x, y]) h
  have := Add_any w hR (by simp) (by intro l hl; simp at hl; rcases hl with rfl | rfl <;> assumption)
  rw [fitE_two hn e] at this
  exact this
set_option maxHeartbeats 8000000 in
theorem less_ok {a : Option Addr} {nd c : Nat} {p q : Bool} (w : World) (h : RowAt w b F gc gr cap k n d cols) (hk : k ≤ 30) (hn : n ≤ 65536) (hp : p = hasI lost k) (hq : q = hasI lost (k + 1)) (hd : w.rd (.slice a nd c) (iV (dsI k lost))) (hdl : (dsI k lost).length ≤ 1000) (hf : Fits n cols lost) :
    Calls Tryz.prog 41 #[.pointer (some ⟨gr, 0, none⟩), lossV (.slice a nd c) p q] w fun e w' => e = .returned (.tuple #[strV (lessP n cols lost k), strV (lessQ n cols lost k)]) ∧ Below w.heap.size w w' := by
  obtain ⟨c0, c1, c2, c3, hg⟩ := h.four
  have HR := Lib.hid (And.intro h (And.intro hp (And.intro hq (And.intro hd (And.intro hdl hf)))))
  clear h hp hq hd hdl hf
  go_enter Tryz.func41, Tryz.ntmps41
  go_wp2_with fail
  obtain ⟨g1, hg1⟩ : ∃ g, g = w.heap.size := ⟨_, rfl⟩
  have hgl : gr < g1 := by omega
  refine wp_world (fun w1 => w1.row g1 (lcs (.slice a nd c) p q) tLs ∧ Below w.heap.size w w1 ∧ RowAt w1 b F gc gr cap k n d cols) ⟨World.row.new' (cs := lcs (.slice a nd c) p q) hg1.symm, (by repeat' (first | (with_reducible exact Below.refl _ _) | (with_reducible assumption) | (with_reducible refine Below.setCell ?_ ?_ _) | (with_reducible refine Below.ext ?_ _ ?_) | (with_reducible refine Below.alloc ?_ ?_ _) | (with_reducible refine Below.drew ?_) | (with_reducible refine Below.drewN ?_ _) | (with_reducible exact Nat.le_refl _) | (dsimp only; omega) | (simp <;> omega))), HR.out.1.below (by repeat' (first | (with_reducible exact Below.refl _ _) | (with_reducible assumption) | (with_reducible refine Below.setCell ?_ ?_ _) | (with_reducible refine Below.ext ?_ _ ?_) | (with_reducible refine Below.alloc ?_ ?_ _) | (with_reducible refine Below.drew ?_) | (with_reducible refine Below.drewN ?_ _) | (with_reducible exact Nat.le_refl _) | (dsimp only; omega) | (simp <;> omega)))⟩ ?_
  clear c0 c1 c2 c3 hg
  rintro w1 ⟨r1, B1, A1⟩
  rw [← hg1]
  obtain ⟨c0, c1, c2, c3, hg⟩ := A1.four
  have H1 := Lib.hid (And.intro r1 (And.intro B1 (And.intro A1 hg1)))
  clear r1 B1 A1 hg1
  refine wp_region_mix_ext w1.heap.size [] false (Nat.le_refl _) (by kernel_rfl) (by kernel_rfl) ?_
  intro _
  repeat ((with_reducible refine wpMix_light ?hh ?_); (case hh => rfl); go_big_quiet_step (fail); (with_reducible refine wpQuiet_nil ?_))
  (with_reducible refine wpMix_heavy ?hh ?hw (fun K hK => ?_)); (case hh => rfl); (case hw => rfl)
  go_simp
  refine (Noughts_ok n _ hn).mono ?_
  rintro e w2 ⟨rfl, b2⟩
  have b2 := ((Below.refl w1.heap.size w1).drew).trans b2
  refine hK.out _ _ (Below.toExt b2 (Nat.le_refl _)) ?_
  clear hK K
  try simp only [Act.put, List.setIfInBounds_toArray, List.set_cons_zero, List.set_cons_succ]
  repeat ((with_reducible refine wpMix_light ?hh ?_); (case hh => rfl); go_big_quiet_step (fail); (with_reducible refine wpQuiet_nil ?_))
  (with_reducible refine wpMix_heavy ?hh ?hw (fun K hK => ?_)); (case hh => rfl); (case hw => rfl)
  go_simp
  refine (Noughts_ok n _ hn).mono ?_
  rintro e w3 ⟨rfl, b3⟩
  have b3 := b2.trans (b3.mono b2.size)
  refine hK.out _ _ (Below.toExt b3 (Nat.le_refl _)) ?_
  clear hK K
  try simp only [Act.put, List.setIfInBounds_toArray, List.set_cons_zero, List.set_cons_succ]
  repeat ((with_reducible refine wpMix_light ?hh ?_); (case hh => rfl); go_big_quiet_step (fail); (with_reducible refine wpQuiet_nil ?_))
  refine wpMix_nil ?_
  have A3 := H1.out.2.2.1.below b3
  have r3 := H1.out.1.below b3 H1.out.1.lt
  clear c0 c1 c2 c3 hg
  obtain ⟨c0, c1, c2, c3, hg⟩ := A3.four
  have H3 := Lib.hid (And.intro A3 (And.intro r3 b3))
  clear A3 r3 b3 b2
  go_wp2_with fail
  go_loopw [6, 7, 23] (fun x y z wr => ∃ i : Nat, i ≤ k ∧ z = .int .i64 (i : Int) ∧ x = strV (PL n (dzF n cols lost i)) ∧ y = strV (QL n (dzF n cols lost i)) ∧ Below w1.heap.size w1 wr) (fun _ _ z _ => k - (intOf z).toNat)
  case atStart => exact ⟨0, by omega, rfl, by rw [show dzF n cols lost 0 = [] from rfl, PL_nil], by rw [show dzF n cols lost 0 = [] from rfl, QL_nil], H3.out.2.2⟩
  case round =>
    clear c0 c1 c2 c3 hg
    obtain ⟨i, hi, rfl, rfl, rfl, hB⟩ := hrel
    have A4 := H1.out.2.2.1.below hB
    have r4 := H1.out.1.below hB H1.out.1.lt
    obtain ⟨c0, c1, c2, c3, hg⟩ := A4.four
    obtain ⟨l0, l1, l2, l3⟩ : wr.cell? ⟨g1, 0, none⟩ = some (.slice a nd c) ∧ wr.cell? ⟨g1, 1, none⟩ = some (.bool p) ∧ wr.cell? ⟨g1, 2, none⟩ = some (.bool q) ∧ g1 < wr.heap.size := ⟨r4.cell 0 rfl, r4.cell 1 rfl, r4.cell 2 rfl, r4.lt⟩
    have hcl := A4.len
    have hgc := A4.lt
    have hz1 := dzF_one (n := n) HR.out.2.2.2.2.2 (j := i) (by omega)
    have hpa := PL_all hz1.all (n := n)
    have hqa := QL_all hz1.all (n := n)
    have hpl := PL_len n (dzF n cols lost i)
    have hql := QL_len n (dzF n cols lost i)
    obtain ⟨P, hP⟩ : ∃ P, P = PL n (dzF n cols lost i) := ⟨_, rfl⟩
    obtain ⟨Q, hQ⟩ : ∃ Q, Q = QL n (dzF n cols lost i) := ⟨_, rfl⟩
    rw [← hP] at hpa hpl
    rw [← hQ] at hqa hql
    rw [← hP, ← hQ]
    by_cases hlt : i < k
    · have hcon := con_rd (i : Int) (HR.out.2.2.2.1.below (H1.out.2.1.trans (hB.mono H1.out.2.1.size)) (Nat.le_refl _)) (by have := HR.out.2.2.2.2.1; omega)
      rw [dsI_con hlt] at hcon
      have H4 := Lib.hid (And.intro A4 (And.intro r4 (And.intro hB (And.intro hcon (And.intro hpa (And.intro hqa (And.intro hpl (And.intro hql (And.intro hP hQ)))))))))
      clear A4 r4 hB hcon hpa hqa hpl hql hP hQ hz1
      cases hM : hasI lost i with
      | true =>
        have hds := dzF_drop (n := n) (cols := cols) hM
        rw [hM] at H4
        have HD := Lib.hid hds
        clear hds hM
        go_wp2_with fail
        refine H4.out.2.2.2.1.mono ?_
        rintro e w2 ⟨rfl, rfl⟩
        go_wp2_with fail
        go_roundw
        case rel => exact ⟨i + 1, by omega, by go_num, by rw [HD.out, PL_zero, H4.out.2.2.2.2.2.2.2.2.1], by rw [HD.out, QL_zero, H4.out.2.2.2.2.2.2.2.2.2], H4.out.2.2.1⟩
        case measure => simp [intOf] <;> omega
      | false =>
        have hds := dzF_keep (n := n) (cols := cols) hM
        rw [hM] at H4
        obtain ⟨l, hl⟩ : ∃ l, l = cols.getD i [] := ⟨_, rfl⟩
        have hli : cols[i]? = some l := by rw [hl, List.getD, List.getElem?_eq_getElem (by omega)]; rfl
        obtain ⟨hla, hll⟩ := HR.out.2.2.2.2.2 i (by omega) hM
        rw [← hl] at hla hll hds
        have d0 := H4.out.1.cell hli
        have HD := Lib.hid (And.intro hds (And.intro hla (And.intro hll hl)))
        clear hds hM hli hla hll hl
        go_wp2_with fail
        refine H4.out.2.2.2.1.mono ?_
        rintro e w2 ⟨rfl, rfl⟩
        go_wp2_with fail
        refine (add_two _ (World.row.new' (cs := [strV P, strV l]) rfl) H4.out.2.2.2.2.1 HD.out.2.1 (by rw [H4.out.2.2.2.2.2.2.1, HD.out.2.2.1]) (by rw [H4.out.2.2.2.2.2.2.1]; exact hn)).mono ?_
        rintro e w5 ⟨rfl, b5⟩
        have B5 : Below wr.heap.size wr w5 := ((Below.refl _ _).alloc (Nat.le_refl _) _).trans (b5.mono (by simp))
        clear c0 c1 c2 c3 hg l0 l1 l2 l3 d0 hgc b5
        have A5 := H4.out.1.below B5
        obtain ⟨c0, c1, c2, c3, hg⟩ := A5.four
        have d0 := A5.cell (show cols[i]? = some l by rw [HD.out.2.2.2, List.getD, List.getElem?_eq_getElem (by omega)]; rfl)
        have hgc := A5.lt
        have H5 := Lib.hid (And.intro A5 B5)
        clear A5 B5
        go_wp2_with fail
        refine wp_region_mix_ext w5.heap.size [] false (Nat.le_refl _) (by kernel_rfl) (by kernel_rfl) ?_
        intro _
        repeat ((with_reducible refine wpMix_light ?hh ?_); (case hh => rfl); go_big_quiet_step (fail); (with_reducible refine wpQuiet_nil ?_))
        (with_reducible refine wpMix_heavy ?hh ?hw (fun K hK => ?_)); (case hh => rfl); (case hw => rfl)
        go_simp
        refine (Power_ok i _ (by omega)).mono ?_
        rintro e w6 ⟨rfl, b6⟩
        have b6 := ((Below.refl w5.heap.size w5).drew).trans b6
        refine hK.out _ _ (Below.toExt b6 (Nat.le_refl _)) ?_
        clear hK K
        try simp only [Act.put, List.setIfInBounds_toArray, List.set_cons_zero, List.set_cons_succ]
        repeat ((with_reducible refine wpMix_light ?hh ?_); (case hh => rfl); go_big_quiet_step (fail); (with_reducible refine wpQuiet_nil ?_))
        (with_reducible refine wpMix_heavy ?hh ?hw (fun K hK => ?_)); (case hh => rfl); (case hw => rfl)
        go_simp
        refine (Fold_ok Q l (pw i) _ (pw_lt i) H4.out.2.2.2.2.2.1 HD.out.2.1 (by rw [H4.out.2.2.2.2.2.2.2.1, HD.out.2.2.1]) (by rw [H4.out.2.2.2.2.2.2.2.1]; exact hn)).mono ?_
        rintro e w7 ⟨rfl, b7⟩
        have b7 := b6.trans (b7.mono b6.size)
        refine hK.out _ _ (Below.toExt b7 (Nat.le_refl _)) ?_
        clear hK K
        try simp only [Act.put, List.setIfInBounds_toArray, List.set_cons_zero, List.set_cons_succ]
        repeat ((with_reducible refine wpMix_light ?hh ?_); (case hh => rfl); go_big_quiet_step (fail); (with_reducible refine wpQuiet_nil ?_))
        refine wpMix_nil ?_
        have B7 := H4.out.2.2.1.trans ((H5.out.2.trans (b7.mono H5.out.2.size)).mono H4.out.2.2.1.size)
        have H7 := Lib.hid B7
        clear b6 b7 B7
        go_wp2_with fail
        go_roundw
        case rel => exact ⟨i + 1, by omega, by go_num, by rw [HD.out.1, H4.out.2.2.2.2.2.2.2.2.1, PL_snoc HD.out.2.2.1], by rw [HD.out.1, H4.out.2.2.2.2.2.2.2.2.2, ← QL_snoc HD.out.2.2.1, dzF_len], H7.out⟩
        case measure => simp [intOf] <;> omega
    · obtain rfl : i = k := by omega
      have hx : ∀ j, j < i + 2 → cols[j]? = some (cols.getD j []) := fun j hj => by rw [List.getD, List.getElem?_eq_getElem (by omega)]; rfl
      have d1 := A4.cell (hx i (by omega))
      have d2 := A4.cell (hx (i + 1) (by omega))
      have hP2 : lessP n cols lost i = if p = true then P else xorL P (cols.getD i []) := by rw [hP, HR.out.2.1]; rfl
      have hQ2 : lessQ n cols lost i = if q = true then Q else xorL Q (cols.getD (i + 1) []) := by rw [hQ, HR.out.2.2.1]; rfl
      have f1 : p = false → AllB (cols.getD i []) ∧ (cols.getD i []).length = n := fun h => HR.out.2.2.2.2.2 i (by omega) (by rw [← HR.out.2.1]; exact h)
      have f2 : q = false → AllB (cols.getD (i + 1) []) ∧ (cols.getD (i + 1) []).length = n := fun h => HR.out.2.2.2.2.2 (i + 1) (by omega) (by rw [← HR.out.2.2.1]; exact h)
      obtain ⟨x1, hx1⟩ : ∃ x, x = cols.getD i [] := ⟨_, rfl⟩
      obtain ⟨x2, hx2⟩ : ∃ x, x = cols.getD (i + 1) [] := ⟨_, rfl⟩
      rw [← hx1] at d1 hP2 f1
      rw [← hx2] at d2 hQ2 f2
      have hxx : cols[i]? = some x1 ∧ cols[i + 1]? = some x2 := ⟨by rw [hx1]; exact hx i (by omega), by rw [hx2]; exact hx (i + 1) (by omega)⟩
      have H4 := Lib.hid (And.intro A4 (And.intro r4 (And.intro (H1.out.2.1.trans (hB.mono H1.out.2.1.size)) (And.intro hpa (And.intro hqa (And.intro hpl (And.intro hql (And.intro hP2 (And.intro hQ2 (And.intro f1 (And.intro f2 hxx)))))))))))
      clear A4 r4 hB hpa hqa hpl hql hP hQ hz1 hx hx1 hx2 hP2 hQ2 f1 f2 hxx
      cases p <;> cases q
      · go_wp2_with fail
        refine wp_region_mix_ext wr.heap.size [] false (Nat.le_refl _) (by kernel_rfl) (by kernel_rfl) ?_
        intro _
        repeat ((with_reducible refine wpMix_light ?hh ?_); (case hh => rfl); go_big_quiet_step (fail); (with_reducible refine wpQuiet_nil ?_))
        (with_reducible refine wpMix_heavy ?hh ?hw (fun K hK => ?_)); (case hh => rfl); (case hw => rfl)
        go_simp
        have b5 : Below wr.heap.size wr ((wr.alloc (.cells #[strV P, strV x1] tStr)).drew) := ((Below.refl _ _).alloc (Nat.le_refl _) _).drew
        refine hK.out _ _ (Below.toExt b5 (Nat.le_refl _)) ?_
        clear hK K
        try simp only [Act.put, List.setIfInBounds_toArray, List.set_cons_zero, List.set_cons_succ]
        repeat ((with_reducible refine wpMix_light ?hh ?_); (case hh => rfl); go_big_quiet_step (fail); (with_reducible refine wpQuiet_nil ?_))
        (with_reducible refine wpMix_heavy ?hh ?hw (fun K hK => ?_)); (case hh => rfl); (case hw => rfl)
        go_simp
        refine (add_two _ ((World.row.new' (cs := [strV P, strV x1]) rfl).drew) H4.out.2.2.2.1 (H4.out.2.2.2.2.2.2.2.2.2.1 (by simp)).1 (H4.out.2.2.2.2.2.1.trans (H4.out.2.2.2.2.2.2.2.2.2.1 (by simp)).2.symm) (by rw [H4.out.2.2.2.2.2.1]; exact hn)).mono ?_
        rintro e w6 ⟨rfl, b6⟩
        have b6 := b5.trans (b6.mono b5.size)
        refine hK.out _ _ (Below.toExt b6 (Nat.le_refl _)) ?_
        clear hK K
        try simp only [Act.put, List.setIfInBounds_toArray, List.set_cons_zero, List.set_cons_succ]
        repeat ((with_reducible refine wpMix_light ?hh ?_); (case hh => rfl); go_big_quiet_step (fail); (with_reducible refine wpQuiet_nil ?_))
        refine wpMix_nil ?_
        have A6 := H4.out.1.below b6
        have r6 := H4.out.2.1.below b6 H4.out.2.1.lt
        clear c0 c1 c2 c3 hg l0 l1 l2 l3 d1 d2 b5
        obtain ⟨c0, c1, c2, c3, hg⟩ := A6.four
        obtain ⟨l0, l1, l2, l3⟩ : w6.cell? ⟨g1, 0, none⟩ = some (.slice a nd c) ∧ w6.cell? ⟨g1, 1, none⟩ = some (.bool false) ∧ w6.cell? ⟨g1, 2, none⟩ = some (.bool false) ∧ g1 < w6.heap.size := ⟨r6.cell 0 rfl, r6.cell 1 rfl, r6.cell 2 rfl, r6.lt⟩
        have d2 := A6.cell H4.out.2.2.2.2.2.2.2.2.2.2.2.2
        have hgc := A6.lt
        have H6 := Lib.hid b6
        obtain ⟨w7, hw7⟩ : ∃ w7, w7 = w6 := ⟨_, rfl⟩
        rw [← hw7] at c0 c1 c2 c3 hg l0 l1 l2 l3 d2 hgc H6 ⊢
        clear b6 A6 r6 hw7
        go_wp2_with fail
        refine wp_region_mix_ext w7.heap.size [] false (Nat.le_refl _) (by kernel_rfl) (by kernel_rfl) ?_
        intro _
        repeat ((with_reducible refine wpMix_light ?hh ?_); (case hh => rfl); go_big_quiet_step (fail); (with_reducible refine wpQuiet_nil ?_))
        (with_reducible refine wpMix_heavy ?hh ?hw (fun K hK => ?_)); (case hh => rfl); (case hw => rfl)
        go_simp
        have b5 : Below w7.heap.size w7 ((w7.alloc (.cells #[strV Q, strV x2] tStr)).drew) := ((Below.refl _ _).alloc (Nat.le_refl _) _).drew
        refine hK.out _ _ (Below.toExt b5 (Nat.le_refl _)) ?_
        clear hK K
        try simp only [Act.put, List.setIfInBounds_toArray, List.set_cons_zero, List.set_cons_succ]
        repeat ((with_reducible refine wpMix_light ?hh ?_); (case hh => rfl); go_big_quiet_step (fail); (with_reducible refine wpQuiet_nil ?_))
        (with_reducible refine wpMix_heavy ?hh ?hw (fun K hK => ?_)); (case hh => rfl); (case hw => rfl)
        go_simp
        refine (add_two _ ((World.row.new' (cs := [strV Q, strV x2]) rfl).drew) H4.out.2.2.2.2.1 (H4.out.2.2.2.2.2.2.2.2.2.2.1 (by simp)).1 (H4.out.2.2.2.2.2.2.1.trans (H4.out.2.2.2.2.2.2.2.2.2.2.1 (by simp)).2.symm) (by rw [H4.out.2.2.2.2.2.2.1]; exact hn)).mono ?_
        rintro e w6 ⟨rfl, b6⟩
        have b6 := b5.trans (b6.mono b5.size)
        refine hK.out _ _ (Below.toExt b6 (Nat.le_refl _)) ?_
        clear hK K
        try simp only [Act.put, List.setIfInBounds_toArray, List.set_cons_zero, List.set_cons_succ]
        repeat ((with_reducible refine wpMix_light ?hh ?_); (case hh => rfl); go_big_quiet_step (fail); (with_reducible refine wpQuiet_nil ?_))
        refine wpMix_nil ?_
        have B8 := H4.out.2.2.1.trans ((H6.out.trans (b6.mono H6.out.size)).mono H4.out.2.2.1.size)
        have H8 := Lib.hid B8
        clear b5 b6 B8
        go_wp2_with fail
        go_ret2
        exact ⟨by rw [H4.out.2.2.2.2.2.2.2.1, H4.out.2.2.2.2.2.2.2.2.1]; rfl, H8.out⟩
      · go_wp2_with fail
        refine wp_region_mix_ext wr.heap.size [] false (Nat.le_refl _) (by kernel_rfl) (by kernel_rfl) ?_
        intro _
        repeat ((with_reducible refine wpMix_light ?hh ?_); (case hh => rfl); go_big_quiet_step (fail); (with_reducible refine wpQuiet_nil ?_))
        (with_reducible refine wpMix_heavy ?hh ?hw (fun K hK => ?_)); (case hh => rfl); (case hw => rfl)
        go_simp
        have b5 : Below wr.heap.size wr ((wr.alloc (.cells #[strV P, strV x1] tStr)).drew) := ((Below.refl _ _).alloc (Nat.le_refl _) _).drew
        refine hK.out _ _ (Below.toExt b5 (Nat.le_refl _)) ?_
        clear hK K
        try simp only [Act.put, List.setIfInBounds_toArray, List.set_cons_zero, List.set_cons_succ]
        repeat ((with_reducible refine wpMix_light ?hh ?_); (case hh => rfl); go_big_quiet_step (fail); (with_reducible refine wpQuiet_nil ?_))
        (with_reducible refine wpMix_heavy ?hh ?hw (fun K hK => ?_)); (case hh => rfl); (case hw => rfl)
        go_simp
        refine (add_two _ ((World.row.new' (cs := [strV P, strV x1]) rfl).drew) H4.out.2.2.2.1 (H4.out.2.2.2.2.2.2.2.2.2.1 (by simp)).1 (H4.out.2.2.2.2.2.1.trans (H4.out.2.2.2.2.2.2.2.2.2.1 (by simp)).2.symm) (by rw [H4.out.2.2.2.2.2.1]; exact hn)).mono ?_
        rintro e w6 ⟨rfl, b6⟩
        have b6 := b5.trans (b6.mono b5.size)
        refine hK.out _ _ (Below.toExt b6 (Nat.le_refl _)) ?_
        clear hK K
        try simp only [Act.put, List.setIfInBounds_toArray, List.set_cons_zero, List.set_cons_succ]
        repeat ((with_reducible refine wpMix_light ?hh ?_); (case hh => rfl); go_big_quiet_step (fail); (with_reducible refine wpQuiet_nil ?_))
        refine wpMix_nil ?_
        have r6 := H4.out.2.1.below b6 H4.out.2.1.lt
        clear c0 c1 c2 c3 hg l0 l1 l2 l3 d1 d2 b5
        obtain ⟨l0, l1, l2, l3⟩ : w6.cell? ⟨g1, 0, none⟩ = some (.slice a nd c) ∧ w6.cell? ⟨g1, 1, none⟩ = some (.bool false) ∧ w6.cell? ⟨g1, 2, none⟩ = some (.bool true) ∧ g1 < w6.heap.size := ⟨r6.cell 0 rfl, r6.cell 1 rfl, r6.cell 2 rfl, r6.lt⟩
        have B8 := H4.out.2.2.1.trans (b6.mono H4.out.2.2.1.size)
        have H8 := Lib.hid B8
        clear b6 B8 r6
        go_wp2_with fail
        go_ret2
        exact ⟨by rw [H4.out.2.2.2.2.2.2.2.1, H4.out.2.2.2.2.2.2.2.2.1]; rfl, H8.out⟩
      · go_wp2_with fail
        refine wp_region_mix_ext wr.heap.size [] false (Nat.le_refl _) (by kernel_rfl) (by kernel_rfl) ?_
        intro _
        repeat ((with_reducible refine wpMix_light ?hh ?_); (case hh => rfl); go_big_quiet_step (fail); (with_reducible refine wpQuiet_nil ?_))
        (with_reducible refine wpMix_heavy ?hh ?hw (fun K hK => ?_)); (case hh => rfl); (case hw => rfl)
        go_simp
        have b5 : Below wr.heap.size wr ((wr.alloc (.cells #[strV Q, strV x2] tStr)).drew) := ((Below.refl _ _).alloc (Nat.le_refl _) _).drew
        refine hK.out _ _ (Below.toExt b5 (Nat.le_refl _)) ?_
        clear hK K
        try simp only [Act.put, List.setIfInBounds_toArray, List.set_cons_zero, List.set_cons_succ]
        repeat ((with_reducible refine wpMix_light ?hh ?_); (case hh => rfl); go_big_quiet_step (fail); (with_reducible refine wpQuiet_nil ?_))
        (with_reducible refine wpMix_heavy ?hh ?hw (fun K hK => ?_)); (case hh => rfl); (case hw => rfl)
        go_simp
        refine (add_two _ ((World.row.new' (cs := [strV Q, strV x2]) rfl).drew) H4.out.2.2.2.2.1 (H4.out.2.2.2.2.2.2.2.2.2.2.1 (by simp)).1 (H4.out.2.2.2.2.2.2.1.trans (H4.out.2.2.2.2.2.2.2.2.2.2.1 (by simp)).2.symm) (by rw [H4.out.2.2.2.2.2.2.1]; exact hn)).mono ?_
        rintro e w6 ⟨rfl, b6⟩
        have b6 := b5.trans (b6.mono b5.size)
        refine hK.out _ _ (Below.toExt b6 (Nat.le_refl _)) ?_
        clear hK K
        try simp only [Act.put, List.setIfInBounds_toArray, List.set_cons_zero, List.set_cons_succ]
        repeat ((with_reducible refine wpMix_light ?hh ?_); (case hh => rfl); go_big_quiet_step (fail); (with_reducible refine wpQuiet_nil ?_))
        refine wpMix_nil ?_
        have B8 := H4.out.2.2.1.trans (b6.mono H4.out.2.2.1.size)
        have H8 := Lib.hid B8
        clear b5 b6 B8 c0 c1 c2 c3 hg l0 l1 l2 l3 d1 d2
        go_wp2_with fail
        go_ret2
        exact ⟨by rw [H4.out.2.2.2.2.2.2.2.1, H4.out.2.2.2.2.2.2.2.2.1]; rfl, H8.out⟩
      · go_wp2_with fail
        go_ret2
        exact ⟨by rw [H4.out.2.2.2.2.2.2.2.1, H4.out.2.2.2.2.2.2.2.2.1]; rfl, H4.out.2.2.1⟩
end Go.Proofs.YtjoipibldahbhaaGreatDoor
/- Lost data columns brought back: contracts of byQ, both, again. -/
namespace Go.Proofs.YtjoipibldahbhaaGreatDoor
open Go Go.RowKit
set_option maxRecDepth 100000
variable {w w' : World} {v : Value} {b F gc gr cap k n : Nat} {d : Nat → Int} {cols : List (List Nat)} {lost : List Int}
theorem RowAt.fptr (h : RowAt w b F gc gr cap k n d cols) : w.cell? ⟨F, 0, none⟩ = some (.pointer (some ⟨b, 0, none⟩)) ∧ F < w.heap.size := ⟨h.fx.cell 0 rfl, h.fx.lt⟩
theorem RowAt.held (h : RowAt w b F gc gr cap k n d cols) {i : Nat} (hi : i < k + 2) : ∃ u, w.cell? ⟨gc, i, none⟩ = some u :=
  ⟨_, h.cell (List.getElem?_eq_getElem (by rw [h.len]; exact hi))⟩
theorem RowAt.keep (h : RowAt w b F gc gr cap k n d cols) (i : Nat) (u : Value) : ∀ x, (x = gr ∨ x = F) → (w.setCell ⟨gc, i, none⟩ u).heap[x]? = w.heap[x]? := by
  have h2 := h.o2
  have h3 := h.o3
  rintro x (rfl | rfl)
  · exact Below.heap_setCell _ _ _ _ (by dsimp only; omega)
  · exact Below.heap_setCell _ _ _ _ (by dsimp only; omega)
/-- The blocks of a row that its methods change. -/
abbrev RS2 (b gc : Nat) : Nat → Prop := fun x => x = b ∨ x = gc
theorem RowAt.same (h : RowAt w b F gc gr cap k n d cols) {cs : List Value} {t : TypeId} (hT : Turned w w' b cs t) : ∀ x, (x = gr ∨ x = F ∨ x = gc) → w'.heap[x]? = w.heap[x]? := by
  have h1 := h.o1
  have h2 := h.o2
  have h3 := h.o3
  rintro x (rfl | rfl | rfl)
  · exact hT.1.block _ h.row.lt (by simp; omega)
  · exact hT.1.block _ h.fx.lt (by simp; omega)
  · exact hT.1.block _ h.lt (by simp; omega)
theorem RowAt.same2 (h : RowAt w b F gc gr cap k n d cols) (hb : Below w.heap.size w w') : ∀ x, (x = gr ∨ x = F ∨ x = gc) → w'.heap[x]? = w.heap[x]? := by
  rintro x (rfl | rfl | rfl)
  · exact hb.block _ h.row.lt
  · exact hb.block _ h.fx.lt
  · exact hb.block _ h.lt
set_option maxHeartbeats 4000000 in
theorem byQ_ok {i : Nat} {q : List Nat} (w : World) (h : RowAt w b F gc gr cap k n d cols) (hk : k ≤ 30) (hi : i < k) (hq : AllB q) (hn : q.length ≤ 65536) :
    Calls Tryz.prog 43 #[.pointer (some ⟨gr, 0, none⟩), .int .i64 (i : Int), strV q] w fun e w' => e = .returned (.tuple #[]) ∧ Kept (RS2 b gc) w w' ∧ RowAt w' b F gc gr cap k n d (cols.set i (mulL (inv (pw i)) q)) := by
  obtain ⟨c0, c1, c2, c3, hg⟩ := h.four
  obtain ⟨f0, hF⟩ := h.fptr
  have HR := Lib.hid (And.intro h hq)
  clear h hq
  go_enter Tryz.func43, Tryz.ntmps43
  go_wp2_with fail
  refine wp_region_mix_exts (fun x => x = gr ∨ x = F ∨ x = gc) [] false (by kernel_rfl) (by kernel_rfl) ?_
  intro _
  repeat ((with_reducible refine wpMix_light ?hh ?_); (case hh => rfl); go_big_quiet_step (fail); (with_reducible refine wpQuiet_nil ?_))
  (with_reducible refine wpMix_heavy ?hh ?hw (fun K hK => ?_)); (case hh => rfl); (case hw => rfl)
  go_simp
  refine (Power_ok i _ (by omega)).mono ?_
  rintro e w2 ⟨rfl, b2⟩
  have b2 := ((Below.refl w.heap.size w).drew).trans b2
  refine hK.out _ _ (toExtS (HR.out.1.same2 b2)) ?_
  clear hK K
  try simp only [Act.put, List.setIfInBounds_toArray, List.set_cons_zero, List.set_cons_succ]
  repeat ((with_reducible refine wpMix_light ?hh ?_); (case hh => rfl); go_big_quiet_step (fail); (with_reducible refine wpQuiet_nil ?_))
  (with_reducible refine wpMix_heavy ?hh ?hw (fun K hK => ?_)); (case hh => rfl); (case hw => rfl)
  go_simp
  refine (Inv_ok _ (HR.out.1.below b2).fld (pw i) (pw_lt i) (pw_ne i (by omega))).mono ?_
  rintro e w3 ⟨rfl, T3⟩
  refine hK.out _ _ (toExtS (fun x hx => ((HR.out.1.below b2).same T3 x hx).trans (HR.out.1.same2 b2 x hx))) ?_
  clear hK K
  try simp only [Act.put, List.setIfInBounds_toArray, List.set_cons_zero, List.set_cons_succ]
  repeat ((with_reducible refine wpMix_light ?hh ?_); (case hh => rfl); go_big_quiet_step (fail); (with_reducible refine wpQuiet_nil ?_))
  refine wpMix_nil ?_
  have A3 := (HR.out.1.below b2).field T3
  have K3 := (Kept.of_below (RS2 b gc) b2).trans (Kept.of_turned (RS2 b gc) T3 (.inl rfl))
  clear c0 c1 c2 c3 hg f0 hF T3 b2
  obtain ⟨c0, c1, c2, c3, hg⟩ := A3.four
  have H3 := Lib.hid (And.intro A3 K3)
  clear A3 K3
  go_wp2_with fail
  refine wp_region_mix_exts (fun x => x = gr ∨ x = F) [] false (by kernel_rfl) (by kernel_rfl) ?_
  intro _
  repeat ((with_reducible refine wpMix_light ?hh ?_); (case hh => rfl); go_big_quiet_step (fail); (with_reducible refine wpQuiet_nil ?_))
  (with_reducible refine wpMix_heavy ?hh ?hw (fun K hK => ?_)); (case hh => rfl); (case hw => rfl)
  go_simp
  refine (Scale_ok (inv (pw i)) q _ (inv_lt _) HR.out.2 hn).mono ?_
  rintro e w4 ⟨rfl, b4⟩
  have b4 := ((Below.refl w3.heap.size w3).drew).trans b4
  refine hK.out _ _ (toExtS (fun x hx => H3.out.1.same2 b4 x (hx.imp id .inl))) ?_
  clear hK K
  try simp only [Act.put, List.setIfInBounds_toArray, List.set_cons_zero, List.set_cons_succ]
  repeat ((with_reducible refine wpMix_light ?hh ?_); (case hh => rfl); go_big_quiet_step (fail); (with_reducible refine wpQuiet_nil ?_))
  have A4 := H3.out.1.below b4
  obtain ⟨u, d0⟩ := A4.held (i := i) (by omega)
  have dz := A4.free i
  have hgc := A4.lt
  have hg4 := A4.row.lt
  (with_reducible refine wpMix_heavy ?hh ?hw (fun K hK => ?_)); (case hh => rfl); (case hw => rfl)
  go_simp
  refine hK.out _ _ (toExtS (fun x hx => (A4.keep i _ x hx).trans (H3.out.1.same2 b4 x (hx.imp id .inl)))) ?_
  clear hK K
  try simp only [Act.put]
  refine wpMix_nil ?_
  have A5 := A4.set i (mulL (inv (pw i)) q)
  have K5 := (H3.out.2.trans (Kept.of_below (RS2 b gc) b4)).trans (Kept.set (w := w4) (a := ⟨gc, i, none⟩) (RS2 b gc) (.inr rfl) (strV (mulL (inv (pw i)) q)))
  have H5 := Lib.hid (And.intro A5 K5)
  clear A5 K5 d0 dz hgc hg4 b4 c0 c1 c2 c3 hg A4
  go_wp2_with fail
  go_end0
  exact ⟨rfl, H5.out.2, H5.out.1⟩
/-- The two columns of which P and Q are more than the others. -/
def vB (i k : Nat) (p q : List Nat) : List Nat := mulL (inv (pw i ^^^ pw k)) (foldL q (pw i) p)
def uB (i k : Nat) (p q : List Nat) : List Nat := xorL p (vB i k p q)
set_option maxHeartbeats 4000000 in
theorem both_ok {i j : Nat} {p q : List Nat} (w : World) (h : RowAt w b F gc gr cap k n d cols) (hk : k ≤ 30) (hi : i < k) (hj : j < k) (hij : i ≠ j) (hp : AllB p) (hq : AllB q) (e : p.length = q.length) (hn : q.length ≤ 65536) :
    Calls Tryz.prog 42 #[.pointer (some ⟨gr, 0, none⟩), .int .i64 (i : Int), .int .i64 (j : Int), strV p, strV q] w fun e w' => e = .returned (.tuple #[]) ∧ Kept (RS2 b gc) w w' ∧ RowAt w' b F gc gr cap k n d ((cols.set j (vB i j p q)).set i (uB i j p q)) := by
  have hx8 : pw i ^^^ pw j < 256 := xor_lt8 _ _ (pw_lt i) (pw_lt j)
  have hx0 : pw i ^^^ pw j ≠ 0 := fun h => hij (pw_inj (by omega) (by omega) (xor_eq_zero h))
  have hux := u8x (pw i) (pw j) (pw_lt i) (pw_lt j)
  have HR := Lib.hid (And.intro h (And.intro hp (And.intro hq (And.intro e (And.intro hx8 hx0)))))
  clear h hp hq e hx8 hx0
  go_enter Tryz.func42, Tryz.ntmps42
  go_wp2_with fail
  refine (Power_ok i _ (by omega)).mono ?_
  rintro e w1 ⟨rfl, b1⟩
  go_wp2_with fail
  refine (Power_ok j _ (by omega)).mono ?_
  rintro e w2 ⟨rfl, b2⟩
  have b2 := b1.trans (b2.mono b1.size)
  clear b1
  go_wp2_with fail
  refine (Fold_ok q p (pw i) _ (pw_lt i) HR.out.2.2.1 HR.out.2.1 HR.out.2.2.2.1.symm hn).mono ?_
  rintro e w3 ⟨rfl, b3⟩
  have b3 := b2.trans (b3.mono b2.size)
  have A3 := HR.out.1.below b3
  obtain ⟨c0, c1, c2, c3, hg⟩ := A3.four
  obtain ⟨f0, hF⟩ := A3.fptr
  have hI := Inv_ok w3 A3.fld (pw i ^^^ pw j) HR.out.2.2.2.2.1 HR.out.2.2.2.2.2
  have H3 := Lib.hid (And.intro A3 (And.intro b3 hI))
  clear A3 b2 b3 hI
  go_wp2_with fail
  refine H3.out.2.2.mono ?_
  rintro e w4 ⟨rfl, T4⟩
  have A4 := H3.out.1.field T4
  have K4 := (Kept.of_below (RS2 b gc) H3.out.2.1).trans (Kept.of_turned (RS2 b gc) T4 (.inl rfl))
  clear c0 c1 c2 c3 hg f0 hF T4
  obtain ⟨c0, c1, c2, c3, hg⟩ := A4.four
  have H4 := Lib.hid (And.intro A4 K4)
  clear A4 K4
  obtain ⟨R, hR⟩ : ∃ R, R = foldL q (pw i) p := ⟨_, rfl⟩
  have hRa : AllB R := by rw [hR]; exact foldL_all HR.out.2.2.1 HR.out.2.1 _
  have hRl : R.length = q.length := by rw [hR]; exact foldL_len HR.out.2.2.2.1.symm _
  rw [← hR]
  have HX := Lib.hid (And.intro hR (And.intro hRa hRl))
  clear hR hRa hRl
  go_wp2_with fail
  refine wp_region_mix_exts (fun x => x = gr ∨ x = F) [] false (by kernel_rfl) (by kernel_rfl) ?_
  intro _
  repeat ((with_reducible refine wpMix_light ?hh ?_); (case hh => rfl); go_big_quiet_step (fail); (with_reducible refine wpQuiet_nil ?_))
  (with_reducible refine wpMix_heavy ?hh ?hw (fun K hK => ?_)); (case hh => rfl); (case hw => rfl)
  go_simp
  refine (Scale_ok (inv (pw i ^^^ pw j)) R _ (inv_lt _) HX.out.2.1 (by rw [HX.out.2.2]; exact hn)).mono ?_
  rintro e w5 ⟨rfl, b5⟩
  have b5 := ((Below.refl w4.heap.size w4).drew).trans b5
  refine hK.out _ _ (toExtS (fun x hx => H4.out.1.same2 b5 x (hx.imp id .inl))) ?_
  clear hK K
  try simp only [Act.put, List.setIfInBounds_toArray, List.set_cons_zero, List.set_cons_succ]
  repeat ((with_reducible refine wpMix_light ?hh ?_); (case hh => rfl); go_big_quiet_step (fail); (with_reducible refine wpQuiet_nil ?_))
  have A5 := H4.out.1.below b5
  obtain ⟨u, d0⟩ := A5.held (i := j) (by omega)
  have dz := A5.free j
  have hgc := A5.lt
  have hg5 := A5.row.lt
  (with_reducible refine wpMix_heavy ?hh ?hw (fun K hK => ?_)); (case hh => rfl); (case hw => rfl)
  go_simp
  refine hK.out _ _ (toExtS (fun x hx => (A5.keep j _ x hx).trans (H4.out.1.same2 b5 x (hx.imp id .inl)))) ?_
  clear hK K
  try simp only [Act.put]
  refine wpMix_nil ?_
  obtain ⟨V, hV⟩ : ∃ V, V = mulL (inv (pw i ^^^ pw j)) R := ⟨_, rfl⟩
  have hVa : AllB V := by rw [hV]; exact mulL_all HX.out.2.1 _
  have hVl : V.length = p.length := by rw [hV, mulL_len, HX.out.2.2]; exact HR.out.2.2.2.1.symm
  rw [← hV]
  have hVv : V = vB i j p q := by rw [hV, HX.out.1]; rfl
  have A6 := A5.set j V
  have K6 := (H4.out.2.trans (Kept.of_below (RS2 b gc) b5)).trans (Kept.set (w := w5) (a := ⟨gc, j, none⟩) (RS2 b gc) (.inr rfl) (strV V))
  obtain ⟨w6, hw6⟩ : ∃ w6, w6 = w5.setCell ⟨gc, j, none⟩ (strV V) := ⟨_, rfl⟩
  rw [show Value.string (mk V) = strV V from rfl, ← hw6]
  rw [← hw6] at A6 K6
  clear c0 c1 c2 c3 hg d0 dz hgc hg5 b5 A5 hV hw6
  obtain ⟨c0, c1, c2, c3, hg⟩ := A6.four
  have hlen : j < cols.length := by have := A6.len; rw [List.length_set] at this; omega
  have d0 := A6.cell (i := j) (l := V) (by simp [hlen])
  have hgc := A6.lt
  have H6 := Lib.hid (And.intro A6 (And.intro K6 (And.intro hVa (And.intro hVl hVv))))
  clear A6 K6 hVa hVl hVv hlen
  go_wp2_with fail
  refine wp_region_mix_exts (fun x => x = gr ∨ x = F) [66] false (by kernel_rfl) (by kernel_rfl) ?_
  intro _
  repeat ((with_reducible refine wpMix_light ?hh ?_); (case hh => rfl); go_big_quiet_step (fail); (with_reducible refine wpQuiet_nil ?_))
  (with_reducible refine wpMix_heavy ?hh ?hw (fun K hK => ?_)); (case hh => rfl); (case hw => rfl)
  go_simp
  refine hK.out _ _ (toExtS (fun x hx => H6.out.1.same2 ((Below.refl _ _).drew) x (hx.imp id .inl))) ?_
  clear hK K
  try simp only [Act.put, List.setIfInBounds_toArray, List.set_cons_zero, List.set_cons_succ]
  repeat ((with_reducible refine wpMix_light ?hh ?_); (case hh => rfl); go_big_quiet_step (fail); (with_reducible refine wpQuiet_nil ?_))
  (with_reducible refine wpMix_heavy ?hh ?hw (fun K hK => ?_)); (case hh => rfl); (case hw => rfl)
  go_simp
  have b7 : Below w6.heap.size w6 ((w6.alloc (.cells #[strV p, strV V] tStr)).drew) := ((Below.refl _ _).alloc (Nat.le_refl _) _).drew
  refine hK.out _ _ (toExtS (fun x hx => H6.out.1.same2 b7 x (hx.imp id .inl))) ?_
  clear hK K
  try simp only [Act.put, List.setIfInBounds_toArray, List.set_cons_zero, List.set_cons_succ]
  repeat ((with_reducible refine wpMix_light ?hh ?_); (case hh => rfl); go_big_quiet_step (fail); (with_reducible refine wpQuiet_nil ?_))
  (with_reducible refine wpMix_heavy ?hh ?hw (fun K hK => ?_)); (case hh => rfl); (case hw => rfl)
  go_simp
  refine (add_two _ ((World.row.new' (cs := [strV p, strV V]) rfl).drew) HR.out.2.1 H6.out.2.2.1 H6.out.2.2.2.1.symm (by rw [HR.out.2.2.2.1]; exact hn)).mono ?_
  rintro e w8 ⟨rfl, b8⟩
  have b8 := b7.trans (b8.mono b7.size)
  refine hK.out _ _ (toExtS (fun x hx => H6.out.1.same2 b8 x (hx.imp id .inl))) ?_
  clear hK K
  try simp only [Act.put, List.setIfInBounds_toArray, List.set_cons_zero, List.set_cons_succ]
  repeat ((with_reducible refine wpMix_light ?hh ?_); (case hh => rfl); go_big_quiet_step (fail); (with_reducible refine wpQuiet_nil ?_))
  have A8 := H6.out.1.below b8
  clear d0 hgc
  obtain ⟨u2, d0⟩ := A8.held (i := i) (by omega)
  have dz := A8.free i
  have hgc := A8.lt
  have hg8 := A8.row.lt
  (with_reducible refine wpMix_heavy ?hh ?hw (fun K hK => ?_)); (case hh => rfl); (case hw => rfl)
  go_simp
  refine hK.out _ _ (toExtS (fun x hx => (A8.keep i _ x hx).trans (H6.out.1.same2 b8 x (hx.imp id .inl)))) ?_
  clear hK K
  try simp only [Act.put]
  refine wpMix_nil ?_
  have A9 := A8.set i (xorL p V)
  have K9 := (H6.out.2.1.trans (Kept.of_below (RS2 b gc) b8)).trans (Kept.set (w := w8) (a := ⟨gc, i, none⟩) (RS2 b gc) (.inr rfl) (strV (xorL p V)))
  have H9 := Lib.hid (And.intro A9 K9)
  clear A9 K9 d0 dz hgc hg8 b7 b8 A8 c0 c1 c2 c3 hg
  go_wp2_with fail
  go_end0
  refine ⟨rfl, H9.out.2, ?_⟩
  unfold uB
  rw [← H6.out.2.2.2.2]
  exact H9.out.1
end Go.Proofs.YtjoipibldahbhaaGreatDoor
/- Lost parities brought back: contract of 'again'. -/
namespace Go.Proofs.YtjoipibldahbhaaGreatDoor
open Go Go.RowKit
set_option maxRecDepth 100000
variable {w w' : World} {v : Value} {b F gc gr cap k n : Nat} {d : Nat → Int} {cols : List (List Nat)} {lost : List Int}
/-- The row with its lost parities made of its data columns. -/
def againL (n k : Nat) (p q : Bool) (cols : List (List Nat)) : List (List Nat) :=
  let c1 := if p = true then cols.set k (PL n (cols.take k)) else cols
  if q = true then c1.set (k + 1) (QL n (cols.take k)) else c1
theorem RowAt.strs (h : RowAt w b F gc gr cap k n d cols) : RS w (.slice (some ⟨gc, 0, none⟩) k cap) (cols.take k) := by
  rcases own_form h.own with ⟨h1, _⟩ | ⟨g, c, hv, _, _, hc1, _⟩
  · cases h1
  · obtain ⟨⟨rfl, _⟩, rfl⟩ := by simpa using hv
    have hl : (cols.take k).length = k := by rw [List.length_take, h.len]; omega
    refine ⟨_, cap, by rw [hl], by omega, .inr ⟨gc, 0, rfl, fun j l hj => ?_⟩⟩
    rw [Nat.zero_add]
    rw [List.getElem?_take] at hj
    split at hj
    · exact h.cell hj
    · cases hj
theorem RowAt.room (h : RowAt w b F gc gr cap k n d cols) : k + 2 ≤ cap := by
  rcases own_form h.own with ⟨h1, _⟩ | ⟨g, c, hv, _, _, hc1, _⟩
  · cases h1
  · obtain ⟨_, rfl⟩ := by simpa using hv
    exact hc1
theorem RowAt.stored (h : RowAt w b F gc gr cap k n d cols) (i : Nat) (l : List Nat) : RowAt ((w.setCell ⟨gc, i, none⟩ (strV l)).drew) b F gc gr cap k n d (cols.set i l) ∧ Kept (RS2 b gc) w ((w.setCell ⟨gc, i, none⟩ (strV l)).drew) :=
  ⟨(h.set i l).below ((Below.refl _ _).drew), (Kept.set (w := w) (a := ⟨gc, i, none⟩) (RS2 b gc) (.inr rfl) (strV l)).trans (Kept.of_below _ ((Below.refl _ _).drew))⟩
set_option maxHeartbeats 8000000 in
theorem again_ok {a : Option Addr} {nd c : Nat} {p q : Bool} (w : World) (h : RowAt w b F gc gr cap k n d cols) (hk2 : 2 ≤ k) (hk : k ≤ 30) (hn : n ≤ 65536) (ho : One n (cols.take k)) :
    Calls Tryz.prog 44 #[.pointer (some ⟨gr, 0, none⟩), lossV (.slice a nd c) p q] w fun e w' => e = .returned (.tuple #[]) ∧ Kept (RS2 b gc) w w' ∧ RowAt w' b F gc gr cap k n d (againL n k p q cols) := by
  have HR := Lib.hid (And.intro h ho)
  have hcap := h.room
  clear h ho
  go_enter Tryz.func44, Tryz.ntmps44
  go_wp2_with fail
  obtain ⟨g1, hg1⟩ : ∃ g, g = w.heap.size := ⟨_, rfl⟩
  refine wp_world (fun w1 => w1.row g1 (lcs (.slice a nd c) p q) tLs ∧ Below w.heap.size w w1 ∧ RowAt w1 b F gc gr cap k n d cols) ⟨World.row.new' (cs := lcs (.slice a nd c) p q) hg1.symm, (by repeat' (first | (with_reducible exact Below.refl _ _) | (with_reducible assumption) | (with_reducible refine Below.setCell ?_ ?_ _) | (with_reducible refine Below.ext ?_ _ ?_) | (with_reducible refine Below.alloc ?_ ?_ _) | (with_reducible refine Below.drew ?_) | (with_reducible refine Below.drewN ?_ _) | (with_reducible exact Nat.le_refl _) | (dsimp only; omega) | (simp <;> omega))), HR.out.1.below (by repeat' (first | (with_reducible exact Below.refl _ _) | (with_reducible assumption) | (with_reducible refine Below.setCell ?_ ?_ _) | (with_reducible refine Below.ext ?_ _ ?_) | (with_reducible refine Below.alloc ?_ ?_ _) | (with_reducible refine Below.drew ?_) | (with_reducible refine Below.drewN ?_ _) | (with_reducible exact Nat.le_refl _) | (dsimp only; omega) | (simp <;> omega)))⟩ ?_
  rintro w1 ⟨r1, B1, A1⟩
  rw [← hg1]
  obtain ⟨c0, c1, c2, c3, hg⟩ := A1.four
  have hn1 : gc ≠ g1 := by have := HR.out.1.lt; omega
  have hlk : (cols.take k).length = k := by rw [List.length_take, A1.len]; omega
  have H1 := Lib.hid (And.intro r1 (And.intro B1 (And.intro A1 hlk)))
  clear r1 B1 A1 hg1 hlk
  refine wp_region_mix_exts (fun x => x = gr ∨ x = F ∨ x = gc) [] false (by kernel_rfl) (by kernel_rfl) ?_
  intro _
  repeat ((with_reducible refine wpMix_light ?hh ?_); (case hh => rfl); go_big_quiet_step (fail); (with_reducible refine wpQuiet_nil ?_))
  (with_reducible refine wpMix_heavy ?hh ?hw (fun K hK => ?_)); (case hh => rfl); (case hw => rfl)
  go_simp
  refine (Make_ok n _ (H1.out.2.2.1.below ((Below.refl _ _).drew)).strs (by rw [H1.out.2.2.2]; exact hk2) (by rw [H1.out.2.2.2]; exact hk) HR.out.2 hn).mono ?_
  rintro e w2 ⟨rfl, b2⟩
  have b2 := ((Below.refl w1.heap.size w1).drew).trans b2
  refine hK.out _ _ (toExtS (H1.out.2.2.1.same2 b2)) ?_
  clear hK K
  try simp only [Act.put, List.setIfInBounds_toArray, List.set_cons_zero, List.set_cons_succ]
  repeat ((with_reducible refine wpMix_light ?hh ?_); (case hh => rfl); go_big_quiet_step (fail); (with_reducible refine wpQuiet_nil ?_))
  refine wpMix_nil ?_
  obtain ⟨P, hP⟩ : ∃ P, P = PL n (cols.take k) := ⟨_, rfl⟩
  obtain ⟨Q, hQ⟩ : ∃ Q, Q = QL n (cols.take k) := ⟨_, rfl⟩
  rw [← hP, ← hQ]
  have A2 := H1.out.2.2.1.below b2
  have r2 := H1.out.1.below b2 H1.out.1.lt
  have K2 : Kept (RS2 b gc) w w2 := Kept.of_below _ (H1.out.2.1.trans (b2.mono H1.out.2.1.size))
  have ha : againL n k p q cols = (let c1 := if p = true then cols.set k P else cols; if q = true then c1.set (k + 1) Q else c1) := by rw [hP, hQ]; rfl
  have HA := Lib.hid ha
  clear c0 c1 c2 c3 hg b2 hP hQ ha
  obtain ⟨c0, c1, c2, c3, hg⟩ := A2.four
  obtain ⟨l0, l1, l2, l3⟩ : w2.cell? ⟨g1, 0, none⟩ = some (.slice a nd c) ∧ w2.cell? ⟨g1, 1, none⟩ = some (.bool p) ∧ w2.cell? ⟨g1, 2, none⟩ = some (.bool q) ∧ g1 < w2.heap.size := ⟨r2.cell 0 rfl, r2.cell 1 rfl, r2.cell 2 rfl, r2.lt⟩
  obtain ⟨u, d0⟩ := A2.held (i := k) (by omega)
  obtain ⟨u2, d1⟩ := A2.held (i := k + 1) (by omega)
  have hgc := A2.lt
  have dz := A2.free
  have H2 := Lib.hid (And.intro A2 (And.intro r2 K2))
  clear A2 r2 K2
  cases p <;> cases q
  · go_wp2_with fail
    go_end0
    exact ⟨rfl, H2.out.2.2, by rw [HA.out]; exact H2.out.1⟩
  · go_wp2_with fail
    refine wp_region_mix_exts (fun x => x = gr ∨ x = F) [] false (by kernel_rfl) (by kernel_rfl) ?_
    intro _
    repeat ((with_reducible refine wpMix_light ?hh ?_); (case hh => rfl); go_big_quiet_step (fail); (with_reducible refine wpQuiet_nil ?_))
    (with_reducible refine wpMix_heavy ?hh ?hw (fun K hK => ?_)); (case hh => rfl); (case hw => rfl)
    go_simp
    refine hK.out _ _ (toExtS (fun x hx => H2.out.1.keep (k + 1) _ x hx)) ?_
    clear hK K
    try simp only [Act.put]
    refine wpMix_nil ?_
    obtain ⟨A3, K3⟩ := H2.out.1.stored (k + 1) Q
    have H3 := Lib.hid (And.intro A3 (H2.out.2.2.trans K3))
    clear A3 K3 c0 c1 c2 c3 hg l0 l1 l2 l3 d0 d1 hgc dz
    go_wp2_with fail
    go_end0
    exact ⟨rfl, H3.out.2, by rw [HA.out]; exact H3.out.1⟩
  · go_wp2_with fail
    refine wp_region_mix_exts (fun x => x = gr ∨ x = F) [] false (by kernel_rfl) (by kernel_rfl) ?_
    intro _
    repeat ((with_reducible refine wpMix_light ?hh ?_); (case hh => rfl); go_big_quiet_step (fail); (with_reducible refine wpQuiet_nil ?_))
    (with_reducible refine wpMix_heavy ?hh ?hw (fun K hK => ?_)); (case hh => rfl); (case hw => rfl)
    go_simp
    refine hK.out _ _ (toExtS (fun x hx => H2.out.1.keep k _ x hx)) ?_
    clear hK K
    try simp only [Act.put]
    refine wpMix_nil ?_
    obtain ⟨A3, K3⟩ := H2.out.1.stored k P
    have r3 := (H2.out.2.1.other ⟨gc, k, none⟩ (strV P) hn1).drew
    have H3 := Lib.hid (And.intro A3 (H2.out.2.2.trans K3))
    obtain ⟨w3, hw3⟩ : ∃ w3, w3 = (w2.setCell ⟨gc, k, none⟩ (strV P)).drew := ⟨_, rfl⟩
    rw [show Value.string (mk P) = strV P from rfl, ← hw3]
    rw [← hw3] at H3 r3
    clear A3 K3 c0 c1 c2 c3 hg l0 l1 l2 l3 d0 d1 hgc dz hw3
    obtain ⟨l0, l1, l2, l3⟩ : w3.cell? ⟨g1, 0, none⟩ = some (.slice a nd c) ∧ w3.cell? ⟨g1, 1, none⟩ = some (.bool true) ∧ w3.cell? ⟨g1, 2, none⟩ = some (.bool false) ∧ g1 < w3.heap.size := ⟨r3.cell 0 rfl, r3.cell 1 rfl, r3.cell 2 rfl, r3.lt⟩
    clear r3
    go_wp2_with fail
    go_end0
    exact ⟨rfl, H3.out.2, by rw [HA.out]; exact H3.out.1⟩
  · go_wp2_with fail
    refine wp_region_mix_exts (fun x => x = gr ∨ x = F) [] false (by kernel_rfl) (by kernel_rfl) ?_
    intro _
    repeat ((with_reducible refine wpMix_light ?hh ?_); (case hh => rfl); go_big_quiet_step (fail); (with_reducible refine wpQuiet_nil ?_))
    (with_reducible refine wpMix_heavy ?hh ?hw (fun K hK => ?_)); (case hh => rfl); (case hw => rfl)
    go_simp
    refine hK.out _ _ (toExtS (fun x hx => H2.out.1.keep k _ x hx)) ?_
    clear hK K
    try simp only [Act.put]
    refine wpMix_nil ?_
    obtain ⟨A3, K3⟩ := H2.out.1.stored k P
    have r3 := (H2.out.2.1.other ⟨gc, k, none⟩ (strV P) hn1).drew
    obtain ⟨w3, hw3⟩ : ∃ w3, w3 = (w2.setCell ⟨gc, k, none⟩ (strV P)).drew := ⟨_, rfl⟩
    rw [show Value.string (mk P) = strV P from rfl, ← hw3]
    rw [← hw3] at A3 K3 r3
    clear c0 c1 c2 c3 hg l0 l1 l2 l3 d0 d1 hgc dz hw3
    obtain ⟨l0, l1, l2, l3⟩ : w3.cell? ⟨g1, 0, none⟩ = some (.slice a nd c) ∧ w3.cell? ⟨g1, 1, none⟩ = some (.bool true) ∧ w3.cell? ⟨g1, 2, none⟩ = some (.bool true) ∧ g1 < w3.heap.size := ⟨r3.cell 0 rfl, r3.cell 1 rfl, r3.cell 2 rfl, r3.lt⟩
    obtain ⟨c0, c1, c2, c3, hg⟩ := A3.four
    obtain ⟨u3, d1⟩ := A3.held (i := k + 1) (by omega)
    have hgc := A3.lt
    have dz := A3.free
    have H3 := Lib.hid (And.intro A3 (H2.out.2.2.trans K3))
    clear A3 K3 r3
    go_wp2_with fail
    refine wp_region_mix_exts (fun x => x = gr ∨ x = F) [] false (by kernel_rfl) (by kernel_rfl) ?_
    intro _
    repeat ((with_reducible refine wpMix_light ?hh ?_); (case hh => rfl); go_big_quiet_step (fail); (with_reducible refine wpQuiet_nil ?_))
    (with_reducible refine wpMix_heavy ?hh ?hw (fun K hK => ?_)); (case hh => rfl); (case hw => rfl)
    go_simp
    refine hK.out _ _ (toExtS (fun x hx => H3.out.1.keep (k + 1) _ x hx)) ?_
    clear hK K
    try simp only [Act.put]
    refine wpMix_nil ?_
    obtain ⟨A4, K4⟩ := H3.out.1.stored (k + 1) Q
    have H4 := Lib.hid (And.intro A4 (H3.out.2.trans K4))
    clear A4 K4 c0 c1 c2 c3 hg l0 l1 l2 l3 d1 hgc dz
    go_wp2_with fail
    go_end0
    exact ⟨rfl, H4.out.2, by rw [HA.out]; exact H4.out.1⟩
end Go.Proofs.YtjoipibldahbhaaGreatDoor
/- The lost columns of a row brought back: contract of 'fix'. -/
namespace Go.Proofs.YtjoipibldahbhaaGreatDoor
open Go Go.RowKit
set_option maxRecDepth 100000
variable {w w' : World} {v : Value} {b F gc gr cap k n : Nat} {d : Nat → Int} {cols : List (List Nat)} {lost : List Int}
theorem lessP_len (hf : Fits n cols lost) (hk : k < cols.length) : (lessP n cols lost k).length = n := by
  unfold lessP
  split
  · exact PL_len _ _
  · next h =>
    have := (hf k hk (by simpa using h)).2
    rw [xorL_len (by rw [PL_len, this]), PL_len]
theorem lessQ_len (hf : Fits n cols lost) (hk : k + 1 < cols.length) : (lessQ n cols lost k).length = n := by
  unfold lessQ
  split
  · exact QL_len _ _
  · next h =>
    have := (hf (k + 1) hk (by simpa using h)).2
    rw [xorL_len (by rw [QL_len, this]), QL_len]
theorem xorL_all {x y : List Nat} (hx : AllB x) (hy : AllB y) : AllB (xorL x y) := zipA xor_lt8 hx hy
theorem lessP_all (hf : Fits n cols lost) (hk : k < cols.length) : AllB (lessP n cols lost k) := by
  have h1 := dzF_one (n := n) hf (j := k) (by omega)
  unfold lessP
  split
  · exact PL_all h1.all
  · next h => exact xorL_all (PL_all h1.all) (hf k hk (by simpa using h)).1
theorem lessQ_all (hf : Fits n cols lost) (hk : k + 1 < cols.length) : AllB (lessQ n cols lost k) := by
  have h1 := dzF_one (n := n) hf (j := k) (by omega)
  unfold lessQ
  split
  · exact QL_all h1.all
  · next h => exact xorL_all (QL_all h1.all) (hf (k + 1) hk (by simpa using h)).1
/-- The data columns brought back. -/
def dataL (n k : Nat) (cols : List (List Nat)) (lost : List Int) : List (List Nat) :=
  match dsN k lost with
  | [] => cols
  | [i] => cols.set i (if hasI lost k = true then mulL (inv (pw i)) (lessQ n cols lost k) else lessP n cols lost k)
  | i :: j :: _ => (cols.set j (vB i j (lessP n cols lost k) (lessQ n cols lost k))).set i (uB i j (lessP n cols lost k) (lessQ n cols lost k))
def fixL (n k : Nat) (cols : List (List Nat)) (lost : List Int) : List (List Nat) := againL n k (hasI lost k) (hasI lost (k + 1)) (dataL n k cols lost)
theorem dataL_len : (dataL n k cols lost).length = cols.length := by
  unfold dataL
  split <;> simp
theorem vB_len {i j : Nat} {p q : List Nat} (e : p.length = q.length) : (vB i j p q).length = q.length := by unfold vB; rw [mulL_len, foldL_len e.symm]
theorem uB_len {i j : Nat} {p q : List Nat} (e : p.length = q.length) : (uB i j p q).length = p.length := by unfold uB; rw [xorL_len (by rw [vB_len e, e])]
theorem vB_all {i j : Nat} {p q : List Nat} (hp : AllB p) (hq : AllB q) : AllB (vB i j p q) := mulL_all (foldL_all hq hp _) _
theorem uB_all {i j : Nat} {p q : List Nat} (hp : AllB p) (hq : AllB q) : AllB (uB i j p q) := xorL_all hp (vB_all hp hq)
/-- Behind it all data columns are texts of n bytes. -/
theorem dataL_one (hf : Fits n cols lost) (hk : cols.length = k + 2) (hc : (dsN k lost).length ≤ 2) : One n ((dataL n k cols lost).take k) := by
  have hpl := lessP_len (k := k) hf (by omega)
  have hql := lessQ_len (k := k) hf (by omega)
  have hpa := lessP_all (k := k) hf (by omega)
  have hqa := lessQ_all (k := k) hf (by omega)
  have key : ∀ t, t < k → AllB ((dataL n k cols lost).getD t []) ∧ ((dataL n k cols lost).getD t []).length = n := by
    intro t ht
    have hin : hasI lost t = true ↔ t ∈ dsN k lost := by rw [dsN_mem]; unfold hasI; rw [List.contains_iff_mem]; exact ⟨fun h => ⟨ht, h⟩, fun h => h.2⟩
    have hun : hasI lost t = false → AllB (cols.getD t []) ∧ (cols.getD t []).length = n := hf t (by omega)
    unfold dataL
    split
    · next h =>
      rw [h] at hin
      exact hun (by rw [← Bool.not_eq_true, hin]; simp)
    · next i h =>
      rw [h] at hin
      by_cases e : i = t
      · subst e
        have : (cols.set i (if hasI lost k = true then mulL (inv (pw i)) (lessQ n cols lost k) else lessP n cols lost k)).getD i [] = (if hasI lost k = true then mulL (inv (pw i)) (lessQ n cols lost k) else lessP n cols lost k) := by
          simp [List.getD, show i < cols.length by omega]
        rw [this]
        split
        · exact ⟨mulL_all hqa _, by rw [mulL_len, hql]⟩
        · exact ⟨hpa, hpl⟩
      · have : (cols.set i (if hasI lost k = true then mulL (inv (pw i)) (lessQ n cols lost k) else lessP n cols lost k)).getD t [] = cols.getD t [] := by
          simp [List.getD, e]
        rw [this]
        exact hun (by rw [← Bool.not_eq_true, hin]; simp; exact fun h => e h.symm)
    · next i j r h =>
      rw [h] at hin hc
      have hr : r = [] := by cases r with
        | nil => rfl
        | cons a r => simp at hc
      subst hr
      by_cases e : i = t
      · subst e
        rw [show ((cols.set j (vB i j (lessP n cols lost k) (lessQ n cols lost k))).set i (uB i j (lessP n cols lost k) (lessQ n cols lost k))).getD i [] = uB i j (lessP n cols lost k) (lessQ n cols lost k) by
          simp [List.getD, show i < cols.length by omega]]
        exact ⟨uB_all hpa hqa, by rw [uB_len (by rw [hpl, hql]), hpl]⟩
      · by_cases e2 : j = t
        · subst e2
          rw [show ((cols.set j (vB i j (lessP n cols lost k) (lessQ n cols lost k))).set i (uB i j (lessP n cols lost k) (lessQ n cols lost k))).getD j [] = vB i j (lessP n cols lost k) (lessQ n cols lost k) by
            simp [List.getD, e, show j < cols.length by omega]]
          exact ⟨vB_all hpa hqa, by rw [vB_len (by rw [hpl, hql]), hql]⟩
        · rw [show ((cols.set j (vB i j (lessP n cols lost k) (lessQ n cols lost k))).set i (uB i j (lessP n cols lost k) (lessQ n cols lost k))).getD t [] = cols.getD t [] by
            simp [List.getD, e, e2]]
          exact hun (by rw [← Bool.not_eq_true, hin]; simp; exact ⟨fun h => e h.symm, fun h => e2 h.symm⟩)
  intro l hl
  obtain ⟨t, ht⟩ := List.getElem?_of_mem hl
  rw [List.getElem?_take] at ht
  split at ht
  · next h =>
    have := key t h
    rw [List.getD, ht] at this
    exact this
  · cases ht
end Go.Proofs.YtjoipibldahbhaaGreatDoor
