import Derived.Test.YtijagdpkclghnaaDoorMNext
namespace Go.Proofs.YtijagdpkclghnaaDoor
open Go Go.RowKit
set_option maxRecDepth 100000
def nats (l : List Nat) : List Value := l.map fun n : Nat => Value.int .i64 (n : Int)
theorem nats_append (a b : List Nat) : nats (a ++ b) = nats a ++ nats b := by unfold nats; simp
theorem nats_length (a : List Nat) : (nats a).length = a.length := by unfold nats; simp
theorem infoIntM : (Tryd.prog.info? 3).map (fun i => (i.zero, i.size, i.bytes)) = some (some (.int .i64 0), 1, 8) := by kernel_rfl
theorem bitsOf_len (base y : Nat) : (bitsOf base y).length ≤ 64 := by
  unfold bitsOf
  rw [List.length_map]
  exact Nat.le_trans (List.length_filter_le _ _) (by simp)
theorem clear_bits (y : Nat) (hy : y < 18446744073709551616) (h0 : y ≠ 0) : bits .and .u64 (y : Int) ((y : Int) - 1) = ((y &&& (y - 1) : Nat) : Int) := by
  rw [show (y : Int) - 1 = ((y - 1 : Nat) : Int) by omega, u64_and_nat y _ hy (by omega)]
/-- The numbers of the words from k on. -/
def tails (s : Set4) (k : Nat) : List Nat := if k = 0 then s.list else if k = 1 then bitsOf 64 s.b ++ (bitsOf 128 s.c ++ bitsOf 192 s.d) else if k = 2 then bitsOf 128 s.c ++ bitsOf 192 s.d else if k = 3 then bitsOf 192 s.d else []
theorem tails_step (s : Set4) (k : Nat) (hk : k < 4) : tails s k = bitsOf (64 * k) (s.word k) ++ tails s (k + 1) := by
  have : k = 0 ∨ k = 1 ∨ k = 2 ∨ k = 3 := by omega
  rcases this with rfl | rfl | rfl | rfl
  · exact s.list_words
  · rfl
  · rfl
  · exact (List.append_nil _).symm
theorem list_len (s : Set4) : s.list.length ≤ 256 := by unfold Set4.list; exact Nat.le_trans (List.length_filter_le _ _) (by simp)
theorem part_len {a b c : List Nat} {s : Set4} (h : a ++ (b ++ c) = s.list) : a.length ≤ 256 := by have := list_len s; rw [← h] at this; simp at this; omega
theorem cellOneM (w : World) (v : Value) (t : TypeId) : ∀ (j : Nat) (u : Value), [v][j]? = some u → (w.alloc (.cells #[v] t)).cell? ((⟨w.heap.size, 0, none⟩ : Addr).add j) = some u := by
  intro j u h
  cases j with
  | zero => simp at h; subst h; simp [Addr.add]
  | succ j => simp at h
theorem own_snoc {w : World} {B : Nat} {E : TypeId} {v : Value} {l : List Nat} {z : Int} (h : w.ownsRow B E 1 v (l.length + 1) (nats l ++ [.int .i64 z])) (n : Nat) (hz : z = (n : Int)) : w.ownsRow B E 1 v (l ++ [n]).length (nats (l ++ [n])) := by
  subst hz
  rw [nats_append, List.length_append]
  exact h
set_option maxHeartbeats 4000000 in
theorem List_any (s : Set4) (w : World) (hT : Tab w) : Calls Tryd.prog 32 #[s.val] w fun e w' => (∃ v, e = .returned v ∧ w'.ownsRow w.heap.size 3 1 v s.list.length (nats s.list)) ∧ Below w.heap.size w w' := by
  have hlt := hT.lt
  have HT := Lib.hid hT
  clear hT
  obtain ⟨i0, hi, hz0, hz1, hz2⟩ := info_parts infoIntM
  have HI : Hid (Tryd.prog.info? 3 = some i0 ∧ i0.zero = some (.int .i64 0) ∧ i0.size = 1 ∧ i0.bytes = 8) := ⟨hi, hz0, hz1, hz2⟩
  clear hi hz0 hz1 hz2
  go_enter Tryd.func32, Tryd.ntmps32
  go_wp2
  go_loopw [3, 7] (fun v i wr => ∃ (k : Nat) (l : List Nat), k ≤ 4 ∧ i = .int .i64 k ∧ l ++ tails s k = s.list ∧ Below w.heap.size w wr ∧ w.heap.size + 1 ≤ wr.heap.size ∧ wr.ownsRow w.heap.size 3 1 v l.length (nats l)) (fun _ i _ => 4 - (intOf i).toNat)
  case atStart => exact ⟨0, [], by omega, rfl, rfl, (by repeat' (first | (with_reducible exact Below.refl _ _) | (with_reducible assumption) | (with_reducible refine Below.setCell ?_ ?_ _) | (with_reducible refine Below.ext ?_ _ ?_) | (with_reducible refine Below.alloc ?_ ?_ _) | (with_reducible refine Below.drew ?_) | (with_reducible refine Below.drewN ?_ _) | (with_reducible exact Nat.le_refl _) | (dsimp only; omega) | (simp <;> omega))), by simp, World.ownsRow_nil _ _ _ _⟩
  case round =>
    obtain ⟨k, l, hk, rfl, hl, hB, hz, ho⟩ := hrel
    have HLl := Lib.hid hl
    clear hl
    by_cases h4 : k = 4
    · subst h4
      go_wp2
      go_ret
      have hl := HLl.out
      rw [show tails s 4 = [] by rfl, List.append_nil] at hl
      rw [hl] at ho
      exact ⟨⟨_, rfl, ho⟩, hB⟩
    · obtain rfl | rfl | rfl | rfl : k = 0 ∨ k = 1 ∨ k = 2 ∨ k = 3 := by omega
      · go_wp2
        obtain ⟨wo, rfl⟩ : ∃ wo : World, wo = wr := ⟨_, rfl⟩
        go_loopw [3, 5] (fun v x wr => ∃ (l : List Nat) (y : Nat), y < 18446744073709551616 ∧ x = .int .u64 y ∧ l ++ (bitsOf (64 * 0) y ++ tails s (0 + 1)) = s.list ∧ Below w.heap.size w wr ∧ w.heap.size + 1 ≤ wr.heap.size ∧ wr.ownsRow w.heap.size 3 1 v l.length (nats l)) (fun _ x _ => (intOf x).toNat)
        case atStart => exact ⟨l, s.word 0, s.word_lt 0, rfl, by rw [← tails_step s 0 (by omega)]; exact HLl.out, hB, hz, ho⟩
        case round =>
          clear hB hz ho HLl
          obtain ⟨l2, y, hy, rfl, hl, hB, hz, ho⟩ := hrel
          have HTr := Lib.hid (HT.out.below hB hlt)
          have hlen := part_len hl
          have HLl := Lib.hid hl
          clear hl
          by_cases h0 : y = 0
          · subst h0
            go_wp2
            go_roundw
            case rel => exact ⟨0 + 1, l2, by omega, by go_num, by have := HLl.out; rw [bitsOf_zero, List.nil_append] at this; exact this, hB, hz, ho⟩
            case measure => simp [intOf]
          · have e0 : ((y : Int) == 0) = false := by rw [beq_cast]; exact beq_eq_false_iff_ne.2 h0
            have hk2 := (ctz_spec y h0 hy).1
            have Z := Lib.hid h0
            clear h0
            go_wp2_with (first | (go_at_call 55; refine (Trail_any _ _ hy Z.out HTr.out).mono ?_; rintro e w' ⟨rfl, rfl⟩) | (at_builtin; refine wpList_append_own _ rfl _ _ 45 rfl w.heap.size 3 i0 (.int .i64 0) 1 8 Tryd.underlying45 HI.out.1 HI.out.2.1 HI.out.2.2.1 HI.out.2.2.2 rfl (by decide) _ _ _ rfl (ho.alloc _) ⟨wr.heap.size, 0, none⟩ 1 1 [.int .i64 (Lib.ctz 64 y : Nat)] rfl rfl ?c1 ?c2 ?c3 ?c4 ?c5 ?_))
            case c1 => exact cellOneM _ _ _
            case c2 => simp [Value.oneCell']
            case c3 => unfold maxLen; omega
            case c4 => omega
            case c5 => simp; omega
            intro v' w1 ho1 hg _
            have hB1 : Below w.heap.size w w1 := (hB.alloc (by omega) _).grown hg (by simp; omega) (fun k hk => (ho.lt k hk).1)
            have hz1 : w.heap.size + 1 ≤ w1.heap.size := by have := hg.size; simp at this; omega
            have ho2 := own_snoc ho1 (64 * 0 + Lib.ctz 64 y) (by simp)
            have HC := Lib.hid (clear_bits y hy Z.out)
            have hlt2 := clear_lt y Z.out
            clear ho ho1 hg hB hz
            go_wp2
            go_roundw
            case rel =>
              (repeat apply Exists.intro)
              refine ⟨⟨l2 ++ [64 * 0 + Lib.ctz 64 y], y &&& (y - 1), Nat.lt_trans hlt2 hy, by rw [HC.out], ?_, hB1, hz1, ho2⟩, rfl⟩
              have := HLl.out
              rw [bitsOf_step _ y Z.out hy] at this
              rw [← this]; simp
            case measure =>
              show (bits .and .u64 (y : Int) ((y : Int) - 1)).toNat < (y : Int).toNat
              rw [HC.out]; omega
      · go_wp2
        obtain ⟨wo, rfl⟩ : ∃ wo : World, wo = wr := ⟨_, rfl⟩
        go_loopw [3, 5] (fun v x wr => ∃ (l : List Nat) (y : Nat), y < 18446744073709551616 ∧ x = .int .u64 y ∧ l ++ (bitsOf (64 * 1) y ++ tails s (1 + 1)) = s.list ∧ Below w.heap.size w wr ∧ w.heap.size + 1 ≤ wr.heap.size ∧ wr.ownsRow w.heap.size 3 1 v l.length (nats l)) (fun _ x _ => (intOf x).toNat)
        case atStart => exact ⟨l, s.word 1, s.word_lt 1, rfl, by rw [← tails_step s 1 (by omega)]; exact HLl.out, hB, hz, ho⟩
        case round =>
          clear hB hz ho HLl
          obtain ⟨l2, y, hy, rfl, hl, hB, hz, ho⟩ := hrel
          have HTr := Lib.hid (HT.out.below hB hlt)
          have hlen := part_len hl
          have HLl := Lib.hid hl
          clear hl
          by_cases h0 : y = 0
          · subst h0
            go_wp2
            go_roundw
            case rel => exact ⟨1 + 1, l2, by omega, by go_num, by have := HLl.out; rw [bitsOf_zero, List.nil_append] at this; exact this, hB, hz, ho⟩
            case measure => simp [intOf]
          · have e0 : ((y : Int) == 0) = false := by rw [beq_cast]; exact beq_eq_false_iff_ne.2 h0
            have hk2 := (ctz_spec y h0 hy).1
            have Z := Lib.hid h0
            clear h0
            go_wp2_with (first | (go_at_call 55; refine (Trail_any _ _ hy Z.out HTr.out).mono ?_; rintro e w' ⟨rfl, rfl⟩) | (at_builtin; refine wpList_append_own _ rfl _ _ 45 rfl w.heap.size 3 i0 (.int .i64 0) 1 8 Tryd.underlying45 HI.out.1 HI.out.2.1 HI.out.2.2.1 HI.out.2.2.2 rfl (by decide) _ _ _ rfl (ho.alloc _) ⟨wr.heap.size, 0, none⟩ 1 1 [.int .i64 (64 + (Lib.ctz 64 y : Nat))] rfl rfl ?c1 ?c2 ?c3 ?c4 ?c5 ?_))
            case c1 => exact cellOneM _ _ _
            case c2 => simp [Value.oneCell']
            case c3 => unfold maxLen; omega
            case c4 => omega
            case c5 => simp; omega
            intro v' w1 ho1 hg _
            have hB1 : Below w.heap.size w w1 := (hB.alloc (by omega) _).grown hg (by simp; omega) (fun k hk => (ho.lt k hk).1)
            have hz1 : w.heap.size + 1 ≤ w1.heap.size := by have := hg.size; simp at this; omega
            have ho2 := own_snoc ho1 (64 * 1 + Lib.ctz 64 y) (by simp)
            have HC := Lib.hid (clear_bits y hy Z.out)
            have hlt2 := clear_lt y Z.out
            clear ho ho1 hg hB hz
            go_wp2
            go_roundw
            case rel =>
              (repeat apply Exists.intro)
              refine ⟨⟨l2 ++ [64 * 1 + Lib.ctz 64 y], y &&& (y - 1), Nat.lt_trans hlt2 hy, by rw [HC.out], ?_, hB1, hz1, ho2⟩, rfl⟩
              have := HLl.out
              rw [bitsOf_step _ y Z.out hy] at this
              rw [← this]; simp
            case measure =>
              show (bits .and .u64 (y : Int) ((y : Int) - 1)).toNat < (y : Int).toNat
              rw [HC.out]; omega
      · go_wp2
        obtain ⟨wo, rfl⟩ : ∃ wo : World, wo = wr := ⟨_, rfl⟩
        go_loopw [3, 5] (fun v x wr => ∃ (l : List Nat) (y : Nat), y < 18446744073709551616 ∧ x = .int .u64 y ∧ l ++ (bitsOf (64 * 2) y ++ tails s (2 + 1)) = s.list ∧ Below w.heap.size w wr ∧ w.heap.size + 1 ≤ wr.heap.size ∧ wr.ownsRow w.heap.size 3 1 v l.length (nats l)) (fun _ x _ => (intOf x).toNat)
        case atStart => exact ⟨l, s.word 2, s.word_lt 2, rfl, by rw [← tails_step s 2 (by omega)]; exact HLl.out, hB, hz, ho⟩
        case round =>
          clear hB hz ho HLl
          obtain ⟨l2, y, hy, rfl, hl, hB, hz, ho⟩ := hrel
          have HTr := Lib.hid (HT.out.below hB hlt)
          have hlen := part_len hl
          have HLl := Lib.hid hl
          clear hl
          by_cases h0 : y = 0
          · subst h0
            go_wp2
            go_roundw
            case rel => exact ⟨2 + 1, l2, by omega, by go_num, by have := HLl.out; rw [bitsOf_zero, List.nil_append] at this; exact this, hB, hz, ho⟩
            case measure => simp [intOf]
          · have e0 : ((y : Int) == 0) = false := by rw [beq_cast]; exact beq_eq_false_iff_ne.2 h0
            have hk2 := (ctz_spec y h0 hy).1
            have Z := Lib.hid h0
            clear h0
            go_wp2_with (first | (go_at_call 55; refine (Trail_any _ _ hy Z.out HTr.out).mono ?_; rintro e w' ⟨rfl, rfl⟩) | (at_builtin; refine wpList_append_own _ rfl _ _ 45 rfl w.heap.size 3 i0 (.int .i64 0) 1 8 Tryd.underlying45 HI.out.1 HI.out.2.1 HI.out.2.2.1 HI.out.2.2.2 rfl (by decide) _ _ _ rfl (ho.alloc _) ⟨wr.heap.size, 0, none⟩ 1 1 [.int .i64 (128 + (Lib.ctz 64 y : Nat))] rfl rfl ?c1 ?c2 ?c3 ?c4 ?c5 ?_))
            case c1 => exact cellOneM _ _ _
            case c2 => simp [Value.oneCell']
            case c3 => unfold maxLen; omega
            case c4 => omega
            case c5 => simp; omega
            intro v' w1 ho1 hg _
            have hB1 : Below w.heap.size w w1 := (hB.alloc (by omega) _).grown hg (by simp; omega) (fun k hk => (ho.lt k hk).1)
            have hz1 : w.heap.size + 1 ≤ w1.heap.size := by have := hg.size; simp at this; omega
            have ho2 := own_snoc ho1 (64 * 2 + Lib.ctz 64 y) (by simp)
            have HC := Lib.hid (clear_bits y hy Z.out)
            have hlt2 := clear_lt y Z.out
            clear ho ho1 hg hB hz
            go_wp2
            go_roundw
            case rel =>
              (repeat apply Exists.intro)
              refine ⟨⟨l2 ++ [64 * 2 + Lib.ctz 64 y], y &&& (y - 1), Nat.lt_trans hlt2 hy, by rw [HC.out], ?_, hB1, hz1, ho2⟩, rfl⟩
              have := HLl.out
              rw [bitsOf_step _ y Z.out hy] at this
              rw [← this]; simp
            case measure =>
              show (bits .and .u64 (y : Int) ((y : Int) - 1)).toNat < (y : Int).toNat
              rw [HC.out]; omega
      · go_wp2
        obtain ⟨wo, rfl⟩ : ∃ wo : World, wo = wr := ⟨_, rfl⟩
        go_loopw [3, 5] (fun v x wr => ∃ (l : List Nat) (y : Nat), y < 18446744073709551616 ∧ x = .int .u64 y ∧ l ++ (bitsOf (64 * 3) y ++ tails s (3 + 1)) = s.list ∧ Below w.heap.size w wr ∧ w.heap.size + 1 ≤ wr.heap.size ∧ wr.ownsRow w.heap.size 3 1 v l.length (nats l)) (fun _ x _ => (intOf x).toNat)
        case atStart => exact ⟨l, s.word 3, s.word_lt 3, rfl, by rw [← tails_step s 3 (by omega)]; exact HLl.out, hB, hz, ho⟩
        case round =>
          clear hB hz ho HLl
          obtain ⟨l2, y, hy, rfl, hl, hB, hz, ho⟩ := hrel
          have HTr := Lib.hid (HT.out.below hB hlt)
          have hlen := part_len hl
          have HLl := Lib.hid hl
          clear hl
          by_cases h0 : y = 0
          · subst h0
            go_wp2
            go_roundw
            case rel => exact ⟨3 + 1, l2, by omega, by go_num, by have := HLl.out; rw [bitsOf_zero, List.nil_append] at this; exact this, hB, hz, ho⟩
            case measure => simp [intOf]
          · have e0 : ((y : Int) == 0) = false := by rw [beq_cast]; exact beq_eq_false_iff_ne.2 h0
            have hk2 := (ctz_spec y h0 hy).1
            have Z := Lib.hid h0
            clear h0
            go_wp2_with (first | (go_at_call 55; refine (Trail_any _ _ hy Z.out HTr.out).mono ?_; rintro e w' ⟨rfl, rfl⟩) | (at_builtin; refine wpList_append_own _ rfl _ _ 45 rfl w.heap.size 3 i0 (.int .i64 0) 1 8 Tryd.underlying45 HI.out.1 HI.out.2.1 HI.out.2.2.1 HI.out.2.2.2 rfl (by decide) _ _ _ rfl (ho.alloc _) ⟨wr.heap.size, 0, none⟩ 1 1 [.int .i64 (192 + (Lib.ctz 64 y : Nat))] rfl rfl ?c1 ?c2 ?c3 ?c4 ?c5 ?_))
            case c1 => exact cellOneM _ _ _
            case c2 => simp [Value.oneCell']
            case c3 => unfold maxLen; omega
            case c4 => omega
            case c5 => simp; omega
            intro v' w1 ho1 hg _
            have hB1 : Below w.heap.size w w1 := (hB.alloc (by omega) _).grown hg (by simp; omega) (fun k hk => (ho.lt k hk).1)
            have hz1 : w.heap.size + 1 ≤ w1.heap.size := by have := hg.size; simp at this; omega
            have ho2 := own_snoc ho1 (64 * 3 + Lib.ctz 64 y) (by simp)
            have HC := Lib.hid (clear_bits y hy Z.out)
            have hlt2 := clear_lt y Z.out
            clear ho ho1 hg hB hz
            go_wp2
            go_roundw
            case rel =>
              (repeat apply Exists.intro)
              refine ⟨⟨l2 ++ [64 * 3 + Lib.ctz 64 y], y &&& (y - 1), Nat.lt_trans hlt2 hy, by rw [HC.out], ?_, hB1, hz1, ho2⟩, rfl⟩
              have := HLl.out
              rw [bitsOf_step _ y Z.out hy] at this
              rw [← this]; simp
            case measure =>
              show (bits .and .u64 (y : Int) ((y : Int) - 1)).toNat < (y : Int).toNat
              rw [HC.out]; omega
end Go.Proofs.YtijagdpkclghnaaDoor
