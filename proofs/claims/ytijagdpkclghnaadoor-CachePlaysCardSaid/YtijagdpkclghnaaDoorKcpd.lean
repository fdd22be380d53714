/- Several texts in one: CStep CSec COpen COpenA CFill CDone CCol CWakes CWakesW CLawOld CActs URefLaw URefRel. -/
import Derived.Test.YtijagdpkclghnaaDoorKcpc
import Derived.Deep.OwnRows
import Derived.Laws.BytesArg
import Derived.Laws.Concat
import Derived.Laws.Closers25
/- A cache's steps: a stripe is new; a turn touched, pinned: plain laws. -/
namespace Go.Proofs.YtijagdpkclghnaaDoor
open Go Go.RowKit
set_option maxRecDepth 100000
variable {B n data : Nat} {w w' w1 w2 w3 w4 : World} {C : CM} {T T' : TS} {M' : TM} {L : List Int} {f : Int → Option Ent} {E E' : Ent} {i : Int}
theorem turnKeep (h : TurnAt B n w M' T) (hs : ∀ k, M'.foot k → w'.heap[k]? = w.heap[k]?) : TurnAt B n w' M' T :=
  ⟨rowSame h.row (hs _ (.inl rfl)), irow_same h.o1 fun x hx => hs x (.inr (.inr (.inl hx))), irow_same h.o2 fun x hx => hs x (.inr (.inr (.inr hx))), h.pm.same (hs _ (.inr (.inl rfl))), h.gm, h.g1, h.g2, h.m1, h.m2, h.d12, h.bg, h.bm⟩
/-- A stripe is there from now on. -/
theorem CacheAt.added (h : CacheAt B n data w1 C T L f) (hS : Step C.M M' w1 w2) (hT : TurnAt B n w2 M' T') (hG : Good T') (hk : ∀ k, T'.has k = (addTo L i).contains k) (hb : Below w2.heap.size w2 w3) (hE : EntAt B data w3 E') (hnew : ∀ x, E'.foot x → w2.heap.size ≤ x)
    (hm : w4.pmap Tryd.prog tI C.m (n + 1) (addTo L i) (fun y => if y = i then some E'.g else (f y).map Ent.g)) (hg : w3.grownBy w4 (some C.m)) (hf : f i = none) :
    CacheAt B (n + 1) data w4 { C with M := M' } T' (addTo L i) (upd f i (some E')) ∧ CStep C f { C with M := M' } (upd f i (some E')) w1 w4 := by
  have s12 := hS.size
  have s23 := hb.size
  have s34 := hg.size
  have hout : ∀ x, x < w1.heap.size → ¬ C.M.foot x → ¬ M'.foot x := fun x hx hn => Step.out hS hx hn
  -- a block of before stays, if it is neither the map's nor the turn's
  have k14 : ∀ x, x < w1.heap.size → ¬ C.M.foot x → x ≠ C.m → w4.heap[x]? = w1.heap[x]? := fun x hx hn hne =>
    ((hg.block x (by omega) (fun e => hne (Option.some.inj e))).trans (hb.block x (by omega))).trans (hS.block x hx hn)
  have k24 : ∀ x, x < w2.heap.size → x ≠ C.m → w4.heap[x]? = w2.heap[x]? := fun x hx hne => (hg.block x (by omega) (fun e => hne (Option.some.inj e))).trans (hb.block x hx)
  have hmM : ¬ M'.foot C.m := hout _ h.map.lt h.mM
  have hmap : (fun j => (upd f i (some E') j).map Ent.g) = fun y => if y = i then some E'.g else (f y).map Ent.g := by
    funext j
    by_cases e : j = i
    · subst e; rw [upd_same, if_pos rfl]; rfl
    · rw [upd_other f _ e, if_neg e]
  have old : ∀ j F, f j = some F → ∀ x, F.foot x → x < w1.heap.size := fun j F hF x hx => ((h.ent j F hF).lts x hx).2
  refine ⟨⟨?_, ?_, hG, by rw [hmap]; exact hm, fun j F hF => ?_, fun j F j' F' hF hF' hne x hx => ?_, fun j F hF x hx => ?_, h.gm, hout _ h.row.lt h.gM, hmM, h.bg, h.bm, hk, h.d2, h.d30⟩, ?_⟩
  · have := rowSame h.row (k14 _ h.row.lt h.gM h.gm)
    show w4.row C.g [.pointer (some ⟨M'.g, 0, none⟩), _, _] tC
    rw [hS.g]; exact this
  · exact (turnKeep hT fun x hx => k24 x (hT.lts x hx).2 fun e => hmM (e ▸ hx)).mono (by omega)
  · by_cases e : j = i
    · subst e
      rw [upd_same] at hF
      cases hF
      exact hE.same fun x hx => hg.block x ((hE.lts x hx).2) fun e => by have := Option.some.inj e; have h1 := hnew x hx; have := h.map.lt; omega
    · rw [upd_other f _ e] at hF
      exact (h.ent j F hF).same fun x hx => k14 x (old j F hF x hx) (h.off j F hF x hx).2.2 (h.off j F hF x hx).2.1
  · by_cases e : j = i
    · subst e
      rw [upd_same] at hF
      cases hF
      rw [upd_other f _ (Ne.symm hne)] at hF'
      exact fun hx2 => by have h1 := hnew x hx; have := old j' F' hF' x hx2; omega
    · rw [upd_other f _ e] at hF
      by_cases e' : j' = i
      · subst e'
        rw [upd_same] at hF'
        cases hF'
        exact fun hx2 => by have h1 := hnew x hx2; have := old j F hF x hx; omega
      · rw [upd_other f _ e'] at hF'
        exact h.apart j F j' F' hF hF' hne x hx
  · by_cases e : j = i
    · subst e
      rw [upd_same] at hF
      cases hF
      have h1 := hnew x hx
      have h2 := h.row.lt
      have h3 := h.map.lt
      refine ⟨fun e => (by have e : x = C.g := e; omega), fun e => (by have e : x = C.m := e; omega), fun hx2 => ?_⟩
      have := (hT.lts x hx2).2
      omega
    · rw [upd_other f _ e] at hF
      have ho := h.off j F hF x hx
      exact ⟨ho.1, ho.2.1, hout x (old j F hF x hx) ho.2.2⟩
  · refine ⟨rfl, hg.os.trans (hb.os.trans hS.os), hg.tape.trans (hb.tape.trans hS.tape), hg.output.trans (hb.output.trans hS.output), by omega, fun x hx => ?_, fun x hx hn => k14 x hx (fun hf2 => hn (.inr (.inr (.inl hf2)))) fun e => hn (.inr (.inl e))⟩
    rcases hx with hx | hx | hx | ⟨j, F, hF, hx⟩
    · exact .inl (.inl hx)
    · exact .inl (.inr (.inl hx))
    · rcases hS.foot x hx with h1 | h1
      · exact .inl (.inr (.inr (.inl h1)))
      · exact .inr h1
    · by_cases e : j = i
      · subst e
        rw [upd_same] at hF
        cases hF
        exact .inr (by have := hnew x hx; omega)
      · rw [upd_other f _ e] at hF
        exact .inl (.inr (.inr (.inr ⟨j, F, hF, hx⟩)))
theorem touch_permC (h : Good T) (k : Int) : ((T.touchT k).plain ++ (T.touchT k).dear).Perm (T.plain ++ T.dear) := by
  unfold TS.touchT
  by_cases hk : T.has k = true
  · rw [if_pos hk]
    have hp := moved_perm h k hk
    unfold TS.fallT
    cases hc : (T.moved k).dear with
    | nil => exact absurd hc (by simp [TS.moved])
    | cons d ds =>
      rw [hc] at hp
      simp only [List.length_cons]
      by_cases hlim : (T.moved k).limit < ds.length + 1
      · rw [if_pos hlim]
        show (((T.moved k).plain ++ [d]) ++ ds).Perm (T.plain ++ T.dear)
        rw [List.append_assoc]; exact hp
      · rw [if_neg hlim]
        show ((T.moved k).plain ++ (T.moved k).dear).Perm (T.plain ++ T.dear)
        rw [hc]; exact hp
  · rw [if_neg hk]
theorem touch_has (h : Good T) (k j : Int) : (T.touchT k).has j = T.has j := by
  rw [Bool.eq_iff_iff, has_iff, has_iff]
  exact (touch_permC h k).mem_iff
theorem pin_has (T : TS) (k : Int) (on : Bool) (j : Int) : (T.pinT k on).has j = T.has j := by
  unfold TS.pinT
  split <;> rfl
theorem add_yes (hn : T.full = false) (hh : T.has i = false) : T.addE i = 0 ∧ T.addT i = { T with plain := T.plain ++ [i] } := by
  unfold TS.addE TS.addT
  simp [hn, hh]
theorem add_has (hn : T.full = false) (hh : T.has i = false) (k : Int) : (T.addT i).has k = (T.has k || i == k) := by
  rw [(add_yes hn hh).2]
  unfold TS.has
  show (T.dear.contains k || (T.plain ++ [i]).contains k) = _
  rw [List.contains_eq_mem, List.contains_eq_mem, List.contains_eq_mem]
  by_cases e : i = k
  · subst e; simp
  · rw [show (i == k) = false from beq_eq_false_iff_ne.2 e]
    simp [Ne.symm e]
end Go.Proofs.YtijagdpkclghnaaDoor
/- The law's sector: contract. -/
namespace Go.Proofs.YtijagdpkclghnaaDoor
open Go Go.RowKit
set_option maxRecDepth 100000
abbrev tU8 : TypeId := 5
theorem infoU8 : (Tryd.prog.info? tU8).map (fun i => (i.zero, i.size, i.bytes)) = some (some (.int .u8 0), 1, 1) := by kernel_rfl
def zs63 : Array Value := madeCells #[.int .u8 0] 63
def Z63 (w : World) (g : Nat) : Prop := w.heap[g]? = some (.cells zs63 tU8 (0, 0))
@[go_sem] theorem Z63.alloc (w : World) (n : Nat) (o : Obj) : Z63 (w.alloc o) n = (if n = w.heap.size then o = .cells zs63 tU8 else Z63 w n) := by
  unfold Z63 World.alloc
  by_cases e : n = w.heap.size
  · simp [e]
  · simp [e, Array.getElem?_push]
@[go_sem] theorem Z63.drew (w : World) (n : Nat) : Z63 w.drew n = Z63 w n := propext Iff.rfl
/-- The bytes of a sector. -/
def zer63 : ByteArray := strOfNums (List.replicate 63 0)
def one8 (b : Int) : ByteArray := strOfNums [b]
def secB (b : Int) : ByteArray := one8 b ++ zer63
@[go_sem] theorem conv_1 (w : World) (g : Nat) (b : Int) (h : w.cell? ⟨g, 0, none⟩ = some (.int .u8 b)) : (convert 57 9 (.slice (some ⟨g, 0, none⟩) 1 1)).run Tryd.prog w = .ok (.string (one8 b)) w :=
  run_convert_bytes_arg w 57 tU8 Tryd.underlying57 Tryd.underlying5 g 0 1 1 [b] rfl (fun i hi => (by
    have e : i = 0 := by omega
    subst e
    exact h)) 9 Tryd.underlying9
theorem zs63_at : ∀ i, i < 63 → zs63[i]? = some (.int .u8 ((List.replicate 63 (0 : Int)).getD i 0)) := fun i hi => by
  have h1 : ∀ n : Nat, i < n → (List.replicate n (0 : Int)).getD i 0 = 0 := fun n hn => by simp [List.getD, hn]
  have h2 : ∀ n : Nat, i < n → (madeCells #[Value.int .u8 0] n)[i]? = some (.int .u8 0) := fun n hn => by
    unfold madeCells
    simp [hn, Nat.mod_one]
  rw [h1 63 hi]
  exact h2 63 hi
@[go_sem] theorem conv_z (w : World) (g : Nat) (h : Z63 w g) : (convert 57 9 (.slice (some ⟨g, 0, none⟩) 63 63)).run Tryd.prog w = .ok (.string zer63) w :=
  run_convert_bytes_arg w 57 tU8 Tryd.underlying57 Tryd.underlying5 g 0 63 63 (List.replicate 63 0) (by simp) (fun i hi => by
    unfold Z63 at h
    rw [Nat.zero_add]
    simp only [World.cell?, h]
    exact zs63_at i hi) 9 Tryd.underlying9
theorem sec_any (b : Int) (w : World) : Calls Tryd.prog 9 #[.int .u8 b, .bool false] w fun e w' => e = .returned (.string (secB b)) ∧ Below w.heap.size w w' := by
  have hmk : ∀ w, (Instr.makeSlice 57 (.int .i64 63) (.int .i64 63)).run Tryd.prog w = .ok (.slice (some ⟨w.heap.size, 0, none⟩) 63 63) (w.alloc (.cells zs63 tU8)) := fun w => run_make_row' (P := Tryd.prog) 57 tU8 (.int .u8 0) 1 Tryd.underlying57 infoU8 rfl .i64 .i64 63 (by decide) (by decide) w
  have hadd : ∀ w, (Op.stringOp .add (one8 b) zer63).run Tryd.prog w = .ok (.string (secB b)) w := fun w => run_string_add_sum w _ _ (by unfold one8 zer63; rw [strOfNums_size, strOfNums_size]; simp)
  go_enter Tryd.func9, Tryd.ntmps9
  go_wp2_with fail
  go_region
  all_goals
    go_wp2_with fail
    go_returns
    exact ⟨rfl, (by repeat' (first | (with_reducible exact Below.refl _ _) | (with_reducible assumption) | (with_reducible refine Below.setCell ?_ ?_ _) | (with_reducible refine Below.ext ?_ _ ?_) | (with_reducible refine Below.alloc ?_ ?_ _) | (with_reducible refine Below.drew ?_) | (with_reducible refine Below.drewN ?_ _) | (with_reducible exact Nat.le_refl _) | (dsimp only; omega) | (simp <;> omega)))⟩
theorem one8_size (b : Int) : (one8 b).size = 1 := by unfold one8; rw [strOfNums_size]; rfl
theorem zer63_size : zer63.size = 63 := by unfold zer63; rw [strOfNums_size]; simp
theorem secB_size (b : Int) : (secB b).size = 64 := by unfold secB; rw [ByteArray.size_append, one8_size, zer63_size]
end Go.Proofs.YtijagdpkclghnaaDoor
/- place, open of a cache: contracts. -/
namespace Go.Proofs.YtijagdpkclghnaaDoor
open Go Go.RowKit
set_option maxRecDepth 100000
variable {B n data : Nat} {w w' : World} {C : CM} {T : TS} {L : List Int} {f : Int → Option Ent} {E : Ent}
theorem place_no (w : World) (h : CacheAt B n data w C T L f) (hn : T.full = false) :
    Calls Tryd.prog 50 #[pt C.g] w fun e w' => e = .returned (.int .i64 0) ∧ Below w.heap.size w w' := by
  obtain ⟨c0, c1, c2⟩ := h.three
  have hF := Full_any w h.turn h.good
  rw [show decide (T.most ≤ T.plain.length + T.dear.length) = T.full from rfl, hn] at hF
  have HF := Lib.hid hF
  clear hF
  go_enter Tryd.func50, Tryd.ntmps50
  go_wp2_with fail
  refine Calls.pure_to HF.out ?_
  intro w1 b1
  go_wp2_with fail
  go_returns
  exact ⟨rfl, b1⟩
theorem infoStr : (Tryd.prog.info? tStr).map (fun i => (i.zero, i.size, i.bytes)) = some (some (.string noB), 1, 16) := by kernel_rfl
theorem made_strs (n : Nat) : madeCells #[Value.string noB] n = ((List.replicate n noB).map Value.string).toArray := by
  apply Array.ext_getElem?
  intro i
  unfold madeCells
  by_cases h : i < n
  · simp [h, Nat.mod_one]
  · simp [h]
set_option maxHeartbeats 4000000 in
theorem open_new (i : Int) (c : Nat) (s : ByteArray) (w : World) (h : CacheAt B n data w C T L f) (hi : 0 ≤ i) (hi2 : i < 64) (hc : c < data) (hs : s.size = 64) (hf : f i = none) (hn : T.full = false) (hnn : n < 100000) :
    Calls Tryd.prog 26 #[pt C.g, .int .i64 i, .int .i64 (c : Int), .string s] w fun e w' => ∃ C' E, e = .returned (.tuple #[pt E.g, .int .i64 0]) ∧ CacheAt B (n + 1) data w' C' (T.addT i) (addTo L i) (upd f i (some E)) ∧ CStep C f C' (upd f i (some E)) w w' ∧
      E.nt = Set4.zero ∧ E.ot = Set4.zero ∧ E.dt = Set4.zero ∧ E.nb = List.replicate data noB ∧ E.ob = List.replicate data noB := by
  have hh : T.has i = false := by
    rw [h.keys, ← h.map.some_, hf]; rfl
  obtain ⟨c0, c1, c2⟩ := h.three
  have hi64 : In64 i := ⟨by omega, by omega⟩
  have hcI : (c : Int) < (data : Int) := by omega
  have hsI : (s.size : Int) = 64 := by omega
  have hR := row_any i w h hi64
  rw [hf] at hR
  simp only [Option.map_none, ptrV] at hR
  have HR := Lib.hid (And.intro hR (And.intro hi64 hh))
  have HC := Lib.hid h
  have hmk := run_make_row' (P := Tryd.prog) 64 tStr (.string noB) 16 Tryd.underlying64 infoStr rfl .i64 .i64 data (by have := h.d30; omega) (by have := h.d30; omega)
  have HM := Lib.hid hmk
  clear hR hi64 hh hmk
  go_enter Tryd.func26, Tryd.ntmps26
  go_wp2_with fail
  refine HR.out.1.mono ?_
  rintro e w1 ⟨rfl, rfl⟩
  go_wp2_with fail
  refine Calls.pure_to (place_no w HC.out hn) ?_
  intro w1 b1
  have h1 := HC.out.below b1
  clear c0 c1 c2
  obtain ⟨c0, c1, c2⟩ := h1.three
  go_wp2_with fail
  refine (Add_any i w1 h1.turn h1.good).mono ?_
  rintro e w2 ⟨rfl, M', hT2, hS2⟩
  have hmk := HM.out
  have c1' := hS2.cell c1 h1.gM
  have c2' := hS2.cell c2 h1.gM
  have hlt : C.g < w2.heap.size := Nat.lt_of_lt_of_le h1.row.lt hS2.size
  clear c0 c1 c2
  go_wp2_with fail
  go_region
  · have hr : ∀ W : World, Below w2.heap.size w2 (((w2.alloc (Obj.cells (madeCells #[Value.string noB] data) tStr)).alloc (Obj.cells (madeCells #[Value.string noB] data) tStr)).alloc (Obj.cells (Ent.cells ⟨w2.heap.size + 1 + 1, w2.heap.size, (w2.heap.size + 1), Set4.zero, Set4.zero, Set4.zero, List.replicate data noB, List.replicate data noB⟩ data).toArray tE)).drew := fun _ => ((((Below.refl _ _).alloc (Nat.le_refl _) _).alloc (by simp) _).alloc (by simp; omega) _).drew
    have hE : EntAt B data (((w2.alloc (Obj.cells (madeCells #[Value.string noB] data) tStr)).alloc (Obj.cells (madeCells #[Value.string noB] data) tStr)).alloc (Obj.cells (Ent.cells ⟨w2.heap.size + 1 + 1, w2.heap.size, (w2.heap.size + 1), Set4.zero, Set4.zero, Set4.zero, List.replicate data noB, List.replicate data noB⟩ data).toArray tE)).drew ⟨w2.heap.size + 1 + 1, w2.heap.size, (w2.heap.size + 1), Set4.zero, Set4.zero, Set4.zero, List.replicate data noB, List.replicate data noB⟩ := by
      have hB2 := Nat.le_trans h1.bg (Nat.le_trans (Nat.le_of_lt h1.row.lt) hS2.size)
      have ra : ((w2.alloc (Obj.cells (madeCells #[Value.string noB] data) tStr)).alloc (Obj.cells (madeCells #[Value.string noB] data) tStr)).row w2.heap.size ((List.replicate data noB).map Value.string) tStr := by rw [made_strs]; exact (World.row.new' rfl).alloc _
      have rb : ((w2.alloc (Obj.cells (madeCells #[Value.string noB] data) tStr)).alloc (Obj.cells (madeCells #[Value.string noB] data) tStr)).row (w2.heap.size + 1) ((List.replicate data noB).map Value.string) tStr := by rw [made_strs]; exact World.row.new' (by simp)
      exact ⟨World.row.new' (by simp), (by first | exact ra.alloc _ | exact rb.alloc _), (by first | exact rb.alloc _ | exact ra.alloc _), by show w2.heap.size + 1 + 1 ≠ w2.heap.size; omega, by show w2.heap.size + 1 + 1 ≠ (w2.heap.size + 1); omega, by show w2.heap.size ≠ (w2.heap.size + 1); omega, by show B ≤ w2.heap.size + 1 + 1; omega, by show B ≤ w2.heap.size; omega, by show B ≤ (w2.heap.size + 1); omega, by simp, by simp, (fun i hi => by rw [Set4.has_zero] at hi; cases hi), (fun i hi => by rw [Set4.has_zero] at hi; cases hi)⟩
    have hnew : ∀ x, Ent.foot ⟨w2.heap.size + 1 + 1, w2.heap.size, (w2.heap.size + 1), Set4.zero, Set4.zero, Set4.zero, List.replicate data noB, List.replicate data noB⟩ x → w2.heap.size ≤ x := fun x hx => by
      rcases hx with e | e | e
      · have e : x = w2.heap.size + 1 + 1 := e; omega
      · have e : x = w2.heap.size := e; omega
      · have e : x = (w2.heap.size + 1) := e; omega
    go_upto_region 16 with fail
    refine wp_world (fun w3 => EntAt B data w3 ⟨w2.heap.size + 1 + 1, w2.heap.size, (w2.heap.size + 1), Set4.zero, Set4.zero, Set4.zero, List.replicate data noB, List.replicate data noB⟩ ∧ Below w2.heap.size w2 w3) ⟨hE, hr w2⟩ ?_
    clear hE hr c1'
    rintro w3 ⟨hE, hr⟩
    obtain ⟨E0, hE0⟩ : ∃ E0 : Ent, E0 = ⟨w2.heap.size + 1 + 1, w2.heap.size, (w2.heap.size + 1), Set4.zero, Set4.zero, Set4.zero, List.replicate data noB, List.replicate data noB⟩ := ⟨_, rfl⟩
    have hg0 : w2.heap.size + 1 + 1 = E0.g := by rw [hE0]
    rw [← hE0] at hE hnew
    rw [hg0]
    have HZ : Hid (E0.nt = Set4.zero ∧ E0.ot = Set4.zero ∧ E0.dt = Set4.zero ∧ E0.nb = List.replicate data noB ∧ E0.ob = List.replicate data noB) := Lib.hid (by rw [hE0]; exact ⟨rfl, rfl, rfl, rfl, rfl⟩)
    clear hg0 hE0
    have q2 := ((hS2.row h1.row h1.gM).below hr hlt).cell 2 rfl
    have hmp := (h1.map.same (hS2.block _ h1.map.lt h1.mM)).same (hr.block _ (Nat.lt_of_lt_of_le h1.map.lt hS2.size))
    have HE := Lib.hid (And.intro hr (And.intro hE (And.intro hnew (And.intro hS2 (And.intro hT2 (And.intro b1 h1))))))
    clear hE hr hnew hS2 hT2 b1 h1 c2' hmk
    go_wp2_with (at_mapUpdate; refine wpList_mapUpdate_pm rfl _ _ _ 54 rfl Tryd.underlying3 Tryd.underlying54 rfl hmp hnn i rfl HR.out.2.1 E0.g rfl ?_; intro w4 hm4 hg4)
    go_ret2
    obtain ⟨hr, hE, hnew, hS2, hT2, b1, h1⟩ := HE.out
    obtain ⟨A1, A2⟩ := h1.added hS2 hT2 (h1.good.add i HR.out.2.1) (fun k => by rw [add_has hn HR.out.2.2, h1.keys, addTo_has]) hr hE hnew hm4 hg4 hf
    exact ⟨{ C with M := M' }, E0, rfl, A1, (CStep.of_below C f b1).trans A2, HZ.out⟩
  · have hr : ∀ W : World, Below w2.heap.size w2 (((w2.alloc (Obj.cells (madeCells #[Value.string noB] data) tStr)).alloc (Obj.cells (madeCells #[Value.string noB] data) tStr)).alloc (Obj.cells (Ent.cells ⟨w2.heap.size + 1 + 1, (w2.heap.size + 1), w2.heap.size, Set4.zero, Set4.zero, Set4.zero, List.replicate data noB, List.replicate data noB⟩ data).toArray tE)).drew := fun _ => ((((Below.refl _ _).alloc (Nat.le_refl _) _).alloc (by simp) _).alloc (by simp; omega) _).drew
    have hE : EntAt B data (((w2.alloc (Obj.cells (madeCells #[Value.string noB] data) tStr)).alloc (Obj.cells (madeCells #[Value.string noB] data) tStr)).alloc (Obj.cells (Ent.cells ⟨w2.heap.size + 1 + 1, (w2.heap.size + 1), w2.heap.size, Set4.zero, Set4.zero, Set4.zero, List.replicate data noB, List.replicate data noB⟩ data).toArray tE)).drew ⟨w2.heap.size + 1 + 1, (w2.heap.size + 1), w2.heap.size, Set4.zero, Set4.zero, Set4.zero, List.replicate data noB, List.replicate data noB⟩ := by
      have hB2 := Nat.le_trans h1.bg (Nat.le_trans (Nat.le_of_lt h1.row.lt) hS2.size)
      have ra : ((w2.alloc (Obj.cells (madeCells #[Value.string noB] data) tStr)).alloc (Obj.cells (madeCells #[Value.string noB] data) tStr)).row w2.heap.size ((List.replicate data noB).map Value.string) tStr := by rw [made_strs]; exact (World.row.new' rfl).alloc _
      have rb : ((w2.alloc (Obj.cells (madeCells #[Value.string noB] data) tStr)).alloc (Obj.cells (madeCells #[Value.string noB] data) tStr)).row (w2.heap.size + 1) ((List.replicate data noB).map Value.string) tStr := by rw [made_strs]; exact World.row.new' (by simp)
      exact ⟨World.row.new' (by simp), (by first | exact ra.alloc _ | exact rb.alloc _), (by first | exact rb.alloc _ | exact ra.alloc _), by show w2.heap.size + 1 + 1 ≠ (w2.heap.size + 1); omega, by show w2.heap.size + 1 + 1 ≠ w2.heap.size; omega, by show (w2.heap.size + 1) ≠ w2.heap.size; omega, by show B ≤ w2.heap.size + 1 + 1; omega, by show B ≤ (w2.heap.size + 1); omega, by show B ≤ w2.heap.size; omega, by simp, by simp, (fun i hi => by rw [Set4.has_zero] at hi; cases hi), (fun i hi => by rw [Set4.has_zero] at hi; cases hi)⟩
    have hnew : ∀ x, Ent.foot ⟨w2.heap.size + 1 + 1, (w2.heap.size + 1), w2.heap.size, Set4.zero, Set4.zero, Set4.zero, List.replicate data noB, List.replicate data noB⟩ x → w2.heap.size ≤ x := fun x hx => by
      rcases hx with e | e | e
      · have e : x = w2.heap.size + 1 + 1 := e; omega
      · have e : x = (w2.heap.size + 1) := e; omega
      · have e : x = w2.heap.size := e; omega
    go_upto_region 16 with fail
    refine wp_world (fun w3 => EntAt B data w3 ⟨w2.heap.size + 1 + 1, (w2.heap.size + 1), w2.heap.size, Set4.zero, Set4.zero, Set4.zero, List.replicate data noB, List.replicate data noB⟩ ∧ Below w2.heap.size w2 w3) ⟨hE, hr w2⟩ ?_
    clear hE hr c1'
    rintro w3 ⟨hE, hr⟩
    obtain ⟨E0, hE0⟩ : ∃ E0 : Ent, E0 = ⟨w2.heap.size + 1 + 1, (w2.heap.size + 1), w2.heap.size, Set4.zero, Set4.zero, Set4.zero, List.replicate data noB, List.replicate data noB⟩ := ⟨_, rfl⟩
    have hg0 : w2.heap.size + 1 + 1 = E0.g := by rw [hE0]
    rw [← hE0] at hE hnew
    rw [hg0]
    have HZ : Hid (E0.nt = Set4.zero ∧ E0.ot = Set4.zero ∧ E0.dt = Set4.zero ∧ E0.nb = List.replicate data noB ∧ E0.ob = List.replicate data noB) := Lib.hid (by rw [hE0]; exact ⟨rfl, rfl, rfl, rfl, rfl⟩)
    clear hg0 hE0
    have q2 := ((hS2.row h1.row h1.gM).below hr hlt).cell 2 rfl
    have hmp := (h1.map.same (hS2.block _ h1.map.lt h1.mM)).same (hr.block _ (Nat.lt_of_lt_of_le h1.map.lt hS2.size))
    have HE := Lib.hid (And.intro hr (And.intro hE (And.intro hnew (And.intro hS2 (And.intro hT2 (And.intro b1 h1))))))
    clear hE hr hnew hS2 hT2 b1 h1 c2' hmk
    go_wp2_with (at_mapUpdate; refine wpList_mapUpdate_pm rfl _ _ _ 54 rfl Tryd.underlying3 Tryd.underlying54 rfl hmp hnn i rfl HR.out.2.1 E0.g rfl ?_; intro w4 hm4 hg4)
    go_ret2
    obtain ⟨hr, hE, hnew, hS2, hT2, b1, h1⟩ := HE.out
    obtain ⟨A1, A2⟩ := h1.added hS2 hT2 (h1.good.add i HR.out.2.1) (fun k => by rw [add_has hn HR.out.2.2, h1.keys, addTo_has]) hr hE hnew hm4 hg4 hf
    exact ⟨{ C with M := M' }, E0, rfl, A1, (CStep.of_below C f b1).trans A2, HZ.out⟩
end Go.Proofs.YtijagdpkclghnaaDoor
/- open of a cache, Put, Fill: contracts. -/
namespace Go.Proofs.YtijagdpkclghnaaDoor
open Go Go.RowKit
set_option maxRecDepth 100000
variable {B n data : Nat} {w w' : World} {C C' : CM} {T T' : TS} {L L' : List Int} {f f' : Int → Option Ent} {E : Ent}
theorem open_here (i : Int) (c : Nat) (s : ByteArray) (w : World) (h : CacheAt B n data w C T L f) (hi : 0 ≤ i) (hi2 : i < 64) (hc : c < data) (hs : s.size = 64) (hf : f i = some E) :
    Calls Tryd.prog 26 #[pt C.g, .int .i64 i, .int .i64 (c : Int), .string s] w fun e w' => ∃ M', e = .returned (.tuple #[pt E.g, .int .i64 0]) ∧ CacheAt B n data w' { C with M := M' } (T.touchT i) L f ∧ CStep C f { C with M := M' } f w w' := by
  obtain ⟨c0, c1, c2⟩ := h.three
  have hi64 : In64 i := ⟨by omega, by omega⟩
  have hcI : (c : Int) < (data : Int) := by omega
  have hsI : (s.size : Int) = 64 := by omega
  have hR := row_any i w h hi64
  rw [hf] at hR
  simp only [Option.map_some, ptrV] at hR
  have HR := Lib.hid hR
  have HC := Lib.hid h
  clear hR hi64
  go_enter Tryd.func26, Tryd.ntmps26
  go_wp2_with fail
  refine HR.out.mono ?_
  rintro e w1 ⟨rfl, rfl⟩
  go_wp2_with fail
  refine (Touch_any i w HC.out.turn HC.out.good).mono ?_
  rintro e w2 ⟨rfl, M', hT2, hS2⟩
  have HT := Lib.hid (And.intro hT2 hS2)
  clear hT2 hS2 c0 c1 c2
  go_wp2_with fail
  go_ret2
  obtain ⟨A1, A2⟩ := h.turned HT.out.2 HT.out.1 (Nat.le_refl _) (h.good.touch i) (touch_has h.good i)
  exact ⟨M', rfl, A1, A2⟩
/-- Behind an open: the stripe is there, as it was, or new. -/
structure Opened (B n data : Nat) (w : World) (C : CM) (T : TS) (L : List Int) (f : Int → Option Ent) (i : Int) (w' : World) (C' : CM) (E : Ent) (T' : TS) (L' : List Int) (f' : Int → Option Ent) : Prop where
  at_ : CacheAt B (n + 1) data w' C' T' L' f'
  here : f' i = some E
  step : CStep C f C' f' w w'
  how : (f i = some E ∧ f' = f ∧ L' = L ∧ T' = T.touchT i) ∨ (f i = none ∧ T' = T.addT i ∧ L' = addTo L i ∧ f' = upd f i (some E) ∧ E.nt = Set4.zero ∧ E.ot = Set4.zero ∧ E.dt = Set4.zero ∧ E.nb = List.replicate data noB ∧ E.ob = List.replicate data noB)
theorem open_any (i : Int) (c : Nat) (s : ByteArray) (w : World) (h : CacheAt B n data w C T L f) (hi : 0 ≤ i) (hi2 : i < 64) (hc : c < data) (hs : s.size = 64) (hr : f i ≠ none ∨ T.full = false) (hnn : n < 100000) :
    Calls Tryd.prog 26 #[pt C.g, .int .i64 i, .int .i64 (c : Int), .string s] w fun e w' => ∃ C' E T' L' f', e = .returned (.tuple #[pt E.g, .int .i64 0]) ∧ Opened B n data w C T L f i w' C' E T' L' f' := by
  cases hf : f i with
  | some E =>
    refine (open_here i c s w h hi hi2 hc hs hf).mono ?_
    rintro e w' ⟨M', rfl, A1, A2⟩
    exact ⟨_, E, _, _, _, rfl, A1.mono (by omega), hf, A2, .inl ⟨hf, rfl, rfl, rfl⟩⟩
  | none =>
    refine (open_new i c s w h hi hi2 hc hs hf (hr.elim (fun e => absurd hf e) id) hnn).mono ?_
    rintro e w' ⟨C', E, rfl, A1, A2, z1, z2, z3, z4, z5⟩
    exact ⟨C', E, _, _, _, rfl, A1, upd_same _ _ _, A2, .inr ⟨hf, rfl, rfl, rfl, z1, z2, z3, z4, z5⟩⟩
theorem upd_upd (f : Int → Option Ent) (k : Int) (a b : Option Ent) : upd (upd f k a) k b = upd f k b := by
  funext j
  by_cases e : j = k
  · subst e; rw [upd_same, upd_same]
  · rw [upd_other _ _ e, upd_other _ _ e, upd_other _ _ e]
/-- A stripe's dirty columns are other ones. -/
theorem EntAt.dirty {t : Set4} (h1 : EntAt B data w E) : EntAt B data ((((w.setCell ⟨E.g, 10, none⟩ (.int .u64 (t.a : Int))).setCell ⟨E.g, 11, none⟩ (.int .u64 (t.b : Int))).setCell ⟨E.g, 12, none⟩ (.int .u64 (t.c : Int))).setCell ⟨E.g, 13, none⟩ (.int .u64 (t.d : Int))) { E with dt := t } :=
  ⟨(((h1.row.set 10 _).set 11 _).set 12 _).set 13 _, (((h1.r1.other _ _ h1.g1).other _ _ h1.g1).other _ _ h1.g1).other _ _ h1.g1, (((h1.r2.other _ _ h1.g2).other _ _ h1.g2).other _ _ h1.g2).other _ _ h1.g2, h1.g1, h1.g2, h1.b12, h1.bg, h1.bb1, h1.bb2, h1.l1, h1.l2, h1.i1, h1.i2⟩
theorem EStep.dirty (E : Ent) (w : World) (t : Set4) : EStep E w ((((w.setCell ⟨E.g, 10, none⟩ (.int .u64 (t.a : Int))).setCell ⟨E.g, 11, none⟩ (.int .u64 (t.b : Int))).setCell ⟨E.g, 12, none⟩ (.int .u64 (t.c : Int))).setCell ⟨E.g, 13, none⟩ (.int .u64 (t.d : Int))) :=
  ((((EStep.of_below E (Below.refl _ _)).setCell _ _ (.inl rfl)).setCell _ _ (.inl rfl)).setCell _ _ (.inl rfl)).setCell _ _ (.inl rfl)
theorem EStep.like {E E' : Ent} (h : EStep E w w') (hg : E'.g = E.g) (h1 : E'.b1 = E.b1) (h2 : E'.b2 = E.b2) : EStep E' w w' :=
  ⟨h.os, h.tape, h.output, h.size, fun x hx hn => h.block x hx fun hf => hn (by unfold Ent.foot at *; rw [hg, h1, h2]; exact hf)⟩
def Ent.put (E : Ent) (c : Nat) (s : ByteArray) : Ent := { E with nt := E.nt.with' c, nb := E.nb.set c s, dt := E.dt.with' c }
set_option maxHeartbeats 1000000 in
theorem Put_any (i : Int) (c : Nat) (s : ByteArray) (w : World) (h : CacheAt B n data w C T L f) (hi : 0 ≤ i) (hi2 : i < 64) (hc : c < data) (hs : s.size = 64) (hr : f i ≠ none ∨ T.full = false) (hnn : n < 90000) :
    Calls Tryd.prog 10 #[pt C.g, .int .i64 i, .int .i64 (c : Int), .string s] w fun e w' => e = .returned (.int .i64 0) ∧ ∃ (w1 : World) (C1 : CM) (E : Ent) (T1 : TS) (L1 : List Int) (f1 : Int → Option Ent) (C' : CM), Opened B n data w C T L f i w1 C1 E T1 L1 f1 ∧ CacheAt B (n + 2) data w' C' (T1.pinT i true) L1 (upd f1 i (some (E.put c s))) ∧ CStep C f C' (upd f1 i (some (E.put c s))) w w' := by
  have hO := open_any i c s w h hi hi2 hc hs hr (by omega)
  have hc256 : c < 256 := by have := h.d30; omega
  have HO := Lib.hid hO
  have HC := Lib.hid (And.intro h (And.intro hi (And.intro hi2 (And.intro hc (And.intro hs hnn)))))
  clear hO h hi hi2 hs hr hnn
  go_enter Tryd.func10, Tryd.ntmps10
  go_wp2_with fail
  refine HO.out.mono ?_
  rintro e w1 ⟨C1, E, T1, L1, f1, rfl, hop⟩
  have HP := Lib.hid hop
  have hE1 := hop.at_.ent i E hop.here
  clear hop
  go_wp2_with fail
  refine (put_now c s w1 hE1 hc HP.out.at_.d30).mono ?_
  rintro e w2 ⟨rfl, hE2, hS2⟩
  have hA2 := HP.out.at_.entPut (E' := { E with nt := E.nt.with' c, nb := E.nb.set c s }) HP.out.here rfl rfl rfl hE2 hS2.os hS2.tape hS2.output hS2.size hS2.block
  have k0 := hE2.row.cell 10 rfl
  have k1 := hE2.row.cell 11 rfl
  have k2 := hE2.row.cell 12 rfl
  have k3 := hE2.row.cell 13 rfl
  have H2 := Lib.hid (And.intro hE2 hA2)
  clear hE1 hE2 hS2 hA2
  go_wp2_with fail
  refine Calls.pure_to (With_yes E.dt c w2 hc256) ?_
  intro w3 b3
  have hE3 := H2.out.1.below b3
  have hA3 := H2.out.2.1.below b3
  clear k0 k1 k2 k3
  have k0 := hE3.row.cell 10 rfl
  have k1 := hE3.row.cell 11 rfl
  have k2 := hE3.row.cell 12 rfl
  have k3 := hE3.row.cell 13 rfl
  have z0 := hE3.row.free
  have H3 := Lib.hid (And.intro hA3 b3)
  go_upto_region 6 with fail
  have hD := EntAt.dirty (t := E.dt.with' c) hE3
  refine wp_world (fun w4 => EntAt B data w4 { E with nt := E.nt.with' c, nb := E.nb.set c s, dt := E.dt.with' c } ∧ EStep E w3 w4) ⟨hD, EStep.dirty E w3 (E.dt.with' c)⟩ ?_
  clear hE3 hA3 b3 k0 k1 k2 k3 z0 hD
  rintro w4 ⟨hE4, hS4⟩
  replace hS4 := hS4.like (E' := { E with nt := E.nt.with' c, nb := E.nb.set c s }) rfl rfl rfl
  have hA4 := H3.out.1.entPut (E' := { E with nt := E.nt.with' c, nb := E.nb.set c s, dt := E.dt.with' c }) (upd_same f1 i (some { E with nt := E.nt.with' c, nb := E.nb.set c s })) rfl rfl rfl hE4 hS4.os hS4.tape hS4.output hS4.size hS4.block
  rw [upd_upd] at hA4
  obtain ⟨c0, c1, c2⟩ := hA4.1.three
  rw [HP.out.step.g] at c0 c1 c2
  have H4 := Lib.hid hA4
  clear hA4 hE4 hS4
  go_wp2_with fail
  refine (Pin_any i true w4 H4.out.1.turn (by have := HC.out.2.2.2.2.2; omega) ⟨by have := HC.out.2.1; omega, by have := HC.out.2.2.1; omega⟩).mono ?_
  rintro e w5 ⟨rfl, hT5, hS5⟩
  have H5 := Lib.hid (And.intro hT5 hS5)
  clear hT5 hS5 c0 c1 c2
  go_wp2_with fail
  go_returns
  obtain ⟨A1, A2⟩ := H4.out.1.turned H5.out.2 H5.out.1 (by omega) (H4.out.1.good.pin i true) (pin_has T1 i true)
  exact ⟨rfl, w1, C1, E, T1, L1, f1, _, HP.out, A1, HP.out.step.trans (H2.out.2.2.trans ((CStep.of_below _ _ H3.out.2).trans (H4.out.2.trans A2)))⟩
end Go.Proofs.YtijagdpkclghnaaDoor
/- Fill, Old, Get of a cache: contracts. -/
namespace Go.Proofs.YtijagdpkclghnaaDoor
open Go Go.RowKit
set_option maxRecDepth 100000
variable {B n data : Nat} {w w' : World} {C C' : CM} {T T' : TS} {L L' : List Int} {f f' : Int → Option Ent} {E : Ent}
def Ent.fill (E : Ent) (c : Nat) (s : ByteArray) : Ent := if E.dt.has c = true then { E with ot := E.ot.with' c, ob := E.ob.set c s } else { E with ot := E.ot.with' c, ob := E.ob.set c s, nt := E.nt.with' c, nb := E.nb.set c s }
set_option maxHeartbeats 1000000 in
theorem Fill_any (i : Int) (c : Nat) (s : ByteArray) (w : World) (h : CacheAt B n data w C T L f) (hi : 0 ≤ i) (hi2 : i < 64) (hc : c < data) (hs : s.size = 64) (hr : f i ≠ none ∨ T.full = false) (hnn : n < 90000) :
    Calls Tryd.prog 11 #[pt C.g, .int .i64 i, .int .i64 (c : Int), .string s] w fun e w' => e = .returned (.int .i64 0) ∧ ∃ (w1 : World) (C1 : CM) (E : Ent) (T1 : TS) (L1 : List Int) (f1 : Int → Option Ent), Opened B n data w C T L f i w1 C1 E T1 L1 f1 ∧ CacheAt B (n + 1) data w' C1 T1 L1 (upd f1 i (some (E.fill c s))) ∧ CStep C f C1 (upd f1 i (some (E.fill c s))) w w' := by
  have hO := open_any i c s w h hi hi2 hc hs hr (by omega)
  have hc256 : c < 256 := by have := h.d30; omega
  have HO := Lib.hid hO
  clear hO h hi hi2 hs hr hnn
  go_enter Tryd.func11, Tryd.ntmps11
  go_wp2_with fail
  refine HO.out.mono ?_
  rintro e w1 ⟨C1, E, T1, L1, f1, rfl, hop⟩
  have HP := Lib.hid hop
  have hE1 := hop.at_.ent i E hop.here
  clear hop
  go_wp2_with fail
  refine (put_old c s w1 hE1 hc HP.out.at_.d30).mono ?_
  rintro e w2 ⟨rfl, hE2, hS2⟩
  have hA2 := HP.out.at_.entPut (E' := { E with ot := E.ot.with' c, ob := E.ob.set c s }) HP.out.here rfl rfl rfl hE2 hS2.os hS2.tape hS2.output hS2.size hS2.block
  have k0 := hE2.row.cell 10 rfl
  have k1 := hE2.row.cell 11 rfl
  have k2 := hE2.row.cell 12 rfl
  have k3 := hE2.row.cell 13 rfl
  have H2 := Lib.hid (And.intro hE2 hA2)
  clear hE1 hE2 hS2 hA2
  have hH := Lib.hid (Has_yes E.dt c w2 hc256)
  cases e : E.dt.has c
  · rw [e] at hH
    go_wp2_with fail
    refine Calls.pure_to hH.out ?_
    intro w3 b3
    have hE3 := H2.out.1.below b3
    have hA3 := H2.out.2.1.below b3
    have H3 := Lib.hid (And.intro hA3 b3)
    clear k0 k1 k2 k3 hA3 b3
    go_wp2_with fail
    have hP := put_now c s w3 hE3 hc HP.out.at_.d30
    refine hP.mono ?_
    rintro e w4 ⟨rfl, hE4, hS4⟩
    have hA4 := H3.out.1.entPut (E' := { E with ot := E.ot.with' c, ob := E.ob.set c s, nt := E.nt.with' c, nb := E.nb.set c s }) (upd_same f1 i (some { E with ot := E.ot.with' c, ob := E.ob.set c s })) rfl rfl rfl hE4 hS4.os hS4.tape hS4.output hS4.size hS4.block
    rw [upd_upd] at hA4
    have H4 := Lib.hid hA4
    clear hA4 hE4 hS4 hE3 hP
    go_wp2_with fail
    go_returns
    have hfl : E.fill c s = { E with ot := E.ot.with' c, ob := E.ob.set c s, nt := E.nt.with' c, nb := E.nb.set c s } := by unfold Ent.fill; rw [e]; rfl
    rw [← hfl] at H4
    exact ⟨rfl, w1, C1, E, T1, L1, f1, HP.out, H4.out.1, HP.out.step.trans (H2.out.2.2.trans ((CStep.of_below _ _ H3.out.2).trans H4.out.2))⟩
  · rw [e] at hH
    go_wp2_with fail
    refine Calls.pure_to hH.out ?_
    intro w3 b3
    have hA3 := H2.out.2.1.below b3
    have H3 := Lib.hid (And.intro hA3 b3)
    clear k0 k1 k2 k3 hA3 b3
    go_wp2_with fail
    go_returns
    have hfl : E.fill c s = { E with ot := E.ot.with' c, ob := E.ob.set c s } := by unfold Ent.fill; rw [e]; rfl
    rw [← hfl] at H3
    have hS := H2.out.2.2
    rw [← hfl] at hS
    exact ⟨rfl, w1, C1, E, T1, L1, f1, HP.out, H3.out.1, HP.out.step.trans (hS.trans (CStep.of_below _ _ H3.out.2))⟩
def oldB (f : Int → Option Ent) (i : Int) (c : Nat) : ByteArray := match f i with
  | none => noB
  | some E => if E.ot.has c = true then atB E.ob c else noB
def oldH (f : Int → Option Ent) (i : Int) (c : Nat) : Bool := match f i with
  | none => false
  | some E => E.ot.has c
def nowB (f : Int → Option Ent) (i : Int) (c : Nat) : ByteArray := match f i with
  | none => noB
  | some E => if E.nt.has c = true then atB E.nb c else noB
def nowH (f : Int → Option Ent) (i : Int) (c : Nat) : Bool := match f i with
  | none => false
  | some E => E.nt.has c
theorem Old_any (i : Int) (c : Nat) (w : World) (h : CacheAt B n data w C T L f) (hi : In64 i) (hc : c < data) :
    Calls Tryd.prog 13 #[pt C.g, .int .i64 i, .int .i64 (c : Int)] w fun e w' => e = .returned (.tuple #[.string (oldB f i c), .bool (oldH f i c)]) ∧ Below w.heap.size w w' := by
  have hR := row_any i w h hi
  have hd := h.d30
  unfold oldB oldH
  cases hf : f i with
  | none =>
    rw [hf] at hR
    simp only [Option.map_none, ptrV] at hR
    have HR := Lib.hid hR
    clear hR h
    go_enter Tryd.func13, Tryd.ntmps13
    go_wp2_with fail
    refine HR.out.mono ?_
    rintro e w1 ⟨rfl, rfl⟩
    go_wp2_with fail
    go_ret2
    exact ⟨rfl, Below.refl _ _⟩
  | some E =>
    rw [hf] at hR
    simp only [Option.map_some, ptrV] at hR
    have HR := Lib.hid (And.intro hR (get_old c w (h.ent i E hf) hc hd))
    simp only
    generalize (if E.ot.has c = true then atB E.ob c else noB) = s at *
    generalize E.ot.has c = b at *
    clear hR h
    go_enter Tryd.func13, Tryd.ntmps13
    go_wp2_with fail
    refine HR.out.1.mono ?_
    rintro e w1 ⟨rfl, rfl⟩
    go_wp2_with fail
    refine Calls.pure_to HR.out.2 ?_
    intro w2 b2
    go_wp2_with fail
    go_ret2
    exact ⟨rfl, b2⟩
theorem Get_any (i : Int) (c : Nat) (w : World) (h : CacheAt B n data w C T L f) (hi : In64 i) (hc : c < data) :
    Calls Tryd.prog 14 #[pt C.g, .int .i64 i, .int .i64 (c : Int)] w fun e w' => e = .returned (.tuple #[.string (nowB f i c), .bool (nowH f i c)]) ∧ ∃ M', CacheAt B n data w' { C with M := M' } (if nowH f i c = true then T.touchT i else T) L f ∧ CStep C f { C with M := M' } f w w' := by
  have hR := row_any i w h hi
  have hd := h.d30
  have HC := Lib.hid h
  unfold nowB nowH
  cases hf : f i with
  | none =>
    rw [hf] at hR
    simp only [Option.map_none, ptrV] at hR
    have HR := Lib.hid hR
    clear hR h
    simp only [Bool.false_eq_true, if_false]
    go_enter Tryd.func14, Tryd.ntmps14
    go_wp2_with fail
    refine HR.out.mono ?_
    rintro e w1 ⟨rfl, rfl⟩
    go_wp2_with fail
    go_ret2
    exact ⟨rfl, C.M, HC.out, CStep.refl _ _ _⟩
  | some E =>
    rw [hf] at hR
    simp only [Option.map_some, ptrV] at hR
    have HR := Lib.hid (And.intro hR (get_now c w (h.ent i E hf) hc hd))
    clear hR h
    simp only
    generalize (if E.nt.has c = true then atB E.nb c else noB) = s at *
    rcases Bool.eq_false_or_eq_true (E.nt.has c) with e | e
    rotate_left
    · rw [e] at HR
      simp only [e, Bool.false_eq_true, if_false]
      go_enter Tryd.func14, Tryd.ntmps14
      go_wp2_with fail
      refine HR.out.1.mono ?_
      rintro e w1 ⟨rfl, rfl⟩
      go_wp2_with fail
      refine Calls.pure_to HR.out.2 ?_
      intro w2 b2
      go_wp2_with fail
      go_ret2
      exact ⟨rfl, C.M, HC.out.below b2, CStep.of_below _ _ b2⟩
    · rw [e] at HR
      simp only [e, if_true]
      go_enter Tryd.func14, Tryd.ntmps14
      go_wp2_with fail
      refine HR.out.1.mono ?_
      rintro e w1 ⟨rfl, rfl⟩
      go_wp2_with fail
      refine Calls.pure_to HR.out.2 ?_
      intro w2 b2
      have h2 := HC.out.below b2
      obtain ⟨c0, c1, c2⟩ := h2.three
      have H2 := Lib.hid (And.intro h2 b2)
      clear h2 b2
      go_wp2_with fail
      refine (Touch_any i w2 H2.out.1.turn H2.out.1.good).mono ?_
      rintro e w3 ⟨rfl, M', hT3, hS3⟩
      have HT := Lib.hid (And.intro hT3 hS3)
      clear hT3 hS3 c0 c1 c2
      go_wp2_with fail
      go_ret2
      obtain ⟨A1, A2⟩ := H2.out.1.turned HT.out.2 HT.out.1 (Nat.le_refl _) (H2.out.1.good.touch i) (touch_has H2.out.1.good i)
      exact ⟨rfl, M', A1, (CStep.of_below C f H2.out.2).trans A2⟩
end Go.Proofs.YtijagdpkclghnaaDoor
/- Done of a cache: contract. -/
namespace Go.Proofs.YtijagdpkclghnaaDoor
open Go Go.RowKit
set_option maxRecDepth 100000
variable {B n data : Nat} {w w' : World} {C C' : CM} {T T' : TS} {L L' : List Int} {f f' : Int → Option Ent} {E : Ent}
theorem Done_no (i : Int) (w : World) (h : CacheAt B n data w C T L f) (hi : In64 i) (hf : f i = none) :
    Calls Tryd.prog 12 #[pt C.g, .int .i64 i] w fun e w' => e = .returned (.bool false) ∧ w = w' := by
  have hR := row_any i w h hi
  rw [hf] at hR
  simp only [Option.map_none, ptrV] at hR
  have HR := Lib.hid hR
  clear hR h
  go_enter Tryd.func12, Tryd.ntmps12
  go_wp2_with fail
  refine HR.out.mono ?_
  rintro e w1 ⟨rfl, rfl⟩
  go_wp2_with fail
  go_returns
  exact ⟨rfl, rfl⟩
/-- What Done makes of a stripe, column by column. -/
def doneS (N : List ByteArray) (F : Ent) (c : Nat) : Ent := { F with ot := F.ot.with' c, ob := F.ob.set c (atB N c) }
def doneF (E : Ent) (l : List Nat) : Ent := l.foldl (doneS E.nb) E
theorem doneF_snoc (E : Ent) (l : List Nat) (c : Nat) : doneF E (l ++ [c]) = doneS E.nb (doneF E l) c := by
  unfold doneF
  rw [List.foldl_append]; rfl
structure Like (E F : Ent) : Prop where
  g : F.g = E.g
  b1 : F.b1 = E.b1
  b2 : F.b2 = E.b2
  nt : F.nt = E.nt
  nb : F.nb = E.nb
  dt : F.dt = E.dt
theorem doneS_like {E F : Ent} (N : List ByteArray) (c : Nat) (h : Like E F) : Like E (doneS N F c) := by
  obtain ⟨h1, h2, h3, h4, h5, h6⟩ := h
  constructor
  · simp only [doneS]; exact h1
  · simp only [doneS]; exact h2
  · simp only [doneS]; exact h3
  · simp only [doneS]; exact h4
  · simp only [doneS]; exact h5
  · simp only [doneS]; exact h6
theorem doneF_same (E : Ent) (l : List Nat) : Like E (doneF E l) := by
  unfold doneF
  suffices h : ∀ (l : List Nat) (F : Ent), Like E F → Like E (l.foldl (doneS E.nb) F) from h l E ⟨rfl, rfl, rfl, rfl, rfl, rfl⟩
  intro l
  induction l with
  | nil => intro F h; exact h
  | cons c l ih => intro F h; rw [List.foldl_cons]; exact ih _ (doneS_like _ _ h)
def Ent.done (E : Ent) : Ent := { doneF E E.nt.list with dt := Set4.zero }
theorem upd_self (f : Int → Option Ent) {k : Int} {E : Option Ent} (h : f k = E) : upd f k E = f := by
  funext j
  by_cases e : j = k
  · subst e; rw [upd_same, h]
  · rw [upd_other _ _ e]
theorem nt_list {s : Set4} {c : Nat} (h : c ∈ s.list) : s.has c = true := by
  unfold Set4.list at h
  exact (List.mem_filter.1 h).2
set_option maxHeartbeats 2000000 in
theorem Done_yes (i : Int) (w : World) (h : CacheAt B n data w C T L f) (hi : In64 i) (hf : f i = some E) (hT : Tab w) (hnn : n < 90000) :
    Calls Tryd.prog 12 #[pt C.g, .int .i64 i] w fun e w' => e = .returned (.bool true) ∧ ∃ C', CacheAt B (n + 1) data w' C' (T.pinT i false) L (upd f i (some E.done)) ∧ CStep C f C' (upd f i (some E.done)) w w' := by
  have hR := row_any i w h hi
  rw [hf] at hR
  simp only [Option.map_some, ptrV] at hR
  have HR := Lib.hid (And.intro hR (And.intro hi (And.intro hT (And.intro hf hnn))))
  have hE := h.ent i E hf
  have HC := Lib.hid h
  have k0 := hE.row.cell 0 rfl
  have k1 := hE.row.cell 1 rfl
  have k2 := hE.row.cell 2 rfl
  have k3 := hE.row.cell 3 rfl
  clear hR hi hT hf hnn
  go_enter Tryd.func12, Tryd.ntmps12
  go_wp2_with fail
  refine HR.out.1.mono ?_
  rintro e w1 ⟨rfl, rfl⟩
  go_wp2_with fail
  refine (List_any E.nt w HR.out.2.2.1).mono ?_
  rintro e w2 ⟨⟨v, rfl, ho⟩, b2⟩
  obtain ⟨m, hm⟩ : ∃ m, m = E.nt.list.length := ⟨_, rfl⟩
  have hm2 : m ≤ 256 := by rw [hm]; unfold Set4.list; exact Nat.le_trans (List.length_filter_le _ _) (by simp)
  rw [← hm] at ho
  obtain ⟨a2, c2, hv⟩ : ∃ a c, v = .slice a m c := by
    rcases own_form ho with ⟨h1, h2⟩ | ⟨g, cap, h1, _⟩
    · exact ⟨none, 0, by rw [h1, h2]⟩
    · exact ⟨_, _, h1⟩
  subst hv
  have H2 := Lib.hid (And.intro ho (And.intro b2 hm))
  clear ho b2 hm k0 k1 k2 k3 hE h
  go_wp2_with fail
  go_loopw [20] (fun j wr => ∃ (k : Nat), k ≤ m ∧ j = .int .i64 k ∧ CacheAt B n data wr C T L (upd f i (some (doneF E (E.nt.list.take k)))) ∧ CStep C f C (upd f i (some (doneF E (E.nt.list.take k)))) w2 wr ∧ EStep E w2 wr) (fun j _ => m - (intOf j).toNat)
  case atStart =>
    have e0 : doneF E (E.nt.list.take 0) = E := rfl
    refine ⟨0, Nat.zero_le _, rfl, ?_⟩
    rw [e0, upd_self f HR.out.2.2.2.1]
    exact ⟨HC.out.below H2.out.2.1, CStep.refl _ _ _, EStep.of_below _ (Below.refl _ _)⟩
  case round =>
    obtain ⟨k, hk, rfl, hA, hS, hES⟩ := hrel
    by_cases hlt : k < m
    · obtain ⟨c, hc⟩ : ∃ c, E.nt.list[k]? = some c := ⟨_, List.getElem?_eq_getElem (by rw [← H2.out.2.2]; exact hlt)⟩
      have hch := nt_list (List.mem_of_getElem? hc)
      have hcd := (HC.out.ent i E HR.out.2.2.2.1).i1 c hch
      have hnl := (HC.out.ent i E HR.out.2.2.2.1).l1
      have hcI : (c : Int) < (data : Int) := by omega
      obtain ⟨F, hF⟩ : ∃ F, F = doneF E (E.nt.list.take k) := ⟨_, rfl⟩
      have hsame := doneF_same E (E.nt.list.take k)
      have hnext : doneF E (E.nt.list.take (k + 1)) = doneS E.nb F c := by rw [List.take_add_one, hc, hF]; exact doneF_snoc E _ c
      rw [← hF] at hA hS hsame
      clear hF
      obtain ⟨s1, s2, s3, s4, s5, s6⟩ := hsame
      have hE := hA.ent i F (upd_same _ _ _)
      rcases own_form H2.out.1 with ⟨_, h2⟩ | ⟨gl, cap, hv, hgl, hgs, h1, h2, hcell, _⟩
      · omega
      obtain ⟨e1, e2, e3⟩ := Value.slice.inj hv
      subst e1
      clear e2 e3 hv
      have ck : wr.cell? ⟨gl, k, none⟩ = some (.int .i64 (c : Int)) := by
        have h9 := hcell k (.int .i64 (c : Int)) (by unfold nats; rw [List.getElem?_map, hc]; rfl)
        have hnf : ¬ E.foot gl := fun hx => by have := ((HC.out.ent i E HR.out.2.2.2.1).lts gl hx).2; omega
        unfold World.cell? at *
        rw [hES.block gl hgs hnf]; exact h9
      have k4 := hE.row.cell 4 rfl
      rw [s1, s2] at k4
      have k5 := hE.r1.cell c (v := .string (atB F.nb c)) (by rw [List.getElem?_map, atB_get (by rw [s5, hnl]; exact hcd)]; rfl)
      rw [s2, s5] at k5
      have hEd : EntAt B data wr.drew F := hE.same fun _ _ => rfl
      have hput : Calls Tryd.prog 27 #[.pointer (some ⟨E.g, 5, none⟩), .int .i64 (c : Int), .string (atB E.nb c)] wr.drew (fun e w' => e = .returned (.tuple #[]) ∧ EntAt B data w' (doneS E.nb F c) ∧ EStep F wr.drew w') := by rw [← s1]; exact put_old c (atB E.nb c) wr.drew hEd hcd HC.out.d30
      have HX := Lib.hid (And.intro hput (And.intro hA (And.intro hS (And.intro hES (And.intro hnext (And.intro s1 (And.intro s2 s3)))))))
      clear hput hA hS hES hnext hE hcell hEd
      go_wp2_with fail
      refine wp_region_mix_exts (fun x => x = E.g ∨ x = E.b1) [] true (by kernel_rfl) (by kernel_rfl) ?_
      intro _
      repeat ((with_reducible refine wpMix_light ?hh ?_); (case hh => rfl); go_big_quiet_step (fail); (with_reducible refine wpQuiet_nil ?_))
      refine wpMix_last (by rfl) (by rfl) (fun K hK => ?_)
      go_simp
      refine HX.out.1.mono ?_
      rintro e w5 ⟨rfl, hE5, hS5⟩
      obtain ⟨_, hA, hS, hES, hnext, s1, s2, s3⟩ := HX.out
      have hL : (doneS E.nb F c).g = F.g ∧ (doneS E.nb F c).b1 = F.b1 ∧ (doneS E.nb F c).b2 = F.b2 := by simp only [doneS]; exact ⟨trivial, trivial, trivial⟩
      replace hS5 := (EStep.of_below F ((Below.refl wr.heap.size wr).drew)).trans hS5
      have hA5 := hA.entPut (E' := doneS E.nb F c) (upd_same f i (some F)) hL.1 hL.2.1 hL.2.2 hE5 hS5.os hS5.tape hS5.output hS5.size hS5.block
      rw [upd_upd] at hA5
      have hES5 := hES.trans (hS5.like (E' := E) s1.symm s2.symm s3.symm)
      have H5 := Lib.hid (And.intro hA5.1 (And.intro (hS.trans hA5.2) hES5))
      clear hA hS hES hA5 hES5 hE5 hS5
      refine hK.out _ _ ?_
      clear hK K
      go_wp2_with fail
      go_roundw
      case rel => exact ⟨k + 1, by omega, by go_num, by rw [hnext]; exact H5.out.1, by rw [hnext]; exact H5.out.2.1, H5.out.2.2⟩
      case measure => simp [intOf] <;> omega
    · obtain rfl : k = m := by omega
      obtain ⟨F, hF⟩ : ∃ F, F = doneF E E.nt.list := ⟨_, rfl⟩
      rw [H2.out.2.2, List.take_length, ← hF] at hA hS
      have hsame := doneF_same E E.nt.list
      rw [← hF] at hsame
      have hdone : E.done = { F with dt := Set4.zero } := by rw [hF]; rfl
      clear hF
      obtain ⟨s1, s2, s3, s4, s5, s6⟩ := hsame
      have hE := hA.ent i F (upd_same _ _ _)
      have k0 := hE.row.cell 10 rfl
      have k1 := hE.row.cell 11 rfl
      have k2 := hE.row.cell 12 rfl
      have k3 := hE.row.cell 13 rfl
      have z0 := hE.row.free
      rw [s1] at k0 k1 k2 k3 z0
      have hD : EntAt B data ((((wr.setCell ⟨E.g, 10, none⟩ (.int .u64 0)).setCell ⟨E.g, 11, none⟩ (.int .u64 0)).setCell ⟨E.g, 12, none⟩ (.int .u64 0)).setCell ⟨E.g, 13, none⟩ (.int .u64 0)) { F with dt := Set4.zero } := by rw [← s1]; exact EntAt.dirty (t := Set4.zero) hE
      have hDS : EStep F wr ((((wr.setCell ⟨E.g, 10, none⟩ (.int .u64 0)).setCell ⟨E.g, 11, none⟩ (.int .u64 0)).setCell ⟨E.g, 12, none⟩ (.int .u64 0)).setCell ⟨E.g, 13, none⟩ (.int .u64 0)) := by rw [← s1]; exact EStep.dirty F wr Set4.zero
      have HX := Lib.hid (And.intro hA (And.intro hS (And.intro hdone s1)))
      clear hA hS hdone hES hE s1 s2 s3 s4 s5 s6
      go_upto_region 10 with fail
      refine wp_world (fun w7 => EntAt B data w7 { F with dt := Set4.zero } ∧ EStep F wr w7) ⟨hD, hDS⟩ ?_
      clear hD hDS k0 k1 k2 k3 z0
      rintro w7 ⟨hE7, hS7⟩
      have hA7 := HX.out.1.entPut (E' := { F with dt := Set4.zero }) (upd_same f i (some F)) rfl rfl rfl hE7 hS7.os hS7.tape hS7.output hS7.size hS7.block
      rw [upd_upd, ← HX.out.2.2.1] at hA7
      obtain ⟨c0, c1, c2⟩ := hA7.1.three
      have H7 := Lib.hid (And.intro hA7.1 (HX.out.2.1.trans hA7.2))
      clear hA7 hE7 hS7
      go_wp2_with fail
      refine (Pin_any i false w7 H7.out.1.turn (by have := HR.out.2.2.2.2; omega) HR.out.2.1).mono ?_
      rintro e w8 ⟨rfl, hT8, hS8⟩
      have H8 := Lib.hid (And.intro hT8 hS8)
      clear hT8 hS8 c0 c1 c2
      go_wp2_with fail
      go_returns
      obtain ⟨A1, A2⟩ := H7.out.1.turned H8.out.2 H8.out.1 (by omega) (H7.out.1.good.pin i false) (pin_has T i false)
      exact ⟨rfl, _, A1, (CStep.of_below C f H2.out.2.1).trans (H7.out.2.trans A2)⟩
end Go.Proofs.YtijagdpkclghnaaDoor
/- One column of a cache, under Put, Fill, Done: plain laws. -/
namespace Go.Proofs.YtijagdpkclghnaaDoor
open Go Go.RowKit
set_option maxRecDepth 100000
variable {B n data : Nat} {w w' : World} {C C' : CM} {T T' : TS} {L L' : List Int} {f f' : Int → Option Ent} {E : Ent} {t : Int} {c : Nat} {old now s : ByteArray} {d : Bool}
/-- What a stripe has of a column: what is old of it, what is now, is it dirty? -/
structure Col (E : Ent) (c : Nat) (old now : ByteArray) (d : Bool) : Prop where
  nt : E.nt.has c = true
  nb : atB E.nb c = now
  dt : E.dt.has c = d
  ot : E.ot.has c = !decide (old = noB)
  ob : old ≠ noB → atB E.ob c = old
theorem with_same (s : Set4) {i : Nat} (h : i < 256) : (s.with' i).has i = true := by
  unfold Set4.with'
  rw [Set4.has_of]
  simp [h]
theorem atB_set {l : List ByteArray} {c : Nat} (h : c < l.length) (s : ByteArray) : atB (l.set c s) c = s := by
  unfold atB
  simp [List.getD, h]
/-- A stripe that is new. -/
def Fresh (E : Ent) : Prop := E.nt = Set4.zero ∧ E.ot = Set4.zero ∧ E.dt = Set4.zero
theorem put_f (E : Ent) (c : Nat) (s : ByteArray) : (E.put c s).nt = E.nt.with' c ∧ (E.put c s).nb = E.nb.set c s ∧ (E.put c s).dt = E.dt.with' c ∧ (E.put c s).ot = E.ot ∧ (E.put c s).ob = E.ob := by
  simp only [Ent.put]
  exact ⟨trivial, trivial, trivial, trivial, trivial⟩
theorem fill_no {E : Ent} {c : Nat} (h : E.dt.has c = false) (s : ByteArray) : (E.fill c s).nt = E.nt.with' c ∧ (E.fill c s).nb = E.nb.set c s ∧ (E.fill c s).dt = E.dt ∧ (E.fill c s).ot = E.ot.with' c ∧ (E.fill c s).ob = E.ob.set c s := by
  simp only [Ent.fill, h, Bool.false_eq_true, if_false]
  exact ⟨trivial, trivial, trivial, trivial, trivial⟩
theorem fill_yes {E : Ent} {c : Nat} (h : E.dt.has c = true) (s : ByteArray) : (E.fill c s).nt = E.nt ∧ (E.fill c s).nb = E.nb ∧ (E.fill c s).dt = E.dt ∧ (E.fill c s).ot = E.ot.with' c ∧ (E.fill c s).ob = E.ob.set c s := by
  simp only [Ent.fill, h, if_true]
  exact ⟨trivial, trivial, trivial, trivial, trivial⟩
theorem done_f (E : Ent) : E.done.nt = (doneF E E.nt.list).nt ∧ E.done.nb = (doneF E E.nt.list).nb ∧ E.done.dt = Set4.zero ∧ E.done.ot = (doneF E E.nt.list).ot ∧ E.done.ob = (doneF E E.nt.list).ob := by
  simp only [Ent.done]
  exact ⟨trivial, trivial, trivial, trivial, trivial⟩
theorem Col.put (h : Col E c old now d) (hc : c < 256) (hl : c < E.nb.length) (s : ByteArray) : Col (E.put c s) c old s true := by
  obtain ⟨p1, p2, p3, p4, p5⟩ := put_f E c s
  exact ⟨by rw [p1]; exact with_same _ hc, by rw [p2]; exact atB_set hl s, by rw [p3]; exact with_same _ hc, by rw [p4]; exact h.ot, by rw [p5]; exact h.ob⟩
theorem Fresh.put (h : Fresh E) (hc : c < 256) (hl : c < E.nb.length) (s : ByteArray) : Col (E.put c s) c noB s true := by
  obtain ⟨p1, p2, p3, p4, p5⟩ := put_f E c s
  exact ⟨by rw [p1]; exact with_same _ hc, by rw [p2]; exact atB_set hl s, by rw [p3]; exact with_same _ hc, by rw [p4, h.2.1, Set4.has_zero]; simp, fun hn => absurd rfl hn⟩
theorem Col.fill (h : Col E c old now d) (hc : c < 256) (hl : c < E.nb.length) (hl2 : c < E.ob.length) (hs : s ≠ noB) : Col (E.fill c s) c s (if d = true then now else s) d := by
  cases d
  · obtain ⟨p1, p2, p3, p4, p5⟩ := fill_no h.dt s
    exact ⟨by rw [p1]; exact with_same _ hc, by rw [p2, if_neg (by simp)]; exact atB_set hl s, by rw [p3]; exact h.dt, by rw [p4, with_same _ hc]; simp [hs], fun _ => by rw [p5]; exact atB_set hl2 s⟩
  · obtain ⟨p1, p2, p3, p4, p5⟩ := fill_yes h.dt s
    exact ⟨by rw [p1]; exact h.nt, by rw [p2, if_pos rfl]; exact h.nb, by rw [p3]; exact h.dt, by rw [p4, with_same _ hc]; simp [hs], fun _ => by rw [p5]; exact atB_set hl2 s⟩
theorem Fresh.fill (h : Fresh E) (hc : c < 256) (hl : c < E.nb.length) (hl2 : c < E.ob.length) (hs : s ≠ noB) : Col (E.fill c s) c s s false := by
  have hd : E.dt.has c = false := by rw [h.2.2, Set4.has_zero]
  obtain ⟨p1, p2, p3, p4, p5⟩ := fill_no hd s
  exact ⟨by rw [p1]; exact with_same _ hc, by rw [p2]; exact atB_set hl s, by rw [p3]; exact hd, by rw [p4, with_same _ hc]; simp [hs], fun _ => by rw [p5]; exact atB_set hl2 s⟩
theorem doneS_has (N : List ByteArray) (F : Ent) (x : Nat) (hc : c < 256) : (doneS N F x).ot.has c = (decide (c = x) || F.ot.has c) := by
  simp only [doneS]
  unfold Set4.with'
  rw [Set4.has_of]
  simp [hc]
theorem doneS_ob (N : List ByteArray) (F : Ent) (x : Nat) : (doneS N F x).ob = F.ob.set x (atB N x) := by simp only [doneS]
theorem done_in (N : List ByteArray) (hc : c < 256) : ∀ (l : List Nat) (F : Ent), c < F.ob.length → ((F.ot.has c = true ∧ atB F.ob c = atB N c) ∨ c ∈ l) → (l.foldl (doneS N) F).ot.has c = true ∧ atB (l.foldl (doneS N) F).ob c = atB N c
  | [], F, hl, h => h.resolve_right (by simp)
  | x :: l, F, hl, h => by
    rw [List.foldl_cons]
    refine done_in N hc l _ (by rw [doneS_ob, List.length_set]; exact hl) ?_
    rw [doneS_has N F x hc, doneS_ob]
    by_cases e : c = x
    · subst e
      exact .inl ⟨by simp, atB_set hl _⟩
    · rcases h with ⟨h1, h2⟩ | h
      · refine .inl ⟨by rw [h1]; simp, ?_⟩
        rw [← h2]
        unfold atB
        simp [List.getD, List.getElem?_set_ne (Ne.symm e)]
      · rcases List.mem_cons.1 h with h | h
        · exact absurd h e
        · exact .inr h
theorem Col.done (h : Col E c old now d) (hc : c < 256) (hl2 : c < E.ob.length) (hn : now ≠ noB) : Col E.done c now now false := by
  have hm : c ∈ E.nt.list := by
    unfold Set4.list
    exact List.mem_filter.2 ⟨List.mem_range.2 hc, h.nt⟩
  have h1 := done_in E.nb hc E.nt.list E hl2 (.inr hm)
  have hs := doneF_same E E.nt.list
  obtain ⟨p1, p2, p3, p4, p5⟩ := done_f E
  refine ⟨by rw [p1, hs.nt]; exact h.nt, by rw [p2, hs.nb]; exact h.nb, by rw [p3]; exact Set4.has_zero c, ?_, fun _ => ?_⟩
  · rw [p4, show (doneF E E.nt.list).ot.has c = true from h1.1]
    simp [hn]
  · rw [p5, ← h.nb]; exact h1.2
/-- What there is of a column at all. -/
def ColAt (f : Int → Option Ent) (t : Int) (c : Nat) (old now : ByteArray) (d : Bool) : Prop := (f t = none ∧ old = noB ∧ now = noB ∧ d = false) ∨ ∃ E, f t = some E ∧ Col E c old now d ∧ now ≠ noB
theorem ColAt.told (h : ColAt f t c old now d) : oldB f t c = old ∧ oldH f t c = !decide (old = noB) := by
  unfold oldB oldH
  rcases h with ⟨h1, rfl, _, _⟩ | ⟨E, h1, h2, _⟩
  · rw [h1]; exact ⟨rfl, by simp⟩
  · rw [h1]
    refine ⟨?_, h2.ot⟩
    show (if E.ot.has c = true then atB E.ob c else noB) = old
    rw [h2.ot]
    by_cases e : old = noB
    · rw [e]; simp
    · rw [decide_eq_false e]
      exact h2.ob e
theorem ColAt.tnow (h : ColAt f t c old now d) : nowB f t c = now ∧ nowH f t c = !decide (now = noB) := by
  unfold nowB nowH
  rcases h with ⟨h1, _, rfl, _⟩ | ⟨E, h1, h2, h3⟩
  · rw [h1]; exact ⟨rfl, by simp⟩
  · rw [h1]
    refine ⟨?_, ?_⟩
    · show (if E.nt.has c = true then atB E.nb c else noB) = now
      rw [h2.nt, if_pos rfl, h2.nb]
    · show E.nt.has c = _
      rw [h2.nt]; simp [h3]
theorem Opened.fresh {w1 : World} {C1 : CM} {T1 : TS} {L1 : List Int} {f1 : Int → Option Ent} (h : Opened B n data w C T L f t w1 C1 E T1 L1 f1) (hf : f t = none) : Fresh E := by
  rcases h.how with ⟨h1, _⟩ | ⟨_, _, _, _, z1, z2, z3, _⟩
  · rw [hf] at h1; cases h1
  · exact ⟨z1, z2, z3⟩
theorem Opened.same {w1 : World} {C1 : CM} {T1 : TS} {L1 : List Int} {f1 : Int → Option Ent} {E0 : Ent} (h : Opened B n data w C T L f t w1 C1 E T1 L1 f1) (hf : f t = some E0) : E = E0 := by
  rcases h.how with ⟨h1, _⟩ | ⟨h1, _⟩
  · rw [hf] at h1; exact (Option.some.inj h1).symm
  · rw [hf] at h1; cases h1
theorem ColAt.put {w1 : World} {C1 : CM} {T1 : TS} {L1 : List Int} {f1 : Int → Option Ent} (h : ColAt f t c old now d) (ho : Opened B n data w C T L f t w1 C1 E T1 L1 f1) (hc : c < data) (hs : s ≠ noB) : ColAt (upd f1 t (some (E.put c s))) t c old s true := by
  have hE := ho.at_.ent t E ho.here
  have hc2 : c < 256 := by have := ho.at_.d30; omega
  refine .inr ⟨E.put c s, upd_same _ _ _, ?_, hs⟩
  rcases h with ⟨h1, rfl, _, _⟩ | ⟨E0, h1, h2, _⟩
  · exact (ho.fresh h1).put hc2 (by rw [hE.l1]; exact hc) s
  · rw [ho.same h1]
    have := ho.same h1
    subst this
    exact h2.put hc2 (by rw [hE.l1]; exact hc) s
theorem ColAt.fill {w1 : World} {C1 : CM} {T1 : TS} {L1 : List Int} {f1 : Int → Option Ent} (h : ColAt f t c old now d) (ho : Opened B n data w C T L f t w1 C1 E T1 L1 f1) (hc : c < data) (hs : s ≠ noB) : ColAt (upd f1 t (some (E.fill c s))) t c s (if d = true then now else s) d := by
  have hE := ho.at_.ent t E ho.here
  have hc2 : c < 256 := by have := ho.at_.d30; omega
  refine .inr ⟨E.fill c s, upd_same _ _ _, ?_, ?_⟩
  · rcases h with ⟨h1, _, _, rfl⟩ | ⟨E0, h1, h2, _⟩
    · exact (ho.fresh h1).fill hc2 (by rw [hE.l1]; exact hc) (by rw [hE.l2]; exact hc) hs
    · have := ho.same h1
      subst this
      exact h2.fill hc2 (by rw [hE.l1]; exact hc) (by rw [hE.l2]; exact hc) hs
  · rcases h with ⟨_, _, _, rfl⟩ | ⟨_, _, _, h3⟩
    · exact hs
    · split
      · exact h3
      · exact hs
theorem ColAt.done (h : ColAt f t c old now d) (hf : f t = some E) (hA : CacheAt B n data w C T L f) (hc : c < data) : ColAt (upd f t (some E.done)) t c now now false := by
  have hE := hA.ent t E hf
  have hc2 : c < 256 := by have := hA.d30; omega
  rcases h with ⟨h1, _⟩ | ⟨E0, h1, h2, h3⟩
  · rw [hf] at h1; cases h1
  · rw [hf] at h1
    cases h1
    exact .inr ⟨E.done, upd_same _ _ _, h2.done hc2 (by rw [hE.l2]; exact hc) h3, h3⟩
theorem full_nil (h : CacheAt B n data w C T [] f) : T.full = false := by
  have hk : ∀ k, T.has k = false := fun k => by rw [h.keys]; rfl
  have hp : T.plain ++ T.dear = [] := by
    cases e : T.plain ++ T.dear with
    | nil => rfl
    | cons x xs =>
      have := (has_iff T x).2 (by rw [e]; exact List.mem_cons_self ..)
      rw [hk x] at this; cases this
  have hl : T.plain.length + T.dear.length = 0 := by rw [← List.length_append, hp]; rfl
  unfold TS.full
  rw [hl]
  have := h.good.m1
  simp; omega
theorem secB_ne (b : Int) : secB b ≠ noB := fun e => by
  have h := secB_size b
  rw [e] at h
  cases h
end Go.Proofs.YtijagdpkclghnaaDoor
/- The cache law's wakes: contract. -/
namespace Go.Proofs.YtijagdpkclghnaaDoor
open Go Go.RowKit
set_option maxRecDepth 100000
variable {B n data : Nat} {w w' : World} {C C' : CM} {T T' : TS} {L L' : List Int} {f f' : Int → Option Ent} {E : Ent} {t : Int} {c : Nat} {old now s : ByteArray} {d : Bool}
theorem ColAt.there (h : ColAt f t c old now d) (hn : now ≠ noB) : ∃ E, f t = some E := by
  rcases h with ⟨_, _, h3, _⟩ | ⟨E, h1, _⟩
  · exact absurd h3 hn
  · exact ⟨E, h1⟩
/-- A cache, one column of it, all behind some world. -/
structure Run (B n data : Nat) (u w : World) (g : Nat) (C : CM) (T : TS) (L : List Int) (f : Int → Option Ent) (t : Int) (c : Nat) (old now : ByteArray) (d : Bool) : Prop where
  at_ : CacheAt B n data w C T L f
  col : ColAt f t c old now d
  g : C.g = g
  b : Below B u w
theorem Run.below {u : World} {g : Nat} (h : Run B n data u w g C T L f t c old now d) (hb : Below w.heap.size w w') : Run B n data u w' g C T L f t c old now d :=
  ⟨h.at_.below hb, h.col, h.g, h.b.trans (hb.mono (Nat.le_trans h.at_.bg (Nat.le_of_lt h.at_.row.lt)))⟩
theorem Run.mono {u : World} {g m : Nat} (h : Run B n data u w g C T L f t c old now d) (hm : n ≤ m) : Run B m data u w g C T L f t c old now d := ⟨h.at_.mono hm, h.col, h.g, h.b⟩
theorem Run.step {u : World} {g m : Nat} {o' n' : ByteArray} {d' : Bool} (h : Run B n data u w g C T L f t c old now d) (hs : CStep C f C' f' w w') (ha : CacheAt B m data w' C' T' L' f') (hc : ColAt f' t c o' n' d') : Run B m data u w' g C' T' L' f' t c o' n' d' :=
  ⟨ha, hc, hs.g.trans h.g, hs.under h.at_ h.b⟩
theorem fillRun {u : World} {g : Nat} (h : Run B n data u w g C T L f t c old now d) (ht : 0 ≤ t) (ht2 : t < 64) (hc : c < data) (hs : s.size = 64) (hr : f t ≠ none ∨ T.full = false) (hn : n < 90000) :
    Calls Tryd.prog 11 #[pt g, .int .i64 t, .int .i64 (c : Int), .string s] w fun e w' => e = .returned (.int .i64 0) ∧ ∃ (C' : CM) (T' : TS) (L' : List Int) (f' : Int → Option Ent), Run B (n + 1) data u w' g C' T' L' f' t c s (if d = true then now else s) d ∧ f' t ≠ none := by
  have hs2 : s ≠ noB := fun e => by rw [e] at hs; cases hs
  have hg := h.g
  subst hg
  refine (Fill_any t c s w h.at_ ht ht2 hc hs hr hn).mono ?_
  rintro e w' ⟨rfl, w1, C1, E, T1, L1, f1, ho, hA, hS⟩
  exact ⟨rfl, C1, T1, L1, _, h.step hS hA (h.col.fill ho hc hs2), by rw [upd_same]; simp⟩
theorem putRun {u : World} {g : Nat} (h : Run B n data u w g C T L f t c old now d) (ht : 0 ≤ t) (ht2 : t < 64) (hc : c < data) (hs : s.size = 64) (hr : f t ≠ none ∨ T.full = false) (hn : n < 90000) :
    Calls Tryd.prog 10 #[pt g, .int .i64 t, .int .i64 (c : Int), .string s] w fun e w' => e = .returned (.int .i64 0) ∧ ∃ (C' : CM) (T' : TS) (L' : List Int) (f' : Int → Option Ent), Run B (n + 2) data u w' g C' T' L' f' t c old s true ∧ f' t ≠ none := by
  have hs2 : s ≠ noB := fun e => by rw [e] at hs; cases hs
  have hg := h.g
  subst hg
  refine (Put_any t c s w h.at_ ht ht2 hc hs hr hn).mono ?_
  rintro e w' ⟨rfl, w1, C1, E, T1, L1, f1, C', ho, hA, hS⟩
  exact ⟨rfl, C', _, L1, _, h.step hS hA (h.col.put ho hc hs2), by rw [upd_same]; simp⟩
theorem oldRun {u : World} {g : Nat} (h : Run B n data u w g C T L f t c old now d) (ht : 0 ≤ t) (ht2 : t < 64) (hc : c < data) :
    Calls Tryd.prog 13 #[pt g, .int .i64 t, .int .i64 (c : Int)] w fun e w' => e = .returned (.tuple #[.string old, .bool (!decide (old = noB))]) ∧ Run B n data u w' g C T L f t c old now d := by
  have hg := h.g
  subst hg
  refine (Old_any t c w h.at_ ⟨by omega, by omega⟩ hc).mono ?_
  rintro e w' ⟨rfl, hb⟩
  have h2 := h.below hb
  rw [h.col.told.1, h.col.told.2]
  exact ⟨rfl, h2⟩
theorem getRun {u : World} {g : Nat} (h : Run B n data u w g C T L f t c old now d) (ht : 0 ≤ t) (ht2 : t < 64) (hc : c < data) :
    Calls Tryd.prog 14 #[pt g, .int .i64 t, .int .i64 (c : Int)] w fun e w' => e = .returned (.tuple #[.string now, .bool (!decide (now = noB))]) ∧ ∃ (C' : CM) (T' : TS), Run B n data u w' g C' T' L f t c old now d := by
  have hg := h.g
  subst hg
  refine (Get_any t c w h.at_ ⟨by omega, by omega⟩ hc).mono ?_
  rintro e w' ⟨rfl, M', hA, hS⟩
  rw [h.col.tnow.1, h.col.tnow.2]
  exact ⟨rfl, _, _, h.step hS hA h.col⟩
theorem doneRun {u : World} {g : Nat} (h : Run B n data u w g C T L f t c old now d) (ht : 0 ≤ t) (ht2 : t < 64) (hc : c < data) (hT : Tab w) (hn : n < 90000) :
    Calls Tryd.prog 12 #[pt g, .int .i64 t] w fun e w' => e = .returned (.bool (!decide (now = noB))) ∧ ∃ (C' : CM) (T' : TS) (f' : Int → Option Ent), Run B (n + 1) data u w' g C' T' L f' t c (if now = noB then old else now) now (if now = noB then d else false) ∧ (f' t = none ↔ f t = none) := by
  have hg := h.g
  subst hg
  rcases h.col with ⟨h1, h2, h3, h4⟩ | ⟨E, h1, h2, h3⟩
  · refine (Done_no t w h.at_ ⟨by omega, by omega⟩ h1).mono ?_
    rintro e w' ⟨rfl, rfl⟩
    rw [if_pos h3, if_pos h3, decide_eq_true h3]
    exact ⟨rfl, C, T, f, ⟨h.at_.mono (by omega), h.col, rfl, h.b⟩, Iff.rfl⟩
  · refine (Done_yes t w h.at_ ⟨by omega, by omega⟩ h1 hT hn).mono ?_
    rintro e w' ⟨rfl, C', hA, hS⟩
    rw [if_neg h3, if_neg h3, decide_eq_false h3]
    have := h.step hS hA (h.col.done h1 h.at_ hc)
    exact ⟨rfl, C', _, _, this, by rw [upd_same, h1]; simp⟩
theorem newRun (most limit data : Nat) (w : World) (t : Int) (c : Nat) (h1 : 1 ≤ most) (h2 : most ≤ 64) (h3 : limit < most) (h4 : 2 ≤ data) (h5 : data ≤ 30) :
    Calls Tryd.prog 7 #[.int .i64 (most : Int), .int .i64 (limit : Int), .int .i64 (data : Int)] w fun e w' => ∃ (g : Nat) (C : CM), e = .returned (.tuple #[pt g, .int .i64 0]) ∧ Run w.heap.size 0 data w w' g C ⟨most, limit, [], [], []⟩ [] (fun _ => none) t c noB noB false := by
  refine (CNew_ok (B := w.heap.size) most limit data w (Nat.le_refl _) h1 h2 h3 h4 h5).mono ?_
  rintro e w' ⟨C, rfl, hA, hb, _⟩
  exact ⟨C.g, C, rfl, hA, .inl ⟨rfl, rfl, rfl, rfl⟩, rfl, hb⟩
end Go.Proofs.YtijagdpkclghnaaDoor
/- The cache law's wakes: the walk. -/
namespace Go.Proofs.YtijagdpkclghnaaDoor
open Go Go.RowKit
set_option maxRecDepth 100000
set_option maxHeartbeats 1000000 in
theorem wakes_any (w : World) (hT : Tab w) : Calls Tryd.prog 8 #[] w fun e w' => e = .returned (.bool true) ∧ Below w.heap.size w w' := by
  have HT := Lib.hid hT
  clear hT
  have n97 := secB_ne 97
  have n98 := secB_ne 98
  have HN := Lib.hid (And.intro n97 n98)
  clear n97 n98
  go_enter Tryd.func8, Tryd.ntmps8
  go_wp2_with fail
  refine (newRun 2 1 3 w 0 1 (by decide) (by decide) (by decide) (by decide) (by decide)).mono ?_
  rintro e w1 ⟨g, C1, rfl, R1⟩
  have H1 := Lib.hid R1
  clear R1
  go_wp2_with fail
  refine Calls.pure_to (sec_any 97 w1) ?_
  intro w2 b2
  have R2 := H1.out.below b2
  have H2 := Lib.hid R2
  clear R2 b2
  go_wp2_with fail
  refine (fillRun H2.out (by decide) (by decide) (by decide) (secB_size 97) (.inr (full_nil H2.out.at_)) (by decide)).mono ?_
  rintro e w3 ⟨rfl, C3, T3, L3, f3, R3, hf3⟩
  simp only [Bool.false_eq_true, if_false] at R3
  have H3 := Lib.hid (And.intro R3 hf3)
  clear R3 hf3
  go_wp2_with fail
  refine Calls.pure_to (sec_any 98 w3) ?_
  intro w4 b4
  have R4 := H3.out.1.below b4
  have H4 := Lib.hid R4
  clear R4 b4
  go_wp2_with fail
  refine (putRun H4.out (by decide) (by decide) (by decide) (secB_size 98) (.inl H3.out.2) (by decide)).mono ?_
  rintro e w5 ⟨rfl, C5, T5, L5, f5, R5, hf5⟩
  have H5 := Lib.hid (And.intro R5 hf5)
  clear R5 hf5
  go_wp2_with fail
  refine (getRun H5.out.1 (by decide) (by decide) (by decide)).mono ?_
  rintro e w6 ⟨rfl, C6, T6, R6⟩
  rw [decide_eq_false HN.out.2]
  have H6 := Lib.hid R6
  clear R6
  go_wp2_with fail
  refine (oldRun H6.out (by decide) (by decide) (by decide)).mono ?_
  rintro e w7 ⟨rfl, R7⟩
  rw [decide_eq_false HN.out.1]
  have H7 := Lib.hid R7
  clear R7
  go_wp2_with fail
  refine (doneRun H7.out (by decide) (by decide) (by decide) (HT.out.below H7.out.b HT.out.lt) (by decide)).mono ?_
  rintro e w8 ⟨rfl, C8, T8, f8, R8, _⟩
  rw [if_neg HN.out.2, if_neg HN.out.2] at R8
  rw [decide_eq_false HN.out.2]
  have H8 := Lib.hid R8
  clear R8
  go_wp2_with fail
  refine (oldRun H8.out (by decide) (by decide) (by decide)).mono ?_
  rintro e w9 ⟨rfl, R9⟩
  rw [decide_eq_false HN.out.2]
  have H9 := Lib.hid R9
  clear R9
  go_wp2_with fail
  refine Calls.pure_to (sec_any 98 w9) ?_
  intro w10 b10
  go_wp2_with fail
  refine Calls.pure_to (sec_any 97 w10) ?_
  intro w11 b11
  have B11 := (H9.out.b.trans (b10.mono H9.out.b.size)).trans (b11.mono (Nat.le_trans H9.out.b.size b10.size))
  clear b10 b11
  go_wp2_with fail
  go_returns
  exact ⟨rfl, B11⟩
end Go.Proofs.YtijagdpkclghnaaDoor
/- CacheOld: the walk. -/
namespace Go.Proofs.YtijagdpkclghnaaDoor
open Go Go.RowKit
set_option maxRecDepth 100000
abbrev tAct : TypeId := 30
abbrev Ac : Type := Int × Int × Int × Int × Bool
abbrev act5 (y : Ac) : List Value := [.int .i64 y.1, .int .i64 y.2.1, .int .i64 y.2.2.1, .int .u8 y.2.2.2.1, .bool y.2.2.2.2]
theorem and3 (x : Int) : bits .and .i64 x 3 = 0 ∨ bits .and .i64 x 3 = 1 ∨ bits .and .i64 x 3 = 2 ∨ bits .and .i64 x 3 = 3 := by
  have h : ((BitVec.ofInt 64 x) &&& (BitVec.ofInt 64 3)).toNat ≤ 3 := by
    rw [BitVec.toNat_and]
    exact Nat.le_trans Nat.and_le_right (by decide)
  obtain ⟨m, hm⟩ : ∃ m, m = ((BitVec.ofInt 64 x) &&& (BitVec.ofInt 64 3)).toNat := ⟨_, rfl⟩
  have e : bits .and .i64 x 3 = IntKind.i64.wrap (m : Int) := by rw [hm]; rfl
  rw [← hm] at h
  rw [e, show IntKind.i64.wrap (m : Int) = (m : Int) from by
    unfold IntKind.wrap
    simp [IntKind.bits, IntKind.signed]
    omega]
  omega
theorem not_empty {s : ByteArray} (h : ¬ s = noB) : s.toList.isEmpty = false := by
  rw [← decide_eq_emptyBytes s]
  exact decide_eq_false h
set_option maxHeartbeats 4000000 in
theorem old_walk (x0 x1 : Int) (a : Option Addr) (len cap : Nat) (l : List Ac) (w : World) (hT : Tab w) (hl : l.length = len) (hcap : len ≤ cap) (hna : a = none → len = 0 ∧ cap = 0)
    (hc : l = [] ∨ ∃ b o, a = some ⟨b, o, none⟩ ∧ ∀ i x, l[i]? = some x → ∀ j u, (act5 x)[j]? = some u → w.cell? ⟨b, o + i * 5 + j, none⟩ = some u) :
    Calls Tryd.prog 3 #[.agg #[.int .i64 x0, .int .i64 x1], .slice a len cap] w fun e w' => e = .returned (.bool true) ∧ Below w.heap.size w w' := by
  have HT := Lib.hid hT
  have HC := Lib.hid (And.intro hc hl)
  have HNA := Lib.hid hna
  clear hc hna hT
  obtain ⟨z0, hz0⟩ : ∃ z0, max 0 x0 = z0 := ⟨_, rfl⟩
  obtain ⟨z1, hz1⟩ : ∃ z1, max 0 x1 = z1 := ⟨_, rfl⟩
  have hzz0 : 0 ≤ z0 := by omega
  have hzz1 : 0 ≤ z1 := by omega
  obtain ⟨t, et⟩ : ∃ t, z0 % 64 = t := ⟨_, rfl⟩
  obtain ⟨c, ec⟩ : ∃ c : Nat, z1 % 6 = (c : Int) := ⟨(z1 % 6).toNat, by omega⟩
  have ht : 0 ≤ t := by omega
  have ht2 : t < 64 := by omega
  have hc6 : c < 6 := by omega
  obtain ⟨n, hn⟩ : ∃ n, n = min len 60 := ⟨_, rfl⟩
  have hn1 : min (len : Int) 60 = (n : Int) := by omega
  have hn60 : n ≤ 60 := by omega
  have hnl : n ≤ len := by omega
  have HT2 := Lib.hid (And.intro ht (And.intro ht2 (And.intro hc6 (And.intro hn60 hnl))))
  clear hn
  go_enter Tryd.func3, Tryd.ntmps3
  go_upto_region 1 with fail
  obtain ⟨gx, hgx⟩ : ∃ g, g = w.heap.size := ⟨_, rfl⟩
  refine wp_world (fun w0 => w0.row gx [.int .i64 x0, .int .i64 x1] 22 ∧ Below w.heap.size w w0) ⟨World.row.new' hgx.symm, (by repeat' (first | (with_reducible exact Below.refl _ _) | (with_reducible assumption) | (with_reducible refine Below.setCell ?_ ?_ _) | (with_reducible refine Below.ext ?_ _ ?_) | (with_reducible refine Below.alloc ?_ ?_ _) | (with_reducible refine Below.drew ?_) | (with_reducible refine Below.drewN ?_ _) | (with_reducible exact Nat.le_refl _) | (dsimp only; omega) | (simp <;> omega)))⟩ ?_
  simp only [← hgx]
  have hgl : w.heap.size ≤ gx := Nat.le_of_eq hgx.symm
  rintro w0 ⟨rx, B0⟩
  rw [hgx] at B0
  clear hgx
  have H0 := Lib.hid (And.intro rx B0)
  clear rx B0
  go_wp2_with fail
  refine (newRun 4 2 6 w0 t c (by decide) (by decide) (by decide) (by decide) (by decide)).mono ?_
  rintro e w1 ⟨g, C1, rfl, R1⟩
  have rx := H0.out.1.below R1.b H0.out.1.lt
  have k0 := rx.cell 0 rfl
  have k1 := rx.cell 1 rfl
  have H1 := Lib.hid R1
  clear R1 rx
  go_wp2_with fail
  go_region
  simp only [et, ec]
  have R2 := H1.out.below (w' := w1.drew) ((Below.refl _ _).drew)
  have H2 := Lib.hid R2
  clear R2 k0 k1 et ec hz0 hz1 hzz0 hzz1 ht ht2 hc6
  go_wp2_with fail
  refine Calls.pure_to (wakes_any w1.drew (HT.out.below (H0.out.2.trans (H2.out.b.mono H0.out.2.size)) HT.out.lt)) ?_
  intro w2 b2
  have R3 := H2.out.below b2
  have H3 := Lib.hid R3
  clear R3 b2
  go_wp2_with fail
  go_loopw [43, 9, 10, 11] (fun i o nw d wr => ∃ (k : Nat) (C : CM) (T : TS) (L : List Int) (f : Int → Option Ent) (old now : ByteArray) (di : Bool), k ≤ n ∧ i = .int .i64 k ∧ o = .string old ∧ nw = .string now ∧ d = .bool di ∧ Run w0.heap.size (2 * k) 6 w0 wr g C T L f t c old now di ∧ (f t = none → L = [])) (fun i _ _ _ _ => n - (intOf i).toNat)
  case atStart => exact ⟨0, _, _, _, _, noB, noB, false, Nat.zero_le _, rfl, rfl, rfl, rfl, H3.out, fun _ => rfl⟩
  case round =>
    obtain ⟨k, C, T, L, f, old, now, di, hk, rfl, rfl, rfl, rfl, hR, hL⟩ := hrel
    by_cases hlt : k < n
    · have hne : l ≠ [] := by intro e; have := HC.out.2; rw [e] at this; simp at this; have := HT2.out.2.2.2.2; omega
      obtain ⟨b, o, rfl, hcell⟩ := HC.out.1.resolve_left hne
      obtain ⟨y, hy⟩ : ∃ y, l[k]? = some y := ⟨l[k]'(by have := HC.out.2; have := HT2.out.2.2.2.2; omega), by rw [List.getElem?_eq_getElem]⟩
      have Bw := H0.out.2.trans (hR.b.mono H0.out.2.size)
      have bcell := fun (p : Addr) v (hp : w.cell? p = some v) => (Bw.cell (p := p) (block_lt_of_cell hp)).trans hp
      have j0 := bcell _ _ (hcell k y hy 0 _ rfl)
      have j1 := bcell _ _ (hcell k y hy 1 _ rfl)
      have j2 := bcell _ _ (hcell k y hy 2 _ rfl)
      have j3 := bcell _ _ (hcell k y hy 3 _ rfl)
      have j4 := bcell _ _ (hcell k y hy 4 _ rfl)
      rw [Nat.add_zero] at j0
      have hbw : b < wr.heap.size := block_lt_of_cell j1
      clear hcell hy hne bcell Bw
      obtain ⟨yd, ys, yc, yb, yo⟩ := y
      simp only at j0 j1 j2 j3 j4
      have HR := Lib.hid (And.intro hR hL)
      have hkn := Lib.hid (show k < len by have := HT2.out.2.2.2.2; omega)
      clear hR hL
      go_upto_region 9 with fail
      obtain ⟨ga, hga⟩ : ∃ g, g = wr.heap.size := ⟨_, rfl⟩
      refine wp_world (fun w5 => w5.row ga [.int .i64 yd, .int .i64 ys, .int .i64 yc, .int .u8 yb, .bool yo] tAct ∧ Below wr.heap.size wr w5) ⟨World.row.new' hga.symm, (Below.refl _ _).alloc (Nat.le_refl _) _⟩ ?_
      simp only [← hga]
      rintro w5 ⟨ra, b5⟩
      rw [hga] at b5
      clear hga j0 j1 j2 j3 j4 hbw
      have k3 := ra.cell 3 rfl
      have R5 := HR.out.1.below b5
      have H5 := Lib.hid (And.intro R5 ra)
      clear R5 ra b5
      go_wp2_with fail
      refine Calls.pure_to (sec_any yb w5) ?_
      intro w6 b6
      have R6 := H5.out.1.below b6
      have k0 := (H5.out.2.below b6 H5.out.2.lt).cell 0 rfl
      have H6 := Lib.hid R6
      have hsz := Lib.hid (And.intro (secB_size yb) (secB_ne yb))
      obtain ⟨s, hs⟩ : ∃ s, s = secB yb := ⟨_, rfl⟩
      rw [← hs] at hsz ⊢
      have hv := and3 yd
      obtain ⟨v, hve⟩ : ∃ v, bits .and .i64 yd 3 = v := ⟨_, rfl⟩
      rw [hve] at hv
      clear R6 b6 k3 hs
      have hroom : Hid (f t ≠ none ∨ T.full = false) := Lib.hid (by
        cases e : f t with
        | none =>
          have hA := HR.out.1.at_
          rw [HR.out.2 e] at hA
          exact .inr (full_nil hA)
        | some E => exact .inl (by simp))
      have hkk := HT2.out.2.2.2.1
      rcases hv with rfl | rfl | rfl | rfl
      · go_wp2_with fail
        refine (putRun H6.out HT2.out.1 HT2.out.2.1 HT2.out.2.2.1 hsz.out.1 hroom.out (by omega)).mono ?_
        rintro e w7 ⟨rfl, C7, T7, L7, f7, R7, hf7⟩
        have H7 := Lib.hid (And.intro R7 (fun e => absurd e hf7 : f7 t = none → L7 = []))
        clear R7 hf7 k0 hve
        go_wp2_with fail
        refine (oldRun H7.out.1 HT2.out.1 HT2.out.2.1 HT2.out.2.2.1).mono ?_
        rintro e w8 ⟨rfl, R8⟩
        have H8 := Lib.hid R8
        clear R8
        obtain ⟨bo, hbo⟩ : ∃ b, b = !decide (old = noB) := ⟨_, rfl⟩
        rw [← hbo]
        go_wp2_with fail
        refine (getRun H8.out HT2.out.1 HT2.out.2.1 HT2.out.2.2.1).mono ?_
        rintro e w9 ⟨rfl, C9, T9, R9⟩
        have H9 := Lib.hid R9
        clear R9
        obtain ⟨bn, hbn⟩ : ∃ b, b = !decide (s = noB) := ⟨_, rfl⟩
        rw [← hbn]
        by_cases eo : old = noB
        · by_cases en : s = noB
          · first | exact absurd eo hsz.out.2 | exact absurd en hsz.out.2 | exact absurd eo EN.out | exact absurd en EN.out | (rw [decide_eq_true eo] at hbo; rw [decide_eq_true en] at hbn; simp only [Bool.not_true] at hbo; simp only [Bool.not_true] at hbn; subst hbo; subst hbn; go_wp2_with fail; refine ⟨⟨k + 1, C9, T9, _, _, old, s, true, by omega, by go_num, (by first | rfl | rw [eo]), (by first | rfl | rw [en]), rfl, H9.out.mono (by omega), H7.out.2⟩, ?_⟩; (simp [intOf] <;> omega))
          · first | exact absurd eo hsz.out.2 | exact absurd eo en | exact absurd eo EN.out | exact absurd EN.out en | (rw [decide_eq_true eo] at hbo; rw [decide_eq_false en] at hbn; have en2 := not_empty en; simp only [Bool.not_true] at hbo; simp only [Bool.not_false] at hbn; subst hbo; subst hbn; go_wp2_with fail; refine ⟨⟨k + 1, C9, T9, _, _, old, s, true, by omega, by go_num, (by first | rfl | rw [eo]), (by first | rfl | rw [en]), rfl, H9.out.mono (by omega), H7.out.2⟩, ?_⟩; (simp [intOf] <;> omega))
        · by_cases en : s = noB
          · first | exact absurd en hsz.out.2 | exact absurd en eo | exact absurd en EN.out | (rw [decide_eq_false eo] at hbo; rw [decide_eq_true en] at hbn; have eo2 := not_empty eo; simp only [Bool.not_false] at hbo; simp only [Bool.not_true] at hbn; subst hbo; subst hbn; go_wp2_with fail; refine ⟨⟨k + 1, C9, T9, _, _, old, s, true, by omega, by go_num, (by first | rfl | rw [eo]), (by first | rfl | rw [en]), rfl, H9.out.mono (by omega), H7.out.2⟩, ?_⟩; (simp [intOf] <;> omega))
          · first | exact absurd EN.out en | (rw [decide_eq_false eo] at hbo; rw [decide_eq_false en] at hbn; have eo2 := not_empty eo; have en2 := not_empty en; simp only [Bool.not_false] at hbo; simp only [Bool.not_false] at hbn; subst hbo; subst hbn; go_wp2_with fail; refine ⟨⟨k + 1, C9, T9, _, _, old, s, true, by omega, by go_num, (by first | rfl | rw [eo]), (by first | rfl | rw [en]), rfl, H9.out.mono (by omega), H7.out.2⟩, ?_⟩; (simp [intOf] <;> omega))
      · go_wp2_with fail
        refine (putRun H6.out HT2.out.1 HT2.out.2.1 HT2.out.2.2.1 hsz.out.1 hroom.out (by omega)).mono ?_
        rintro e w7 ⟨rfl, C7, T7, L7, f7, R7, hf7⟩
        have H7 := Lib.hid (And.intro R7 (fun e => absurd e hf7 : f7 t = none → L7 = []))
        clear R7 hf7 k0 hve
        go_wp2_with fail
        refine (oldRun H7.out.1 HT2.out.1 HT2.out.2.1 HT2.out.2.2.1).mono ?_
        rintro e w8 ⟨rfl, R8⟩
        have H8 := Lib.hid R8
        clear R8
        obtain ⟨bo, hbo⟩ : ∃ b, b = !decide (old = noB) := ⟨_, rfl⟩
        rw [← hbo]
        go_wp2_with fail
        refine (getRun H8.out HT2.out.1 HT2.out.2.1 HT2.out.2.2.1).mono ?_
        rintro e w9 ⟨rfl, C9, T9, R9⟩
        have H9 := Lib.hid R9
        clear R9
        obtain ⟨bn, hbn⟩ : ∃ b, b = !decide (s = noB) := ⟨_, rfl⟩
        rw [← hbn]
        by_cases eo : old = noB
        · by_cases en : s = noB
          · first | exact absurd eo hsz.out.2 | exact absurd en hsz.out.2 | exact absurd eo EN.out | exact absurd en EN.out | (rw [decide_eq_true eo] at hbo; rw [decide_eq_true en] at hbn; simp only [Bool.not_true] at hbo; simp only [Bool.not_true] at hbn; subst hbo; subst hbn; go_wp2_with fail; refine ⟨⟨k + 1, C9, T9, _, _, old, s, true, by omega, by go_num, (by first | rfl | rw [eo]), (by first | rfl | rw [en]), rfl, H9.out.mono (by omega), H7.out.2⟩, ?_⟩; (simp [intOf] <;> omega))
          · first | exact absurd eo hsz.out.2 | exact absurd eo en | exact absurd eo EN.out | exact absurd EN.out en | (rw [decide_eq_true eo] at hbo; rw [decide_eq_false en] at hbn; have en2 := not_empty en; simp only [Bool.not_true] at hbo; simp only [Bool.not_false] at hbn; subst hbo; subst hbn; go_wp2_with fail; refine ⟨⟨k + 1, C9, T9, _, _, old, s, true, by omega, by go_num, (by first | rfl | rw [eo]), (by first | rfl | rw [en]), rfl, H9.out.mono (by omega), H7.out.2⟩, ?_⟩; (simp [intOf] <;> omega))
        · by_cases en : s = noB
          · first | exact absurd en hsz.out.2 | exact absurd en eo | exact absurd en EN.out | (rw [decide_eq_false eo] at hbo; rw [decide_eq_true en] at hbn; have eo2 := not_empty eo; simp only [Bool.not_false] at hbo; simp only [Bool.not_true] at hbn; subst hbo; subst hbn; go_wp2_with fail; refine ⟨⟨k + 1, C9, T9, _, _, old, s, true, by omega, by go_num, (by first | rfl | rw [eo]), (by first | rfl | rw [en]), rfl, H9.out.mono (by omega), H7.out.2⟩, ?_⟩; (simp [intOf] <;> omega))
          · first | exact absurd EN.out en | (rw [decide_eq_false eo] at hbo; rw [decide_eq_false en] at hbn; have eo2 := not_empty eo; have en2 := not_empty en; simp only [Bool.not_false] at hbo; simp only [Bool.not_false] at hbn; subst hbo; subst hbn; go_wp2_with fail; refine ⟨⟨k + 1, C9, T9, _, _, old, s, true, by omega, by go_num, (by first | rfl | rw [eo]), (by first | rfl | rw [en]), rfl, H9.out.mono (by omega), H7.out.2⟩, ?_⟩; (simp [intOf] <;> omega))
      · go_wp2_with fail
        refine (fillRun H6.out HT2.out.1 HT2.out.2.1 HT2.out.2.2.1 hsz.out.1 hroom.out (by omega)).mono ?_
        rintro e w7 ⟨rfl, C7, T7, L7, f7, R7, hf7⟩
        have H7 := Lib.hid (And.intro R7 (fun e => absurd e hf7 : f7 t = none → L7 = []))
        clear R7 hf7 k0 hve
        cases di
        · simp only [Bool.false_eq_true, if_false] at H7
          go_wp2_with fail
          refine (oldRun H7.out.1 HT2.out.1 HT2.out.2.1 HT2.out.2.2.1).mono ?_
          rintro e w8 ⟨rfl, R8⟩
          have H8 := Lib.hid R8
          clear R8
          obtain ⟨bo, hbo⟩ : ∃ b, b = !decide (s = noB) := ⟨_, rfl⟩
          rw [← hbo]
          go_wp2_with fail
          refine (getRun H8.out HT2.out.1 HT2.out.2.1 HT2.out.2.2.1).mono ?_
          rintro e w9 ⟨rfl, C9, T9, R9⟩
          have H9 := Lib.hid R9
          clear R9
          obtain ⟨bn, hbn⟩ : ∃ b, b = !decide (s = noB) := ⟨_, rfl⟩
          rw [← hbn]
          by_cases eo : s = noB
          · by_cases en : s = noB
            · first | exact absurd eo hsz.out.2 | exact absurd en hsz.out.2 | exact absurd eo EN.out | exact absurd en EN.out | (rw [decide_eq_true eo] at hbo; rw [decide_eq_true en] at hbn; simp only [Bool.not_true] at hbo; simp only [Bool.not_true] at hbn; subst hbo; subst hbn; go_wp2_with fail; refine ⟨⟨k + 1, C9, T9, _, _, s, s, false, by omega, by go_num, (by first | rfl | rw [eo]), (by first | rfl | rw [en]), rfl, H9.out.mono (by omega), H7.out.2⟩, ?_⟩; (simp [intOf] <;> omega))
            · first | exact absurd eo hsz.out.2 | exact absurd eo en | exact absurd eo EN.out | exact absurd EN.out en | (rw [decide_eq_true eo] at hbo; rw [decide_eq_false en] at hbn; have en2 := not_empty en; simp only [Bool.not_true] at hbo; simp only [Bool.not_false] at hbn; subst hbo; subst hbn; go_wp2_with fail; refine ⟨⟨k + 1, C9, T9, _, _, s, s, false, by omega, by go_num, (by first | rfl | rw [eo]), (by first | rfl | rw [en]), rfl, H9.out.mono (by omega), H7.out.2⟩, ?_⟩; (simp [intOf] <;> omega))
          · by_cases en : s = noB
            · first | exact absurd en hsz.out.2 | exact absurd en eo | exact absurd en EN.out | (rw [decide_eq_false eo] at hbo; rw [decide_eq_true en] at hbn; have eo2 := not_empty eo; simp only [Bool.not_false] at hbo; simp only [Bool.not_true] at hbn; subst hbo; subst hbn; go_wp2_with fail; refine ⟨⟨k + 1, C9, T9, _, _, s, s, false, by omega, by go_num, (by first | rfl | rw [eo]), (by first | rfl | rw [en]), rfl, H9.out.mono (by omega), H7.out.2⟩, ?_⟩; (simp [intOf] <;> omega))
            · first | exact absurd EN.out en | (rw [decide_eq_false eo] at hbo; rw [decide_eq_false en] at hbn; have eo2 := not_empty eo; have en2 := not_empty en; simp only [Bool.not_false] at hbo; simp only [Bool.not_false] at hbn; subst hbo; subst hbn; go_wp2_with fail; refine ⟨⟨k + 1, C9, T9, _, _, s, s, false, by omega, by go_num, (by first | rfl | rw [eo]), (by first | rfl | rw [en]), rfl, H9.out.mono (by omega), H7.out.2⟩, ?_⟩; (simp [intOf] <;> omega))
        · simp only [if_true] at H7
          go_wp2_with fail
          refine (oldRun H7.out.1 HT2.out.1 HT2.out.2.1 HT2.out.2.2.1).mono ?_
          rintro e w8 ⟨rfl, R8⟩
          have H8 := Lib.hid R8
          clear R8
          obtain ⟨bo, hbo⟩ : ∃ b, b = !decide (s = noB) := ⟨_, rfl⟩
          rw [← hbo]
          go_wp2_with fail
          refine (getRun H8.out HT2.out.1 HT2.out.2.1 HT2.out.2.2.1).mono ?_
          rintro e w9 ⟨rfl, C9, T9, R9⟩
          have H9 := Lib.hid R9
          clear R9
          obtain ⟨bn, hbn⟩ : ∃ b, b = !decide (now = noB) := ⟨_, rfl⟩
          rw [← hbn]
          by_cases eo : s = noB
          · by_cases en : now = noB
            · first | exact absurd eo hsz.out.2 | exact absurd en hsz.out.2 | exact absurd eo EN.out | exact absurd en EN.out | (rw [decide_eq_true eo] at hbo; rw [decide_eq_true en] at hbn; simp only [Bool.not_true] at hbo; simp only [Bool.not_true] at hbn; subst hbo; subst hbn; go_wp2_with fail; refine ⟨⟨k + 1, C9, T9, _, _, s, now, true, by omega, by go_num, (by first | rfl | rw [eo]), (by first | rfl | rw [en]), rfl, H9.out.mono (by omega), H7.out.2⟩, ?_⟩; (simp [intOf] <;> omega))
            · first | exact absurd eo hsz.out.2 | exact absurd eo en | exact absurd eo EN.out | exact absurd EN.out en | (rw [decide_eq_true eo] at hbo; rw [decide_eq_false en] at hbn; have en2 := not_empty en; simp only [Bool.not_true] at hbo; simp only [Bool.not_false] at hbn; subst hbo; subst hbn; go_wp2_with fail; refine ⟨⟨k + 1, C9, T9, _, _, s, now, true, by omega, by go_num, (by first | rfl | rw [eo]), (by first | rfl | rw [en]), rfl, H9.out.mono (by omega), H7.out.2⟩, ?_⟩; (simp [intOf] <;> omega))
          · by_cases en : now = noB
            · first | exact absurd en hsz.out.2 | exact absurd en eo | exact absurd en EN.out | (rw [decide_eq_false eo] at hbo; rw [decide_eq_true en] at hbn; have eo2 := not_empty eo; simp only [Bool.not_false] at hbo; simp only [Bool.not_true] at hbn; subst hbo; subst hbn; go_wp2_with fail; refine ⟨⟨k + 1, C9, T9, _, _, s, now, true, by omega, by go_num, (by first | rfl | rw [eo]), (by first | rfl | rw [en]), rfl, H9.out.mono (by omega), H7.out.2⟩, ?_⟩; (simp [intOf] <;> omega))
            · first | exact absurd EN.out en | (rw [decide_eq_false eo] at hbo; rw [decide_eq_false en] at hbn; have eo2 := not_empty eo; have en2 := not_empty en; simp only [Bool.not_false] at hbo; simp only [Bool.not_false] at hbn; subst hbo; subst hbn; go_wp2_with fail; refine ⟨⟨k + 1, C9, T9, _, _, s, now, true, by omega, by go_num, (by first | rfl | rw [eo]), (by first | rfl | rw [en]), rfl, H9.out.mono (by omega), H7.out.2⟩, ?_⟩; (simp [intOf] <;> omega))
      · go_wp2_with fail
        refine (doneRun H6.out HT2.out.1 HT2.out.2.1 HT2.out.2.2.1 (HT.out.below (H0.out.2.trans (H6.out.b.mono H0.out.2.size)) HT.out.lt) (by omega)).mono ?_
        rintro e w7 ⟨rfl, C7, T7, f7, R7, hf7⟩
        have H7 := Lib.hid (And.intro R7 (fun e => HR.out.2 (hf7.1 e) : f7 t = none → L = []))
        clear R7 hf7 k0 hve
        by_cases en : now = noB
        · rw [if_pos en, if_pos en] at H7
          rw [decide_eq_true en]
          have EN := Lib.hid en
          clear en
          go_wp2_with fail
          refine (oldRun H7.out.1 HT2.out.1 HT2.out.2.1 HT2.out.2.2.1).mono ?_
          rintro e w8 ⟨rfl, R8⟩
          have H8 := Lib.hid R8
          clear R8
          obtain ⟨bo, hbo⟩ : ∃ b, b = !decide (old = noB) := ⟨_, rfl⟩
          rw [← hbo]
          go_wp2_with fail
          refine (getRun H8.out HT2.out.1 HT2.out.2.1 HT2.out.2.2.1).mono ?_
          rintro e w9 ⟨rfl, C9, T9, R9⟩
          have H9 := Lib.hid R9
          clear R9
          obtain ⟨bn, hbn⟩ : ∃ b, b = !decide (now = noB) := ⟨_, rfl⟩
          rw [← hbn]
          by_cases eo : old = noB
          · by_cases en : now = noB
            · first | exact absurd eo hsz.out.2 | exact absurd en hsz.out.2 | exact absurd eo EN.out | exact absurd en EN.out | (rw [decide_eq_true eo] at hbo; rw [decide_eq_true en] at hbn; simp only [Bool.not_true] at hbo; simp only [Bool.not_true] at hbn; subst hbo; subst hbn; go_wp2_with fail; refine ⟨⟨k + 1, C9, T9, _, _, old, now, di, by omega, by go_num, (by first | rfl | rw [eo]), (by first | rfl | rw [en]), rfl, H9.out.mono (by omega), H7.out.2⟩, ?_⟩; (simp [intOf] <;> omega))
            · first | exact absurd eo hsz.out.2 | exact absurd eo en | exact absurd eo EN.out | exact absurd EN.out en | (rw [decide_eq_true eo] at hbo; rw [decide_eq_false en] at hbn; have en2 := not_empty en; simp only [Bool.not_true] at hbo; simp only [Bool.not_false] at hbn; subst hbo; subst hbn; go_wp2_with fail; refine ⟨⟨k + 1, C9, T9, _, _, old, now, di, by omega, by go_num, (by first | rfl | rw [eo]), (by first | rfl | rw [en]), rfl, H9.out.mono (by omega), H7.out.2⟩, ?_⟩; (simp [intOf] <;> omega))
          · by_cases en : now = noB
            · first | exact absurd en hsz.out.2 | exact absurd en eo | exact absurd en EN.out | (rw [decide_eq_false eo] at hbo; rw [decide_eq_true en] at hbn; have eo2 := not_empty eo; simp only [Bool.not_false] at hbo; simp only [Bool.not_true] at hbn; subst hbo; subst hbn; go_wp2_with fail; refine ⟨⟨k + 1, C9, T9, _, _, old, now, di, by omega, by go_num, (by first | rfl | rw [eo]), (by first | rfl | rw [en]), rfl, H9.out.mono (by omega), H7.out.2⟩, ?_⟩; (simp [intOf] <;> omega))
            · first | exact absurd EN.out en | (rw [decide_eq_false eo] at hbo; rw [decide_eq_false en] at hbn; have eo2 := not_empty eo; have en2 := not_empty en; simp only [Bool.not_false] at hbo; simp only [Bool.not_false] at hbn; subst hbo; subst hbn; go_wp2_with fail; refine ⟨⟨k + 1, C9, T9, _, _, old, now, di, by omega, by go_num, (by first | rfl | rw [eo]), (by first | rfl | rw [en]), rfl, H9.out.mono (by omega), H7.out.2⟩, ?_⟩; (simp [intOf] <;> omega))
        · rw [if_neg en, if_neg en] at H7
          rw [decide_eq_false en]
          have EN := Lib.hid en
          clear en
          go_wp2_with fail
          refine (oldRun H7.out.1 HT2.out.1 HT2.out.2.1 HT2.out.2.2.1).mono ?_
          rintro e w8 ⟨rfl, R8⟩
          have H8 := Lib.hid R8
          clear R8
          obtain ⟨bo, hbo⟩ : ∃ b, b = !decide (now = noB) := ⟨_, rfl⟩
          rw [← hbo]
          go_wp2_with fail
          refine (getRun H8.out HT2.out.1 HT2.out.2.1 HT2.out.2.2.1).mono ?_
          rintro e w9 ⟨rfl, C9, T9, R9⟩
          have H9 := Lib.hid R9
          clear R9
          obtain ⟨bn, hbn⟩ : ∃ b, b = !decide (now = noB) := ⟨_, rfl⟩
          rw [← hbn]
          by_cases eo : now = noB
          · by_cases en : now = noB
            · first | exact absurd eo hsz.out.2 | exact absurd en hsz.out.2 | exact absurd eo EN.out | exact absurd en EN.out | (rw [decide_eq_true eo] at hbo; rw [decide_eq_true en] at hbn; simp only [Bool.not_true] at hbo; simp only [Bool.not_true] at hbn; subst hbo; subst hbn; go_wp2_with fail; refine ⟨⟨k + 1, C9, T9, _, _, now, now, false, by omega, by go_num, (by first | rfl | rw [eo]), (by first | rfl | rw [en]), rfl, H9.out.mono (by omega), H7.out.2⟩, ?_⟩; (simp [intOf] <;> omega))
            · first | exact absurd eo hsz.out.2 | exact absurd eo en | exact absurd eo EN.out | exact absurd EN.out en | (rw [decide_eq_true eo] at hbo; rw [decide_eq_false en] at hbn; have en2 := not_empty en; simp only [Bool.not_true] at hbo; simp only [Bool.not_false] at hbn; subst hbo; subst hbn; go_wp2_with fail; refine ⟨⟨k + 1, C9, T9, _, _, now, now, false, by omega, by go_num, (by first | rfl | rw [eo]), (by first | rfl | rw [en]), rfl, H9.out.mono (by omega), H7.out.2⟩, ?_⟩; (simp [intOf] <;> omega))
          · by_cases en : now = noB
            · first | exact absurd en hsz.out.2 | exact absurd en eo | exact absurd en EN.out | (rw [decide_eq_false eo] at hbo; rw [decide_eq_true en] at hbn; have eo2 := not_empty eo; simp only [Bool.not_false] at hbo; simp only [Bool.not_true] at hbn; subst hbo; subst hbn; go_wp2_with fail; refine ⟨⟨k + 1, C9, T9, _, _, now, now, false, by omega, by go_num, (by first | rfl | rw [eo]), (by first | rfl | rw [en]), rfl, H9.out.mono (by omega), H7.out.2⟩, ?_⟩; (simp [intOf] <;> omega))
            · first | exact absurd EN.out en | (rw [decide_eq_false eo] at hbo; rw [decide_eq_false en] at hbn; have eo2 := not_empty eo; have en2 := not_empty en; simp only [Bool.not_false] at hbo; simp only [Bool.not_false] at hbn; subst hbo; subst hbn; go_wp2_with fail; refine ⟨⟨k + 1, C9, T9, _, _, now, now, false, by omega, by go_num, (by first | rfl | rw [eo]), (by first | rfl | rw [en]), rfl, H9.out.mono (by omega), H7.out.2⟩, ?_⟩; (simp [intOf] <;> omega))
    · obtain rfl : k = n := by omega
      have HB := Lib.hid (H0.out.2.trans (hR.b.mono H0.out.2.size))
      clear hR hL
      go_wp2_with fail
      go_returns
      exact ⟨rfl, HB.out⟩
end Go.Proofs.YtijagdpkclghnaaDoor
/- The cache laws' acts among the arguments. -/
namespace Go.Proofs.YtijagdpkclghnaaDoor
open Go Go.ChangeShapes Go.WideShapes Go.ChangeAt Go.RowKit
set_option maxRecDepth 100000
def In5 (y : Ac) : Prop := In64 y.1 ∧ In64 y.2.1 ∧ In64 y.2.2.1 ∧ 0 ≤ y.2.2.2.1 ∧ y.2.2.2.1 < 256
theorem trod_act5 {H : Type} {enc : TypeId × Value → H} {P : Program} {W : World} {base : Nat} {sp : Nat → Bool} {held : Bool} {t : TypeId} {f0 f1 f2 f3 f4 : Field} {fuel : Nat} {cs : List Value} {x : DataW H × List MemPlace} (ht : P.underlying t = some (.struct #[f0, f1, f2, f3, f4])) (hct : P.cellsOf t = 5)
    (o0 : f0.offset = 0) (o1 : f1.offset = 1) (o2 : f2.offset = 2) (o3 : f3.offset = 3) (o4 : f4.offset = 4) (c0 : P.cellsOf f0.type = 1) (c1 : P.cellsOf f1.type = 1) (c2 : P.cellsOf f2.type = 1) (c3 : P.cellsOf f3.type = 1) (c4 : P.cellsOf f4.type = 1)
    (e0 : P.underlying f0.type = some (.int .i64)) (e1 : P.underlying f1.type = some (.int .i64)) (e2 : P.underlying f2.type = some (.int .i64)) (e3 : P.underlying f3.type = some (.int .u8)) (e4 : P.underlying f4.type = some .bool)
    (h : DataW.trod enc P W base sp held fuel t cs = some x) : ∃ y, cs = act5 y ∧ In5 y := by
  obtain ⟨xs, n, _, rfl, hl, hlen, hf⟩ := DataW.trod_struct ht h
  rw [hct] at hl
  match cs, hl, xs, hlen with
  | [v0, v1, v2, v3, v4], _, [y0, y1, y2, y3, y4], _ =>
    have g0 := hf 0 f0 rfl
    have g1 := hf 1 f1 rfl
    have g2 := hf 2 f2 rfl
    have g3 := hf 3 f3 rfl
    have g4 := hf 4 f4 rfl
    rw [o0, c0] at g0; rw [o1, c1] at g1; rw [o2, c2] at g2; rw [o3, c3] at g3; rw [o4, c4] at g4
    obtain ⟨z0, h0, _, w0⟩ := DataW.trod_int (x := y0) e0 (by simpa using g0)
    obtain ⟨z1, h1, _, w1⟩ := DataW.trod_int (x := y1) e1 (by simpa using g1)
    obtain ⟨z2, h2, _, w2⟩ := DataW.trod_int (x := y2) e2 (by simpa using g2)
    obtain ⟨z3, h3, _, w3⟩ := DataW.trod_int (x := y3) e3 (by simpa using g3)
    obtain ⟨z4, h4, _⟩ := DataW.trod_bool (x := y4) e4 (by simpa using g4)
    simp at h0 h1 h2 h3 h4
    subst h0; subst h1; subst h2; subst h3; subst h4
    have b3 := bounds_u8 w3
    exact ⟨(z0, z1, z2, z3, z4), rfl, in64_of w0, in64_of w1, in64_of w2, b3.1, by show z3 < 256; omega⟩
theorem rows_act5 : ∀ rs : List (List Value), (∀ r ∈ rs, ∃ y, r = act5 y ∧ In5 y) → ∃ l : List Ac, rs = l.map act5 ∧ ∀ x ∈ l, In5 x
  | [], _ => ⟨[], rfl, fun x hx => by cases hx⟩
  | r :: rs, h => by
    obtain ⟨y, rfl, hy⟩ := h r (by simp)
    obtain ⟨l, rfl, hl⟩ := rows_act5 rs fun r' hr' => h r' (by simp [hr'])
    refine ⟨y :: l, rfl, fun x hx => ?_⟩
    rcases List.mem_cons.1 hx with rfl | hx
    · exact hy
    · exact hl x hx
/-- A list of acts that came in. -/
theorem open_acts {H : Type} {enc : TypeId × Value → H} {W : World} {held : Bool} {a : Option Addr} {len cap : Nat} {d : DataW H} {p : List MemPlace}
    (h : DataW.Trod enc Tryd.prog W 0 (fun _ => true) held 23 (.slice a len cap) d p) :
    ∃ l : List Ac, l.length = len ∧ len ≤ cap ∧ (∀ x ∈ l, In5 x) ∧ (a = none → len = 0 ∧ cap = 0) ∧
      (l = [] ∨ ∃ b o, a = some ⟨b, o, none⟩ ∧ ∀ i x, l[i]? = some x → ∀ j u, (act5 x)[j]? = some u → W.cell? ⟨b, o + i * 5 + j, none⟩ = some u) := by
  obtain ⟨rs, h1, h2, _, h4, h5, h6⟩ := open_slice_rows (m := 5) (e := 30) (fun cs => ∃ y, cs = act5 y ∧ In5 y) Tryd.underlying23 (by kernel_rfl) (by decide)
    (fun n cs x hx => trod_act5 Tryd.underlying30 (by kernel_rfl) rfl rfl rfl rfl rfl (by kernel_rfl) (by kernel_rfl) (by kernel_rfl) (by kernel_rfl) (by kernel_rfl) Tryd.underlying3 Tryd.underlying3 Tryd.underlying3 Tryd.underlying5 Tryd.underlying4 hx) h
  obtain ⟨l, rfl, hl⟩ := rows_act5 rs h5
  refine ⟨l, by simpa using h1, h2, hl, h4, ?_⟩
  rcases h6 with h6 | ⟨b, o, ha, hc⟩
  · left; simpa using h6
  · right
    exact ⟨b, o, ha, fun i x hx j u hu => hc i (act5 x) (by rw [List.getElem?_map, hx]; rfl) j u hu⟩
/-- Two integers that came in. -/
theorem open_two {H : Type} {enc : TypeId × Value → H} {W : World} {base : Nat} {sp : Nat → Bool} {held : Bool} {v : Value} {d : DataW H} {p : List MemPlace} {r : Reach} {t e : TypeId} (ht : Tryd.prog.underlying t = some (.array 2 e)) (he : Tryd.prog.underlying e = some (.int .i64)) (hce : Tryd.prog.cellsOf e = 1) (hct : Tryd.prog.cellsOf t = 2)
    (hv : Value.okWide Tryd.prog W r base t v) (h : DataW.Trod enc Tryd.prog W 0 sp held t v d p) : ∃ a b : Int, v = .agg #[.int .i64 a, .int .i64 b] ∧ In64 a ∧ In64 b := by
  obtain ⟨zs, hl, rfl, hw⟩ := open_array_ints ht he hce hct hv h
  match zs, hl, hw with
  | [a, b], _, hw => exact ⟨a, b, rfl, in64_of (hw a (by simp)), in64_of (hw b (by simp))⟩
/-- Three integers that came in. -/
theorem open_three {H : Type} {enc : TypeId × Value → H} {W : World} {base : Nat} {sp : Nat → Bool} {held : Bool} {v : Value} {d : DataW H} {p : List MemPlace} {r : Reach} {t e : TypeId} (ht : Tryd.prog.underlying t = some (.array 3 e)) (he : Tryd.prog.underlying e = some (.int .i64)) (hce : Tryd.prog.cellsOf e = 1) (hct : Tryd.prog.cellsOf t = 3)
    (hv : Value.okWide Tryd.prog W r base t v) (h : DataW.Trod enc Tryd.prog W 0 sp held t v d p) : ∃ a b c : Int, v = .agg #[.int .i64 a, .int .i64 b, .int .i64 c] ∧ In64 a ∧ In64 b ∧ In64 c := by
  obtain ⟨zs, hl, rfl, hw⟩ := open_array_ints ht he hce hct hv h
  match zs, hl, hw with
  | [a, b, c], _, hw => exact ⟨a, b, c, rfl, in64_of (hw a (by simp)), in64_of (hw b (by simp)), in64_of (hw c (by simp))⟩
end Go.Proofs.YtijagdpkclghnaaDoor
/- The document's turn as plain data: keys with what they are, in whatever order; the two rows they make. No program in it. -/
namespace Go.Proofs.YtijagdpkclghnaaDoor
open Go Go.RowKit
/-- A key: its number, is it dear, pinned, when did it come to its row? -/
structure RK where
  n : Int
  dear : Bool
  pin : Bool
  at_ : Nat
/-- The keys ks make the rows P (plain) and D (dear), each by when. -/
structure Srt (P D ks : List RK) : Prop where
  perm : (P ++ D).Perm ks
  pd : ∀ x ∈ P, x.dear = false
  dd : ∀ x ∈ D, x.dear = true
  ps : (P.map RK.at_).Pairwise (· < ·)
  ds : (D.map RK.at_).Pairwise (· < ·)
  nn : (ks.map RK.n).Nodup
variable {P D ks : List RK} {x y z : RK} {i : Nat}
theorem Srt.mem (h : Srt P D ks) : z ∈ ks ↔ z ∈ P ∨ z ∈ D := by rw [← h.perm.mem_iff, List.mem_append]
theorem Srt.inP (h : Srt P D ks) (hz : z ∈ ks) (hd : z.dear = false) : z ∈ P := (h.mem.1 hz).resolve_right fun h2 => by rw [h.dd z h2] at hd; cases hd
theorem Srt.inD (h : Srt P D ks) (hz : z ∈ ks) (hd : z.dear = true) : z ∈ D := (h.mem.1 hz).resolve_left fun h2 => by rw [h.pd z h2] at hd; cases hd
theorem Srt.names (h : Srt P D ks) : ((P ++ D).map RK.n).Nodup := (h.perm.map RK.n).nodup_iff.2 h.nn
theorem Srt.inj (h : Srt P D ks) (hx : x ∈ ks) (hy : y ∈ ks) (e : x.n = y.n) : x = y := by
  obtain ⟨i, hi, ei⟩ := List.getElem_of_mem hx
  obtain ⟨j, hj, ej⟩ := List.getElem_of_mem hy
  have h1 : (ks.map RK.n)[i]'(by simpa using hi) = (ks.map RK.n)[j]'(by simpa using hj) := by simp [ei, ej, e]
  have := (List.getElem_inj h.nn).1 h1
  subst this
  exact ei.symm.trans ej
/-- In a row by when: the first one that fits is the one that came first. -/
theorem min_find {L : List RK} (hs : (L.map RK.at_).Pairwise (· < ·)) {p : RK → Bool} (hx : L.find? p = some x) (hy : y ∈ L) (hpy : p y = true) (hmin : ∀ z ∈ L, p z = true → y.at_ ≤ z.at_) : y = x := by
  obtain ⟨hpx, A, B, e, hno⟩ := List.find?_eq_some_iff_append.1 hx
  have h1 := hmin x (by rw [e]; simp) hpx
  rw [e] at hy hs
  rcases List.mem_append.1 hy with h | h
  · have := hno y h
    rw [hpy] at this; cases this
  · rcases List.mem_cons.1 h with h | h
    · exact h
    · rw [List.map_append, List.map_cons] at hs
      have h2 := (List.pairwise_cons.1 (List.pairwise_append.1 hs).2.1).1 y.at_ (List.mem_map.2 ⟨y, h, rfl⟩)
      omega
def fits (b free : Bool) (z : RK) : Bool := (z.dear == b) && !(free && z.pin)
/-- What 'first' answers. -/
def IsFirst (ks : List RK) (b free : Bool) (r : Int) : Prop := (r = -1 ∧ ∀ z ∈ ks, fits b free z = false) ∨ ∃ (i : Nat) (y : RK), r = (i : Int) ∧ ks[i]? = some y ∧ fits b free y = true ∧ ∀ z ∈ ks, fits b free z = true → y.at_ ≤ z.at_
theorem Srt.first (h : Srt P D ks) {b free : Bool} {r : Int} (hr : IsFirst ks b free r) :
    ((if b then D else P).find? (fun z => !(free && z.pin)) = none ∧ r = -1) ∨ ∃ (i : Nat) (y : RK), (if b then D else P).find? (fun z => !(free && z.pin)) = some y ∧ r = (i : Int) ∧ ks[i]? = some y := by
  have hin : ∀ z, fits b free z = true → z ∈ ks → z ∈ (if b then D else P) := fun z hf hz => by
    unfold fits at hf
    rw [Bool.and_eq_true] at hf
    cases b with
    | true => exact h.inD hz (by simpa using hf.1)
    | false => exact h.inP hz (by simpa using hf.1)
  have hout : ∀ z, z ∈ (if b then D else P) → (!(free && z.pin)) = true → z ∈ ks ∧ fits b free z = true := fun z hz hp => by
    unfold fits
    rw [hp, Bool.and_true]
    cases b with
    | true => exact ⟨h.mem.2 (.inr hz), by rw [h.dd z hz]; rfl⟩
    | false => exact ⟨h.mem.2 (.inl hz), by rw [h.pd z hz]; rfl⟩
  have hso : ((if b then D else P).map RK.at_).Pairwise (· < ·) := by cases b; exact h.ps; exact h.ds
  rcases hr with ⟨rfl, hno⟩ | ⟨i, y, rfl, hi, hy, hmin⟩
  · left
    refine ⟨List.find?_eq_none.2 fun z hz hp => ?_, rfl⟩
    obtain ⟨h1, h2⟩ := hout z hz hp
    rw [hno z h1] at h2; cases h2
  · right
    have hyL := hin y hy (List.mem_of_getElem? hi)
    have hpy : (!(free && y.pin)) = true := by unfold fits at hy; rw [Bool.and_eq_true] at hy; exact hy.2
    cases hf : (if b then D else P).find? (fun z => !(free && z.pin)) with
    | none => exact absurd hpy (List.find?_eq_none.1 hf y hyL)
    | some x =>
      obtain rfl : y = x := min_find hso hf hyL hpy fun z hz hp => by
        obtain ⟨h1, h2⟩ := hout z hz hp
        exact hmin z h1 h2
      exact ⟨i, y, rfl, rfl, hi⟩
theorem set_perm (h : ks[i]? = some x) (y : RK) : ks.Perm (x :: ks.eraseIdx i) ∧ (ks.set i y).Perm (y :: ks.eraseIdx i) := by
  obtain ⟨hi, e⟩ := List.getElem?_eq_some_iff.1 h
  have e1 : ks = ks.take i ++ x :: ks.drop (i + 1) := by rw [← e, List.getElem_cons_drop, List.take_append_drop]
  have e2 : ks.eraseIdx i = ks.take i ++ ks.drop (i + 1) := List.eraseIdx_eq_take_drop_succ _ _
  have e3 : ks.set i y = ks.take i ++ y :: ks.drop (i + 1) := by rw [List.set_eq_take_append_cons_drop, if_pos hi]
  constructor
  · rw [e2]
    conv => lhs; rw [e1]
    exact List.perm_middle
  · rw [e2, e3]
    exact List.perm_middle
/-- A key is taken out of the row in which it is. -/
theorem split_of {L : List RK} (hx : x ∈ L) (hn : (L.map RK.n).Nodup) : ∃ A B, L = A ++ x :: B ∧ (L.map RK.n).erase x.n = (A ++ B).map RK.n := by
  obtain ⟨A, B, rfl⟩ := List.append_of_mem hx
  refine ⟨A, B, rfl, ?_⟩
  rw [List.map_append, List.map_cons] at hn ⊢
  have hxA : x.n ∉ A.map RK.n := fun h => (List.nodup_append.1 hn).2.2 _ h _ List.mem_cons_self rfl
  rw [List.erase_append_right _ hxA, List.erase_cons_head, List.map_append]
end Go.Proofs.YtijagdpkclghnaaDoor
/- What ties the program's turn to the document's: plain laws. No program in it. -/
namespace Go.Proofs.YtijagdpkclghnaaDoor
open Go Go.RowKit
structure RS where
  most : Nat
  limit : Nat
  ks : List RK
  clock : Nat
variable {P D ks : List RK} {x y z : RK} {i : Nat} {T : TS} {R : RS}
theorem not_in_other (h : Srt P D ks) (hx : x ∈ P) : x.n ∉ D.map RK.n := fun hm => by
  have := h.names
  rw [List.map_append] at this
  exact (List.nodup_append.1 this).2.2 _ (List.mem_map.2 ⟨x, hx, rfl⟩) _ hm rfl
theorem not_in_other' (h : Srt P D ks) (hx : x ∈ D) : x.n ∉ P.map RK.n := fun hm => by
  have := h.names
  rw [List.map_append] at this
  exact (List.nodup_append.1 this).2.2 _ hm _ (List.mem_map.2 ⟨x, hx, rfl⟩) rfl
/-- A key goes out of its row. -/
theorem Srt.out (h : Srt P D ks) (hi : ks[i]? = some x) : ∃ P' D', Srt P' D' (ks.eraseIdx i) ∧ P'.map RK.n = (P.map RK.n).erase x.n ∧ D'.map RK.n = (D.map RK.n).erase x.n := by
  have hx := List.mem_of_getElem? hi
  have hp := h.perm.trans (set_perm hi x).1
  have hn := h.names
  rw [List.map_append] at hn
  have hne : ((ks.eraseIdx i).map RK.n).Nodup := h.nn.sublist ((List.eraseIdx_sublist ks i).map RK.n)
  rcases h.mem.1 hx with h1 | h1
  · obtain ⟨A, B, e, e2⟩ := split_of h1 (List.nodup_append.1 hn).1
    have hsub : (A ++ B).Sublist P := by rw [e]; exact List.Sublist.append_left (List.sublist_cons_self _ _) _
    refine ⟨A ++ B, D, ⟨?_, fun z hz => h.pd z (hsub.subset hz), h.dd, h.ps.sublist (hsub.map _), h.ds, hne⟩, e2.symm, (List.erase_of_not_mem (not_in_other h h1)).symm⟩
    rw [e, List.append_assoc, List.cons_append] at hp
    have h2 := (List.perm_cons x).1 ((List.perm_middle (a := x) (l₁ := A) (l₂ := B ++ D)).symm.trans hp)
    rw [List.append_assoc]; exact h2
  · obtain ⟨A, B, e, e2⟩ := split_of h1 (List.nodup_append.1 hn).2.1
    have hsub : (A ++ B).Sublist D := by rw [e]; exact List.Sublist.append_left (List.sublist_cons_self _ _) _
    refine ⟨P, A ++ B, ⟨?_, h.pd, fun z hz => h.dd z (hsub.subset hz), h.ps, h.ds.sublist (hsub.map _), hne⟩, (List.erase_of_not_mem (not_in_other' h h1)).symm, e2.symm⟩
    rw [e, ← List.append_assoc] at hp
    have h2 := (List.perm_cons x).1 ((List.perm_middle (a := x) (l₁ := P ++ A) (l₂ := B)).symm.trans hp)
    rw [← List.append_assoc]; exact h2
theorem map_set_same (hi : ks[i]? = some x) (he : y.n = x.n) : (ks.set i y).map RK.n = ks.map RK.n := by
  obtain ⟨hl, e⟩ := List.getElem?_eq_some_iff.1 hi
  rw [List.map_set, he]
  apply List.ext_getElem
  · simp
  · intro j h1 h2
    by_cases hj : i = j
    · subst hj; rw [List.getElem_set_self]; simp [e]
    · rw [List.getElem_set_ne hj]
theorem sorted_snoc {L : List RK} {c : Nat} (hs : (L.map RK.at_).Pairwise (· < ·)) (hl : ∀ z ∈ L, z.at_ < c) (hy : y.at_ = c) : ((L ++ [y]).map RK.at_).Pairwise (· < ·) := by
  rw [List.map_append, List.pairwise_append]
  refine ⟨hs, by simp, fun a ha b hb => ?_⟩
  obtain ⟨z, hz, rfl⟩ := List.mem_map.1 ha
  have := hl z hz
  have hb' : b = y.at_ := by simpa using hb
  omega
/-- A key comes to the end of a row. -/
theorem Srt.toDear {c : Nat} (h : Srt P D (ks.eraseIdx i)) (hi : ks[i]? = some x) (hnn : (ks.map RK.n).Nodup) (hc : ∀ z ∈ ks, z.at_ < c) (he : y.n = x.n) (hd : y.dear = true) (ha : y.at_ = c) : Srt P (D ++ [y]) (ks.set i y) := by
  refine ⟨?_, h.pd, fun z hz => ?_, h.ps, sorted_snoc h.ds (fun z hz => hc z ((List.eraseIdx_sublist ks i).subset (h.mem.2 (.inr hz)))) ha, by rw [map_set_same hi he]; exact hnn⟩
  · rw [← List.append_assoc]
    exact ((List.perm_append_singleton y (P ++ D)).trans (h.perm.cons y)).trans (set_perm hi y).2.symm
  · rcases List.mem_append.1 hz with h1 | h1
    · exact h.dd z h1
    · rw [List.mem_singleton.1 h1]; exact hd
theorem Srt.toPlain {c : Nat} (h : Srt P D (ks.eraseIdx i)) (hi : ks[i]? = some x) (hnn : (ks.map RK.n).Nodup) (hc : ∀ z ∈ ks, z.at_ < c) (he : y.n = x.n) (hd : y.dear = false) (ha : y.at_ = c) : Srt (P ++ [y]) D (ks.set i y) := by
  refine ⟨?_, fun z hz => ?_, h.dd, sorted_snoc h.ps (fun z hz => hc z ((List.eraseIdx_sublist ks i).subset (h.mem.2 (.inl hz)))) ha, h.ds, by rw [map_set_same hi he]; exact hnn⟩
  · have h1 : ((P ++ [y]) ++ D).Perm (y :: (P ++ D)) := by rw [List.append_assoc]; exact List.perm_middle
    exact (h1.trans (h.perm.cons y)).trans (set_perm hi y).2.symm
  · rcases List.mem_append.1 hz with h1 | h1
    · exact h.pd z h1
    · rw [List.mem_singleton.1 h1]; exact hd
/-- Another key comes to the plain ones. -/
theorem Srt.new {c : Nat} (h : Srt P D ks) (hc : ∀ z ∈ ks, z.at_ < c) (hn : y.n ∉ ks.map RK.n) (hd : y.dear = false) (ha : y.at_ = c) : Srt (P ++ [y]) D (ks ++ [y]) := by
  refine ⟨?_, fun z hz => ?_, h.dd, sorted_snoc h.ps (fun z hz => hc z (h.mem.2 (.inl hz))) ha, h.ds, ?_⟩
  · have h1 : ((P ++ [y]) ++ D).Perm (y :: (P ++ D)) := by rw [List.append_assoc]; exact List.perm_middle
    exact (h1.trans (h.perm.cons y)).trans (List.perm_append_singleton y ks).symm
  · rcases List.mem_append.1 hz with h1 | h1
    · exact h.pd z h1
    · rw [List.mem_singleton.1 h1]; exact hd
  · rw [List.map_append]
    exact ((List.perm_append_singleton y.n (ks.map RK.n)).nodup_iff).2 (List.nodup_cons.2 ⟨hn, h.nn⟩)
/-- A key is pinned, or may go again: it stays where it is. -/
theorem Srt.swap (h : Srt P D ks) (hi : ks[i]? = some x) (he : y.n = x.n) (hd : y.dear = x.dear) (ha : y.at_ = x.at_) : ∃ P' D', Srt P' D' (ks.set i y) ∧ P'.map RK.n = P.map RK.n ∧ D'.map RK.n = D.map RK.n := by
  have hx := List.mem_of_getElem? hi
  have hp := h.perm.trans (set_perm hi y).1
  have hnn : ((ks.set i y).map RK.n).Nodup := by rw [map_set_same hi he]; exact h.nn
  rcases h.mem.1 hx with h1 | h1
  · obtain ⟨A, B, rfl⟩ := List.append_of_mem h1
    refine ⟨A ++ y :: B, D, ⟨?_, fun z hz => ?_, h.dd, ?_, h.ds, hnn⟩, by simp [he], rfl⟩
    · rw [List.append_assoc, List.cons_append] at hp ⊢
      have h2 := (List.perm_cons x).1 ((List.perm_middle (a := x) (l₁ := A) (l₂ := B ++ D)).symm.trans hp)
      exact (List.perm_middle.trans (h2.cons y)).trans (set_perm hi y).2.symm
    · rcases List.mem_append.1 hz with h2 | h2
      · exact h.pd z (List.mem_append.2 (.inl h2))
      · rcases List.mem_cons.1 h2 with rfl | h2
        · rw [hd]; exact h.pd x h1
        · exact h.pd z (List.mem_append.2 (.inr (List.mem_cons_of_mem _ h2)))
    · have := h.ps
      rw [List.map_append, List.map_cons] at this ⊢
      rw [ha]; exact this
  · obtain ⟨A, B, rfl⟩ := List.append_of_mem h1
    refine ⟨P, A ++ y :: B, ⟨?_, h.pd, fun z hz => ?_, h.ps, ?_, hnn⟩, rfl, by simp [he]⟩
    · rw [← List.append_assoc] at hp ⊢
      have h2 := (List.perm_cons x).1 ((List.perm_middle (a := x) (l₁ := P ++ A) (l₂ := B)).symm.trans hp)
      exact (List.perm_middle.trans (h2.cons y)).trans (set_perm hi y).2.symm
    · rcases List.mem_append.1 hz with h2 | h2
      · exact h.dd z (List.mem_append.2 (.inl h2))
      · rcases List.mem_cons.1 h2 with rfl | h2
        · rw [hd]; exact h.dd x h1
        · exact h.dd z (List.mem_append.2 (.inr (List.mem_cons_of_mem _ h2)))
    · have := h.ds
      rw [List.map_append, List.map_cons] at this ⊢
      rw [ha]; exact this
end Go.Proofs.YtijagdpkclghnaaDoor
