/- place, open of a cache: contracts. -/
import Derived.Test.YtijagdpkclghnaaDoorCStep
import Derived.Test.YtijagdpkclghnaaDoorCSec
namespace Go.Proofs.YtijagdpkclghnaaDoor
open Go Go.RowKit
set_option maxRecDepth 100000
variable {B n data : Nat} {w w' : World} {C : CM} {T : TS} {L : List Int} {f : Int → Option Ent} {E : Ent}
theorem place_no (w : World) (h : CacheAt B n data w C T L f) (hn : T.full = false) :
    Calls Tryd.prog 50 #[pt C.g] w fun e w' => e = .returned (.int .i64 0) ∧ Below w.heap.size w w' := by
  obtain ⟨c0, c1, c2⟩ := h.three
  have hF := Full_any w h.turn h.good
  rw [show decide (T.most ≤ T.plain.length + T.dear.length) = T.full from rfl, hn] at hF
  have HF := Lib.hid hF
  clear hF
  go_enter Tryd.func50, Tryd.ntmps50
  go_wp2_with fail
  refine Calls.pure_to HF.out ?_
  intro w1 b1
  go_wp2_with fail
  go_returns
  exact ⟨rfl, b1⟩
theorem infoStr : (Tryd.prog.info? tStr).map (fun i => (i.zero, i.size, i.bytes)) = some (some (.string noB), 1, 16) := by kernel_rfl
theorem made_strs (n : Nat) : madeCells #[Value.string noB] n = ((List.replicate n noB).map Value.string).toArray := by
  apply Array.ext_getElem?
  intro i
  unfold madeCells
  by_cases h : i < n
  · simp [h, Nat.mod_one]
  · simp [h]
set_option maxHeartbeats 4000000 in
theorem open_new (i : Int) (c : Nat) (s : ByteArray) (w : World) (h : CacheAt B n data w C T L f) (hi : 0 ≤ i) (hi2 : i < 64) (hc : c < data) (hs : s.size = 64) (hf : f i = none) (hn : T.full = false) (hnn : n < 100000) :
    Calls Tryd.prog 26 #[pt C.g, .int .i64 i, .int .i64 (c : Int), .string s] w fun e w' => ∃ C' E, e = .returned (.tuple #[pt E.g, .int .i64 0]) ∧ CacheAt B (n + 1) data w' C' (T.addT i) (addTo L i) (upd f i (some E)) ∧ CStep C f C' (upd f i (some E)) w w' ∧
      E.nt = Set4.zero ∧ E.ot = Set4.zero ∧ E.dt = Set4.zero ∧ E.nb = List.replicate data noB ∧ E.ob = List.replicate data noB := by
  have hh : T.has i = false := by
    rw [h.keys, ← h.map.some_, hf]; rfl
  obtain ⟨c0, c1, c2⟩ := h.three
  have hi64 : In64 i := ⟨by omega, by omega⟩
  have hcI : (c : Int) < (data : Int) := by omega
  have hsI : (s.size : Int) = 64 := by omega
  have hR := row_any i w h hi64
  rw [hf] at hR
  simp only [Option.map_none, ptrV] at hR
  have HR := Lib.hid (And.intro hR (And.intro hi64 hh))
  have HC := Lib.hid h
  have hmk := run_make_row' (P := Tryd.prog) 64 tStr (.string noB) 16 Tryd.underlying64 infoStr rfl .i64 .i64 data (by have := h.d30; omega) (by have := h.d30; omega)
  have HM := Lib.hid hmk
  clear hR hi64 hh hmk
  go_enter Tryd.func26, Tryd.ntmps26
  go_wp2_with fail
  refine HR.out.1.mono ?_
  rintro e w1 ⟨rfl, rfl⟩
  go_wp2_with fail
  refine Calls.pure_to (place_no w HC.out hn) ?_
  intro w1 b1
  have h1 := HC.out.below b1
  clear c0 c1 c2
  obtain ⟨c0, c1, c2⟩ := h1.three
  go_wp2_with fail
  refine (Add_any i w1 h1.turn h1.good).mono ?_
  rintro e w2 ⟨rfl, M', hT2, hS2⟩
  have hmk := HM.out
  have c1' := hS2.cell c1 h1.gM
  have c2' := hS2.cell c2 h1.gM
  have hlt : C.g < w2.heap.size := Nat.lt_of_lt_of_le h1.row.lt hS2.size
  clear c0 c1 c2
  go_wp2_with fail
  go_region
  · have hr : ∀ W : World, Below w2.heap.size w2 (((w2.alloc (Obj.cells (madeCells #[Value.string noB] data) tStr)).alloc (Obj.cells (madeCells #[Value.string noB] data) tStr)).alloc (Obj.cells (Ent.cells ⟨w2.heap.size + 1 + 1, w2.heap.size, (w2.heap.size + 1), Set4.zero, Set4.zero, Set4.zero, List.replicate data noB, List.replicate data noB⟩ data).toArray tE)).drew := fun _ => ((((Below.refl _ _).alloc (Nat.le_refl _) _).alloc (by simp) _).alloc (by simp; omega) _).drew
    have hE : EntAt B data (((w2.alloc (Obj.cells (madeCells #[Value.string noB] data) tStr)).alloc (Obj.cells (madeCells #[Value.string noB] data) tStr)).alloc (Obj.cells (Ent.cells ⟨w2.heap.size + 1 + 1, w2.heap.size, (w2.heap.size + 1), Set4.zero, Set4.zero, Set4.zero, List.replicate data noB, List.replicate data noB⟩ data).toArray tE)).drew ⟨w2.heap.size + 1 + 1, w2.heap.size, (w2.heap.size + 1), Set4.zero, Set4.zero, Set4.zero, List.replicate data noB, List.replicate data noB⟩ := by
      have hB2 := Nat.le_trans h1.bg (Nat.le_trans (Nat.le_of_lt h1.row.lt) hS2.size)
      have ra : ((w2.alloc (Obj.cells (madeCells #[Value.string noB] data) tStr)).alloc (Obj.cells (madeCells #[Value.string noB] data) tStr)).row w2.heap.size ((List.replicate data noB).map Value.string) tStr := by rw [made_strs]; exact (World.row.new' rfl).alloc _
      have rb : ((w2.alloc (Obj.cells (madeCells #[Value.string noB] data) tStr)).alloc (Obj.cells (madeCells #[Value.string noB] data) tStr)).row (w2.heap.size + 1) ((List.replicate data noB).map Value.string) tStr := by rw [made_strs]; exact World.row.new' (by simp)
      exact ⟨World.row.new' (by simp), (by first | exact ra.alloc _ | exact rb.alloc _), (by first | exact rb.alloc _ | exact ra.alloc _), by show w2.heap.size + 1 + 1 ≠ w2.heap.size; omega, by show w2.heap.size + 1 + 1 ≠ (w2.heap.size + 1); omega, by show w2.heap.size ≠ (w2.heap.size + 1); omega, by show B ≤ w2.heap.size + 1 + 1; omega, by show B ≤ w2.heap.size; omega, by show B ≤ (w2.heap.size + 1); omega, by simp, by simp, (fun i hi => by rw [Set4.has_zero] at hi; cases hi), (fun i hi => by rw [Set4.has_zero] at hi; cases hi)⟩
    have hnew : ∀ x, Ent.foot ⟨w2.heap.size + 1 + 1, w2.heap.size, (w2.heap.size + 1), Set4.zero, Set4.zero, Set4.zero, List.replicate data noB, List.replicate data noB⟩ x → w2.heap.size ≤ x := fun x hx => by
      rcases hx with e | e | e
      · have e : x = w2.heap.size + 1 + 1 := e; omega
      · have e : x = w2.heap.size := e; omega
      · have e : x = (w2.heap.size + 1) := e; omega
    go_upto_region 16 with fail
    refine wp_world (fun w3 => EntAt B data w3 ⟨w2.heap.size + 1 + 1, w2.heap.size, (w2.heap.size + 1), Set4.zero, Set4.zero, Set4.zero, List.replicate data noB, List.replicate data noB⟩ ∧ Below w2.heap.size w2 w3) ⟨hE, hr w2⟩ ?_
    clear hE hr c1'
    rintro w3 ⟨hE, hr⟩
    obtain ⟨E0, hE0⟩ : ∃ E0 : Ent, E0 = ⟨w2.heap.size + 1 + 1, w2.heap.size, (w2.heap.size + 1), Set4.zero, Set4.zero, Set4.zero, List.replicate data noB, List.replicate data noB⟩ := ⟨_, rfl⟩
    have hg0 : w2.heap.size + 1 + 1 = E0.g := by rw [hE0]
    rw [← hE0] at hE hnew
    rw [hg0]
    have HZ : Hid (E0.nt = Set4.zero ∧ E0.ot = Set4.zero ∧ E0.dt = Set4.zero ∧ E0.nb = List.replicate data noB ∧ E0.ob = List.replicate data noB) := Lib.hid (by rw [hE0]; exact ⟨rfl, rfl, rfl, rfl, rfl⟩)
    clear hg0 hE0
    have q2 := ((hS2.row h1.row h1.gM).below hr hlt).cell 2 rfl
    have hmp := (h1.map.same (hS2.block _ h1.map.lt h1.mM)).same (hr.block _ (Nat.lt_of_lt_of_le h1.map.lt hS2.size))
    have HE := Lib.hid (And.intro hr (And.intro hE (And.intro hnew (And.intro hS2 (And.intro hT2 (And.intro b1 h1))))))
    clear hE hr hnew hS2 hT2 b1 h1 c2' hmk
    go_wp2_with (at_mapUpdate; refine wpList_mapUpdate_pm rfl _ _ _ 54 rfl Tryd.underlying3 Tryd.underlying54 rfl hmp hnn i rfl HR.out.2.1 E0.g rfl ?_; intro w4 hm4 hg4)
    go_ret2
    obtain ⟨hr, hE, hnew, hS2, hT2, b1, h1⟩ := HE.out
    obtain ⟨A1, A2⟩ := h1.added hS2 hT2 (h1.good.add i HR.out.2.1) (fun k => by rw [add_has hn HR.out.2.2, h1.keys, addTo_has]) hr hE hnew hm4 hg4 hf
    exact ⟨{ C with M := M' }, E0, rfl, A1, (CStep.of_below C f b1).trans A2, HZ.out⟩
  · have hr : ∀ W : World, Below w2.heap.size w2 (((w2.alloc (Obj.cells (madeCells #[Value.string noB] data) tStr)).alloc (Obj.cells (madeCells #[Value.string noB] data) tStr)).alloc (Obj.cells (Ent.cells ⟨w2.heap.size + 1 + 1, (w2.heap.size + 1), w2.heap.size, Set4.zero, Set4.zero, Set4.zero, List.replicate data noB, List.replicate data noB⟩ data).toArray tE)).drew := fun _ => ((((Below.refl _ _).alloc (Nat.le_refl _) _).alloc (by simp) _).alloc (by simp; omega) _).drew
    have hE : EntAt B data (((w2.alloc (Obj.cells (madeCells #[Value.string noB] data) tStr)).alloc (Obj.cells (madeCells #[Value.string noB] data) tStr)).alloc (Obj.cells (Ent.cells ⟨w2.heap.size + 1 + 1, (w2.heap.size + 1), w2.heap.size, Set4.zero, Set4.zero, Set4.zero, List.replicate data noB, List.replicate data noB⟩ data).toArray tE)).drew ⟨w2.heap.size + 1 + 1, (w2.heap.size + 1), w2.heap.size, Set4.zero, Set4.zero, Set4.zero, List.replicate data noB, List.replicate data noB⟩ := by
      have hB2 := Nat.le_trans h1.bg (Nat.le_trans (Nat.le_of_lt h1.row.lt) hS2.size)
      have ra : ((w2.alloc (Obj.cells (madeCells #[Value.string noB] data) tStr)).alloc (Obj.cells (madeCells #[Value.string noB] data) tStr)).row w2.heap.size ((List.replicate data noB).map Value.string) tStr := by rw [made_strs]; exact (World.row.new' rfl).alloc _
      have rb : ((w2.alloc (Obj.cells (madeCells #[Value.string noB] data) tStr)).alloc (Obj.cells (madeCells #[Value.string noB] data) tStr)).row (w2.heap.size + 1) ((List.replicate data noB).map Value.string) tStr := by rw [made_strs]; exact World.row.new' (by simp)
      exact ⟨World.row.new' (by simp), (by first | exact ra.alloc _ | exact rb.alloc _), (by first | exact rb.alloc _ | exact ra.alloc _), by show w2.heap.size + 1 + 1 ≠ (w2.heap.size + 1); omega, by show w2.heap.size + 1 + 1 ≠ w2.heap.size; omega, by show (w2.heap.size + 1) ≠ w2.heap.size; omega, by show B ≤ w2.heap.size + 1 + 1; omega, by show B ≤ (w2.heap.size + 1); omega, by show B ≤ w2.heap.size; omega, by simp, by simp, (fun i hi => by rw [Set4.has_zero] at hi; cases hi), (fun i hi => by rw [Set4.has_zero] at hi; cases hi)⟩
    have hnew : ∀ x, Ent.foot ⟨w2.heap.size + 1 + 1, (w2.heap.size + 1), w2.heap.size, Set4.zero, Set4.zero, Set4.zero, List.replicate data noB, List.replicate data noB⟩ x → w2.heap.size ≤ x := fun x hx => by
      rcases hx with e | e | e
      · have e : x = w2.heap.size + 1 + 1 := e; omega
      · have e : x = (w2.heap.size + 1) := e; omega
      · have e : x = w2.heap.size := e; omega
    go_upto_region 16 with fail
    refine wp_world (fun w3 => EntAt B data w3 ⟨w2.heap.size + 1 + 1, (w2.heap.size + 1), w2.heap.size, Set4.zero, Set4.zero, Set4.zero, List.replicate data noB, List.replicate data noB⟩ ∧ Below w2.heap.size w2 w3) ⟨hE, hr w2⟩ ?_
    clear hE hr c1'
    rintro w3 ⟨hE, hr⟩
    obtain ⟨E0, hE0⟩ : ∃ E0 : Ent, E0 = ⟨w2.heap.size + 1 + 1, (w2.heap.size + 1), w2.heap.size, Set4.zero, Set4.zero, Set4.zero, List.replicate data noB, List.replicate data noB⟩ := ⟨_, rfl⟩
    have hg0 : w2.heap.size + 1 + 1 = E0.g := by rw [hE0]
    rw [← hE0] at hE hnew
    rw [hg0]
    have HZ : Hid (E0.nt = Set4.zero ∧ E0.ot = Set4.zero ∧ E0.dt = Set4.zero ∧ E0.nb = List.replicate data noB ∧ E0.ob = List.replicate data noB) := Lib.hid (by rw [hE0]; exact ⟨rfl, rfl, rfl, rfl, rfl⟩)
    clear hg0 hE0
    have q2 := ((hS2.row h1.row h1.gM).below hr hlt).cell 2 rfl
    have hmp := (h1.map.same (hS2.block _ h1.map.lt h1.mM)).same (hr.block _ (Nat.lt_of_lt_of_le h1.map.lt hS2.size))
    have HE := Lib.hid (And.intro hr (And.intro hE (And.intro hnew (And.intro hS2 (And.intro hT2 (And.intro b1 h1))))))
    clear hE hr hnew hS2 hT2 b1 h1 c2' hmk
    go_wp2_with (at_mapUpdate; refine wpList_mapUpdate_pm rfl _ _ _ 54 rfl Tryd.underlying3 Tryd.underlying54 rfl hmp hnn i rfl HR.out.2.1 E0.g rfl ?_; intro w4 hm4 hg4)
    go_ret2
    obtain ⟨hr, hE, hnew, hS2, hT2, b1, h1⟩ := HE.out
    obtain ⟨A1, A2⟩ := h1.added hS2 hT2 (h1.good.add i HR.out.2.1) (fun k => by rw [add_has hn HR.out.2.2, h1.keys, addTo_has]) hr hE hnew hm4 hg4 hf
    exact ⟨{ C with M := M' }, E0, rfl, A1, (CStep.of_below C f b1).trans A2, HZ.out⟩
end Go.Proofs.YtijagdpkclghnaaDoor
