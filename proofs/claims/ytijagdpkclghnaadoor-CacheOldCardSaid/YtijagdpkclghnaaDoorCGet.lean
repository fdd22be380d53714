/- New, row of a cache; get, put of a shelf: contracts. -/
import Derived.Test.YtijagdpkclghnaaDoorCState
namespace Go.Proofs.YtijagdpkclghnaaDoor
open Go Go.RowKit
set_option maxRecDepth 100000
variable {B n data : Nat} {w w' : World} {C : CM} {T : TS} {L : List Int} {f : Int → Option Ent} {E : Ent}
theorem CNew_ok (most limit data : Nat) (w : World) (hB : B ≤ w.heap.size) (h1 : 1 ≤ most) (h2 : most ≤ 64) (h3 : limit < most) (h4 : 2 ≤ data) (h5 : data ≤ 30) :
    Calls Tryd.prog 7 #[.int .i64 (most : Int), .int .i64 (limit : Int), .int .i64 (data : Int)] w fun e w' => ∃ C : CM, e = .returned (.tuple #[pt C.g, .int .i64 0]) ∧ CacheAt B 0 data w' C ⟨most, limit, [], [], []⟩ [] (fun _ => none) ∧ Below w.heap.size w w' ∧ ∀ k, C.foot (fun _ => none) k → w.heap.size ≤ k := by
  have hmm := @run_makeMap Tryd.prog
  have h4I : ¬ ((data : Int) < 2) := by omega
  have h5I : ¬ (30 < (data : Int)) := by omega
  have HH := Lib.hid (And.intro h1 (And.intro h2 (And.intro h3 (And.intro h4 h5))))
  clear h1 h2 h3 h4 h5
  go_enter Tryd.func7, Tryd.ntmps7
  go_wp2_with fail
  refine (New_ok most limit w hB HH.out.1 HH.out.2.1 HH.out.2.2.1).mono ?_
  rintro e w1 ⟨M, rfl, hT, hb, hf⟩
  have HT := Lib.hid (And.intro hT (And.intro hb hf))
  clear hT hb hf
  go_wp2_with fail
  go_ret2
  obtain ⟨hT, hb, hf⟩ := HT.out
  have hs := hb.size
  have hr := World.row.new (w1.alloc (.map #[] 0)) [.pointer (some ⟨M.g, 0, none⟩), .int .i64 (data : Int), .map (some w1.heap.size)] tC
  have hb2 : Below w1.heap.size w1 ((w1.alloc (.map #[] 0)).alloc (.cells [Value.pointer (some ⟨M.g, 0, none⟩), .int .i64 (data : Int), .map (some w1.heap.size)].toArray tC)) := ((Below.refl _ _).alloc (Nat.le_refl _) _).alloc (by simp) _
  refine ⟨⟨(w1.alloc (.map #[] 0)).heap.size, w1.heap.size, M⟩, by simp, ⟨hr, hT.below' hb2, ⟨HH.out.1, HH.out.2.1, HH.out.2.2.1, by simp, by simp, by simp, by simp⟩, (World.pmap_made w1 Tryd.prog tI).alloc _, (fun _ _ h => by cases h), (fun _ _ _ _ h => by cases h), (fun _ _ h => by cases h), by simp, fun h => by have := (hT.lts _ h).2; simp at this; omega, fun h => by have := (hT.lts _ h).2; simp at this, by simp; omega, by simp; omega, fun _ => rfl, HH.out.2.2.2.1, HH.out.2.2.2.2⟩, hb.trans (hb2.mono hs), ?_⟩
  intro k hk
  rcases hk with hk | hk | hk | ⟨_, _, h, _⟩
  · simp at hk; omega
  · simp at hk; omega
  · exact hf k hk
  · cases h
theorem row_any (i : Int) (w : World) (h : CacheAt B n data w C T L f) (hi : In64 i) :
    Calls Tryd.prog 31 #[pt C.g, .int .i64 i] w fun e w' => e = .returned (ptrV ((f i).map Ent.g)) ∧ w = w' := by
  have hz : Hid (∀ w, (zeroValue 58).run Tryd.prog w = .ok (.pointer none) w) := Lib.hid fun w => by kernel_rfl
  obtain ⟨c0, c1, c2⟩ := h.three
  have HI := Lib.hid hi
  have HC := Lib.hid h.map
  clear hi
  go_enter Tryd.func31, Tryd.ntmps31
  go_wp2_with (at_lookup; refine wpList_lookup_pm rfl _ _ 54 rfl Tryd.underlying3 Tryd.underlying54 hz.out rfl HC.out i rfl HI.out _ rfl ?_)
  go_returns
  exact ⟨rfl, rfl⟩
end Go.Proofs.YtijagdpkclghnaaDoor
