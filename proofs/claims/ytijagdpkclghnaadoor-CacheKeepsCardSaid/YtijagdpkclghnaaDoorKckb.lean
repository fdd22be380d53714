/- Several texts in one: Calm App Op Elems Open Set. -/
import Derived.Test.YtijagdpkclghnaaDoorKcka
import Derived.Maps.AppendAt
import Derived.WalkKit
import Derived.ProofKit
import Derived.OpenShut
import Derived.Lib.LaidTab
import Derived.ShutString
import Derived.ChangeOld
import Derived.SizedLaws
import Derived.ChangeVars
/- A region that draws its order: calls that leave old memory alone, loads, fresh variables, and a forced tail; walked once. No program in it. -/
namespace Go
open Go.RowKit
/-- A class of worlds that are as w in all blocks below B; what is made anew stays in it. -/
structure Cls (B : Nat) (w : World) where
  C : World → Prop
  sub : ∀ w', C w' → Below B w w' ∧ B ≤ w'.heap.size
  ext : ∀ w1 w2, C w1 → Below w1.heap.size w1 w2 → C w2
structure ClsW {B : Nat} {w : World} (K : Cls B w) where
  val : World
  mem : K.C val
def World.cl {B : Nat} {w : World} (K : Cls B w) (x : ClsW K) : World := x.val
section
variable {w : World} {B : Nat} {K : Cls B w}
@[simp, go_sem] theorem World.cell?_cl (x : ClsW K) (b o : Nat) (h : b < B) : (World.cl K x).cell? ⟨b, o, none⟩ = w.cell? ⟨b, o, none⟩ := (K.sub _ x.mem).1.cell (p := ⟨b, o, none⟩) h
@[simp, go_sem] theorem World.frozen?_cl (x : ClsW K) (b o : Nat) (h : b < B) : (World.cl K x).frozen? ⟨b, o, none⟩ = w.frozen? ⟨b, o, none⟩ := (K.sub _ x.mem).1.frozen (p := ⟨b, o, none⟩) h
theorem World.cl_below (x : ClsW K) : Below B w (World.cl K x) := (K.sub _ x.mem).1
theorem World.cl_size (x : ClsW K) : B ≤ (World.cl K x).heap.size := (K.sub _ x.mem).2
abbrev Cls.pred (K : Cls B w) : World → Prop := fun w' => ∃ x : ClsW K, w' = World.cl K x
theorem Calls.cl_of {P : Program} {f : FuncId} {args : Array Value} {x : ClsW K} {v : Value}
    (h : Calls P f args (World.cl K x) fun e w' => e = .returned v ∧ Below (World.cl K x).heap.size (World.cl K x) w') : Calls P f args (World.cl K x) fun e w'' => e = .returned v ∧ ∃ y : ClsW K, w'' = World.cl K y :=
  h.mono fun _ w' ⟨he, hm⟩ => ⟨he, ⟨w', K.ext _ _ x.mem hm⟩, rfl⟩
theorem Calls.cl_same {P : Program} {f : FuncId} {args : Array Value} {x : ClsW K} {v : Value}
    (h : Calls P f args (World.cl K x) fun e w' => e = .returned v ∧ World.cl K x = w') : Calls P f args (World.cl K x) fun e w'' => e = .returned v ∧ ∃ y : ClsW K, w'' = World.cl K y :=
  h.mono fun _ _ ⟨he, hm⟩ => ⟨he, x, hm.symm⟩
theorem wpQuiet_ldc {P : Program} {ops : Array Oper} {rest : List Oper} {o : Oper} {a : Act} {Q : Act → Prop} {ty : TypeId} {x : Operand} {b off : Nat} {cs : List Value} (hw : Region.wanted o (yielded ops a.tmps) = true) (ho : o.op = .load ty x) (hx : a.eval x = .pointer (some ⟨b, off, none⟩))
    (hc : w.rangeAt b off cs) (hb : b < B) (ht : RowTy P ty cs.length)
    (h : wpQuiet P ops (fun w' => ∃ x : ClsW K, w' = World.cl K x) Q rest (a.put o.dst (.agg cs.toArray))) : wpQuiet P ops (fun w' => ∃ x : ClsW K, w' = World.cl K x) Q (o :: rest) a := by
  obtain ⟨d, hu, hd, hi⟩ := ht
  refine wpQuiet_step fun J hJ => ?_
  rw [if_pos hw]
  refine ⟨_, fun w' hw' => ?_, hJ _ h⟩
  obtain ⟨y, rfl⟩ := hw'
  unfold Oper.quietAt execOp
  simp only [ho, hx, Instr.loadAt, Instr.sureAddr, Sem.run_bind, Sem.run_pure, Result.andThen_ok, run_loadVar_mid _ b off ty cs d (hc.below (World.cl_below y) hb) hu hd hi]
  exact ⟨rfl, rfl⟩
end
section
variable {P : Program} {ops : Array Oper} {md : Region.Mode} {Q : Exit → Act → World → Prop} {B : Nat} {w0 : World}
/-- In every class the operation yields u, or something that comes to the same frame. -/
def CalmAt (P : Program) (ops : Array Oper) (B : Nat) (w0 : World) (o : Oper) (u : Value) (a : Act) : Prop :=
  if Region.wanted o (yielded ops a.tmps) = true then ∀ K : Cls B w0, (∃ w, K.C w) → ∃ v, (∀ b : Act, b.tmps.size = a.tmps.size → b.put o.dst v = b.put o.dst u) ∧ ∀ w, K.C w → o.quietAt P a K.C w v
  else ∀ b : Act, b.tmps.size = a.tmps.size → b.put o.dst undef = b.put o.dst u
theorem CalmAt.of_same {o : Oper} {u : Value} {a a' : Act} (h : CalmAt P ops B w0 o u a) (he : execOp a'.eval o = execOp a.eval o) (hw : Region.wanted o (yielded ops a'.tmps) = Region.wanted o (yielded ops a.tmps)) (hs : a'.tmps.size = a.tmps.size) : CalmAt P ops B w0 o u a' := by
  unfold CalmAt Oper.quietAt at *
  rw [he, hw, hs]
  exact h
theorem put_size (a : Act) (d : Option Tmp) (v : Value) : (a.put d v).tmps.size = a.tmps.size := by
  cases d <;> simp [Act.put]
/-- Running it in a class. -/
theorem CalmAt.wpOp {i : Nat} {o : Oper} {u : Value} {a : Act} {w : World} {J : Act → World → Prop} (hi : ops[i]? = some o) (h : CalmAt P ops B w0 o u a) (K : Cls B w0) (hw : K.C w) (hJ : ∀ w', K.C w' → J (a.put o.dst u) w') : wpOp P ops Q i J a w := by
  unfold Go.wpOp
  simp only [hi]
  unfold CalmAt at h
  split
  · rename_i hwt
    rw [if_pos hwt] at h
    obtain ⟨v, hv, hq⟩ := h K ⟨w, hw⟩
    left
    have h1 := hq w hw
    unfold Oper.quietAt at h1
    unfold Oper.wp
    have e := hv a rfl
    generalize (execOp a.eval o).run P w = r at *
    cases r with
    | ok n w' =>
      cases n <;> simp only [Oper.quietUpon] at h1 <;> simp only [Oper.upon]
      case value z => obtain ⟨rfl, rfl⟩ := h1; rw [e]; exact hJ _ hw
      case skip => obtain ⟨rfl, rfl⟩ := h1; rw [e]; exact hJ _ hw
      case enter f args =>
        obtain ⟨rfl, hc⟩ := h1
        refine hc.mono fun x w'' ⟨hx, hw''⟩ => ?_
        subst hx
        show J (a.put o.dst v) w''
        rw [e]; exact hJ _ hw''
    | halt x w' => simp only [Oper.quietUpon] at h1
  · rename_i hwt
    rw [if_neg hwt] at h
    rw [h a rfl]; exact hJ _ hw
/-- The head's operations, in this order, come to this frame. -/
def calmRun (P : Program) (ops : Array Oper) (B : Nat) (w0 : World) (aend : Act) : List Nat → Act → Prop
  | [], a => a = aend
  | i :: l, a => ∃ o u, ops[i]? = some o ∧ CalmAt P ops B w0 o u a ∧ calmRun P ops B w0 aend l (a.put o.dst u)
theorem calmRun_take {aend : Act} {j : Nat} {oj : Oper} (hj : ops[j]? = some oj) (hsel : ∀ (k : Nat) (o : Oper) cs b, ops[k]? = some o → o.op ≠ .select cs b) :
    ∀ (l : List Nat) (a : Act), j ∈ l → l.Nodup → (∀ i oi, i ∈ l → ops[i]? = some oi → i ≠ j → (∃ l1 l2, l = l1 ++ j :: l2 ∧ i ∈ l1) → oi.apart ops oj = true) → calmRun P ops B w0 aend l a →
      ∃ u, CalmAt P ops B w0 oj u a ∧ calmRun P ops B w0 aend (l.erase j) (a.put oj.dst u) := by
  intro l
  induction l with
  | nil => intro a hm; cases hm
  | cons i l ih =>
    intro a hm hn hap h
    obtain ⟨o, u, ho, hc, hr⟩ := h
    by_cases hij : i = j
    · subst hij
      rw [hj] at ho
      obtain rfl := Option.some.inj ho
      exact ⟨u, hc, by rw [List.erase_cons_head]; exact hr⟩
    · have hml : j ∈ l := (List.mem_cons.1 hm).resolve_left fun e => hij e.symm
      obtain ⟨l1, l2, hl⟩ := List.append_of_mem hml
      have hapi := hap i o List.mem_cons_self ho hij ⟨i :: l1, l2, by rw [hl]; rfl, List.mem_cons_self⟩
      obtain ⟨uj, h1, h2⟩ := ih (a.put o.dst u) hml (List.nodup_cons.1 hn).2 (fun k ok hk hok hkj ⟨m1, m2, e, hkm⟩ => hap k ok (List.mem_cons_of_mem _ hk) hok hkj ⟨i :: m1, m2, by rw [e]; rfl, List.mem_cons_of_mem _ hkm⟩) hr
      obtain ⟨p1, p2, p3⟩ := Oper.apart_spec hapi
      rw [List.erase_cons_tail (by simpa using hij)]
      refine ⟨uj, h1.of_same (execOp_put oj (fun cs b => hsel j oj cs b hj) a o.dst u p1).symm (wanted_put oj a o.dst u p1).symm (put_size _ _ _).symm, o, u, ho, hc.of_same (execOp_put o (fun cs b => hsel i o cs b ho) a oj.dst uj p3) (wanted_put o a oj.dst uj p3) (put_size _ _ _), ?_⟩
      rw [← Act.put_comm a u uj p2]; exact h2
/-- The class with a block made anew. -/
def Cls.withRow (K : Cls B w0) (b : Nat) (zs : List Value) (T : TypeId) : Cls B w0 where
  C w' := K.C w' ∧ w'.row b zs T
  sub w' h := K.sub w' h.1
  ext _ _ h hb := ⟨K.ext _ _ h.1 hb, h.2.below hb h.2.lt⟩
def Cls.all (B : Nat) (w : World) : Cls B w where
  C w' := Below B w w' ∧ B ≤ w'.heap.size
  sub _ h := h
  ext _ _ h hb := ⟨h.1.trans (hb.mono h.2), Nat.le_trans h.2 hb.size⟩
theorem run_alloc_row {o : Oper} {a : Act} {w : World} {T : TypeId} (ho : o.op = .alloc T) {z : Value} {zs : List Value} (hz : (P.info? T).map (·.zero) = some (some z)) (hzs : z.cells = zs.toArray) :
    (execOp a.eval o).run P w = .ok (.value (.pointer (some ⟨w.heap.size, 0, none⟩))) (w.alloc (.cells zs.toArray T)) := by
  cases hi : P.info? T with
  | none => rw [hi] at hz; cases hz
  | some i =>
    rw [hi] at hz
    have hz2 : i.zero = some z := by simpa using hz
    unfold execOp
    simp only [ho, Instr.alloc, zeroValue, typeInfo, newVar, newRow, newObj, Sem.run_bind, Sem.run_pure]
    simp [hi, hz2, hzs]
    rfl
def headDone (n m : Nat) : Array Bool := (List.replicate n true ++ List.replicate m false).toArray
/-- What is looked up in the region's text: the head (numbers below n), fresh variables F in it, the tail behind all. -/
def Region.calmB (md : Region.Mode) (ops : Array Oper) (n : Nat) (F : List Nat) : Bool :=
  Region.noSelect ops && decide (n < ops.size) && decide F.Nodup && decide (F ≠ []) &&
  (F.all fun f => decide (f < n) && (match ops[f]? with | some o => o.guard.isNone && o.after.all (fun e => !Region.binds md e) | none => false)) &&
  ((List.range n).all fun j => (List.range j).all fun i => F.contains i || F.contains j || Region.waitB md ops j i || (match ops[i]?, ops[j]? with | some oi, some oj => oi.apart ops oj | _, _ => true)) &&
  (F.all fun f => (List.range n).all fun j => j == f || (match ops[f]?, ops[j]? with | some oi, some oj => oi.apart ops oj | _, _ => true)) &&
  ((List.range n).all fun j => match ops[j]? with | some oj => oj.after.all (fun e => !Region.binds md e || decide (e.on < j)) | none => true) &&
  Region.sinkB md ops n && Region.chainB md ops n &&
  Region.seqB md ops (ops.size - n) n (headDone n (ops.size - n))
abbrev VarSpec := Nat → TypeId × List Value
/-- The variables made, each with its block: put into the frame; what they hold. -/
def putAll (ops : Array Oper) : List (Nat × Nat) → Act → Act
  | [], a => a
  | (f, b) :: D, a => (putAll ops D a).put ((ops[f]?).bind (·.dst)) (.pointer (some ⟨b, 0, none⟩))
def Cls.withRows (K : Cls B w0) (sp : VarSpec) (D : List (Nat × Nat)) : Cls B w0 where
  C w' := K.C w' ∧ ∀ x ∈ D, w'.row x.2 (sp x.1).2 (sp x.1).1
  sub w' h := K.sub w' h.1
  ext _ _ h hb := ⟨K.ext _ _ h.1 hb, fun x hx => (h.2 x hx).below hb (h.2 x hx).lt⟩
structure CalmInv (md : Region.Mode) (ops : Array Oper) (n : Nat) (F : List Nat) (listed : Array Bool) (l r : List Nat) (D : List (Nat × Nat)) (B : Nat) : Prop where
  head : HeadInv md ops n listed
  mem : ∀ j, j < n → (listed.getD j true = false ↔ j ∈ l ∨ j ∈ r)
  low : ∀ j ∈ l, j < n ∧ j ∉ F
  asc : l.Pairwise (· < ·)
  perm : (D.map Prod.fst ++ r).Perm F
  far : ∀ x ∈ D, B ≤ x.2
  dist : (D.map Prod.snd).Nodup
variable {n : Nat} {F : List Nat} {listed : Array Bool} {l r : List Nat} {D : List (Nat × Nat)}
theorem CalmInv.inF (h : CalmInv md ops n F listed l r D B) {f : Nat} (hf : f ∈ r) : f ∈ F := h.perm.mem_iff.1 (List.mem_append.2 (.inr hf))
theorem CalmInv.doneF (h : CalmInv md ops n F listed l r D B) {x : Nat × Nat} (hx : x ∈ D) : x.1 ∈ F := h.perm.mem_iff.1 (List.mem_append.2 (.inl (List.mem_map.2 ⟨x, hx, rfl⟩)))
theorem CalmInv.set (h : CalmInv md ops n F listed l r D B) {j : Nat} (hj : j ∈ Region.ready md ops listed) (hjn : j < n) (hjl : j ∈ l) : CalmInv md ops n F (listed.setIfInBounds j true) (l.erase j) r D B := by
  have hnd : l.Nodup := h.asc.imp fun h => Nat.ne_of_lt h
  refine ⟨h.head.set hj hjn, fun k hk => ?_, fun k hk => h.low k (List.mem_of_mem_erase hk), h.asc.sublist List.erase_sublist, h.perm, h.far, h.dist⟩
  by_cases hkj : j = k
  · subst hkj
    have hlt := getD_true_lt (mem_ready.1 hj).1
    have h1 : (listed.setIfInBounds j true).getD j true = true := by simp [hlt]
    rw [h1]
    constructor
    · intro h; cases h
    · rintro (hm | e)
      · exact absurd hm (by rw [List.Nodup.mem_erase_iff hnd]; simp)
      · exact absurd (h.inF e) (h.low j hjl).2
  · rw [getD_set_ne true hkj, h.mem k hk, List.mem_erase_of_ne (Ne.symm hkj)]
theorem CalmInv.setF (h : CalmInv md ops n F listed l r D B) (hF : F.Nodup) {f b : Nat} (hf : f ∈ Region.ready md ops listed) (hfn : f < n) (hfr : f ∈ r) (hb : B ≤ b) (hd : ∀ x ∈ D, x.2 ≠ b) : CalmInv md ops n F (listed.setIfInBounds f true) l (r.erase f) ((f, b) :: D) B := by
  have hnd : r.Nodup := ((h.perm.nodup_iff.2 hF).sublist (List.sublist_append_right _ _))
  refine ⟨h.head.set hf hfn, fun k hk => ?_, h.low, h.asc, ?_, ?_, ?_⟩
  · by_cases hkj : f = k
    · subst hkj
      have hlt := getD_true_lt (mem_ready.1 hf).1
      have h1 : (listed.setIfInBounds f true).getD f true = true := by simp [hlt]
      rw [h1]
      constructor
      · intro h; cases h
      · rintro (hm | hm)
        · exact absurd (h.inF hfr) (h.low f hm).2
        · exact absurd hm (by rw [List.Nodup.mem_erase_iff hnd]; simp)
    · rw [getD_set_ne true hkj, h.mem k hk, List.mem_erase_of_ne (Ne.symm hkj)]
  · have h1 : ((f :: D.map Prod.fst) ++ r.erase f).Perm (D.map Prod.fst ++ r) := by
      rw [List.cons_append]
      exact (List.perm_middle.symm).trans ((List.perm_cons_erase hfr).symm.append_left _)
    exact h1.trans h.perm
  · intro x hx
    rcases List.mem_cons.1 hx with rfl | hx
    · exact hb
    · exact h.far x hx
  · rw [List.map_cons, List.nodup_cons]
    refine ⟨fun hm => ?_, h.dist⟩
    obtain ⟨x, hx, e⟩ := List.mem_map.1 hm
    exact hd x hx e
theorem CalmInv.done (h : CalmInv md ops n F listed [] [] D B) (hn : n < ops.size) : listed = headDone n (ops.size - n) := by
  apply Array.ext
  · rw [h.head.size]; simp [headDone]; omega
  · intro i h1 h2
    have hi : i < ops.size := h.head.size ▸ h1
    by_cases hin : i < n
    · have h3 : listed.getD i false = true := getD_of_not h1 fun h4 => by
        rcases (h.mem i hin).1 h4 with h5 | h5
        · cases h5
        · cases h5
      have h4 : listed[i] = true := by simpa [h1] using h3
      rw [h4]
      simp [headDone, hin]
    · have h3 := h.head.tail i (by omega) hi
      have h4 : listed[i] = false := by simpa [h1] using h3
      rw [h4]
      simp [headDone, List.getElem_append, hin]
theorem putAll_size (D : List (Nat × Nat)) (a : Act) : (putAll ops D a).tmps.size = a.tmps.size := by
  induction D with
  | nil => rfl
  | cons x D ih => obtain ⟨f, b⟩ := x; exact (put_size _ _ _).trans ih
/-- An operation that is apart from all of them. -/
theorem putAll_calm {o : Oper} {u : Value} (hsel : ∀ cs b, o.op ≠ .select cs b) : ∀ (D : List (Nat × Nat)) (a : Act), (∀ x ∈ D, ∃ of, ops[x.1]? = some of ∧ of.apart ops o = true) → CalmAt P ops B w0 o u a → CalmAt P ops B w0 o u (putAll ops D a) ∧ (putAll ops D a).put o.dst u = putAll ops D (a.put o.dst u)
  | [], _, _, h => ⟨h, rfl⟩
  | (f, b) :: D, a, hap, h => by
    obtain ⟨of, hof, hp⟩ := hap (f, b) List.mem_cons_self
    obtain ⟨p1, p2, _⟩ := Oper.apart_spec hp
    obtain ⟨h1, h2⟩ := putAll_calm hsel D a (fun x hx => hap x (List.mem_cons_of_mem _ hx)) h
    have e : (ops[f]?).bind (·.dst) = of.dst := by simp only at hof; rw [hof]; rfl
    unfold putAll
    rw [e]
    refine ⟨h1.of_same (execOp_put o hsel _ of.dst _ p1) (wanted_put o _ of.dst _ p1) (put_size _ _ _), ?_⟩
    rw [Act.put_comm _ _ u p2, h2]
theorem putAll_perm {D D' : List (Nat × Nat)} (hp : D.Perm D') (a : Act) (hd : ∀ x ∈ D, ∀ y ∈ D, x.1 ≠ y.1 → ∀ d, (ops[x.1]?).bind (·.dst) = some d → (ops[y.1]?).bind (·.dst) ≠ some d) (hn : (D.map Prod.fst).Nodup) : putAll ops D a = putAll ops D' a := by
  induction hp with
  | nil => rfl
  | cons x _ ih =>
    obtain ⟨f, b⟩ := x
    unfold putAll
    rw [ih (fun x hx y hy => hd x (List.mem_cons_of_mem _ hx) y (List.mem_cons_of_mem _ hy)) (List.nodup_cons.1 hn).2]
  | swap x y l =>
    obtain ⟨f, b⟩ := x
    obtain ⟨g, c⟩ := y
    have hne : g ≠ f := fun e => by
      subst e
      simp at hn
    show ((putAll ops l a).put _ _).put _ _ = ((putAll ops l a).put _ _).put _ _
    exact Act.put_comm _ _ _ fun d hd1 => hd (f, b) (by simp) (g, c) (by simp) (Ne.symm hne) d hd1
  | trans h1 _ ih1 ih2 =>
    have hn2 := (h1.map Prod.fst).nodup_iff.1 hn
    rw [ih1 hd hn, ih2 (fun x hx y hy => hd x (h1.mem_iff.2 hx) y (h1.mem_iff.2 hy)) hn2]
theorem calm_any {aend : Act} {sp : VarSpec} (hB : Region.calmB md ops n F = true) (hop : ∀ f ∈ F, ∃ of, ops[f]? = some of ∧ of.op = .alloc (sp f).1 ∧ ∃ z, (P.info? (sp f).1).map (·.zero) = some (some z) ∧ z.cells = (sp f).2.toArray)
    (rest : List Oper) (hrest : ∀ j, rest[j]? = ops[n + j]?) (hrl : rest.length = ops.size - n)
    (ht : ∀ (bs : Nat → Nat) w', Below B w0 w' → (∀ f ∈ F, B ≤ bs f ∧ w'.row (bs f) (sp f).2 (sp f).1) → (F.map bs).Nodup → wpList P ops Q rest (putAll ops (F.map fun f => (f, bs f)) aend) w') :
    ∀ (m : Nat) (l r : List Nat), l.length + r.length = m → ∀ (D : List (Nat × Nat)) (listed : Array Bool) (a : Act) (w : World), calmRun P ops B w0 aend l a → CalmInv md ops n F listed l r D B → ((Cls.all B w0).withRows sp D).C w →
      wpAny P md ops Q (m + (ops.size - n)) listed (putAll ops D a) w := by
  simp only [Region.calmB, Bool.and_eq_true, List.all_eq_true, List.mem_range, decide_eq_true_eq] at hB
  obtain ⟨⟨⟨⟨⟨⟨⟨⟨⟨⟨hsel, hn⟩, hFnd⟩, _⟩, hFok⟩, hpair⟩, hfree⟩, hback⟩, hsink⟩, hchain⟩, hseq⟩ := hB
  have nosel := Region.noSelect_spec hsel
  have pair : ∀ j oj, j < n → j ∉ F → ops[j]? = some oj → ∀ i oi, i ∉ F → ops[i]? = some oi → i < j → (∀ e ∈ oj.after, Region.binds md e = true → e.on ≠ i) → oi.apart ops oj = true := fun j oj hjn hjF hj i oi hiF hi hij hno => by
    have h1 := hpair j hjn i hij
    simp only [Bool.or_eq_true, List.contains_eq_mem, decide_eq_true_eq] at h1
    rcases h1 with ((h1 | h1) | h1) | h1
    · exact absurd h1 hiF
    · exact absurd h1 hjF
    · obtain ⟨o, ho, e, he, hb, hon⟩ := Region.waitB_spec h1
      rw [hj] at ho
      obtain rfl := Option.some.inj ho
      exact absurd hon (hno e he hb)
    · simpa [hi, hj] using h1
  have ffree : ∀ f ∈ F, ∀ of, ops[f]? = some of → ∀ j oj, j < n → j ≠ f → ops[j]? = some oj → of.apart ops oj = true := fun f hf of hof j oj hjn hjf hj => by
    have h1 := hfree f hf j hjn
    rw [Bool.or_eq_true] at h1
    rcases h1 with h1 | h1
    · exact absurd (by simpa using h1) hjf
    · rw [hof, hj] at h1
      exact h1
  have before : ∀ (l : List Nat) (j : Nat), l.Pairwise (· < ·) → ∀ k, (∃ l1 l2, l = l1 ++ j :: l2 ∧ k ∈ l1) → k < j := fun l j ha k ⟨l1, l2, e, hk⟩ => by
    rw [e] at ha
    exact (List.pairwise_append.1 ha).2.2 k hk j List.mem_cons_self
  have un : ∀ (listed : Array Bool) (j : Nat) (oj : Oper), ops[j]? = some oj → j ∈ Region.ready md ops listed → ∀ k, listed.getD k true = false → ∀ e ∈ oj.after, Region.binds md e = true → e.on ≠ k := fun listed j oj hoj hj k hk e he hb hon => by
    obtain ⟨_, o2, ho2, hall⟩ := mem_ready.1 hj
    rw [hoj] at ho2
    obtain rfl := Option.some.inj ho2
    have h1 := hall e he hb
    rw [hon, getD_un hk] at h1; cases h1
  intro m
  induction m with
  | zero =>
    intro l r hl D listed a w hrun inv hC
    obtain rfl : l = [] := List.length_eq_zero_iff.1 (by omega)
    obtain rfl : r = [] := List.length_eq_zero_iff.1 (by omega)
    obtain rfl : a = aend := hrun
    rw [Nat.zero_add, ← hrl]
    -- the blocks by their variables
    have hDn : (D.map Prod.fst).Nodup := by have := inv.perm.nodup_iff.2 hFnd; rwa [List.append_nil] at this
    have hDp : (D.map Prod.fst).Perm F := by have := inv.perm; rwa [List.append_nil] at this
    obtain ⟨bs, hbs⟩ : ∃ bs : Nat → Nat, ∀ x ∈ D, bs x.1 = x.2 := by
      refine ⟨fun f => ((D.find? fun x => x.1 == f).map Prod.snd).getD 0, fun x hx => ?_⟩
      cases hf : D.find? (fun y => y.1 == x.1) with
      | none => exact absurd (List.find?_eq_none.1 hf x hx) (by simp)
      | some y =>
        have h1 := List.find?_some hf
        have h2 := List.mem_of_find?_eq_some hf
        have h3 : y.1 = x.1 := by simpa using h1
        obtain ⟨i, hi, ei⟩ := List.getElem_of_mem h2
        obtain ⟨k, hk, ek⟩ := List.getElem_of_mem hx
        have h4 : (D.map Prod.fst)[i]'(by simpa using hi) = (D.map Prod.fst)[k]'(by simpa using hk) := by simp [ei, ek, h3]
        have h5 := (List.getElem_inj hDn).1 h4
        subst h5
        rw [ei] at ek
        simp [hf, ek]
    have hDe : D = (D.map Prod.fst).map fun f => (f, bs f) := by
      rw [List.map_map]
      conv => lhs; rw [← List.map_id D]
      refine List.map_congr_left fun x hx => ?_
      show x = (x.1, bs x.1)
      rw [hbs x hx]
    have hperm : D.Perm (F.map fun f => (f, bs f)) := by
      conv => lhs; rw [hDe]
      exact hDp.map _
    have hdst : ∀ x ∈ D, ∀ y ∈ D, x.1 ≠ y.1 → ∀ d, (ops[x.1]?).bind (·.dst) = some d → (ops[y.1]?).bind (·.dst) ≠ some d := fun x hx y hy hne d hd1 hd2 => by
      have hxF := inv.doneF hx
      have hyF := inv.doneF hy
      obtain ⟨ox, hox, _⟩ := hop _ hxF
      obtain ⟨oy, hoy, _⟩ := hop _ hyF
      have hyn : y.1 < n := (hFok _ hyF).1
      have h1 := ffree _ hxF ox hox _ oy hyn (Ne.symm hne) hoy
      obtain ⟨_, p2, _⟩ := Oper.apart_spec h1
      rw [hox] at hd1; rw [hoy] at hd2
      exact p2 d hd1 hd2
    rw [putAll_perm hperm a hdst hDn]
    refine wpAny_of_seq rest n listed _ w hrest ?_ (ht bs w hC.1.1 (fun f hf => ?_) ?_)
    · rw [inv.done hn, hrl]; exact hseq
    · obtain ⟨x, hx, rfl⟩ := List.mem_map.1 (hDp.mem_iff.2 hf)
      rw [hbs x hx]
      exact ⟨inv.far x hx, hC.2 x hx⟩
    · have h1 : (D.map Prod.snd) = (D.map Prod.fst).map bs := by
        rw [List.map_map]
        exact List.map_congr_left fun x hx => (hbs x hx).symm
      have h2 := inv.dist
      rw [h1] at h2
      exact (hDp.map bs).nodup_iff.1 h2
  | succ m ih =>
    intro l r hl D listed a w hrun inv hC
    have Fn : ∀ f ∈ F, f < n := fun f hf => (hFok f hf).1
    -- one that may come up
    obtain ⟨i, hin, hiun, hri⟩ : ∃ i, i < n ∧ listed.getD i true = false ∧ i ∈ Region.ready md ops listed := by
      cases r with
      | cons f r' =>
        have hf := inv.inF (f := f) List.mem_cons_self
        obtain ⟨of, hof, _⟩ := hop f hf
        have hun := (inv.mem f (Fn f hf)).2 (.inr List.mem_cons_self)
        refine ⟨f, Fn f hf, hun, mem_ready.2 ⟨hun, of, hof, fun e he hb => ?_⟩⟩
        have h1 := hFok f hf
        rw [hof] at h1
        simp only [Bool.and_eq_true] at h1
        have h2 := Array.all_eq_true_iff_forall_mem.1 h1.2.2 e he
        rw [hb] at h2; cases h2
      | nil =>
        obtain ⟨i, l', hll⟩ : ∃ i l', l = i :: l' := by
          cases l with
          | nil => simp at hl
          | cons i l' => exact ⟨i, l', rfl⟩
        have hil : i ∈ l := by rw [hll]; exact List.mem_cons_self
        have hin := (inv.low i hil).1
        have hiun := (inv.mem i hin).2 (.inl hil)
        have hoi : ops[i]? = some ops[i] := Array.getElem?_eq_getElem (by omega)
        refine ⟨i, hin, hiun, mem_ready.2 ⟨hiun, _, hoi, fun e he hbd => ?_⟩⟩
        have h1 := hback i hin
        rw [hoi] at h1
        have h2 := Array.all_eq_true_iff_forall_mem.1 h1 e he
        rw [hbd] at h2
        have h3 : e.on < i := by simpa using h2
        refine getD_of_not (by rw [inv.head.size]; omega) fun h4 => ?_
        rcases (inv.mem e.on (by omega)).1 h4 with h5 | h5
        · have ha := inv.asc
          rw [hll] at h5 ha
          rcases List.mem_cons.1 h5 with h6 | h6
          · omega
          · have := (List.pairwise_cons.1 ha).1 _ h6; omega
        · cases h5
    rw [show m + 1 + (ops.size - n) = (m + (ops.size - n)) + 1 by omega]
    refine ⟨fun h0 => (by rw [h0] at hri; cases hri), fun j hj => ?_⟩
    have hjn : j < n := Nat.lt_of_not_le fun h => tail_waits hsink hchain hn inv.head _ i rfl hin hiun j h hj
    obtain ⟨_, oj, hoj, _⟩ := mem_ready.1 hj
    rcases (inv.mem j hjn).1 (mem_ready.1 hj).1 with hjl | hjr
    · -- an operation of the head
      have hjF := (inv.low j hjl).2
      obtain ⟨u, hu, hrun'⟩ := calmRun_take hoj nosel l a hjl (inv.asc.imp fun h => Nat.ne_of_lt h) (fun k ok hk hok _ hb => pair j oj hjn hjF hoj k ok (inv.low k hk).2 hok (before l j inv.asc k hb) (un listed j oj hoj hj k ((inv.mem k (inv.low k hk).1).2 (.inl hk)))) hrun
      obtain ⟨h1, h2⟩ := putAll_calm (P := P) (B := B) (w0 := w0) (fun cs b => nosel j oj cs b hoj) D a (fun x hx => by
        have hxF := inv.doneF hx
        obtain ⟨ox, hox, _⟩ := hop _ hxF
        exact ⟨ox, hox, ffree _ hxF ox hox j oj hjn (fun e => hjF (e ▸ hxF)) hoj⟩) hu
      refine h1.wpOp hoj ((Cls.all B w0).withRows sp D) hC fun w' hC' => ?_
      rw [h2]
      exact ih (l.erase j) r (by have := List.length_erase_of_mem hjl; have := List.length_pos_of_mem hjl; omega) D _ _ w' hrun' (inv.set hj hjn hjl) hC'
    · -- a variable is made
      have hjF := inv.inF hjr
      obtain ⟨of, hof, hopf, z, hz, hzs⟩ := hop j hjF
      have fwant : ∀ a : Act, Region.wanted of (yielded ops a.tmps) = true := fun a => by
        have h1 := hFok j hjF
        rw [hof] at h1
        simp only [Bool.and_eq_true] at h1
        unfold Region.wanted
        cases hg : of.guard with
        | none => rfl
        | some x => rw [hg] at h1; cases h1.2.1
      have e : (ops[j]?).bind (·.dst) = of.dst := by rw [hof]; rfl
      unfold wpOp
      simp only [hof, fwant]
      left
      unfold Oper.wp
      rw [run_alloc_row hopf hz hzs]
      show wpAny P md ops Q (m + (ops.size - n)) (listed.setIfInBounds j true) ((putAll ops D a).put of.dst _) (w.alloc _)
      have h3 := ih l (r.erase j) (by have := List.length_erase_of_mem hjr; have := List.length_pos_of_mem hjr; omega) ((j, w.heap.size) :: D) (listed.setIfInBounds j true) a (w.alloc (.cells (sp j).2.toArray (sp j).1)) hrun
        (inv.setF hFnd hj hjn hjr hC.1.2 fun x hx => by have := (hC.2 x hx).lt; omega) ⟨(Cls.all B w0).ext _ _ hC.1 ((Below.refl _ _).alloc (Nat.le_refl _) _), fun x hx => by
          rcases List.mem_cons.1 hx with rfl | hx
          · exact World.row.new _ _ _
          · exact (hC.2 x hx).alloc _⟩
      unfold putAll at h3
      rw [e] at h3
      exact h3
theorem getElem_put_ne (a : Act) {d e : Nat} (v : Value) (h : d ≠ e) : (a.put (some d) v).tmps[e]? = a.tmps[e]? := by simp [Act.put, Array.getElem?_setIfInBounds_ne h]
theorem getElem_put_self (a : Act) {d : Nat} (v : Value) (h : d < a.tmps.size) : (a.put (some d) v).tmps[d]? = some v := by simp [Act.put, h]
theorem wpQuiet_keep {C : World → Prop} {aend : Act} {d : Nat} : ∀ (l : List Oper) (a : Act), wpQuiet P ops C (fun a' => a' = aend) l a → (∀ o ∈ l, o.dst ≠ some d) → aend.tmps[d]? = a.tmps[d]? := by
  intro l
  induction l with
  | nil => intro a h _; rw [show a = aend from h]
  | cons o l ih =>
    intro a h hn
    have hne := hn o List.mem_cons_self
    have hput : ∀ v, (a.put o.dst v).tmps[d]? = a.tmps[d]? := fun v => by
      cases hd : o.dst with
      | none => rfl
      | some e => exact getElem_put_ne a v (fun e2 => hne (by rw [hd, e2]))
    unfold wpQuiet at h
    split at h
    · obtain ⟨v, _, h⟩ := h
      exact (ih _ h fun o ho => hn o (List.mem_cons_of_mem _ ho)).trans (hput v)
    · exact (ih _ h fun o ho => hn o (List.mem_cons_of_mem _ ho)).trans (hput undef)
/-- From the walk, over every class, to one frame: values that don't hang on the class. -/
theorem wpQuiet_det (hB : B ≤ w0.heap.size) {aend : Act} : ∀ (l : List (Nat × Oper)) (a : Act), (∀ x ∈ l, ops[x.1]? = some x.2) → (l.map fun x => x.2.dst).Nodup → (∀ K : Cls B w0, (∃ w, K.C w) → wpQuiet P ops K.C (fun a' => a' = aend) (l.map Prod.snd) a) → calmRun P ops B w0 aend (l.map Prod.fst) a := by
  intro l
  induction l with
  | nil => intro a _ _ h; exact h (Cls.all B w0) ⟨w0, Below.refl _ _, hB⟩
  | cons x l ih =>
    obtain ⟨i, o⟩ := x
    intro a hops hnd h
    rw [List.map_cons, List.nodup_cons] at hnd
    have hno : ∀ d, o.dst = some d → ∀ o' ∈ l.map Prod.snd, o'.dst ≠ some d := fun d hd o' ho' e => by
      obtain ⟨y, hy, rfl⟩ := List.mem_map.1 ho'
      exact hnd.1 (List.mem_map.2 ⟨y, hy, by rw [e]; exact hd.symm⟩)
    -- what stands in its slot at the end
    obtain ⟨u, hu⟩ : ∃ u, u = (match o.dst with | some d => (aend.tmps[d]?).getD undef | none => undef) := ⟨_, rfl⟩
    have same : ∀ (C : World → Prop) (v : Value), wpQuiet P ops C (fun a' => a' = aend) (l.map Prod.snd) (a.put o.dst v) → ∀ b : Act, b.tmps.size = a.tmps.size → b.put o.dst v = b.put o.dst u := fun C v hq b hb => by
      cases hd : o.dst with
      | none => rfl
      | some d =>
        rw [hd] at hu hq
        have h1 := wpQuiet_keep _ _ hq (hno d hd)
        have hu2 : u = (aend.tmps[d]?).getD undef := hu
        by_cases hlt : d < a.tmps.size
        · rw [getElem_put_self a v hlt] at h1
          rw [h1] at hu2
          rw [hu2]; rfl
        · have : ∀ z, b.put (some d) z = b := fun z => by
            simp only [Act.put]
            rw [Array.setIfInBounds, dif_neg (by rw [hb]; exact hlt)]
          rw [this, this]
    have step : CalmAt P ops B w0 o u a := by
      unfold CalmAt
      split
      · rename_i hw
        intro K hK
        have h1 := h K hK
        rw [List.map_cons] at h1
        unfold wpQuiet at h1
        rw [if_pos hw] at h1
        obtain ⟨v, hv, hr⟩ := h1
        exact ⟨v, same _ v hr, hv⟩
      · rename_i hw
        have h1 := h (Cls.all B w0) ⟨w0, Below.refl _ _, hB⟩
        rw [List.map_cons] at h1
        unfold wpQuiet at h1
        rw [if_neg hw] at h1
        exact same _ undef h1
    refine ⟨o, u, hops _ List.mem_cons_self, step, ih _ (fun y hy => hops y (List.mem_cons_of_mem _ hy)) hnd.2 fun K hK => ?_⟩
    have h1 := h K hK
    rw [List.map_cons] at h1
    unfold wpQuiet at h1
    split at h1
    · obtain ⟨v, _, hr⟩ := h1
      rw [← same _ v hr a rfl]; exact hr
    · rw [← same _ undef h1 a rfl]; exact h1
end
theorem map_eraseIdx {α β : Type} (g : α → β) : ∀ (l : List α) (i : Nat), (l.eraseIdx i).map g = (l.map g).eraseIdx i
  | [], _ => rfl
  | _ :: _, 0 => rfl
  | _ :: l, i + 1 => by simp [List.eraseIdx_cons_succ, map_eraseIdx g l i]
def dstsB (l : List Oper) : Bool := decide ((l.map (·.dst)).Nodup)
/-- THE RULE: n operations of head, the variables F made in it, and the tail. -/
theorem wp_region_calms {P : Program} {id : Nat} {Q : Exit → Act → World → Prop} {a : Act} {w : World} {l : List Oper} (n B : Nat) (F : List Nat) (sp : VarSpec) (hd : List Oper)
    (hB : B ≤ w.heap.size) (hm : P.follows .mixedOrders = true) (hb : Region.calmB .any l.toArray n F = true) (hhd : (((l.take n).zipIdx.filter fun x => !F.contains x.2).map Prod.fst) = hd) (hnd : dstsB hd = true)
    (hop : ∀ f ∈ F, ∃ of, l[f]? = some of ∧ of.op = .alloc (sp f).1 ∧ ∃ z, (P.info? (sp f).1).map (·.zero) = some (some z) ∧ z.cells = (sp f).2.toArray)
    (hw : ∃ aend : Act, (∀ K : Cls B w, Inhabited (ClsW K) → wpQuiet P l.toArray (fun w' => ∃ x : ClsW K, w' = World.cl K x) (fun a' => a' = aend) hd a) ∧
      ∀ (bs : Nat → Nat) w', Below B w w' → (∀ f ∈ F, B ≤ bs f ∧ w'.row (bs f) (sp f).2 (sp f).1) → (F.map bs).Nodup → wpList P l.toArray Q (l.drop n) (putAll l.toArray (F.map fun f => (f, bs f)) aend) w') : (Code.region id l.toArray true).wp P Q a w := by
  obtain ⟨aend, hw, ht⟩ := hw
  have hb' := hb
  simp only [Region.calmB, Bool.and_eq_true, decide_eq_true_eq, List.all_eq_true] at hb'
  have hn : n < l.length := by simpa using hb'.1.1.1.1.1.1.1.1.1.2
  have hFnd : F.Nodup := hb'.1.1.1.1.1.1.1.1.2
  have hFn : ∀ f ∈ F, f < n := fun f hf => (hb'.1.1.1.1.1.1.2 f hf).1
  obtain ⟨ix, hix⟩ : ∃ ix, ix = (l.take n).zipIdx.filter (fun x => !F.contains x.2) := ⟨_, rfl⟩
  rw [← hix] at hhd
  have hsnd : (ix.map fun x => (x.2, x.1)).map Prod.snd = hd := by rw [List.map_map]; exact hhd
  have hfst : (ix.map fun x => (x.2, x.1)).map Prod.fst = (List.range n).filter fun j => !F.contains j := by
    rw [hix, List.map_map]
    have h1 : (l.take n).zipIdx.map Prod.snd = List.range n := by
      rw [List.zipIdx_map_snd]
      simp [List.range_eq_range', Nat.min_eq_left (Nat.le_of_lt hn)]
    rw [← h1, List.filter_map]
    rfl
  have hmem : ∀ j, j ∈ (List.range n).filter (fun j => !F.contains j) ↔ j < n ∧ j ∉ F := fun j => by
    rw [List.mem_filter, List.mem_range]
    simp
  have hrun : calmRun P l.toArray B w aend ((List.range n).filter fun j => !F.contains j) a := by
    rw [← hfst]
    refine wpQuiet_det hB _ _ (fun x hx => ?_) ?_ fun K hK => ?_
    · obtain ⟨y, hy, rfl⟩ := List.mem_map.1 hx
      rw [hix] at hy
      have h1 := List.mem_zipIdx_iff_getElem?.1 (List.mem_filter.1 hy).1
      rw [List.getElem?_take] at h1
      split at h1
      · simpa using h1
      · cases h1
    · have h1 : (((ix.map fun x => (x.2, x.1)).map Prod.snd).map (·.dst)).Nodup := by rw [hsnd]; exact of_decide_eq_true hnd
      rw [List.map_map] at h1
      exact h1
    · rw [hsnd]
      obtain ⟨w', hw'⟩ := hK
      have h1 := hw K ⟨⟨w', hw'⟩⟩
      have e : (fun w' => ∃ x : ClsW K, w' = World.cl K x) = K.C := funext fun w' => propext ⟨fun ⟨x, hx⟩ => hx ▸ x.mem, fun h => ⟨⟨w', h⟩, rfl⟩⟩
      rw [e] at h1
      exact h1
  refine wp_region_any hm ?_
  have hlen : ((List.range n).filter fun j => !F.contains j).length + F.length = n := by
    have h1 : ((List.range n).filter fun j => F.contains j).Perm F := by
      refine (List.perm_ext_iff_of_nodup (List.nodup_range.sublist List.filter_sublist) hFnd).2 fun j => ?_
      rw [List.mem_filter, List.mem_range]
      constructor
      · rintro ⟨_, h⟩; simpa using h
      · intro h; exact ⟨hFn j h, by simpa using h⟩
    have h2 := h1.length_eq
    have h3 : ∀ L : List Nat, (L.filter fun j => !F.contains j).length + (L.filter fun j => F.contains j).length = L.length := by
      intro L
      induction L with
      | nil => rfl
      | cons x L ih =>
        cases e : F.contains x <;> simp only [List.filter_cons, e, Bool.not_true, Bool.not_false, if_true, Bool.false_eq_true, if_false, List.length_cons] <;> omega
    have h4 := h3 (List.range n)
    rw [h2] at h4
    simpa using h4
  have H := calm_any (P := P) (Q := Q) (w0 := w) (B := B) (md := .any) (sp := sp) hb (fun f hf => by obtain ⟨of, h1, h2⟩ := hop f hf; exact ⟨of, by simpa using h1, h2⟩) (l.drop n) (fun j => by simp [List.getElem?_drop]) (by simp) ht n ((List.range n).filter fun j => !F.contains j) F hlen []
    (Array.replicate l.toArray.size false) a w.drew hrun ⟨⟨by simp, fun j oj _ hl => (by rw [getD_replicate_false] at hl; cases hl), fun t _ ht => getD_in (by simpa using ht) (getD_replicate_false _ _)⟩, fun j hj => ?_, fun j hj => (hmem j).1 hj, ?_, by simp, (fun x hx => by cases hx), by simp⟩ ⟨⟨(Below.refl _ _).drew, hB⟩, (fun x hx => by cases hx)⟩
  · rw [show n + (l.toArray.size - n) = l.toArray.size by simp; omega] at H
    exact H
  · have h1 : (Array.replicate l.toArray.size false).getD j true = false := getD_in (by simp; omega) (getD_replicate_false _ _)
    rw [h1, hmem]
    simp only [true_iff]
    by_cases e : j ∈ F
    · exact .inr e
    · exact .inl ⟨hj, e⟩
  · exact (List.pairwise_lt_range).sublist List.filter_sublist
theorem op_at {l : List Oper} {f : Nat} {T : TypeId} {d : Option Tmp} (hop : (l[f]?).map (fun o => (o.op, o.dst)) = some (.alloc T, d)) : ∃ of, l[f]? = some of ∧ of.op = .alloc T ∧ of.dst = d := by
  cases h : l[f]? with
  | none => rw [h] at hop; cases hop
  | some o => rw [h] at hop; simp at hop; exact ⟨o, rfl, hop.1, hop.2⟩
/-- One variable made. -/
theorem wp_region_calm {P : Program} {id : Nat} {Q : Exit → Act → World → Prop} {a : Act} {w : World} {l : List Oper} (n f B : Nat) {T : TypeId} {z : Value} (zs : List Value) {d : Option Tmp}
    (hB : B ≤ w.heap.size) (hm : P.follows .mixedOrders = true) (hb : Region.calmB .any l.toArray n [f] = true) (hhd : (((l.take n).zipIdx.filter fun x => ![f].contains x.2).map Prod.fst) = (l.take n).eraseIdx f) (hnd : dstsB ((l.take n).eraseIdx f) = true)
    (hop : (l[f]?).map (fun o => (o.op, o.dst)) = some (.alloc T, d)) (hz : (P.info? T).map (·.zero) = some (some z)) (hzs : z.cells = zs.toArray)
    (hw : ∃ aend : Act, (∀ K : Cls B w, Inhabited (ClsW K) → wpQuiet P l.toArray (fun w' => ∃ x : ClsW K, w' = World.cl K x) (fun a' => a' = aend) ((l.take n).eraseIdx f) a) ∧
      ∀ b w', Below B w w' → B ≤ b → w'.row b zs T → wpList P l.toArray Q (l.drop n) (aend.put d (.pointer (some ⟨b, 0, none⟩))) w') : (Code.region id l.toArray true).wp P Q a w := by
  obtain ⟨aend, hw, ht⟩ := hw
  obtain ⟨of, hof, hopf, hdf⟩ := op_at hop
  refine wp_region_calms n B [f] (fun _ => (T, zs)) _ hB hm hb hhd hnd (fun g hg => ?_) ⟨aend, hw, fun bs w' h1 h2 _ => ?_⟩
  · obtain rfl := List.mem_singleton.1 hg
    exact ⟨of, hof, hopf, z, hz, hzs⟩
  · have h3 := h2 f (by simp)
    have h4 := ht (bs f) w' h1 h3.1 h3.2
    have e : (l.toArray[f]?).bind (·.dst) = d := by rw [List.getElem?_toArray, hof]; exact hdf
    show wpList P l.toArray Q (l.drop n) (aend.put ((l.toArray[f]?).bind (·.dst)) _) w'
    rw [e]; exact h4
/-- Two variables made. -/
theorem wp_region_calm2 {P : Program} {id : Nat} {Q : Exit → Act → World → Prop} {a : Act} {w : World} {l : List Oper} (n f g B : Nat) {T U : TypeId} {z y : Value} (zs ys : List Value) {d e : Option Tmp}
    (hB : B ≤ w.heap.size) (hm : P.follows .mixedOrders = true) (hb : Region.calmB .any l.toArray n [f, g] = true) (hhd : (((l.take n).zipIdx.filter fun x => ![f, g].contains x.2).map Prod.fst) = ((l.take n).eraseIdx g).eraseIdx f) (hnd : dstsB (((l.take n).eraseIdx g).eraseIdx f) = true)
    (hop : (l[f]?).map (fun o => (o.op, o.dst)) = some (.alloc T, d)) (hop2 : (l[g]?).map (fun o => (o.op, o.dst)) = some (.alloc U, e)) (hz : (P.info? T).map (·.zero) = some (some z)) (hzs : z.cells = zs.toArray) (hy : (P.info? U).map (·.zero) = some (some y)) (hys : y.cells = ys.toArray)
    (hw : ∃ aend : Act, (∀ K : Cls B w, Inhabited (ClsW K) → wpQuiet P l.toArray (fun w' => ∃ x : ClsW K, w' = World.cl K x) (fun a' => a' = aend) (((l.take n).eraseIdx g).eraseIdx f) a) ∧
      ∀ b c w', Below B w w' → B ≤ b → B ≤ c → b ≠ c → w'.row b zs T → w'.row c ys U → wpList P l.toArray Q (l.drop n) ((aend.put e (.pointer (some ⟨c, 0, none⟩))).put d (.pointer (some ⟨b, 0, none⟩))) w') : (Code.region id l.toArray true).wp P Q a w := by
  obtain ⟨aend, hw, ht⟩ := hw
  obtain ⟨of, hof, hopf, hdf⟩ := op_at hop
  obtain ⟨og, hog, hopg, hdg⟩ := op_at hop2
  have hfg : f ≠ g := by
    simp only [Region.calmB, Bool.and_eq_true, decide_eq_true_eq] at hb
    have := hb.1.1.1.1.1.1.1.1.2
    simpa using this
  refine wp_region_calms n B [f, g] (fun k => if k = f then (T, zs) else (U, ys)) _ hB hm hb hhd hnd (fun k hk => ?_) ⟨aend, hw, fun bs w' h1 h2 h3 => ?_⟩
  · rcases List.mem_cons.1 hk with rfl | hk
    · rw [if_pos rfl]; exact ⟨of, hof, hopf, z, hz, hzs⟩
    · obtain rfl := List.mem_singleton.1 hk
      rw [if_neg (Ne.symm hfg)]; exact ⟨og, hog, hopg, y, hy, hys⟩
  · have k1 := h2 f (by simp)
    have k2 := h2 g (by simp)
    rw [if_pos rfl] at k1
    rw [if_neg (Ne.symm hfg)] at k2
    have h4 := ht (bs f) (bs g) w' h1 k1.1 k2.1 (by simpa using h3) k1.2 k2.2
    have e1 : (l.toArray[f]?).bind (·.dst) = d := by rw [List.getElem?_toArray, hof]; exact hdf
    have e2 : (l.toArray[g]?).bind (·.dst) = e := by rw [List.getElem?_toArray, hog]; exact hdg
    show wpList P l.toArray Q (l.drop n) ((aend.put ((l.toArray[g]?).bind (·.dst)) _).put ((l.toArray[f]?).bind (·.dst)) _) w'
    rw [e1, e2]; exact h4
end Go
/- Appends to rows of one's own, met as operations. No program in it. -/
namespace Go
open Go.RowKit
section
variable {P : Program} {ops : Array Oper} {rest : List Oper} {o : Oper} {a : Act} {w : World} {Q : Exit → Act → World → Prop}
/-- One more element (of 'size' cells) is put behind a row of one's own; it lies in a block of its own. -/
theorem wp_append1 {K : Act → World → Prop} (s x : Operand) (t : TypeId) (ho : o.op = .call { callee := .builtin .append, args := #[s, x], argTypes := #[t, t] })
    (base : Nat) (e : TypeId) (z : Value) (size bytes : Nat) (ht : P.underlying t = some (.slice e)) (hi : (P.info? e).map (fun i => (i.zero, i.size, i.bytes)) = some (some z, size, bytes)) (hzs : z.cells.size = size) (hsz : 0 < size)
    {v : Value} {n : Nat} {xs : List Value} (hs : a.eval s = v) (hown : w.ownsRow base e size v n xs)
    {g c : Nat} {news : List Value} {te : TypeId} (hx : a.eval x = .slice (some ⟨g, 0, none⟩) 1 c) (hl : news.length = size) (hr : w.row g news te) (h1 : ∀ u ∈ news, u.oneCell' = true)
    (h63 : n + 1 ≤ 100000) (hbb : bytes ≤ 100000) (hbase : base ≤ w.heap.size)
    (h : ∀ v' w', w'.ownsRow base e size v' (n + 1) (xs ++ news) → w.grownBy w' v.ownBlock → (v'.ownBlock = v.ownBlock ∨ v'.ownBlock = some w.heap.size) → K (a.put o.dst v') w') : o.wp P a w K Q := by
  obtain ⟨i, hi0, hz, hsize, hby⟩ : ∃ i, P.info? e = some i ∧ i.zero = some z ∧ i.size = size ∧ i.bytes = bytes := by
    cases h : P.info? e with
    | none => rw [h] at hi; cases hi
    | some i => rw [h] at hi; simp at hi; exact ⟨i, rfl, hi.1, hi.2.1, hi.2.2⟩
  have hb : (n + 1) * bytes ≤ 100000 * 100000 := Nat.mul_le_mul h63 hbb
  obtain ⟨v', w', hr', h2, h3, _, h5⟩ := run_append_own_at (P := P) w base t o.type e i z size bytes ht hi0 hz hsize hby hzs hsz v n xs hown ⟨g, 0, none⟩ 1 c news (by rw [hl, Nat.one_mul]) (fun j u hj => by
    rw [Addr.add_mid, Nat.zero_add]
    exact hr.cell j hj) h1 (by unfold maxLen; omega) (by omega) hbase
  unfold Oper.wp execOp
  simp only [ho, resolve, invoke, builtin, Sem.run_bind, Sem.run_pure, Result.andThen_ok, List.map_toArray, List.map_cons, List.map_nil, hs, hx, hr']
  exact h v' w' h2 h3 h5
theorem wpList_append1 (hw : Region.wanted o (yielded ops a.tmps) = true) (s x : Operand) (t : TypeId) (ho : o.op = .call { callee := .builtin .append, args := #[s, x], argTypes := #[t, t] })
    (base : Nat) (e : TypeId) (z : Value) (size bytes : Nat) (ht : P.underlying t = some (.slice e)) (hi : (P.info? e).map (fun i => (i.zero, i.size, i.bytes)) = some (some z, size, bytes)) (hzs : z.cells.size = size) (hsz : 0 < size)
    {v : Value} {n : Nat} {xs : List Value} (hs : a.eval s = v) (hown : w.ownsRow base e size v n xs)
    {g c : Nat} {news : List Value} {te : TypeId} (hx : a.eval x = .slice (some ⟨g, 0, none⟩) 1 c) (hl : news.length = size) (hr : w.row g news te) (h1 : ∀ u ∈ news, u.oneCell' = true)
    (h63 : n + 1 ≤ 100000) (hbb : bytes ≤ 100000) (hbase : base ≤ w.heap.size)
    (h : ∀ v' w', w'.ownsRow base e size v' (n + 1) (xs ++ news) → w.grownBy w' v.ownBlock → (v'.ownBlock = v.ownBlock ∨ v'.ownBlock = some w.heap.size) → wpList P ops Q rest (a.put o.dst v') w') : wpList P ops Q (o :: rest) a w :=
  wpList_want hw fun _ hK => wp_append1 s x t ho base e z size bytes ht hi hzs hsz hs hown hx hl hr h1 h63 hbb hbase fun v' w' h2 h3 h4 => hK _ _ (h v' w' h2 h3 h4)
end
end Go
/- Laws of single operations, the operation written out in the conclusion: 'with_reducible apply' meets its own kind alone. No program in it. -/
namespace Go
open Go.RowKit
section
variable {P : Program} {ops : Array Oper} {rest : List Oper} {d : Option Tmp} {to : TypeId} {ps : String} {af : Array Edge} {gd : Option (Nat × Bool)} {a : Act} {w : World} {Q : Exit → Act → World → Prop}
/-- The world of a list of operations is given a name (the goal is met by its form). -/
theorem op_ld {ty : TypeId} {x : Operand} {b off : Nat} {cs : List Value} (hw : Region.wanted ⟨d, .load ty x, to, ps, af, gd⟩ (yielded ops a.tmps) = true) (hx : a.eval x = .pointer (some ⟨b, off, none⟩)) (hc : w.rangeAt b off cs) (ht : RowTy P ty cs.length)
    (h : wpList P ops Q rest (a.put d (.agg cs.toArray)) w) : wpList P ops Q (⟨d, .load ty x, to, ps, af, gd⟩ :: rest) a w := wpList_ld hw rfl hx hc ht h
theorem op_mv {x : Operand} (hw : Region.wanted ⟨d, .move x, to, ps, af, gd⟩ (yielded ops a.tmps) = true) (h : wpList P ops Q rest (a.put d (a.eval x)) w) : wpList P ops Q (⟨d, .move x, to, ps, af, gd⟩ :: rest) a w :=
  wpList_val hw (fun w => by unfold execOp; simp) h
theorem op_as {x : Operand} (hw : Region.wanted ⟨d, .assign x, to, ps, af, gd⟩ (yielded ops a.tmps) = true) (h : wpList P ops Q rest (a.put d (a.eval x)) w) : wpList P ops Q (⟨d, .assign x, to, ps, af, gd⟩ :: rest) a w :=
  wpList_val hw (fun w => by unfold execOp; simp) h
theorem op_st {ty : TypeId} {x y : Operand} {g n : Nat} {cs old : List Value} {t : TypeId} (hw : Region.wanted ⟨d, .store ty x y, to, ps, af, gd⟩ (yielded ops a.tmps) = true) (hx : a.eval x = .pointer (some ⟨g, 0, none⟩)) (hy : a.eval y = .agg cs.toArray)
    (hr : w.row g old t) (ht : RowTy P ty n) (hn : cs.length = n) (hold : old.length = n) (h1 : ∀ v ∈ cs, v.oneCell' = true)
    (h : wpList P ops Q rest (a.put d undef) (w.setRow g cs.toArray)) : wpList P ops Q (⟨d, .store ty x y, to, ps, af, gd⟩ :: rest) a w :=
  wpList_want hw fun _ hK => wp_st rfl hx hy hr ht hn hold h1 (hK _ _ h)
theorem op_build1 {t : TypeId} {i : Nat} {x : Operand} {vx v : Value} (hw : Region.wanted ⟨d, .build t #[(i, x)], to, ps, af, gd⟩ (yielded ops a.tmps) = true) (hx : a.eval x = vx) (hb : ∀ w, (Instr.build t #[(i, vx)]).run P w = .ok v w)
    (h : wpList P ops Q rest (a.put d v) w) : wpList P ops Q (⟨d, .build t #[(i, x)], to, ps, af, gd⟩ :: rest) a w := wpList_val hw (run_build1 rfl hx hb) h
theorem op_build2 {t : TypeId} {i j : Nat} {x y : Operand} {vx vy v : Value} (hw : Region.wanted ⟨d, .build t #[(i, x), (j, y)], to, ps, af, gd⟩ (yielded ops a.tmps) = true) (hx : a.eval x = vx) (hy : a.eval y = vy) (hb : ∀ w, (Instr.build t #[(i, vx), (j, vy)]).run P w = .ok v w)
    (h : wpList P ops Q rest (a.put d v) w) : wpList P ops Q (⟨d, .build t #[(i, x), (j, y)], to, ps, af, gd⟩ :: rest) a w := wpList_val hw (run_build2 rfl hx hy hb) h
theorem op_bs1 {t e : TypeId} {x : Operand} {v : Value} {cs : Array Value} (hw : Region.wanted ⟨d, .buildSlice t 1 #[(0, x)], to, ps, af, gd⟩ (yielded ops a.tmps) = true) (hx : a.eval x = v)
    (hb : ∀ w, (Instr.buildSlice t 1 #[(0, v)]).run P w = .ok (.slice (some ⟨w.heap.size, 0, none⟩) 1 1) (w.alloc (.cells cs e)))
    (h : wpList P ops Q rest (a.put d (.slice (some ⟨w.heap.size, 0, none⟩) 1 1)) (w.alloc (.cells cs e))) : wpList P ops Q (⟨d, .buildSlice t 1 #[(0, x)], to, ps, af, gd⟩ :: rest) a w := wpList_bs1 hw rfl hx hb h
theorem op_append1 {s x : Operand} {t base : Nat} {e : TypeId} {z : Value} {size bytes : Nat} {v : Value} {n : Nat} {xs : List Value} {g c : Nat} {news : List Value} {te : TypeId}
    (hw : Region.wanted ⟨d, .call { callee := .builtin .append, args := #[s, x], argTypes := #[t, t] }, to, ps, af, gd⟩ (yielded ops a.tmps) = true)
    (ht : P.underlying t = some (.slice e)) (hi : (P.info? e).map (fun i => (i.zero, i.size, i.bytes)) = some (some z, size, bytes)) (hzs : z.cells.size = size) (hsz : 0 < size)
    (hs : a.eval s = v) (hown : w.ownsRow base e size v n xs) (hx : a.eval x = .slice (some ⟨g, 0, none⟩) 1 c) (hl : news.length = size) (hr : w.row g news te) (h1 : ∀ u ∈ news, u.oneCell' = true)
    (h63 : n + 1 ≤ 100000) (hbb : bytes ≤ 100000) (hbase : base ≤ w.heap.size)
    (h : ∀ v' w', w'.ownsRow base e size v' (n + 1) (xs ++ news) → w.grownBy w' v.ownBlock → (v'.ownBlock = v.ownBlock ∨ v'.ownBlock = some w.heap.size) → wpList P ops Q rest (a.put d v') w') :
    wpList P ops Q (⟨d, .call { callee := .builtin .append, args := #[s, x], argTypes := #[t, t] }, to, ps, af, gd⟩ :: rest) a w :=
  wpList_append1 hw s x t rfl base e z size bytes ht hi hzs hsz hs hown hx hl hr h1 h63 hbb hbase h
/-- One box, of a struct or an array. -/
theorem op_box {t : TypeId} {x : Operand} {cs : List Value} (hw : Region.wanted ⟨d, .box t x, to, ps, af, gd⟩ (yielded ops a.tmps) = true) (hx : a.eval x = .agg cs.toArray)
    (h : wpList P ops Q rest (a.put d (.pointer (some ⟨w.heap.size, 0, none⟩))) (w.alloc (.cells cs.toArray t))) : wpList P ops Q (⟨d, .box t x, to, ps, af, gd⟩ :: rest) a w :=
  wpList_want hw fun K hK => by
    unfold Oper.wp execOp
    simp only [hx, Instr.box, newVar, newRow, newObj, Sem.run_bind, Sem.run_pure, Value.cells]
    exact hK _ _ h
theorem op_alloc {t : TypeId} {z : Value} {zs : List Value} (hw : Region.wanted ⟨d, .alloc t, to, ps, af, gd⟩ (yielded ops a.tmps) = true) (hz : (P.info? t).map (·.zero) = some (some z)) (hzs : z.cells = zs.toArray)
    (h : wpList P ops Q rest (a.put d (.pointer (some ⟨w.heap.size, 0, none⟩))) (w.alloc (.cells zs.toArray t))) : wpList P ops Q (⟨d, .alloc t, to, ps, af, gd⟩ :: rest) a w :=
  wpList_want hw fun K hK => by
    unfold Oper.wp
    rw [run_alloc_row rfl hz hzs]
    exact hK _ _ h
/-- The same within a drawn region: light ones, over any class. -/
theorem q_val {C : World → Prop} {K : Act → Prop} {op : Op} {v : Value} (hw : Region.wanted ⟨d, op, to, ps, af, gd⟩ (yielded ops a.tmps) = true) (hr : ∀ w, (execOp a.eval ⟨d, op, to, ps, af, gd⟩).run P w = .ok (.value v) w) (h : wpQuiet P ops C K rest (a.put d v)) : wpQuiet P ops C K (⟨d, op, to, ps, af, gd⟩ :: rest) a := wpQuiet_val hw hr h
theorem q_build1 {C : World → Prop} {K : Act → Prop} {t : TypeId} {i : Nat} {x : Operand} {vx v : Value} (hw : Region.wanted ⟨d, .build t #[(i, x)], to, ps, af, gd⟩ (yielded ops a.tmps) = true) (hx : a.eval x = vx) (hb : ∀ w, (Instr.build t #[(i, vx)]).run P w = .ok v w)
    (h : wpQuiet P ops C K rest (a.put d v)) : wpQuiet P ops C K (⟨d, .build t #[(i, x)], to, ps, af, gd⟩ :: rest) a := wpQuiet_val hw (run_build1 rfl hx hb) h
theorem q_build2 {C : World → Prop} {K : Act → Prop} {t : TypeId} {i j : Nat} {x y : Operand} {vx vy v : Value} (hw : Region.wanted ⟨d, .build t #[(i, x), (j, y)], to, ps, af, gd⟩ (yielded ops a.tmps) = true) (hx : a.eval x = vx) (hy : a.eval y = vy) (hb : ∀ w, (Instr.build t #[(i, vx), (j, vy)]).run P w = .ok v w)
    (h : wpQuiet P ops C K rest (a.put d v)) : wpQuiet P ops C K (⟨d, .build t #[(i, x), (j, y)], to, ps, af, gd⟩ :: rest) a := wpQuiet_val hw (run_build2 rfl hx hy hb) h
theorem q_ld {B : Nat} {K : Act → Prop} {ty : TypeId} {x : Operand} {b off : Nat} {cs : List Value} (hw : Region.wanted ⟨d, .load ty x, to, ps, af, gd⟩ (yielded ops a.tmps) = true) (hx : a.eval x = .pointer (some ⟨b, off, none⟩)) (hc : w.rangeAt b off cs) (hb : b < B) (ht : RowTy P ty cs.length)
    (h : wpQuiet P ops (fun w' => ∃ x : Ext B w, w' = w.ext B x) K rest (a.put d (.agg cs.toArray))) : wpQuiet P ops (fun w' => ∃ x : Ext B w, w' = w.ext B x) K (⟨d, .load ty x, to, ps, af, gd⟩ :: rest) a := wpQuiet_ld hw rfl hx hc hb ht h
theorem q_lds {S : Nat → Prop} {K : Act → Prop} {ty : TypeId} {x : Operand} {b off : Nat} {cs : List Value} (hw : Region.wanted ⟨d, .load ty x, to, ps, af, gd⟩ (yielded ops a.tmps) = true) (hx : a.eval x = .pointer (some ⟨b, off, none⟩)) (hc : w.rangeAt b off cs) (hb : S b) (ht : RowTy P ty cs.length)
    (h : wpQuiet P ops (fun w' => ∃ x : ExtS S w, w' = w.exts S x) K rest (a.put d (.agg cs.toArray))) : wpQuiet P ops (fun w' => ∃ x : ExtS S w, w' = w.exts S x) K (⟨d, .load ty x, to, ps, af, gd⟩ :: rest) a := wpQuiet_lds hw rfl hx hc hb ht h
theorem q_ldc {B : Nat} {J : Cls B w} {K : Act → Prop} {ty : TypeId} {x : Operand} {b off : Nat} {cs : List Value} (hw : Region.wanted ⟨d, .load ty x, to, ps, af, gd⟩ (yielded ops a.tmps) = true) (hx : a.eval x = .pointer (some ⟨b, off, none⟩)) (hc : w.rangeAt b off cs) (hb : b < B) (ht : RowTy P ty cs.length)
    (h : wpQuiet P ops (fun w' => ∃ x : ClsW J, w' = World.cl J x) K rest (a.put d (.agg cs.toArray))) : wpQuiet P ops (fun w' => ∃ x : ClsW J, w' = World.cl J x) K (⟨d, .load ty x, to, ps, af, gd⟩ :: rest) a := wpQuiet_ldc hw rfl hx hc hb ht h
/-- Heavy ones, met as operations ('wpMix_heavy' leaves 'o.wp P a w K noExit'). -/
theorem w_st {K : Act → World → Prop} {ty : TypeId} {x y : Operand} {g n : Nat} {cs old : List Value} {t : TypeId} (hx : a.eval x = .pointer (some ⟨g, 0, none⟩)) (hy : a.eval y = .agg cs.toArray)
    (hr : w.row g old t) (ht : RowTy P ty n) (hn : cs.length = n) (hold : old.length = n) (h1 : ∀ v ∈ cs, v.oneCell' = true)
    (h : K (a.put d undef) (w.setRow g cs.toArray)) : Oper.wp P ⟨d, .store ty x y, to, ps, af, gd⟩ a w K Q := wp_st rfl hx hy hr ht hn hold h1 h
theorem w_bs1 {K : Act → World → Prop} {t e : TypeId} {x : Operand} {v : Value} {cs : Array Value} (hx : a.eval x = v)
    (hb : ∀ w, (Instr.buildSlice t 1 #[(0, v)]).run P w = .ok (.slice (some ⟨w.heap.size, 0, none⟩) 1 1) (w.alloc (.cells cs e)))
    (h : K (a.put d (.slice (some ⟨w.heap.size, 0, none⟩) 1 1)) (w.alloc (.cells cs e))) : Oper.wp P ⟨d, .buildSlice t 1 #[(0, x)], to, ps, af, gd⟩ a w K Q := wp_bs1 rfl hx hb h
theorem w_append1 {K : Act → World → Prop} {s x : Operand} {t base : Nat} {e : TypeId} {z : Value} {size bytes : Nat} {v : Value} {n : Nat} {xs : List Value} {g c : Nat} {news : List Value} {te : TypeId}
    (ht : P.underlying t = some (.slice e)) (hi : (P.info? e).map (fun i => (i.zero, i.size, i.bytes)) = some (some z, size, bytes)) (hzs : z.cells.size = size) (hsz : 0 < size)
    (hs : a.eval s = v) (hown : w.ownsRow base e size v n xs) (hx : a.eval x = .slice (some ⟨g, 0, none⟩) 1 c) (hl : news.length = size) (hr : w.row g news te) (h1 : ∀ u ∈ news, u.oneCell' = true)
    (h63 : n + 1 ≤ 100000) (hbb : bytes ≤ 100000) (hbase : base ≤ w.heap.size)
    (h : ∀ v' w', w'.ownsRow base e size v' (n + 1) (xs ++ news) → w.grownBy w' v.ownBlock → (v'.ownBlock = v.ownBlock ∨ v'.ownBlock = some w.heap.size) → K (a.put d v') w') :
    Oper.wp P ⟨d, .call { callee := .builtin .append, args := #[s, x], argTypes := #[t, t] }, to, ps, af, gd⟩ a w K Q :=
  wp_append1 s x t rfl base e z size bytes ht hi hzs hsz hs hown hx hl hr h1 h63 hbb hbase h
theorem below_own {B : Nat} {u w' : World} {v : Value} {base : Nat} {e : TypeId} {size n : Nat} {xs : List Value} (hb : Below B u w) (hg : w.grownBy w' v.ownBlock) (ho : w.ownsRow base e size v n xs) (hB : B ≤ base) (hs : B ≤ w.heap.size) : Below B u w' :=
  hb.trans ⟨hg.os, hg.tape, hg.output, hg.size, fun k hk => hg.block k (Nat.lt_of_lt_of_le hk hs) fun e => by have := (ho.lt k e.symm).1; omega⟩
end
end Go
/- Rows of elements of n cells: where each lies. No program in it. -/
namespace Go
open Go.RowKit
theorem flatMap_get {α : Type} (f : α → List Value) (n : Nat) (hn : ∀ x, (f x).length = n) : ∀ {ps : List α} {i : Nat} {x : α}, ps[i]? = some x → ∀ j, j < n → (ps.flatMap f)[i * n + j]? = (f x)[j]?
  | [], i, x, h, _, _ => by simp at h
  | a :: ps, 0, x, h, j, hj => by
    simp at h; subst h
    rw [List.flatMap_cons, Nat.zero_mul, Nat.zero_add, List.getElem?_append_left (by rw [hn]; exact hj)]
  | a :: ps, i + 1, x, h, j, hj => by
    rw [List.flatMap_cons, List.getElem?_append_right (by rw [hn, Nat.succ_mul]; omega), hn]
    have e : (i + 1) * n + j - n = i * n + j := by rw [Nat.succ_mul]; omega
    rw [e]
    exact flatMap_get f n hn (by simpa using h) j hj
variable {w w' : World} {B : Nat} {e : TypeId} {size n : Nat} {v : Value} {xs : List Value}
theorem own_form (h : w.ownsRow B e size v n xs) : (v = .slice none 0 0 ∧ n = 0) ∨ ∃ g cap, v = .slice (some ⟨g, 0, none⟩) n cap ∧ B ≤ g ∧ g < w.heap.size ∧ n ≤ cap ∧ cap ≤ maxLen ∧ (∀ j u, xs[j]? = some u → w.cell? ⟨g, j, none⟩ = some u) ∧ ∀ j, w.frozen? ⟨g, j, none⟩ = false := by
  have hlt := h.lt
  have h0 := h
  obtain ⟨hl, h⟩ := h
  rcases h with ⟨h1, h2⟩ | ⟨g, cap, cur, hv, hB, hh, h1, h2, hs, ht⟩
  · exact .inl ⟨h1, h2⟩
  · refine .inr ⟨g, cap, hv, hB, (hlt g (by rw [hv]; rfl)).2, h1, h2, fun j u hj => ?_, fun j => ?_⟩
    · have h3 : cur[j]? = some u := by
        rw [← ht] at hj
        rw [List.getElem?_take] at hj
        split at hj
        · simpa using hj
        · cases hj
      simp [World.cell?, hh, h3]
    · unfold World.frozen?; simp [hh]
/-- An element's range. -/
theorem own_at {α : Type} {f : α → List Value} {ps : List α} {i : Nat} {x : α} (hn : ∀ x, (f x).length = size) (h : w.ownsRow B e size v ps.length (ps.flatMap f)) (hi : ps[i]? = some x) :
    ∃ g cap, v = .slice (some ⟨g, 0, none⟩) ps.length cap ∧ B ≤ g ∧ g < w.heap.size ∧ ps.length ≤ cap ∧ cap ≤ maxLen ∧ w.rangeAt g (i * size) (f x) ∧ ∀ j, w.frozen? ⟨g, j, none⟩ = false := by
  have hil : i < ps.length := (List.getElem?_eq_some_iff.1 hi).1
  rcases own_form h with ⟨_, h2⟩ | ⟨g, cap, hv, hB, hg, h1, h2, hc, hz⟩
  · omega
  · refine ⟨g, cap, hv, hB, hg, h1, h2, fun j u hj => hc _ u ?_, hz⟩
    have hjl : j < size := by rw [← hn x]; exact (List.getElem?_eq_some_iff.1 hj).1
    rw [flatMap_get f size hn hi j hjl]; exact hj
theorem own_same (h : w.ownsRow B e size v n xs) (hb : ∀ k, v.ownBlock = some k → w'.heap[k]? = w.heap[k]?) : w'.ownsRow B e size v n xs := by
  obtain ⟨hl, h⟩ := h
  refine ⟨hl, ?_⟩
  rcases h with h | ⟨g, cap, cur, hv, hB, hh, r⟩
  · exact .inl h
  · exact .inr ⟨g, cap, cur, hv, hB, (hb g (by rw [hv]; rfl)).trans hh, r⟩
end Go
/- Arguments laid open: laws of my own, no program in them. -/
namespace Go
open Go.ChangeShapes Go.WideShapes Go.ChangeAt Go.RowKit
section
variable {H : Type} {enc : TypeId × Value → H} {P : Program} {W : World} {base : Nat} {sp : Nat → Bool} {held : Bool}
theorem open_array_ints {t e : TypeId} {n : Nat} {k : IntKind} {v : Value} {d : DataW H} {p : List MemPlace} {r : Reach} (ht : P.underlying t = some (.array n e)) (he : P.underlying e = some (.int k)) (hce : P.cellsOf e = 1) (hct : P.cellsOf t = n)
    (hv : Value.okWide P W r base t v) (h : DataW.Trod enc P W 0 sp held t v d p) : ∃ zs : List Int, zs.length = n ∧ v = .agg (zs.map (Value.int k)).toArray ∧ ∀ z ∈ zs, (Lit.int k z).wf = true := by
  obtain ⟨cs, rfl, hs⟩ : ∃ cs, v = .agg cs ∧ cs.size = P.cellsOf t := by
    simp only [Value.okWide, ht] at hv
    obtain ⟨cs, h1, h2, _⟩ := hv
    exact ⟨cs, h1, h2⟩
  obtain ⟨fuel, hf⟩ := h
  obtain ⟨xs, m, _, _, hl, hx, hat⟩ := DataW.trod_array ht hf
  obtain ⟨l⟩ := cs
  simp only [Value.cells] at hl hat
  have hn : ∀ i, i < n → ∃ z, l[i]? = some (.int k z) ∧ (Lit.int k z).wf = true := fun i hi => by
    have h1 := hat i hi
    rw [hce, Nat.mul_one, List.getElem?_eq_getElem (by omega)] at h1
    cases hd : l.drop i with
    | nil => rw [hd] at h1; cases m <;> simp [DataW.trod, he] at h1
    | cons c rest =>
      rw [hd] at h1
      simp only [List.take_succ_cons, List.take_zero] at h1
      obtain ⟨z, hc, _, hw⟩ := DataW.trod_int he h1
      refine ⟨z, ?_, hw⟩
      have : l[i]? = (l.drop i)[0]? := by simp
      rw [this, hd]
      simpa using hc
  have hlen : l.length = n := by simpa [hct] using hs
  let f : Value → Int := fun v => match v with | .int _ z => z | _ => 0
  refine ⟨l.map f, by simp [hlen], ?_, ?_⟩
  · congr 1
    rw [List.map_map]
    have e : l = l.map (Value.int k ∘ f) := List.ext_getElem? fun i => by
      by_cases hi : i < n
      · obtain ⟨z, hz, _⟩ := hn i hi
        rw [List.getElem?_map, hz]; rfl
      · rw [List.getElem?_eq_none (by omega), List.getElem?_eq_none (by simp; omega)]
    exact congrArg List.toArray e
  · intro z hz
    obtain ⟨c, hc, rfl⟩ := List.mem_map.1 hz
    obtain ⟨i, hi, rfl⟩ := List.getElem_of_mem hc
    obtain ⟨z, h1, h2⟩ := hn i (by omega)
    rw [List.getElem?_eq_getElem hi] at h1
    rw [Option.some.inj h1]
    exact h2
/-- What was read of all arguments is read again behind a call that left all old blocks as they were. -/
theorem trodAll_below {ts : List TypeId} (hl : laidOutB P = true) (hr : ∀ t ∈ ts, P.readableRec t = true ∧ t < P.types.size) {W' : World} (hb : Below W.heap.size W W') :
    ∀ {vs : List Value} {ds : List (DataW H)} {ps : List MemPlace}, DataW.TrodAll enc P W 0 (fun _ => true) true ts vs ds ps → DataW.TrodAll enc P W' 0 (fun b => decide (b < W.heap.size)) true ts vs ds ps := by
  induction ts with
  | nil => intro vs ds ps h; obtain ⟨rfl, rfl, rfl⟩ := trodAll_nil h; exact trodAll_mk0
  | cons t ts ih =>
    intro vs ds ps h
    obtain ⟨v, vs', d, ds', p, q, rfl, rfl, rfl, h1, h2⟩ := trodAll_cons h
    have hlt : ∀ x ∈ p, x.block < W.heap.size := by obtain ⟨m, hm⟩ := h1; exact DataW.trod_lt m _ _ _ hm
    exact trodAll_cons_mk (Below.trod hl (hr t (by simp)).1 (hr t (by simp)).2 h1 hb hlt) (ih (fun t' ht' => hr t' (by simp [ht'])) h2)
/-- The end of a law's row: it returned true, and all old blocks are as they were. -/
theorem law_post {s : ChangeSpec} {fn : Func} {W' : World} {args : Array Value} {ds gs : List (DataW H)} {before : List MemPlace} {tb : TypeId} (hl : laidOutB P = true)
    (hr : ∀ t ∈ fn.params.toList, P.readableRec t = true ∧ t < P.types.size) (hW : DataW.Whole enc P fn.params.toList s.vars false W args.toList ds gs before) (hvars : s.vars = []) (hres : fn.resultTypes = #[tb]) (hb : P.underlying tb = some .bool)
    (hfn : s.fn H (ds ++ gs) = { results := [.lit (.bool true)], args := ds }) (bel : Below W.heap.size W W') :
    s.post enc P fn false true false false W args (.bool true) W' := by
  obtain ⟨p, q, hA, hV, rfl, hfz, hnd⟩ := hW
  refine ⟨ds, gs, p ++ q, [], p, [], ⟨p, q, hA, hV, rfl, hfz, hnd⟩, ?_, ?_, ?_, bel.frame _, fun h => by cases h⟩
  · rw [hfn, hres]; exact trodAll_mk1 (shut_bool hb true)
  · rw [hfn]; exact trodAll_below hl hr bel hA
  · rw [hfn, hvars]; rfl
end
end Go
/- Sets of numbers below 256 as four words: plain facts, no program in them. -/
namespace Go.Proofs.YtijagdpkclghnaaDoor
open Go
/-- Four words of 64 bits. -/
structure Set4 where
  a : Nat
  b : Nat
  c : Nat
  d : Nat
  ha : a < 18446744073709551616
  hb : b < 18446744073709551616
  hc : c < 18446744073709551616
  hd : d < 18446744073709551616
theorem pow_lt64 (j : Nat) (hj : j < 64) : 2 ^ j < 18446744073709551616 := by
  have : 2 ^ j ≤ 2 ^ 63 := Nat.pow_le_pow_right (by omega) (by omega)
  omega
theorem pow_wrap (j : Nat) (hj : j < 64) : IntKind.u64.wrap (2 ^ j) = ((2 ^ j : Nat) : Int) := by
  have h := pow_lt64 j hj
  have e : ((2 : Int) ^ j) = ((2 ^ j : Nat) : Int) := by simp
  rw [IntKind.wrap_u64, e]
  generalize 2 ^ j = p at *
  omega
theorem and_pow (x j : Nat) : x &&& 2 ^ j = (x.testBit j).toNat * 2 ^ j := by
  refine Nat.eq_of_testBit_eq fun i => ?_
  rw [Nat.testBit_and, Nat.testBit_two_pow]
  by_cases e : j = i
  · subst e; cases h : x.testBit j <;> simp
  · cases x.testBit j <;> simp [e]
theorem and_pow_ne (x j : Nat) (hx : x < 18446744073709551616) (hj : j < 64) : (!(bits .and .u64 (x : Int) ((2 ^ j : Nat) : Int) == 0)) = x.testBit j := by
  rw [u64_and_nat x (2 ^ j) hx (pow_lt64 j hj), and_pow]
  have := Nat.two_pow_pos j
  generalize 2 ^ j = p at *
  cases x.testBit j
  · simp
  · simp; omega
namespace Set4
abbrev cells (s : Set4) : List Value := [.int .u64 (s.a : Int), .int .u64 (s.b : Int), .int .u64 (s.c : Int), .int .u64 (s.d : Int)]
abbrev val (s : Set4) : Value := .agg #[.int .u64 (s.a : Int), .int .u64 (s.b : Int), .int .u64 (s.c : Int), .int .u64 (s.d : Int)]
def word (s : Set4) (k : Nat) : Nat := if k = 0 then s.a else if k = 1 then s.b else if k = 2 then s.c else s.d
theorem word_lt (s : Set4) (k : Nat) : s.word k < 18446744073709551616 := by
  unfold word; split; exact s.ha; split; exact s.hb; split; exact s.hc; exact s.hd
def has (s : Set4) (i : Nat) : Bool := decide (i < 256) && (s.word (i / 64)).testBit (i % 64)
theorem ext_words {s t : Set4} (h : ∀ k, k < 4 → s.word k = t.word k) : s = t := by
  have h0 := h 0 (by omega); have h1 := h 1 (by omega); have h2 := h 2 (by omega); have h3 := h 3 (by omega)
  obtain ⟨a, b, c, d, _, _, _, _⟩ := s; obtain ⟨a', b', c', d', _, _, _, _⟩ := t
  simp [word] at h0 h1 h2 h3; subst h0 h1 h2 h3; rfl
theorem big (j : Nat) (hj : ¬ j < 64) : 18446744073709551616 ≤ 2 ^ j := by
  have : 2 ^ 64 ≤ 2 ^ j := Nat.pow_le_pow_right (by omega) (by omega)
  exact this
theorem word_eq {x y : Nat} (hx : x < 18446744073709551616) (hy : y < 18446744073709551616) (h : ∀ j, j < 64 → x.testBit j = y.testBit j) : x = y := by
  refine Nat.eq_of_testBit_eq fun j => ?_
  by_cases hj : j < 64
  · exact h j hj
  · rw [Nat.testBit_lt_two_pow (Nat.lt_of_lt_of_le hx (big j hj)), Nat.testBit_lt_two_pow (Nat.lt_of_lt_of_le hy (big j hj))]
theorem ext_has {s t : Set4} (h : ∀ i, i < 256 → s.has i = t.has i) : s = t := by
  refine ext_words fun k hk => word_eq (s.word_lt k) (t.word_lt k) fun j hj => ?_
  have := h (64 * k + j) (by omega)
  unfold has at this
  rw [show (64 * k + j) / 64 = k by omega, show (64 * k + j) % 64 = j by omega] at this
  simpa [show 64 * k + j < 256 by omega] using this
theorem has_ge (s : Set4) {i : Nat} (h : 256 ≤ i) : s.has i = false := by unfold has; simp; omega
/-- A word for each pair of words. -/
def zip (g : Nat → Nat → Nat) (hg : ∀ x y, x < 18446744073709551616 → y < 18446744073709551616 → g x y < 18446744073709551616) (s t : Set4) : Set4 :=
  ⟨g s.a t.a, g s.b t.b, g s.c t.c, g s.d t.d, hg _ _ s.ha t.ha, hg _ _ s.hb t.hb, hg _ _ s.hc t.hc, hg _ _ s.hd t.hd⟩
theorem word_zip (g hg) (s t : Set4) (k : Nat) : (zip g hg s t).word k = g (s.word k) (t.word k) := by
  unfold word zip; split; rfl; split; rfl; split <;> rfl
theorem or_lt (x y : Nat) (hx : x < 18446744073709551616) (hy : y < 18446744073709551616) : x ||| y < 18446744073709551616 := Nat.or_lt_two_pow (n := 64) hx hy
theorem and_lt (x y : Nat) (hx : x < 18446744073709551616) (_hy : y < 18446744073709551616) : x &&& y < 18446744073709551616 := Nat.lt_of_le_of_lt Nat.and_le_left hx
theorem less_lt (x y : Nat) (hx : x < 18446744073709551616) (_hy : y < 18446744073709551616) : x &&& (18446744073709551615 - y) < 18446744073709551616 := Nat.lt_of_le_of_lt Nat.and_le_left hx
def or : Set4 → Set4 → Set4 := zip (fun x y => x ||| y) or_lt
def and : Set4 → Set4 → Set4 := zip (fun x y => x &&& y) and_lt
def less : Set4 → Set4 → Set4 := zip (fun x y => x &&& (18446744073709551615 - y)) less_lt
theorem has_or (s t : Set4) (i : Nat) : (s.or t).has i = (s.has i || t.has i) := by
  unfold has or; rw [word_zip, Nat.testBit_or]; cases decide (i < 256) <;> simp
theorem has_and (s t : Set4) (i : Nat) : (s.and t).has i = (s.has i && t.has i) := by
  unfold has and; rw [word_zip, Nat.testBit_and]; cases decide (i < 256) <;> simp
theorem testBit_not64 (y j : Nat) (hy : y < 18446744073709551616) (hj : j < 64) : (18446744073709551615 - y).testBit j = !y.testBit j := by
  have := Nat.testBit_two_pow_sub_succ (n := 64) hy j
  rw [show (2 : Nat) ^ 64 - (y + 1) = 18446744073709551615 - y by omega] at this
  rw [this]; simp [hj]
theorem has_less (s t : Set4) (i : Nat) : (s.less t).has i = (s.has i && !t.has i) := by
  unfold has less; rw [word_zip, Nat.testBit_and, testBit_not64 _ _ (t.word_lt _) (Nat.mod_lt _ (by omega))]; cases decide (i < 256) <;> simp
/-- The number of a run of n bits, from f base on. -/
def tot (f : Nat → Bool) : Nat → Nat → Nat
  | _, 0 => 0
  | base, n + 1 => (f base).toNat + 2 * tot f (base + 1) n
theorem tot_lt (f : Nat → Bool) : ∀ n base, tot f base n < 2 ^ n
  | 0, _ => by simp [tot]
  | n + 1, base => by
    have := tot_lt f n (base + 1); unfold tot; rw [Nat.pow_succ]; have : (f base).toNat ≤ 1 := Bool.toNat_le _; omega
theorem testBit_tot (f : Nat → Bool) : ∀ n base j, (tot f base n).testBit j = (decide (j < n) && f (base + j))
  | 0, base, j => by simp [tot]
  | n + 1, base, 0 => by
    unfold tot; rw [Nat.testBit_zero]; cases f base <;> simp
  | n + 1, base, j + 1 => by
    have ih := testBit_tot f n (base + 1) j
    rw [Nat.testBit_succ]
    have e : tot f base (n + 1) / 2 = tot f (base + 1) n := by
      show ((f base).toNat + 2 * tot f (base + 1) n) / 2 = _
      have : (f base).toNat ≤ 1 := Bool.toNat_le _
      omega
    rw [e, ih, show base + (j + 1) = base + 1 + j by omega]
    simp
/-- The set of the numbers that f says yes to. -/
def of (f : Nat → Bool) : Set4 :=
  ⟨tot f 0 64, tot f 64 64, tot f 128 64, tot f 192 64, tot_lt f 64 _, tot_lt f 64 _, tot_lt f 64 _, tot_lt f 64 _⟩
theorem word_of (f : Nat → Bool) (k : Nat) (hk : k < 4) : (of f).word k = tot f (64 * k) 64 := by
  have : k = 0 ∨ k = 1 ∨ k = 2 ∨ k = 3 := by omega
  rcases this with rfl | rfl | rfl | rfl <;> rfl
theorem has_of (f : Nat → Bool) (i : Nat) : (of f).has i = (decide (i < 256) && f i) := by
  unfold has
  by_cases h : i < 256
  · rw [word_of f _ (by omega), testBit_tot, show 64 * (i / 64) + i % 64 = i by omega]
    simp [h, Nat.mod_lt]
  · simp [h]
theorem eq_of {s : Set4} {f : Nat → Bool} (h : ∀ i, i < 256 → s.has i = f i) : s = of f :=
  ext_has fun i hi => by rw [has_of, h i hi]; simp [hi]
theorem of_has (s : Set4) : of s.has = s := (eq_of fun _ _ => rfl).symm
theorem of_congr {f g : Nat → Bool} (h : ∀ i, i < 256 → f i = g i) : of f = of g := eq_of fun i hi => by rw [has_of, h i hi]; simp [hi]
/-- The word with a bit more, without a bit. -/
theorem testBit_pow (k j : Nat) : (2 ^ k).testBit j = decide (k = j) := by rw [Nat.testBit_two_pow]
def zero : Set4 := ⟨0, 0, 0, 0, by omega, by omega, by omega, by omega⟩
theorem has_zero (i : Nat) : zero.has i = false := by unfold has word zero; simp
def with' (s : Set4) (i : Nat) : Set4 := of fun j => decide (j = i) || s.has j
def without (s : Set4) (i : Nat) : Set4 := of fun j => !decide (j = i) && s.has j
def upto (n : Nat) : Set4 := of fun j => decide (j < n)
/-- How many of the first n bits are set. -/
def pop (x : Nat) : Nat → Nat
  | 0 => 0
  | n + 1 => pop x n + (x.testBit n).toNat
def cnt (s : Set4) : Nat → Nat
  | 0 => 0
  | n + 1 => cnt s n + (s.has n).toNat
theorem has_at (s : Set4) (k j : Nat) (hk : k < 4) (hj : j < 64) : s.has (64 * k + j) = (s.word k).testBit j := by
  unfold has; rw [show (64 * k + j) / 64 = k by omega, show (64 * k + j) % 64 = j by omega]; simp [show 64 * k + j < 256 by omega]
theorem word_with (s : Set4) (k j m : Nat) (hk : k < 4) (hj : j < 64) (hm : m < 4) : (s.with' (64 * k + j)).word m = if m = k then s.word k ||| 2 ^ j else s.word m := by
  refine word_eq (word_lt _ _) ?_ fun b hb => ?_
  · split
    · exact or_lt _ _ (s.word_lt _) (pow_lt64 j hj)
    · exact s.word_lt _
  · rw [← has_at _ m b hm hb]
    unfold with'
    rw [has_of, has_at _ m b hm hb]
    by_cases e : m = k
    · subst e; simp [Nat.testBit_or, testBit_pow, show 64 * m + b < 256 by omega]; rw [Bool.or_comm]; congr 1; simp; omega
    · simp [e, show 64 * m + b < 256 by omega]; omega
theorem word_without (s : Set4) (k j m : Nat) (hk : k < 4) (hj : j < 64) (hm : m < 4) : (s.without (64 * k + j)).word m = if m = k then s.word k &&& (18446744073709551615 - 2 ^ j) else s.word m := by
  refine word_eq (word_lt _ _) ?_ fun b hb => ?_
  · split
    · exact Nat.lt_of_le_of_lt Nat.and_le_left (s.word_lt _)
    · exact s.word_lt _
  · rw [← has_at _ m b hm hb]
    unfold without
    rw [has_of, has_at _ m b hm hb]
    by_cases e : m = k
    · subst e; simp only [if_true, Nat.testBit_and, testBit_not64 _ _ (pow_lt64 j hj) hb, testBit_pow, show 64 * m + b < 256 by omega, decide_true, Bool.true_and]; rw [Bool.and_comm]; congr 2; simp; omega
    · simp [e, show 64 * m + b < 256 by omega]; intro _; omega
theorem val_words (s : Set4) : s.val = .agg #[.int .u64 (s.word 0 : Int), .int .u64 (s.word 1 : Int), .int .u64 (s.word 2 : Int), .int .u64 (s.word 3 : Int)] := rfl
theorem tot_upto (N base n : Nat) : tot (fun j => decide (j < N)) base n = 2 ^ (min n (N - base)) - 1 := by
  refine Nat.eq_of_testBit_eq fun i => ?_
  rw [testBit_tot, Nat.testBit_two_pow_sub_one, ← Bool.decide_and]
  exact decide_eq_decide.2 (by omega)
theorem word_upto (N k : Nat) (hk : k < 4) : (upto N).word k = 2 ^ (min 64 (N - 64 * k)) - 1 := by
  unfold upto; rw [word_of _ _ hk, tot_upto]
theorem ones_wrap (r : Nat) (n : Int) (hn : n = (r : Int)) (hr : r < 64) : IntKind.u64.wrap (IntKind.u64.wrap (2 ^ n.toNat) - 1) = ((2 ^ r - 1 : Nat) : Int) := by
  subst hn
  rw [Int.toNat_natCast, pow_wrap r hr, IntKind.wrap_u64]
  have h := pow_lt64 r hr
  have h1 := Nat.two_pow_pos r
  generalize 2 ^ r = p at *
  omega
def empty (s : Set4) : Bool := s.a == 0 && (s.b == 0 && (s.c == 0 && s.d == 0))
theorem empty_iff (s : Set4) : s.empty = true ↔ s = zero := by
  unfold empty
  obtain ⟨a, b, c, d, _, _, _, _⟩ := s
  simp [zero]
def count (s : Set4) : Nat := pop s.a 64 + pop s.b 64 + pop s.c 64 + pop s.d 64
def list (s : Set4) : List Nat := (List.range 256).filter s.has
end Set4
end Go.Proofs.YtijagdpkclghnaaDoor
