/- Blocks of memory as functions of a cell's place (Has), and what a stretch of a run leaves as it was (Fr). No condition. -/
import Derived.WalkKit
import Derived.WalkLawsBesides
import Derived.WalkSpells
import Derived.Deep.MidRow
import Derived.Lib.Hide
import Derived.Lib.LazyBuf
namespace Go.Proofs.YtldiecblcnoleaaDoor.Mem
open Go.RowKit

/-- Block b has n cells of element type T, none frozen; cell i holds f i. -/
def Has (w : World) (b n T : Nat) (f : Nat → Value) : Prop :=
  ∃ arr : Array Value, w.heap[b]? = some (.cells arr T (0, 0)) ∧ arr.size = n ∧ ∀ i, i < n → arr[i]? = some (f i)

theorem Has.congr {w : World} {b n T : Nat} {f g : Nat → Value} (h : Has w b n T f) (e : ∀ i, i < n → f i = g i) : Has w b n T g := by
  obtain ⟨arr, h1, h2, h3⟩ := h
  exact ⟨arr, h1, h2, fun i hi => by rw [h3 i hi, e i hi]⟩

theorem Has.lt {w : World} {b n T : Nat} {f : Nat → Value} (h : Has w b n T f) : b < w.heap.size := by
  obtain ⟨arr, h1, _⟩ := h
  exact (Array.getElem?_eq_some_iff.1 h1).1

theorem Has.cell {w : World} {b n T : Nat} {f : Nat → Value} (h : Has w b n T f) (i : Nat) (hi : i < n) : w.cell? ⟨b, i, none⟩ = some (f i) := by
  obtain ⟨arr, h1, h2, h3⟩ := h
  simp [World.cell?, h1, h3 i hi]

theorem Has.free {w : World} {b n T : Nat} {f : Nat → Value} (h : Has w b n T f) (i : Nat) : w.frozen? ⟨b, i, none⟩ = false := by
  obtain ⟨arr, h1, h2, h3⟩ := h
  simp [World.frozen?, h1]

theorem Has.same {w w' : World} {b n T : Nat} {f : Nat → Value} (h : Has w b n T f) (e : w'.heap[b]? = w.heap[b]?) : Has w' b n T f := by
  obtain ⟨arr, h1, h2, h3⟩ := h
  exact ⟨arr, by rw [e, h1], h2, h3⟩

theorem Has.put {w : World} {b n T : Nat} {f : Nat → Value} (h : Has w b n T f) (i : Nat) (v : Value) :
    Has (w.setCell ⟨b, i, none⟩ v) b n T (fun j => if j = i then v else f j) := by
  obtain ⟨arr, h1, h2, h3⟩ := h
  refine ⟨arr.setIfInBounds i v, ?_, by simpa using h2, fun j hj => ?_⟩
  · simp [World.setCell, Array.getElem?_modify, h1]
  · rw [Array.getElem?_setIfInBounds]
    by_cases e : i = j
    · subst e; simp [h2, hj]
    · have e' : ¬ j = i := fun h => e h.symm
      simp [e, e', h3 j hj]

theorem Has.far {w : World} {b n T : Nat} {f : Nat → Value} (h : Has w b n T f) (p : Addr) (v : Value) (e : b ≠ p.block) : Has (w.setCell p v) b n T f :=
  h.same (Below.heap_setCell w p v b e)

theorem Has.alloc {w : World} {b n T : Nat} {f : Nat → Value} (h : Has w b n T f) (o : Obj) : Has (w.alloc o) b n T f :=
  h.same (Below.heap_alloc w o b h.lt)

theorem Has.drew {w : World} {b n T : Nat} {f : Nat → Value} (h : Has w b n T f) : Has w.drew b n T f := h.same rfl

theorem Has.drewN {w : World} {b n T : Nat} {f : Nat → Value} (h : Has w b n T f) (k : Nat) : Has (w.drewN k) b n T f := h.same rfl

theorem Has.new (w : World) (arr : Array Value) (T : Nat) (f : Nat → Value) (n : Nat) (hn : arr.size = n) (h : ∀ i, i < n → arr[i]? = some (f i)) :
    Has (w.alloc (.cells arr T)) w.heap.size n T f :=
  ⟨arr, by show (w.heap.push _)[w.heap.size]? = _; simp, hn, h⟩

/-- Of the blocks that w had, those outside S are in w' as they were in w; no block has gone. -/
structure Fr (S : Nat → Prop) (w w' : World) : Prop where
  os : w'.os = w.os
  tape : w'.tape = w.tape
  output : w'.output = w.output
  size : w.heap.size ≤ w'.heap.size
  block : ∀ k, k < w.heap.size → ¬ S k → w'.heap[k]? = w.heap[k]?

theorem Fr.refl (S : Nat → Prop) (w : World) : Fr S w w := ⟨rfl, rfl, rfl, Nat.le_refl _, fun _ _ _ => rfl⟩

theorem Fr.trans {S : Nat → Prop} {a b c : World} (h : Fr S a b) (k : Fr S b c) : Fr S a c :=
  ⟨k.os.trans h.os, k.tape.trans h.tape, k.output.trans h.output, Nat.le_trans h.size k.size,
    fun i hi hs => (k.block i (Nat.lt_of_lt_of_le hi h.size) hs).trans (h.block i hi hs)⟩

/-- A second stretch that may write S', whose old blocks lie in S. -/
theorem Fr.then {S S' : Nat → Prop} {a b c : World} (h : Fr S a b) (k : Fr S' b c) (e : ∀ i, i < a.heap.size → S' i → S i) : Fr S a c :=
  ⟨k.os.trans h.os, k.tape.trans h.tape, k.output.trans h.output, Nat.le_trans h.size k.size,
    fun i hi hs => (k.block i (Nat.lt_of_lt_of_le hi h.size) (fun h' => hs (e i hi h'))).trans (h.block i hi hs)⟩

theorem Fr.mono {S S' : Nat → Prop} {a b : World} (h : Fr S a b) (e : ∀ i, i < a.heap.size → S i → S' i) : Fr S' a b :=
  ⟨h.os, h.tape, h.output, h.size, fun i hi hs => h.block i hi (fun h' => hs (e i hi h'))⟩

theorem Fr.drew {S : Nat → Prop} {a w : World} (h : Fr S a w) : Fr S a w.drew := ⟨h.os, h.tape, h.output, h.size, h.block⟩

theorem Fr.drewN {S : Nat → Prop} {a w : World} (h : Fr S a w) (k : Nat) : Fr S a (w.drewN k) := ⟨h.os, h.tape, h.output, h.size, h.block⟩

theorem Fr.alloc {S : Nat → Prop} {a w : World} (h : Fr S a w) (o : Obj) : Fr S a (w.alloc o) :=
  h.trans ⟨rfl, rfl, rfl, by simp, fun k hk _ => Below.heap_alloc _ _ _ hk⟩

theorem Fr.setCell {S : Nat → Prop} {a w : World} (h : Fr S a w) (p : Addr) (u : Value) (hp : a.heap.size ≤ p.block ∨ S p.block) : Fr S a (w.setCell p u) := by
  refine ⟨h.os, h.tape, h.output, by simpa [World.setCell] using h.size, fun k hk hs => ?_⟩
  have e : k ≠ p.block := by
    rintro rfl
    rcases hp with hp | hp
    · omega
    · exact hs hp
  rw [Below.heap_setCell _ _ _ _ e, h.block k hk hs]

theorem Fr.below {S : Nat → Prop} {a w : World} (h : Fr S a w) (e : ∀ i, i < a.heap.size → ¬ S i) : Below a.heap.size a w :=
  ⟨h.os, h.tape, h.output, h.size, fun k hk => h.block k hk (e k hk)⟩

theorem Fr.ofBelow {S : Nat → Prop} {a w : World} (h : Below a.heap.size a w) : Fr S a w :=
  ⟨h.os, h.tape, h.output, h.size, fun k hk _ => h.block k hk⟩

theorem Fr.has {S : Nat → Prop} {a w : World} (h : Fr S a w) {b n T : Nat} {f : Nat → Value} (k : Has a b n T f) (e : ¬ S b) : Has w b n T f :=
  k.same (h.block b k.lt e)

theorem Fr.cell {S : Nat → Prop} {a w : World} (h : Fr S a w) {p : Addr} (hp : p.block < a.heap.size) (e : ¬ S p.block) : w.cell? p = a.cell? p :=
  World.cell?_of_block (w := a) (h.block p.block hp e)

/-- Nothing that was is written. -/
abbrev Nil : Nat → Prop := fun _ => False

theorem Fr.nil {S : Nat → Prop} {a b : World} (h : Fr Nil a b) : Fr S a b := h.mono (fun _ _ h => h.elim)

theorem Fr.below0 {a w : World} (h : Fr Nil a w) : Below a.heap.size a w := h.below (fun _ _ h => h)

/-- An operation that yields a known value and leaves the world. -/
theorem wpList_val {P : Program} {ops : Array Oper} {rest : List Oper} {o : Oper} {a : Act} {w : World} {Q : Exit → Act → World → Prop} (hgd : o.guard = none) (v : Value)
    (hv : (execOp a.eval o).run P w = .ok (.value v) w) (h : wpList P ops Q rest (a.put o.dst v) w) : wpList P ops Q (o :: rest) a w :=
  wpList_plain hgd fun K hK => by
    unfold Oper.wp
    rw [hv]
    exact hK _ _ h

theorem Has.range {w : World} {b n T : Nat} {f : Nat → Value} (h : Has w b n T f) (o : Nat) (cs : List Value) (hl : o + cs.length ≤ n) (e : ∀ j v, cs[j]? = some v → f (o + j) = v) : w.rangeAt b o cs := by
  intro j v hv
  have hj : j < cs.length := (List.getElem?_eq_some_iff.1 hv).1
  rw [h.cell _ (by omega), e j v hv]

theorem Has.there {w : World} {b n T : Nat} {f : Nat → Value} (h : Has w b n T f) (o k : Nat) (hl : o + k ≤ n) : w.there b o k := by
  intro j hj
  exact ⟨by rw [h.cell _ (by omega)]; rfl, h.free _⟩

theorem Has.putCells {b n T : Nat} : ∀ (cs : List Value) (o : Nat) {w : World} {f : Nat → Value}, Has w b n T f →
    Has (w.setCells b o cs) b n T (fun j => if o ≤ j then cs.getD (j - o) (f j) else f j)
  | [], o, w, f, h => h.congr fun i _ => by simp
  | v :: r, o, w, f, h => by
    have h1 := Has.putCells r (o + 1) (h.put o v)
    refine h1.congr fun i hi => ?_
    by_cases e : o = i
    · subst e; rw [if_neg (by omega), if_pos rfl, if_pos (Nat.le_refl _), Nat.sub_self]; rfl
    · by_cases e2 : o ≤ i
      · rw [if_pos (by omega), if_pos e2, if_neg (fun h => e h.symm), show i - o = (i - (o + 1)) + 1 from by omega, List.getD_cons_succ]
      · rw [if_neg (by omega), if_neg e2, if_neg (fun h => e h.symm)]

theorem Has.farCells {b n T : Nat} {f : Nat → Value} {c : Nat} (e : b ≠ c) : ∀ (cs : List Value) (o : Nat) {w : World}, Has w b n T f → Has (w.setCells c o cs) b n T f
  | [], _, _, h => h
  | _ :: r, o, _, h => Has.farCells e r (o + 1) (h.far _ _ e)

theorem Fr.setCells {S : Nat → Prop} {a : World} (c : Nat) (hp : a.heap.size ≤ c ∨ S c) : ∀ (cs : List Value) (o : Nat) {w : World}, Fr S a w → Fr S a (w.setCells c o cs)
  | [], _, _, h => h
  | _ :: r, o, _, h => Fr.setCells c hp r (o + 1) (h.setCell _ _ hp)

/-- An array or a struct by value: n cells, cell i is f i. -/
def cellsF (n : Nat) (f : Nat → Value) : List Value := (List.range n).map f
def aggF (n : Nat) (f : Nat → Value) : Value := .agg (cellsF n f).toArray

theorem cellsF_length (n : Nat) (f : Nat → Value) : (cellsF n f).length = n := by simp [cellsF]
theorem cellsF_get (n : Nat) (f : Nat → Value) (i : Nat) (h : i < n) : (cellsF n f)[i]? = some (f i) := by simp [cellsF, h]
theorem cellsF_congr {n : Nat} {f g : Nat → Value} (h : ∀ i, i < n → f i = g i) : cellsF n f = cellsF n g :=
  List.map_congr_left fun i hi => h i (List.mem_range.1 hi)
theorem aggF_congr {n : Nat} {f g : Nat → Value} (h : ∀ i, i < n → f i = g i) : aggF n f = aggF n g := by
  unfold aggF; rw [cellsF_congr h]
theorem cellsF_one {n : Nat} {f : Nat → Value} (h : ∀ i, i < n → (f i).oneCell' = true) : ∀ v ∈ cellsF n f, v.oneCell' = true := by
  intro v hv
  obtain ⟨i, hi, rfl⟩ := List.mem_map.1 hv
  exact h i (List.mem_range.1 hi)

theorem Has.rangeF {w : World} {b n T : Nat} {f : Nat → Value} (h : Has w b n T f) (o k : Nat) (hl : o + k ≤ n) (g : Nat → Value) (e : ∀ j, j < k → f (o + j) = g j) : w.rangeAt b o (cellsF k g) := by
  refine h.range o _ (by rw [cellsF_length]; omega) fun j v hv => ?_
  have hj : j < k := by rw [← cellsF_length k g]; exact (List.getElem?_eq_some_iff.1 hv).1
  rw [cellsF_get _ _ _ hj] at hv
  rw [e j hj]
  exact Option.some.inj hv

theorem Has.putF {w : World} {b n T : Nat} {f : Nat → Value} (h : Has w b n T f) (o k : Nat) (g : Nat → Value) :
    Has (w.setCells b o (cellsF k g)) b n T (fun j => if o ≤ j ∧ j < o + k then g (j - o) else f j) := by
  refine (h.putCells (cellsF k g) o).congr fun i hi => ?_
  by_cases e : o ≤ i
  · rw [if_pos e]
    by_cases e2 : i < o + k
    · rw [if_pos ⟨e, e2⟩, List.getD_eq_getElem?_getD, cellsF_get _ _ _ (by omega)]; rfl
    · rw [if_neg (fun h => e2 h.2), List.getD_eq_getElem?_getD, List.getElem?_eq_none (by rw [cellsF_length]; omega)]; rfl
  · rw [if_neg e, if_neg (fun h => e h.1)]

theorem Has.heap {w : World} {b n T : Nat} {f : Nat → Value} (h : Has w b n T f) : w.heap[b]? = some (.cells (cellsF n f).toArray T (0, 0)) := by
  obtain ⟨arr, h1, h2, h3⟩ := h
  rw [h1]
  congr 2
  apply Array.ext_getElem?
  intro i
  by_cases hi : i < n
  · rw [h3 i hi]; simp [cellsF, hi]
  · rw [Array.getElem?_eq_none (by omega)]; simp [cellsF, hi]

theorem Has.newF (w : World) (n T : Nat) (f : Nat → Value) : Has (w.alloc (.cells (cellsF n f).toArray T)) w.heap.size n T f :=
  Has.new w _ T f n (by simp [cellsF]) (fun i hi => by simp [cellsF, hi])

theorem results_has {P : Program} {fn : Func} {p : Tmp} {ty : TypeId} (h : fn.results = #[.cell p ty]) (tmps : Array Value) {w : World} {b n T : Nat} {f : Nat → Value} {d : TypeDesc}
    (hp : tmps.getD p undef = .pointer (some ⟨b, 0, none⟩)) (hb : Has w b n T f) (hu : P.underlying ty = some d) (hd : (match d with | .struct _ | .array _ _ => true | _ => false) = true)
    (hi : (P.info? ty).map (·.size) = some n) : (results fn tmps).run P w = .ok (aggF n f) w :=
  results_cell_row h tmps w b T _ _ d hp hb.heap hu hd (by rw [hi]; simp [cellsF])

theorem Fr.alloc1 (w : World) (o : Obj) : Fr Nil w (w.alloc o) := (Fr.refl _ _).alloc _

/-- A new block. -/
theorem wpList_new {P : Program} {ops : Array Oper} {rest : List Oper} {o : Oper} {a : Act} {w : World} {Q : Exit → Act → World → Prop} (hgd : o.guard = none) (n T : Nat) (f : Nat → Value)
    (hr : (execOp a.eval o).run P w = .ok (.value (.pointer (some ⟨w.heap.size, 0, none⟩))) (w.alloc (.cells (cellsF n f).toArray T)))
    (h : ∀ w', Has w' w.heap.size n T f → Fr Nil w w' → w'.heap.size = w.heap.size + 1 → wpList P ops Q rest (a.put o.dst (.pointer (some ⟨w.heap.size, 0, none⟩))) w') : wpList P ops Q (o :: rest) a w :=
  wpList_plain hgd fun K hK => by
    unfold Oper.wp
    rw [hr]
    exact hK _ _ (h _ (Has.newF _ _ _ _) (Fr.alloc1 _ _) (by simp))

/-- .. by alloc. -/
theorem wpList_alloc {P : Program} {ops : Array Oper} {rest : List Oper} {o : Oper} {a : Act} {w : World} {Q : Exit → Act → World → Prop} (hgd : o.guard = none) (t : TypeId) (ho : o.op = .alloc t) (n T : Nat) (f : Nat → Value)
    (hr : (Instr.alloc t true (.tuple #[])).run P w = .ok (.pointer (some ⟨w.heap.size, 0, none⟩)) (w.alloc (.cells (cellsF n f).toArray T)))
    (h : ∀ w', Has w' w.heap.size n T f → Fr Nil w w' → w'.heap.size = w.heap.size + 1 → wpList P ops Q rest (a.put o.dst (.pointer (some ⟨w.heap.size, 0, none⟩))) w') : wpList P ops Q (o :: rest) a w :=
  wpList_new hgd n T f (by unfold execOp; rw [ho]; simp only [Sem.run_bind, hr, Result.andThen_ok]; rfl) h

/-- make([]T, n), T of one cell. -/
theorem wpList_make {P : Program} {ops : Array Oper} {rest : List Oper} {o : Oper} {a : Act} {w : World} {Q : Exit → Act → World → Prop} (hgd : o.guard = none) (t : TypeId) (x y : Operand) (ho : o.op = .makeSlice t x y) (n : Nat)
    (hx : a.eval x = .int .i64 (n : Int)) (hy : a.eval y = .int .i64 (n : Int)) (e : TypeId) (z : Value) (by_ : Nat) (ht : P.underlying t = some (.slice e)) (hi : (P.info? e).map (fun i => (i.zero, i.size, i.bytes)) = some (some z, 1, by_)) (hz : z.cells = #[z])
    (hb : by_ * n ≤ 281474976710656) (hn : n ≤ 9223372036854775807)
    (h : ∀ w', Has w' w.heap.size n e (fun _ => z) → Fr Nil w w' → w'.heap.size = w.heap.size + 1 → wpList P ops Q rest (a.put o.dst (.slice (some ⟨w.heap.size, 0, none⟩) n n)) w') : wpList P ops Q (o :: rest) a w := by
  refine wpList_plain hgd fun K hK => ?_
  cases hq : P.info? e with
  | none => simp [hq] at hi
  | some i =>
    simp only [hq, Option.map_some, Option.some.injEq, Prod.mk.injEq] at hi
    obtain ⟨hz0, hz1, hz2⟩ := hi
    have hb' : (i.bytes : Int) * (n : Int) ≤ 281474976710656 := by
      rw [hz2, ← Int.natCast_mul]
      exact Int.ofNat_le.2 hb
    have hr := run_make (P := P) w t e i z ht hq hz0 .i64 .i64 (n : Int) (n : Int) (by omega) (by omega) hb' (by omega)
    unfold Oper.wp execOp
    rw [ho]
    simp only [hx, hy, Sem.run_bind, hr, Result.andThen_ok]
    have hsz : (madeCells z.cells ((n : Int).toNat * i.size)).size = n := by rw [size_madeCells, hz1, Int.toNat_natCast, Nat.mul_one]
    have hc : ∀ j, j < n → (madeCells z.cells ((n : Int).toNat * i.size))[j]? = some z := by
      intro j hj
      rw [hz1, Int.toNat_natCast, Nat.mul_one, hz]
      unfold madeCells
      rw [Array.getElem?_map, Array.getElem?_range, if_pos hj]
      rw [Option.map_some, show j % (#[z] : Array Value).size = 0 from Nat.mod_one j]
      rfl
    rw [Int.toNat_natCast] at hsz hc ⊢
    exact hK _ _ (h _ (Has.new _ _ _ _ _ hsz hc) (Fr.alloc1 _ _) (Array.size_push _))

/-- A whole array or struct is read. -/
theorem wpList_load_has {P : Program} {ops : Array Oper} {rest : List Oper} {op : Oper} {a : Act} {w : World} {Q : Exit → Act → World → Prop} {b n T : Nat} {f : Nat → Value} (hm : Has w b n T f)
    (hgd : op.guard = none) (ty : TypeId) (x : Operand) (ho : op.op = .load ty x) (o k : Nat) (g : Nat → Value) (hx : a.eval x = .pointer (some ⟨b, o, none⟩)) {d : TypeDesc}
    (hu : P.underlying ty = some d) (hd : d.isRow = true) (hi : (P.info? ty).map (·.size) = some k) (hl : o + k ≤ n) (e : ∀ j, j < k → f (o + j) = g j)
    (h : wpList P ops Q rest (a.put op.dst (aggF k g)) w) : wpList P ops Q (op :: rest) a w :=
  wpList_load_mid hgd ty x ho b o hx (cellsF k g) d (hm.rangeF o k hl g e) hu hd (by rw [hi, cellsF_length]) h

theorem rangeF {w : World} {b o k : Nat} {g : Nat → Value} (h : ∀ j, j < k → w.cell? ⟨b, o + j, none⟩ = some (g j)) : w.rangeAt b o (cellsF k g) := by
  intro j v hv
  have hj : j < k := by rw [← cellsF_length k g]; exact (List.getElem?_eq_some_iff.1 hv).1
  rw [cellsF_get _ _ _ hj] at hv
  rw [h j hj, hv]

/-- .. its cells known one by one. -/
theorem wpList_load_cells {P : Program} {ops : Array Oper} {rest : List Oper} {op : Oper} {a : Act} {w : World} {Q : Exit → Act → World → Prop} (hgd : op.guard = none) (ty : TypeId) (x : Operand) (ho : op.op = .load ty x) (b o k : Nat) (g : Nat → Value)
    (hc : ∀ j, j < k → w.cell? ⟨b, o + j, none⟩ = some (g j)) (hx : a.eval x = .pointer (some ⟨b, o, none⟩)) {d : TypeDesc} (hu : P.underlying ty = some d) (hd : d.isRow = true) (hi : (P.info? ty).map (·.size) = some k)
    (h : wpList P ops Q rest (a.put op.dst (aggF k g)) w) : wpList P ops Q (op :: rest) a w :=
  wpList_load_mid hgd ty x ho b o hx (cellsF k g) d (rangeF hc) hu hd (by rw [hi, cellsF_length]) h

/-- The run of such a load. -/
theorem run_load_cells {P : Program} (w : World) (ty : TypeId) (b o k : Nat) (g : Nat → Value) (hc : ∀ j, j < k → w.cell? ⟨b, o + j, none⟩ = some (g j)) {d : TypeDesc} (hu : P.underlying ty = some d) (hd : d.isRow = true) (hi : (P.info? ty).map (·.size) = some k) :
    (Instr.loadAt ty (.pointer (some ⟨b, o, none⟩))).run P w = .ok (aggF k g) w :=
  run_loadAt_mid w b o ty (cellsF k g) d (rangeF hc) hu hd (by rw [hi, cellsF_length])

/-- A whole array or struct is stored into a block. -/
theorem wpList_store_has {P : Program} {ops : Array Oper} {rest : List Oper} {op : Oper} {a : Act} {w : World} {Q : Exit → Act → World → Prop} {b n T : Nat} {f : Nat → Value} (hm : Has w b n T f)
    (hgd : op.guard = none) (ty : TypeId) (x y : Operand) (ho : op.op = .store ty x y) (o k : Nat) (g : Nat → Value) (hx : a.eval x = .pointer (some ⟨b, o, none⟩)) (hy : a.eval y = aggF k g)
    (hl : o + k ≤ n) (hi : (P.info? ty).map (·.size) = some k) (h1 : ∀ i, i < k → (g i).oneCell' = true)
    (h : ∀ w', Has w' b n T (fun j => if o ≤ j ∧ j < o + k then g (j - o) else f j) → Fr (· = b) w w' → wpList P ops Q rest (a.put op.dst undef) w') : wpList P ops Q (op :: rest) a w := by
  refine wpList_store_mid hgd ty x y ho b o (cellsF k g).toArray hx hy (hm.there o _ (by simpa [cellsF] using hl)) (by rw [hi]; simp [cellsF]) (all_oneCell_toArray (cellsF_one h1)) ?_
  rw [List.toList_toArray]
  exact h _ (hm.putF o k g) (Fr.setCells (S := (· = b)) b (.inr rfl) _ _ (Fr.refl _ _))

/-- Behind a stretch that may write S, one that writes block b alone, which is new since or in S. -/
theorem Fr.then1 {S : Nat → Prop} {a w w' : World} {b : Nat} (h : Fr S a w) (k : Fr (· = b) w w') (e : a.heap.size ≤ b ∨ S b) : Fr S a w' :=
  h.then k fun i hi hb => by
    have hb' : i = b := hb
    subst hb'
    rcases e with e | e
    · omega
    · exact e

/-- Behind it a stretch that writes nothing old. -/
theorem Fr.then0 {S : Nat → Prop} {a w w' : World} (h : Fr S a w) (k : Fr Nil w w') : Fr S a w' := h.then k fun _ _ h => h.elim

/-- 'copy(dst, s)', s a string, dst a slice of bytes that lies in block b from o on: as many bytes as both have. -/
theorem run_copy_str {P : Program} (w : World) (dT sT ty elem : TypeId) (b o dLen dCap : Nat) (t : ByteArray)
    (hu : P.underlying dT = some (.slice elem)) (hz : ∀ w, (Go.sizeOf elem).run P w = .ok 1 w) (k : Nat) (hk : k = min t.size dLen) (hc : w.there b o k) :
    (Builtin.copy_ #[dT, sT] ty #[.slice (some ⟨b, o, none⟩) dLen dCap, .string t]).run P w = .ok (goInt k) (w.setCells b o ((t.data.toList.take k).map fun x => Value.int .u8 (x.toNat : Int))) := by
  have hmin : Nat.min t.size dLen = k := hk.symm
  have hkt : k ≤ t.data.toList.length := by rw [← Lib.size_eq, hk]; exact Nat.min_le_left _ _
  have hl : ((t.data.toList.take k).map fun x => Value.int .u8 (x.toNat : Int)).length = k := by rw [List.length_map, List.length_take]; omega
  have hst := run_storeCells_cells (P := P) b o ((t.data.toList.take k).map fun x => Value.int .u8 (x.toNat : Int)) 0 w (by rw [hl]; exact fun j hj => by simpa using (hc j hj).1) (by rw [hl]; exact fun j hj => by simpa using (hc j hj).2) (by
    intro v hv
    obtain ⟨x, _, rfl⟩ := List.mem_map.1 hv
    rfl)
  simp [Builtin.copy_, run_underlying hu, Builtin.lenOf, Builtin.firstCells, hz, hmin]
  rw [← List.map_take, hst]
  rfl

/-- The operation, where its run is known. -/
theorem wpList_copy {P : Program} {w : World} {ops : Array Oper} {rest : List Oper} {o : Oper} {a : Act} {Q : Exit → Act → World → Prop} (hgd : o.guard = none) (d s : Operand) (t t' : TypeId)
    (ho : o.op = .call { callee := .builtin .copy, args := #[d, s], argTypes := #[t, t'] }) (v u : Value) (hd : a.eval d = v) (hs : a.eval s = u) {v' : Value} {w' : World}
    (hr : (Builtin.copy_ #[t, t'] o.type #[v, u]).run P w = .ok v' w') (h : wpList P ops Q rest (a.put o.dst v') w') : wpList P ops Q (o :: rest) a w :=
  wpList_plain hgd fun K hK => by
    unfold Oper.wp execOp
    simp only [ho, resolve, invoke, builtin, Sem.run_bind, Sem.run_pure, Result.andThen_ok, List.map_toArray, List.map_cons, List.map_nil, hd, hs, hr]
    exact hK _ _ h

/-- a[l:h] of an array of one-cell elements that lies at ⟨b, off⟩. -/
theorem slice_arr {P : Program} {T n e : Nat} (hu : P.underlying T = some (.array n e)) (w : World) (hs : (sizeOf e).run P w = .ok 1 w) (b off l h : Nat) (hl : l ≤ h) (hh : h ≤ n) (hn : l < n) :
    (Instr.sliceAt T (.pointer (some ⟨b, off, none⟩)) (some (.int .i64 (l : Int))) (some (.int .i64 (h : Int))) none).run P w = .ok (.slice (some ⟨b, off + l, none⟩) (h - l) (n - l)) w := by
  have h1 : P.arrayLen T = n := by simp [Program.arrayLen, hu]
  have h2 : P.elem T = e := by simp [Program.elem, hu]
  rw [run_sliceAt_array_lh w T _ (by rw [h1, h2]; exact hu) .i64 .i64 _ _ (by omega) (by omega) (by rw [h1]; omega), h1, h2, hs]
  simp only [Result.andThen, slicedAt, Int.toNat_natCast]
  rw [if_neg (by omega), Nat.mul_one]
  by_cases h0 : l = 0
  · subst h0; rfl
  · simp [Addr.add, h0]

/-- a[l:] of it. -/
theorem slice_arr_l {P : Program} {T n e : Nat} (hu : P.underlying T = some (.array n e)) (w : World) (hs : (sizeOf e).run P w = .ok 1 w) (b off l : Nat) (hn : l < n) :
    (Instr.sliceAt T (.pointer (some ⟨b, off, none⟩)) (some (.int .i64 (l : Int))) none none).run P w = .ok (.slice (some ⟨b, off + l, none⟩) (n - l) (n - l)) w := by
  have h1 : P.arrayLen T = n := by simp [Program.arrayLen, hu]
  have h2 : P.elem T = e := by simp [Program.elem, hu]
  rw [run_sliceAt_array_l w T _ (by rw [h1, h2]; exact hu) .i64 _ (by omega) (by rw [h1]; omega), h1, h2, hs]
  simp only [Result.andThen, slicedAt, Int.toNat_natCast]
  rw [if_neg (by omega), Nat.mul_one]
  by_cases h0 : l = 0
  · subst h0; rfl
  · simp [Addr.add, h0]

/-- a[:h] of it. -/
theorem slice_arr_h {P : Program} {T n e : Nat} (hu : P.underlying T = some (.array n e)) (w : World) (hs : (sizeOf e).run P w = .ok 1 w) (b off h : Nat) (hh : h ≤ n) (hn : 0 < n) :
    (Instr.sliceAt T (.pointer (some ⟨b, off, none⟩)) none (some (.int .i64 (h : Int))) none).run P w = .ok (.slice (some ⟨b, off, none⟩) h n) w := by
  have h1 : P.arrayLen T = n := by simp [Program.arrayLen, hu]
  have h2 : P.elem T = e := by simp [Program.elem, hu]
  rw [run_sliceAt_array_h w T _ (by rw [h1, h2]; exact hu) .i64 _ (by omega) (by rw [h1]; omega), h1, h2, hs]
  simp only [Result.andThen, slicedAt, Int.toNat_natCast]
  rw [if_neg (by omega)]
  simp [Addr.add]

theorem extract_end (s : ByteArray) (a : Nat) : (s.extract a s.size).data.toList = s.data.toList.drop a := by
  rw [Lib.extract_data, List.take_of_length_le]
  rw [List.length_drop, ← Lib.size_eq]
  exact Nat.le_refl _

/-- x[i], x an array by value, its elements of one cell. -/
theorem index_agg {P : Program} {T n e : Nat} (hu : P.underlying T = some (.array n e)) (w : World) (hs : (sizeOf e).run P w = .ok 1 w) (ha : (isAgg e).run P w = .ok false w) (f : Nat → Value) (i : Nat) (hi : i < n) :
    (Instr.index T (aggF n f) (.int .i64 (i : Int))).run P w = .ok (f i) w := by
  have h : (cellsF n f).toArray[i]? = some (f i) := by simpa using cellsF_get n f i hi
  have hp : (part e (cellsF n f).toArray i).run P w = .ok (f i) w := by
    unfold part
    rw [Sem.run_bind, ha]
    simp only [Result.andThen_ok, Bool.false_eq_true, if_false, h]
    rfl
  have hi2 : 0 ≤ (i : Int) ∧ (i : Int) < (n : Int) := by omega
  simp only [Instr.index, asIntOf, aggF, Sem.run_bind, Sem.run_pure, Result.andThen_ok, run_underlying hu w, if_pos hi2, hs, Int.toNat_natCast, Nat.mul_one]
  exact hp

/-- s[i], s a string. -/
theorem index_str {P : Program} {T : Nat} (hu : P.underlying T = some .string) (s : ByteArray) (i : Nat) (hi : i < s.size) (w : World) :
    (Instr.index T (.string s) (.int .i64 (i : Int))).run P w = .ok (.int .u8 ((s.data.toList.getD i 0).toNat : Int)) w := by
  have h : s[i]? = some (s.data.toList.getD i 0) := by
    have h2 : i < s.data.toList.length := by rw [← Lib.size_eq]; exact hi
    rw [getElem?_pos s i hi, List.getD_eq_getElem?_getD, List.getElem?_eq_getElem h2]
    rfl
  have h0 : (0 : Int) ≤ (i : Int) := by omega
  simp only [Instr.index, asIntOf, Sem.run_bind, Sem.run_pure, Result.andThen_ok, run_underlying hu w, if_pos h0, Int.toNat_natCast, h]

/-- string(b), where b's cells are the bytes l. -/
theorem conv_bytes {P : Program} {src dst e : TypeId} (hs : P.underlying src = some (.slice e)) (he : P.underlying e = some (.int .u8)) (hd : P.underlying dst = some .string) {w : World} {b n T : Nat} {f : Nat → Value} (h : Has w b n T f)
    (o cap k : Nat) (l : List UInt8) (hk : l.length = k) (hl : o + l.length ≤ n) (hf : ∀ j, j < l.length → f (o + j) = .int .u8 ((l.getD j 0).toNat : Int)) :
    (convert src dst (.slice (some ⟨b, o, none⟩) k cap)).run P w = .ok (.string ⟨l.toArray⟩) w := by
  subst hk
  refine run_convert_bytes_back w src dst e _ cap l hs he hd fun j hj => ?_
  rw [Addr.add_mid, h.cell _ (by omega), hf j hj]
  simp [hj]

/-- n elements of one cell each lie where a slice's address points; element i is f i. -/
def SlAt (w : World) (A : Option Addr) (n : Nat) (f : Nat → Value) : Prop :=
  n = 0 ∨ ∃ b o, A = some ⟨b, o, none⟩ ∧ b < w.heap.size ∧ ∀ i, i < n → w.cell? ⟨b, o + i, none⟩ = some (f i)

theorem SlAt.fr {w w' : World} {A : Option Addr} {n : Nat} {f : Nat → Value} (h : SlAt w A n f) (k : Fr Nil w w') : SlAt w' A n f := by
  rcases h with h | ⟨b, o, h1, h2, h3⟩
  · exact .inl h
  · exact .inr ⟨b, o, h1, Nat.lt_of_lt_of_le h2 k.size, fun i hi => by rw [k.cell (p := ⟨b, o + i, none⟩) h2 (fun h => h)]; exact h3 i hi⟩

theorem SlAt.congr {w : World} {A : Option Addr} {n : Nat} {f g : Nat → Value} (h : SlAt w A n f) (e : ∀ i, i < n → f i = g i) : SlAt w A n g := by
  rcases h with h | ⟨b, o, h1, h2, h3⟩
  · exact .inl h
  · exact .inr ⟨b, o, h1, h2, fun i hi => by rw [h3 i hi, e i hi]⟩

theorem SlAt.at {w : World} {A : Option Addr} {n : Nat} {f : Nat → Value} (h : SlAt w A n f) (hn : 0 < n) : ∃ b o, A = some ⟨b, o, none⟩ ∧ b < w.heap.size ∧ ∀ i, i < n → w.cell? ⟨b, o + i, none⟩ = some (f i) := by
  rcases h with h | h
  · omega
  · exact h

theorem Has.sl {w : World} {b n T : Nat} {f : Nat → Value} (h : Has w b n T f) (o k : Nat) (hk : o + k ≤ n) : SlAt w (some ⟨b, o, none⟩) k (fun i => f (o + i)) :=
  .inr ⟨b, o, rfl, h.lt, fun i hi => h.cell _ (by omega)⟩

/-- A string's size, for a loop's measure. -/
def strLen : Value → Nat
  | .string s => s.size
  | _ => 0

/-- A slice's length, for a loop's measure. -/
def sliceLen : Value → Nat
  | .slice _ n _ => n
  | _ => 0

end Go.Proofs.YtldiecblcnoleaaDoor.Mem
