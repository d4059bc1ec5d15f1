/- A region that draws its order, walked by hand: operations that yield one value in every world of a class S are taken first, in any order; what is left comes one by one, where only one may come. Conditions: S holds behind every operation that is carried out; the region does not panic. -/
import Derived.Test.YtldiecblcnoleaaDoorMem
import Derived.OrdersHeld
namespace Go.Proofs.YtldiecblcnoleaaDoor.Held
open Go

/-- Only the ordinary end. -/
def Only (K : Act → World → Prop) : Exit → Act → World → Prop
  | .normal, a, w => K a w
  | _, _, _ => False

section
variable {P : Program} {ops : Array Oper} {md : Region.Mode} {S : World → Prop} {Q : Act → World → Prop}

theorem start {id : Nat} {Q : Exit → Act → World → Prop} {a : Act} {w : World} {l : List Oper} (S : World → Prop) (hm : P.follows .mixedOrders = true)
    (h : wpAnyH P .any l.toArray (Only (Q .normal)) S l.length (Array.replicate l.length false) a w.drew) : (Code.region id l.toArray true).wp P Q a w := by
  refine Code.wp_mono (Q := Only (Q .normal)) (fun e a w h => ?_) (wp_region_held hm (by simpa using h))
  cases e <;> first | exact h | exact (h : False).elim

/-- Operation i is taken first. -/
theorem take (i : Nat) {oi : Oper} (v : Value) {fuel : Nat} {listed : Array Bool} {a : Act} {w : World} (hi : ops[i]? = some oi)
    (hs : Region.noSelect ops = true) (hf : Region.free md ops listed i = true) (hr : (Region.ready md ops listed).contains i = true) (hg : oi.guard = none)
    (hv : ∀ w, S w → (execOp a.eval oi).run P w = .ok (.value v) w) (hS : S w)
    (h : wpAnyH P md ops (Only Q) S fuel (listed.setIfInBounds i true) (a.put oi.dst v) w) : wpAnyH P md ops (Only Q) S (fuel + 1) listed a w :=
  wpAnyH_take hi hs hf hr (fun _ _ _ h => h) (.inl ⟨by simp [Region.wanted, hg], hv⟩) hS h

/-- .. whatever its guard says. -/
theorem takeIf (i : Nat) {oi : Oper} (v : Value) {fuel : Nat} {listed : Array Bool} {a : Act} {w : World} (hi : ops[i]? = some oi)
    (hs : Region.noSelect ops = true) (hf : Region.free md ops listed i = true) (hr : (Region.ready md ops listed).contains i = true) (hg : Region.wanted oi (yielded ops a.tmps) = true)
    (hv : ∀ w, S w → (execOp a.eval oi).run P w = .ok (.value v) w) (hS : S w)
    (h : wpAnyH P md ops (Only Q) S fuel (listed.setIfInBounds i true) (a.put oi.dst v) w) : wpAnyH P md ops (Only Q) S (fuel + 1) listed a w :=
  wpAnyH_take hi hs hf hr (fun _ _ _ h => h) (.inl ⟨hg, hv⟩) hS h

theorem skip (i : Nat) {oi : Oper} {fuel : Nat} {listed : Array Bool} {a : Act} {w : World} (hi : ops[i]? = some oi)
    (hs : Region.noSelect ops = true) (hf : Region.free md ops listed i = true) (hr : (Region.ready md ops listed).contains i = true) (hg : Region.wanted oi (yielded ops a.tmps) = false) (hS : S w)
    (h : wpAnyH P md ops (Only Q) S fuel (listed.setIfInBounds i true) (a.put oi.dst undef) w) : wpAnyH P md ops (Only Q) S (fuel + 1) listed a w :=
  wpAnyH_take hi hs hf hr (fun _ _ _ h => h) (.inr ⟨hg, rfl⟩) hS h

theorem one (i : Nat) {oi : Oper} {fuel : Nat} {listed : Array Bool} {a : Act} {w : World} (hi : ops[i]? = some oi) (hr : Region.ready md ops listed = [i])
    (hg : Region.wanted oi (yielded ops a.tmps) = true) (h : oi.wp P a w (fun a' w' => S w' ∧ wpAnyH P md ops (Only Q) S fuel (listed.setIfInBounds i true) a' w') (Only Q)) : wpAnyH P md ops (Only Q) S (fuel + 1) listed a w := by
  refine wpAnyH_all hr (by simp) fun j hj => ?_
  obtain rfl : j = i := by simpa using hj
  unfold wpOp
  simp only [hi]
  rw [if_pos hg]
  exact .inl h

/-- The one operation that may come is a call. -/
theorem call (i : Nat) {oi : Oper} {fuel : Nat} {listed : Array Bool} {a : Act} {w : World} (f : FuncId) (args : Array Value) (hi : ops[i]? = some oi) (hr : Region.ready md ops listed = [i])
    (hg : Region.wanted oi (yielded ops a.tmps) = true) (he : (execOp a.eval oi).run P w = .ok (.enter f args) w)
    (h : Calls P f args w fun e w' => ∃ v, e = .returned v ∧ S w' ∧ wpAnyH P md ops (Only Q) S fuel (listed.setIfInBounds i true) (a.put oi.dst v) w') : wpAnyH P md ops (Only Q) S (fuel + 1) listed a w := by
  refine one i hi hr hg ?_
  unfold Oper.wp
  rw [he]
  refine h.mono fun e w' hh => ?_
  obtain ⟨v, rfl, h1, h2⟩ := hh
  exact ⟨h1, h2⟩

/-- .. yields a value, and leads to another world. -/
theorem value (i : Nat) {oi : Oper} {fuel : Nat} {listed : Array Bool} {a : Act} {w : World} (v : Value) (w' : World) (hi : ops[i]? = some oi) (hr : Region.ready md ops listed = [i])
    (hg : Region.wanted oi (yielded ops a.tmps) = true) (he : (execOp a.eval oi).run P w = .ok (.value v) w') (hS : S w')
    (h : wpAnyH P md ops (Only Q) S fuel (listed.setIfInBounds i true) (a.put oi.dst v) w') : wpAnyH P md ops (Only Q) S (fuel + 1) listed a w := by
  refine one i hi hr hg ?_
  unfold Oper.wp
  rw [he]
  exact ⟨hS, h⟩

/-- .. by a law of the plain walk. -/
theorem list (i : Nat) {oi : Oper} {fuel : Nat} {listed : Array Bool} {a : Act} {w : World} (hi : ops[i]? = some oi) (hr : Region.ready md ops listed = [i]) (hg : Region.wanted oi (yielded ops a.tmps) = true)
    (h : wpList P ops (Only fun a' w' => S w' ∧ wpAnyH P md ops (Only Q) S fuel (listed.setIfInBounds i true) a' w') [oi] a w) : wpAnyH P md ops (Only Q) S (fuel + 1) listed a w := by
  refine one i hi hr hg ?_
  unfold wpList at h
  rw [if_pos hg] at h
  rcases h with h | ⟨_, a', w', h⟩
  · unfold Oper.wp at *
    generalize (execOp a.eval oi).run P w = r at *
    cases r with
    | ok n w' =>
      cases n <;> simp only [Oper.upon] at h ⊢ <;>
        first
          | exact h
          | exact Calls.mono h (fun e w'' he => by cases e <;> first | exact he | exact (he : False).elim | (obtain ⟨_, _, hf⟩ := he; exact (hf : False).elim))
          | exact Rows.mono h (fun _ _ he => he)
    | halt x w' => cases x <;> simp only [Oper.upon] at h ⊢ <;> exact h
  · exact (h : False).elim

theorem done {listed : Array Bool} {a : Act} {w : World} {fuel : Nat} (hr : Region.ready md ops listed = []) (h : Q a w) : wpAnyH P md ops (Only Q) S fuel listed a w :=
  wpAnyH_done hr h fuel

theorem nil {K : Act → World → Prop} {a : Act} {w : World} (h : K a w) : wpList P ops (Only K) [] a w := h

/-- The walk in the text's order, from operation k on. -/
def Walk (P : Program) (md : Region.Mode) (ops : Array Oper) (S : World → Prop) (Q : Act → World → Prop) (k : Nat) (listed : Array Bool) (l : List Oper) (a : Act) (w : World) : Prop :=
  (∀ j, l[j]? = ops[k + j]?) → wpAnyH P md ops (Only Q) S l.length listed a w

theorem walk {id : Nat} {Q : Exit → Act → World → Prop} {a : Act} {w : World} {l : List Oper} (S : World → Prop) (hm : P.follows .mixedOrders = true)
    (h : Walk P .any l.toArray S (Q .normal) 0 (Array.replicate l.length false) l a w.drew) : (Code.region id l.toArray true).wp P Q a w :=
  start S hm (h (fun j => by simp))

section
variable {k : Nat} {listed : Array Bool} {o : Oper} {rest : List Oper} {a : Act} {w : World}

theorem next (hl : ∀ j, (o :: rest)[j]? = ops[k + j]?) : ops[k]? = some o ∧ ∀ j, rest[j]? = ops[k + 1 + j]? :=
  ⟨by simpa using (hl 0).symm, fun j => by have := hl (j + 1); simpa [Nat.add_assoc, Nat.add_comm 1 j] using this⟩

theorem Walk.take (v : Value) (hs : Region.noSelect ops = true) (hf : Region.free md ops listed k = true) (hr : (Region.ready md ops listed).contains k = true) (hg : o.guard = none)
    (hv : ∀ w, S w → (execOp a.eval o).run P w = .ok (.value v) w) (hS : S w) (h : Walk P md ops S Q (k + 1) (listed.setIfInBounds k true) rest (a.put o.dst v) w) : Walk P md ops S Q k listed (o :: rest) a w :=
  fun hl => Held.take k v (next hl).1 hs hf hr hg hv hS (h (next hl).2)

theorem Walk.takeIf (v : Value) (hs : Region.noSelect ops = true) (hf : Region.free md ops listed k = true) (hr : (Region.ready md ops listed).contains k = true) (hg : Region.wanted o (yielded ops a.tmps) = true)
    (hv : ∀ w, S w → (execOp a.eval o).run P w = .ok (.value v) w) (hS : S w) (h : Walk P md ops S Q (k + 1) (listed.setIfInBounds k true) rest (a.put o.dst v) w) : Walk P md ops S Q k listed (o :: rest) a w :=
  fun hl => Held.takeIf k v (next hl).1 hs hf hr hg hv hS (h (next hl).2)

theorem Walk.skip (hs : Region.noSelect ops = true) (hf : Region.free md ops listed k = true) (hr : (Region.ready md ops listed).contains k = true) (hg : Region.wanted o (yielded ops a.tmps) = false)
    (hS : S w) (h : Walk P md ops S Q (k + 1) (listed.setIfInBounds k true) rest (a.put o.dst undef) w) : Walk P md ops S Q k listed (o :: rest) a w :=
  fun hl => Held.skip k (next hl).1 hs hf hr hg hS (h (next hl).2)

theorem Walk.call (f : FuncId) (args : Array Value) (hr : Region.ready md ops listed = [k]) (hg : o.guard = none) (he : (execOp a.eval o).run P w = .ok (.enter f args) w)
    (h : Calls P f args w fun e w' => ∃ v, e = .returned v ∧ S w' ∧ Walk P md ops S Q (k + 1) (listed.setIfInBounds k true) rest (a.put o.dst v) w') : Walk P md ops S Q k listed (o :: rest) a w :=
  fun hl => Held.call k f args (next hl).1 hr (by simp [Region.wanted, hg]) he (h.mono fun _ _ ⟨v, h1, h2, h3⟩ => ⟨v, h1, h2, h3 (next hl).2⟩)

theorem Walk.value (v : Value) (w' : World) (hr : Region.ready md ops listed = [k]) (hg : o.guard = none) (he : (execOp a.eval o).run P w = .ok (.value v) w') (hS : S w')
    (h : Walk P md ops S Q (k + 1) (listed.setIfInBounds k true) rest (a.put o.dst v) w') : Walk P md ops S Q k listed (o :: rest) a w :=
  fun hl => Held.value k v w' (next hl).1 hr (by simp [Region.wanted, hg]) he hS (h (next hl).2)

theorem Walk.callIf (f : FuncId) (args : Array Value) (hr : Region.ready md ops listed = [k]) (hg : Region.wanted o (yielded ops a.tmps) = true) (he : (execOp a.eval o).run P w = .ok (.enter f args) w)
    (h : Calls P f args w fun e w' => ∃ v, e = .returned v ∧ S w' ∧ Walk P md ops S Q (k + 1) (listed.setIfInBounds k true) rest (a.put o.dst v) w') : Walk P md ops S Q k listed (o :: rest) a w :=
  fun hl => Held.call k f args (next hl).1 hr hg he (h.mono fun _ _ ⟨v, h1, h2, h3⟩ => ⟨v, h1, h2, h3 (next hl).2⟩)

theorem Walk.valueIf (v : Value) (w' : World) (hr : Region.ready md ops listed = [k]) (hg : Region.wanted o (yielded ops a.tmps) = true) (he : (execOp a.eval o).run P w = .ok (.value v) w') (hS : S w')
    (h : Walk P md ops S Q (k + 1) (listed.setIfInBounds k true) rest (a.put o.dst v) w') : Walk P md ops S Q k listed (o :: rest) a w :=
  fun hl => Held.value k v w' (next hl).1 hr hg he hS (h (next hl).2)

/-- .. is a store. -/
theorem Walk.skipS (w' : World) (hr : Region.ready md ops listed = [k]) (hg : o.guard = none) (he : (execOp a.eval o).run P w = .ok .skip w') (hS : S w')
    (h : Walk P md ops S Q (k + 1) (listed.setIfInBounds k true) rest (a.put o.dst undef) w') : Walk P md ops S Q k listed (o :: rest) a w :=
  fun hl => Held.one k (next hl).1 hr (by simp [Region.wanted, hg]) (by
    unfold Oper.wp
    rw [he]
    exact ⟨hS, h (next hl).2⟩)

theorem Walk.list (hr : Region.ready md ops listed = [k]) (hg : o.guard = none)
    (h : wpList P ops (Only fun a' w' => S w' ∧ Walk P md ops S Q (k + 1) (listed.setIfInBounds k true) rest a' w') [o] a w) : Walk P md ops S Q k listed (o :: rest) a w :=
  fun hl => Held.list k (next hl).1 hr (by simp [Region.wanted, hg]) (by
    have hm : ∀ (a : Act) (w : World), (Only fun a' w' => S w' ∧ Walk P md ops S Q (k + 1) (listed.setIfInBounds k true) rest a' w') .normal a w → (Only fun a' w' => S w' ∧ wpAnyH P md ops (Only Q) S rest.length (listed.setIfInBounds k true) a' w') .normal a w := fun a w h => ⟨h.1, h.2 (next hl).2⟩
    unfold wpList at h ⊢
    rw [if_pos (by simp [Region.wanted, hg])] at h ⊢
    rcases h with h | ⟨_, a', w', h⟩
    · left
      unfold Oper.wp at *
      generalize (execOp a.eval o).run P w = r at *
      cases r with
      | ok n w' =>
        cases n <;> simp only [Oper.upon] at h ⊢ <;>
          first
            | exact hm _ _ h
            | exact Calls.mono h (fun e w'' he => by cases e <;> first | exact hm _ _ he | exact (he : False).elim | (obtain ⟨_, _, hf⟩ := he; exact (hf : False).elim))
            | exact Rows.mono h (fun _ _ he => hm _ _ he)
      | halt x w' => cases x <;> simp only [Oper.upon] at h ⊢ <;> exact (h : False).elim
    · exact (h : False).elim)

theorem Walk.nil (hr : Region.ready md ops listed = []) (h : Q a w) : Walk P md ops S Q k listed [] a w :=
  fun _ => Held.done hr h

end
/-- The walk in an order of one's own: the operations that are left, each with its place. -/
def Way (P : Program) (md : Region.Mode) (ops : Array Oper) (S : World → Prop) (Q : Act → World → Prop) (listed : Array Bool) (l : List (Oper × Nat)) (a : Act) (w : World) : Prop :=
  (∀ p ∈ l, ops[p.2]? = some p.1) → wpAnyH P md ops (Only Q) S l.length listed a w

theorem way {id : Nat} {Q : Exit → Act → World → Prop} {a : Act} {w : World} {l : List Oper} (S : World → Prop) (hm : P.follows .mixedOrders = true)
    (h : Way P .any l.toArray S (Q .normal) (Array.replicate l.length false) l.zipIdx a w.drew) : (Code.region id l.toArray true).wp P Q a w :=
  start S hm (by
    have := h (fun p hp => by
      obtain ⟨o, i⟩ := p
      simpa using (List.mem_zipIdx_iff_getElem?.1 hp))
    simpa using this)

section
variable {listed : Array Bool} {x : Oper × Nat} {rest : List (Oper × Nat)} {a : Act} {w : World}

theorem Way.perm {l l' : List (Oper × Nat)} (hp : l.Perm l') (h : Way P md ops S Q listed l' a w) : Way P md ops S Q listed l a w := by
  intro hl
  have := h (fun p hm => hl p (hp.mem_iff.2 hm))
  rwa [hp.length_eq]

theorem Way.bring1 {b : Oper × Nat} (h : Way P md ops S Q listed (b :: x :: rest) a w) : Way P md ops S Q listed (x :: b :: rest) a w := Way.perm (List.Perm.swap _ _ _) h
theorem Way.bring2 {b c : Oper × Nat} (h : Way P md ops S Q listed (c :: x :: b :: rest) a w) : Way P md ops S Q listed (x :: b :: c :: rest) a w :=
  Way.perm (show (x :: b :: c :: rest).Perm (c :: x :: b :: rest) from (List.perm_middle (l₁ := [x, b]))) h
theorem Way.bring3 {b c d : Oper × Nat} (h : Way P md ops S Q listed (d :: x :: b :: c :: rest) a w) : Way P md ops S Q listed (x :: b :: c :: d :: rest) a w :=
  Way.perm (show (x :: b :: c :: d :: rest).Perm (d :: x :: b :: c :: rest) from (List.perm_middle (l₁ := [x, b, c]))) h
theorem Way.bring4 {b c d e : Oper × Nat} (h : Way P md ops S Q listed (e :: x :: b :: c :: d :: rest) a w) : Way P md ops S Q listed (x :: b :: c :: d :: e :: rest) a w :=
  Way.perm (show (x :: b :: c :: d :: e :: rest).Perm (e :: x :: b :: c :: d :: rest) from (List.perm_middle (l₁ := [x, b, c, d]))) h

theorem Way.take (v : Value) (hs : Region.noSelect ops = true) (hf : Region.free md ops listed x.2 = true) (hr : (Region.ready md ops listed).contains x.2 = true) (hg : x.1.guard = none)
    (hv : ∀ w, S w → (execOp a.eval x.1).run P w = .ok (.value v) w) (hS : S w) (h : Way P md ops S Q (listed.setIfInBounds x.2 true) rest (a.put x.1.dst v) w) : Way P md ops S Q listed (x :: rest) a w :=
  fun hl => Held.take x.2 v (hl x (by simp)) hs hf hr hg hv hS (h (fun p hp => hl p (List.mem_cons_of_mem _ hp)))

theorem Way.takeIf (v : Value) (hs : Region.noSelect ops = true) (hf : Region.free md ops listed x.2 = true) (hr : (Region.ready md ops listed).contains x.2 = true) (hg : Region.wanted x.1 (yielded ops a.tmps) = true)
    (hv : ∀ w, S w → (execOp a.eval x.1).run P w = .ok (.value v) w) (hS : S w) (h : Way P md ops S Q (listed.setIfInBounds x.2 true) rest (a.put x.1.dst v) w) : Way P md ops S Q listed (x :: rest) a w :=
  fun hl => Held.takeIf x.2 v (hl x (by simp)) hs hf hr hg hv hS (h (fun p hp => hl p (List.mem_cons_of_mem _ hp)))

theorem Way.skip (hs : Region.noSelect ops = true) (hf : Region.free md ops listed x.2 = true) (hr : (Region.ready md ops listed).contains x.2 = true) (hg : Region.wanted x.1 (yielded ops a.tmps) = false)
    (hS : S w) (h : Way P md ops S Q (listed.setIfInBounds x.2 true) rest (a.put x.1.dst undef) w) : Way P md ops S Q listed (x :: rest) a w :=
  fun hl => Held.skip x.2 (hl x (by simp)) hs hf hr hg hS (h (fun p hp => hl p (List.mem_cons_of_mem _ hp)))

theorem Way.callIf (f : FuncId) (args : Array Value) (hr : Region.ready md ops listed = [x.2]) (hg : Region.wanted x.1 (yielded ops a.tmps) = true) (he : (execOp a.eval x.1).run P w = .ok (.enter f args) w)
    (h : Calls P f args w fun e w' => ∃ v, e = .returned v ∧ S w' ∧ Way P md ops S Q (listed.setIfInBounds x.2 true) rest (a.put x.1.dst v) w') : Way P md ops S Q listed (x :: rest) a w :=
  fun hl => Held.call x.2 f args (hl x (by simp)) hr hg he (h.mono fun _ _ ⟨v, h1, h2, h3⟩ => ⟨v, h1, h2, h3 (fun p hp => hl p (List.mem_cons_of_mem _ hp))⟩)

theorem Way.valueIf (v : Value) (w' : World) (hr : Region.ready md ops listed = [x.2]) (hg : Region.wanted x.1 (yielded ops a.tmps) = true) (he : (execOp a.eval x.1).run P w = .ok (.value v) w') (hS : S w')
    (h : Way P md ops S Q (listed.setIfInBounds x.2 true) rest (a.put x.1.dst v) w') : Way P md ops S Q listed (x :: rest) a w :=
  fun hl => Held.value x.2 v w' (hl x (by simp)) hr hg he hS (h (fun p hp => hl p (List.mem_cons_of_mem _ hp)))

/-- The one operation that may come is a store. -/
theorem Way.skipIf (w' : World) (hr : Region.ready md ops listed = [x.2]) (hg : Region.wanted x.1 (yielded ops a.tmps) = true) (he : (execOp a.eval x.1).run P w = .ok .skip w') (hS : S w')
    (h : Way P md ops S Q (listed.setIfInBounds x.2 true) rest (a.put x.1.dst undef) w') : Way P md ops S Q listed (x :: rest) a w :=
  fun hl => Held.one x.2 (hl x (by simp)) hr hg (by
    unfold Oper.wp
    rw [he]
    exact ⟨hS, h (fun p hp => hl p (List.mem_cons_of_mem _ hp))⟩)

theorem Way.list (hr : Region.ready md ops listed = [x.2]) (hg : Region.wanted x.1 (yielded ops a.tmps) = true)
    (h : wpList P ops (Only fun a' w' => S w' ∧ Way P md ops S Q (listed.setIfInBounds x.2 true) rest a' w') [x.1] a w) : Way P md ops S Q listed (x :: rest) a w :=
  fun hl => Held.one x.2 (hl x (by simp)) hr hg (by
    unfold wpList at h
    rw [if_pos hg] at h
    rcases h with h | ⟨_, a', w', h⟩
    · refine Oper.wp_mono (K := wpList P ops (Only fun a' w' => S w' ∧ Way P md ops S Q (listed.setIfInBounds x.2 true) rest a' w') []) (fun a w h => ⟨h.1, h.2 (fun p hp => hl p (List.mem_cons_of_mem _ hp))⟩) ?_
      unfold Oper.wp at *
      generalize (execOp a.eval x.1).run P w = r at *
      cases r with
      | ok n w' =>
        cases n <;> simp only [Oper.upon] at h ⊢ <;>
          first
            | exact h
            | exact Calls.mono h (fun e w'' he => by cases e <;> first | exact he | exact (he : False).elim | (obtain ⟨_, _, hf⟩ := he; exact (hf : False).elim))
            | exact Rows.mono h (fun _ _ he => he)
      | halt x w' => cases x <;> simp only [Oper.upon] at h ⊢ <;> exact (h : False).elim
    · exact (h : False).elim)

theorem Way.nil (hr : Region.ready md ops listed = []) (h : Q a w) : Way P md ops S Q listed [] a w :=
  fun _ => Held.done hr h

end
end
end Go.Proofs.YtldiecblcnoleaaDoor.Held
