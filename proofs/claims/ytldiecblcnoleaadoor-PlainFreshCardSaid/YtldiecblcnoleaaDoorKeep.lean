/- Slices of one's own side by side: what an append, a store, leaves of the others and of the slice that was appended to. No condition. -/
import Derived.Test.YtldiecblcnoleaaDoorOwn
import Derived.Maps.AppendAt
namespace Go.Proofs.YtldiecblcnoleaaDoor.Mem
open Go.RowKit
set_option linter.unusedVariables false

/-- Two slices lie in blocks apart. -/
def Apart (v u : Value) : Prop := ∀ k, v.ownBlock = some k → u.ownBlock = some k → False

theorem Apart.symm {v u : Value} (h : Apart v u) : Apart u v := fun k h1 h2 => h k h2 h1

theorem Own.type_of {w : World} {B : Nat} {v : Value} {e size n : Nat} {f : Nat → Value} (h : Own w B v e size n f) {k : Nat} (hk : v.ownBlock = some k) : ∃ N f', Has w k N e f' := by
  rcases h.open with ⟨rfl, _⟩ | ⟨g, cap, N, f', rfl, _, _, _, _, hH, _⟩
  · cases hk
  · simp only [Value.ownBlock, Option.some.injEq] at hk
    subst hk
    exact ⟨N, f', hH⟩

theorem Has.type_eq {w : World} {b n n' T T' : Nat} {f f' : Nat → Value} (h : Has w b n T f) (h' : Has w b n' T' f') : T = T' := by
  obtain ⟨arr, h1, _⟩ := h
  obtain ⟨arr', h2, _⟩ := h'
  rw [h1] at h2
  injection h2 with h2
  injection h2

theorem Has.size_eq {w : World} {b n n' T T' : Nat} {f f' : Nat → Value} (h : Has w b n T f) (h' : Has w b n' T' f') : n = n' := by
  obtain ⟨arr, h1, h2, _⟩ := h
  obtain ⟨arr', h3, h4, _⟩ := h'
  rw [h1] at h3
  injection h3 with h3
  injection h3 with h3
  subst h3
  omega

/-- Elements of different types lie apart. -/
theorem Own.apart {w : World} {B B' : Nat} {v u : Value} {e e' s s' n n' : Nat} {f f' : Nat → Value} (h : Own w B v e s n f) (h' : Own w B' u e' s' n' f') (ne : e ≠ e') : Apart v u := fun k h1 h2 => by
  obtain ⟨_, _, hH⟩ := h.type_of h1
  obtain ⟨_, _, hH'⟩ := h'.type_of h2
  exact ne (hH.type_eq hH')

/-- What is newer lies apart. -/
theorem Own.apart_new {w w' : World} {B B' : Nat} {v u : Value} {e e' s s' n n' : Nat} {f f' : Nat → Value} (h : Own w B v e s n f) (h' : Own w' B' u e' s' n' f') (hB : w.heap.size ≤ B') : Apart v u := fun k h1 h2 => by
  have h3 := (h.block h1).2
  have h4 := (h'.block h2).1
  omega

theorem Own.apart_at {w : World} {B e sz n b : Nat} {v u : Value} {f : Nat → Value} (h : Own w B v e sz n f) (hu : u.ownBlock = some b) (hb : w.heap.size ≤ b) : Apart v u := fun k h1 h2 => by
  have h3 := (h.block h1).2
  rw [hu] at h2
  injection h2 with h2
  omega

theorem Own.other {w w' : World} {B : Nat} {v u : Value} {e size n : Nat} {f : Nat → Value} (h : Own w B v e size n f) (k : Fr (fun k => u.ownBlock = some k) w w') (a : Apart v u) : Own w' B v e size n f :=
  h.fr k fun i _ h1 h2 => a i h1 h2

/-- A cell of one's own slice is written. -/
theorem Own.put {w : World} {B : Nat} {v : Value} {e n : Nat} {f : Nat → Value} (h : Own w B v e 1 n f) {g c : Nat} (hv : v = .slice (some ⟨g, 0, none⟩) n c) (j : Nat) (u : Value) :
    Own (w.setCell ⟨g, j, none⟩ u) B v e 1 n (fun t => if t = j then u else f t) := by
  rcases h.open with ⟨rfl, _⟩ | ⟨g', cap, N, f', rfl, hB, hc, hm, hN, hH, hf⟩
  · cases hv
  · injection hv with h1 _ _
    injection h1 with h1
    injection h1 with h1
    subst h1
    refine ((hH.put j u).own hB hN hc hm).congr fun i hi => ?_
    show (if i = j then u else f' i) = _
    rw [hf i hi]

/-- Two slices in one block: what the longer holds, the shorter holds. -/
theorem Own.pre {w w' : World} {B : Nat} {v x : Value} {e c n : Nat} {f h h' : Nat → Value} (hv : Own w B v e 1 c f) (hx : Own w B x e 1 n h) (hb : v.ownBlock = x.ownBlock) (hc : c ≤ n) (hx' : Own w' B x e 1 n h') : Own w' B v e 1 c h' := by
  rcases hv.open with ⟨rfl, rfl⟩ | ⟨g, cap, N, f1, rfl, hB, h1, h2, h3, hH, _⟩
  · exact Own.nil _ _ _ _ _
  · rcases hx.open with ⟨rfl, _⟩ | ⟨g', cap', N', f2, rfl, hB', h1', h2', h3', hH', _⟩
    · cases hb
    · have hg : g = g' := by simpa [Value.ownBlock] using hb
      subst hg
      have hNN := hH.size_eq hH'
      rcases hx'.open with ⟨e0, _⟩ | ⟨g'', cap'', N'', f3, e0, _, _, _, h3'', hH'', hf''⟩
      · cases e0
      · injection e0 with e1 _ e3
        injection e1 with e1
        injection e1 with e1
        subst e1
        subst e3
        exact (hH''.own hB (by omega) h1 h2).congr fun j hj => hf'' j (by omega)

theorem run_append_keep {P : Program} (w : World) (B : Nat) (t ty e size bytes : Nat) (z : Value) (ht : P.underlying t = some (.slice e)) (hi : (P.info? e).map (fun i => (i.zero, i.size, i.bytes)) = some (some z, size, bytes)) (hzs : z.cells.size = size) (hsz : 0 < size)
    (v : Value) (n : Nat) (f : Nat → Value) (hown : Own w B v e size n f) (b off m c : Nat) (g : Nat → Value) (hnews : ∀ j, j < m * size → w.cell? ⟨b, off + j, none⟩ = some (g j)) (h1 : ∀ j, j < m * size → (g j).oneCell' = true)
    (h63 : n + m ≤ 9223372036854775807) (hbytes : (n + m) * bytes ≤ 140737488355328) (hB : B ≤ w.heap.size) :
    ∃ v' w', (Builtin.append_ #[t, t] ty #[v, .slice (some ⟨b, off, none⟩) m c]).run P w = .ok v' w' ∧ Own w' B v' e size (n + m) (joinF (n * size) f g) ∧ Fr (fun k => v.ownBlock = some k) w w' ∧
      Own w' B v e size n f ∧ (v'.ownBlock = v.ownBlock ∨ v'.ownBlock = some w.heap.size) := by
  obtain ⟨i, hi0, hz0, hz1, hz2⟩ := info_parts hi
  have hnews' : ∀ j u, (cellsF (m * size) g)[j]? = some u → w.cell? ((⟨b, off, none⟩ : Addr).add j) = some u := fun j u hu => by
    have hj : j < m * size := by rw [← cellsF_length (m * size) g]; exact (List.getElem?_eq_some_iff.1 hu).1
    rw [cellsF_get _ _ _ hj] at hu
    rw [Addr.add_mid, hnews j hj, hu]
  have h63' : n + m ≤ maxLen := by simpa [maxLen] using h63
  obtain ⟨v', w', hr, h2, h3, _, h5⟩ := run_append_own_at (P := P) w B t ty e i z size bytes ht hi0 hz0 hz1 hz2 hzs hsz v n (cellsF (n * size) f) hown ⟨b, off, none⟩ m c (cellsF (m * size) g) (cellsF_length _ _) hnews' (cellsF_one h1) h63' hbytes hB
  rw [cellsF_join, ← Nat.add_mul] at h2
  refine ⟨v', w', hr, h2, Fr.ofGrown h3, ?_, h5⟩
  rcases hown.open with ⟨rfl, rfl⟩ | ⟨gb, cap, N, f', rfl, hg, hnc, hcm, hN, hH, hf'⟩
  · exact Own.nil _ _ _ _ _
  · by_cases hroom : n + m ≤ cap
    · have hheap := hH.heap
      have hfit : n * i.size + (cellsF (m * size) g).length ≤ (cellsF N f').toArray.size := by
        rw [cellsF_length, List.size_toArray, cellsF_length, hN, hz1, ← Nat.add_mul]
        exact Nat.mul_le_mul_right _ hroom
      have hr2 := run_append_room (P := P) (w := w) t ty e i ht hi0 gb n cap _ hheap ⟨b, off, none⟩ m c (cellsF (m * size) g) (by rw [cellsF_length, hz1]) hnews' (cellsF_one h1) hroom hfit
      rw [hr] at hr2
      injection hr2 with _ hw
      subst hw
      refine ⟨by rw [cellsF_length], .inr ⟨gb, cap, _, rfl, hg, setRow_heap w gb _ _ e _ hheap, hnc, hcm, ?_, ?_⟩⟩
      · simp only [List.size_toArray, List.length_append, List.length_take, List.length_drop, cellsF_length]
        rw [List.size_toArray, cellsF_length, cellsF_length] at hfit
        rw [hz1] at hfit ⊢
        omega
      · simp only [List.toList_toArray]
        rw [hz1, List.append_assoc, List.take_append_of_le_length (by rw [List.length_take, cellsF_length, hN]; have := Nat.mul_le_mul_right size hnc; omega), List.take_take, Nat.min_self]
        apply List.ext_getElem?
        intro j
        rw [List.getElem?_take]
        by_cases hj : j < n * size
        · rw [if_pos hj, cellsF_get _ _ _ (by rw [hN]; exact Nat.lt_of_lt_of_le hj (Nat.mul_le_mul_right _ hnc)), cellsF_get _ _ _ hj, hf' j hj]
        · rw [if_neg hj, List.getElem?_eq_none (by rw [cellsF_length]; omega)]
    · have holds : ∀ j u, (cellsF (n * size) f)[j]? = some u → w.cell? ((⟨gb, 0, none⟩ : Addr).add j) = some u := hown.cells (g := gb) rfl
      have hr2 := run_append_grow (P := P) (w := w) t ty e i z ht hi0 hz0 ⟨gb, 0, none⟩ n cap (cellsF (n * size) f) (by rw [cellsF_length, hz1]) holds ⟨b, off, none⟩ m c (cellsF (m * size) g) (by rw [cellsF_length, hz1]) hnews' (by omega) (by omega) (growslice_fits (by omega) (by rw [hz2]; exact hbytes))
      rw [hr] at hr2
      injection hr2 with _ hw
      subst hw
      exact hown.fr0 ((Fr.refl Nil w).drew.alloc _)

/-- append(s, x...), s one's own: the slice that was appended to stays as it was. -/
theorem wpList_append_keep {P : Program} {w : World} {ops : Array Oper} {rest : List Oper} {o : Oper} {a : Act} {Q : Exit → Act → World → Prop} (hgd : o.guard = none) (s x : Operand) (t : TypeId)
    (ho : o.op = .call { callee := .builtin .append, args := #[s, x], argTypes := #[t, t] })
    (B e size bytes : Nat) (z : Value) (ht : P.underlying t = some (.slice e)) (hi : (P.info? e).map (fun i => (i.zero, i.size, i.bytes)) = some (some z, size, bytes)) (hzs : z.cells.size = size) (hsz : 0 < size)
    (v : Value) (n : Nat) (f : Nat → Value) (hs : a.eval s = v) (hown : Own w B v e size n f)
    (b off m c : Nat) (g : Nat → Value) (hx : a.eval x = .slice (some ⟨b, off, none⟩) m c) (hnews : ∀ j, j < m * size → w.cell? ⟨b, off + j, none⟩ = some (g j)) (h1 : ∀ j, j < m * size → (g j).oneCell' = true)
    (h63 : n + m ≤ 9223372036854775807) (hbytes : (n + m) * bytes ≤ 140737488355328) (hB : B ≤ w.heap.size)
    (h : ∀ v' w', Own w' B v' e size (n + m) (joinF (n * size) f g) → Fr (fun k => v.ownBlock = some k) w w' → Own w' B v e size n f → (v'.ownBlock = v.ownBlock ∨ v'.ownBlock = some w.heap.size) → wpList P ops Q rest (a.put o.dst v') w') :
    wpList P ops Q (o :: rest) a w := by
  refine wpList_plain hgd fun K hK => ?_
  obtain ⟨v', w', hr, h2, h3, h4, h5⟩ := run_append_keep (P := P) w B t o.type e size bytes z ht hi hzs hsz v n f hown b off m c g hnews h1 h63 hbytes hB
  unfold Oper.wp execOp
  simp only [ho, resolve, invoke, builtin, Sem.run_bind, Sem.run_pure, Result.andThen_ok, List.map_toArray, List.map_cons, List.map_nil, hs, hx, hr]
  exact hK _ _ (h v' w' h2 h3 h4 h5)

end Go.Proofs.YtldiecblcnoleaaDoor.Mem
