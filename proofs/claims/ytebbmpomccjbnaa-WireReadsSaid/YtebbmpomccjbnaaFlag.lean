/- A region that draws its order and holds ONE store that its other operations neither see nor stand in the way of: one walk in the text's order serves every order. Conditions: the class of worlds before and behind the store; the order's facts (lexB). -/
import Derived.Test.YtebbmpomccjbnaaQTail
namespace Go.Proofs.Ytebbmpomccjbnaa.Flag
open Go

section
variable {P : Program} {ops : Array Oper} {md : Region.Mode} {D : Bool → World → Prop} {s : Nat}

/-- Behind an operation: its value, and a world of class C'. -/
def upon (P : Program) (C' : World → Prop) (w : World) (v : Value) : Result Next → Prop
  | .ok (.value u) w' => C' w' ∧ u = v
  | .ok .skip w' => C' w' ∧ v = undef
  | .ok (.enter f args) w' => w' = w ∧ Calls P f args w (fun e w'' => e = .returned v ∧ C' w'')
  | _ => False

def Serves (P : Program) (o : Oper) (a : Act) (C C' : World → Prop) (v : Value) : Prop := ∀ w, C w → upon P C' w v ((execOp a.eval o).run P w)

/-- Operation i stands before the store in every order. -/
def preOf (md : Region.Mode) (ops : Array Oper) (s i : Nat) : Bool :=
  match ops[s]? with
  | some o => o.after.any fun e => Region.binds md e && e.on == i
  | none => false

/-- Operation i yields v in every world of its class: the store (s) leads from before to behind; every other stays where it is. -/
def Yields (P : Program) (md : Region.Mode) (ops : Array Oper) (D : Bool → World → Prop) (s : Nat) (i : Nat) (o : Oper) (v : Value) (a : Act) : Prop :=
  (Region.wanted o (yielded ops a.tmps) = true ∧ if i = s then Serves P o a (D false) (D true) v else ∀ b, (b = true → preOf md ops s i = false) → Serves P o a (D b) (D b) v) ∨
  (Region.wanted o (yielded ops a.tmps) = false ∧ v = undef ∧ i ≠ s)

def fOp (P : Program) (md : Region.Mode) (ops : Array Oper) (D : Bool → World → Prop) (s : Nat) (i : Nat) (K : Act → Prop) (a : Act) : Prop :=
  match ops[i]? with
  | none => False
  | some o => ∃ v, Yields P md ops D s i o v a ∧ K (a.put o.dst v)

def flag (s : Nat) (listed : Array Bool) : Bool := listed.getD s false

def wpAnyF (P : Program) (md : Region.Mode) (ops : Array Oper) (D : Bool → World → Prop) (s : Nat) (Q : Act → Prop) : Nat → Array Bool → Act → Prop
  | 0, listed, a => Region.ready md ops listed = [] ∧ flag s listed = true ∧ Q a
  | fuel + 1, listed, a =>
    (Region.ready md ops listed = [] → flag s listed = true ∧ Q a) ∧
    ∀ i ∈ Region.ready md ops listed, fOp P md ops D s i (wpAnyF P md ops D s Q fuel (listed.setIfInBounds i true)) a

theorem fOp_mono {i : Nat} {a : Act} {K K' : Act → Prop} (h : ∀ a, K a → K' a) (hh : fOp P md ops D s i K a) : fOp P md ops D s i K' a := by
  unfold fOp at *
  cases ho : ops[i]? with
  | none => rw [ho] at hh; exact hh
  | some o =>
    rw [ho] at hh
    obtain ⟨v, h1, h2⟩ := hh
    exact ⟨v, h1, h _ h2⟩

theorem wp_of_serves {o : Oper} {a : Act} {C C' : World → Prop} {v : Value} {K' : Act → World → Prop} {Q' : Exit → Act → World → Prop} {w : World} (hw : C w) (hh : Serves P o a C C' v)
    (h : ∀ w', C' w' → K' (a.put o.dst v) w') : o.wp P a w K' Q' := by
  have h3 := hh w hw
  unfold Oper.wp
  generalize (execOp a.eval o).run P w = r at *
  cases r with
  | ok n w' =>
    cases n <;> simp only [upon] at h3 <;> simp only [Oper.upon]
    case value u =>
      obtain ⟨e1, e2⟩ := h3
      rw [e2]
      exact h _ e1
    case skip =>
      obtain ⟨e1, e2⟩ := h3
      rw [← e2]
      exact h _ e1
    case enter f args =>
      obtain ⟨e1, hc⟩ := h3
      rw [e1]
      exact hc.mono fun e w'' ⟨he, hw''⟩ => by subst he; exact h _ hw''
  | halt x w' => simp only [upon] at h3

theorem getD_false_of {listed : Array Bool} {i : Nat} (h : listed.getD i true = false) : listed.getD i false = false ∧ i < listed.size := by
  rcases Nat.lt_or_ge i listed.size with h' | h'
  · simp [h'] at h ⊢
    exact h
  · simp [Array.getElem?_eq_none h'] at h

theorem flag_set_self {listed : Array Bool} (h : s < listed.size) : flag s (listed.setIfInBounds s true) = true := by
  unfold flag
  simp [h]

theorem flag_set_ne {listed : Array Bool} {i : Nat} (h : i ≠ s) : flag s (listed.setIfInBounds i true) = flag s listed := by
  unfold flag
  exact getD_set_ne false h

theorem wpOp_of_fOp {i : Nat} {a : Act} {K : Act → Prop} {K' : Act → World → Prop} {Q' : Exit → Act → World → Prop} {w : World} {listed : Array Bool} (hr : i ∈ Region.ready md ops listed) (hpre : flag s listed = true → preOf md ops s i = false) (hD : D (flag s listed) w)
    (h : ∀ a w', D (flag s (listed.setIfInBounds i true)) w' → K a → K' a w') (hh : fOp P md ops D s i K a) : wpOp P ops Q' i K' a w := by
  obtain ⟨hun, o, ho, _⟩ := mem_ready.1 hr
  obtain ⟨hun2, hlt⟩ := getD_false_of hun
  unfold fOp at hh
  rw [ho] at hh
  obtain ⟨v, hy, hK⟩ := hh
  unfold wpOp
  simp only [ho]
  rcases hy with ⟨hw, hs⟩ | ⟨hw, rfl, hne⟩
  · rw [if_pos hw]
    left
    by_cases his : i = s
    · subst his
      rw [if_pos rfl] at hs
      have e : flag i listed = false := hun2
      rw [e] at hD
      rw [flag_set_self hlt] at h
      exact wp_of_serves hD hs fun w' hw' => h _ _ hw' hK
    · rw [if_neg his] at hs
      rw [flag_set_ne his] at h
      exact wp_of_serves hD (hs _ hpre) fun w' hw' => h _ _ hw' hK
  · rw [if_neg (by rw [hw]; decide)]
    rw [flag_set_ne hne] at h
    exact h _ _ hD hK

/-- Once the store is listed, so is all that stands before it. -/
def Led (md : Region.Mode) (ops : Array Oper) (s : Nat) (listed : Array Bool) : Prop := flag s listed = true → ∀ i, preOf md ops s i = true → listed.getD i true = true

theorem getD_mono {listed : Array Bool} {i j : Nat} (h : listed.getD j true = true) : (listed.setIfInBounds i true).getD j true = true := by
  by_cases e : i = j
  · subst e
    rcases Nat.lt_or_ge i listed.size with h' | h'
    · simp [h']
    · simp [Array.getElem?_eq_none h']
  · rw [getD_set_ne true e]
    exact h

theorem Led.set {listed : Array Bool} {i : Nat} (h : Led md ops s listed) (hr : i ∈ Region.ready md ops listed) : Led md ops s (listed.setIfInBounds i true) := by
  intro hf j hj
  by_cases e : i = s
  · subst e
    obtain ⟨_, o, ho, hall⟩ := mem_ready.1 hr
    unfold preOf at hj
    rw [ho] at hj
    simp only [Array.any_eq_true'] at hj
    obtain ⟨ed, he, hb⟩ := hj
    simp only [Bool.and_eq_true, beq_iff_eq] at hb
    have h1 := hall ed he hb.1
    rw [hb.2] at h1
    refine getD_mono ?_
    rcases Nat.lt_or_ge j listed.size with h' | h'
    · simp [h'] at h1 ⊢
      exact h1
    · simp [Array.getElem?_eq_none h']
  · rw [flag_set_ne e] at hf
    exact getD_mono (h hf j hj)

theorem Led.free {listed : Array Bool} {i : Nat} (h : Led md ops s listed) (hr : i ∈ Region.ready md ops listed) : flag s listed = true → preOf md ops s i = false := by
  intro hf
  cases hp : preOf md ops s i with
  | false => rfl
  | true =>
    have := h hf i hp
    rw [(mem_ready.1 hr).1] at this
    cases this

theorem wpAny_of_flag {Q : Act → Prop} {Q' : Exit → Act → World → Prop} (hQ : ∀ a w, D true w → Q a → Q' .normal a w) : ∀ (fuel : Nat) (listed : Array Bool) (a : Act) (w : World), Led md ops s listed → D (flag s listed) w →
    wpAnyF P md ops D s Q fuel listed a → wpAny P md ops Q' fuel listed a w
  | 0, _, _, _, _, hw, h => ⟨h.1, hQ _ _ (by rw [h.2.1] at hw; exact hw) h.2.2⟩
  | fuel + 1, _, _, _, hl, hw, h => ⟨fun h0 => hQ _ _ (by rw [(h.1 h0).1] at hw; exact hw) (h.1 h0).2, fun i hi => wpOp_of_fOp hi (hl.free hi) hw (fun a' w' hw' => wpAny_of_flag hQ fuel _ a' w' (hl.set hi) hw') (h.2 i hi)⟩

theorem Yields.of_same {i : Nat} {o : Oper} {v : Value} {a a' : Act} (hy : Yields P md ops D s i o v a) (he : execOp a'.eval o = execOp a.eval o)
    (hw : Region.wanted o (yielded ops a'.tmps) = Region.wanted o (yielded ops a.tmps)) : Yields P md ops D s i o v a' := by
  unfold Yields Serves at *
  rw [he, hw]
  exact hy

theorem fOp_put {i j : Nat} {oi oj : Oper} {v : Value} (hj : ops[j]? = some oj) (hap : oi.apart ops oj = true)
    (hsi : ∀ cs b, oi.op ≠ .select cs b) (hsj : ∀ cs b, oj.op ≠ .select cs b) {K : Act → Prop} {a : Act}
    (hy : Yields P md ops D s i oi v a) (h : fOp P md ops D s j K (a.put oi.dst v)) :
    fOp P md ops D s j (fun a' => Yields P md ops D s i oi v a' ∧ K (a'.put oi.dst v)) a := by
  obtain ⟨h1, h2, h3⟩ := Oper.apart_spec hap
  unfold fOp at *
  rw [hj] at h ⊢
  obtain ⟨u, hu, hn⟩ := h
  refine ⟨u, hu.of_same (execOp_put oj hsj a oi.dst v h1).symm (wanted_put oj a oi.dst v h1).symm, hy.of_same (execOp_put oi hsi a oj.dst u h3) (wanted_put oi a oj.dst u h3), ?_⟩
  rw [← Act.put_comm a v u h2]
  exact hn

theorem wpAnyF_first {Q : Act → Prop} {i : Nat} {oi : Oper} {v : Value} (hi : ops[i]? = some oi) (hsel : ∀ (j : Nat) (o : Oper) cs b, ops[j]? = some o → o.op ≠ .select cs b) :
    ∀ (fuel : Nat) (listed : Array Bool) (a : Act),
      (∀ j oj, ops[j]? = some oj → j ≠ i → listed.getD j true = false → (∀ e ∈ oj.after, Region.binds md e = true → e.on ≠ i) → oi.apart ops oj = true) →
      i ∈ Region.ready md ops listed → Yields P md ops D s i oi v a →
      wpAnyF P md ops D s Q fuel (listed.setIfInBounds i true) (a.put oi.dst v) → wpAnyF P md ops D s Q (fuel + 1) listed a := by
  have take : ∀ (K : Act → Prop) (a : Act), Yields P md ops D s i oi v a → K (a.put oi.dst v) → fOp P md ops D s i K a := fun K a hy H => by
    unfold fOp
    rw [hi]
    exact ⟨v, hy, H⟩
  intro fuel
  induction fuel with
  | zero =>
    intro listed a _ hr hy H
    refine ⟨fun h => (by rw [h] at hr; cases hr), fun j hj => ?_⟩
    by_cases hji : j = i
    · subst hji; exact take _ _ hy H
    · have := ready_mono hj hji
      rw [H.1] at this
      cases this
  | succ fuel ih =>
    intro listed a hfree hr hy H
    refine ⟨fun h => (by rw [h] at hr; cases hr), fun j hj => ?_⟩
    by_cases hji : j = i
    · subst hji; exact take _ _ hy H
    · have h1 := H.2 j (ready_mono hj hji)
      obtain ⟨hjun, oj, hoj, hall⟩ := mem_ready.1 hj
      have hnot : ∀ e ∈ oj.after, Region.binds md e = true → e.on ≠ i := fun e he hb heq => by
        have h1 := hall e he hb
        have h0 := (getD_false_of (mem_ready.1 hr).1).1
        rw [heq, h0] at h1
        cases h1
      have h2 := fOp_put hoj (hfree j oj hoj hji hjun hnot) (fun cs b => hsel i oi cs b hi) (fun cs b => hsel j oj cs b hoj) hy h1
      have hfree' : ∀ k ok, ops[k]? = some ok → k ≠ i → (listed.setIfInBounds j true).getD k true = false →
          (∀ e ∈ ok.after, Region.binds md e = true → e.on ≠ i) → oi.apart ops ok = true := fun k ok hk hki hun hno => by
        refine hfree k ok hk hki ?_ hno
        by_cases hjk : j = k
        · subst hjk; exact hjun
        · rw [getD_set_ne true hjk] at hun; exact hun
      refine fOp_mono (fun a' h3 => ih (listed.setIfInBounds j true) a' hfree' (ready_mono hr (Ne.symm hji)) h3.1 ?_) h2
      rw [Array.setIfInBounds_comm _ _ hji]
      exact h3.2

/-- The walk in the text's order, from operation k on. -/
def wpF (P : Program) (md : Region.Mode) (ops : Array Oper) (D : Bool → World → Prop) (s : Nat) (Q : Act → Prop) : Nat → List Oper → Act → Prop
  | _, [], a => Q a
  | k, o :: rest, a => ∃ v, Yields P md ops D s k o v a ∧ wpF P md ops D s Q (k + 1) rest (a.put o.dst v)

theorem wpAnyF_lex {Q : Act → Prop} (hs : Region.noSelect ops = true) (hsn : s < ops.size) : ∀ (l : List Oper) (k : Nat) (listed : Array Bool) (a : Act), (∀ j, l[j]? = ops[k + j]?) → k + l.length = ops.size → listed.size = ops.size →
    (s < k → flag s listed = true) → Region.lexFrom md ops l.length k listed = true → wpF P md ops D s Q k l a → wpAnyF P md ops D s Q l.length listed a
  | [], k, listed, _, _, hk, _, hf, hB, h => ⟨by simpa [Region.lexFrom] using hB, hf (by simp at hk; omega), h⟩
  | o :: l, k, listed, a, hl, hk, hz, hf, hB, h => by
    have h0 : ops[k]? = some o := by simpa using (hl 0).symm
    simp only [List.length_cons, Region.lexFrom, Bool.and_eq_true] at hB
    obtain ⟨⟨hr, hfr⟩, hB'⟩ := hB
    obtain ⟨v, hy, hK⟩ := h
    refine wpAnyF_first h0 (Region.noSelect_spec hs) l.length listed a (Region.free_spec h0 hfr) (by simpa using hr) hy
      (wpAnyF_lex hs hsn l (k + 1) _ _ (fun j => by have := hl (j + 1); simpa [Nat.add_assoc, Nat.add_comm 1 j] using this) (by simp only [List.length_cons] at hk; omega) (by simpa using hz) ?_ hB' hK)
    intro hsk
    by_cases e : k = s
    · subst e
      exact flag_set_self (by omega)
    · rw [flag_set_ne e]
      exact hf (by omega)

/-- One walk in the text's order serves every order. -/
theorem region {id : Nat} {Q : Exit → Act → World → Prop} {a : Act} {w : World} {l : List Oper} (D : Bool → World → Prop) (s : Nat) (hm : P.follows .mixedOrders = true) (hB : Region.lexB .any l.toArray = true) (hsn : s < l.length) (hD : D false w.drew)
    (h : wpF P .any l.toArray D s (fun a' => ∀ w', D true w' → Q .normal a' w') 0 l a) : (Code.region id l.toArray true).wp P Q a w := by
  simp only [Region.lexB, Bool.and_eq_true] at hB
  refine wp_region_any hm (wpAny_of_flag (D := D) (s := s) (Q := fun a' => ∀ w', D true w' → Q .normal a' w') (fun _ w' hw' h => h w' hw') _ _ _ _ (fun hf => by unfold flag at hf; rw [getD_replicate_false] at hf; cases hf) ?_ ?_)
  · have e : flag s (Array.replicate l.toArray.size false) = false := by unfold flag; exact getD_replicate_false _ _
    rw [e]
    exact hD
  · have := wpAnyF_lex (P := P) (D := D) (s := s) (md := .any) hB.1 (by simpa using hsn) l 0 (Array.replicate l.toArray.size false) a (by simp) (by simp) (by simp) (fun h => by omega) (by simpa using hB.2) h
    simpa using this

/-- Operations whose run never enters a function. -/
def plainOp : Op → Bool
  | .move _ | .assign _ | .pick _ _ _ | .load _ _ | .fieldAddr _ _ _ | .indexAddr _ _ _ | .index _ _ _ | .convert _ _ _ | .binOp _ _ _ _ _ | .unOp _ _ _ | .extract _ _ | .slice _ _ _ _ _ | .field _ _ _ => true
  | _ => false

theorem value_not_enter {t : Sem Value} {w w' : World} {f : FuncId} {args : Array Value} : (do pure (Next.value (← t)) : Sem Next).run P w ≠ .ok (.enter f args) w' := by
  rw [Sem.run_bind]
  cases t.run P w <;> simp [Result.andThen]

theorem not_enter {ρ : Operand → Value} {o : Oper} {w w' : World} {f : FuncId} {args : Array Value} (h : plainOp o.op = true) : (execOp ρ o).run P w ≠ .ok (.enter f args) w' := by
  unfold execOp
  cases hop : o.op <;> rw [hop] at h <;> simp only [plainOp, Bool.false_eq_true] at h
  all_goals first | exact value_not_enter | simp
  rename_i c x y
  cases (asBool (ρ c)).run P w <;> simp [Result.andThen]

theorem quietF {Q : Act → Prop} {k : Nat} {o : Oper} {rest : List Oper} {a : Act} (hk : k ≠ s) (hp : plainOp o.op = true)
    (h : wpQuiet P ops (fun w => ∃ b, D b w) (wpF P md ops D s Q (k + 1) rest) [o] a) : wpF P md ops D s Q k (o :: rest) a := by
  have h' : if Region.wanted o (yielded ops a.tmps) then o.quiet P a (fun w => ∃ b, D b w) (wpF P md ops D s Q (k + 1) rest) else wpF P md ops D s Q (k + 1) rest (a.put o.dst undef) := h
  by_cases hw : Region.wanted o (yielded ops a.tmps) = true
  · rw [if_pos hw] at h'
    obtain ⟨v, hq, hK⟩ := h'
    refine ⟨v, .inl ⟨hw, ?_⟩, hK⟩
    rw [if_neg hk]
    intro b _ w hD
    have h3 := hq w ⟨b, hD⟩
    unfold Oper.quietAt at h3
    have hne := fun f args w' => not_enter (P := P) (ρ := a.eval) (w := w) (w' := w') (f := f) (args := args) hp
    generalize (execOp a.eval o).run P w = r at *
    cases r with
    | ok n w' =>
      cases n <;> simp only [Oper.quietUpon] at h3 <;> simp only [upon]
      case value u => exact ⟨by rw [h3.1]; exact hD, h3.2⟩
      case skip => exact ⟨by rw [h3.1]; exact hD, h3.2⟩
      case enter f args => exact absurd rfl (hne f args w')
    | halt x w' => simp only [Oper.quietUpon] at h3
  · rw [if_neg hw] at h'
    exact ⟨undef, .inr ⟨by simpa using hw, rfl, hk⟩, h'⟩

theorem valF {Q : Act → Prop} {k : Nat} {o : Oper} {rest : List Oper} {a : Act} (hk : k ≠ s) (hg : o.guard = none) (v : Value) (hr : ∀ b w, D b w → (execOp a.eval o).run P w = .ok (.value v) w)
    (h : wpF P md ops D s Q (k + 1) rest (a.put o.dst v)) : wpF P md ops D s Q k (o :: rest) a := by
  refine ⟨v, .inl ⟨by simp [Region.wanted, hg], ?_⟩, h⟩
  rw [if_neg hk]
  intro b _ w hD
  rw [hr b w hD]
  exact ⟨hD, rfl⟩

/-- .. that stands before the store in every order. -/
theorem valP {Q : Act → Prop} {k : Nat} {o : Oper} {rest : List Oper} {a : Act} (hk : k ≠ s) (hp : preOf md ops s k = true) (hg : o.guard = none) (v : Value) (hr : ∀ w, D false w → (execOp a.eval o).run P w = .ok (.value v) w)
    (h : wpF P md ops D s Q (k + 1) rest (a.put o.dst v)) : wpF P md ops D s Q k (o :: rest) a := by
  refine ⟨v, .inl ⟨by simp [Region.wanted, hg], ?_⟩, h⟩
  rw [if_neg hk]
  intro b hb w hD
  cases b with
  | false => rw [hr w hD]; exact ⟨hD, rfl⟩
  | true => rw [hb rfl] at hp; cases hp

theorem callP {Q : Act → Prop} {k : Nat} {o : Oper} {rest : List Oper} {a : Act} (hk : k ≠ s) (hp : preOf md ops s k = true) (hg : o.guard = none) (f : FuncId) (args : Array Value) (v : Value)
    (hr : ∀ w, D false w → (execOp a.eval o).run P w = .ok (.enter f args) w) (hc : ∀ w, D false w → Calls P f args w fun e w' => e = .returned v ∧ D false w')
    (h : wpF P md ops D s Q (k + 1) rest (a.put o.dst v)) : wpF P md ops D s Q k (o :: rest) a := by
  refine ⟨v, .inl ⟨by simp [Region.wanted, hg], ?_⟩, h⟩
  rw [if_neg hk]
  intro b hb w hD
  cases b with
  | false => rw [hr w hD]; exact ⟨rfl, (hc w hD).mono fun _ _ ⟨h1, h2⟩ => ⟨h1, h2⟩⟩
  | true => rw [hb rfl] at hp; cases hp

theorem callF {Q : Act → Prop} {k : Nat} {o : Oper} {rest : List Oper} {a : Act} (hk : k ≠ s) (hg : o.guard = none) (f : FuncId) (args : Array Value) (v : Value)
    (hr : ∀ b w, D b w → (execOp a.eval o).run P w = .ok (.enter f args) w) (hc : ∀ b w, D b w → Calls P f args w fun e w' => e = .returned v ∧ D b w')
    (h : wpF P md ops D s Q (k + 1) rest (a.put o.dst v)) : wpF P md ops D s Q k (o :: rest) a := by
  refine ⟨v, .inl ⟨by simp [Region.wanted, hg], ?_⟩, h⟩
  rw [if_neg hk]
  intro b _ w hD
  rw [hr b w hD]
  exact ⟨rfl, hc b w hD⟩

/-- The one operation that leads from before to behind is a call. -/
theorem callS {Q : Act → Prop} {o : Oper} {rest : List Oper} {a : Act} (hg : o.guard = none) (f : FuncId) (args : Array Value) (v : Value)
    (hr : ∀ w, D false w → (execOp a.eval o).run P w = .ok (.enter f args) w) (hc : ∀ w, D false w → Calls P f args w fun e w' => e = .returned v ∧ D true w')
    (h : wpF P md ops D s Q (s + 1) rest (a.put o.dst v)) : wpF P md ops D s Q s (o :: rest) a := by
  refine ⟨v, .inl ⟨by simp [Region.wanted, hg], ?_⟩, h⟩
  rw [if_pos rfl]
  intro w hD
  rw [hr w hD]
  exact ⟨rfl, (hc w hD).mono fun _ _ ⟨he, hd⟩ => ⟨he, hd⟩⟩

open Go.Proofs.Ytebbmpomccjbnaa.Mem in
/-- The store of a whole array or struct. -/
theorem storeF {Q : Act → Prop} {o : Oper} {rest : List Oper} {a : Act} (hg : o.guard = none) (ty : TypeId) (x y : Operand) (ho : o.op = .store ty x y) (b off n k T : Nat) (f g : Nat → Value)
    (hx : a.eval x = .pointer (some ⟨b, off, none⟩)) (hy : a.eval y = aggF k g) (hl : off + k ≤ n) (hi : (P.info? ty).map (·.size) = some k) (h1 : ∀ i, i < k → (g i).oneCell' = true)
    (hD : ∀ w, D false w → Has w b n T f ∧ ∀ w', Has w' b n T (fun j => if off ≤ j ∧ j < off + k then g (j - off) else f j) → Fr (· = b) w w' → D true w')
    (h : wpF P md ops D s Q (s + 1) rest (a.put o.dst undef)) : wpF P md ops D s Q s (o :: rest) a := by
  refine ⟨undef, .inl ⟨by simp [Region.wanted, hg], ?_⟩, h⟩
  rw [if_pos rfl]
  intro w hw
  obtain ⟨hm, hk⟩ := hD w hw
  have hrun := run_storeAt_mid (P := P) w b off ty (cellsF k g).toArray (hm.there off _ (by simpa [cellsF] using hl)) (by rw [hi]; simp [cellsF]) (all_oneCell_toArray (cellsF_one h1))
  have e : (execOp a.eval o).run P w = .ok .skip (w.setCells b off (cellsF k g)) := by
    unfold execOp
    rw [ho]
    simp only [hx, hy, Sem.run_bind]
    unfold aggF
    rw [hrun]
    rfl
  rw [e]
  exact ⟨hk _ (hm.putF off k g) (Fr.setCells (S := (· = b)) b (.inr rfl) _ _ (Fr.refl _ _)), rfl⟩

end
end Go.Proofs.Ytebbmpomccjbnaa.Flag
