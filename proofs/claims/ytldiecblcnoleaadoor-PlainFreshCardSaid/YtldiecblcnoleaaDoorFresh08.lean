/- Lists of lists of one's own. No condition. -/
import Derived.Test.YtldiecblcnoleaaDoorLaw08
import Derived.Test.YtldiecblcnoleaaDoorKeep
namespace Go.Proofs.YtldiecblcnoleaaDoor.Plain
open Go.RowKit Go.Proofs.YtldiecblcnoleaaDoor.Mem Go.Proofs.YtldiecblcnoleaaDoor.Sha Go.Proofs.YtldiecblcnoleaaDoor.Hash
set_option linter.unusedVariables false
set_option linter.unusedSimpArgs false

/-- What came in: a list of lists of texts. -/
structure Lists (w : World) (A : Option Addr) (n : Nat) (LA : Nat → Option Addr) (ln lc : Nat → Nat) (lf : Nat → Nat → ByteArray) : Prop where
  all : SlAt w A n (fun i => .slice (LA i) (ln i) (lc i))
  each : ∀ i, i < n → SlAt w (LA i) (ln i) (fun j => .string (lf i j))
  cap : ∀ i, i < n → ln i ≤ lc i ∧ lc i ≤ 9223372036854775807
  size : ∀ i, i < n → ∀ j, j < ln i → (lf i j).size ≤ 9007199254740992

theorem Lists.fr0 {w w' : World} {A : Option Addr} {n : Nat} {LA : Nat → Option Addr} {ln lc : Nat → Nat} {lf : Nat → Nat → ByteArray} (h : Lists w A n LA ln lc lf) (k : Fr Nil w w') : Lists w' A n LA ln lc lf :=
  ⟨h.all.fr k, fun i hi => (h.each i hi).fr k, h.cap, h.size⟩

/-- A list of M lists of one's own, all apart. -/
structure Fam (w : World) (B : Nat) (V : Value) (M : Nat) (v : Nat → Value) (c : Nat → Nat) (F : Nat → Nat → Value) : Prop where
  top : Own w B V 22 1 M v
  each : ∀ q, q < M → Own w B (v q) 9 1 (c q) (F q)
  apart : ∀ p q, p < q → q < M → Apart (v p) (v q)

theorem Fam.fr0 {w w' : World} {B M : Nat} {V : Value} {v : Nat → Value} {c : Nat → Nat} {F : Nat → Nat → Value} (h : Fam w B V M v c F) (k : Fr Nil w w') : Fam w' B V M v c F :=
  ⟨h.top.fr0 k, fun q hq => (h.each q hq).fr0 k, h.apart⟩

theorem Fam.ne {w : World} {B M : Nat} {V : Value} {v : Nat → Value} {c : Nat → Nat} {F : Nat → Nat → Value} (h : Fam w B V M v c F) {p q : Nat} (hp : p < M) (hq : q < M) (ne : p ≠ q) : Apart (v p) (v q) := by
  rcases Nat.lt_or_ge p q with h1 | h1
  · exact h.apart p q h1 hq
  · exact (h.apart q p (by omega) hp).symm

def ext2 (M : Nat) (v : Nat → Value) (x y : Value) (q : Nat) : Value := if q < M then v q else if q = M then x else y

/-- Two new ones behind all. -/
theorem Fam.snoc2 {w0 w1 w2 w3 w4 : World} {B M : Nat} {V V' x y : Value} {v : Nat → Value} {c : Nat → Nat} {F : Nat → Nat → Value} (h : Fam w0 B V M v c F) (hB : B ≤ w0.heap.size)
    (hx : Own w1 w0.heap.size x 9 1 (c M) (F M)) (k1 : Fr Nil w0 w1) (hy : Own w2 w1.heap.size y 9 1 (c (M + 1)) (F (M + 1))) (k2 : Fr Nil w1 w2) (k3 : Fr Nil w2 w3)
    (ht : Own w4 B V' 22 1 (M + 2) (joinF (M * 1) v fun j => if j = 0 then x else y)) (k4 : Fr (fun k => V.ownBlock = some k) w3 w4) : Fam w4 B V' (M + 2) (ext2 M v x y) c F := by
  have hx3 := (hx.fr0 k2).fr0 k3
  have hy3 := hy.fr0 k3
  have h3 := ((h.fr0 k1).fr0 k2).fr0 k3
  have s1 := k1.size
  have ne : 22 ≠ 9 := by decide
  refine ⟨ht.congr fun j hj => ?_, fun q hq => ?_, fun p q hpq hq => ?_⟩
  · have hj : j < M + 2 := by omega
    unfold joinF ext2
    rw [Nat.mul_one]
    by_cases e : j < M
    · rw [if_pos e, if_pos e]
    · rw [if_neg e, if_neg e]
      by_cases e2 : j = M
      · rw [if_pos e2]
        show (if j - M = 0 then x else y) = x
        rw [if_pos (by omega)]
      · rw [if_neg e2]
        show (if j - M = 0 then x else y) = y
        rw [if_neg (by omega)]
  · unfold ext2
    by_cases e : q < M
    · rw [if_pos e]
      exact (h3.each q e).other k4 ((h3.top.apart (h3.each q e) ne).symm)
    · rw [if_neg e]
      by_cases e2 : q = M
      · subst e2
        rw [if_pos rfl]
        exact (hx3.low hB).other k4 ((h3.top.apart hx3 ne).symm)
      · rw [if_neg e2]
        obtain rfl : q = M + 1 := by omega
        exact (hy3.low (by omega)).other k4 ((h3.top.apart hy3 ne).symm)
  · unfold ext2
    by_cases e : q < M
    · rw [if_pos (by omega), if_pos e]
      exact h.apart p q hpq e
    · rw [if_neg e]
      by_cases e2 : q = M
      · rw [if_pos e2, if_pos (by omega)]
        exact (h.each p (by omega)).apart_new hx (Nat.le_refl _)
      · rw [if_neg e2]
        by_cases e3 : p < M
        · rw [if_pos e3]
          exact (h.each p e3).apart_new hy s1
        · rw [if_neg e3, if_pos (by omega)]
          exact hx.apart_new hy (Nat.le_refl _)

/-- A cell of list q is written. -/
theorem Fam.put {w : World} {B M : Nat} {V : Value} {v : Nat → Value} {c : Nat → Nat} {F : Nat → Nat → Value} (h : Fam w B V M v c F) {q g n cp : Nat} (hq : q < M) (hv : v q = .slice (some ⟨g, 0, none⟩) n cp) (j : Nat) (u : Value) :
    Fam (w.setCell ⟨g, j, none⟩ u) B V M v c (fun p => if p = q then (fun t => if t = j then u else F q t) else F p) := by
  have k : Fr (fun k => (v q).ownBlock = some k) w (w.setCell ⟨g, j, none⟩ u) := (Fr.refl _ _).setCell _ _ (.inr (by show (v q).ownBlock = some g; rw [hv]; rfl))
  refine ⟨h.top.other k (h.top.apart (h.each q hq) (by decide)), fun p hp => ?_, h.apart⟩
  by_cases e : p = q
  · subst e
    simp only [if_true]
    have ho := h.each p hq
    have hn : n = c p := by
      rcases ho.open with ⟨e1, _⟩ | ⟨_, _, _, _, e1, _⟩
      · rw [hv] at e1; cases e1
      · rw [hv] at e1; injection e1
    subst hn
    exact ho.put hv j u
  · simp only [if_neg e]
    exact (h.each p hp).other k (h.ne hp hq e)

theorem info_list : (Tryd.prog.info? 22).map (fun i => (i.zero, i.size, i.bytes)) = some (some (.slice none 0 0), 1, 24) := by kernel_rfl

theorem new_pair (w : World) (u v : Value) (T : Nat) : ∀ j, j < 2 * 1 → (w.alloc (.cells #[u, v] T)).cell? ⟨w.heap.size, 0 + j, none⟩ = some ((fun j => if j = 0 then u else v) j) := new_two w u v T

theorem Own.slAt {w : World} {B n c e : Nat} {A : Option Addr} {f : Nat → Value} (h : Own w B (.slice A n c) e 1 n f) : SlAt w A n f := by
  obtain ⟨A', c', e1, _, _, h2, _⟩ := Own.sl h
  cases e1
  exact h2

theorem Own.slice_one {w : World} {B n e s : Nat} {V : Value} {f : Nat → Value} (h : Own w B V e s n f) : V.oneCell' = true := by
  rcases h.open with ⟨rfl, _⟩ | ⟨g, cap, N, f', rfl, _⟩ <;> rfl

/-- The mark of list q. -/
def markB (q : Nat) : ByteArray := strB [UInt8.ofNat q, 109]
def markV (q : Nat) : Value := .string (markB q)

theorem byte_small (q : Nat) (h : q < 256) : (((UInt8.ofNat q).toNat : Nat) : Int) = (q : Int) := by
  show ((q % 256 : Nat) : Int) = _
  omega

theorem conv_mark (q : Nat) (hq : q < 256) (w : World) : (convert 30 9 (.slice (some ⟨w.heap.size, 0, none⟩) 2 2)).run Tryd.prog (w.alloc (.cells #[.int .u8 (q : Int), .int .u8 109] 5)) = .ok (markV q) (w.alloc (.cells #[.int .u8 (q : Int), .int .u8 109] 5)) := by
  have h : Has (w.alloc (.cells #[.int .u8 (q : Int), .int .u8 109] 5)) w.heap.size 2 5 (fun i => .int .u8 ((([UInt8.ofNat q, 109] : List UInt8).getD i 0).toNat : Int)) := Has.new _ _ _ _ 2 rfl (fun i hi => by
    have e : i = 0 ∨ i = 1 := by omega
    rcases e with rfl | rfl
    · show some (Value.int .u8 (q : Int)) = some (Value.int .u8 ((UInt8.ofNat q).toNat : Int))
      rw [byte_small q hq]
    · rfl)
  exact conv_bytes (P := Tryd.prog) Tryd.underlying30 Tryd.underlying5 Tryd.underlying9 h 0 2 2 [UInt8.ofNat q, 109] rfl (Nat.le_refl 2) (fun j hj => by rw [Nat.zero_add])

theorem Fam.congr {w : World} {B M : Nat} {V : Value} {v : Nat → Value} {c : Nat → Nat} {F G : Nat → Nat → Value} (h : Fam w B V M v c F) (e : ∀ p, p < M → ∀ t, t < c p → F p t = G p t) : Fam w B V M v c G :=
  ⟨h.top, fun q hq => (h.each q hq).congr fun j hj => e q hq j (by omega), h.apart⟩

/-- The marked lists, and the first s of them lengthened. -/
structure Long (w : World) (B : Nat) (V : Value) (M : Nat) (v : Nat → Value) (c : Nat → Nat) (W : Value) (s : Nat) (x : Nat → Value) : Prop where
  fam : Fam w B V M v c (fun p _ => markV p)
  top : Own w B W 22 1 s x
  ne : Apart V W
  each : ∀ p, p < s → Own w B (x p) 9 1 (c p + 20) (fun _ => markV p)
  apx : ∀ p r, p < s → r < s → p ≠ r → Apart (x p) (x r)
  apv : ∀ p r, p < s → r < M → p ≠ r → Apart (x p) (v r)

theorem Long.fr0 {w w' : World} {B M s : Nat} {V W : Value} {v x : Nat → Value} {c : Nat → Nat} (h : Long w B V M v c W s x) (k : Fr Nil w w') : Long w' B V M v c W s x :=
  ⟨h.fam.fr0 k, h.top.fr0 k, h.ne, fun p hp => (h.each p hp).fr0 k, h.apx, h.apv⟩

/-- .. and one on its way. -/
structure Cur (w : World) (B : Nat) (V : Value) (M : Nat) (v : Nat → Value) (c : Nat → Nat) (W : Value) (s : Nat) (x : Nat → Value) (X : Value) (n : Nat) : Prop where
  long : Long w B V M v c W s x
  own : Own w B X 9 1 n (fun _ => markV s)
  pre : (v s).ownBlock = X.ownBlock ∨ Apart (v s) X
  apv : ∀ r, r < M → r ≠ s → Apart X (v r)
  apx : ∀ p, p < s → Apart X (x p)
  len : c s ≤ n

theorem Cur.start {w : World} {B M s : Nat} {V W : Value} {v x : Nat → Value} {c : Nat → Nat} (h : Long w B V M v c W s x) (hs : s < M) : Cur w B V M v c W s x (v s) (c s) :=
  ⟨h, h.fam.each s hs, .inl rfl, fun r hr e => h.fam.ne hs hr (Ne.symm e), fun p hp => (h.apv p s hp hs (by omega)).symm, Nat.le_refl _⟩

theorem Cur.app {w wA w' : World} {B M s n : Nat} {V W X X' : Value} {v x : Nat → Value} {c : Nat → Nat} (h : Cur w B V M v c W s x X n) (hs : s < M) (k : Fr Nil w wA) (ho : Own w' B X' 9 1 (n + 1) (fun _ => markV s)) (kf : Fr (fun k => X.ownBlock = some k) wA w')
    (keep : Own w' B X 9 1 n (fun _ => markV s)) (hb : X'.ownBlock = X.ownBlock ∨ X'.ownBlock = some wA.heap.size) : Cur w' B V M v c W s x X' (n + 1) := by
  have hA := h.long.fr0 k
  have hX := h.own.fr0 k
  have hsz := k.size
  have hvs : Own w' B (v s) 9 1 (c s) (fun _ => markV s) := by
    rcases h.pre with hp | hp
    · exact Own.pre (hA.fam.each s hs) hX hp h.len keep
    · exact (hA.fam.each s hs).other kf hp
  refine ⟨⟨⟨hA.fam.top.other kf (hA.fam.top.apart hX (by decide)), fun q hq => ?_, hA.fam.apart⟩, hA.top.other kf (hA.top.apart hX (by decide)), hA.ne, fun p hp => (hA.each p hp).other kf (h.apx p hp).symm, hA.apx, hA.apv⟩, ho, ?_, fun r hr e => ?_, fun p hp => ?_, by have := h.len; omega⟩
  · by_cases e : q = s
    · subst e
      exact hvs
    · exact (hA.fam.each q hq).other kf (h.apv q hq e).symm
  · rcases hb with hb | hb
    · rcases h.pre with hp | hp
      · exact .inl (hp.trans hb.symm)
      · exact .inr fun k h1 h2 => hp k h1 (by rw [← hb]; exact h2)
    · exact .inr ((hA.fam.each s hs).apart_at hb (Nat.le_refl _))
  · rcases hb with hb | hb
    · exact fun k h1 h2 => h.apv r hr e k (by rw [← hb]; exact h1) h2
    · exact ((hA.fam.each r hr).apart_at hb (Nat.le_refl _)).symm
  · rcases hb with hb | hb
    · exact fun k h1 h2 => h.apx p hp k (by rw [← hb]; exact h1) h2
    · exact ((hA.each p hp).apart_at hb (Nat.le_refl _)).symm

def ext1 (s : Nat) (x : Nat → Value) (X : Value) (p : Nat) : Value := if p < s then x p else X

/-- The lengthened one is laid behind the others. -/
theorem Cur.done {w wA w' : World} {B M s : Nat} {V W W' X : Value} {v x : Nat → Value} {c : Nat → Nat} (h : Cur w B V M v c W s x X (c s + 20)) (hs : s < M) (k : Fr Nil w wA)
    (ho : Own w' B W' 22 1 (s + 1) (joinF (s * 1) x fun _ => X)) (kf : Fr (fun k => W.ownBlock = some k) wA w') (hb : W'.ownBlock = W.ownBlock ∨ W'.ownBlock = some wA.heap.size) : Long w' B V M v c W' (s + 1) (ext1 s x X) := by
  have hA := h.long.fr0 k
  have hX := h.own.fr0 k
  refine ⟨⟨hA.fam.top.other kf hA.ne, fun q hq => (hA.fam.each q hq).other kf ((hA.top.apart (hA.fam.each q hq) (by decide)).symm), hA.fam.apart⟩, ho.congr fun j hj => ?_, ?_, fun p hp => ?_, fun p r hp hr e => ?_, fun p r hp hr e => ?_⟩
  · unfold joinF ext1
    rw [Nat.mul_one]
  · rcases hb with hb | hb
    · exact fun k h1 h2 => hA.ne k h1 (by rw [← hb]; exact h2)
    · exact hA.fam.top.apart_at hb (Nat.le_refl _)
  · unfold ext1
    by_cases e : p < s
    · rw [if_pos e]
      exact (hA.each p e).other kf ((hA.top.apart (hA.each p e) (by decide)).symm)
    · rw [if_neg e]
      obtain rfl : p = s := by omega
      exact hX.other kf ((hA.top.apart hX (by decide)).symm)
  · unfold ext1
    by_cases e1 : p < s
    · rw [if_pos e1]
      by_cases e2 : r < s
      · rw [if_pos e2]
        exact hA.apx p r e1 e2 e
      · rw [if_neg e2]
        exact (h.apx p e1).symm
    · rw [if_neg e1, if_pos (by omega)]
      exact h.apx r (by omega)
  · unfold ext1
    by_cases e1 : p < s
    · rw [if_pos e1]
      exact hA.apv p r e1 hr e
    · rw [if_neg e1]
      obtain rfl : p = s := by omega
      exact h.apv r hr (Ne.symm e)

end Go.Proofs.YtldiecblcnoleaaDoor.Plain
