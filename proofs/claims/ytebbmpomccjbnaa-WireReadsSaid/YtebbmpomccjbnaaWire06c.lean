/- The reference's reader: what it answers is what the reader over the rest of the text answers. Condition: the reader stands within its text. -/
import Derived.Test.YtebbmpomccjbnaaWire06b
import Derived.Test.YtebbmpomccjbnaaFlag
namespace Go.Proofs.Ytebbmpomccjbnaa.Wire
open Go.RowKit Go.Proofs.Ytebbmpomccjbnaa.Mem
set_option linter.unusedVariables false
set_option linter.unusedSimpArgs false

theorem results_ctt {P : Program} {fn : Func} {p u v : Tmp} {ty : TypeId} (h : fn.results = #[.cell p ty, .tmp u, .tmp v]) (tmps : Array Value) {w : World} {b n T : Nat} {f : Nat → Value} {d : TypeDesc}
    (hp : tmps.getD p undef = .pointer (some ⟨b, 0, none⟩)) (hb : Has w b n T f) (hu : P.underlying ty = some d) (hd : (match d with | .struct _ | .array _ _ => true | _ => false) = true)
    (hi : (P.info? ty).map (·.size) = some n) : (results fn tmps).run P w = .ok (.tuple #[aggF n f, tmps.getD u undef, tmps.getD v undef]) w := by
  have hp' : tmps[p]?.getD undef = .pointer (some ⟨b, 0, none⟩) := by simpa using hp
  have := run_loadVar_row w b T ty (cellsF n f).toArray (0, 0) d hb.heap hu hd (by rw [hi]; simp [cellsF])
  simp [results, h, hp', asAddr, this, aggF]

/-- The reference's reader: the text, where it stands, its error. -/
def refF (t : ByteArray) (at_ : Nat) (bad : Int) (i : Nat) : Value := if i = 0 then .string t else if i = 1 then .int .i64 (at_ : Int) else .int .i64 bad

def rest (t : ByteArray) (at_ : Nat) (bad : Int) : ByteArray := if bad = 0 then t.extract at_ t.size else ⟨#[]⟩

/-- Where the reference stands behind a Take. -/
def takeQ (s : ByteArray) (q : Nat) (bad n : Int) : Nat := if takes s bad n then q + n.toNat else q

def Within (q : Nat) (t : ByteArray) : Prop := q ≤ t.size

theorem ref_new (t : ByteArray) (q : Nat) (bad : Int) (w : World) : Has (w.alloc (.cells #[.string t, .int .i64 (q : Int), .int .i64 bad] 31)) w.heap.size 3 31 (refF t q bad) :=
  Has.new _ _ _ _ _ rfl (fun i hi => by
    match i, hi with
    | 0, _ => rfl
    | 1, _ => rfl
    | 2, _ => rfl)

theorem rest_size (t : ByteArray) (q : Nat) (bad : Int) (hq : q ≤ t.size) (hb : bad = 0) : (rest t q bad).size = t.size - q := by
  unfold rest
  rw [if_pos hb, ByteArray.size_extract]
  omega

theorem rleft_calls (t : ByteArray) (q : Nat) (bad : Int) (w : World) (hq : q ≤ t.size) (ht : t.size ≤ 9223372036854775807) :
    Calls Try.prog 16 #[.agg #[.string t, .int .i64 (q : Int), .int .i64 bad]] w fun e w' => e = .returned (.int .i64 (rest t q bad).size) ∧ Fr Nil w w' := by
  go_enter Try.func16, Try.ntmps16
  by_cases hb : bad = 0
  · have hs := rest_size t q bad hq hb
    subst hb
    generalize rest t q 0 = r at *
    have HS := Lib.hid hs
    clear hs
    go_wp2
    go_ret
    refine ⟨?_, Fr.alloc1 _ _⟩
    rw [HS.out]
    exact congrArg (fun z => Ending.returned (Value.int .i64 z)) (by omega)
  · have hne : (bad == 0) = false := by rw [beq_eq_false_iff_ne]; exact hb
    have e : (rest t q bad).size = 0 := by unfold rest; rw [if_neg hb]; rfl
    rw [e]
    clear e
    go_wp2
    go_ret
    exact ⟨rfl, Fr.alloc1 _ _⟩

theorem alloc_ref (w : World) : (Instr.alloc 31 true (.tuple #[])).run Try.prog w = .ok (.pointer (some ⟨w.heap.size, 0, none⟩)) (w.alloc (.cells (cellsF 3 (refF ⟨#[]⟩ 0 0)).toArray 31)) := by kernel_rfl

theorem refF_one (t : ByteArray) (q : Nat) (bad : Int) (i : Nat) : (refF t q bad i).oneCell' = true := by
  unfold refF
  split
  · rfl
  · split <;> rfl

set_option maxRecDepth 100000 in
theorem rtake_calls (t : ByteArray) (q : Nat) (bad n : Int) (w : World) (hq : q ≤ t.size) (ht : t.size ≤ 4611686018427387904) (hn : -9223372036854775808 ≤ n ∧ n < 9223372036854775808) :
    Calls Try.prog 14 #[.agg #[.string t, .int .i64 (q : Int), .int .i64 bad], .int .i64 n] w fun e w' => Within (takeQ (rest t q bad) q bad n) t ∧
      e = .returned (.tuple #[.agg #[.string t, .int .i64 (takeQ (rest t q bad) q bad n : Int), .int .i64 (takeE (rest t q bad) bad n)], .string (takeV (rest t q bad) bad n), .int .i64 (takeE (rest t q bad) bad n)]) ∧
      rest t (takeQ (rest t q bad) q bad n) (takeE (rest t q bad) bad n) = takeS (rest t q bad) bad n ∧ Fr Nil w w' := by
  go_enter Try.func14, Try.ntmps14
  have hb0 := ref_new t q bad w
  have hF0 := Fr.alloc1 w (.cells #[.string t, .int .i64 (q : Int), .int .i64 bad] 31)
  by_cases hbad : bad = 0
  · have hrs := rest_size t q bad hq hbad
    subst hbad
    have hR : rest t q 0 = t.extract q t.size := if_pos rfl
    by_cases hok : 0 ≤ n ∧ n ≤ (t.size : Int) - q
    · obtain ⟨m, rfl⟩ : ∃ m : Nat, n = m := ⟨n.toNat, by omega⟩
      have hm : q + m ≤ t.size := by omega
      have htk : takes (rest t q 0) 0 (m : Int) = true := decide_eq_true ⟨rfl, by omega, by rw [hrs]; omega⟩
      have h1 : takeE (rest t q 0) 0 (m : Int) = 0 := by unfold takeE; rw [if_neg (by decide), if_pos htk]
      have h2 : takeV (rest t q 0) 0 (m : Int) = t.extract q (q + m) := by
        unfold takeV; rw [if_pos htk, hR, ByteArray.extract_extract, Int.toNat_natCast]
        congr 1 <;> omega
      have h3 : takeS (rest t q 0) 0 (m : Int) = rest t (q + m) 0 := by
        unfold takeS; rw [if_neg (by decide), if_pos htk, hR, ByteArray.extract_extract, Int.toNat_natCast, ByteArray.size_extract]
        unfold rest; rw [if_pos rfl]
        congr 1 <;> omega
      have h4 : takeQ (rest t q 0) q 0 (m : Int) = q + m := by unfold takeQ; rw [if_pos htk, Int.toNat_natCast]
      rw [h1, h2, h3, h4]
      clear h1 h2 h3 h4 htk hR hrs
      go_wp2_with (refine wpList_alloc rfl 31 rfl 3 31 _ (alloc_ref _) ?_; intro w2 hA hFA hz; have hB := hFA.has hb0 (fun h => h); have c0 : w2.cell? ⟨w.heap.size, 0, none⟩ = some (.string t) := hB.cell 0 (by omega); have c1 : w2.cell? ⟨w.heap.size, 1, none⟩ = some (.int .i64 q) := hB.cell 1 (by omega); have c2 : w2.cell? ⟨w.heap.size, 2, none⟩ = some (.int .i64 0) := hB.cell 2 (by omega); have f1 := hB.free 1; have f2 := hB.free 2; have hA1 : Has w2 (w.heap.size + 1) 3 31 (refF ⟨#[]⟩ 0 0) := (by simpa using hA); have d0 := hA1.cell 0 (by omega); have d1 := hA1.cell 1 (by omega); have d2 := hA1.cell 2 (by omega); have g0 := hA1.free 0; have g1 := hA1.free 1; have g2 := hA1.free 2)
      refine bodyPost_ret (results_ctt rfl _ rfl (f := refF t (q + m) 0) (b := w.heap.size + 1) (n := 3) (T := 31) ?_ Try.underlying31 rfl rfl) rfl ?_
      · exact (((hA1.far _ _ (by simp)).put 0 _).put 1 _).put 2 _ |>.congr fun i hi => by
          have e : i = 0 ∨ i = 1 ∨ i = 2 := by omega
          rcases e with rfl | rfl | rfl
          · rfl
          · show Value.int .i64 _ = Value.int .i64 _
            exact congrArg _ (by omega)
          · rfl
      · exact ⟨hm, rfl, ((((hF0.then0 hFA).setCell ⟨w.heap.size, 1, none⟩ _ (.inl (Nat.le_refl _))).setCell ⟨w.heap.size + 1, 0, none⟩ _ (.inl (Nat.le_succ _))).setCell ⟨w.heap.size + 1, 1, none⟩ _ (.inl (Nat.le_succ _))).setCell ⟨w.heap.size + 1, 2, none⟩ _ (.inl (Nat.le_succ _))⟩
    · have htk : takes (rest t q 0) 0 n = false := decide_eq_false (fun h => hok ⟨h.2.1, by have := h.2.2; rw [hrs] at this; omega⟩)
      have h1 : takeE (rest t q 0) 0 n = 60 := by unfold takeE; rw [if_neg (by decide), if_neg (by rw [htk]; decide)]
      have h2 : takeV (rest t q 0) 0 n = ⟨#[]⟩ := by unfold takeV; rw [htk]; rfl
      have h3 : takeS (rest t q 0) 0 n = rest t q 60 := by unfold takeS; rw [if_neg (by decide), htk]; rfl
      have h4 : takeQ (rest t q 0) q 0 n = q := by unfold takeQ; rw [htk]; rfl
      rw [h1, h2, h3, h4]
      clear h1 h2 h3 h4 htk hR hrs
      have hcmp : decide (n < 0) = true ∨ (decide (n < 0) = false ∧ decide (n > (t.size : Int) - q) = true) := by
        rcases Int.lt_or_le n 0 with h | h
        · exact .inl (decide_eq_true h)
        · exact .inr ⟨decide_eq_false (by omega), decide_eq_true (by omega)⟩
      rcases hcmp with hcmp | ⟨hcmp, hcmp2⟩
      all_goals
        go_wp2_with (refine wpList_alloc rfl 31 rfl 3 31 _ (alloc_ref _) ?_; intro w2 hA hFA hz; have hB := hFA.has hb0 (fun h => h); have c0 : w2.cell? ⟨w.heap.size, 0, none⟩ = some (.string t) := hB.cell 0 (by omega); have c1 : w2.cell? ⟨w.heap.size, 1, none⟩ = some (.int .i64 q) := hB.cell 1 (by omega); have c2 : w2.cell? ⟨w.heap.size, 2, none⟩ = some (.int .i64 0) := hB.cell 2 (by omega); have f1 := hB.free 1; have f2 := hB.free 2; have hA1 : Has w2 (w.heap.size + 1) 3 31 (refF ⟨#[]⟩ 0 0) := (by simpa using hA); have d0 := hA1.cell 0 (by omega); have d1 := hA1.cell 1 (by omega); have d2 := hA1.cell 2 (by omega); have g0 := hA1.free 0; have g1 := hA1.free 1; have g2 := hA1.free 2)
        have hB3 : Has (w2.setCell ⟨w.heap.size, 2, none⟩ (.int .i64 60)) w.heap.size 3 31 (refF t q 60) := (hB.put 2 _).congr (fun i hi => by
          have e : i = 0 ∨ i = 1 ∨ i = 2 := by omega
          rcases e with rfl | rfl | rfl <;> rfl)
        have hA3 := hA1.far ⟨w.heap.size, 2, none⟩ (.int .i64 60) (by simp)
        have hF3 := (hF0.then0 hFA).setCell ⟨w.heap.size, 2, none⟩ (.int .i64 60) (.inl (Nat.le_refl _))
        clear hB hA hF0 hFA hA1 c0 c1 c2 f1 f2 d0 d1 d2 g0 g1 g2 hz hb0
        generalize w2.setCell ⟨w.heap.size, 2, none⟩ (.int .i64 60) = w3 at *
        refine Flag.region (fun b w' => Has w' w.heap.size 3 31 (refF t q 60) ∧ Fr Nil w w' ∧ Has w' (w.heap.size + 1) 3 31 (if b then refF t q 60 else refF ⟨#[]⟩ 0 0)) 3 (by kernel_rfl) (by kernel_rfl) (by decide) ⟨hB3.drew, hF3.drew, hA3.drew⟩ ?_
        refine Flag.valF (by decide) rfl (aggF 3 (refF t q 60)) (fun b w' hw' => QTail.run_val rfl (run_load_cells _ _ w.heap.size 0 3 _ (fun i hi => by rw [Nat.zero_add]; exact hw'.1.cell i hi) Try.underlying31 rfl rfl)) ?_
        refine Flag.valF (by decide) rfl (.pointer (some ⟨w.heap.size, 2, none⟩)) (fun b w' hw' => by go_simp) ?_
        refine Flag.valF (by decide) rfl (.int .i64 60) (fun b w' hw' => by have c2 : w'.cell? ⟨w.heap.size, 2, none⟩ = some (.int .i64 60) := hw'.1.cell 2 (by omega); go_simp) ?_
        refine Flag.storeF rfl 31 _ _ rfl (w.heap.size + 1) 0 3 3 31 (refF ⟨#[]⟩ 0 0) (refF t q 60) rfl rfl (by omega) rfl (fun _ _ => refF_one _ _ _ _)
          (fun w' hw' => ⟨hw'.2.2, fun w'' h1 h2 => ⟨h2.has hw'.1 (by simp), hw'.2.1.then1 h2 (.inl (Nat.le_succ _)), h1.congr fun j hj => by rw [if_pos (by omega)]; rfl⟩⟩) ?_
        refine Flag.valF (by decide) rfl (.string ⟨#[]⟩) (fun b w' hw' => by go_simp) ?_
        refine Flag.valF (by decide) rfl (.int .i64 60) (fun b w' hw' => by go_simp) ?_
        intro w9 hw9
        obtain ⟨hB9, hF9, hA9⟩ := hw9
        simp only [Act.put, List.setIfInBounds_toArray, List.set_cons_succ, List.set_cons_zero]
        go_wp2
        refine bodyPost_ret (results_ctt rfl _ rfl hA9 Try.underlying31 rfl rfl) rfl ?_
        exact ⟨hq, rfl, hF9⟩
  · have hne : (bad == 0) = false := by rw [beq_eq_false_iff_ne]; exact hbad
    have e9 : Ending.returned (Value.tuple #[aggF 3 (refF t q bad), .string ⟨#[]⟩, .int .i64 bad]) = Ending.returned (.tuple #[.agg #[.string t, .int .i64 (q : Int), .int .i64 (takeE (rest t q bad) bad n)], .string (takeV (rest t q bad) bad n), .int .i64 (takeE (rest t q bad) bad n)]) := by
      have h1 : takeE (rest t q bad) bad n = bad := by unfold takeE; rw [if_pos hbad]
      have h2 : takeV (rest t q bad) bad n = ⟨#[]⟩ := by unfold takeV takes; rw [decide_eq_false (fun h => hbad h.1)]; rfl
      rw [h1, h2]
      rfl
    have f9 : rest t q (takeE (rest t q bad) bad n) = takeS (rest t q bad) bad n := by
      have h1 : takeE (rest t q bad) bad n = bad := by unfold takeE; rw [if_pos hbad]
      rw [h1]; unfold takeS; rw [if_pos hbad]
    have h4 : takeQ (rest t q bad) q bad n = q := by unfold takeQ takes; rw [decide_eq_false (fun h => hbad h.1)]; rfl
    rw [h4]
    have e9 := Lib.hid e9
    rw [f9]
    go_wp2_with (refine wpList_alloc rfl 31 rfl 3 31 _ (alloc_ref _) ?_; intro w2 hA hFA hz; have hB := hFA.has hb0 (fun h => h); have c2 : w2.cell? ⟨w.heap.size, 2, none⟩ = some (.int .i64 bad) := hB.cell 2 (by omega))
    obtain ⟨B, hBe⟩ : ∃ B, w.heap.size = B := ⟨_, rfl⟩
    have hAs : (w.alloc (.cells #[.string t, .int .i64 (q : Int), .int .i64 bad] 31)).heap.size = B + 1 := by rw [← hBe]; simp
    rw [hAs] at hA
    have hF2 := hF0.then0 hFA
    have hwB : w.heap.size ≤ B + 1 := by omega
    rw [hBe] at hB c2 ⊢
    clear hAs hz hb0 hF0 hFA hBe
    refine Flag.region (fun b w' => Has w' B 3 31 (refF t q bad) ∧ Fr Nil w w' ∧ Has w' (B + 1) 3 31 (if b then refF t q bad else refF ⟨#[]⟩ 0 0)) 3 (by kernel_rfl) (by kernel_rfl) (by decide) ⟨hB.drew, hF2.drew, hA.drew⟩ ?_
    refine Flag.valF (by decide) rfl (aggF 3 (refF t q bad)) (fun b w' hw' => QTail.run_val rfl (run_load_cells _ _ B 0 3 _ (fun i hi => by rw [Nat.zero_add]; exact hw'.1.cell i hi) Try.underlying31 rfl rfl)) ?_
    refine Flag.valF (by decide) rfl (.pointer (some ⟨B, 2, none⟩)) (fun b w' hw' => by go_simp) ?_
    refine Flag.valF (by decide) rfl (.int .i64 bad) (fun b w' hw' => by have c2 : w'.cell? ⟨B, 2, none⟩ = some (.int .i64 bad) := hw'.1.cell 2 (by omega); go_simp) ?_
    refine Flag.storeF rfl 31 _ _ rfl (B + 1) 0 3 3 31 (refF ⟨#[]⟩ 0 0) (refF t q bad) rfl rfl (by omega) rfl (fun _ _ => refF_one _ _ _ _)
      (fun w' hw' => ⟨hw'.2.2, fun w'' h1 h2 => ⟨h2.has hw'.1 (by simp), hw'.2.1.then1 h2 (.inl hwB), h1.congr fun j hj => by rw [if_pos (by omega)]; rfl⟩⟩) ?_
    refine Flag.valF (by decide) rfl (.string ⟨#[]⟩) (fun b w' hw' => by go_simp) ?_
    refine Flag.valF (by decide) rfl (.int .i64 bad) (fun b w' hw' => by go_simp) ?_
    intro w9 hw9
    obtain ⟨hB9, hF9, hA9⟩ := hw9
    simp only [Act.put, List.setIfInBounds_toArray, List.set_cons_succ, List.set_cons_zero]
    go_wp2
    refine bodyPost_ret (results_ctt rfl _ rfl hA9 Try.underlying31 rfl rfl) rfl ?_
    exact ⟨hq, e9.out, hF9⟩

end Go.Proofs.Ytebbmpomccjbnaa.Wire
