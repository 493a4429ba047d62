/-
  Plain: what stands at a path; the contracts of Get, of path and of munimentref02.
-/
import Derived.Test.YtkjjafijmpacpaaDoorWh
import Derived.Test.YtkjjafijmpacpaaDoorTb
import Derived.LoopTactic
set_option linter.unusedVariables false
namespace Go.Proofs.YtkjjafijmpacpaaDoor
open Go.RowKit

def itemP : JV → Int → Option JV
  | .mk _ _ _ _ is, k => if 0 ≤ k then is[k.toNat]? else none
def getP : List ByteArray → JV → Option JV
  | [], j => some j
  | s :: ss, j => match itemP j (placeP j s) with
    | none => none
    | some x => getP ss x
open Classical in
/-- What stands at a path. -/
noncomputable def getX (j : JV) (s : ByteArray) : Option JV := match stepsP s (s.size + 1) 0 0 [] with
  | none => none
  | some l => if FormedP j 6 then getP l j else none
def zeroJ : JV := .mk 0 0 ⟨#[]⟩ [] []
def zeroV : LV := .mk 0 0 ⟨#[]⟩ none [] 0 none [] 0
theorem zero_at (w : World) : zeroV.At w := by
  unfold zeroV LV.At
  exact ⟨Cells.nil, Cells.nil, trivial, by omega, by omega, by decide, by simp, ⟨Nat.le_refl _, Nat.zero_le _⟩, ⟨Nat.le_refl _, Nat.zero_le _⟩⟩
abbrev zeroBlk : Array Value := #[.int .i64 0, .int .i64 0, .string ⟨#[]⟩, .slice none 0 0, .slice none 0 0]
theorem Blk.five {w : World} {g : Nat} {t : TypeId} {x y z u v : Value} (h : Blk w g t #[x, y, z, u, v]) (a b c d e : Value) : Blk (((((w.setCell ⟨g, 0, none⟩ (a)).setCell ⟨g, 1, none⟩ (b)).setCell ⟨g, 2, none⟩ (c)).setCell ⟨g, 3, none⟩ (d)).setCell ⟨g, 4, none⟩ (e)) g t #[a, b, c, d, e] := by
  have := ((((h.set_ 0 a).set_ 1 b).set_ 2 c).set_ 3 d).set_ 4 e
  simpa using this
theorem chg_five (w : World) (g : Nat) (a b c d e : Value) : Chg w (((((w.setCell ⟨g, 0, none⟩ (a)).setCell ⟨g, 1, none⟩ (b)).setCell ⟨g, 2, none⟩ (c)).setCell ⟨g, 3, none⟩ (d)).setCell ⟨g, 4, none⟩ (e)) (fun k => k = g) :=
  ((((Chg.setCell w ⟨g, 0, none⟩ a).trans (Chg.setCell _ ⟨g, 1, none⟩ b) fun i hi => .inl hi).trans (Chg.setCell _ ⟨g, 2, none⟩ c) fun i hi => .inl hi).trans (Chg.setCell _ ⟨g, 3, none⟩ d) fun i hi => .inl hi).trans (Chg.setCell _ ⟨g, 4, none⟩ e) fun i hi => .inl hi
theorem Blk.chg {w w' : World} {g : Nat} {t : TypeId} {cs : Array Value} {S : Nat → Prop} (h : Blk w g t cs) (hc : Chg w w' S) (hg : ¬ S g) : Blk w' g t cs := by
  have hl := h.lt
  unfold Blk at *
  rw [hc.block g hl hg]
  exact h
theorem row_otherP {w : World} {base : Nat} {e : TypeId} {size n g : Nat} {v : Value} {xs : List Value} (h : w.ownsRow base e size v n xs) (hg : g < base) : v.ownBlock = none ∨ v.ownBlock ≠ some g := by
  rcases h.2 with ⟨rfl, _⟩ | ⟨b, cap, cur, rfl, hb, _⟩
  · exact .inl rfl
  · refine .inr fun e => ?_
    injection e with e
    have e : b = g := e
    omega
theorem row_chgP {w w' : World} {base : Nat} {e : TypeId} {size n : Nat} {v : Value} {xs : List Value} {g : Nat} (h : w.ownsRow base e size v n xs) (hc : Chg w w' (fun k => k = g)) (hg : g < base) : w'.ownsRow base e size v n xs :=
  World.ownsRow.kept (row := some g) h ⟨hc.os, hc.tape, hc.output, hc.size, fun k hk hne => hc.block k hk fun e => hne (by rw [e])⟩ (row_otherP h hg)
theorem place_lt {k n : Int} {s : ByteArray} {ns : List ByteArray} {is : List JV} {left : Nat} (hf : FormedP (.mk k n s ns is) left) {st : ByteArray} (h0 : 0 ≤ placeP (.mk k n s ns is) st) : (placeP (.mk k n s ns is) st).toNat < is.length := by
  rw [FormedP] at hf
  rw [placeP] at h0 ⊢
  by_cases h5 : k = 5
  · rw [if_pos h5] at h0 ⊢
    by_cases hn : numP st < is.length
    · rw [if_pos hn] at h0 ⊢; omega
    · rw [if_neg hn] at h0; omega
  · rw [if_neg h5] at h0 ⊢
    by_cases h6 : k = 6
    · rw [if_pos h6] at h0 ⊢
      have hl := (hf.2.1.2.2.2.2.2.2 (by omega)).2.1 h6
      rcases findGo_ge st ns 0 with h | ⟨h1, h2⟩
      · omega
      · omega
    · rw [if_neg h6] at h0; omega
theorem formed_item {k n : Int} {s : ByteArray} {ns : List ByteArray} {is : List JV} {left : Nat} (hf : FormedP (.mk k n s ns is) left) {x : JV} (hx : x ∈ is) : FormedP x (left - 1) := by
  rw [FormedP] at hf
  exact formedAll_iff.1 hf.2.2.2 x hx

/-- The answer of Get. -/
def GetRes (X : Option JV) (e : Ending) (w' : World) : Prop := ∃ v : LV, e = .returned (.tuple #[v.val, .bool X.isSome]) ∧ v.At w' ∧ v.j = X.getD zeroJ

set_option maxRecDepth 8000 in
set_option maxHeartbeats 16000000 in
theorem get_any (v : LV) (s0 : ByteArray) (w : World) (hv : v.At w) (hs : s0.size ≤ 2000) (hT : Tabs w) : Calls Tryd.prog 12 #[v.val, .string s0] w fun e w' => GetRes (getX v.j s0) e w' ∧ Below w.heap.size w w' := by
  obtain ⟨k, n, s, An, ns, cn, Ai, is, ci⟩ := v
  obtain ⟨W, hW⟩ : ∃ W, W = (w.alloc (.cells (valBlk k n s An ns cn Ai is ci) 30)).alloc (.cells zeroBlk 30) := ⟨_, rfl⟩
  have hB0 : Below w.heap.size w W := by rw [hW]; exact ((Below.refl _ _).alloc (Nat.le_refl _) _).alloc (by simp) _
  have hF : Blk W w.heap.size 30 (valBlk k n s An ns cn Ai is ci) := by rw [hW]; exact (Blk.new w _ _).alloc _
  have hZ : Blk W (w.heap.size + 1) 30 zeroBlk := by rw [hW]; exact Blk.second w _ _ _
  have hsz : W.heap.size = w.heap.size + 2 := by rw [hW]; simp
  have hvW := hv.below hB0 _
  have HV := Lib.hid hv
  have hTW := hT.below hB0
  obtain ⟨X, hX⟩ : ∃ X, getX (LV.mk k n s An ns cn Ai is ci).j s0 = X := ⟨_, rfl⟩
  rw [hX]
  obtain ⟨Y, hY⟩ : ∃ Y, stepsP s0 (s0.size + 1) 0 0 [] = Y := ⟨_, rfl⟩
  have HST : Hid (Calls Tryd.prog 9 #[.string s0] W (StepsRes Y W)) := Lib.hid (by rw [← hY]; exact stepsT s0 W hs hTW)
  have HFO : Hid (∀ w', Below W.heap.size W w' → Calls Tryd.prog 17 #[(LV.mk k n s An ns cn Ai is ci).val] w' fun e w'' => BoolIs (FormedP (LV.mk k n s An ns cn Ai is ci).j 6) e ∧ Below w'.heap.size w' w'') := Lib.hid fun w' hb => jformed_any _ w' (hvW.below hb _) (hTW.below hb)
  have HX1 : Hid (Y = none → X = none) := Lib.hid fun h => by rw [← hX, getX, hY, h]
  have HX2 : Hid (∀ l, Y = some l → ¬ FormedP (LV.mk k n s An ns cn Ai is ci).j 6 → X = none) := Lib.hid fun l h hn => by rw [← hX, getX, hY, h]; exact if_neg hn
  have HX3 : Hid (∀ l, Y = some l → FormedP (LV.mk k n s An ns cn Ai is ci).j 6 → getP l (LV.mk k n s An ns cn Ai is ci).j = X) := Lib.hid fun l h hn => by rw [← hX, getX, hY, h]; exact (if_pos hn).symm
  have HSZ := Lib.hid hsz
  have HW := Lib.hid hW
  clear hW hv hT hX hY hsz
  have lF := hF.lt
  have lZ := hZ.lt
  show Calls Tryd.prog 12 #[.agg (valBlk k n s An ns cn Ai is ci), .string s0] w _
  go_enter Tryd.func12, Tryd.ntmps12
  go_wp2_with fail
  rw [← HW.out]
  refine HST.out.mono ?_
  cases Y with
  | none =>
    have HE := Lib.hid (HX1.out rfl)
    clear HX1 HX2 HX3 HST HFO
    rintro e w2 ⟨rfl, hb2⟩
    have hZ2 := hZ.below hb2 hZ.lt
    have hBF := hB0.trans (hb2.mono hB0.size)
    obtain ⟨W9, hW9⟩ : ∃ W9, W9 = ((((w2.setCell ⟨w.heap.size + 1, 0, none⟩ (.int .i64 0)).setCell ⟨w.heap.size + 1, 1, none⟩ (.int .i64 0)).setCell ⟨w.heap.size + 1, 2, none⟩ (.string ⟨#[]⟩)).setCell ⟨w.heap.size + 1, 3, none⟩ (.slice none 0 0)).setCell ⟨w.heap.size + 1, 4, none⟩ (.slice none 0 0) := ⟨_, rfl⟩
    have hFin : Below w.heap.size w W9 := by rw [hW9]; exact hBF.trans ((chg_five w2 (w.heap.size + 1) (.int .i64 0) (.int .i64 0) (.string ⟨#[]⟩) (.slice none 0 0) (.slice none 0 0)).below hBF.size fun i hi => by omega)
    have hZF : Blk W9 (w.heap.size + 1) 30 #[.int .i64 0, .int .i64 0, .string ⟨#[]⟩, .slice none 0 0, .slice none 0 0] := by rw [hW9]; exact hZ2.five (.int .i64 0) (.int .i64 0) (.string ⟨#[]⟩) (.slice none 0 0) (.slice none 0 0)
    obtain ⟨j0, j1, j2, j3, j4⟩ : W9.cell? ⟨w.heap.size + 1, 0, none⟩ = some (.int .i64 0) ∧ W9.cell? ⟨w.heap.size + 1, 1, none⟩ = some (.int .i64 0) ∧ W9.cell? ⟨w.heap.size + 1, 2, none⟩ = some (.string ⟨#[]⟩) ∧ W9.cell? ⟨w.heap.size + 1, 3, none⟩ = some (.slice none 0 0) ∧ W9.cell? ⟨w.heap.size + 1, 4, none⟩ = some (.slice none 0 0) := ⟨hZF.cell 0, hZF.cell 1, hZF.cell 2, hZF.cell 3, hZF.cell 4⟩
    obtain ⟨y0, y1, y2, y3, y4⟩ : w2.frozen? ⟨w.heap.size + 1, 0, none⟩ = false ∧ w2.frozen? ⟨w.heap.size + 1, 1, none⟩ = false ∧ w2.frozen? ⟨w.heap.size + 1, 2, none⟩ = false ∧ w2.frozen? ⟨w.heap.size + 1, 3, none⟩ = false ∧ w2.frozen? ⟨w.heap.size + 1, 4, none⟩ = false := ⟨hZ2.free 0, hZ2.free 1, hZ2.free 2, hZ2.free 3, hZ2.free 4⟩
    obtain ⟨x0, x1, x2, x3, x4⟩ : w2.cell? ⟨w.heap.size + 1, 0, none⟩ = some (.int .i64 0) ∧ w2.cell? ⟨w.heap.size + 1, 1, none⟩ = some (.int .i64 0) ∧ w2.cell? ⟨w.heap.size + 1, 2, none⟩ = some (.string ⟨#[]⟩) ∧ w2.cell? ⟨w.heap.size + 1, 3, none⟩ = some (.slice none 0 0) ∧ w2.cell? ⟨w.heap.size + 1, 4, none⟩ = some (.slice none 0 0) := ⟨hZ2.cell 0, hZ2.cell 1, hZ2.cell 2, hZ2.cell 3, hZ2.cell 4⟩
    have HW9 := Lib.hid hW9
    clear hW9
    go_wp2
    rw [← HW9.out]
    exact bodyPost_ret (v := .tuple #[.agg #[.int .i64 0, .int .i64 0, .string ⟨#[]⟩, .slice none 0 0, .slice none 0 0], .bool false]) (by simp [results, Tryd.results12, go_sem, j0, j1, j2, j3, j4]) rfl ⟨⟨zeroV, by rw [HE.out]; rfl, zero_at _, by rw [HE.out]; rfl⟩, hFin⟩
  | some l =>
    rintro e w2 ⟨⟨v2, rfl, hown⟩, hb2⟩
    have hF2 := hF.below hb2 hF.lt
    have hZ2 := hZ.below hb2 hZ.lt
    have hBF2 := hB0.trans (hb2.mono hB0.size)
    obtain ⟨A, cp, rfl, hcp, hcm, _⟩ := ownsRow_shape hown
    unfold maxLen at hcm
    obtain ⟨c0, c1, c2, c3, c4⟩ : w2.cell? ⟨w.heap.size, 0, none⟩ = some (.int .i64 k) ∧ w2.cell? ⟨w.heap.size, 1, none⟩ = some (.int .i64 n) ∧ w2.cell? ⟨w.heap.size, 2, none⟩ = some (.string s) ∧ w2.cell? ⟨w.heap.size, 3, none⟩ = some (.slice An ns.length cn) ∧ w2.cell? ⟨w.heap.size, 4, none⟩ = some (.slice Ai is.length ci) := ⟨hF2.cell 0, hF2.cell 1, hF2.cell 2, hF2.cell 3, hF2.cell 4⟩
    have HF2 := Lib.hid (HFO.out w2 hb2)
    have HX22 := Lib.hid (HX2.out l rfl)
    have HX33 := Lib.hid (HX3.out l rfl)
    clear HX1 HX2 HX3 HST HFO
    obtain ⟨F, hFF⟩ : ∃ F, F = FormedP (LV.mk k n s An ns cn Ai is ci).j 6 := ⟨_, rfl⟩
    rw [← hFF] at HF2 HX22 HX33
    have HFF := Lib.hid hFF
    clear hFF
    go_wp2_with fail
    refine HF2.out.mono ?_
    rintro e w3 ⟨⟨bb, rfl, hbb⟩, hb3⟩
    clear c0 c1 c2 c3 c4
    have hF3 := hF2.below hb3 hF2.lt
    have hZ3 := hZ2.below hb3 hZ2.lt
    have hBF := hBF2.trans (hb3.mono hBF2.size)
    have hown3 := row_below hown hb3
    have HBB := Lib.hid hbb
    clear hbb hown
    cases bb with
    | false =>
      have HE : Hid (X = none) := Lib.hid (HX22.out fun h => by have := HBB.out.2 h; cases this)
      clear HBB HX22 HX33 hown3
      obtain ⟨W9, hW9⟩ : ∃ W9, W9 = ((((w3.setCell ⟨w.heap.size + 1, 0, none⟩ (.int .i64 0)).setCell ⟨w.heap.size + 1, 1, none⟩ (.int .i64 0)).setCell ⟨w.heap.size + 1, 2, none⟩ (.string ⟨#[]⟩)).setCell ⟨w.heap.size + 1, 3, none⟩ (.slice none 0 0)).setCell ⟨w.heap.size + 1, 4, none⟩ (.slice none 0 0) := ⟨_, rfl⟩
      have hFin : Below w.heap.size w W9 := by rw [hW9]; exact hBF.trans ((chg_five w3 (w.heap.size + 1) (.int .i64 0) (.int .i64 0) (.string ⟨#[]⟩) (.slice none 0 0) (.slice none 0 0)).below hBF.size fun i hi => by omega)
      have hZF : Blk W9 (w.heap.size + 1) 30 #[.int .i64 0, .int .i64 0, .string ⟨#[]⟩, .slice none 0 0, .slice none 0 0] := by rw [hW9]; exact hZ3.five (.int .i64 0) (.int .i64 0) (.string ⟨#[]⟩) (.slice none 0 0) (.slice none 0 0)
      obtain ⟨j0, j1, j2, j3, j4⟩ : W9.cell? ⟨w.heap.size + 1, 0, none⟩ = some (.int .i64 0) ∧ W9.cell? ⟨w.heap.size + 1, 1, none⟩ = some (.int .i64 0) ∧ W9.cell? ⟨w.heap.size + 1, 2, none⟩ = some (.string ⟨#[]⟩) ∧ W9.cell? ⟨w.heap.size + 1, 3, none⟩ = some (.slice none 0 0) ∧ W9.cell? ⟨w.heap.size + 1, 4, none⟩ = some (.slice none 0 0) := ⟨hZF.cell 0, hZF.cell 1, hZF.cell 2, hZF.cell 3, hZF.cell 4⟩
      obtain ⟨y0, y1, y2, y3, y4⟩ : w3.frozen? ⟨w.heap.size + 1, 0, none⟩ = false ∧ w3.frozen? ⟨w.heap.size + 1, 1, none⟩ = false ∧ w3.frozen? ⟨w.heap.size + 1, 2, none⟩ = false ∧ w3.frozen? ⟨w.heap.size + 1, 3, none⟩ = false ∧ w3.frozen? ⟨w.heap.size + 1, 4, none⟩ = false := ⟨hZ3.free 0, hZ3.free 1, hZ3.free 2, hZ3.free 3, hZ3.free 4⟩
      obtain ⟨x0, x1, x2, x3, x4⟩ : w3.cell? ⟨w.heap.size + 1, 0, none⟩ = some (.int .i64 0) ∧ w3.cell? ⟨w.heap.size + 1, 1, none⟩ = some (.int .i64 0) ∧ w3.cell? ⟨w.heap.size + 1, 2, none⟩ = some (.string ⟨#[]⟩) ∧ w3.cell? ⟨w.heap.size + 1, 3, none⟩ = some (.slice none 0 0) ∧ w3.cell? ⟨w.heap.size + 1, 4, none⟩ = some (.slice none 0 0) := ⟨hZ3.cell 0, hZ3.cell 1, hZ3.cell 2, hZ3.cell 3, hZ3.cell 4⟩
      have HW9 := Lib.hid hW9
      clear hW9
      go_wp2
      rw [← HW9.out]
      exact bodyPost_ret (v := .tuple #[.agg #[.int .i64 0, .int .i64 0, .string ⟨#[]⟩, .slice none 0 0, .slice none 0 0], .bool false]) (by simp [results, Tryd.results12, go_sem, j0, j1, j2, j3, j4]) rfl ⟨⟨zeroV, by rw [HE.out]; rfl, zero_at _, by rw [HE.out]; rfl⟩, hFin⟩
    | true =>
    have HG0 := Lib.hid (HX33.out (HBB.out.1 rfl))
    have HF0 : Hid (FormedP (LV.mk k n s An ns cn Ai is ci).j 6) := Lib.hid (by rw [← HFF.out]; exact HBB.out.1 rfl)
    clear HBB HX22 HX33
    go_wp2
    go_loopw [8] (fun i wr => ∃ (q : Nat) (x : LV) (left : Nat), i = .int .i64 q ∧ q ≤ l.length ∧ Hid (x.At w) ∧ Hid (FormedP x.j left) ∧ Blk wr w.heap.size 30 x.cells.toArray ∧ Blk wr (w.heap.size + 1) 30 zeroBlk ∧ wr.ownsRow W.heap.size 9 1 (.slice A l.length cp) l.length (l.map Value.string) ∧ Hid (getP (l.drop q) x.j = X) ∧ Below w.heap.size w wr) (fun i _ => l.length - (RowKit.intOf i).toNat)
    case atStart => exact ⟨0, .mk k n s An ns cn Ai is ci, 6, rfl, Nat.zero_le _, HV, HF0, hF3, hZ3, hown3, HG0, hBF⟩
    case round =>
      clear hF hF2 hF3 hZ2 hZ3 hown3 hBF2 hBF hb2 hb3 hvW HV lF lZ HG0 HF0 HFF HF2 hZ hB0 HW
      obtain ⟨q, x, left, rfl, hq, HXA, HFP, hFr, hZr, hown, HG, hBF⟩ := hrel
      have HSZ2 := HSZ.out
      obtain ⟨k, n, s, An, ns, cn, Ai, is, ci⟩ := x
      have hFr : Blk wr w.heap.size 30 (valBlk k n s An ns cn Ai is ci) := hFr
      have lF := hFr.lt
      obtain ⟨c0, c1, c2, c3, c4⟩ : wr.cell? ⟨w.heap.size, 0, none⟩ = some (.int .i64 k) ∧ wr.cell? ⟨w.heap.size, 1, none⟩ = some (.int .i64 n) ∧ wr.cell? ⟨w.heap.size, 2, none⟩ = some (.string s) ∧ wr.cell? ⟨w.heap.size, 3, none⟩ = some (.slice An ns.length cn) ∧ wr.cell? ⟨w.heap.size, 4, none⟩ = some (.slice Ai is.length ci) := ⟨hFr.cell 0, hFr.cell 1, hFr.cell 2, hFr.cell 3, hFr.cell 4⟩
      by_cases hlt : q < l.length
      · have hqI : (q : Int) < (l.length : Int) := by omega
        have hq0 : (0 : Int) ≤ (q : Int) := by omega
        obtain ⟨A', cp', eA, _, _, hcl⟩ := ownsRow_shape hown
        injection eA with eA1 eA2 eA3
        subst eA1 eA3
        clear eA2
        obtain ⟨b, off, hAn, hb, hca⟩ := hcl q (.string l[q]) (by rw [List.getElem?_map, List.getElem?_eq_getElem hlt]; rfl)
        subst hAn
        have HS : Hid (∀ w', Calm wr w' → w'.cell? ⟨w.heap.size, 0, none⟩ = some (.int .i64 k) ∧ w'.cell? ⟨w.heap.size, 1, none⟩ = some (.int .i64 n) ∧ w'.cell? ⟨w.heap.size, 2, none⟩ = some (.string s) ∧ w'.cell? ⟨w.heap.size, 3, none⟩ = some (.slice An ns.length cn) ∧ w'.cell? ⟨w.heap.size, 4, none⟩ = some (.slice Ai is.length ci) ∧ w'.cell? ⟨b, off + q, none⟩ = some (.string l[q])) := Lib.hid fun w' hw' => ⟨(Below.cell (p := ⟨w.heap.size, 0, none⟩) hw' (by exact lF)).trans c0, (Below.cell (p := ⟨w.heap.size, 1, none⟩) hw' (by exact lF)).trans c1, (Below.cell (p := ⟨w.heap.size, 2, none⟩) hw' (by exact lF)).trans c2, (Below.cell (p := ⟨w.heap.size, 3, none⟩) hw' (by exact lF)).trans c3, (Below.cell (p := ⟨w.heap.size, 4, none⟩) hw' (by exact lF)).trans c4, (Below.cell (p := ⟨b, off + q, none⟩) hw' (by exact hb)).trans hca⟩
        have HPL : Hid (∀ w', Calm wr w' → Calls Tryd.prog 21 #[(LV.mk k n s An ns cn Ai is ci).val, .string l[q]] w' fun e w'' => e = .returned (.int .i64 (placeP (LV.mk k n s An ns cn Ai is ci).j l[q])) ∧ Below w'.heap.size w' w'') := Lib.hid fun w' hw' => place_any _ _ _ ((HXA.out.below hBF _).below hw' _)
        have HG2 : Hid ((match itemP (LV.mk k n s An ns cn Ai is ci).j (placeP (LV.mk k n s An ns cn Ai is ci).j l[q]) with | none => none | some x => getP (l.drop (q + 1)) x) = X) := Lib.hid (by rw [← HG.out, List.drop_eq_getElem_cons hlt, getP] <;> rfl)
        have HLT : Hid (0 ≤ placeP (LV.mk k n s An ns cn Ai is ci).j l[q] → (placeP (LV.mk k n s An ns cn Ai is ci).j l[q]).toNat < is.length) := Lib.hid fun h => by
          have h1 := HFP.out
          rw [LV.j] at h1 h ⊢
          have := place_lt h1 h
          rwa [LV.js_len] at this
        clear c0 c1 c2 c3 c4 hca HG
        generalize l[q] = st at *
        generalize placeP (LV.mk k n s An ns cn Ai is ci).j st = K at *
        go_wp2
        refine region_calm (by kernel_rfl) (by kernel_rfl) ?_
        repeat (first
          | go_big_quiet_skip
          | (go_big_quiet_want
             apply quiet_at
             · intro w' hw'
               (obtain ⟨z0, z1, z2, z3, z4, z5⟩ := HS.out _ (by assumption))
               go_simp
               first
                 | done
                 | exact rfl
                 | ((go_at_call 21; refine (HPL.out _ (by assumption)).mono ?_; rintro e w9 ⟨h1, h2⟩; exact ⟨h1, Below.trans (by assumption) (h2.mono (Below.size (by assumption)))⟩))
             (try simp only [Act.put, List.setIfInBounds_toArray, List.set_cons_zero, List.set_cons_succ])
             go_big_quiet_on))
        refine wpQuiet_nil ?_
        intro w5 hb5
        have hb5d : Below wr.heap.size wr w5 := hb5
        have hF5 := hFr.below hb5d hFr.lt
        have hZ5 := hZr.below hb5d hZr.lt
        have hown5 := row_below hown hb5d
        have hBF := hBF.trans (hb5d.mono hBF.size)
        clear HS HPL hown hcl hFr hZr
        by_cases hK : K < 0
        · have HE : Hid (X = none) := Lib.hid (by rw [← HG2.out, LV.j, itemP, if_neg (by omega)])
          clear HG2 HLT hown5
          obtain ⟨W9, hW9⟩ : ∃ W9, W9 = ((((w5.setCell ⟨w.heap.size + 1, 0, none⟩ (.int .i64 0)).setCell ⟨w.heap.size + 1, 1, none⟩ (.int .i64 0)).setCell ⟨w.heap.size + 1, 2, none⟩ (.string ⟨#[]⟩)).setCell ⟨w.heap.size + 1, 3, none⟩ (.slice none 0 0)).setCell ⟨w.heap.size + 1, 4, none⟩ (.slice none 0 0) := ⟨_, rfl⟩
          have hFin : Below w.heap.size w W9 := by rw [hW9]; exact hBF.trans ((chg_five w5 (w.heap.size + 1) (.int .i64 0) (.int .i64 0) (.string ⟨#[]⟩) (.slice none 0 0) (.slice none 0 0)).below hBF.size fun i hi => by omega)
          have hZF : Blk W9 (w.heap.size + 1) 30 #[.int .i64 0, .int .i64 0, .string ⟨#[]⟩, .slice none 0 0, .slice none 0 0] := by rw [hW9]; exact hZ5.five (.int .i64 0) (.int .i64 0) (.string ⟨#[]⟩) (.slice none 0 0) (.slice none 0 0)
          obtain ⟨j0, j1, j2, j3, j4⟩ : W9.cell? ⟨w.heap.size + 1, 0, none⟩ = some (.int .i64 0) ∧ W9.cell? ⟨w.heap.size + 1, 1, none⟩ = some (.int .i64 0) ∧ W9.cell? ⟨w.heap.size + 1, 2, none⟩ = some (.string ⟨#[]⟩) ∧ W9.cell? ⟨w.heap.size + 1, 3, none⟩ = some (.slice none 0 0) ∧ W9.cell? ⟨w.heap.size + 1, 4, none⟩ = some (.slice none 0 0) := ⟨hZF.cell 0, hZF.cell 1, hZF.cell 2, hZF.cell 3, hZF.cell 4⟩
          obtain ⟨y0, y1, y2, y3, y4⟩ : w5.frozen? ⟨w.heap.size + 1, 0, none⟩ = false ∧ w5.frozen? ⟨w.heap.size + 1, 1, none⟩ = false ∧ w5.frozen? ⟨w.heap.size + 1, 2, none⟩ = false ∧ w5.frozen? ⟨w.heap.size + 1, 3, none⟩ = false ∧ w5.frozen? ⟨w.heap.size + 1, 4, none⟩ = false := ⟨hZ5.free 0, hZ5.free 1, hZ5.free 2, hZ5.free 3, hZ5.free 4⟩
          obtain ⟨x0, x1, x2, x3, x4⟩ : w5.cell? ⟨w.heap.size + 1, 0, none⟩ = some (.int .i64 0) ∧ w5.cell? ⟨w.heap.size + 1, 1, none⟩ = some (.int .i64 0) ∧ w5.cell? ⟨w.heap.size + 1, 2, none⟩ = some (.string ⟨#[]⟩) ∧ w5.cell? ⟨w.heap.size + 1, 3, none⟩ = some (.slice none 0 0) ∧ w5.cell? ⟨w.heap.size + 1, 4, none⟩ = some (.slice none 0 0) := ⟨hZ5.cell 0, hZ5.cell 1, hZ5.cell 2, hZ5.cell 3, hZ5.cell 4⟩
          have HW9 := Lib.hid hW9
          clear hW9
          go_wp2
          rw [← HW9.out]
          exact bodyPost_ret (v := .tuple #[.agg #[.int .i64 0, .int .i64 0, .string ⟨#[]⟩, .slice none 0 0, .slice none 0 0], .bool false]) (by simp [results, Tryd.results12, go_sem, j0, j1, j2, j3, j4]) rfl ⟨⟨zeroV, by rw [HE.out]; rfl, zero_at _, by rw [HE.out]; rfl⟩, hFin⟩
        · obtain ⟨p, rfl⟩ : ∃ p : Nat, K = (p : Int) := ⟨K.toNat, by omega⟩
          have hp : p < is.length := by have := HLT.out (by omega); omega
          have hpI : (p : Int) < (is.length : Int) := by omega
          have hp0 : (0 : Int) ≤ (p : Int) := by omega
          obtain ⟨b2, off2, rfl, hb2, hit, hcell⟩ := ((HXA.out.below hBF _)).item hp
          have HIT : Hid ((is[p]).At w) := Lib.hid (LV.allAt.1 (by have := HXA.out; unfold LV.At at this; exact this.2.2.1) _ (List.getElem_mem hp))
          have HFI : Hid (FormedP (is[p]).j (left - 1)) := Lib.hid (by
            have h1 := HFP.out
            rw [LV.j] at h1
            exact formed_item h1 (by rw [LV.js_map]; exact List.mem_map_of_mem (List.getElem_mem hp)))
          have HGN : Hid (getP (l.drop (q + 1)) (is[p]).j = X) := Lib.hid (by
            rw [← HG2.out, LV.j, itemP, if_pos (by omega), Int.toNat_natCast, LV.js_map, List.getElem?_map, List.getElem?_eq_getElem hp]
            rfl)
          obtain ⟨y, hy⟩ : ∃ y, is[p] = y := ⟨_, rfl⟩
          rw [hy] at HIT HFI HGN hcell
          obtain ⟨k', n', s', An', ns', cn', Ai', is', ci'⟩ := y
          have d0 : w5.cell? ⟨b2, off2 + p * 5, none⟩ = some (.int .i64 k') := hcell 0 _ rfl
          have d1 : w5.cell? ⟨b2, off2 + p * 5 + 1, none⟩ = some (.int .i64 n') := hcell 1 _ rfl
          have d2 : w5.cell? ⟨b2, off2 + p * 5 + 2, none⟩ = some (.string s') := hcell 2 _ rfl
          have d3 : w5.cell? ⟨b2, off2 + p * 5 + 3, none⟩ = some (.slice An' ns'.length cn') := hcell 3 _ rfl
          have d4 : w5.cell? ⟨b2, off2 + p * 5 + 4, none⟩ = some (.slice Ai' is'.length ci') := hcell 4 _ rfl
          clear hcell hy HG2 HLT hit HXA HFP
          obtain ⟨c0, c1, c2, c3, c4⟩ : w5.cell? ⟨w.heap.size, 0, none⟩ = some (.int .i64 k) ∧ w5.cell? ⟨w.heap.size, 1, none⟩ = some (.int .i64 n) ∧ w5.cell? ⟨w.heap.size, 2, none⟩ = some (.string s) ∧ w5.cell? ⟨w.heap.size, 3, none⟩ = some (.slice An ns.length cn) ∧ w5.cell? ⟨w.heap.size, 4, none⟩ = some (.slice (some ⟨b2, off2, none⟩) is.length ci) := ⟨hF5.cell 0, hF5.cell 1, hF5.cell 2, hF5.cell 3, hF5.cell 4⟩
          obtain ⟨y0, y1, y2, y3, y4⟩ : w5.frozen? ⟨w.heap.size, 0, none⟩ = false ∧ w5.frozen? ⟨w.heap.size, 1, none⟩ = false ∧ w5.frozen? ⟨w.heap.size, 2, none⟩ = false ∧ w5.frozen? ⟨w.heap.size, 3, none⟩ = false ∧ w5.frozen? ⟨w.heap.size, 4, none⟩ = false := ⟨hF5.free 0, hF5.free 1, hF5.free 2, hF5.free 3, hF5.free 4⟩
          go_wp2
          go_roundw
          case rel => exact ⟨q + 1, .mk k' n' s' An' ns' cn' Ai' is' ci', left - 1, by go_num, by omega, HIT, HFI, hF5.five (.int .i64 k') (.int .i64 n') (.string s') (.slice An' ns'.length cn') (.slice Ai' is'.length ci'), hZ5.chg (chg_five w5 w.heap.size (.int .i64 k') (.int .i64 n') (.string s') (.slice An' ns'.length cn') (.slice Ai' is'.length ci')) (by omega), row_chgP hown5 (chg_five w5 w.heap.size (.int .i64 k') (.int .i64 n') (.string s') (.slice An' ns'.length cn') (.slice Ai' is'.length ci')) (by omega), HGN, hBF.trans ((chg_five w5 w.heap.size (.int .i64 k') (.int .i64 n') (.string s') (.slice An' ns'.length cn') (.slice Ai' is'.length ci')).below hBF.size fun i hi => by omega)⟩
          case measure => simp [RowKit.intOf]; omega
      · have hqI : ¬ (q : Int) < (l.length : Int) := by omega
        have HE : Hid (X = some (LV.mk k n s An ns cn Ai is ci).j) := Lib.hid (by rw [← HG.out, List.drop_of_length_le (by omega), getP])
        clear hown HG
        obtain ⟨W9, hW9⟩ : ∃ W9, W9 = ((((wr.setCell ⟨w.heap.size + 1, 0, none⟩ (.int .i64 k)).setCell ⟨w.heap.size + 1, 1, none⟩ (.int .i64 n)).setCell ⟨w.heap.size + 1, 2, none⟩ (.string s)).setCell ⟨w.heap.size + 1, 3, none⟩ (.slice An ns.length cn)).setCell ⟨w.heap.size + 1, 4, none⟩ (.slice Ai is.length ci) := ⟨_, rfl⟩
        have hFin : Below w.heap.size w W9 := by rw [hW9]; exact hBF.trans ((chg_five wr (w.heap.size + 1) (.int .i64 k) (.int .i64 n) (.string s) (.slice An ns.length cn) (.slice Ai is.length ci)).below hBF.size fun i hi => by omega)
        have hZF : Blk W9 (w.heap.size + 1) 30 #[.int .i64 k, .int .i64 n, .string s, .slice An ns.length cn, .slice Ai is.length ci] := by rw [hW9]; exact hZr.five (.int .i64 k) (.int .i64 n) (.string s) (.slice An ns.length cn) (.slice Ai is.length ci)
        obtain ⟨j0, j1, j2, j3, j4⟩ : W9.cell? ⟨w.heap.size + 1, 0, none⟩ = some (.int .i64 k) ∧ W9.cell? ⟨w.heap.size + 1, 1, none⟩ = some (.int .i64 n) ∧ W9.cell? ⟨w.heap.size + 1, 2, none⟩ = some (.string s) ∧ W9.cell? ⟨w.heap.size + 1, 3, none⟩ = some (.slice An ns.length cn) ∧ W9.cell? ⟨w.heap.size + 1, 4, none⟩ = some (.slice Ai is.length ci) := ⟨hZF.cell 0, hZF.cell 1, hZF.cell 2, hZF.cell 3, hZF.cell 4⟩
        obtain ⟨y0, y1, y2, y3, y4⟩ : wr.frozen? ⟨w.heap.size + 1, 0, none⟩ = false ∧ wr.frozen? ⟨w.heap.size + 1, 1, none⟩ = false ∧ wr.frozen? ⟨w.heap.size + 1, 2, none⟩ = false ∧ wr.frozen? ⟨w.heap.size + 1, 3, none⟩ = false ∧ wr.frozen? ⟨w.heap.size + 1, 4, none⟩ = false := ⟨hZr.free 0, hZr.free 1, hZr.free 2, hZr.free 3, hZr.free 4⟩
        obtain ⟨x0, x1, x2, x3, x4⟩ : wr.cell? ⟨w.heap.size + 1, 0, none⟩ = some (.int .i64 0) ∧ wr.cell? ⟨w.heap.size + 1, 1, none⟩ = some (.int .i64 0) ∧ wr.cell? ⟨w.heap.size + 1, 2, none⟩ = some (.string ⟨#[]⟩) ∧ wr.cell? ⟨w.heap.size + 1, 3, none⟩ = some (.slice none 0 0) ∧ wr.cell? ⟨w.heap.size + 1, 4, none⟩ = some (.slice none 0 0) := ⟨hZr.cell 0, hZr.cell 1, hZr.cell 2, hZr.cell 3, hZr.cell 4⟩
        have HW9 := Lib.hid hW9
        clear hW9
        go_wp2
        rw [← HW9.out]
        exact bodyPost_ret (v := .tuple #[.agg #[.int .i64 k, .int .i64 n, .string s, .slice An ns.length cn, .slice Ai is.length ci], .bool true]) (by simp [results, Tryd.results12, go_sem, j0, j1, j2, j3, j4]) rfl ⟨⟨.mk k n s An ns cn Ai is ci, by rw [HE.out]; rfl, HXA.out.below hFin _, by rw [HE.out]; rfl⟩, hFin⟩

set_option maxRecDepth 8000 in
set_option maxHeartbeats 16000000 in
theorem rget_any (v : LV) (s0 : ByteArray) (w : World) (hv : v.At w) (hs : s0.size ≤ 2000) (hT : Tabs w) : Calls Tryd.prog 13 #[v.val, .string s0] w fun e w' => GetRes (getX v.j s0) e w' ∧ Below w.heap.size w w' := by
  obtain ⟨k, n, s, An, ns, cn, Ai, is, ci⟩ := v
  obtain ⟨W, hW⟩ : ∃ W, W = (w.alloc (.cells (valBlk k n s An ns cn Ai is ci) 30)).alloc (.cells zeroBlk 30) := ⟨_, rfl⟩
  have hB0 : Below w.heap.size w W := by rw [hW]; exact ((Below.refl _ _).alloc (Nat.le_refl _) _).alloc (by simp) _
  have hF : Blk W w.heap.size 30 (valBlk k n s An ns cn Ai is ci) := by rw [hW]; exact (Blk.new w _ _).alloc _
  have hZ : Blk W (w.heap.size + 1) 30 zeroBlk := by rw [hW]; exact Blk.second w _ _ _
  have hsz : W.heap.size = w.heap.size + 2 := by rw [hW]; simp
  have hvW := hv.below hB0 _
  have HV := Lib.hid hv
  have hTW := hT.below hB0
  obtain ⟨X, hX⟩ : ∃ X, getX (LV.mk k n s An ns cn Ai is ci).j s0 = X := ⟨_, rfl⟩
  rw [hX]
  obtain ⟨Y, hY⟩ : ∃ Y, stepsP s0 (s0.size + 1) 0 0 [] = Y := ⟨_, rfl⟩
  have HST : Hid (Calls Tryd.prog 10 #[.string s0] W (StepsRes Y W)) := Lib.hid (by rw [← hY]; exact rstepsT s0 W hs)
  have HFO : Hid (∀ w', Below W.heap.size W w' → Calls Tryd.prog 22 #[(LV.mk k n s An ns cn Ai is ci).val] w' fun e w'' => BoolIs (FormedP (LV.mk k n s An ns cn Ai is ci).j 6) e ∧ Below w'.heap.size w' w'') := Lib.hid fun w' hb => rformed_any _ w' (hvW.below hb _)
  have HX1 : Hid (Y = none → X = none) := Lib.hid fun h => by rw [← hX, getX, hY, h]
  have HX2 : Hid (∀ l, Y = some l → ¬ FormedP (LV.mk k n s An ns cn Ai is ci).j 6 → X = none) := Lib.hid fun l h hn => by rw [← hX, getX, hY, h]; exact if_neg hn
  have HX3 : Hid (∀ l, Y = some l → FormedP (LV.mk k n s An ns cn Ai is ci).j 6 → getP l (LV.mk k n s An ns cn Ai is ci).j = X) := Lib.hid fun l h hn => by rw [← hX, getX, hY, h]; exact (if_pos hn).symm
  have HSZ := Lib.hid hsz
  have HW := Lib.hid hW
  clear hW hv hT hX hY hsz
  have lF := hF.lt
  have lZ := hZ.lt
  show Calls Tryd.prog 13 #[.agg (valBlk k n s An ns cn Ai is ci), .string s0] w _
  go_enter Tryd.func13, Tryd.ntmps13
  go_wp2_with fail
  rw [← HW.out]
  refine HST.out.mono ?_
  cases Y with
  | none =>
    have HE := Lib.hid (HX1.out rfl)
    clear HX1 HX2 HX3 HST HFO
    rintro e w2 ⟨rfl, hb2⟩
    have hZ2 := hZ.below hb2 hZ.lt
    have hBF := hB0.trans (hb2.mono hB0.size)
    obtain ⟨W9, hW9⟩ : ∃ W9, W9 = ((((w2.setCell ⟨w.heap.size + 1, 0, none⟩ (.int .i64 0)).setCell ⟨w.heap.size + 1, 1, none⟩ (.int .i64 0)).setCell ⟨w.heap.size + 1, 2, none⟩ (.string ⟨#[]⟩)).setCell ⟨w.heap.size + 1, 3, none⟩ (.slice none 0 0)).setCell ⟨w.heap.size + 1, 4, none⟩ (.slice none 0 0) := ⟨_, rfl⟩
    have hFin : Below w.heap.size w W9 := by rw [hW9]; exact hBF.trans ((chg_five w2 (w.heap.size + 1) (.int .i64 0) (.int .i64 0) (.string ⟨#[]⟩) (.slice none 0 0) (.slice none 0 0)).below hBF.size fun i hi => by omega)
    have hZF : Blk W9 (w.heap.size + 1) 30 #[.int .i64 0, .int .i64 0, .string ⟨#[]⟩, .slice none 0 0, .slice none 0 0] := by rw [hW9]; exact hZ2.five (.int .i64 0) (.int .i64 0) (.string ⟨#[]⟩) (.slice none 0 0) (.slice none 0 0)
    obtain ⟨j0, j1, j2, j3, j4⟩ : W9.cell? ⟨w.heap.size + 1, 0, none⟩ = some (.int .i64 0) ∧ W9.cell? ⟨w.heap.size + 1, 1, none⟩ = some (.int .i64 0) ∧ W9.cell? ⟨w.heap.size + 1, 2, none⟩ = some (.string ⟨#[]⟩) ∧ W9.cell? ⟨w.heap.size + 1, 3, none⟩ = some (.slice none 0 0) ∧ W9.cell? ⟨w.heap.size + 1, 4, none⟩ = some (.slice none 0 0) := ⟨hZF.cell 0, hZF.cell 1, hZF.cell 2, hZF.cell 3, hZF.cell 4⟩
    obtain ⟨y0, y1, y2, y3, y4⟩ : w2.frozen? ⟨w.heap.size + 1, 0, none⟩ = false ∧ w2.frozen? ⟨w.heap.size + 1, 1, none⟩ = false ∧ w2.frozen? ⟨w.heap.size + 1, 2, none⟩ = false ∧ w2.frozen? ⟨w.heap.size + 1, 3, none⟩ = false ∧ w2.frozen? ⟨w.heap.size + 1, 4, none⟩ = false := ⟨hZ2.free 0, hZ2.free 1, hZ2.free 2, hZ2.free 3, hZ2.free 4⟩
    obtain ⟨x0, x1, x2, x3, x4⟩ : w2.cell? ⟨w.heap.size + 1, 0, none⟩ = some (.int .i64 0) ∧ w2.cell? ⟨w.heap.size + 1, 1, none⟩ = some (.int .i64 0) ∧ w2.cell? ⟨w.heap.size + 1, 2, none⟩ = some (.string ⟨#[]⟩) ∧ w2.cell? ⟨w.heap.size + 1, 3, none⟩ = some (.slice none 0 0) ∧ w2.cell? ⟨w.heap.size + 1, 4, none⟩ = some (.slice none 0 0) := ⟨hZ2.cell 0, hZ2.cell 1, hZ2.cell 2, hZ2.cell 3, hZ2.cell 4⟩
    have HW9 := Lib.hid hW9
    clear hW9
    go_wp2
    rw [← HW9.out]
    exact bodyPost_ret (v := .tuple #[.agg #[.int .i64 0, .int .i64 0, .string ⟨#[]⟩, .slice none 0 0, .slice none 0 0], .bool false]) (by simp [results, Tryd.results13, go_sem, j0, j1, j2, j3, j4]) rfl ⟨⟨zeroV, by rw [HE.out]; rfl, zero_at _, by rw [HE.out]; rfl⟩, hFin⟩
  | some l =>
    rintro e w2 ⟨⟨v2, rfl, hown⟩, hb2⟩
    have hF2 := hF.below hb2 hF.lt
    have hZ2 := hZ.below hb2 hZ.lt
    have hBF2 := hB0.trans (hb2.mono hB0.size)
    obtain ⟨A, cp, rfl, hcp, hcm, _⟩ := ownsRow_shape hown
    unfold maxLen at hcm
    obtain ⟨c0, c1, c2, c3, c4⟩ : w2.cell? ⟨w.heap.size, 0, none⟩ = some (.int .i64 k) ∧ w2.cell? ⟨w.heap.size, 1, none⟩ = some (.int .i64 n) ∧ w2.cell? ⟨w.heap.size, 2, none⟩ = some (.string s) ∧ w2.cell? ⟨w.heap.size, 3, none⟩ = some (.slice An ns.length cn) ∧ w2.cell? ⟨w.heap.size, 4, none⟩ = some (.slice Ai is.length ci) := ⟨hF2.cell 0, hF2.cell 1, hF2.cell 2, hF2.cell 3, hF2.cell 4⟩
    have HF2 := Lib.hid (HFO.out w2 hb2)
    have HX22 := Lib.hid (HX2.out l rfl)
    have HX33 := Lib.hid (HX3.out l rfl)
    clear HX1 HX2 HX3 HST HFO
    obtain ⟨F, hFF⟩ : ∃ F, F = FormedP (LV.mk k n s An ns cn Ai is ci).j 6 := ⟨_, rfl⟩
    rw [← hFF] at HF2 HX22 HX33
    have HFF := Lib.hid hFF
    clear hFF
    go_wp2_with fail
    refine HF2.out.mono ?_
    rintro e w3 ⟨⟨bb, rfl, hbb⟩, hb3⟩
    clear c0 c1 c2 c3 c4
    have hF3 := hF2.below hb3 hF2.lt
    have hZ3 := hZ2.below hb3 hZ2.lt
    have hBF := hBF2.trans (hb3.mono hBF2.size)
    have hown3 := row_below hown hb3
    have HBB := Lib.hid hbb
    clear hbb hown
    cases bb with
    | false =>
      have HE : Hid (X = none) := Lib.hid (HX22.out fun h => by have := HBB.out.2 h; cases this)
      clear HBB HX22 HX33 hown3
      obtain ⟨W9, hW9⟩ : ∃ W9, W9 = ((((w3.setCell ⟨w.heap.size + 1, 0, none⟩ (.int .i64 0)).setCell ⟨w.heap.size + 1, 1, none⟩ (.int .i64 0)).setCell ⟨w.heap.size + 1, 2, none⟩ (.string ⟨#[]⟩)).setCell ⟨w.heap.size + 1, 3, none⟩ (.slice none 0 0)).setCell ⟨w.heap.size + 1, 4, none⟩ (.slice none 0 0) := ⟨_, rfl⟩
      have hFin : Below w.heap.size w W9 := by rw [hW9]; exact hBF.trans ((chg_five w3 (w.heap.size + 1) (.int .i64 0) (.int .i64 0) (.string ⟨#[]⟩) (.slice none 0 0) (.slice none 0 0)).below hBF.size fun i hi => by omega)
      have hZF : Blk W9 (w.heap.size + 1) 30 #[.int .i64 0, .int .i64 0, .string ⟨#[]⟩, .slice none 0 0, .slice none 0 0] := by rw [hW9]; exact hZ3.five (.int .i64 0) (.int .i64 0) (.string ⟨#[]⟩) (.slice none 0 0) (.slice none 0 0)
      obtain ⟨j0, j1, j2, j3, j4⟩ : W9.cell? ⟨w.heap.size + 1, 0, none⟩ = some (.int .i64 0) ∧ W9.cell? ⟨w.heap.size + 1, 1, none⟩ = some (.int .i64 0) ∧ W9.cell? ⟨w.heap.size + 1, 2, none⟩ = some (.string ⟨#[]⟩) ∧ W9.cell? ⟨w.heap.size + 1, 3, none⟩ = some (.slice none 0 0) ∧ W9.cell? ⟨w.heap.size + 1, 4, none⟩ = some (.slice none 0 0) := ⟨hZF.cell 0, hZF.cell 1, hZF.cell 2, hZF.cell 3, hZF.cell 4⟩
      obtain ⟨y0, y1, y2, y3, y4⟩ : w3.frozen? ⟨w.heap.size + 1, 0, none⟩ = false ∧ w3.frozen? ⟨w.heap.size + 1, 1, none⟩ = false ∧ w3.frozen? ⟨w.heap.size + 1, 2, none⟩ = false ∧ w3.frozen? ⟨w.heap.size + 1, 3, none⟩ = false ∧ w3.frozen? ⟨w.heap.size + 1, 4, none⟩ = false := ⟨hZ3.free 0, hZ3.free 1, hZ3.free 2, hZ3.free 3, hZ3.free 4⟩
      obtain ⟨x0, x1, x2, x3, x4⟩ : w3.cell? ⟨w.heap.size + 1, 0, none⟩ = some (.int .i64 0) ∧ w3.cell? ⟨w.heap.size + 1, 1, none⟩ = some (.int .i64 0) ∧ w3.cell? ⟨w.heap.size + 1, 2, none⟩ = some (.string ⟨#[]⟩) ∧ w3.cell? ⟨w.heap.size + 1, 3, none⟩ = some (.slice none 0 0) ∧ w3.cell? ⟨w.heap.size + 1, 4, none⟩ = some (.slice none 0 0) := ⟨hZ3.cell 0, hZ3.cell 1, hZ3.cell 2, hZ3.cell 3, hZ3.cell 4⟩
      have HW9 := Lib.hid hW9
      clear hW9
      go_wp2
      rw [← HW9.out]
      exact bodyPost_ret (v := .tuple #[.agg #[.int .i64 0, .int .i64 0, .string ⟨#[]⟩, .slice none 0 0, .slice none 0 0], .bool false]) (by simp [results, Tryd.results13, go_sem, j0, j1, j2, j3, j4]) rfl ⟨⟨zeroV, by rw [HE.out]; rfl, zero_at _, by rw [HE.out]; rfl⟩, hFin⟩
    | true =>
    have HG0 := Lib.hid (HX33.out (HBB.out.1 rfl))
    have HF0 : Hid (FormedP (LV.mk k n s An ns cn Ai is ci).j 6) := Lib.hid (by rw [← HFF.out]; exact HBB.out.1 rfl)
    clear HBB HX22 HX33
    go_wp2
    go_loopw [8] (fun i wr => ∃ (q : Nat) (x : LV) (left : Nat), i = .int .i64 q ∧ q ≤ l.length ∧ Hid (x.At w) ∧ Hid (FormedP x.j left) ∧ Blk wr w.heap.size 30 x.cells.toArray ∧ Blk wr (w.heap.size + 1) 30 zeroBlk ∧ wr.ownsRow W.heap.size 9 1 (.slice A l.length cp) l.length (l.map Value.string) ∧ Hid (getP (l.drop q) x.j = X) ∧ Below w.heap.size w wr) (fun i _ => l.length - (RowKit.intOf i).toNat)
    case atStart => exact ⟨0, .mk k n s An ns cn Ai is ci, 6, rfl, Nat.zero_le _, HV, HF0, hF3, hZ3, hown3, HG0, hBF⟩
    case round =>
      clear hF hF2 hF3 hZ2 hZ3 hown3 hBF2 hBF hb2 hb3 hvW HV lF lZ HG0 HF0 HFF HF2 hZ hB0 HW
      obtain ⟨q, x, left, rfl, hq, HXA, HFP, hFr, hZr, hown, HG, hBF⟩ := hrel
      have HSZ2 := HSZ.out
      obtain ⟨k, n, s, An, ns, cn, Ai, is, ci⟩ := x
      have hFr : Blk wr w.heap.size 30 (valBlk k n s An ns cn Ai is ci) := hFr
      have lF := hFr.lt
      obtain ⟨c0, c1, c2, c3, c4⟩ : wr.cell? ⟨w.heap.size, 0, none⟩ = some (.int .i64 k) ∧ wr.cell? ⟨w.heap.size, 1, none⟩ = some (.int .i64 n) ∧ wr.cell? ⟨w.heap.size, 2, none⟩ = some (.string s) ∧ wr.cell? ⟨w.heap.size, 3, none⟩ = some (.slice An ns.length cn) ∧ wr.cell? ⟨w.heap.size, 4, none⟩ = some (.slice Ai is.length ci) := ⟨hFr.cell 0, hFr.cell 1, hFr.cell 2, hFr.cell 3, hFr.cell 4⟩
      by_cases hlt : q < l.length
      · have hqI : (q : Int) < (l.length : Int) := by omega
        have hq0 : (0 : Int) ≤ (q : Int) := by omega
        obtain ⟨A', cp', eA, _, _, hcl⟩ := ownsRow_shape hown
        injection eA with eA1 eA2 eA3
        subst eA1 eA3
        clear eA2
        obtain ⟨b, off, hAn, hb, hca⟩ := hcl q (.string l[q]) (by rw [List.getElem?_map, List.getElem?_eq_getElem hlt]; rfl)
        subst hAn
        have HS : Hid (∀ w', Calm wr w' → w'.cell? ⟨w.heap.size, 0, none⟩ = some (.int .i64 k) ∧ w'.cell? ⟨w.heap.size, 1, none⟩ = some (.int .i64 n) ∧ w'.cell? ⟨w.heap.size, 2, none⟩ = some (.string s) ∧ w'.cell? ⟨w.heap.size, 3, none⟩ = some (.slice An ns.length cn) ∧ w'.cell? ⟨w.heap.size, 4, none⟩ = some (.slice Ai is.length ci) ∧ w'.cell? ⟨b, off + q, none⟩ = some (.string l[q])) := Lib.hid fun w' hw' => ⟨(Below.cell (p := ⟨w.heap.size, 0, none⟩) hw' (by exact lF)).trans c0, (Below.cell (p := ⟨w.heap.size, 1, none⟩) hw' (by exact lF)).trans c1, (Below.cell (p := ⟨w.heap.size, 2, none⟩) hw' (by exact lF)).trans c2, (Below.cell (p := ⟨w.heap.size, 3, none⟩) hw' (by exact lF)).trans c3, (Below.cell (p := ⟨w.heap.size, 4, none⟩) hw' (by exact lF)).trans c4, (Below.cell (p := ⟨b, off + q, none⟩) hw' (by exact hb)).trans hca⟩
        have HPL : Hid (∀ w', Calm wr w' → Calls Tryd.prog 23 #[(LV.mk k n s An ns cn Ai is ci).val, .string l[q]] w' fun e w'' => e = .returned (.int .i64 (placeP (LV.mk k n s An ns cn Ai is ci).j l[q])) ∧ Below w'.heap.size w' w'') := Lib.hid fun w' hw' => rplace_any _ _ _ ((HXA.out.below hBF _).below hw' _)
        have HG2 : Hid ((match itemP (LV.mk k n s An ns cn Ai is ci).j (placeP (LV.mk k n s An ns cn Ai is ci).j l[q]) with | none => none | some x => getP (l.drop (q + 1)) x) = X) := Lib.hid (by rw [← HG.out, List.drop_eq_getElem_cons hlt, getP] <;> rfl)
        have HLT : Hid (0 ≤ placeP (LV.mk k n s An ns cn Ai is ci).j l[q] → (placeP (LV.mk k n s An ns cn Ai is ci).j l[q]).toNat < is.length) := Lib.hid fun h => by
          have h1 := HFP.out
          rw [LV.j] at h1 h ⊢
          have := place_lt h1 h
          rwa [LV.js_len] at this
        clear c0 c1 c2 c3 c4 hca HG
        generalize l[q] = st at *
        generalize placeP (LV.mk k n s An ns cn Ai is ci).j st = K at *
        go_wp2
        refine region_calm (by kernel_rfl) (by kernel_rfl) ?_
        repeat (first
          | go_big_quiet_skip
          | (go_big_quiet_want
             apply quiet_at
             · intro w' hw'
               (obtain ⟨z0, z1, z2, z3, z4, z5⟩ := HS.out _ (by assumption))
               go_simp
               first
                 | done
                 | exact rfl
                 | ((go_at_call 23; refine (HPL.out _ (by assumption)).mono ?_; rintro e w9 ⟨h1, h2⟩; exact ⟨h1, Below.trans (by assumption) (h2.mono (Below.size (by assumption)))⟩))
             (try simp only [Act.put, List.setIfInBounds_toArray, List.set_cons_zero, List.set_cons_succ])
             go_big_quiet_on))
        refine wpQuiet_nil ?_
        intro w5 hb5
        have hb5d : Below wr.heap.size wr w5 := hb5
        have hF5 := hFr.below hb5d hFr.lt
        have hZ5 := hZr.below hb5d hZr.lt
        have hown5 := row_below hown hb5d
        have hBF := hBF.trans (hb5d.mono hBF.size)
        clear HS HPL hown hcl hFr hZr
        by_cases hK : K < 0
        · have HE : Hid (X = none) := Lib.hid (by rw [← HG2.out, LV.j, itemP, if_neg (by omega)])
          clear HG2 HLT hown5
          obtain ⟨W9, hW9⟩ : ∃ W9, W9 = ((((w5.setCell ⟨w.heap.size + 1, 0, none⟩ (.int .i64 0)).setCell ⟨w.heap.size + 1, 1, none⟩ (.int .i64 0)).setCell ⟨w.heap.size + 1, 2, none⟩ (.string ⟨#[]⟩)).setCell ⟨w.heap.size + 1, 3, none⟩ (.slice none 0 0)).setCell ⟨w.heap.size + 1, 4, none⟩ (.slice none 0 0) := ⟨_, rfl⟩
          have hFin : Below w.heap.size w W9 := by rw [hW9]; exact hBF.trans ((chg_five w5 (w.heap.size + 1) (.int .i64 0) (.int .i64 0) (.string ⟨#[]⟩) (.slice none 0 0) (.slice none 0 0)).below hBF.size fun i hi => by omega)
          have hZF : Blk W9 (w.heap.size + 1) 30 #[.int .i64 0, .int .i64 0, .string ⟨#[]⟩, .slice none 0 0, .slice none 0 0] := by rw [hW9]; exact hZ5.five (.int .i64 0) (.int .i64 0) (.string ⟨#[]⟩) (.slice none 0 0) (.slice none 0 0)
          obtain ⟨j0, j1, j2, j3, j4⟩ : W9.cell? ⟨w.heap.size + 1, 0, none⟩ = some (.int .i64 0) ∧ W9.cell? ⟨w.heap.size + 1, 1, none⟩ = some (.int .i64 0) ∧ W9.cell? ⟨w.heap.size + 1, 2, none⟩ = some (.string ⟨#[]⟩) ∧ W9.cell? ⟨w.heap.size + 1, 3, none⟩ = some (.slice none 0 0) ∧ W9.cell? ⟨w.heap.size + 1, 4, none⟩ = some (.slice none 0 0) := ⟨hZF.cell 0, hZF.cell 1, hZF.cell 2, hZF.cell 3, hZF.cell 4⟩
          obtain ⟨y0, y1, y2, y3, y4⟩ : w5.frozen? ⟨w.heap.size + 1, 0, none⟩ = false ∧ w5.frozen? ⟨w.heap.size + 1, 1, none⟩ = false ∧ w5.frozen? ⟨w.heap.size + 1, 2, none⟩ = false ∧ w5.frozen? ⟨w.heap.size + 1, 3, none⟩ = false ∧ w5.frozen? ⟨w.heap.size + 1, 4, none⟩ = false := ⟨hZ5.free 0, hZ5.free 1, hZ5.free 2, hZ5.free 3, hZ5.free 4⟩
          obtain ⟨x0, x1, x2, x3, x4⟩ : w5.cell? ⟨w.heap.size + 1, 0, none⟩ = some (.int .i64 0) ∧ w5.cell? ⟨w.heap.size + 1, 1, none⟩ = some (.int .i64 0) ∧ w5.cell? ⟨w.heap.size + 1, 2, none⟩ = some (.string ⟨#[]⟩) ∧ w5.cell? ⟨w.heap.size + 1, 3, none⟩ = some (.slice none 0 0) ∧ w5.cell? ⟨w.heap.size + 1, 4, none⟩ = some (.slice none 0 0) := ⟨hZ5.cell 0, hZ5.cell 1, hZ5.cell 2, hZ5.cell 3, hZ5.cell 4⟩
          have HW9 := Lib.hid hW9
          clear hW9
          go_wp2
          rw [← HW9.out]
          exact bodyPost_ret (v := .tuple #[.agg #[.int .i64 0, .int .i64 0, .string ⟨#[]⟩, .slice none 0 0, .slice none 0 0], .bool false]) (by simp [results, Tryd.results13, go_sem, j0, j1, j2, j3, j4]) rfl ⟨⟨zeroV, by rw [HE.out]; rfl, zero_at _, by rw [HE.out]; rfl⟩, hFin⟩
        · obtain ⟨p, rfl⟩ : ∃ p : Nat, K = (p : Int) := ⟨K.toNat, by omega⟩
          have hp : p < is.length := by have := HLT.out (by omega); omega
          have hpI : (p : Int) < (is.length : Int) := by omega
          have hp0 : (0 : Int) ≤ (p : Int) := by omega
          obtain ⟨b2, off2, rfl, hb2, hit, hcell⟩ := ((HXA.out.below hBF _)).item hp
          have HIT : Hid ((is[p]).At w) := Lib.hid (LV.allAt.1 (by have := HXA.out; unfold LV.At at this; exact this.2.2.1) _ (List.getElem_mem hp))
          have HFI : Hid (FormedP (is[p]).j (left - 1)) := Lib.hid (by
            have h1 := HFP.out
            rw [LV.j] at h1
            exact formed_item h1 (by rw [LV.js_map]; exact List.mem_map_of_mem (List.getElem_mem hp)))
          have HGN : Hid (getP (l.drop (q + 1)) (is[p]).j = X) := Lib.hid (by
            rw [← HG2.out, LV.j, itemP, if_pos (by omega), Int.toNat_natCast, LV.js_map, List.getElem?_map, List.getElem?_eq_getElem hp]
            rfl)
          obtain ⟨y, hy⟩ : ∃ y, is[p] = y := ⟨_, rfl⟩
          rw [hy] at HIT HFI HGN hcell
          obtain ⟨k', n', s', An', ns', cn', Ai', is', ci'⟩ := y
          have d0 : w5.cell? ⟨b2, off2 + p * 5, none⟩ = some (.int .i64 k') := hcell 0 _ rfl
          have d1 : w5.cell? ⟨b2, off2 + p * 5 + 1, none⟩ = some (.int .i64 n') := hcell 1 _ rfl
          have d2 : w5.cell? ⟨b2, off2 + p * 5 + 2, none⟩ = some (.string s') := hcell 2 _ rfl
          have d3 : w5.cell? ⟨b2, off2 + p * 5 + 3, none⟩ = some (.slice An' ns'.length cn') := hcell 3 _ rfl
          have d4 : w5.cell? ⟨b2, off2 + p * 5 + 4, none⟩ = some (.slice Ai' is'.length ci') := hcell 4 _ rfl
          clear hcell hy HG2 HLT hit HXA HFP
          obtain ⟨c0, c1, c2, c3, c4⟩ : w5.cell? ⟨w.heap.size, 0, none⟩ = some (.int .i64 k) ∧ w5.cell? ⟨w.heap.size, 1, none⟩ = some (.int .i64 n) ∧ w5.cell? ⟨w.heap.size, 2, none⟩ = some (.string s) ∧ w5.cell? ⟨w.heap.size, 3, none⟩ = some (.slice An ns.length cn) ∧ w5.cell? ⟨w.heap.size, 4, none⟩ = some (.slice (some ⟨b2, off2, none⟩) is.length ci) := ⟨hF5.cell 0, hF5.cell 1, hF5.cell 2, hF5.cell 3, hF5.cell 4⟩
          obtain ⟨y0, y1, y2, y3, y4⟩ : w5.frozen? ⟨w.heap.size, 0, none⟩ = false ∧ w5.frozen? ⟨w.heap.size, 1, none⟩ = false ∧ w5.frozen? ⟨w.heap.size, 2, none⟩ = false ∧ w5.frozen? ⟨w.heap.size, 3, none⟩ = false ∧ w5.frozen? ⟨w.heap.size, 4, none⟩ = false := ⟨hF5.free 0, hF5.free 1, hF5.free 2, hF5.free 3, hF5.free 4⟩
          go_wp2
          go_roundw
          case rel => exact ⟨q + 1, .mk k' n' s' An' ns' cn' Ai' is' ci', left - 1, by go_num, by omega, HIT, HFI, hF5.five (.int .i64 k') (.int .i64 n') (.string s') (.slice An' ns'.length cn') (.slice Ai' is'.length ci'), hZ5.chg (chg_five w5 w.heap.size (.int .i64 k') (.int .i64 n') (.string s') (.slice An' ns'.length cn') (.slice Ai' is'.length ci')) (by omega), row_chgP hown5 (chg_five w5 w.heap.size (.int .i64 k') (.int .i64 n') (.string s') (.slice An' ns'.length cn') (.slice Ai' is'.length ci')) (by omega), HGN, hBF.trans ((chg_five w5 w.heap.size (.int .i64 k') (.int .i64 n') (.string s') (.slice An' ns'.length cn') (.slice Ai' is'.length ci')).below hBF.size fun i hi => by omega)⟩
          case measure => simp [RowKit.intOf]; omega
      · have hqI : ¬ (q : Int) < (l.length : Int) := by omega
        have HE : Hid (X = some (LV.mk k n s An ns cn Ai is ci).j) := Lib.hid (by rw [← HG.out, List.drop_of_length_le (by omega), getP])
        clear hown HG
        obtain ⟨W9, hW9⟩ : ∃ W9, W9 = ((((wr.setCell ⟨w.heap.size + 1, 0, none⟩ (.int .i64 k)).setCell ⟨w.heap.size + 1, 1, none⟩ (.int .i64 n)).setCell ⟨w.heap.size + 1, 2, none⟩ (.string s)).setCell ⟨w.heap.size + 1, 3, none⟩ (.slice An ns.length cn)).setCell ⟨w.heap.size + 1, 4, none⟩ (.slice Ai is.length ci) := ⟨_, rfl⟩
        have hFin : Below w.heap.size w W9 := by rw [hW9]; exact hBF.trans ((chg_five wr (w.heap.size + 1) (.int .i64 k) (.int .i64 n) (.string s) (.slice An ns.length cn) (.slice Ai is.length ci)).below hBF.size fun i hi => by omega)
        have hZF : Blk W9 (w.heap.size + 1) 30 #[.int .i64 k, .int .i64 n, .string s, .slice An ns.length cn, .slice Ai is.length ci] := by rw [hW9]; exact hZr.five (.int .i64 k) (.int .i64 n) (.string s) (.slice An ns.length cn) (.slice Ai is.length ci)
        obtain ⟨j0, j1, j2, j3, j4⟩ : W9.cell? ⟨w.heap.size + 1, 0, none⟩ = some (.int .i64 k) ∧ W9.cell? ⟨w.heap.size + 1, 1, none⟩ = some (.int .i64 n) ∧ W9.cell? ⟨w.heap.size + 1, 2, none⟩ = some (.string s) ∧ W9.cell? ⟨w.heap.size + 1, 3, none⟩ = some (.slice An ns.length cn) ∧ W9.cell? ⟨w.heap.size + 1, 4, none⟩ = some (.slice Ai is.length ci) := ⟨hZF.cell 0, hZF.cell 1, hZF.cell 2, hZF.cell 3, hZF.cell 4⟩
        obtain ⟨y0, y1, y2, y3, y4⟩ : wr.frozen? ⟨w.heap.size + 1, 0, none⟩ = false ∧ wr.frozen? ⟨w.heap.size + 1, 1, none⟩ = false ∧ wr.frozen? ⟨w.heap.size + 1, 2, none⟩ = false ∧ wr.frozen? ⟨w.heap.size + 1, 3, none⟩ = false ∧ wr.frozen? ⟨w.heap.size + 1, 4, none⟩ = false := ⟨hZr.free 0, hZr.free 1, hZr.free 2, hZr.free 3, hZr.free 4⟩
        obtain ⟨x0, x1, x2, x3, x4⟩ : wr.cell? ⟨w.heap.size + 1, 0, none⟩ = some (.int .i64 0) ∧ wr.cell? ⟨w.heap.size + 1, 1, none⟩ = some (.int .i64 0) ∧ wr.cell? ⟨w.heap.size + 1, 2, none⟩ = some (.string ⟨#[]⟩) ∧ wr.cell? ⟨w.heap.size + 1, 3, none⟩ = some (.slice none 0 0) ∧ wr.cell? ⟨w.heap.size + 1, 4, none⟩ = some (.slice none 0 0) := ⟨hZr.cell 0, hZr.cell 1, hZr.cell 2, hZr.cell 3, hZr.cell 4⟩
        have HW9 := Lib.hid hW9
        clear hW9
        go_wp2
        rw [← HW9.out]
        exact bodyPost_ret (v := .tuple #[.agg #[.int .i64 k, .int .i64 n, .string s, .slice An ns.length cn, .slice Ai is.length ci], .bool true]) (by simp [results, Tryd.results13, go_sem, j0, j1, j2, j3, j4]) rfl ⟨⟨.mk k n s An ns cn Ai is ci, by rw [HE.out]; rfl, HXA.out.below hFin _, by rw [HE.out]; rfl⟩, hFin⟩
end Go.Proofs.YtkjjafijmpacpaaDoor
