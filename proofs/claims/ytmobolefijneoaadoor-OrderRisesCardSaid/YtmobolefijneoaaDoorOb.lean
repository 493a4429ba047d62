/-
  Plain: the order of values; the contracts of cmp.Or and order.compare.
-/
import Derived.Test.YtmobolefijneoaaDoorOa
import Derived.LoopTactic
import Derived.StillTailTactics
import Derived.Deep.Cut
import Derived.Deep.DeepCutAuto
set_option linter.unusedVariables false
namespace Go.Proofs.YtmobolefijneoaaDoor
open Go.RowKit

def firstNZ : List Int → Int
  | [] => 0
  | x :: xs => if x ≠ 0 then x else firstNZ xs
/-- What two names say: nothing where there are none. -/
def nameC (ob : Bool) (a b : ByteArray) : Int := if ob then cmpS a b else 0
mutual
/-- The order of values. -/
def cmpJ : JV → JV → Int
  | .mk k n s ns is, .mk k2 n2 s2 ns2 is2 => if firstNZ [cmpI k k2, cmpI n n2, cmpS s s2] ≠ 0 then firstNZ [cmpI k k2, cmpI n n2, cmpS s s2] else rowsJ (decide (k = 6)) is is2 ns ns2
def rowsJ (ob : Bool) : List JV → List JV → List ByteArray → List ByteArray → Int
  | [], [], _, _ => 0
  | [], _ :: _, _, _ => -1
  | _ :: _, [], _, _ => 1
  | x :: xs, y :: ys, ns, ns2 =>
    if nameC ob (ns.headD ⟨#[]⟩) (ns2.headD ⟨#[]⟩) ≠ 0 then nameC ob (ns.headD ⟨#[]⟩) (ns2.headD ⟨#[]⟩)
    else if cmpJ x y ≠ 0 then cmpJ x y else rowsJ ob xs ys ns.tail ns2.tail
end
theorem cmpI_range (a b : Int) : cmpI a b = -1 ∨ cmpI a b = 0 ∨ cmpI a b = 1 := by
  rcases cmpI_cases a b with ⟨_, h⟩ | ⟨_, h⟩ | ⟨_, h⟩ <;> omega
theorem cmpS_range (a b : ByteArray) : cmpS a b = -1 ∨ cmpS a b = 0 ∨ cmpS a b = 1 := cmpL_range _ _
theorem firstNZ_range : ∀ {l : List Int}, (∀ x ∈ l, x = -1 ∨ x = 0 ∨ x = 1) → firstNZ l = -1 ∨ firstNZ l = 0 ∨ firstNZ l = 1
  | [], _ => .inr (.inl rfl)
  | x :: xs, h => by
    rw [firstNZ]
    split
    · exact h x (.head _)
    · exact firstNZ_range fun y hy => h y (.tail _ hy)
theorem head_range (k k2 n n2 : Int) (s s2 : ByteArray) : firstNZ [cmpI k k2, cmpI n n2, cmpS s s2] = -1 ∨ firstNZ [cmpI k k2, cmpI n n2, cmpS s s2] = 0 ∨ firstNZ [cmpI k k2, cmpI n n2, cmpS s s2] = 1 :=
  firstNZ_range (by
    intro x hx
    simp only [List.mem_cons, List.not_mem_nil, or_false] at hx
    rcases hx with rfl | rfl | rfl
    · exact cmpI_range _ _
    · exact cmpI_range _ _
    · exact cmpS_range _ _)
mutual
theorem cmpJ_range : ∀ (a b : JV), cmpJ a b = -1 ∨ cmpJ a b = 0 ∨ cmpJ a b = 1
  | .mk k n s ns is, .mk k2 n2 s2 ns2 is2 => by
    rw [cmpJ]
    split
    · exact head_range _ _ _ _ _ _
    · exact rowsJ_range _ is is2 ns ns2
theorem rowsJ_range (ob : Bool) : ∀ (is is2 : List JV) (ns ns2 : List ByteArray), rowsJ ob is is2 ns ns2 = -1 ∨ rowsJ ob is is2 ns ns2 = 0 ∨ rowsJ ob is is2 ns ns2 = 1
  | [], [], _, _ => by simp [rowsJ]
  | [], _ :: _, _, _ => by simp [rowsJ]
  | _ :: _, [], _, _ => by simp [rowsJ]
  | x :: xs, y :: ys, ns, ns2 => by
    rw [rowsJ]
    split
    · unfold nameC; cases ob
      · exact .inr (.inl rfl)
      · exact cmpS_range _ _
    · split
      · exact cmpJ_range x y
      · exact rowsJ_range ob xs ys _ _
end
theorem rows_end (ob : Bool) {is is2 : List JV} {q : Nat} (hq : q ≤ is.length) (hq2 : q ≤ is2.length) (h : q = is.length ∨ q = is2.length) (ns ns2 : List ByteArray) : rowsJ ob (is.drop q) (is2.drop q) ns ns2 = cmpI is.length is2.length := by
  have h1 : (is.drop q).length = is.length - q := List.length_drop
  have h2 : (is2.drop q).length = is2.length - q := List.length_drop
  generalize is.drop q = a at *
  generalize is2.drop q = b at *
  unfold cmpI
  rcases a with _ | ⟨x, xs⟩ <;> rcases b with _ | ⟨y, ys⟩ <;> simp only [List.length_nil, List.length_cons, rowsJ] at *
  · rw [if_neg (by omega), if_neg (by omega)]
  · rw [if_pos (by omega)]
  · rw [if_neg (by omega), if_pos (by omega)]
  · omega
theorem rows_step (ob : Bool) {is is2 : List JV} {q : Nat} (hq : q < is.length) (hq2 : q < is2.length) (ns ns2 : List ByteArray) : rowsJ ob (is.drop q) (is2.drop q) (ns.drop q) (ns2.drop q) =
    if nameC ob (ns.getD q ⟨#[]⟩) (ns2.getD q ⟨#[]⟩) ≠ 0 then nameC ob (ns.getD q ⟨#[]⟩) (ns2.getD q ⟨#[]⟩)
    else if cmpJ is[q] is2[q] ≠ 0 then cmpJ is[q] is2[q] else rowsJ ob (is.drop (q + 1)) (is2.drop (q + 1)) (ns.drop (q + 1)) (ns2.drop (q + 1)) := by
  have e : ∀ l : List ByteArray, (l.drop q).headD ⟨#[]⟩ = l.getD q ⟨#[]⟩ := fun l => by
    rw [List.headD_eq_head?_getD, List.head?_drop, List.getD_eq_getElem?_getD]
  rw [List.drop_eq_getElem_cons hq, List.drop_eq_getElem_cons hq2, rowsJ, e, e, List.tail_drop, List.tail_drop]

theorem formed_itemO {k n : Int} {s : ByteArray} {ns : List ByteArray} {is : List JV} {left : Nat} (hf : FormedP (.mk k n s ns is) left) {x : JV} (hx : x ∈ is) : FormedP x (left - 1) := by
  rw [FormedP] at hf
  exact formedAll_iff.1 hf.2.2.2 x hx
/-- One step along two rows: the names, the values, the rest. -/
def StepIs (E D N X : Int) : Prop := (if E ≠ 0 then E else if D ≠ 0 then D else N) = X
theorem StepIs.name {E D N X : Int} (h : StepIs E D N X) (hE : E ≠ 0) : X = E := by unfold StepIs at h; rw [← h, if_pos hE]
theorem StepIs.val {D N X : Int} (h : StepIs 0 D N X) (hD : D ≠ 0) : X = D := by unfold StepIs at h; rw [← h, if_neg (by simp), if_pos hD]
theorem StepIs.rest {N X : Int} (h : StepIs 0 0 N X) : N = X := by unfold StepIs at h; rw [← h, if_neg (by simp), if_neg (by simp)]
def Ints (l : List Int) : List Value := l.map fun x => .int .i64 x
set_option maxHeartbeats 2000000 in
theorem or_any (b : Nat) (l : List Int) (w : World) (hc : Cells w w.heap.size (some ⟨b, 0, none⟩) (Ints l)) (hl : l.length ≤ 1000) :
    Calls Tryd.prog 32 #[.slice (some ⟨b, 0, none⟩) l.length l.length] w fun e w' => e = .returned (.int .i64 (firstNZ l)) ∧ w' = w := by
  obtain ⟨X, hX⟩ : ∃ X, firstNZ l = X := ⟨_, rfl⟩
  rw [hX]
  have HX : Hid (firstNZ (l.drop 0) = X) := Lib.hid hX
  clear hX
  go_enter Tryd.func32, Tryd.ntmps32
  go_wp2
  go_loopw [8] (fun i wr => ∃ q : Nat, i = .int .i64 q ∧ q ≤ l.length ∧ Hid (firstNZ (l.drop q) = X) ∧ wr = w) (fun i _ => l.length - (RowKit.intOf i).toNat)
  case atStart => exact ⟨0, rfl, Nat.zero_le _, HX, rfl⟩
  case round =>
    obtain ⟨q, rfl, hq, HQ, rfl⟩ := hrel
    by_cases hlt : q < l.length
    · have hqI : (q : Int) < (l.length : Int) := by omega
      have HQ2 : Hid ((if l[q] ≠ 0 then l[q] else firstNZ (l.drop (q + 1))) = X) := Lib.hid (by rw [← HQ.out, List.drop_eq_getElem_cons hlt, firstNZ])
      have hcq : wr.cell? ⟨b, 0 + q, none⟩ = some (.int .i64 l[q]) := hc.known (by rw [Ints, List.getElem?_map, List.getElem?_eq_getElem hlt]; rfl)
      rw [Nat.zero_add] at hcq
      generalize l[q] = x at *
      by_cases hx : x = 0
      · have HE : Hid (firstNZ (l.drop (q + 1)) = X) := Lib.hid (by rw [← HQ2.out, if_neg (by simpa using hx)])
        subst hx
        clear HQ HQ2
        go_wp2
        go_roundw
        case rel => exact ⟨q + 1, by go_num, by omega, HE, by first | rfl | trivial⟩
        case measure => simp [RowKit.intOf]; omega
      · have HE : Hid (X = x) := Lib.hid (by rw [← HQ2.out, if_pos hx])
        have hxb : (x != 0) = true := by rw [bne_iff_ne]; exact hx
        clear hx
        go_wp2
        go_ret
        exact ⟨by rw [HE.out] <;> rfl, rfl⟩
    · have hqI : ¬ (q : Int) < (l.length : Int) := by omega
      have HE : Hid (X = 0) := Lib.hid (by rw [← HQ.out, List.drop_of_length_le (by omega), firstNZ])
      go_wp2
      go_ret
      exact ⟨by rw [HE.out] <;> rfl, rfl⟩

set_option maxRecDepth 8000 in
set_option maxHeartbeats 16000000 in
theorem compare_any : ∀ (m : Nat) (v v2 : LV) (left left2 : Nat) (w : World), v.sz < m → v.At w → v2.At w → FormedP v.j left → FormedP v2.j left2 →
    Calls Tryd.prog 23 #[v.val, v2.val] w fun e w' => e = .returned (.int .i64 (cmpJ v.j v2.j)) ∧ Below w.heap.size w w' := by
  intro m
  induction m with
  | zero => intro v v2 left left2 w hm; omega
  | succ m ih =>
    intro v v2 left left2 w hm hv hv2 hf hf2
    obtain ⟨k, n, s, An, ns, cn, Ai, is, ci⟩ := v
    obtain ⟨k2, n2, s2, An2, ns2, cn2, Ai2, is2, ci2⟩ := v2
    obtain ⟨X, hX⟩ : ∃ X, cmpJ (LV.mk k n s An ns cn Ai is ci).j (LV.mk k2 n2 s2 An2 ns2 cn2 Ai2 is2 ci2).j = X := ⟨_, rfl⟩
    rw [hX]
    have HX : Hid ((if firstNZ [cmpI k k2, cmpI n n2, cmpS s s2] ≠ 0 then firstNZ [cmpI k k2, cmpI n n2, cmpS s s2] else rowsJ (decide (k = 6)) (LV.js is) (LV.js is2) ns ns2) = X) := Lib.hid (by rw [← hX, LV.j, LV.j, cmpJ])
    have HFN : Hid (firstNZ [cmpI k k2, cmpI n n2, cmpS s s2] = 0 → k = k2) := Lib.hid fun h => by
      rw [firstNZ] at h
      by_cases h1 : cmpI k k2 ≠ 0
      · rw [if_pos h1] at h; exact absurd h h1
      · rcases cmpI_cases k k2 with ⟨_, h2⟩ | ⟨_, h2⟩ | ⟨h2, _⟩
        · omega
        · omega
        · exact h2
    have HNL : Hid (k = 6 → ns.length = is.length) := Lib.hid fun h => by
      rw [LV.j, FormedP] at hf
      have := (hf.2.1.2.2.2.2.2.2 (by omega)).2.1 h
      rwa [LV.js_len] at this
    have HNL2 : Hid (k2 = 6 → ns2.length = is2.length) := Lib.hid fun h => by
      rw [LV.j, FormedP] at hf2
      have := (hf2.2.1.2.2.2.2.2.2 (by omega)).2.1 h
      rwa [LV.js_len] at this
    have HFI : Hid (∀ (q : Nat) (h : q < is.length), FormedP (is[q]).j (left - 1)) := Lib.hid fun q h => by
      rw [LV.j] at hf
      exact formed_itemO hf (by rw [LV.js_map]; exact List.mem_map_of_mem (List.getElem_mem h))
    have HFI2 : Hid (∀ (q : Nat) (h : q < is2.length), FormedP (is2[q]).j (left2 - 1)) := Lib.hid fun q h => by
      rw [LV.j] at hf2
      exact formed_itemO hf2 (by rw [LV.js_map]; exact List.mem_map_of_mem (List.getElem_mem h))
    clear hX hf hf2
    obtain ⟨W, hW⟩ : ∃ W, W = (w.alloc (.cells (valBlk k n s An ns cn Ai is ci) 25)).alloc (.cells (valBlk k2 n2 s2 An2 ns2 cn2 Ai2 is2 ci2) 25) := ⟨_, rfl⟩
    have hB0 : Below w.heap.size w W := by rw [hW]; exact ((Below.refl _ _).alloc (Nat.le_refl _) _).alloc (by simp) _
    have hF : Blk W w.heap.size 25 (valBlk k n s An ns cn Ai is ci) := by rw [hW]; exact (Blk.new w _ _).alloc _
    have hG : Blk W (w.heap.size + 1) 25 (valBlk k2 n2 s2 An2 ns2 cn2 Ai2 is2 ci2) := by rw [hW]; exact Blk.second w _ _ _
    have hvW := hv.below hB0 _
    have hvW2 := hv2.below hB0 _
    obtain ⟨hn1, hi1⟩ : (ns.length ≤ cn ∧ cn ≤ 9223372036854775807) ∧ is.length ≤ ci ∧ ci ≤ 9223372036854775807 := by unfold LV.At at hv; exact hv.2.2.2.2.2.2.2
    have hnc : Cells W W.heap.size An (ns.map Value.string) := by have := hvW; unfold LV.At at this; exact this.1
    have hnc2 : Cells W W.heap.size An2 (ns2.map Value.string) := by have := hvW2; unfold LV.At at this; exact this.1
    have HW := Lib.hid hW
    clear hW hv hv2
    obtain ⟨c0, c1, c2, c3, c4⟩ : W.cell? ⟨w.heap.size, 0, none⟩ = some (.int .i64 k) ∧ W.cell? ⟨w.heap.size, 1, none⟩ = some (.int .i64 n) ∧ W.cell? ⟨w.heap.size, 2, none⟩ = some (.string s) ∧ W.cell? ⟨w.heap.size, 3, none⟩ = some (.slice An ns.length cn) ∧ W.cell? ⟨w.heap.size, 4, none⟩ = some (.slice Ai is.length ci) := ⟨hF.cell 0, hF.cell 1, hF.cell 2, hF.cell 3, hF.cell 4⟩
    obtain ⟨d0, d1, d2, d3, d4⟩ : W.cell? ⟨w.heap.size + 1, 0, none⟩ = some (.int .i64 k2) ∧ W.cell? ⟨w.heap.size + 1, 1, none⟩ = some (.int .i64 n2) ∧ W.cell? ⟨w.heap.size + 1, 2, none⟩ = some (.string s2) ∧ W.cell? ⟨w.heap.size + 1, 3, none⟩ = some (.slice An2 ns2.length cn2) ∧ W.cell? ⟨w.heap.size + 1, 4, none⟩ = some (.slice Ai2 is2.length ci2) := ⟨hG.cell 0, hG.cell 1, hG.cell 2, hG.cell 3, hG.cell 4⟩
    have lF := hF.lt
    have lG := hG.lt
    have HC1 := Lib.hid (fun w' => cmp_int k k2 w')
    have HC2 := Lib.hid (fun w' => cmp_int64 n n2 w')
    have HC3 := Lib.hid (fun w' => cmp_string s s2 w')
    have HRG := head_range k k2 n n2 s s2
    have HC4 : Hid (∀ w' : World, Calls Tryd.prog 32 #[.slice (some ⟨w'.heap.size, 0, none⟩) 3 3] (w'.alloc (.cells #[.int .i64 (cmpI k k2), .int .i64 (cmpI n n2), .int .i64 (cmpS s s2)] 3)) fun e w'' => e = .returned (.int .i64 (firstNZ [cmpI k k2, cmpI n n2, cmpS s s2])) ∧ w'' = w'.alloc (.cells #[.int .i64 (cmpI k k2), .int .i64 (cmpI n n2), .int .i64 (cmpS s s2)] 3)) := Lib.hid fun w' =>
      or_any w'.heap.size [cmpI k k2, cmpI n n2, cmpS s s2] _ (by rw [World.size_alloc]; exact cells_blk w' #[.int .i64 (cmpI k k2), .int .i64 (cmpI n n2), .int .i64 (cmpS s s2)] 3) (by simp)
    generalize firstNZ [cmpI k k2, cmpI n n2, cmpS s s2] = C at *
    generalize cmpI k k2 = x1 at *
    generalize cmpI n n2 = x2 at *
    generalize cmpS s s2 = x3 at *
    show Calls Tryd.prog 23 #[.agg (valBlk k n s An ns cn Ai is ci), .agg (valBlk k2 n2 s2 An2 ns2 cn2 Ai2 is2 ci2)] w _
    go_enter Tryd.func23, Tryd.ntmps23
    go_upto_region 1 with fail
    rw [← HW.out]
    go_cut [5] (fun c wx => c = .int .i64 C ∧ Below W.heap.size W wx)
    case first =>
      go_still_tail 15, (by kernel_rfl)
      still_call (HC1.out _)
      repeat still_step
      still_call (HC2.out _)
      repeat still_step
      still_call (HC3.out _)
      refine wpStill_nil ?_
      change wpList _ _ _ _ _ W.drew
      have hBd : Below W.heap.size W W.drew := (Below.refl _ _).drew
      generalize W.drew = w2 at *
      go_wp2_with fail
      refine (HC4.out _).mono ?_
      rintro e w3 ⟨rfl, rfl⟩
      go_wp2
      go_meet
      exact ⟨rfl, hBd.alloc hBd.size _⟩
    case rest =>
    obtain ⟨rfl, hBc⟩ := hcut
    clear c0 c1 c2 c3 c4 d0 d1 d2 d3 d4 HC1 HC2 HC3 HC4
    have hBF := hB0.trans (hBc.mono hB0.size)
    by_cases hC : C = 0
    rotate_left
    · have hCb : (C != 0) = true := by rw [bne_iff_ne]; exact hC
      have HE : Hid (X = C) := Lib.hid (by rw [← HX.out, if_pos hC])
      clear hC
      go_wp2
      go_ret
      exact ⟨by rw [HE.out] <;> rfl, hBF⟩
    have HE : Hid (rowsJ (decide (k = 6)) (LV.js is) (LV.js is2) ns ns2 = X) := Lib.hid (by rw [← HX.out, if_neg (by simpa using hC)])
    have hkk := HFN.out hC
    clear HX HFN HRG
    subst hC
    subst hkk
    obtain ⟨mn, hmn⟩ : ∃ mn : Nat, mn = min is.length is2.length := ⟨_, rfl⟩
    have hmnI : min (is.length : Int) (is2.length : Int) = (mn : Int) := by omega
    have HMN := Lib.hid hmn
    have hmn1 : mn ≤ 9223372036854775807 := by omega
    clear hmn
    obtain ⟨ob, hob⟩ : ∃ ob, decide (k = 6) = ob := ⟨_, rfl⟩
    rw [hob] at HE
    have HOB := Lib.hid hob
    clear hob
    have hFc := hF.below hBc hF.lt
    have hGc := hG.below hBc hG.lt
    have c4 : wc.cell? ⟨w.heap.size, 4, none⟩ = some (.slice Ai is.length ci) := hFc.cell 4
    have d4 : wc.cell? ⟨w.heap.size + 1, 4, none⟩ = some (.slice Ai2 is2.length ci2) := hGc.cell 4
    go_wp2
    clear c4 d4 hmnI
    go_loopw [35] (fun i wr => ∃ q : Nat, i = .int .i64 q ∧ q ≤ mn ∧ Hid (rowsJ ob ((LV.js is).drop q) ((LV.js is2).drop q) (ns.drop q) (ns2.drop q) = X) ∧ Below W.heap.size W wr) (fun i _ => mn - (RowKit.intOf i).toNat)
    case atStart => exact ⟨0, rfl, Nat.zero_le _, HE, hBc⟩
    case round =>
      clear hBc hFc hGc hBF HE
      obtain ⟨q, rfl, hq, HQ, hB⟩ := hrel
      have hBF := hB0.trans (hB.mono hB0.size)
      have hFr := hF.below hB hF.lt
      have hGr := hG.below hB hG.lt
      have lFr := hFr.lt
      have lGr := hGr.lt
      obtain ⟨c0, c3, c4⟩ : wr.cell? ⟨w.heap.size, 0, none⟩ = some (.int .i64 k) ∧ wr.cell? ⟨w.heap.size, 3, none⟩ = some (.slice An ns.length cn) ∧ wr.cell? ⟨w.heap.size, 4, none⟩ = some (.slice Ai is.length ci) := ⟨hFr.cell 0, hFr.cell 3, hFr.cell 4⟩
      obtain ⟨d3, d4⟩ : wr.cell? ⟨w.heap.size + 1, 3, none⟩ = some (.slice An2 ns2.length cn2) ∧ wr.cell? ⟨w.heap.size + 1, 4, none⟩ = some (.slice Ai2 is2.length ci2) := ⟨hGr.cell 3, hGr.cell 4⟩
      by_cases hlt : q < mn
      · have hqI : (q : Int) < (mn : Int) := by omega
        have hl1 : q < is.length := by have := HMN.out; omega
        have hl2 : q < is2.length := by have := HMN.out; omega
        have hl1I : (q : Int) < (is.length : Int) := by omega
        have hl2I : (q : Int) < (is2.length : Int) := by omega
        have hq0 : (0 : Int) ≤ (q : Int) := by omega
        have HR := Lib.hid (rows_step ob (is := LV.js is) (is2 := LV.js is2) (q := q) (by rw [LV.js_len]; exact hl1) (by rw [LV.js_len]; exact hl2) ns ns2)
        have HCMP : Hid (∀ w', Below wr.heap.size wr w' → Calls Tryd.prog 23 #[(is[q]).val, (is2[q]).val] w' fun e w'' => e = .returned (.int .i64 (cmpJ (is[q]).j (is2[q]).j)) ∧ Below w'.heap.size w' w'') := Lib.hid fun w' hb' => by
          have hx1 : (is[q]).At W := LV.allAt.1 (by have := hvW; unfold LV.At at this; exact this.2.2.1) _ (List.getElem_mem hl1)
          have hx2 : (is2[q]).At W := LV.allAt.1 (by have := hvW2; unfold LV.At at this; exact this.2.2.1) _ (List.getElem_mem hl2)
          exact ih is[q] is2[q] _ _ w' (by have := LV.item_size (k := k) (n := n) (s := s) (An := An) (ns := ns) (cn := cn) (Ai := Ai) (ci := ci) hl1; omega) ((hx1.below hB _).below hb' _) ((hx2.below hB _).below hb' _) (HFI.out q hl1) (HFI2.out q hl2)
        obtain ⟨b1, o1, hA1, hb1, hit, hcell⟩ := (hvW.below hB _).item hl1
        obtain ⟨b2, o2, hA2, hb2, hit2, hcell2⟩ := (hvW2.below hB _).item hl2
        have HR2 : Hid ((if nameC ob (ns.getD q ⟨#[]⟩) (ns2.getD q ⟨#[]⟩) ≠ 0 then nameC ob (ns.getD q ⟨#[]⟩) (ns2.getD q ⟨#[]⟩) else if cmpJ (is[q]).j (is2[q]).j ≠ 0 then cmpJ (is[q]).j (is2[q]).j else rowsJ ob ((LV.js is).drop (q + 1)) ((LV.js is2).drop (q + 1)) (ns.drop (q + 1)) (ns2.drop (q + 1))) = X) := Lib.hid (by
          rw [← HQ.out, HR.out, LV.js_at is hl1, LV.js_at is2 hl2])
        have HDR := cmpJ_range (is[q]).j (is2[q]).j
        obtain ⟨x, hx⟩ : ∃ x, is[q] = x := ⟨_, rfl⟩
        obtain ⟨y, hy⟩ : ∃ y, is2[q] = y := ⟨_, rfl⟩
        rw [hx] at HCMP hcell HR2 HDR
        rw [hy] at HCMP hcell2 HR2 HDR
        generalize cmpJ x.j y.j = D at *
        obtain ⟨k', n', s', An', ns', cn', Ai', is', ci'⟩ := x
        obtain ⟨k'', n'', s'', An'', ns'', cn'', Ai'', is'', ci''⟩ := y
        subst hA1 hA2
        have HCMP2 : Hid (∀ w', Below wr.heap.size wr w' → Calls Tryd.prog 23 #[.agg #[.int .i64 k', .int .i64 n', .string s', .slice An' ns'.length cn', .slice Ai' is'.length ci'], .agg #[.int .i64 k'', .int .i64 n'', .string s'', .slice An'' ns''.length cn'', .slice Ai'' is''.length ci'']] w' fun e w'' => e = .returned (.int .i64 D) ∧ Below w'.heap.size w' w'') := HCMP
        have HS : Hid (∀ w', Below wr.heap.size wr w' → w'.cell? ⟨w.heap.size, 0, none⟩ = some (.int .i64 k) ∧ w'.cell? ⟨w.heap.size, 4, none⟩ = some (.slice (some ⟨b1, o1, none⟩) is.length ci) ∧ w'.cell? ⟨w.heap.size + 1, 4, none⟩ = some (.slice (some ⟨b2, o2, none⟩) is2.length ci2) ∧ w'.cell? ⟨b1, o1 + q * 5, none⟩ = some (.int .i64 k') ∧ w'.cell? ⟨b1, o1 + q * 5 + 1, none⟩ = some (.int .i64 n') ∧ w'.cell? ⟨b1, o1 + q * 5 + 2, none⟩ = some (.string s') ∧ w'.cell? ⟨b1, o1 + q * 5 + 3, none⟩ = some (.slice An' ns'.length cn') ∧ w'.cell? ⟨b1, o1 + q * 5 + 4, none⟩ = some (.slice Ai' is'.length ci') ∧ w'.cell? ⟨b2, o2 + q * 5, none⟩ = some (.int .i64 k'') ∧ w'.cell? ⟨b2, o2 + q * 5 + 1, none⟩ = some (.int .i64 n'') ∧ w'.cell? ⟨b2, o2 + q * 5 + 2, none⟩ = some (.string s'') ∧ w'.cell? ⟨b2, o2 + q * 5 + 3, none⟩ = some (.slice An'' ns''.length cn'') ∧ w'.cell? ⟨b2, o2 + q * 5 + 4, none⟩ = some (.slice Ai'' is''.length ci'')) := Lib.hid fun w' hw' => ⟨(hw'.cell (p := ⟨w.heap.size, 0, none⟩) (by exact lFr)).trans c0, (hw'.cell (p := ⟨w.heap.size, 4, none⟩) (by exact lFr)).trans c4, (hw'.cell (p := ⟨w.heap.size + 1, 4, none⟩) (by exact lGr)).trans d4, (hw'.cell (p := ⟨b1, o1 + q * 5, none⟩) (by exact hb1)).trans (hcell 0 _ rfl), (hw'.cell (p := ⟨b1, o1 + q * 5 + 1, none⟩) (by exact hb1)).trans (hcell 1 _ rfl), (hw'.cell (p := ⟨b1, o1 + q * 5 + 2, none⟩) (by exact hb1)).trans (hcell 2 _ rfl), (hw'.cell (p := ⟨b1, o1 + q * 5 + 3, none⟩) (by exact hb1)).trans (hcell 3 _ rfl), (hw'.cell (p := ⟨b1, o1 + q * 5 + 4, none⟩) (by exact hb1)).trans (hcell 4 _ rfl), (hw'.cell (p := ⟨b2, o2 + q * 5, none⟩) (by exact hb2)).trans (hcell2 0 _ rfl), (hw'.cell (p := ⟨b2, o2 + q * 5 + 1, none⟩) (by exact hb2)).trans (hcell2 1 _ rfl), (hw'.cell (p := ⟨b2, o2 + q * 5 + 2, none⟩) (by exact hb2)).trans (hcell2 2 _ rfl), (hw'.cell (p := ⟨b2, o2 + q * 5 + 3, none⟩) (by exact hb2)).trans (hcell2 3 _ rfl), (hw'.cell (p := ⟨b2, o2 + q * 5 + 4, none⟩) (by exact hb2)).trans (hcell2 4 _ rfl)⟩
        clear hcell hcell2 hx hy ih HCMP HR HQ hit hit2
        by_cases h6 : k = 6
        · have hob1 : ob = true := by rw [← HOB.out]; exact decide_eq_true h6
          subst hob1
          have hn1q : q < ns.length := by rw [HNL.out h6]; exact hl1
          have hn2q : q < ns2.length := by rw [HNL2.out h6]; exact hl2
          have hn1I : (q : Int) < (ns.length : Int) := by omega
          have hn2I : (q : Int) < (ns2.length : Int) := by omega
          obtain ⟨b3, o3, hA3, hb3, hc3⟩ := (hnc.below hB) q (.string ns[q]) (by rw [List.getElem?_map, List.getElem?_eq_getElem hn1q]; rfl)
          obtain ⟨b4, o4, hA4, hb4, hc4⟩ := (hnc2.below hB) q (.string ns2[q]) (by rw [List.getElem?_map, List.getElem?_eq_getElem hn2q]; rfl)
          have HR3 : Hid (StepIs (cmpS ns[q] ns2[q]) D (rowsJ true ((LV.js is).drop (q + 1)) ((LV.js is2).drop (q + 1)) (ns.drop (q + 1)) (ns2.drop (q + 1))) X) := Lib.hid (by
            unfold StepIs
            rw [← HR2.out, nameC, if_pos rfl, List.getD_eq_getElem?_getD, List.getD_eq_getElem?_getD, List.getElem?_eq_getElem hn1q, List.getElem?_eq_getElem hn2q]
            rfl)
          have HSR := cmpS_range ns[q] ns2[q]
          have HCS := Lib.hid (fun w' => cmp_string ns[q] ns2[q] w')
          generalize ns[q] = p1 at *
          generalize ns2[q] = p2 at *
          generalize cmpS p1 p2 = E at *
          have hb3r : b3 < wr.heap.size := Nat.lt_of_lt_of_le hb3 hB.size
          have hb4r : b4 < wr.heap.size := Nat.lt_of_lt_of_le hb4 hB.size
          subst hA3 hA4
          have HSN : Hid (∀ w', Below wr.heap.size wr w' → w'.cell? ⟨w.heap.size, 3, none⟩ = some (.slice (some ⟨b3, o3, none⟩) ns.length cn) ∧ w'.cell? ⟨w.heap.size + 1, 3, none⟩ = some (.slice (some ⟨b4, o4, none⟩) ns2.length cn2) ∧ w'.cell? ⟨b3, o3 + q, none⟩ = some (.string p1) ∧ w'.cell? ⟨b4, o4 + q, none⟩ = some (.string p2)) := Lib.hid fun w' hw' => ⟨(hw'.cell (p := ⟨w.heap.size, 3, none⟩) (by exact lFr)).trans c3, (hw'.cell (p := ⟨w.heap.size + 1, 3, none⟩) (by exact lGr)).trans d3, (hw'.cell (p := ⟨b3, o3 + q, none⟩) (by exact hb3r)).trans hc3, (hw'.cell (p := ⟨b4, o4 + q, none⟩) (by exact hb4r)).trans hc4⟩
          clear c3 c4 d3 d4 hc3 hc4 HR2
          subst h6
          go_wp2
          clear c0
          refine region_calm (by kernel_rfl) (by kernel_rfl) ?_
          repeat (first
            | go_big_quiet_skip
            | (go_big_quiet_want
               apply quiet_at
               · intro w' hw'
                 (obtain ⟨z0, z1, z2, z3⟩ := HSN.out _ (by assumption))
                 go_simp
                 first
                   | done
                   | exact rfl
                   | ((go_at_call 35; refine (HCS.out _).mono ?_; rintro e w9 ⟨h1, rfl⟩; exact ⟨h1, by assumption⟩))
               (try simp only [Act.put, List.setIfInBounds_toArray, List.set_cons_zero, List.set_cons_succ])
               go_big_quiet_on))
          refine wpQuiet_nil ?_
          intro w5 hb5
          have hb5a : Below wr.heap.size wr w5 := hb5
          generalize w5 = wa at *
          clear hb5 HSN HCS
          by_cases hE : E = 0
          rotate_left
          · have hE1 : (E == 0) = false := by rw [beq_eq_false_iff_ne]; exact hE
            have hE2 : (E != 0) = true := by rw [bne_iff_ne]; exact hE
            have HE : Hid (X = E) := Lib.hid (HR3.out.name hE)
            clear hE HR3
            go_wp2
            go_ret
            exact ⟨by rw [HE.out] <;> rfl, hBF.trans (hb5a.mono hBF.size)⟩
          subst hE
          have HR4 := Lib.hid HR3.out
          clear HR3
          go_wp2
          have HSA : Hid (∀ w', Calm wa w' → Below wr.heap.size wr w') := Lib.hid fun w' hw' => hb5a.trans (Below.mono hw' hb5a.size)
          refine region_calm (by kernel_rfl) (by kernel_rfl) ?_
          repeat (first
            | go_big_quiet_skip
            | (go_big_quiet_want
               apply quiet_at
               · intro w' hw'
                 (obtain ⟨z0, z1, z2, e0, e1, e2, e3, e4, f0, f1, f2, f3, f4⟩ := HS.out _ (HSA.out _ (by assumption)))
                 go_simp
                 first
                   | done
                   | exact rfl
                   | ((go_at_call 23; refine (HCMP2.out _ (HSA.out _ (by assumption))).mono ?_; rintro e w9 ⟨h1, h2⟩; exact ⟨h1, Below.trans (by assumption) (h2.mono (Below.size (by assumption)))⟩))
               (try simp only [Act.put, List.setIfInBounds_toArray, List.set_cons_zero, List.set_cons_succ])
               go_big_quiet_on))
          refine wpQuiet_nil ?_
          intro w5 hb5
          have hb5d : Below wr.heap.size wr w5 := HSA.out _ hb5
          clear HSA HS HCMP2
          by_cases hD : D = 0
          · subst hD
            have HE : Hid (rowsJ true ((LV.js is).drop (q + 1)) ((LV.js is2).drop (q + 1)) (ns.drop (q + 1)) (ns2.drop (q + 1)) = X) := Lib.hid HR4.out.rest
            clear HR4
            go_wp2
            go_roundw
            case rel => exact ⟨q + 1, by go_num, by omega, HE, hB.trans (hb5d.mono hB.size)⟩
            case measure => simp [RowKit.intOf]; omega
          · have hD2 : (D != 0) = true := by rw [bne_iff_ne]; exact hD
            have HE : Hid (X = D) := Lib.hid (HR4.out.val hD)
            clear hD HR4
            go_wp2
            go_ret
            exact ⟨by rw [HE.out] <;> rfl, hBF.trans (hb5d.mono hBF.size)⟩
        · have hob1 : ob = false := by rw [← HOB.out]; exact decide_eq_false h6
          subst hob1
          have hk6 : (k == 6) = false := by rw [beq_eq_false_iff_ne]; exact h6
          have HR4 : Hid (StepIs 0 D (rowsJ false ((LV.js is).drop (q + 1)) ((LV.js is2).drop (q + 1)) (ns.drop (q + 1)) (ns2.drop (q + 1))) X) := Lib.hid (by
            unfold StepIs
            rw [← HR2.out]; simp [nameC])
          clear h6 HR2 c3 c4 d3 d4
          go_wp2
          clear c0
          have hb5a : Below wr.heap.size wr wr := Below.refl _ _
          have HSA : Hid (∀ w', Calm wr w' → Below wr.heap.size wr w') := Lib.hid fun w' hw' => hw'
          refine region_calm (by kernel_rfl) (by kernel_rfl) ?_
          repeat (first
            | go_big_quiet_skip
            | (go_big_quiet_want
               apply quiet_at
               · intro w' hw'
                 (obtain ⟨z0, z1, z2, e0, e1, e2, e3, e4, f0, f1, f2, f3, f4⟩ := HS.out _ (HSA.out _ (by assumption)))
                 go_simp
                 first
                   | done
                   | exact rfl
                   | ((go_at_call 23; refine (HCMP2.out _ (HSA.out _ (by assumption))).mono ?_; rintro e w9 ⟨h1, h2⟩; exact ⟨h1, Below.trans (by assumption) (h2.mono (Below.size (by assumption)))⟩))
               (try simp only [Act.put, List.setIfInBounds_toArray, List.set_cons_zero, List.set_cons_succ])
               go_big_quiet_on))
          refine wpQuiet_nil ?_
          intro w5 hb5
          have hb5d : Below wr.heap.size wr w5 := HSA.out _ hb5
          clear HSA HS HCMP2
          by_cases hD : D = 0
          · subst hD
            have HE : Hid (rowsJ false ((LV.js is).drop (q + 1)) ((LV.js is2).drop (q + 1)) (ns.drop (q + 1)) (ns2.drop (q + 1)) = X) := Lib.hid HR4.out.rest
            clear HR4
            go_wp2
            go_roundw
            case rel => exact ⟨q + 1, by go_num, by omega, HE, hB.trans (hb5d.mono hB.size)⟩
            case measure => simp [RowKit.intOf]; omega
          · have hD2 : (D != 0) = true := by rw [bne_iff_ne]; exact hD
            have HE : Hid (X = D) := Lib.hid (HR4.out.val hD)
            clear hD HR4
            go_wp2
            go_ret
            exact ⟨by rw [HE.out] <;> rfl, hBF.trans (hb5d.mono hBF.size)⟩
      · have hqI : ¬ (q : Int) < (mn : Int) := by omega
        have HEN : Hid (X = cmpI is.length is2.length) := Lib.hid (by
          have h1 := rows_end ob (is := LV.js is) (is2 := LV.js is2) (q := q) (by rw [LV.js_len]; have := HMN.out; omega) (by rw [LV.js_len]; have := HMN.out; omega) (by rw [LV.js_len, LV.js_len]; have := HMN.out; omega) (ns.drop q) (ns2.drop q)
          rw [HQ.out, LV.js_len, LV.js_len] at h1
          exact h1)
        have HCL := Lib.hid (fun w' => cmp_int (is.length : Int) (is2.length : Int) w')
        generalize cmpI (is.length : Int) (is2.length : Int) = L at *
        go_wp2_with fail
        refine (HCL.out _).mono ?_
        rintro e w3 ⟨rfl, rfl⟩
        go_wp2
        go_ret
        exact ⟨by rw [HEN.out] <;> rfl, hBF⟩
end Go.Proofs.YtmobolefijneoaaDoor
