/-
  Key of both, munimentlaw04.awake, few; the walks of KeysWrite and KeysInts.
-/
import Derived.Test.YtpnbmgfnnmmokaaDoorQd
import Derived.Test.YtpnbmgfnnmmokaaDoorQk
import Derived.Test.YtpnbmgfnnmmokaaDoorOf
set_option linter.unusedVariables false
namespace Go.Proofs.YtpnbmgfnnmmokaaDoor
open Go.RowKit

open Classical in
/-- What Key answers: the bytes, the error. -/
noncomputable def keyX (j : JV) : List Int := if FormedP j 6 then keyJ j else []
open Classical in
noncomputable def keyE (j : JV) : Int := if FormedP j 6 then 0 else 2
theorem keyX_pos {j : JV} (h : FormedP j 6) : keyX j = keyJ j ∧ keyE j = 0 := by rw [keyX, keyE, if_pos h, if_pos h]; exact ⟨rfl, rfl⟩
theorem keyX_neg {j : JV} (h : ¬ FormedP j 6) : keyX j = [] ∧ keyE j = 2 := by rw [keyX, keyE, if_neg h, if_neg h]; exact ⟨rfl, rfl⟩
theorem key_fits {j : JV} (h : FormedP j 6) : (keyJ j).length ≤ 9000000000000 := Nat.le_trans (keyJ_len j 6 h) (by decide)
theorem keyX_len (j : JV) : (keyX j).length ≤ 9000000000000 := by
  by_cases h : FormedP j 6
  · rw [(keyX_pos h).1]
    have := keyJ_len j 6 h
    have e : keyMax 6 ≤ 9000000000000 := by decide
    omega
  · rw [(keyX_neg h).1]; simp
theorem keyX_oct (j : JV) : Oct (keyX j) := by
  by_cases h : FormedP j 6
  · rw [(keyX_pos h).1]; exact keyJ_oct j 6 h
  · rw [(keyX_neg h).1]; exact Oct.nil
/-- The answer of Key: bytes that can be read. -/
def KeyRes (K : List Int) (E : Int) (B : Nat) (e : Ending) (w' : World) : Prop := ∃ v A c, e = .returned (.tuple #[v, .int .i64 E]) ∧ v = .slice A K.length c ∧ K.length ≤ c ∧ c ≤ 9223372036854775807 ∧ Own w' B v K ∧ Cells w' w'.heap.size A (U8 K)
theorem KeyRes.of {K : List Int} {E : Int} {B : Nat} {v : Value} {w' : World} (h : Own w' B v K) : KeyRes K E B (.returned (.tuple #[v, .int .i64 E])) w' := by
  obtain ⟨A, c, e, h1, h2, h3⟩ := h.shape
  unfold maxLen at h2
  exact ⟨v, A, c, rfl, e, h1, h2, h, h3⟩
theorem sameK_n (A B : Option Addr) (a b : List Int) (n m c d : Nat) (R : Bool) (w : World) (hn : n = a.length) (hm : m = b.length) (hR : sameB a b = R) (ha : Cells w w.heap.size A (U8 a)) (hb : Cells w w.heap.size B (U8 b)) (hl : a.length ≤ 10000000000000) :
    Calls Tryd.prog 13 #[.slice A n c, .slice B m d] w fun e w' => e = .returned (.bool R) ∧ Below w.heap.size w w' := by
  subst hn hm hR
  exact sameK_b A B a b c d w ha hb hl
theorem lessK_n (A B : Option Addr) (a b : List Int) (n m c d : Nat) (R : Bool) (w : World) (hn : n = a.length) (hm : m = b.length) (hR : lessB a b = R) (ha : Cells w w.heap.size A (U8 a)) (hb : Cells w w.heap.size B (U8 b)) (hl : a.length ≤ 10000000000000) (hm' : b.length ≤ 10000000000000) (hoa : Oct a) (hob : Oct b) :
    Calls Tryd.prog 14 #[.slice A n c, .slice B m d] w fun e w' => e = .returned (.bool R) ∧ Below w.heap.size w w' := by
  subst hn hm hR
  exact lessK_b A B a b c d w ha hb hl hm' hoa hob

set_option maxHeartbeats 4000000 in
theorem key_any (v : LV) (w : World) (hT : Tabs w) (hv : v.At w) : Calls Tryd.prog 11 #[v.val] w fun e w' => KeyRes (keyX v.j) (keyE v.j) w.heap.size e w' ∧ Below w.heap.size w w' := by
  obtain ⟨k, n, s, An, ns, cn, Ai, is, ci⟩ := v
  obtain ⟨W, hW⟩ : ∃ W, W = w.alloc (.cells (valBlk k n s An ns cn Ai is ci) 25) := ⟨_, rfl⟩
  have hB0 : Below w.heap.size w W := by rw [hW]; exact (Below.refl _ _).alloc (Nat.le_refl _) _
  have hF0 : Blk W w.heap.size 25 (valBlk k n s An ns cn Ai is ci) := by rw [hW]; exact Blk.new w _ _
  have hvW := hv.below hB0 _
  have hTW := hT.below hB0
  have HFO : Hid (∀ w1, Below W.heap.size W w1 → Calls Tryd.prog 15 #[.agg #[.int .i64 k, .int .i64 n, .string s, .slice An ns.length cn, .slice Ai is.length ci]] w1 fun e w' => BoolIs (FormedP (LV.mk k n s An ns cn Ai is ci).j 6) e ∧ Below w1.heap.size w1 w') := Lib.hid fun w1 hb => jformed_any (LV.mk k n s An ns cn Ai is ci) w1 (hvW.below hb _) (hTW.below hb)
  have HP : Hid (FormedP (LV.mk k n s An ns cn Ai is ci).j 6 → ∀ w1, Below W.heap.size W w1 → Calls Tryd.prog 24 #[.slice none 0 0, .agg #[.int .i64 k, .int .i64 n, .string s, .slice An ns.length cn, .slice Ai is.length ci]] w1 fun e w' => (∃ v', e = .returned v' ∧ Own w' w1.heap.size v' (keyJ (LV.mk k n s An ns cn Ai is ci).j)) ∧ Below w1.heap.size w1 w') := Lib.hid fun hf w1 hb => (kput_any w1 _ (LV.mk k n s An ns cn Ai is ci) 6 (.slice none 0 0) [] w1 (Nat.lt_succ_self _) (hvW.below hb _) (Below.refl _ _) (Own.nil _ _) hf (by have := key_fits hf; simpa using this)).mono fun e w' ⟨v', h1, h2, h3⟩ => ⟨⟨v', h1, h2⟩, h3.below (Own.nil _ _) (Nat.le_refl _)⟩
  have HXP : Hid (FormedP (LV.mk k n s An ns cn Ai is ci).j 6 → keyX (LV.mk k n s An ns cn Ai is ci).j = keyJ (LV.mk k n s An ns cn Ai is ci).j ∧ keyE (LV.mk k n s An ns cn Ai is ci).j = 0) := Lib.hid keyX_pos
  have HXN : Hid (¬ FormedP (LV.mk k n s An ns cn Ai is ci).j 6 → keyX (LV.mk k n s An ns cn Ai is ci).j = [] ∧ keyE (LV.mk k n s An ns cn Ai is ci).j = 2) := Lib.hid keyX_neg
  generalize keyX (LV.mk k n s An ns cn Ai is ci).j = KX at *
  generalize keyE (LV.mk k n s An ns cn Ai is ci).j = KE at *
  generalize keyJ (LV.mk k n s An ns cn Ai is ci).j = KJ at *
  generalize FormedP (LV.mk k n s An ns cn Ai is ci).j 6 = FP at *
  have HW := Lib.hid hW
  clear hW hv hT hvW hTW
  show Calls Tryd.prog 11 #[.agg (valBlk k n s An ns cn Ai is ci)] w _
  go_enter Tryd.func11, Tryd.ntmps11
  go_wp2_with fail
  rw [← HW.out]
  obtain ⟨c0, c1, c2, c3, c4⟩ : W.cell? ⟨w.heap.size, 0, none⟩ = some (.int .i64 k) ∧ W.cell? ⟨w.heap.size, 1, none⟩ = some (.int .i64 n) ∧ W.cell? ⟨w.heap.size, 2, none⟩ = some (.string s) ∧ W.cell? ⟨w.heap.size, 3, none⟩ = some (.slice An ns.length cn) ∧ W.cell? ⟨w.heap.size, 4, none⟩ = some (.slice Ai is.length ci) := ⟨hF0.cell 0, hF0.cell 1, hF0.cell 2, hF0.cell 3, hF0.cell 4⟩
  go_wp2_with fail
  (with_reducible refine (HFO.out W (Below.refl _ _)).mono ?_)
  rintro e w1 ⟨⟨bb, rfl, hbb⟩, hb1⟩
  clear c0 c1 c2 c3 c4
  have hB1 := hb1
  have hF1 := hF0.below hb1 hF0.lt
  clear hF0
  cases bb with
  | false =>
    obtain ⟨e1, e2⟩ := HXN.out (fun h => by have := hbb.2 h; cases this)
    subst e1 e2
    clear hbb HP HXP HXN
    go_wp2
    go_ret2
    exact ⟨KeyRes.of (Own.nil _ _), hB0.trans (hB1.mono hB0.size)⟩
  | true =>
  have hfp := hbb.1 rfl
  obtain ⟨e1, e2⟩ := HXP.out hfp
  subst e1 e2
  have HC := Lib.hid (HP.out hfp)
  clear hbb HP HXP HXN hfp
  obtain ⟨c0, c1, c2, c3, c4⟩ : w1.cell? ⟨w.heap.size, 0, none⟩ = some (.int .i64 k) ∧ w1.cell? ⟨w.heap.size, 1, none⟩ = some (.int .i64 n) ∧ w1.cell? ⟨w.heap.size, 2, none⟩ = some (.string s) ∧ w1.cell? ⟨w.heap.size, 3, none⟩ = some (.slice An ns.length cn) ∧ w1.cell? ⟨w.heap.size, 4, none⟩ = some (.slice Ai is.length ci) := ⟨hF1.cell 0, hF1.cell 1, hF1.cell 2, hF1.cell 3, hF1.cell 4⟩
  go_wp2_with fail
  (with_reducible refine (HC.out w1 hB1).mono ?_)
  rintro e w2 ⟨⟨v2, rfl, hown2⟩, hb2⟩
  clear c0 c1 c2 c3 c4
  have hB2 := hB1.trans (hb2.mono hB1.size)
  have hF2 := hF1.below hb2 hF1.lt
  clear hF1
  go_wp2
  go_ret2
  exact ⟨KeyRes.of (hown2.mono (hB0.trans (hB1.mono hB0.size)).size), hB0.trans (hB2.mono hB0.size)⟩

set_option maxHeartbeats 4000000 in
theorem rkey_any (v : LV) (w : World) (hT : Tabs w) (hv : v.At w) : Calls Tryd.prog 12 #[v.val] w fun e w' => KeyRes (keyX v.j) (keyE v.j) w.heap.size e w' ∧ Below w.heap.size w w' := by
  obtain ⟨k, n, s, An, ns, cn, Ai, is, ci⟩ := v
  obtain ⟨W, hW⟩ : ∃ W, W = w.alloc (.cells (valBlk k n s An ns cn Ai is ci) 25) := ⟨_, rfl⟩
  have hB0 : Below w.heap.size w W := by rw [hW]; exact (Below.refl _ _).alloc (Nat.le_refl _) _
  have hF0 : Blk W w.heap.size 25 (valBlk k n s An ns cn Ai is ci) := by rw [hW]; exact Blk.new w _ _
  have hvW := hv.below hB0 _
  have hTW := hT.below hB0
  have HFO : Hid (∀ w1, Below W.heap.size W w1 → Calls Tryd.prog 25 #[.agg #[.int .i64 k, .int .i64 n, .string s, .slice An ns.length cn, .slice Ai is.length ci]] w1 fun e w' => BoolIs (FormedP (LV.mk k n s An ns cn Ai is ci).j 6) e ∧ Below w1.heap.size w1 w') := Lib.hid fun w1 hb => rformed_any (LV.mk k n s An ns cn Ai is ci) w1 (hvW.below hb _)
  have HP : Hid (FormedP (LV.mk k n s An ns cn Ai is ci).j 6 → ∀ w1, Below W.heap.size W w1 → Calls Tryd.prog 26 #[.agg #[.int .i64 k, .int .i64 n, .string s, .slice An ns.length cn, .slice Ai is.length ci]] w1 fun e w' => (∃ v', e = .returned v' ∧ Own w' w1.heap.size v' (keyJ (LV.mk k n s An ns cn Ai is ci).j)) ∧ Below w1.heap.size w1 w') := Lib.hid fun hf w1 hb => (rplain_keys _ (LV.mk k n s An ns cn Ai is ci) 6 w1 (Nat.lt_succ_self _) (hvW.below hb _) hf (Nat.le_refl _)).mono fun e w' ⟨v', h1, h2, h3⟩ => ⟨⟨v', h1, h2⟩, h3⟩
  have HXP : Hid (FormedP (LV.mk k n s An ns cn Ai is ci).j 6 → keyX (LV.mk k n s An ns cn Ai is ci).j = keyJ (LV.mk k n s An ns cn Ai is ci).j ∧ keyE (LV.mk k n s An ns cn Ai is ci).j = 0) := Lib.hid keyX_pos
  have HXN : Hid (¬ FormedP (LV.mk k n s An ns cn Ai is ci).j 6 → keyX (LV.mk k n s An ns cn Ai is ci).j = [] ∧ keyE (LV.mk k n s An ns cn Ai is ci).j = 2) := Lib.hid keyX_neg
  generalize keyX (LV.mk k n s An ns cn Ai is ci).j = KX at *
  generalize keyE (LV.mk k n s An ns cn Ai is ci).j = KE at *
  generalize keyJ (LV.mk k n s An ns cn Ai is ci).j = KJ at *
  generalize FormedP (LV.mk k n s An ns cn Ai is ci).j 6 = FP at *
  have HW := Lib.hid hW
  clear hW hv hT hvW hTW
  show Calls Tryd.prog 12 #[.agg (valBlk k n s An ns cn Ai is ci)] w _
  go_enter Tryd.func12, Tryd.ntmps12
  go_wp2_with fail
  rw [← HW.out]
  obtain ⟨c0, c1, c2, c3, c4⟩ : W.cell? ⟨w.heap.size, 0, none⟩ = some (.int .i64 k) ∧ W.cell? ⟨w.heap.size, 1, none⟩ = some (.int .i64 n) ∧ W.cell? ⟨w.heap.size, 2, none⟩ = some (.string s) ∧ W.cell? ⟨w.heap.size, 3, none⟩ = some (.slice An ns.length cn) ∧ W.cell? ⟨w.heap.size, 4, none⟩ = some (.slice Ai is.length ci) := ⟨hF0.cell 0, hF0.cell 1, hF0.cell 2, hF0.cell 3, hF0.cell 4⟩
  go_wp2_with fail
  (with_reducible refine (HFO.out W (Below.refl _ _)).mono ?_)
  rintro e w1 ⟨⟨bb, rfl, hbb⟩, hb1⟩
  clear c0 c1 c2 c3 c4
  have hB1 := hb1
  have hF1 := hF0.below hb1 hF0.lt
  clear hF0
  cases bb with
  | false =>
    obtain ⟨e1, e2⟩ := HXN.out (fun h => by have := hbb.2 h; cases this)
    subst e1 e2
    clear hbb HP HXP HXN
    go_wp2
    go_ret2
    exact ⟨KeyRes.of (Own.nil _ _), hB0.trans (hB1.mono hB0.size)⟩
  | true =>
  have hfp := hbb.1 rfl
  obtain ⟨e1, e2⟩ := HXP.out hfp
  subst e1 e2
  have HC := Lib.hid (HP.out hfp)
  clear hbb HP HXP HXN hfp
  obtain ⟨c0, c1, c2, c3, c4⟩ : w1.cell? ⟨w.heap.size, 0, none⟩ = some (.int .i64 k) ∧ w1.cell? ⟨w.heap.size, 1, none⟩ = some (.int .i64 n) ∧ w1.cell? ⟨w.heap.size, 2, none⟩ = some (.string s) ∧ w1.cell? ⟨w.heap.size, 3, none⟩ = some (.slice An ns.length cn) ∧ w1.cell? ⟨w.heap.size, 4, none⟩ = some (.slice Ai is.length ci) := ⟨hF1.cell 0, hF1.cell 1, hF1.cell 2, hF1.cell 3, hF1.cell 4⟩
  go_wp2_with fail
  (with_reducible refine (HC.out w1 hB1).mono ?_)
  rintro e w2 ⟨⟨v2, rfl, hown2⟩, hb2⟩
  clear c0 c1 c2 c3 c4
  have hB2 := hB1.trans (hb2.mono hB1.size)
  have hF2 := hF1.below hb2 hF1.lt
  clear hF1
  go_wp2
  go_ret2
  exact ⟨KeyRes.of (hown2.mono (hB0.trans (hB1.mono hB0.size)).size), hB0.trans (hB2.mono hB0.size)⟩

theorem leaf_key {k n : Int} {s : ByteArray} (hf : FormedP (leafV k n s).j 6) : keyX (leafV k n s).j = keyJ (.mk k n s [] []) ∧ keyE (leafV k n s).j = 0 := keyX_pos hf
theorem text_a : TextP ⟨#[97]⟩ := ⟨by decide, by kernel_rfl⟩
theorem key_a : keyJ (.mk 4 0 ⟨#[97]⟩ [] []) = [5, 97, 0, 0] := by
  rw [keyJ, if_neg (by omega), if_pos rfl]
  rfl
set_option maxHeartbeats 2000000 in
theorem awake04_any (w : World) (hT : Tabs w) : Calls Tryd.prog 9 #[] w fun e w' => e = .returned (.bool true) ∧ Below w.heap.size w w' := by
  have HC : Hid (Calls Tryd.prog 11 #[.agg #[.int .i64 4, .int .i64 0, .string ⟨#[97]⟩, .slice none 0 0, .slice none 0 0]] w fun e w' => (∃ g c, e = .returned (.tuple #[.slice (some ⟨g, 0, none⟩) 4 c, .int .i64 0]) ∧ 4 ≤ c ∧ c ≤ 9223372036854775807 ∧ w'.cell? ⟨g, 0, none⟩ = some (.int .u8 5)) ∧ Below w.heap.size w w') := Lib.hid (by
    have h := key_any (leafV 4 0 ⟨#[97]⟩) w hT (leaf_at w (by omega) (by omega) (by decide))
    obtain ⟨e1, e2⟩ := leaf_key (k := 4) (n := 0) (s := ⟨#[97]⟩) (leaf_formed (by omega) (fun _ => rfl) (fun h => absurd rfl h) text_a)
    rw [e1, e2, key_a] at h
    refine h.mono fun e w' h => ?_
    obtain ⟨⟨v, A, c, rfl, rfl, h1, h2, ho, hc⟩, hb⟩ := h
    refine ⟨?_, hb⟩
    rcases ho.2 with ⟨e0, _⟩ | ⟨g, cap, cur, e0, _⟩
    · cases e0
    · injection e0 with e0
      subst e0
      exact ⟨g, c, rfl, h1, h2, hc.known (k := 0) rfl⟩)
  clear hT
  go_enter Tryd.func9, Tryd.ntmps9
  go_wp2_with fail
  refine HC.out.mono ?_
  rintro e w1 ⟨⟨g, c, rfl, h1, h2, hc⟩, hb1⟩
  go_wp2
  go_ret
  exact ⟨rfl, hb1⟩

set_option maxHeartbeats 8000000 in
theorem few04_any (A : Option Addr) (is : List LV) (c : Nat) (w : World) (hR : RowAt w A is c) : Calls Tryd.prog 10 #[.slice A is.length c] w fun e w' => BoolRes e ∧ Below w.heap.size w w' := by
  have hcap := hR.cap
  have HR := Lib.hid hR
  clear hR
  go_enter Tryd.func10, Tryd.ntmps10
  go_wp2
  go_loopw [3, 4] (fun x i wr => ∃ a q : Nat, x = .int .i64 a ∧ i = .int .i64 q ∧ a ≤ 2000 ∧ q ≤ is.length ∧ Below w.heap.size w wr) (fun _ i _ => is.length - (RowKit.intOf i).toNat)
  case atStart => exact ⟨0, 0, rfl, rfl, Nat.zero_le _, Nat.zero_le _, Below.refl _ _⟩
  case round =>
    obtain ⟨a, q, rfl, rfl, ha, hq, hB⟩ := hrel
    by_cases hlt : q < is.length
    · have hqI : (q : Int) < (is.length : Int) := by omega
      by_cases h6 : a ≤ 600
      · have h6I : (a : Int) ≤ 600 := by omega
        obtain ⟨b, off, rfl, hb, hit, hcell⟩ := (HR.out.below hB).item hlt
        have HN := Lib.hid (rnodes_any is[q] wr hit)
        have HF : Hid (∀ w', Below wr.heap.size wr w' → Calls Tryd.prog 23 #[(is[q]).val] w' fun e w'' => BoolRes e ∧ Below w'.heap.size w' w'') := Lib.hid fun w' hb' => few_any _ _ w' (Nat.lt_succ_self _) (hit.below hb' _)
        obtain ⟨x, hx⟩ : ∃ x, is[q] = x := ⟨_, rfl⟩
        rw [hx] at HN HF hcell
        obtain ⟨k', n', s', An', ns', cn', Ai', is', ci'⟩ := x
        have d0 : wr.cell? ⟨b, off + q * 5, none⟩ = some (.int .i64 k') := hcell 0 _ rfl
        have d1 : wr.cell? ⟨b, off + q * 5 + 1, none⟩ = some (.int .i64 n') := hcell 1 _ rfl
        have d2 : wr.cell? ⟨b, off + q * 5 + 2, none⟩ = some (.string s') := hcell 2 _ rfl
        have d3 : wr.cell? ⟨b, off + q * 5 + 3, none⟩ = some (.slice An' ns'.length cn') := hcell 3 _ rfl
        have d4 : wr.cell? ⟨b, off + q * 5 + 4, none⟩ = some (.slice Ai' is'.length ci') := hcell 4 _ rfl
        clear hcell hx hit
        go_wp2_with fail
        refine HN.out.mono ?_
        rintro e w2 ⟨⟨n2, rfl, g1, g2⟩, hb2⟩
        obtain ⟨e0, e1, e2, e3, e4⟩ : w2.cell? ⟨b, off + q * 5, none⟩ = some (.int .i64 k') ∧ w2.cell? ⟨b, off + q * 5 + 1, none⟩ = some (.int .i64 n') ∧ w2.cell? ⟨b, off + q * 5 + 2, none⟩ = some (.string s') ∧ w2.cell? ⟨b, off + q * 5 + 3, none⟩ = some (.slice An' ns'.length cn') ∧ w2.cell? ⟨b, off + q * 5 + 4, none⟩ = some (.slice Ai' is'.length ci') := ⟨(hb2.cell (p := ⟨b, off + q * 5, none⟩) (by exact hb)).trans d0, (hb2.cell (p := ⟨b, off + q * 5 + 1, none⟩) (by exact hb)).trans d1, (hb2.cell (p := ⟨b, off + q * 5 + 2, none⟩) (by exact hb)).trans d2, (hb2.cell (p := ⟨b, off + q * 5 + 3, none⟩) (by exact hb)).trans d3, (hb2.cell (p := ⟨b, off + q * 5 + 4, none⟩) (by exact hb)).trans d4⟩
        clear d0 d1 d2 d3 d4
        go_wp2_with fail
        refine (HF.out w2 hb2).mono ?_
        rintro e w3 ⟨⟨bb, rfl⟩, hb3⟩
        have hB3 := hB.trans ((hb2.trans (hb3.mono hb2.size)).mono hB.size)
        clear e0 e1 e2 e3 e4
        cases bb with
        | false =>
          go_wp2
          go_ret
          exact ⟨⟨_, rfl⟩, hB3⟩
        | true =>
          go_wp2
          go_roundw
          case rel => exact ⟨a + n2, q + 1, by go_num, by go_num, by omega, by omega, hB3⟩
          case measure => simp [RowKit.intOf]; omega
      · have h6I : ¬ (a : Int) ≤ 600 := by omega
        go_wp2
        go_ret
        exact ⟨⟨_, rfl⟩, hB⟩
    · have hqI : ¬ (q : Int) < (is.length : Int) := by omega
      go_wp2
      go_ret
      exact ⟨⟨_, rfl⟩, hB⟩

theorem RowAt.one {w : World} {v : LV} (h : v.At w) : RowAt (w.alloc (.cells v.cells.toArray 25)) (some ⟨w.heap.size, 0, none⟩) [v] 1 := by
  have hb : Below w.heap.size w (w.alloc (.cells v.cells.toArray 25)) := (Below.refl _ _).alloc (Nat.le_refl _) _
  refine RowAt.mk ?_ ⟨h.below hb _, trivial⟩ (by simp)
  rw [World.size_alloc]
  have := cells_blk w v.cells.toArray 25
  simpa using this

set_option maxRecDepth 8000 in
set_option maxHeartbeats 8000000 in
theorem kwrite_walk (v : LV) (w : World) (hT : Tabs w) (hv : v.At w) : Calls Tryd.prog 3 #[v.val] w fun e w' => e = .returned (.bool true) ∧ Below w.heap.size w w' := by
  obtain ⟨k, n, s, An, ns, cn, Ai, is, ci⟩ := v
  obtain ⟨W, hW⟩ : ∃ W, W = w.alloc (.cells (valBlk k n s An ns cn Ai is ci) 25) := ⟨_, rfl⟩
  have hB0 : Below w.heap.size w W := by rw [hW]; exact (Below.refl _ _).alloc (Nat.le_refl _) _
  have hF0 : Blk W w.heap.size 25 (valBlk k n s An ns cn Ai is ci) := by rw [hW]; exact Blk.new w _ _
  have hvW := hv.below hB0 _
  have hTW := hT.below hB0
  have HA : Hid (∀ w1, Below W.heap.size W w1 → Calls Tryd.prog 9 #[] w1 fun e w' => e = .returned (.bool true) ∧ Below w1.heap.size w1 w') := Lib.hid fun w1 hb => awake04_any w1 (hTW.below hb)
  have HFEW : Hid (∀ w1, Below W.heap.size W w1 → Calls Tryd.prog 10 #[.slice (some ⟨w1.heap.size, 0, none⟩) 1 1] (w1.alloc (.cells #[.int .i64 k, .int .i64 n, .string s, .slice An ns.length cn, .slice Ai is.length ci] 25)) fun e w' => BoolRes e ∧ Below w1.heap.size w1 w') := Lib.hid fun w1 hb =>
    (few04_any _ _ _ _ (RowAt.one (hvW.below hb _))).mono fun e w' ⟨h1, h2⟩ => ⟨h1, ((Below.refl w1.heap.size w1).alloc (Nat.le_refl _) _).trans (h2.mono (by simp))⟩
  obtain ⟨K, hK⟩ : ∃ K, keyX (LV.mk k n s An ns cn Ai is ci).j = K := ⟨_, rfl⟩
  obtain ⟨E, hE⟩ : ∃ E, keyE (LV.mk k n s An ns cn Ai is ci).j = E := ⟨_, rfl⟩
  have HKL : Hid (K.length ≤ 9000000000000) := Lib.hid (by rw [← hK]; exact keyX_len _)
  have HK1 : Hid (∀ w1, Below W.heap.size W w1 → Calls Tryd.prog 11 #[.agg #[.int .i64 k, .int .i64 n, .string s, .slice An ns.length cn, .slice Ai is.length ci]] w1 fun e w' => KeyRes K E w1.heap.size e w' ∧ Below w1.heap.size w1 w') := Lib.hid fun w1 hb => by rw [← hK, ← hE]; exact key_any (LV.mk k n s An ns cn Ai is ci) w1 (hTW.below hb) (hvW.below hb _)
  have HK2 : Hid (∀ w1, Below W.heap.size W w1 → Calls Tryd.prog 12 #[.agg #[.int .i64 k, .int .i64 n, .string s, .slice An ns.length cn, .slice Ai is.length ci]] w1 fun e w' => KeyRes K E w1.heap.size e w' ∧ Below w1.heap.size w1 w') := Lib.hid fun w1 hb => by rw [← hK, ← hE]; exact rkey_any (LV.mk k n s An ns cn Ai is ci) w1 (hTW.below hb) (hvW.below hb _)
  have HW := Lib.hid hW
  clear hW hv hT hvW hTW hK hE
  show Calls Tryd.prog 3 #[.agg (valBlk k n s An ns cn Ai is ci)] w _
  go_enter Tryd.func3, Tryd.ntmps3
  go_wp2_with fail
  rw [← HW.out]
  go_wp2_with fail
  (with_reducible refine (HA.out W (Below.refl _ _)).mono ?_)
  rintro e w1 ⟨rfl, hb1⟩
  have hB1 := hb1
  have hF1 := hF0.below hb1 hF0.lt
  clear hF0
  obtain ⟨c0, c1, c2, c3, c4⟩ : w1.cell? ⟨w.heap.size, 0, none⟩ = some (.int .i64 k) ∧ w1.cell? ⟨w.heap.size, 1, none⟩ = some (.int .i64 n) ∧ w1.cell? ⟨w.heap.size, 2, none⟩ = some (.string s) ∧ w1.cell? ⟨w.heap.size, 3, none⟩ = some (.slice An ns.length cn) ∧ w1.cell? ⟨w.heap.size, 4, none⟩ = some (.slice Ai is.length ci) := ⟨hF1.cell 0, hF1.cell 1, hF1.cell 2, hF1.cell 3, hF1.cell 4⟩
  go_wp2_with fail
  (with_reducible refine (HFEW.out w1 hB1).mono ?_)
  rintro e w2 ⟨⟨bf, rfl⟩, hb2⟩
  clear c0 c1 c2 c3 c4
  have hB2 := hB1.trans (hb2.mono hB1.size)
  have hF2 := hF1.below hb2 hF1.lt
  clear hF1
  cases bf with
  | false =>
    go_wp2_with fail
    refine (HA.out w2 hB2).mono ?_
    rintro e wz ⟨rfl, hbz⟩
    go_wp2
    go_ret
    exact ⟨rfl, hB0.trans ((hB2.trans (hbz.mono hB2.size)).mono hB0.size)⟩
  | true =>
  obtain ⟨c0, c1, c2, c3, c4⟩ : w2.cell? ⟨w.heap.size, 0, none⟩ = some (.int .i64 k) ∧ w2.cell? ⟨w.heap.size, 1, none⟩ = some (.int .i64 n) ∧ w2.cell? ⟨w.heap.size, 2, none⟩ = some (.string s) ∧ w2.cell? ⟨w.heap.size, 3, none⟩ = some (.slice An ns.length cn) ∧ w2.cell? ⟨w.heap.size, 4, none⟩ = some (.slice Ai is.length ci) := ⟨hF2.cell 0, hF2.cell 1, hF2.cell 2, hF2.cell 3, hF2.cell 4⟩
  go_wp2_with fail
  (with_reducible refine (HK1.out w2 hB2).mono ?_)
  rintro e w3 ⟨⟨_, A1, q1, rfl, rfl, hq1, hm1, _, hc1⟩, hb3⟩
  clear c0 c1 c2 c3 c4
  have hB3 := hB2.trans (hb3.mono hB2.size)
  have hF3 := hF2.below hb3 hF2.lt
  clear hF2
  obtain ⟨c0, c1, c2, c3, c4⟩ : w3.cell? ⟨w.heap.size, 0, none⟩ = some (.int .i64 k) ∧ w3.cell? ⟨w.heap.size, 1, none⟩ = some (.int .i64 n) ∧ w3.cell? ⟨w.heap.size, 2, none⟩ = some (.string s) ∧ w3.cell? ⟨w.heap.size, 3, none⟩ = some (.slice An ns.length cn) ∧ w3.cell? ⟨w.heap.size, 4, none⟩ = some (.slice Ai is.length ci) := ⟨hF3.cell 0, hF3.cell 1, hF3.cell 2, hF3.cell 3, hF3.cell 4⟩
  go_wp2_with fail
  (with_reducible refine (HK2.out w3 hB3).mono ?_)
  rintro e w4 ⟨⟨_, A2, q2, rfl, rfl, hq2, hm2, _, hc2⟩, hb4⟩
  clear c0 c1 c2 c3 c4
  have hB4 := hB3.trans (hb4.mono hB3.size)
  have hF4 := hF3.below hb4 hF3.lt
  clear hF3
  have hc1' := (hc1.below hb4).whole
  have hee : (E == E) = true := by simp
  have HS := Lib.hid (sameK_n A1 A2 K K K.length K.length q1 q2 true w4 rfl rfl (by simp [sameB]) hc1' hc2 (by have := HKL.out; omega))
  go_wp2_with fail
  (with_reducible refine (HS.out).mono ?_)
  rintro e w5 ⟨rfl, hb5⟩
  have hB5 := hB4.trans (hb5.mono hB4.size)
  have hF5 := hF4.below hb5 hF4.lt
  clear hF4
  go_wp2
  go_ret
  exact ⟨rfl, hB0.trans (hB5.mono hB0.size)⟩

theorem ints_key {a : Int} (ha : -9223372036854775808 ≤ a ∧ a ≤ 9223372036854775807) : FormedP (leafV 3 a ⟨#[]⟩).j 6 ∧ keyX (leafV 3 a ⟨#[]⟩).j = 4 :: be64 (ordN a) ∧ keyE (leafV 3 a ⟨#[]⟩).j = 0 := by
  have hf : FormedP (leafV 3 a ⟨#[]⟩).j 6 := leaf_formed (by omega) (fun h => absurd rfl h) (fun _ => empty_list) text_empty
  obtain ⟨e1, e2⟩ := leaf_key hf
  refine ⟨hf, ?_, e2⟩
  rw [e1, keyJ, if_pos rfl]
  rfl
theorem ints_less {a b : Int} (ha : -9223372036854775808 ≤ a ∧ a ≤ 9223372036854775807) (hb : -9223372036854775808 ≤ b ∧ b ≤ 9223372036854775807) :
    lessB (4 :: be64 (ordN a)) (4 :: be64 (ordN b)) = decide (a < b) ∧ sameB (4 :: be64 (ordN a)) (4 :: be64 (ordN b)) = (a == b) := by
  by_cases h : a = b
  · subst h
    exact ⟨by rw [lessB_self]; simp, by simp [sameB]⟩
  · have hc : cmpI a b ≠ 0 := fun e => h (cmpI_eq e)
    have hA := (be64_apart ha hb hc).cons 4
    refine ⟨?_, ?_⟩
    · rw [hA.less]
      congr 1
      apply propext
      rcases cmpI_cases a b with ⟨h1, e1⟩ | ⟨h1, e1⟩ | ⟨h1, e1⟩ <;> omega
    · have h2 : (a == b) = false := by simpa using h
      rw [h2, sameB, decide_eq_false_iff_not]
      exact hA.ne
set_option maxRecDepth 8000 in
set_option maxHeartbeats 8000000 in
theorem kints_walk (a b : Int) (w : World) (hT : Tabs w) (ha : -9223372036854775808 ≤ a) (ha' : a ≤ 9223372036854775807) (hb : -9223372036854775808 ≤ b) (hb' : b ≤ 9223372036854775807) :
    Calls Tryd.prog 4 #[.int .i64 a, .int .i64 b] w fun e w' => e = .returned (.bool true) ∧ Below w.heap.size w w' := by
  obtain ⟨W, hW⟩ : ∃ W, W = w := ⟨_, rfl⟩
  rw [← hW] at hT ⊢
  have hB0 : Below w.heap.size w W := by rw [hW]; exact Below.refl _ _
  have HA : Hid (∀ w1, Below W.heap.size W w1 → Calls Tryd.prog 9 #[] w1 fun e w' => e = .returned (.bool true) ∧ Below w1.heap.size w1 w') := Lib.hid fun w1 hb => awake04_any w1 (hT.below hb)
  obtain ⟨l1, s1⟩ := ints_less ⟨ha, ha'⟩ ⟨hb, hb'⟩
  have HKEY : Hid (∀ x : Int, -9223372036854775808 ≤ x ∧ x ≤ 9223372036854775807 → ∀ w1, Below W.heap.size W w1 → Calls Tryd.prog 11 #[.agg #[.int .i64 3, .int .i64 x, .string ⟨#[]⟩, .slice none 0 0, .slice none 0 0]] w1 fun e w' => (∃ A c, e = .returned (.tuple #[.slice A 9 c, .int .i64 0]) ∧ 9 ≤ c ∧ c ≤ 9223372036854775807 ∧ Cells w' w'.heap.size A (U8 (4 :: be64 (ordN x)))) ∧ Below w1.heap.size w1 w') := Lib.hid fun x hx w1 hb => by
    obtain ⟨hf, e1, e2⟩ := ints_key hx
    have h := key_any (leafV 3 x ⟨#[]⟩) w1 (hT.below hb) (leaf_at w1 (by omega) hx (by decide))
    rw [e1, e2] at h
    refine h.mono fun e w' h => ?_
    obtain ⟨⟨v, A, c, rfl, rfl, h1, h2, ho, hc⟩, hb⟩ := h
    exact ⟨⟨A, c, rfl, h1, h2, hc⟩, hb⟩
  have hlen : ∀ x : Int, (4 :: be64 (ordN x)).length = 9 := fun x => rfl
  have hoct : ∀ x : Int, Oct (4 :: be64 (ordN x)) := fun x => Oct.cons (by omega) (by omega) (be64_oct _)
  have HK1 := Lib.hid (HKEY.out a ⟨ha, ha'⟩)
  have HK2 := Lib.hid (HKEY.out b ⟨hb, hb'⟩)
  have HL1 := Lib.hid (hlen a)
  have HL2 := Lib.hid (hlen b)
  have HO1 := Lib.hid (hoct a)
  have HO2 := Lib.hid (hoct b)
  generalize 4 :: be64 (ordN a) = Ka at *
  generalize 4 :: be64 (ordN b) = Kb at *
  have HLS := Lib.hid l1
  have HSM := Lib.hid s1
  have HW := Lib.hid hW
  clear hT hW l1 s1 hlen hoct HKEY ha ha' hb hb'
  go_enter Tryd.func4, Tryd.ntmps4
  go_wp2_with fail
  (with_reducible refine (HA.out W (Below.refl _ _)).mono ?_)
  rintro e w1 ⟨rfl, hb1⟩
  have hB1 := hb1
  go_wp2_with fail
  (with_reducible refine (HK1.out w1 hB1).mono ?_)
  rintro e w2 ⟨⟨A1, q1, rfl, hq1, hm1, hc1⟩, hb2⟩
  have hB2 := hB1.trans (hb2.mono hB1.size)
  go_wp2_with fail
  (with_reducible refine (HK2.out w2 hB2).mono ?_)
  rintro e w3 ⟨⟨A2, q2, rfl, hq2, hm2, hc2⟩, hb3⟩
  have hB3 := hB2.trans (hb3.mono hB2.size)
  have hc1' := (hc1.below hb3).whole
  have HLC := Lib.hid (lessK_n A1 A2 Ka Kb 9 9 q1 q2 _ w3 HL1.out.symm HL2.out.symm HLS.out hc1' hc2 (by rw [HL1.out]; omega) (by rw [HL2.out]; omega) HO1.out HO2.out)
  go_wp2_with fail
  (with_reducible refine (HLC.out).mono ?_)
  rintro e w4 ⟨rfl, hb4⟩
  have hB4 := hB3.trans (hb4.mono hB3.size)
  have hc1'' := (hc1'.below hb4).whole
  have hc2'' := (hc2.below hb4).whole
  have HSC := Lib.hid (sameK_n A1 A2 Ka Kb 9 9 q1 q2 _ w4 HL1.out.symm HL2.out.symm HSM.out hc1'' hc2'' (by rw [HL1.out]; omega))
  go_wp2_with fail
  (with_reducible refine (HSC.out).mono ?_)
  rintro e w5 ⟨rfl, hb5⟩
  have hB5 := hB4.trans (hb5.mono hB4.size)
  go_wp2
  go_ret
  exact ⟨rfl, hB5⟩
end Go.Proofs.YtpnbmgfnnmmokaaDoor
