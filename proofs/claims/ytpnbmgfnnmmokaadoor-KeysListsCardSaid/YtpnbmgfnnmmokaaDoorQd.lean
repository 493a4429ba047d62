/-
  The contracts of munimentref04.Plain and Key, of keys.Key.
-/
import Derived.Test.YtpnbmgfnnmmokaaDoorQc
set_option linter.unusedVariables false
namespace Go.Proofs.YtpnbmgfnnmmokaaDoor
open Go.RowKit

theorem add_top (n : Int) (h : -9223372036854775808 ≤ n ∧ n ≤ 9223372036854775807) : IntKind.u64.wrap (IntKind.u64.wrap n + 9223372036854775808) = ordN n := by
  unfold ordN
  rw [IntKind.wrap_u64, IntKind.wrap_u64]
  omega
theorem own_blk8 {w : World} {base : Nat} {v : Value} {l : List Int} {g : Nat} {t : TypeId} {cs : Array Value} {w' : World} {v' : Value} (hF : Blk w g t cs) (hlt : g < base) (ho : Own w base v l) (hg : Grew w v w' v') : Blk w' g t cs := hF.grown hg.by_ fun e => by have := (World.ownsRow.lt ho g e.symm).1; omega

set_option maxRecDepth 8000 in
set_option maxHeartbeats 16000000 in
theorem rplain_keys : ∀ (m : Nat) (v : LV) (left : Nat) (w : World), v.sz < m → v.At w → FormedP v.j left → left ≤ 6 →
    Calls Tryd.prog 26 #[v.val] w fun e w' => ∃ v', e = .returned v' ∧ Own w' w.heap.size v' (keyJ v.j) ∧ Below w.heap.size w w' := by
  intro m
  induction m with
  | zero => intro v left w hm; omega
  | succ m ih =>
    intro v left w hm hv hf hl6
    obtain ⟨k, n, s, An, ns, cn, Ai, is, ci⟩ := v
    obtain ⟨W, hW⟩ : ∃ W, W = w.alloc (.cells (valBlk k n s An ns cn Ai is ci) 25) := ⟨_, rfl⟩
    have hF : Blk W w.heap.size 25 (valBlk k n s An ns cn Ai is ci) := by rw [hW]; exact Blk.new w _ _
    have hB0 : Below w.heap.size w W := by rw [hW]; exact (Below.refl _ _).alloc (Nat.le_refl _) _
    have hWs : W.heap.size = w.heap.size + 1 := by rw [hW, World.size_alloc]
    have hvW := hv.below hB0 _
    have hbd : (-9223372036854775808 ≤ n ∧ n ≤ 9223372036854775807) ∧ (is.length ≤ ci ∧ ci ≤ 9223372036854775807) ∧ (ns.length ≤ cn ∧ cn ≤ 9223372036854775807) := by
      unfold LV.At at hv; exact ⟨hv.2.2.2.2.1, hv.2.2.2.2.2.2.2.2, hv.2.2.2.2.2.2.2.1⟩
    obtain ⟨hnb, hci, hcn⟩ := hbd
    have hlen := keyJ_len _ _ hf
    have hlm : keyMax left ≤ 9000000000000 := by
      have h : left = 0 ∨ left = 1 ∨ left = 2 ∨ left = 3 ∨ left = 4 ∨ left = 5 ∨ left = 6 := by omega
      rcases h with rfl | rfl | rfl | rfl | rfl | rfl | rfl <;> decide
    have hkk : 0 ≤ k ∧ k ≤ 6 := by rw [LV.j, FormedP] at hf; exact ⟨hf.2.1.1, hf.2.1.2.1⟩
    have hss : s.size ≤ 60 := by rw [LV.j, FormedP] at hf; exact hf.2.1.2.2.2.2.1.1
    have HZ := Lib.hid (formed_sizesK hf)
    obtain ⟨X, hX⟩ : ∃ X, keyJ (LV.mk k n s An ns cn Ai is ci).j = X := ⟨_, rfl⟩
    rw [hX] at hlen ⊢
    have HXL : Hid (X.length ≤ 9000000000000) := Lib.hid (by omega)
    have HX : Hid ([k + 1] ++ (if k = 3 then be64 (ordN n) else if k = 4 then textK s else if k = 5 ∨ k = 6 then keyRows (decide (k = 6)) (LV.js is) ns ++ [0] else []) = X) := Lib.hid (by rw [← hX, LV.j, keyJ]; simp)
    have HN : Hid (IntKind.u64.wrap (IntKind.u64.wrap n + 9223372036854775808) = ordN n) := Lib.hid (add_top n hnb)
    have HON : Hid (0 ≤ ordN n ∧ ordN n ≤ 18446744073709551615) := Lib.hid (by unfold ordN; omega)
    have HF := Lib.hid hf
    have HV := Lib.hid hvW
    have HW := Lib.hid hW
    have HWS := Lib.hid hWs
    have HL6 := Lib.hid hl6
    have hlW : w.heap.size < W.heap.size := hF.lt
    clear hW hv hvW hf hX hnb hlen hlm hWs
    show Calls Tryd.prog 26 #[.agg (valBlk k n s An ns cn Ai is ci)] w _
    have hkc : k = 0 ∨ k = 1 ∨ k = 2 ∨ k = 3 ∨ k = 4 ∨ k = 5 ∨ k = 6 := by omega
    obtain ⟨c0, c1, c2, c3, c4⟩ : W.cell? ⟨w.heap.size, 0, none⟩ = some (.int .i64 k) ∧ W.cell? ⟨w.heap.size, 1, none⟩ = some (.int .i64 n) ∧ W.cell? ⟨w.heap.size, 2, none⟩ = some (.string s) ∧ W.cell? ⟨w.heap.size, 3, none⟩ = some (.slice An ns.length cn) ∧ W.cell? ⟨w.heap.size, 4, none⟩ = some (.slice Ai is.length ci) := ⟨hF.cell 0, hF.cell 1, hF.cell 2, hF.cell 3, hF.cell 4⟩
    rcases hkc with rfl | rfl | rfl | rfl | rfl | rfl | rfl
    · have HE : Hid ([(0 : Int) + 1] ++ [] = X) := HX
      clear HX ih
      go_enter Tryd.func26, Tryd.ntmps26
      go_upto_region 1 with fail
      rw [← HW.out]
      go_upto_region 2 with fail
      obtain ⟨w1, hw1⟩ : ∃ w1, w1 = W.alloc (.cells #[.int .u8 1] 5) := ⟨_, rfl⟩
      rw [← hw1]
      have hown1 : Own w1 (w.heap.size + 1) (.slice (some ⟨W.heap.size, 0, none⟩) 1 1) [1] := by rw [hw1]; exact own_lit W _ 1 (by omega)
      have hb1 : Below (w.heap.size + 1) W w1 := by rw [hw1]; exact (Below.refl _ _).alloc (by omega) _
      have hF1 := hF.below hb1 (Nat.lt_succ_self _)
      have hsw1 := hb1.size
      clear hw1 c0 c1 c2 c3 c4
      obtain ⟨gW, hgW⟩ : ∃ g, W.heap.size = g := ⟨_, rfl⟩
      have HGW := Lib.hid hgW
      rw [hgW] at hown1 ⊢
      clear hgW
      obtain ⟨c0, c1, c2, c3, c4⟩ : w1.cell? ⟨w.heap.size, 0, none⟩ = some (.int .i64 0) ∧ w1.cell? ⟨w.heap.size, 1, none⟩ = some (.int .i64 n) ∧ w1.cell? ⟨w.heap.size, 2, none⟩ = some (.string s) ∧ w1.cell? ⟨w.heap.size, 3, none⟩ = some (.slice An ns.length cn) ∧ w1.cell? ⟨w.heap.size, 4, none⟩ = some (.slice Ai is.length ci) := ⟨hF1.cell 0, hF1.cell 1, hF1.cell 2, hF1.cell 3, hF1.cell 4⟩
      go_wp2
      go_ret
      exact ⟨_, rfl, (own_as hown1 (by rw [← HE.out]; rfl)).mono (Nat.le_succ _), hB0.trans (hb1.mono (Nat.le_succ _))⟩
    · have HE : Hid ([(1 : Int) + 1] ++ [] = X) := HX
      clear HX ih
      go_enter Tryd.func26, Tryd.ntmps26
      go_upto_region 1 with fail
      rw [← HW.out]
      go_upto_region 2 with fail
      obtain ⟨w1, hw1⟩ : ∃ w1, w1 = W.alloc (.cells #[.int .u8 2] 5) := ⟨_, rfl⟩
      rw [← hw1]
      have hown1 : Own w1 (w.heap.size + 1) (.slice (some ⟨W.heap.size, 0, none⟩) 1 1) [2] := by rw [hw1]; exact own_lit W _ 2 (by omega)
      have hb1 : Below (w.heap.size + 1) W w1 := by rw [hw1]; exact (Below.refl _ _).alloc (by omega) _
      have hF1 := hF.below hb1 (Nat.lt_succ_self _)
      have hsw1 := hb1.size
      clear hw1 c0 c1 c2 c3 c4
      obtain ⟨gW, hgW⟩ : ∃ g, W.heap.size = g := ⟨_, rfl⟩
      have HGW := Lib.hid hgW
      rw [hgW] at hown1 ⊢
      clear hgW
      obtain ⟨c0, c1, c2, c3, c4⟩ : w1.cell? ⟨w.heap.size, 0, none⟩ = some (.int .i64 1) ∧ w1.cell? ⟨w.heap.size, 1, none⟩ = some (.int .i64 n) ∧ w1.cell? ⟨w.heap.size, 2, none⟩ = some (.string s) ∧ w1.cell? ⟨w.heap.size, 3, none⟩ = some (.slice An ns.length cn) ∧ w1.cell? ⟨w.heap.size, 4, none⟩ = some (.slice Ai is.length ci) := ⟨hF1.cell 0, hF1.cell 1, hF1.cell 2, hF1.cell 3, hF1.cell 4⟩
      go_wp2
      go_ret
      exact ⟨_, rfl, (own_as hown1 (by rw [← HE.out]; rfl)).mono (Nat.le_succ _), hB0.trans (hb1.mono (Nat.le_succ _))⟩
    · have HE : Hid ([(2 : Int) + 1] ++ [] = X) := HX
      clear HX ih
      go_enter Tryd.func26, Tryd.ntmps26
      go_upto_region 1 with fail
      rw [← HW.out]
      go_upto_region 2 with fail
      obtain ⟨w1, hw1⟩ : ∃ w1, w1 = W.alloc (.cells #[.int .u8 3] 5) := ⟨_, rfl⟩
      rw [← hw1]
      have hown1 : Own w1 (w.heap.size + 1) (.slice (some ⟨W.heap.size, 0, none⟩) 1 1) [3] := by rw [hw1]; exact own_lit W _ 3 (by omega)
      have hb1 : Below (w.heap.size + 1) W w1 := by rw [hw1]; exact (Below.refl _ _).alloc (by omega) _
      have hF1 := hF.below hb1 (Nat.lt_succ_self _)
      have hsw1 := hb1.size
      clear hw1 c0 c1 c2 c3 c4
      obtain ⟨gW, hgW⟩ : ∃ g, W.heap.size = g := ⟨_, rfl⟩
      have HGW := Lib.hid hgW
      rw [hgW] at hown1 ⊢
      clear hgW
      obtain ⟨c0, c1, c2, c3, c4⟩ : w1.cell? ⟨w.heap.size, 0, none⟩ = some (.int .i64 2) ∧ w1.cell? ⟨w.heap.size, 1, none⟩ = some (.int .i64 n) ∧ w1.cell? ⟨w.heap.size, 2, none⟩ = some (.string s) ∧ w1.cell? ⟨w.heap.size, 3, none⟩ = some (.slice An ns.length cn) ∧ w1.cell? ⟨w.heap.size, 4, none⟩ = some (.slice Ai is.length ci) := ⟨hF1.cell 0, hF1.cell 1, hF1.cell 2, hF1.cell 3, hF1.cell 4⟩
      go_wp2
      go_ret
      exact ⟨_, rfl, (own_as hown1 (by rw [← HE.out]; rfl)).mono (Nat.le_succ _), hB0.trans (hb1.mono (Nat.le_succ _))⟩
    · have HE : Hid ([(3 : Int) + 1] ++ be64 (ordN n) = X) := HX
      clear HX ih
      go_enter Tryd.func26, Tryd.ntmps26
      go_upto_region 1 with fail
      rw [← HW.out]
      go_upto_region 2 with fail
      obtain ⟨w1, hw1⟩ : ∃ w1, w1 = W.alloc (.cells #[.int .u8 4] 5) := ⟨_, rfl⟩
      rw [← hw1]
      have hown1 : Own w1 (w.heap.size + 1) (.slice (some ⟨W.heap.size, 0, none⟩) 1 1) [4] := by rw [hw1]; exact own_lit W _ 4 (by omega)
      have hb1 : Below (w.heap.size + 1) W w1 := by rw [hw1]; exact (Below.refl _ _).alloc (by omega) _
      have hF1 := hF.below hb1 (Nat.lt_succ_self _)
      have hsw1 := hb1.size
      clear hw1 c0 c1 c2 c3 c4
      obtain ⟨gW, hgW⟩ : ∃ g, W.heap.size = g := ⟨_, rfl⟩
      have HGW := Lib.hid hgW
      rw [hgW] at hown1 ⊢
      clear hgW
      obtain ⟨c0, c1, c2, c3, c4⟩ : w1.cell? ⟨w.heap.size, 0, none⟩ = some (.int .i64 3) ∧ w1.cell? ⟨w.heap.size, 1, none⟩ = some (.int .i64 n) ∧ w1.cell? ⟨w.heap.size, 2, none⟩ = some (.string s) ∧ w1.cell? ⟨w.heap.size, 3, none⟩ = some (.slice An ns.length cn) ∧ w1.cell? ⟨w.heap.size, 4, none⟩ = some (.slice Ai is.length ci) := ⟨hF1.cell 0, hF1.cell 1, hF1.cell 2, hF1.cell 3, hF1.cell 4⟩
      have hn := HN.out
      go_wp2_with fail
      refine (big_any (ordN n) w1 HON.out.1 HON.out.2).mono ?_
      rintro e w2 ⟨rfl, hw2⟩
      have hb2 : Below (w.heap.size + 1) w1 w2 := by rw [hw2]; exact (Below.refl _ _).alloc (by omega) _
      have hown2 : Own w2 (w.heap.size + 1) (.slice (some ⟨gW, 0, none⟩) 1 1) [4] := by rw [hw2]; exact hown1.alloc _
      have hcb : Cells w2 (w1.heap.size + 1) (some ⟨w1.heap.size, 0, none⟩) (U8 (be64 (ordN n))) := by rw [hw2]; exact cells_new w1 _
      have hs2 := hb2.size
      clear hw2
      go_wp2_with (first | (at_builtin; refine app_any rfl (.tmp 15) (.tmp 20) rfl (w.heap.size + 1) _ _ rfl hown2 _ (some ⟨w1.heap.size, 0, none⟩) 8 (be64 (ordN n)) rfl hcb (by rw [be64_len]; simp) (by omega) ?_; intro v3 w3 hown3 hg3))
      go_ret
      exact ⟨_, rfl, (own_as hown3 (by rw [← HE.out]; rfl)).mono (Nat.le_succ _), hB0.trans (((hb1.trans hb2).trans (hg3.below hown2 (by omega))).mono (Nat.le_succ _))⟩
    · have HE : Hid ([(4 : Int) + 1] ++ textK s = X) := HX
      clear HX ih
      go_enter Tryd.func26, Tryd.ntmps26
      go_upto_region 1 with fail
      rw [← HW.out]
      go_upto_region 2 with fail
      obtain ⟨w1, hw1⟩ : ∃ w1, w1 = W.alloc (.cells #[.int .u8 5] 5) := ⟨_, rfl⟩
      rw [← hw1]
      have hown1 : Own w1 (w.heap.size + 1) (.slice (some ⟨W.heap.size, 0, none⟩) 1 1) [5] := by rw [hw1]; exact own_lit W _ 5 (by omega)
      have hb1 : Below (w.heap.size + 1) W w1 := by rw [hw1]; exact (Below.refl _ _).alloc (by omega) _
      have hF1 := hF.below hb1 (Nat.lt_succ_self _)
      have hsw1 := hb1.size
      clear hw1 c0 c1 c2 c3 c4
      obtain ⟨gW, hgW⟩ : ∃ g, W.heap.size = g := ⟨_, rfl⟩
      have HGW := Lib.hid hgW
      rw [hgW] at hown1 ⊢
      clear hgW
      obtain ⟨c0, c1, c2, c3, c4⟩ : w1.cell? ⟨w.heap.size, 0, none⟩ = some (.int .i64 4) ∧ w1.cell? ⟨w.heap.size, 1, none⟩ = some (.int .i64 n) ∧ w1.cell? ⟨w.heap.size, 2, none⟩ = some (.string s) ∧ w1.cell? ⟨w.heap.size, 3, none⟩ = some (.slice An ns.length cn) ∧ w1.cell? ⟨w.heap.size, 4, none⟩ = some (.slice Ai is.length ci) := ⟨hF1.cell 0, hF1.cell 1, hF1.cell 2, hF1.cell 3, hF1.cell 4⟩
      go_wp2_with fail
      refine (rtext_bytes s w1 (by omega)).mono ?_
      rintro e w2 ⟨v2, rfl, hownT, hb2⟩
      have hown2 := hown1.below hb2
      obtain ⟨A2, c2', rfl, _, _, hcb⟩ := hownT.shape
      have hs2 := hb2.size
      have hlT := textK_len s
      go_wp2_with (first | (at_builtin; refine app_any rfl (.tmp 24) (.tmp 27) rfl (w.heap.size + 1) _ _ rfl hown2 _ A2 c2' (textK s) rfl hcb (by simp; omega) (by omega) ?_; intro v3 w3 hown3 hg3))
      go_ret
      exact ⟨_, rfl, (own_as hown3 (by rw [← HE.out]; rfl)).mono (Nat.le_succ _), hB0.trans (((hb1.trans (hb2.mono (by omega))).trans (hg3.below hown2 (by omega))).mono (Nat.le_succ _))⟩
    · have HE : Hid ([(5 : Int) + 1] ++ (keyRows false ((LV.js is).drop 0) (ns.drop 0) ++ [0]) = X) := HX
      clear HX
      go_enter Tryd.func26, Tryd.ntmps26
      go_upto_region 1 with fail
      rw [← HW.out]
      go_upto_region 2 with fail
      obtain ⟨w1, hw1⟩ : ∃ w1, w1 = W.alloc (.cells #[.int .u8 6] 5) := ⟨_, rfl⟩
      rw [← hw1]
      have hown1 : Own w1 (w.heap.size + 1) (.slice (some ⟨W.heap.size, 0, none⟩) 1 1) [6] := by rw [hw1]; exact own_lit W _ 6 (by omega)
      have hb1 : Below (w.heap.size + 1) W w1 := by rw [hw1]; exact (Below.refl _ _).alloc (by omega) _
      have hF1 := hF.below hb1 (Nat.lt_succ_self _)
      have hsw1 := hb1.size
      clear hw1 c0 c1 c2 c3 c4
      obtain ⟨gW, hgW⟩ : ∃ g, W.heap.size = g := ⟨_, rfl⟩
      have HGW := Lib.hid hgW
      rw [hgW] at hown1 ⊢
      clear hgW
      obtain ⟨c0, c1, c2, c3, c4⟩ : w1.cell? ⟨w.heap.size, 0, none⟩ = some (.int .i64 5) ∧ w1.cell? ⟨w.heap.size, 1, none⟩ = some (.int .i64 n) ∧ w1.cell? ⟨w.heap.size, 2, none⟩ = some (.string s) ∧ w1.cell? ⟨w.heap.size, 3, none⟩ = some (.slice An ns.length cn) ∧ w1.cell? ⟨w.heap.size, 4, none⟩ = some (.slice Ai is.length ci) := ⟨hF1.cell 0, hF1.cell 1, hF1.cell 2, hF1.cell 3, hF1.cell 4⟩
      go_wp2
      clear c0 c1 c2 c3 c4
      go_loopw [3, 4] (fun u i wr => ∃ (q : Nat) (cur : List Int) (uu : Value), uu = u ∧ i = .int .i64 q ∧ q ≤ is.length ∧ Hid (cur ++ (keyRows false ((LV.js is).drop q) (ns.drop q) ++ [0]) = X) ∧ Own wr (w.heap.size + 1) u cur ∧ Below (w.heap.size + 1) W wr)
        (fun _ i _ => is.length - (RowKit.intOf i).toNat)
      case atStart => exact ⟨0, _, _, rfl, rfl, Nat.zero_le _, HE, hown1, hb1⟩
      case round =>
        obtain ⟨q, cur, u, rfl, rfl, hq, HQ, hown, hB⟩ := hrel
        have hsz := hB.size
        have hFr := hF.below hB (Nat.lt_succ_self _)
        clear HE hown1 hF1 hb1
        have f4 : wr.cell? ⟨w.heap.size, 4, none⟩ = some (.slice Ai is.length ci) := hFr.cell 4
        have hbW : Below W.heap.size W wr := by rw [HWS.out]; exact hB
        by_cases hlt : q < is.length
        · have hqI : (q : Int) < (is.length : Int) := by omega
          obtain ⟨b, off, rfl, hb, hit, hcell0⟩ := HV.out.item hlt
          have hcell : ∀ w', Below W.heap.size W w' → ∀ j u, (is[q]).cells[j]? = some u → w'.cell? ⟨b, off + q * 5 + j, none⟩ = some u := fun w' hb' j u hu => (hb'.cell (p := ⟨b, off + q * 5 + j, none⟩) hb).trans (hcell0 j u hu)
          have HIT := Lib.hid hit
          have HFI := Lib.hid (formed_itemK HF.out hlt)
          have hsz2 := LV.item_size (k := 5) (n := n) (s := s) (An := An) (ns := ns) (cn := cn) (Ai := some ⟨b, off, none⟩) (ci := ci) hlt
          have HQ2 : Hid (cur ++ (((if false = true then 1 :: textK (ns.getD q ⟨#[]⟩) else []) ++ keyJ is[q].j ++ keyRows false ((LV.js is).drop (q + 1)) (ns.drop (q + 1))) ++ [0]) = X) := Lib.hid (by rw [← keyRows_step false is ns q hlt]; exact HQ.out)
          have HC : Hid (∀ w', Below W.heap.size W w' → Calls Tryd.prog 26 #[(is[q]).val] w' fun e w'' => ∃ v', e = .returned v' ∧ Own w'' w'.heap.size v' (keyJ is[q].j) ∧ Below w'.heap.size w' w'') := Lib.hid fun w' hb' => ih is[q] (left - 1) w' (by omega) (LV.At.below hb' _ HIT.out) HFI.out (by have := HL6.out; omega)
          obtain ⟨x, hx⟩ : ∃ x, is[q] = x := ⟨_, rfl⟩
          rw [hx] at HC hcell HQ2
          clear HIT HFI hsz2 hit HQ hx hcell0
          obtain ⟨k', n', s', An', ns', cn', Ai', is', ci'⟩ := x
          change Hid (∀ w', _ → Calls Tryd.prog 26 #[.agg #[.int .i64 k', .int .i64 n', .string s', .slice An' ns'.length cn', .slice Ai' is'.length ci']] w' _) at HC
          have e0 : wr.cell? ⟨b, off + q * 5, none⟩ = some (.int .i64 k') := hcell _ hbW 0 _ rfl
          have e1 : wr.cell? ⟨b, off + q * 5 + 1, none⟩ = some (.int .i64 n') := hcell _ hbW 1 _ rfl
          have e2 : wr.cell? ⟨b, off + q * 5 + 2, none⟩ = some (.string s') := hcell _ hbW 2 _ rfl
          have e3 : wr.cell? ⟨b, off + q * 5 + 3, none⟩ = some (.slice An' ns'.length cn') := hcell _ hbW 3 _ rfl
          have e4 : wr.cell? ⟨b, off + q * 5 + 4, none⟩ = some (.slice Ai' is'.length ci') := hcell _ hbW 4 _ rfl
          clear hcell
          clear ih
          obtain ⟨J, hJ⟩ : ∃ J, keyJ (LV.mk k' n' s' An' ns' cn' Ai' is' ci').j = J := ⟨_, rfl⟩
          rw [hJ] at HQ2 HC
          clear hJ
          have HQ3 : Hid ((cur ++ J) ++ (keyRows false ((LV.js is).drop (q + 1)) (ns.drop (q + 1)) ++ [0]) = X) := Lib.hid (by rw [← HQ2.out]; simp)
          have hlJ : cur.length + J.length ≤ 9000000000000 := by have h1 := HQ3.out; have h2 := HXL.out; rw [← h1] at h2; simp at h2; omega
          go_wp2_with fail
          (with_reducible refine (HC.out wr hbW).mono ?_)
          rintro e w2 ⟨v2, rfl, hownT, hb2⟩
          have hown2 := hown.below hb2
          obtain ⟨A2, c2, rfl, _, _, hcb⟩ := hownT.shape
          have hs2 := hb2.size
          clear e0 e1 e2 e3 e4 f4
          go_wp2_with (first | (at_builtin; refine app_any rfl (.tmp 38) (.tmp 44) rfl (w.heap.size + 1) _ _ rfl hown2 _ A2 c2 J rfl hcb (by omega) (by omega) ?_; intro v3 w3 hown3 hg3))
          have hB3 := (hB.trans (hb2.mono (by omega))).trans (hg3.below hown2 (by omega))
          go_roundw
          case rel => exact ⟨q + 1, _, _, rfl, by go_num, by omega, HQ3, hown3, hB3⟩
          case measure => simp [RowKit.intOf]; omega
        · have hqI : ¬ (q : Int) < (is.length : Int) := by omega
          have HE : Hid (cur ++ [0] = X) := Lib.hid (by rw [← HQ.out, keyRows_end _ _ _ _ (by rw [js_len]; omega), List.nil_append])
          have hlC : cur.length + 1 ≤ 9000000000000 := by have h1 := HE.out; have h2 := HXL.out; rw [← h1] at h2; simpa using h2
          clear HQ ih
          go_wp2_with (first | (at_builtin; refine app_one rfl (.tmp 46) (.tmp 47) rfl (w.heap.size + 1) _ _ _ rfl hown rfl (by omega) (by omega) ?_; intro v2 w2 hown2 hg2))
          go_ret
          exact ⟨_, rfl, (own_as hown2 HE.out).mono (Nat.le_succ _), hB0.trans ((hB.trans (hg2.below hown (by omega))).mono (Nat.le_succ _))⟩
    · have HE : Hid ([(6 : Int) + 1] ++ (keyRows true ((LV.js is).drop 0) (ns.drop 0) ++ [0]) = X) := HX
      clear HX
      go_enter Tryd.func26, Tryd.ntmps26
      go_upto_region 1 with fail
      rw [← HW.out]
      go_upto_region 2 with fail
      obtain ⟨w1, hw1⟩ : ∃ w1, w1 = W.alloc (.cells #[.int .u8 7] 5) := ⟨_, rfl⟩
      rw [← hw1]
      have hown1 : Own w1 (w.heap.size + 1) (.slice (some ⟨W.heap.size, 0, none⟩) 1 1) [7] := by rw [hw1]; exact own_lit W _ 7 (by omega)
      have hb1 : Below (w.heap.size + 1) W w1 := by rw [hw1]; exact (Below.refl _ _).alloc (by omega) _
      have hF1 := hF.below hb1 (Nat.lt_succ_self _)
      have hsw1 := hb1.size
      clear hw1 c0 c1 c2 c3 c4
      obtain ⟨gW, hgW⟩ : ∃ g, W.heap.size = g := ⟨_, rfl⟩
      have HGW := Lib.hid hgW
      rw [hgW] at hown1 ⊢
      clear hgW
      obtain ⟨c0, c1, c2, c3, c4⟩ : w1.cell? ⟨w.heap.size, 0, none⟩ = some (.int .i64 6) ∧ w1.cell? ⟨w.heap.size, 1, none⟩ = some (.int .i64 n) ∧ w1.cell? ⟨w.heap.size, 2, none⟩ = some (.string s) ∧ w1.cell? ⟨w.heap.size, 3, none⟩ = some (.slice An ns.length cn) ∧ w1.cell? ⟨w.heap.size, 4, none⟩ = some (.slice Ai is.length ci) := ⟨hF1.cell 0, hF1.cell 1, hF1.cell 2, hF1.cell 3, hF1.cell 4⟩
      go_wp2
      clear c0 c1 c2 c3 c4
      go_loopw [3, 5] (fun u i wr => ∃ (q : Nat) (cur : List Int) (uu : Value), uu = u ∧ i = .int .i64 q ∧ q ≤ is.length ∧ Hid (cur ++ (keyRows true ((LV.js is).drop q) (ns.drop q) ++ [0]) = X) ∧ Own wr (w.heap.size + 1) u cur ∧ Below (w.heap.size + 1) W wr)
        (fun _ i _ => is.length - (RowKit.intOf i).toNat)
      case atStart => exact ⟨0, _, _, rfl, rfl, Nat.zero_le _, HE, hown1, hb1⟩
      case round =>
        obtain ⟨q, cur, u, rfl, rfl, hq, HQ, hown, hB⟩ := hrel
        have hsz := hB.size
        have hFr := hF.below hB (Nat.lt_succ_self _)
        clear HE hown1 hF1 hb1
        have f4 : wr.cell? ⟨w.heap.size, 4, none⟩ = some (.slice Ai is.length ci) := hFr.cell 4
        have hbW : Below W.heap.size W wr := by rw [HWS.out]; exact hB
        by_cases hlt : q < is.length
        · have hqI : (q : Int) < (is.length : Int) := by omega
          obtain ⟨b, off, rfl, hb, hit, hcell0⟩ := HV.out.item hlt
          have hcell : ∀ w', Below W.heap.size W w' → ∀ j u, (is[q]).cells[j]? = some u → w'.cell? ⟨b, off + q * 5 + j, none⟩ = some u := fun w' hb' j u hu => (hb'.cell (p := ⟨b, off + q * 5 + j, none⟩) hb).trans (hcell0 j u hu)
          have HIT := Lib.hid hit
          have HFI := Lib.hid (formed_itemK HF.out hlt)
          have hsz2 := LV.item_size (k := 6) (n := n) (s := s) (An := An) (ns := ns) (cn := cn) (Ai := some ⟨b, off, none⟩) (ci := ci) hlt
          have HQ2 : Hid (cur ++ (((if true = true then 1 :: textK (ns.getD q ⟨#[]⟩) else []) ++ keyJ is[q].j ++ keyRows true ((LV.js is).drop (q + 1)) (ns.drop (q + 1))) ++ [0]) = X) := Lib.hid (by rw [← keyRows_step true is ns q hlt]; exact HQ.out)
          have HC : Hid (∀ w', Below W.heap.size W w' → Calls Tryd.prog 26 #[(is[q]).val] w' fun e w'' => ∃ v', e = .returned v' ∧ Own w'' w'.heap.size v' (keyJ is[q].j) ∧ Below w'.heap.size w' w'') := Lib.hid fun w' hb' => ih is[q] (left - 1) w' (by omega) (LV.At.below hb' _ HIT.out) HFI.out (by have := HL6.out; omega)
          obtain ⟨x, hx⟩ : ∃ x, is[q] = x := ⟨_, rfl⟩
          rw [hx] at HC hcell HQ2
          clear HIT HFI hsz2 hit HQ hx hcell0
          obtain ⟨k', n', s', An', ns', cn', Ai', is', ci'⟩ := x
          change Hid (∀ w', _ → Calls Tryd.prog 26 #[.agg #[.int .i64 k', .int .i64 n', .string s', .slice An' ns'.length cn', .slice Ai' is'.length ci']] w' _) at HC
          clear ih
          obtain ⟨J, hJ⟩ : ∃ J, keyJ (LV.mk k' n' s' An' ns' cn' Ai' is' ci').j = J := ⟨_, rfl⟩
          rw [hJ] at HQ2 HC
          clear hJ
          have hnl : q < ns.length := by have := HZ.out.2.2.1 (by first | rfl | trivial); rw [js_len] at this; omega
          have hnlI : (q : Int) < (ns.length : Int) := by omega
          have hq0 : (0 : Int) ≤ (q : Int) := by omega
          have hnc : ∃ bn on_, An = some ⟨bn, on_, none⟩ ∧ bn < W.heap.size ∧ W.cell? ⟨bn, on_ + q, none⟩ = some (.string ns[q]) := by
            have h := HV.out
            unfold LV.At at h
            exact h.1 q (.string ns[q]) (by rw [List.getElem?_map, List.getElem?_eq_getElem hnl]; rfl)
          obtain ⟨bn, on_, rfl, hbn, hnc0⟩ := hnc
          have hgd : ns.getD q ⟨#[]⟩ = ns[q] := by rw [List.getD_eq_getElem?_getD, List.getElem?_eq_getElem hnl]; rfl
          rw [hgd] at HQ2
          have htn : ns[q].size ≤ 60 := HZ.out.2.2.2 _ (List.getElem_mem hnl)
          obtain ⟨tx, htx⟩ : ∃ tx, ns[q] = tx := ⟨_, rfl⟩
          rw [htx] at HQ2 hnc0 htn
          clear htx hgd
          have hlT := textK_len tx
          obtain ⟨TX, hTX⟩ : ∃ TX, textK tx = TX := ⟨_, rfl⟩
          have HRT : Hid (∀ w', Calls Tryd.prog 39 #[.string tx] w' fun e w'' => ∃ v', e = .returned v' ∧ Own w'' w'.heap.size v' TX ∧ Below w'.heap.size w' w'') := Lib.hid fun w' => by rw [← hTX]; exact rtext_bytes tx w' (by omega)
          rw [hTX] at HQ2 hlT
          clear hTX
          have HQ3 : Hid ((((cur ++ [1]) ++ TX) ++ J) ++ (keyRows true ((LV.js is).drop (q + 1)) (ns.drop (q + 1)) ++ [0]) = X) := Lib.hid (by rw [← HQ2.out]; simp)
          have hlJ : ((cur ++ [1]) ++ TX).length + J.length ≤ 9000000000000 := by have h1 := HQ3.out; have h2 := HXL.out; rw [← h1] at h2; simp at h2 ⊢; omega
          have hlC : cur.length + 1 ≤ 9000000000000 := by simp at hlJ; omega
          have hlC2 : (cur ++ [(1 : Int)]).length + TX.length ≤ 9000000000000 := by simp at hlJ ⊢; omega
          obtain ⟨M, hM⟩ : ∃ M, cur ++ [(1 : Int)] = M := ⟨_, rfl⟩
          rw [hM] at hlC2 hlJ HQ3
          have HM := Lib.hid hM
          clear hM
          obtain ⟨M2, hM2⟩ : ∃ M2, M ++ TX = M2 := ⟨_, rfl⟩
          rw [hM2] at hlJ HQ3
          have HM2 := Lib.hid hM2
          clear hM2
          go_upto_region 18 with (first | (at_builtin; refine app_one rfl (.tmp 58) (.tmp 59) rfl (w.heap.size + 1) _ _ _ rfl hown rfl (by omega) (by omega) ?_; intro v2 w2 hown2 hg2))
          have hb2 := hg2.below hown (by omega)
          have hB2 := hB.trans hb2
          have hs2 := hB2.size
          have hF2 := hF.below hB2 (Nat.lt_succ_self _)
          have hbW2 : Below W.heap.size W w2 := by rw [HWS.out]; exact hB2
          have hown2' := own_as hown2 HM.out
          obtain ⟨A2', c2', rfl, _, _, _⟩ := hown2'.shape
          clear f4
          have f3' : w2.cell? ⟨w.heap.size, 3, none⟩ = some (.slice (some ⟨bn, on_, none⟩) ns.length cn) := hF2.cell 3
          have n2 : w2.cell? ⟨bn, on_ + q, none⟩ = some (.string tx) := (hbW2.cell (p := ⟨bn, on_ + q, none⟩) hbn).trans hnc0
          go_wp2_with fail
          (with_reducible refine (HRT.out w2).mono ?_)
          rintro e w3 ⟨v3, rfl, hownT, hb3⟩
          have hown3 := hown2'.below hb3
          obtain ⟨A3, c3, rfl, _, _, hcb⟩ := hownT.shape
          have hs3 := hb3.size
          clear f3' n2
          go_upto_region 19 with (first | (at_builtin; refine app_any rfl (.tmp 61) (.tmp 67) rfl (w.heap.size + 1) _ _ rfl hown3 _ A3 c3 TX rfl hcb (by omega) (by omega) ?_; intro v4 w4 hown4 hg4))
          have hB4 := (hB2.trans (hb3.mono (by omega))).trans (hg4.below hown3 (by omega))
          have hs4 := hB4.size
          have hF4 := hF.below hB4 (Nat.lt_succ_self _)
          have hbW4 : Below W.heap.size W w4 := by rw [HWS.out]; exact hB4
          have hown4' := own_as hown4 HM2.out
          obtain ⟨A4', c4', rfl, _, _, _⟩ := hown4'.shape
          have f4' : w4.cell? ⟨w.heap.size, 4, none⟩ = some (.slice (some ⟨b, off, none⟩) is.length ci) := hF4.cell 4
          have e0 : w4.cell? ⟨b, off + q * 5, none⟩ = some (.int .i64 k') := hcell _ hbW4 0 _ rfl
          have e1 : w4.cell? ⟨b, off + q * 5 + 1, none⟩ = some (.int .i64 n') := hcell _ hbW4 1 _ rfl
          have e2 : w4.cell? ⟨b, off + q * 5 + 2, none⟩ = some (.string s') := hcell _ hbW4 2 _ rfl
          have e3 : w4.cell? ⟨b, off + q * 5 + 3, none⟩ = some (.slice An' ns'.length cn') := hcell _ hbW4 3 _ rfl
          have e4 : w4.cell? ⟨b, off + q * 5 + 4, none⟩ = some (.slice Ai' is'.length ci') := hcell _ hbW4 4 _ rfl
          clear hcell
          go_wp2_with fail
          (with_reducible refine (HC.out w4 hbW4).mono ?_)
          rintro e w5 ⟨v5, rfl, hownT5, hb5⟩
          have hown5 := hown4'.below hb5
          obtain ⟨A5, c5, rfl, _, _, hcb5⟩ := hownT5.shape
          have hs5 := hb5.size
          clear e0 e1 e2 e3 e4 f4'
          go_wp2_with (first | (at_builtin; refine app_any rfl (.tmp 69) (.tmp 75) rfl (w.heap.size + 1) _ _ rfl hown5 _ A5 c5 J rfl hcb5 (by omega) (by omega) ?_; intro v6 w6 hown6 hg6))
          have hB6 := (hB4.trans (hb5.mono (by omega))).trans (hg6.below hown5 (by omega))
          go_roundw
          case rel => exact ⟨q + 1, _, _, rfl, by go_num, by omega, HQ3, hown6, hB6⟩
          case measure => simp [RowKit.intOf]; omega
        · have hqI : ¬ (q : Int) < (is.length : Int) := by omega
          have HE : Hid (cur ++ [0] = X) := Lib.hid (by rw [← HQ.out, keyRows_end _ _ _ _ (by rw [js_len]; omega), List.nil_append])
          have hlC : cur.length + 1 ≤ 9000000000000 := by have h1 := HE.out; have h2 := HXL.out; rw [← h1] at h2; simpa using h2
          clear HQ ih
          go_wp2_with (first | (at_builtin; refine app_one rfl (.tmp 77) (.tmp 78) rfl (w.heap.size + 1) _ _ _ rfl hown rfl (by omega) (by omega) ?_; intro v2 w2 hown2 hg2))
          go_ret
          exact ⟨_, rfl, (own_as hown2 HE.out).mono (Nat.le_succ _), hB0.trans ((hB.trans (hg2.below hown (by omega))).mono (Nat.le_succ _))⟩
end Go.Proofs.YtpnbmgfnnmmokaaDoor
