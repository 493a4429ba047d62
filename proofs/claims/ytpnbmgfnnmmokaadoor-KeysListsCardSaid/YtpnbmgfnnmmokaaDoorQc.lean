/-
  The contracts of keys.put and keys.Key.
-/
import Derived.Test.YtpnbmgfnnmmokaaDoorQb
import Derived.LoopTactic
import Derived.StillTailTactics
set_option linter.unusedVariables false
namespace Go.Proofs.YtpnbmgfnnmmokaaDoor
open Go.RowKit

theorem xor_low (x : Nat) (h : x < 9223372036854775808) : x ^^^ 9223372036854775808 = x + 9223372036854775808 := by
  have e : (9223372036854775808 : Nat) = 2 ^ 63 := by decide
  rw [e] at h ⊢
  rw [Nat.add_comm, show 2 ^ 63 + x = 2 ^ 63 * 1 + x by omega, Nat.two_pow_add_eq_or_of_lt h, Nat.mul_one]
  refine Nat.eq_of_testBit_eq fun i => ?_
  rw [Nat.testBit_xor, Nat.testBit_or]
  by_cases hi : i = 63
  · subst hi
    rw [Nat.testBit_lt_two_pow h]; simp
  · have : (2 ^ 63).testBit i = false := by rw [Nat.testBit_two_pow]; simp; omega
    rw [this]; simp
theorem xor_top (n : Int) (h : -9223372036854775808 ≤ n ∧ n ≤ 9223372036854775807) : bits .xor .u64 (IntKind.u64.wrap n) 9223372036854775808 = ordN n := by
  unfold ordN
  have hw : IntKind.u64.wrap n = if n < 0 then n + 18446744073709551616 else n := by
    rw [IntKind.wrap_u64]
    split <;> omega
  rw [hw]
  split
  · rw [u64_xor _ _ (by omega) (by omega) (by omega) (by omega)]
    obtain ⟨m, hm⟩ : ∃ m : Nat, n + 18446744073709551616 = ((m + 9223372036854775808 : Nat) : Int) := ⟨(n + 9223372036854775808).toNat, by omega⟩
    rw [hm, Int.toNat_natCast, show (9223372036854775808 : Int).toNat = 9223372036854775808 from rfl, ← xor_low m (by omega), Nat.xor_assoc, Nat.xor_self, Nat.xor_zero]
    omega
  · rw [u64_xor _ _ (by omega) (by omega) (by omega) (by omega)]
    obtain ⟨m, rfl⟩ : ∃ m : Nat, n = (m : Int) := ⟨n.toNat, by omega⟩
    rw [Int.toNat_natCast, show (9223372036854775808 : Int).toNat = 9223372036854775808 from rfl, xor_low m (by omega)]
    omega
theorem keyRows_end (ob : Bool) (is : List JV) (ns : List ByteArray) (q : Nat) (h : is.length ≤ q) : keyRows ob (is.drop q) (ns.drop q) = [] := by
  rw [List.drop_of_length_le h, keyRows]
theorem undrewK {w w' : World} {v v' : Value} (h : Grew w.drew v w' v') : Grew w v w' v' := ⟨⟨h.by_.os, h.by_.tape, h.by_.output, h.by_.size, h.by_.block⟩, h.at_⟩
theorem js_len (is : List LV) : (LV.js is).length = is.length := by rw [LV.js_map, List.length_map]
theorem js_at {is : List LV} {q : Nat} (h : q < is.length) (h' : q < (LV.js is).length) : (LV.js is)[q] = is[q].j := by simp [LV.js_map]
theorem keyRows_step (ob : Bool) (is : List LV) (ns : List ByteArray) (q : Nat) (h : q < is.length) : keyRows ob ((LV.js is).drop q) (ns.drop q) = (if ob = true then 1 :: textK (ns.getD q ⟨#[]⟩) else []) ++ keyJ is[q].j ++ keyRows ob ((LV.js is).drop (q + 1)) (ns.drop (q + 1)) := by
  rw [keyRows_drop ob _ ns q (by rw [js_len]; exact h), js_at h]
theorem formed_sizesK {k n : Int} {s : ByteArray} {ns : List ByteArray} {is : List JV} {left : Nat} (hf : FormedP (.mk k n s ns is) left) : ns.length ≤ 24 ∧ is.length ≤ 24 ∧ (k = 6 → ns.length = is.length) ∧ ∀ t ∈ ns, t.size ≤ 60 := by
  rw [FormedP] at hf
  obtain ⟨_, ⟨h0, h1, _, _, _, h5, h6⟩, hn, _⟩ := hf
  have ht : ∀ t ∈ ns, t.size ≤ 60 := fun t ht => by
    obtain ⟨i, hi', rfl⟩ := List.mem_iff_getElem.1 ht
    exact (hn i hi').1.1
  by_cases hk : k < 5
  · have := h5 hk; exact ⟨by omega, by omega, by omega, ht⟩
  · have := h6 (by omega)
    by_cases hk6 : k = 6
    · have := this.2.1 hk6; exact ⟨by omega, by omega, by omega, ht⟩
    · have := this.2.2 hk6; exact ⟨by omega, by omega, by omega, ht⟩
theorem formed_itemK {k n : Int} {s : ByteArray} {An : Option Addr} {ns : List ByteArray} {cn : Nat} {Ai : Option Addr} {is : List LV} {ci : Nat} {left : Nat} (hf : FormedP (LV.mk k n s An ns cn Ai is ci).j left) {i : Nat} (hi : i < is.length) : FormedP is[i].j (left - 1) := by
  rw [LV.j, FormedP] at hf
  refine formedAll_iff.1 hf.2.2.2 _ ?_
  rw [LV.js_map]
  exact List.mem_map.2 ⟨_, List.getElem_mem hi, rfl⟩
theorem grown_blk {w w' : World} {base g : Nat} {v v' : Value} {l : List Int} {t : TypeId} {cs : Array Value} (hF : Blk w g t cs) (ho : Own w base v l) (hne : 5 ≠ t) (hg : Grew w v w' v') : Blk w' g t cs := hF.grown hg.by_ (ho.other hF hne)

set_option maxRecDepth 8000 in
set_option maxHeartbeats 16000000 in
theorem kput_any (w0 : World) : ∀ (m : Nat) (v : LV) (left : Nat) (bv : Value) (l : List Int) (w : World), v.sz < m → v.At w0 → Below w0.heap.size w0 w → Own w w0.heap.size bv l → FormedP v.j left → l.length + (keyJ v.j).length ≤ 9000000000000 →
    Calls Tryd.prog 24 #[bv, v.val] w fun e w' => ∃ v', e = .returned v' ∧ Own w' w0.heap.size v' (l ++ keyJ v.j) ∧ Grew w bv w' v' := by
  intro m
  induction m with
  | zero => intro v left bv l w hm; omega
  | succ m ih =>
    intro v left bv l w hm hv hbW hown0 hf hlen
    obtain ⟨k, n, s, An, ns, cn, Ai, is, ci⟩ := v
    obtain ⟨W, hW⟩ : ∃ W, W = w.alloc (.cells (valBlk k n s An ns cn Ai is ci) 25) := ⟨_, rfl⟩
    have hF : Blk W w.heap.size 25 (valBlk k n s An ns cn Ai is ci) := by rw [hW]; exact Blk.new w _ _
    have hownW : Own W w0.heap.size bv l := by rw [hW]; exact hown0.alloc _
    have hGW : Grew w bv W bv := by rw [hW]; exact Grew.alloc _
    have hsW : w0.heap.size ≤ W.heap.size := Nat.le_trans hbW.size hGW.by_.size
    have HBW : Hid (Below w0.heap.size w0 W) := Lib.hid (hbW.trans ((hGW.below hown0 hbW.size)))
    have HV := Lib.hid hv
    have HZ := Lib.hid (formed_sizesK hf)
    have hbd : (-9223372036854775808 ≤ k ∧ k ≤ 9223372036854775807) ∧ (-9223372036854775808 ≤ n ∧ n ≤ 9223372036854775807) ∧ (is.length ≤ ci ∧ ci ≤ 9223372036854775807) ∧ (ns.length ≤ cn ∧ cn ≤ 9223372036854775807) := by
      unfold LV.At at hv; exact ⟨hv.2.2.2.1, hv.2.2.2.2.1, hv.2.2.2.2.2.2.2.2, hv.2.2.2.2.2.2.2.1⟩
    obtain ⟨_, hnb, hci, hcn⟩ := hbd
    have HF := Lib.hid hf
    have hkk : 0 ≤ k ∧ k ≤ 6 := by rw [LV.j, FormedP] at hf; exact ⟨hf.2.1.1, hf.2.1.2.1⟩
    have hss : s.size ≤ 60 := by rw [LV.j, FormedP] at hf; exact hf.2.1.2.2.2.2.1.1
    obtain ⟨X, hX⟩ : ∃ X, l ++ keyJ (LV.mk k n s An ns cn Ai is ci).j = X := ⟨_, rfl⟩
    have HXL : Hid (X.length ≤ 9000000000000) := Lib.hid (by rw [← hX, List.length_append]; exact hlen)
    rw [hX]
    have HX : Hid ((l ++ [k + 1]) ++ (if k = 3 then be64 (ordN n) else if k = 4 then textK s else if k = 5 ∨ k = 6 then keyRows (decide (k = 6)) (LV.js is) ns ++ [0] else []) = X) := Lib.hid (by rw [← hX, LV.j, keyJ]; simp)
    have HN : Hid (bits .xor .u64 (IntKind.u64.wrap n) 9223372036854775808 = ordN n) := Lib.hid (xor_top n hnb)
    have HON : Hid (0 ≤ ordN n ∧ ordN n ≤ 18446744073709551615) := Lib.hid (by unfold ordN; omega)
    have hl0 : l.length + 1 ≤ 9000000000000 := by have h1 := HX.out; have h2 := HXL.out; rw [← h1] at h2; simp at h2; omega
    have HW := Lib.hid hW
    have HGW := Lib.hid hGW
    clear hW hv hf hX hlen hown0 hGW hnb hbW
    show Calls Tryd.prog 24 #[bv, .agg (valBlk k n s An ns cn Ai is ci)] w _
    have hkc : k = 0 ∨ k = 1 ∨ k = 2 ∨ k = 3 ∨ k = 4 ∨ k = 5 ∨ k = 6 := by omega
    obtain ⟨c0, c1, c2, c3, c4⟩ : W.cell? ⟨w.heap.size, 0, none⟩ = some (.int .i64 k) ∧ W.cell? ⟨w.heap.size, 1, none⟩ = some (.int .i64 n) ∧ W.cell? ⟨w.heap.size, 2, none⟩ = some (.string s) ∧ W.cell? ⟨w.heap.size, 3, none⟩ = some (.slice An ns.length cn) ∧ W.cell? ⟨w.heap.size, 4, none⟩ = some (.slice Ai is.length ci) := ⟨hF.cell 0, hF.cell 1, hF.cell 2, hF.cell 3, hF.cell 4⟩
    rcases hkc with rfl | rfl | rfl | rfl | rfl | rfl | rfl
    · have HE : Hid ((l ++ [(0 : Int) + 1]) ++ [] = X) := HX
      clear HX ih
      go_enter Tryd.func24, Tryd.ntmps24
      go_upto_region 1 with fail
      rw [← HW.out]
      go_wp2_with (first | (at_builtin; refine app_one rfl (.tmp 7) (.tmp 12) rfl w0.heap.size bv l _ rfl hownW rfl (by omega) hsW ?_; intro v1 w1 hown1 hg1; obtain ⟨d0, d1, d2, d3, d4⟩ : w1.cell? ⟨w.heap.size, 0, none⟩ = some (.int .i64 0) ∧ w1.cell? ⟨w.heap.size, 1, none⟩ = some (.int .i64 n) ∧ w1.cell? ⟨w.heap.size, 2, none⟩ = some (.string s) ∧ w1.cell? ⟨w.heap.size, 3, none⟩ = some (.slice An ns.length cn) ∧ w1.cell? ⟨w.heap.size, 4, none⟩ = some (.slice Ai is.length ci) := by have hF1 := grown_blk hF hownW (by decide) hg1; exact ⟨hF1.cell 0, hF1.cell 1, hF1.cell 2, hF1.cell 3, hF1.cell 4⟩))
      go_ret
      exact ⟨_, rfl, own_as hown1 (by rw [← HE.out]; simp), HGW.out.trans hg1⟩
    · have HE : Hid ((l ++ [(1 : Int) + 1]) ++ [] = X) := HX
      clear HX ih
      go_enter Tryd.func24, Tryd.ntmps24
      go_upto_region 1 with fail
      rw [← HW.out]
      go_wp2_with (first | (at_builtin; refine app_one rfl (.tmp 7) (.tmp 12) rfl w0.heap.size bv l _ rfl hownW rfl (by omega) hsW ?_; intro v1 w1 hown1 hg1; obtain ⟨d0, d1, d2, d3, d4⟩ : w1.cell? ⟨w.heap.size, 0, none⟩ = some (.int .i64 1) ∧ w1.cell? ⟨w.heap.size, 1, none⟩ = some (.int .i64 n) ∧ w1.cell? ⟨w.heap.size, 2, none⟩ = some (.string s) ∧ w1.cell? ⟨w.heap.size, 3, none⟩ = some (.slice An ns.length cn) ∧ w1.cell? ⟨w.heap.size, 4, none⟩ = some (.slice Ai is.length ci) := by have hF1 := grown_blk hF hownW (by decide) hg1; exact ⟨hF1.cell 0, hF1.cell 1, hF1.cell 2, hF1.cell 3, hF1.cell 4⟩))
      go_ret
      exact ⟨_, rfl, own_as hown1 (by rw [← HE.out]; simp), HGW.out.trans hg1⟩
    · have HE : Hid ((l ++ [(2 : Int) + 1]) ++ [] = X) := HX
      clear HX ih
      go_enter Tryd.func24, Tryd.ntmps24
      go_upto_region 1 with fail
      rw [← HW.out]
      go_wp2_with (first | (at_builtin; refine app_one rfl (.tmp 7) (.tmp 12) rfl w0.heap.size bv l _ rfl hownW rfl (by omega) hsW ?_; intro v1 w1 hown1 hg1; obtain ⟨d0, d1, d2, d3, d4⟩ : w1.cell? ⟨w.heap.size, 0, none⟩ = some (.int .i64 2) ∧ w1.cell? ⟨w.heap.size, 1, none⟩ = some (.int .i64 n) ∧ w1.cell? ⟨w.heap.size, 2, none⟩ = some (.string s) ∧ w1.cell? ⟨w.heap.size, 3, none⟩ = some (.slice An ns.length cn) ∧ w1.cell? ⟨w.heap.size, 4, none⟩ = some (.slice Ai is.length ci) := by have hF1 := grown_blk hF hownW (by decide) hg1; exact ⟨hF1.cell 0, hF1.cell 1, hF1.cell 2, hF1.cell 3, hF1.cell 4⟩))
      go_ret
      exact ⟨_, rfl, own_as hown1 (by rw [← HE.out]; simp), HGW.out.trans hg1⟩
    · have HE : Hid ((l ++ [(3 : Int) + 1]) ++ be64 (ordN n) = X) := HX
      clear HX ih
      have hn := HN.out
      go_enter Tryd.func24, Tryd.ntmps24
      go_upto_region 1 with fail
      rw [← HW.out]
      go_wp2_with (first | (at_builtin; refine app_one rfl (.tmp 7) (.tmp 12) rfl w0.heap.size bv l _ rfl hownW rfl (by omega) hsW ?_; intro v1 w1 hown1 hg1; obtain ⟨d0, d1, d2, d3, d4⟩ : w1.cell? ⟨w.heap.size, 0, none⟩ = some (.int .i64 3) ∧ w1.cell? ⟨w.heap.size, 1, none⟩ = some (.int .i64 n) ∧ w1.cell? ⟨w.heap.size, 2, none⟩ = some (.string s) ∧ w1.cell? ⟨w.heap.size, 3, none⟩ = some (.slice An ns.length cn) ∧ w1.cell? ⟨w.heap.size, 4, none⟩ = some (.slice Ai is.length ci) := by have hF1 := grown_blk hF hownW (by decide) hg1; exact ⟨hF1.cell 0, hF1.cell 1, hF1.cell 2, hF1.cell 3, hF1.cell 4⟩))
      refine (append64_any v1 _ (ordN n) w1 w0.heap.size HON.out.1 HON.out.2 (by simp; omega) hown1 (Nat.le_trans hsW hg1.by_.size)).mono ?_
      rintro e w2 ⟨v2, rfl, hown2, hg2⟩
      go_wp2
      go_ret
      exact ⟨_, rfl, own_as hown2 HE.out, HGW.out.trans (hg1.trans hg2)⟩
    · have HE : Hid ((l ++ [(4 : Int) + 1]) ++ textK s = X) := HX
      clear HX ih
      go_enter Tryd.func24, Tryd.ntmps24
      go_upto_region 1 with fail
      rw [← HW.out]
      go_wp2_with (first | (at_builtin; refine app_one rfl (.tmp 7) (.tmp 12) rfl w0.heap.size bv l _ rfl hownW rfl (by omega) hsW ?_; intro v1 w1 hown1 hg1; obtain ⟨d0, d1, d2, d3, d4⟩ : w1.cell? ⟨w.heap.size, 0, none⟩ = some (.int .i64 4) ∧ w1.cell? ⟨w.heap.size, 1, none⟩ = some (.int .i64 n) ∧ w1.cell? ⟨w.heap.size, 2, none⟩ = some (.string s) ∧ w1.cell? ⟨w.heap.size, 3, none⟩ = some (.slice An ns.length cn) ∧ w1.cell? ⟨w.heap.size, 4, none⟩ = some (.slice Ai is.length ci) := by have hF1 := grown_blk hF hownW (by decide) hg1; exact ⟨hF1.cell 0, hF1.cell 1, hF1.cell 2, hF1.cell 3, hF1.cell 4⟩))
      refine (text_app v1 _ s w1 w0.heap.size (by simp; omega) hown1 (Nat.le_trans hsW hg1.by_.size) (by omega)).mono ?_
      rintro e w2 ⟨v2, rfl, hown2, hg2⟩
      go_wp2
      go_ret
      exact ⟨_, rfl, own_as hown2 HE.out, HGW.out.trans (hg1.trans hg2)⟩
    · have HE : Hid ((l ++ [(5 : Int) + 1]) ++ (keyRows false ((LV.js is).drop 0) (ns.drop 0) ++ [0]) = X) := HX
      clear HX
      go_enter Tryd.func24, Tryd.ntmps24
      go_upto_region 1 with fail
      rw [← HW.out]
      go_wp2_with (first | (at_builtin; refine app_one rfl (.tmp 7) (.tmp 12) rfl w0.heap.size bv l _ rfl hownW rfl (by omega) hsW ?_; intro v1 w1 hown1 hg1; obtain ⟨d0, d1, d2, d3, d4⟩ : w1.cell? ⟨w.heap.size, 0, none⟩ = some (.int .i64 5) ∧ w1.cell? ⟨w.heap.size, 1, none⟩ = some (.int .i64 n) ∧ w1.cell? ⟨w.heap.size, 2, none⟩ = some (.string s) ∧ w1.cell? ⟨w.heap.size, 3, none⟩ = some (.slice An ns.length cn) ∧ w1.cell? ⟨w.heap.size, 4, none⟩ = some (.slice Ai is.length ci) := by have hF1 := grown_blk hF hownW (by decide) hg1; exact ⟨hF1.cell 0, hF1.cell 1, hF1.cell 2, hF1.cell 3, hF1.cell 4⟩))
      have hF1 := grown_blk hF hownW (by decide) hg1
      clear d0 d1 d2 d3 d4 c0 c1 c2 c3 c4
      have hlenN : ((l ++ [(5 : Int) + 1]).length) = l.length + 1 := by simp
      go_loopw [0, 36] (fun u i wr => ∃ (q : Nat) (cur : List Int) (uu : Value), uu = u ∧ i = .int .i64 q ∧ q ≤ is.length ∧ Hid (cur ++ (keyRows false ((LV.js is).drop q) (ns.drop q) ++ [0]) = X) ∧ Own wr w0.heap.size u cur ∧ Grew W bv wr u ∧ Blk wr w.heap.size 25 (valBlk 5 n s An ns cn Ai is ci))
        (fun _ i _ => is.length - (RowKit.intOf i).toNat)
      case atStart => exact ⟨0, _, _, rfl, rfl, Nat.zero_le _, HE, hown1, hg1, hF1⟩
      case round =>
        obtain ⟨q, cur, u, rfl, rfl, hq, HQ, hown, hg, hFr⟩ := hrel
        have hsz := Nat.le_trans hsW hg.by_.size
        clear HE hlenN hown1 hg1 hF1
        by_cases hlt : q < is.length
        · have hqI : (q : Int) < (is.length : Int) := by omega
          have hbr := HBW.out.trans ((hg.below hownW hsW))
          obtain ⟨b, off, rfl, hb, hit, hcell0⟩ := HV.out.item hlt
          have HIT := Lib.hid hit
          have HFI := Lib.hid (formed_itemK HF.out hlt)
          have hsz2 := LV.item_size (k := 5) (n := n) (s := s) (An := An) (ns := ns) (cn := cn) (Ai := some ⟨b, off, none⟩) (ci := ci) hlt
          have HQ2 : Hid (cur ++ (((if false = true then 1 :: textK (ns.getD q ⟨#[]⟩) else []) ++ keyJ is[q].j ++ keyRows false ((LV.js is).drop (q + 1)) (ns.drop (q + 1))) ++ [0]) = X) := Lib.hid (by rw [← keyRows_step false is ns q hlt]; exact HQ.out)
          have HC : Hid (∀ (u : Value) (cur : List Int) (w : World), Below w0.heap.size w0 w → Own w w0.heap.size u cur → cur.length + (keyJ is[q].j).length ≤ 9000000000000 → Calls Tryd.prog 24 #[u, (is[q]).val] w fun e w' => ∃ v', e = .returned v' ∧ Own w' w0.heap.size v' (cur ++ keyJ is[q].j) ∧ Grew w u w' v') := Lib.hid fun u cur w h1 h2 h3 => ih is[q] (left - 1) u cur w (by omega) HIT.out h1 h2 HFI.out h3
          have hcell : ∀ j u, (is[q]).cells[j]? = some u → wr.cell? ⟨b, off + q * 5 + j, none⟩ = some u := fun j u hu => (hbr.cell (p := ⟨b, off + q * 5 + j, none⟩) hb).trans (hcell0 j u hu)
          obtain ⟨x, hx⟩ : ∃ x, is[q] = x := ⟨_, rfl⟩
          rw [hx] at HC hcell HQ2
          clear HIT HFI hsz2 hcell0 hit HQ hx
          obtain ⟨k', n', s', An', ns', cn', Ai', is', ci'⟩ := x
          change Hid (∀ (u : Value) (cur : List Int) (w : World), _ → _ → _ → Calls Tryd.prog 24 #[u, .agg #[.int .i64 k', .int .i64 n', .string s', .slice An' ns'.length cn', .slice Ai' is'.length ci']] w _) at HC
          have e0 : wr.cell? ⟨b, off + q * 5, none⟩ = some (.int .i64 k') := hcell 0 _ rfl
          have e1 : wr.cell? ⟨b, off + q * 5 + 1, none⟩ = some (.int .i64 n') := hcell 1 _ rfl
          have e2 : wr.cell? ⟨b, off + q * 5 + 2, none⟩ = some (.string s') := hcell 2 _ rfl
          have e3 : wr.cell? ⟨b, off + q * 5 + 3, none⟩ = some (.slice An' ns'.length cn') := hcell 3 _ rfl
          have e4 : wr.cell? ⟨b, off + q * 5 + 4, none⟩ = some (.slice Ai' is'.length ci') := hcell 4 _ rfl
          have f0 : wr.cell? ⟨w.heap.size, 0, none⟩ = some (.int .i64 5) := hFr.cell 0
          clear hcell ih
          obtain ⟨J, hJ⟩ : ∃ J, keyJ (LV.mk k' n' s' An' ns' cn' Ai' is' ci').j = J := ⟨_, rfl⟩
          rw [hJ] at HQ2 HC
          clear hJ
          have HQ3 : Hid ((cur ++ J) ++ (keyRows false ((LV.js is).drop (q + 1)) (ns.drop (q + 1)) ++ [0]) = X) := Lib.hid (by rw [← HQ2.out]; simp)
          have hlJ : cur.length + J.length ≤ 9000000000000 := by have h1 := HQ3.out; have h2 := HXL.out; rw [← h1] at h2; simp at h2; omega
          obtain ⟨w2, hw2⟩ : ∃ w2, w2 = wr.alloc (.cells #[.int .i64 k', .int .i64 n', .string s', .slice An' ns'.length cn', .slice Ai' is'.length ci'] 25) := ⟨_, rfl⟩
          have hIB : Blk w2 wr.heap.size 25 #[.int .i64 k', .int .i64 n', .string s', .slice An' ns'.length cn', .slice Ai' is'.length ci'] := by rw [hw2]; exact Blk.new wr _ _
          have hF2 : Blk w2 w.heap.size 25 (valBlk 5 n s An ns cn (some ⟨b, off, none⟩) is ci) := by rw [hw2]; exact hFr.alloc _
          have hown2 : Own w2 w0.heap.size u cur := by rw [hw2]; exact hown.alloc _
          have hb2 : Below w0.heap.size w0 w2 := by rw [hw2]; exact hbr.alloc hsz _
          have hg2 : Grew wr u w2 u := by rw [hw2]; exact Grew.alloc _
          obtain ⟨g0, g1, g2, g3, g4⟩ : w2.cell? ⟨wr.heap.size, 0, none⟩ = some (.int .i64 k') ∧ w2.cell? ⟨wr.heap.size, 1, none⟩ = some (.int .i64 n') ∧ w2.cell? ⟨wr.heap.size, 2, none⟩ = some (.string s') ∧ w2.cell? ⟨wr.heap.size, 3, none⟩ = some (.slice An' ns'.length cn') ∧ w2.cell? ⟨wr.heap.size, 4, none⟩ = some (.slice Ai' is'.length ci') := ⟨hIB.cell 0, hIB.cell 1, hIB.cell 2, hIB.cell 3, hIB.cell 4⟩
          have f0' : w2.cell? ⟨w.heap.size, 0, none⟩ = some (.int .i64 5) := hF2.cell 0
          have HW2 := Lib.hid hw2
          clear hw2 HQ2
          go_upto_region 12 with fail
          rw [← HW2.out]
          go_wp2_with fail
          (with_reducible refine (HC.out _ _ _ hb2 hown2 hlJ).mono ?_)
          rintro e w4 ⟨v4, rfl, hown4, hg4⟩
          have hF4 := grown_blk hF2 hown2 (by decide) hg4
          have hgF := hg.trans (hg2.trans hg4)
          clear g0 g1 g2 g3 g4 f0' f0 e0 e1 e2 e3 e4
          go_wp2
          go_roundw
          case rel => exact ⟨q + 1, _, _, rfl, by go_num, by omega, HQ3, hown4, hgF, hF4⟩
          case measure => simp [RowKit.intOf]; omega
        · have hqI : ¬ (q : Int) < (is.length : Int) := by omega
          have HE : Hid (cur ++ [0] = X) := Lib.hid (by rw [← HQ.out, keyRows_end _ _ _ _ (by rw [js_len]; omega), List.nil_append])
          have hlC : cur.length + 1 ≤ 9000000000000 := by have h1 := HE.out; have h2 := HXL.out; rw [← h1] at h2; simpa using h2
          clear HQ ih
          go_wp2_with (first | (at_builtin; refine app_one rfl (.tmp 57) (.tmp 58) rfl w0.heap.size _ _ _ rfl hown rfl (by omega) hsz ?_; intro v2 w2 hown2 hg2))
          go_ret
          exact ⟨_, rfl, own_as hown2 HE.out, HGW.out.trans (hg.trans hg2)⟩
    · have HE : Hid ((l ++ [(6 : Int) + 1]) ++ (keyRows true ((LV.js is).drop 0) (ns.drop 0) ++ [0]) = X) := HX
      clear HX
      go_enter Tryd.func24, Tryd.ntmps24
      go_upto_region 1 with fail
      rw [← HW.out]
      go_wp2_with (first | (at_builtin; refine app_one rfl (.tmp 7) (.tmp 12) rfl w0.heap.size bv l _ rfl hownW rfl (by omega) hsW ?_; intro v1 w1 hown1 hg1; obtain ⟨d0, d1, d2, d3, d4⟩ : w1.cell? ⟨w.heap.size, 0, none⟩ = some (.int .i64 6) ∧ w1.cell? ⟨w.heap.size, 1, none⟩ = some (.int .i64 n) ∧ w1.cell? ⟨w.heap.size, 2, none⟩ = some (.string s) ∧ w1.cell? ⟨w.heap.size, 3, none⟩ = some (.slice An ns.length cn) ∧ w1.cell? ⟨w.heap.size, 4, none⟩ = some (.slice Ai is.length ci) := by have hF1 := grown_blk hF hownW (by decide) hg1; exact ⟨hF1.cell 0, hF1.cell 1, hF1.cell 2, hF1.cell 3, hF1.cell 4⟩))
      have hF1 := grown_blk hF hownW (by decide) hg1
      clear d0 d1 d2 d3 d4 c0 c1 c2 c3 c4
      have hlenN : ((l ++ [(6 : Int) + 1]).length) = l.length + 1 := by simp
      go_loopw [0, 36] (fun u i wr => ∃ (q : Nat) (cur : List Int) (uu : Value), uu = u ∧ i = .int .i64 q ∧ q ≤ is.length ∧ Hid (cur ++ (keyRows true ((LV.js is).drop q) (ns.drop q) ++ [0]) = X) ∧ Own wr w0.heap.size u cur ∧ Grew W bv wr u ∧ Blk wr w.heap.size 25 (valBlk 6 n s An ns cn Ai is ci))
        (fun _ i _ => is.length - (RowKit.intOf i).toNat)
      case atStart => exact ⟨0, _, _, rfl, rfl, Nat.zero_le _, HE, hown1, hg1, hF1⟩
      case round =>
        obtain ⟨q, cur, u, rfl, rfl, hq, HQ, hown, hg, hFr⟩ := hrel
        have hsz := Nat.le_trans hsW hg.by_.size
        clear HE hlenN hown1 hg1 hF1
        by_cases hlt : q < is.length
        · have hqI : (q : Int) < (is.length : Int) := by omega
          have hbr := HBW.out.trans ((hg.below hownW hsW))
          obtain ⟨b, off, rfl, hb, hit, hcell0⟩ := HV.out.item hlt
          have HIT := Lib.hid hit
          have HFI := Lib.hid (formed_itemK HF.out hlt)
          have hsz2 := LV.item_size (k := 6) (n := n) (s := s) (An := An) (ns := ns) (cn := cn) (Ai := some ⟨b, off, none⟩) (ci := ci) hlt
          have HQ2 : Hid (cur ++ (((if true = true then 1 :: textK (ns.getD q ⟨#[]⟩) else []) ++ keyJ is[q].j ++ keyRows true ((LV.js is).drop (q + 1)) (ns.drop (q + 1))) ++ [0]) = X) := Lib.hid (by rw [← keyRows_step true is ns q hlt]; exact HQ.out)
          have HC : Hid (∀ (u : Value) (cur : List Int) (w : World), Below w0.heap.size w0 w → Own w w0.heap.size u cur → cur.length + (keyJ is[q].j).length ≤ 9000000000000 → Calls Tryd.prog 24 #[u, (is[q]).val] w fun e w' => ∃ v', e = .returned v' ∧ Own w' w0.heap.size v' (cur ++ keyJ is[q].j) ∧ Grew w u w' v') := Lib.hid fun u cur w h1 h2 h3 => ih is[q] (left - 1) u cur w (by omega) HIT.out h1 h2 HFI.out h3
          have hcell : ∀ j u, (is[q]).cells[j]? = some u → wr.cell? ⟨b, off + q * 5 + j, none⟩ = some u := fun j u hu => (hbr.cell (p := ⟨b, off + q * 5 + j, none⟩) hb).trans (hcell0 j u hu)
          obtain ⟨x, hx⟩ : ∃ x, is[q] = x := ⟨_, rfl⟩
          rw [hx] at HC hcell HQ2
          clear HIT HFI hsz2 hcell0 hit HQ hx
          obtain ⟨k', n', s', An', ns', cn', Ai', is', ci'⟩ := x
          change Hid (∀ (u : Value) (cur : List Int) (w : World), _ → _ → _ → Calls Tryd.prog 24 #[u, .agg #[.int .i64 k', .int .i64 n', .string s', .slice An' ns'.length cn', .slice Ai' is'.length ci']] w _) at HC
          have e0 : wr.cell? ⟨b, off + q * 5, none⟩ = some (.int .i64 k') := hcell 0 _ rfl
          have e1 : wr.cell? ⟨b, off + q * 5 + 1, none⟩ = some (.int .i64 n') := hcell 1 _ rfl
          have e2 : wr.cell? ⟨b, off + q * 5 + 2, none⟩ = some (.string s') := hcell 2 _ rfl
          have e3 : wr.cell? ⟨b, off + q * 5 + 3, none⟩ = some (.slice An' ns'.length cn') := hcell 3 _ rfl
          have e4 : wr.cell? ⟨b, off + q * 5 + 4, none⟩ = some (.slice Ai' is'.length ci') := hcell 4 _ rfl
          have f0 : wr.cell? ⟨w.heap.size, 0, none⟩ = some (.int .i64 6) := hFr.cell 0
          clear hcell ih
          obtain ⟨J, hJ⟩ : ∃ J, keyJ (LV.mk k' n' s' An' ns' cn' Ai' is' ci').j = J := ⟨_, rfl⟩
          rw [hJ] at HQ2 HC
          clear hJ
          have hnl : q < ns.length := by have := HZ.out.2.2.1 (by first | rfl | trivial); rw [js_len] at this; omega
          have hnlI : (q : Int) < (ns.length : Int) := by omega
          have hq0 : (0 : Int) ≤ (q : Int) := by omega
          have hnc : ∃ bn on_, An = some ⟨bn, on_, none⟩ ∧ bn < w0.heap.size ∧ w0.cell? ⟨bn, on_ + q, none⟩ = some (.string ns[q]) := by
            have h := HV.out
            unfold LV.At at h
            exact h.1 q (.string ns[q]) (by rw [List.getElem?_map, List.getElem?_eq_getElem hnl]; rfl)
          obtain ⟨bn, on_, rfl, hbn, hnc0⟩ := hnc
          have hgd : ns.getD q ⟨#[]⟩ = ns[q] := by rw [List.getD_eq_getElem?_getD, List.getElem?_eq_getElem hnl]; rfl
          rw [hgd] at HQ2
          have htn : ns[q].size ≤ 60 := HZ.out.2.2.2 _ (List.getElem_mem hnl)
          obtain ⟨tx, htx⟩ : ∃ tx, ns[q] = tx := ⟨_, rfl⟩
          rw [htx] at HQ2 hnc0 htn
          clear htx hgd
          have HQ3 : Hid ((((cur ++ [1]) ++ textK tx) ++ J) ++ (keyRows true ((LV.js is).drop (q + 1)) (ns.drop (q + 1)) ++ [0]) = X) := Lib.hid (by rw [← HQ2.out]; simp)
          have hlJ : ((cur ++ [1]) ++ textK tx).length + J.length ≤ 9000000000000 := by have h1 := HQ3.out; have h2 := HXL.out; rw [← h1] at h2; simp at h2 ⊢; omega
          have hlC : cur.length + 1 ≤ 9000000000000 := by simp at hlJ; omega
          have hlT : (cur ++ [(1 : Int)]).length ≤ 10000000000000 := by simp; omega
          obtain ⟨w2, hw2⟩ : ∃ w2, w2 = wr.alloc (.cells #[.int .i64 k', .int .i64 n', .string s', .slice An' ns'.length cn', .slice Ai' is'.length ci'] 25) := ⟨_, rfl⟩
          have hIB : Blk w2 wr.heap.size 25 #[.int .i64 k', .int .i64 n', .string s', .slice An' ns'.length cn', .slice Ai' is'.length ci'] := by rw [hw2]; exact Blk.new wr _ _
          have hF2 : Blk w2 w.heap.size 25 (valBlk 6 n s (some ⟨bn, on_, none⟩) ns cn (some ⟨b, off, none⟩) is ci) := by rw [hw2]; exact hFr.alloc _
          have hown2 : Own w2 w0.heap.size u cur := by rw [hw2]; exact hown.alloc _
          have hb2 : Below w0.heap.size w0 w2 := by rw [hw2]; exact hbr.alloc hsz _
          have hg2 : Grew wr u w2 u := by rw [hw2]; exact Grew.alloc _
          have hsz2 := hb2.size
          have f0' : w2.cell? ⟨w.heap.size, 0, none⟩ = some (.int .i64 6) := hF2.cell 0
          have f3' : w2.cell? ⟨w.heap.size, 3, none⟩ = some (.slice (some ⟨bn, on_, none⟩) ns.length cn) := hF2.cell 3
          have n2 : w2.cell? ⟨bn, on_ + q, none⟩ = some (.string tx) := (hb2.cell (p := ⟨bn, on_ + q, none⟩) hbn).trans hnc0
          have HW2 := Lib.hid hw2
          clear hw2 HQ2
          go_upto_region 12 with fail
          rw [← HW2.out]
          go_wp2_with fail
          go_region_held3 (fun w' => w'.cell? ⟨w.heap.size, 3, none⟩ = some (.slice (some ⟨bn, on_, none⟩) ns.length cn) ∧ w'.cell? ⟨bn, on_ + q, none⟩ = some (.string tx)) (go_keep)
            (first
              | (refine app_step rfl (.tmp 44) (.tmp 45) rfl w0.heap.size u cur rfl (by exact (hown2.alloc _).drew) _ _ 1 [1] rfl (by exact (cells_new w2 [1]).drew) (by simp; omega) (by simp; omega) ?_; intro v3 w3 hown3 hg3; have hb3 := hg3.below ((hown2.alloc _).drew) (by simp; omega); have y1 : w3.cell? ⟨w.heap.size, 3, none⟩ = some (.slice (some ⟨bn, on_, none⟩) ns.length cn) := (grown_blk ((hF2.alloc _).drew) ((hown2.alloc _).drew) (by decide) hg3).cell 3; have y2 : w3.cell? ⟨bn, on_ + q, none⟩ = some (.string tx) := by (have := hb3.cell (p := ⟨bn, on_ + q, none⟩) hbn; rw [this]; exact (World.cell?_alloc_lt w2 _ _ (by have := hb2.size; show bn < _; omega)).trans n2))
              | (go_at_call 35; refine (text_app v3 (cur ++ [1]) tx w3 w0.heap.size hlT hown3 (by have := hg3.by_.size; simp at this; omega) (by omega)).mono ?_; rintro e w4 ⟨v4, rfl, hown4, hg4⟩; have hb4 := hg4.below hown3 (by have := hb3.size; simp at this; omega); have y3 : w4.cell? ⟨w.heap.size, 3, none⟩ = some (.slice (some ⟨bn, on_, none⟩) ns.length cn) := (grown_blk (grown_blk ((hF2.alloc _).drew) ((hown2.alloc _).drew) (by decide) hg3) hown3 (by decide) hg4).cell 3; have y4 : w4.cell? ⟨bn, on_ + q, none⟩ = some (.string tx) := (hb4.cell (p := ⟨bn, on_ + q, none⟩) hbn).trans y2))
          have hg34 := (((hg.trans hg2).trans (Grew.alloc _)).trans (undrewK hg3)).trans hg4
          have hF4 := grown_blk (grown_blk ((hF2.alloc _).drew) ((hown2.alloc _).drew) (by decide) hg3) hown3 (by decide) hg4
          have hI4 := grown_blk (grown_blk ((hIB.alloc _).drew) ((hown2.alloc _).drew) (by decide) hg3) hown3 (by decide) hg4
          have hb24 : Below w0.heap.size w0 w4 := HBW.out.trans (hg34.below hownW hsW)
          obtain ⟨g0, g1, g2, g3, g4⟩ : w4.cell? ⟨wr.heap.size, 0, none⟩ = some (.int .i64 k') ∧ w4.cell? ⟨wr.heap.size, 1, none⟩ = some (.int .i64 n') ∧ w4.cell? ⟨wr.heap.size, 2, none⟩ = some (.string s') ∧ w4.cell? ⟨wr.heap.size, 3, none⟩ = some (.slice An' ns'.length cn') ∧ w4.cell? ⟨wr.heap.size, 4, none⟩ = some (.slice Ai' is'.length ci') := ⟨hI4.cell 0, hI4.cell 1, hI4.cell 2, hI4.cell 3, hI4.cell 4⟩
          clear y1 y2 y3 y4 f3' n2 f0' f0 e0 e1 e2 e3 e4 hb3 hb4
          go_wp2_with fail
          (with_reducible refine (HC.out _ _ _ hb24 hown4 hlJ).mono ?_)
          rintro e w5 ⟨v5, rfl, hown5, hg5⟩
          have hF5 := grown_blk hF4 hown4 (by decide) hg5
          have hgF := hg34.trans hg5
          clear g0 g1 g2 g3 g4
          go_wp2
          go_roundw
          case rel => exact ⟨q + 1, _, _, rfl, by go_num, by omega, HQ3, hown5, hgF, hF5⟩
          case measure => simp [RowKit.intOf]; omega
        · have hqI : ¬ (q : Int) < (is.length : Int) := by omega
          have HE : Hid (cur ++ [0] = X) := Lib.hid (by rw [← HQ.out, keyRows_end _ _ _ _ (by rw [js_len]; omega), List.nil_append])
          have hlC : cur.length + 1 ≤ 9000000000000 := by have h1 := HE.out; have h2 := HXL.out; rw [← h1] at h2; simpa using h2
          clear HQ ih
          go_wp2_with (first | (at_builtin; refine app_one rfl (.tmp 57) (.tmp 58) rfl w0.heap.size _ _ _ rfl hown rfl (by omega) hsz ?_; intro v2 w2 hown2 hg2))
          go_ret
          exact ⟨_, rfl, own_as hown2 HE.out, HGW.out.trans (hg.trans hg2)⟩
end Go.Proofs.YtpnbmgfnnmmokaaDoor
