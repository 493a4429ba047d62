/-
  The contract of path.put.
-/
import Derived.Test.YtkjjafijmpacpaaDoorWk
import Derived.Test.YtkjjafijmpacpaaDoorCl
import Derived.LoopTactic
import Derived.Deep.Cut
import Derived.Deep.CutBlock
import Derived.Deep.DeepCutAuto
import Derived.Deep.RegionLaw
import Derived.Deep.RegionHeld3
import Derived.Deep.RegionWith
set_option linter.unusedVariables false
namespace Go.Proofs.YtkjjafijmpacpaaDoor
open Go.RowKit

set_option maxRecDepth 8000 in
set_option maxHeartbeats 32000000 in
theorem put_here (st : ByteArray) (v x : LV) (A : Option Addr) (c left : Nat) (w : World) (hv : v.At w) (hx : x.At w) (hf : FormedP v.j left) (hsz : ∀ s ∈ [st], s.size ≤ 2000) (hl : Cells w w.heap.size A (List.map Value.string ([st]))) (hc : ([st]).length ≤ c ∧ c ≤ 9223372036854775807) (hK9 : 0 ≤ placeP v.j st) :
    Calls Tryd.prog 24 #[v.val, .slice A ([st]).length c, x.val] w fun e w' => PutRes v x w.heap.size (putP ([st]) v.j x.j) e w' ∧ Below w.heap.size w w' := by
  obtain ⟨k, n, s, An, ns, cn, Ai, is, ci⟩ := v
  obtain ⟨k2, n2, s2, An2, ns2, cn2, Ai2, is2, ci2⟩ := x
  obtain ⟨W, hW⟩ : ∃ W, W = ((w.alloc (.cells (valBlk k n s An ns cn Ai is ci) 30)).alloc (.cells (valBlk k2 n2 s2 An2 ns2 cn2 Ai2 is2 ci2) 30)).alloc (.cells zeroBlk 30) := ⟨_, rfl⟩
  have hB0 : Below w.heap.size w W := by rw [hW]; exact (((Below.refl _ _).alloc (Nat.le_refl _) _).alloc (by simp) _).alloc (by simp; omega) _
  have hF : Blk W w.heap.size 30 (valBlk k n s An ns cn Ai is ci) := by rw [hW]; exact ((Blk.new w _ _).alloc _).alloc _
  have hG : Blk W (w.heap.size + 1) 30 (valBlk k2 n2 s2 An2 ns2 cn2 Ai2 is2 ci2) := by rw [hW]; exact (Blk.second w _ _ _).alloc _
  have hZ : Blk W (w.heap.size + 2) 30 zeroBlk := by
    rw [hW]
    have := Blk.new ((w.alloc (.cells (valBlk k n s An ns cn Ai is ci) 30)).alloc (.cells (valBlk k2 n2 s2 An2 ns2 cn2 Ai2 is2 ci2) 30)) 30 zeroBlk
    rwa [World.size_alloc, World.size_alloc] at this
  obtain ⟨b0, o0, rfl, hb0, hst⟩ := hl 0 (.string st) rfl
  have HV := Lib.hid hv
  have HXV := Lib.hid hx
  have HL := Lib.hid hl
  have HSZ := Lib.hid hsz
  have HF := Lib.hid hf
  have HC := Lib.hid hc
  have HK9 := Lib.hid hK9
  clear hK9
  obtain ⟨X, hX⟩ : ∃ X, putP ([st]) (LV.mk k n s An ns cn Ai is ci).j (LV.mk k2 n2 s2 An2 ns2 cn2 Ai2 is2 ci2).j = X := ⟨_, rfl⟩
  rw [hX]
  have HX := Lib.hid hX
  obtain ⟨L, hL⟩ : ∃ L, ([st]).length = L := ⟨_, rfl⟩
  rw [hL] at HC ⊢
  have hL1 : L = 0 + 1 := by rw [← hL]; rfl
  obtain ⟨K, hK⟩ : ∃ K, placeP (LV.mk k n s An ns cn Ai is ci).j st = K := ⟨_, rfl⟩
  have HPL : Hid (∀ w', Calm W w' → Calls Tryd.prog 21 #[.agg #[.int .i64 k, .int .i64 n, .string s, .slice An ns.length cn, .slice Ai is.length ci], .string st] w' fun e w'' => e = .returned (.int .i64 K) ∧ Below w'.heap.size w' w'') := Lib.hid fun w' hw' => by
    rw [← hK]
    exact place_any _ _ _ ((hv.below hB0 _).below hw' _)
  have HK := Lib.hid hK
  have HLL := Lib.hid hL1
  have hL0 : (0 : Int) < (L : Int) := by omega
  have hL0N : 0 < L := by omega
  have HW := Lib.hid hW
  have lF := hF.lt
  have lG := hG.lt
  have lZ := hZ.lt
  have hst0 : W.cell? ⟨b0, o0, none⟩ = some (.string st) := (hB0.cell (p := ⟨b0, o0, none⟩) hb0).trans hst
  have hbW : b0 < W.heap.size := Nat.lt_of_lt_of_le hb0 hB0.size
  have HS : Hid (∀ w', Calm W w' → (w'.cell? ⟨w.heap.size, 0, none⟩ = some (.int .i64 k) ∧ w'.cell? ⟨w.heap.size, 1, none⟩ = some (.int .i64 n) ∧ w'.cell? ⟨w.heap.size, 2, none⟩ = some (.string s) ∧ w'.cell? ⟨w.heap.size, 3, none⟩ = some (.slice An ns.length cn) ∧ w'.cell? ⟨w.heap.size, 4, none⟩ = some (.slice Ai is.length ci)) ∧ w'.cell? ⟨b0, o0, none⟩ = some (.string st)) := Lib.hid fun w' hw' => by
    have h1 := hF.below hw' lF
    exact ⟨⟨h1.cell 0, h1.cell 1, h1.cell 2, h1.cell 3, h1.cell 4⟩, (Below.cell (p := ⟨b0, o0, none⟩) hw' hbW).trans hst0⟩
  clear hW hv hx hl hsz hf hX hL hL1 hK hst hst0 hc
  show Calls Tryd.prog 24 #[.agg (valBlk k n s An ns cn Ai is ci), .slice (some ⟨b0, o0, none⟩) L c, .agg (valBlk k2 n2 s2 An2 ns2 cn2 Ai2 is2 ci2)] w _
  go_enter Tryd.func24, Tryd.ntmps24
  go_wp2
  rw [← HW.out]
  refine region_calm (by kernel_rfl) (by kernel_rfl) ?_
  repeat (first
    | go_big_quiet_skip
    | (go_big_quiet_want
       apply quiet_at
       · intro w' hw'
         (obtain ⟨⟨c0, c1, c2, c3, c4⟩, d0⟩ := HS.out _ (by assumption))
         go_simp
         first
           | done
           | exact rfl
           | ((go_at_call 21; (with_reducible refine (HPL.out _ (by assumption)).mono ?_); rintro e w9 ⟨h1, h2⟩; exact ⟨h1, Below.trans (by assumption) (h2.mono (Below.size (by assumption)))⟩))
       (try simp only [Act.put, List.setIfInBounds_toArray, List.set_cons_zero, List.set_cons_succ])
       go_big_quiet_on))
  refine wpQuiet_nil ?_
  intro w5 hb5
  have hb5d : Below W.heap.size W w5 := hb5
  have hF5 := hF.below hb5d lF
  have hG5 := hG.below hb5d lG
  have hZ5 := hZ.below hb5d lZ
  have hBF5 := hB0.trans (hb5d.mono hB0.size)
  have hL5 : W.heap.size ≤ w5.heap.size := hb5d.size
  have hsz5 : w.heap.size + 2 < w5.heap.size := by omega
  clear hF hG hZ HS hB0 HPL hb5 hb5d lF lG lZ hL5 hbW
  go_upto_if 20 with fail
  go_cut [] (fun wx => ∃ z : LV, z.At wx ∧ Hid (Near (LV.mk k n s An ns cn Ai is ci) (LV.mk k2 n2 s2 An2 ns2 cn2 Ai2 is2 ci2) z (w.heap.size + 3)) ∧ Hid (X = putAt k ns (LV.js is) K st z.j) ∧ Blk wx w.heap.size 30 (valBlk k n s An ns cn Ai is ci) ∧ Blk wx (w.heap.size + 1) 30 z.cells.toArray ∧ Blk wx (w.heap.size + 2) 30 zeroBlk ∧ Below w.heap.size w wx)
  case first =>
    have hL1 : L = 1 := HLL.out
    have hLI : ¬ (1 : Int) < (L : Int) := by omega
    clear hL1
    go_wp2_with fail
    go_meet
    case rel => exact ⟨(LV.mk k2 n2 s2 An2 ns2 cn2 Ai2 is2 ci2), HXV.out.below hBF5 _, Lib.hid (fun S _ h => LV.On.mono (fun k hk => .inl hk) _ h), Lib.hid (by rw [← HX.out, LV.j, LV.j, putP, if_pos rfl, ← LV.j, HK.out] <;> rfl), hF5, hG5, hZ5, hBF5⟩
  case rest =>
    clear hF5 hG5 hZ5 hBF5 hsz5 HX
    obtain ⟨z, hzA, HNR, HXX, hF, hG, hZ, hB⟩ := hcut
    obtain ⟨kz, nz, sz, Anz, nsz, cnz, Aiz, isz, ciz⟩ := z
    have HZA := Lib.hid hzA
    have hG2 : Blk wc (w.heap.size + 1) 30 #[.int .i64 kz, .int .i64 nz, .string sz, .slice Anz nsz.length cnz, .slice Aiz isz.length ciz] := hG
    clear hG
    generalize wc = w0 at *
    obtain ⟨c0, c1, c2, c3, c4⟩ : w0.cell? ⟨w.heap.size, 0, none⟩ = some (.int .i64 k) ∧ w0.cell? ⟨w.heap.size, 1, none⟩ = some (.int .i64 n) ∧ w0.cell? ⟨w.heap.size, 2, none⟩ = some (.string s) ∧ w0.cell? ⟨w.heap.size, 3, none⟩ = some (.slice An ns.length cn) ∧ w0.cell? ⟨w.heap.size, 4, none⟩ = some (.slice Ai is.length ci) := ⟨hF.cell 0, hF.cell 1, hF.cell 2, hF.cell 3, hF.cell 4⟩
    have hP0 : PutS w w0 (w0.alloc (.cells (outB k (.slice none 0 0) (.slice none 0 0)) 30)) w.heap.size w0.heap.size (valBlk k n s An ns cn Ai is ci) #[.int .i64 kz, .int .i64 nz, .string sz, .slice Anz nsz.length cnz, .slice Aiz isz.length ciz] k (.slice none 0 0) (.slice none 0 0) [] [] :=
      ⟨hF.alloc _, hG2.alloc _, hZ.alloc _, Blk.new w0 _ _, SOwn.nil _ _, VOwn.nil _ _, Nat.le_refl _, hZ.lt, by simp, hB.alloc hB.size _, (Below.refl _ _).alloc (Nat.le_refl _) _⟩
    clear hzA hF hG2 hZ hB
    obtain ⟨hn24, hi24, hk6⟩ : ns.length ≤ 24 ∧ is.length ≤ 24 ∧ (k = 6 → ns.length = is.length) := by
      have h := HF.out
      rw [LV.j] at h
      have h2 := formed_sizes h
      rwa [LV.js_len] at h2
    have HK6 := Lib.hid hk6
    obtain ⟨hcn, hci⟩ : ns.length ≤ cn ∧ is.length ≤ ci := by
      have h := HV.out
      unfold LV.At at h
      exact ⟨h.2.2.2.2.2.2.2.1.1, h.2.2.2.2.2.2.2.2.1⟩
    clear hk6
    go_upto_region 10 with fail
    obtain ⟨W9, hW9⟩ : ∃ W9, W9 = w0.alloc (.cells #[.int .i64 k, .int .i64 0, .string ⟨#[]⟩, .slice none 0 0, .slice none 0 0] 30) := ⟨_, rfl⟩
    rw [← hW9]
    have hP : PutS w w0 W9 w.heap.size w0.heap.size (valBlk k n s An ns cn Ai is ci) #[.int .i64 kz, .int .i64 nz, .string sz, .slice Anz nsz.length cnz, .slice Aiz isz.length ciz] k (.slice none 0 0) (.slice none 0 0) [] [] := by rw [hW9]; exact hP0
    clear hP0 hW9 c0 c1 c2 c3 c4
    obtain ⟨go, hgo⟩ : ∃ go, w0.heap.size = go := ⟨_, rfl⟩
    rw [hgo] at hP ⊢
    have HGO := Lib.hid hgo
    clear hgo
    have hK : 0 ≤ K := by have h := HK9.out; rw [HK.out] at h; omega
    obtain ⟨p, rfl⟩ : ∃ p : Nat, K = (p : Int) := ⟨K.toNat, by omega⟩
    have hp : p < is.length := by
      have h1 := HF.out
      have h2 := HK.out
      rw [LV.j] at h1 h2
      have h3 : 0 ≤ placeP (JV.mk k n s ns (LV.js is)) st := by rw [h2]; omega
      have := place_lt h1 h3
      rw [h2, LV.js_len] at this
      exact this
    have hp0 : (0 : Int) ≤ (p : Int) := by omega
    have hpI : (p : Int) < (is.length : Int) := by omega
    have hpc : (p : Int) ≤ (ci : Int) := by omega
    have hpc1 : (p : Int) + 1 ≤ (is.length : Int) := by omega
    have hpw : IntKind.i64.wrap ((p : Int) + 1) = (p : Int) + 1 := by rw [IntKind.wrap_i64]; omega
    have hpt : ((p : Int) + 1).toNat = p + 1 := by omega
    have hp10 : (0 : Int) ≤ (p : Int) + 1 := by omega
    obtain ⟨b2, off2, hAi, hb2⟩ : ∃ b2 off2, Ai = some ⟨b2, off2, none⟩ ∧ b2 < w.heap.size := by obtain ⟨b2, off2, e, h, _⟩ := HV.out.item hp; exact ⟨b2, off2, e, h⟩
    subst hAi
    obtain ⟨vn, hvn⟩ : ∃ v : Value, v = .slice none 0 0 := ⟨_, rfl⟩
    obtain ⟨vi, hvi⟩ : ∃ v : Value, v = .slice none 0 0 := ⟨_, rfl⟩
    obtain ⟨NA, hNA⟩ : ∃ N : List ByteArray, N = [] := ⟨_, rfl⟩
    obtain ⟨NB, hNB⟩ : ∃ N : List LV, N = [] := ⟨_, rfl⟩
    have hP : PutS w w0 W9 w.heap.size go (valBlk k n s An ns cn (some ⟨b2, off2, none⟩) is ci) #[.int .i64 kz, .int .i64 nz, .string sz, .slice Anz nsz.length cnz, .slice Aiz isz.length ciz] k vn vi NA NB := by rw [hvn, hvi, hNA, hNB]; exact hP
    have lNA : NA.length ≤ 0 := by rw [hNA]; exact Nat.le_refl _
    have lNB : NB.length ≤ 0 := by rw [hNB]; exact Nat.le_refl _
    have HNA := Lib.hid hNA
    have HNB := Lib.hid hNB
    clear hvn hvi hNA hNB
    go_upto_region 11 with fail
    go_cut [] (fun wx => ∃ vn vi, PutS w w0 wx w.heap.size go (valBlk k n s An ns cn (some ⟨b2, off2, none⟩) is ci) #[.int .i64 kz, .int .i64 nz, .string sz, .slice Anz nsz.length cnz, .slice Aiz isz.length ciz] k vn vi (NA ++ ns) NB)
    case first =>
      have lt := hP.lt
      have lo := hP.lo
      have q3 : W9.cell? ⟨go, 3, none⟩ = some vn := hP.o.cell 3
      have f3 := hP.o.free 3
      have v3 : W9.cell? ⟨w.heap.size, 3, none⟩ = some (.slice An ns.length cn) := hP.v.cell 3
      have v4 : W9.cell? ⟨w.heap.size, 4, none⟩ = some (.slice (some ⟨b2, off2, none⟩) is.length ci) := hP.v.cell 4
      have hvW := HV.out.below hP.b _
      have hcN : Cells W9 W9.heap.size An (ns.map Value.string) := by have := hvW; unfold LV.At at this; exact this.1
      have hcI : Cells W9 W9.heap.size (some ⟨b2, off2, none⟩) (is.flatMap LV.cells) := by have := hvW; unfold LV.At at this; exact this.2.1
      go_wp2_with (first | (at_builtin; refine SOwn.any rfl (.tmp 47) (.tmp 49) rfl (go + 1) vn NA rfl hP.on W9.heap.size An ns.length cn ns rfl (by rfl) (hcN) (by first | omega | (simp; omega)) hP.lt ?_; intro A9 c9 w9 hO9 hG9; have hK9 := hP.o.grew hP.on (by omega) hG9; have q9 : w9.cell? ⟨go, 3, none⟩ = some vn := hK9.cell 3; have z9 := hK9.free 3))
      go_meet
      exact ⟨_, _, hP.names hO9 hG9⟩
    case rest =>
      clear hP
      obtain ⟨vn, vi, hP⟩ := hcut
      obtain ⟨N1, hN1⟩ : ∃ N, (NA ++ ns) = N := ⟨_, rfl⟩
      rw [hN1] at hP
      have lN1 : N1.length ≤ 100 := by rw [← hN1]; simp; omega
      have HN1 := Lib.hid hN1
      clear hN1
      go_upto_region 12 with fail
      go_cut [] (fun wx => ∃ vn vi, PutS w w0 wx w.heap.size go (valBlk k n s An ns cn (some ⟨b2, off2, none⟩) is ci) #[.int .i64 kz, .int .i64 nz, .string sz, .slice Anz nsz.length cnz, .slice Aiz isz.length ciz] k vn vi N1 (NB ++ (is.take p)))
      case first =>
        have lt := hP.lt
        have lo := hP.lo
        have q4 : wc.cell? ⟨go, 4, none⟩ = some vi := hP.o.cell 4
        have f4 := hP.o.free 4
        have v3 : wc.cell? ⟨w.heap.size, 3, none⟩ = some (.slice An ns.length cn) := hP.v.cell 3
        have v4 : wc.cell? ⟨w.heap.size, 4, none⟩ = some (.slice (some ⟨b2, off2, none⟩) is.length ci) := hP.v.cell 4
        have hvW := HV.out.below hP.b _
        have hcN : Cells wc wc.heap.size An (ns.map Value.string) := by have := hvW; unfold LV.At at this; exact this.1
        have hcI : Cells wc wc.heap.size (some ⟨b2, off2, none⟩) (is.flatMap LV.cells) := by have := hvW; unfold LV.At at this; exact this.2.1
        go_region_law (refine VOwn.step rfl (.tmp 53) (.tmp 57) rfl (go + 1) vi NB ?_ ?_ wc.heap.size (some ⟨b2, off2, none⟩) p ci (is.take p) ?_ ?_ ?_ ?_ ?_ ?_; (first | exact rfl | simp [Act.eval]); (exact hP.drew.oi); (first | exact rfl | simp [Act.eval]); (simp; omega); (exact Cells.drew ((by have := hcI; rw [flat_split is p] at this; exact this.left))); (first | omega | (simp; omega)); (exact hP.lt); intro A9 c9 w9 hO9 hG9; have hK9 := hP.drew.o.grew hP.drew.oi (by omega) hG9; have q9 : w9.cell? ⟨go, 4, none⟩ = some vi := hK9.cell 4; have z9 := hK9.free 4)
        all_goals (go_wp2_with fail; go_meet; exact ⟨_, _, hP.drew.items hO9 hG9⟩)
      case rest =>
        clear hP
        obtain ⟨vn, vi, hP⟩ := hcut
        obtain ⟨N2, hN2⟩ : ∃ N, (NB ++ (is.take p)) = N := ⟨_, rfl⟩
        rw [hN2] at hP
        have lN2 : N2.length ≤ 200 := by rw [← hN2]; simp; omega
        have HN2 := Lib.hid hN2
        clear hN2
        go_upto_region 13 with fail
        go_cut [] (fun wx => ∃ vn vi, PutS w w0 wx w.heap.size go (valBlk k n s An ns cn (some ⟨b2, off2, none⟩) is ci) #[.int .i64 kz, .int .i64 nz, .string sz, .slice Anz nsz.length cnz, .slice Aiz isz.length ciz] k vn vi N1 (N2 ++ [(LV.mk kz nz sz Anz nsz cnz Aiz isz ciz)]))
        case first =>
          have lt := hP.lt
          have lo := hP.lo
          have q4 : wc.cell? ⟨go, 4, none⟩ = some vi := hP.o.cell 4
          have f4 := hP.o.free 4
          have v3 : wc.cell? ⟨w.heap.size, 3, none⟩ = some (.slice An ns.length cn) := hP.v.cell 3
          have v4 : wc.cell? ⟨w.heap.size, 4, none⟩ = some (.slice (some ⟨b2, off2, none⟩) is.length ci) := hP.v.cell 4
          have hvW := HV.out.below hP.b _
          have hcN : Cells wc wc.heap.size An (ns.map Value.string) := by have := hvW; unfold LV.At at this; exact this.1
          have hcI : Cells wc wc.heap.size (some ⟨b2, off2, none⟩) (is.flatMap LV.cells) := by have := hvW; unfold LV.At at this; exact this.2.1
          obtain ⟨x0, x1, x2, x3, x4⟩ : wc.cell? ⟨w.heap.size + 1, 0, none⟩ = some (.int .i64 kz) ∧ wc.cell? ⟨w.heap.size + 1, 1, none⟩ = some (.int .i64 nz) ∧ wc.cell? ⟨w.heap.size + 1, 2, none⟩ = some (.string sz) ∧ wc.cell? ⟨w.heap.size + 1, 3, none⟩ = some (.slice Anz nsz.length cnz) ∧ wc.cell? ⟨w.heap.size + 1, 4, none⟩ = some (.slice Aiz isz.length ciz) := ⟨hP.x.cell 0, hP.x.cell 1, hP.x.cell 2, hP.x.cell 3, hP.x.cell 4⟩
          go_wp2_with (first | (at_builtin; refine VOwn.any rfl (.tmp 61) (.tmp 63) rfl (go + 1) vi N2 rfl (hP.alloc (.cells #[.int .i64 kz, .int .i64 nz, .string sz, .slice Anz nsz.length cnz, .slice Aiz isz.length ciz] 30)).oi (wc.heap.size + 1) (some ⟨wc.heap.size, 0, none⟩) 1 1 [(LV.mk kz nz sz Anz nsz cnz Aiz isz ciz)] rfl (by rfl) (one_val wc (LV.mk kz nz sz Anz nsz cnz Aiz isz ciz) #[.int .i64 kz, .int .i64 nz, .string sz, .slice Anz nsz.length cnz, .slice Aiz isz.length ciz] rfl) (by first | omega | (simp; omega)) (hP.alloc (.cells #[.int .i64 kz, .int .i64 nz, .string sz, .slice Anz nsz.length cnz, .slice Aiz isz.length ciz] 30)).lt ?_; intro A9 c9 w9 hO9 hG9; have hK9 := (hP.alloc (.cells #[.int .i64 kz, .int .i64 nz, .string sz, .slice Anz nsz.length cnz, .slice Aiz isz.length ciz] 30)).o.grew (hP.alloc (.cells #[.int .i64 kz, .int .i64 nz, .string sz, .slice Anz nsz.length cnz, .slice Aiz isz.length ciz] 30)).oi (by omega) hG9; have q9 : w9.cell? ⟨go, 4, none⟩ = some vi := hK9.cell 4; have z9 := hK9.free 4))
          go_meet
          exact ⟨_, _, (hP.alloc (.cells #[.int .i64 kz, .int .i64 nz, .string sz, .slice Anz nsz.length cnz, .slice Aiz isz.length ciz] 30)).items hO9 hG9⟩
        case rest =>
          clear hP
          obtain ⟨vn, vi, hP⟩ := hcut
          obtain ⟨N3, hN3⟩ : ∃ N, (N2 ++ [(LV.mk kz nz sz Anz nsz cnz Aiz isz ciz)]) = N := ⟨_, rfl⟩
          rw [hN3] at hP
          have lN3 : N3.length ≤ 300 := by rw [← hN3]; simp; omega
          have HN3 := Lib.hid hN3
          clear hN3
          go_upto_region 14 with fail
          go_cut [] (fun wx => ∃ vn vi, PutS w w0 wx w.heap.size go (valBlk k n s An ns cn (some ⟨b2, off2, none⟩) is ci) #[.int .i64 kz, .int .i64 nz, .string sz, .slice Anz nsz.length cnz, .slice Aiz isz.length ciz] k vn vi N1 (N3 ++ (is.drop (p + 1))))
          case first =>
            have lt := hP.lt
            have lo := hP.lo
            have q4 : wc.cell? ⟨go, 4, none⟩ = some vi := hP.o.cell 4
            have f4 := hP.o.free 4
            have v3 : wc.cell? ⟨w.heap.size, 3, none⟩ = some (.slice An ns.length cn) := hP.v.cell 3
            have v4 : wc.cell? ⟨w.heap.size, 4, none⟩ = some (.slice (some ⟨b2, off2, none⟩) is.length ci) := hP.v.cell 4
            have hvW := HV.out.below hP.b _
            have hcN : Cells wc wc.heap.size An (ns.map Value.string) := by have := hvW; unfold LV.At at this; exact this.1
            have hcI : Cells wc wc.heap.size (some ⟨b2, off2, none⟩) (is.flatMap LV.cells) := by have := hvW; unfold LV.At at this; exact this.2.1
            by_cases hways : ci = p + 1
            · subst hways
              go_region_law (refine VOwn.step rfl (.tmp 67) (.tmp 72) rfl (go + 1) vi N3 ?_ ?_ wc.heap.size (some ⟨b2, off2, none⟩) 0 0 [] ?_ ?_ ?_ ?_ ?_ ?_; (first | exact rfl | simp [Act.eval]); (exact hP.drew.oi); (first | exact rfl | simp [Act.eval]); (exact rfl); (exact Cells.drew (Cells.nil)); (first | omega | (simp; omega)); (exact hP.lt); intro A9 c9 w9 hO9 hG9; have hK9 := hP.drew.o.grew hP.drew.oi (by omega) hG9; have q9 : w9.cell? ⟨go, 4, none⟩ = some vi := hK9.cell 4; have z9 := hK9.free 4)
              all_goals
                have hO8 : VOwn w9 (go + 1) (.slice A9 N3.length c9) (N3 ++ (is.drop (p + 1))) := by rw [show (is.drop (p + 1)) = [] from List.drop_eq_nil_of_le (by omega)]; exact hO9
                clear hO9
                go_wp2_with fail
                go_meet
                exact ⟨_, _, hP.drew.items hO8 hG9⟩
            · have hways2 : ¬ p + 1 = ci := fun e => hways e.symm
              go_region_law (refine VOwn.step rfl (.tmp 67) (.tmp 72) rfl (go + 1) vi N3 ?_ ?_ wc.heap.size (some ⟨b2, off2 + (p + 1) * 5, none⟩) (is.length - (p + 1)) (ci - (p + 1)) (is.drop (p + 1)) ?_ ?_ ?_ ?_ ?_ ?_; (first | exact rfl | simp [Act.eval]); (exact hP.drew.oi); (first | exact rfl | simp [Act.eval]); (simp); (exact Cells.drew (by have := hcI; rw [flat_split is (p + 1)] at this; have := this.right; rw [flat_len, List.length_take, Nat.min_eq_left (by omega)] at this; exact this)); (first | omega | (simp; omega)); (exact hP.lt); intro A9 c9 w9 hO9 hG9; have hK9 := hP.drew.o.grew hP.drew.oi (by omega) hG9; have q9 : w9.cell? ⟨go, 4, none⟩ = some vi := hK9.cell 4; have z9 := hK9.free 4)
              all_goals (go_wp2_with fail; go_meet; exact ⟨_, _, hP.drew.items hO9 hG9⟩)
          case rest =>
            clear hP
            obtain ⟨vn, vi, hP⟩ := hcut
            obtain ⟨N4, hN4⟩ : ∃ N, (N3 ++ (is.drop (p + 1))) = N := ⟨_, rfl⟩
            rw [hN4] at hP
            have lN4 : N4.length ≤ 400 := by rw [← hN4]; simp; omega
            have HN4 := Lib.hid hN4
            clear hN4
            obtain ⟨A8, c8, hA8, _, _, _⟩ := hP.on.shape
            obtain ⟨A7, c7, hA7, _, _, _⟩ := hP.oi.shape
            subst hA8 hA7
            obtain ⟨W9', hW9'⟩ : ∃ W9', W9' = ((((wc.setCell ⟨w.heap.size + 2, 0, none⟩ (.int .i64 k)).setCell ⟨w.heap.size + 2, 1, none⟩ (.int .i64 0)).setCell ⟨w.heap.size + 2, 2, none⟩ (.string ⟨#[]⟩)).setCell ⟨w.heap.size + 2, 3, none⟩ (.slice A8 N1.length c8)).setCell ⟨w.heap.size + 2, 4, none⟩ (.slice A7 N4.length c7) := ⟨_, rfl⟩
            have hch : Chg wc W9' (fun b => b = w.heap.size + 2) := by rw [hW9']; exact chg_five wc (w.heap.size + 2) (.int .i64 k) (.int .i64 0) (.string ⟨#[]⟩) (.slice A8 N1.length c8) (.slice A7 N4.length c7)
            have hkk : -9223372036854775808 ≤ k ∧ k ≤ 9223372036854775807 := by have h := HV.out; unfold LV.At at h; exact h.2.2.2.1
            have hIS : ∀ y ∈ N4, y.At wc ∧ y.On (fun b => b ≠ w.heap.size + 2) ∧ Near (LV.mk k n s An ns cn (some ⟨b2, off2, none⟩) is ci) (LV.mk k2 n2 s2 An2 ns2 cn2 Ai2 is2 ci2) y w.heap.size := by
              intro y hy
              have e3 := HN4.out
              have e2 := HN3.out
              have e1 := HN2.out
              have e0 := HNB.out
              rw [← e3, ← e2, ← e1, e0] at hy
              simp only [List.nil_append, List.mem_append, List.mem_singleton] at hy
              rcases hy with (hy | hy) | hy
              · exact put_item hP HV.out (List.mem_of_mem_take hy)
              · rw [hy]; exact put_new hP rfl HGO.out HZA.out HV.out HXV.out HNR.out
              · exact put_item hP HV.out (List.mem_of_mem_drop hy)
            have hNS : ∀ t ∈ N1, t.size ≤ 9223372036854775807 := by
              intro y hy
              have e1 := HN1.out
              have e0 := HNA.out
              rw [← e1, e0, List.nil_append] at hy
              have h := HV.out
              unfold LV.At at h
              exact h.2.2.2.2.2.2.1 y hy
            obtain ⟨hD1, hD2⟩ := put_done (v := (LV.mk k n s An ns cn (some ⟨b2, off2, none⟩) is ci)) (x := (LV.mk k2 n2 s2 An2 ns2 cn2 Ai2 is2 ci2)) hP hch hkk hNS hIS
            have hFin : Below w.heap.size w W9' := hP.b.trans (hch.below hP.b.size fun i hi => by omega)
            have hZF : Blk W9' (w.heap.size + 2) 30 #[.int .i64 k, .int .i64 0, .string ⟨#[]⟩, .slice A8 N1.length c8, .slice A7 N4.length c7] := by rw [hW9']; exact hP.r.five (.int .i64 k) (.int .i64 0) (.string ⟨#[]⟩) (.slice A8 N1.length c8) (.slice A7 N4.length c7)
            have hE : X = some (LV.mk k 0 ⟨#[]⟩ A8 N1 c8 A7 N4 c7).j := by
              have e3 := HN4.out
              have e2 := HN3.out
              have e1 := HN2.out
              have e0 := HNB.out
              have d1 := HN1.out
              have d0 := HNA.out
              rw [HXX.out, putAt, if_pos (by omega), Int.toNat_natCast]
              rw [← d1, d0, ← e3, ← e2, ← e1, e0, LV.js_map]
              have e5 : ∀ (Ns : List ByteArray) (Is : List LV), (LV.mk k 0 ⟨#[]⟩ A8 Ns c8 A7 Is c7).j = JV.mk k 0 ⟨#[]⟩ Ns (Is.map LV.j) := fun _ _ => by rw [LV.j, LV.js_map]
              rw [e5]
              simp only [List.nil_append, List.map_append, List.map_cons, List.map_nil, List.map_take, List.map_drop]
            have HE := Lib.hid hE
            clear hE
            obtain ⟨j0, j1, j2, j3, j4⟩ : W9'.cell? ⟨w.heap.size + 2, 0, none⟩ = some (.int .i64 k) ∧ W9'.cell? ⟨w.heap.size + 2, 1, none⟩ = some (.int .i64 0) ∧ W9'.cell? ⟨w.heap.size + 2, 2, none⟩ = some (.string ⟨#[]⟩) ∧ W9'.cell? ⟨w.heap.size + 2, 3, none⟩ = some (.slice A8 N1.length c8) ∧ W9'.cell? ⟨w.heap.size + 2, 4, none⟩ = some (.slice A7 N4.length c7) := ⟨hZF.cell 0, hZF.cell 1, hZF.cell 2, hZF.cell 3, hZF.cell 4⟩
            obtain ⟨y0, y1, y2, y3, y4⟩ : wc.frozen? ⟨w.heap.size + 2, 0, none⟩ = false ∧ wc.frozen? ⟨w.heap.size + 2, 1, none⟩ = false ∧ wc.frozen? ⟨w.heap.size + 2, 2, none⟩ = false ∧ wc.frozen? ⟨w.heap.size + 2, 3, none⟩ = false ∧ wc.frozen? ⟨w.heap.size + 2, 4, none⟩ = false := ⟨hP.r.free 0, hP.r.free 1, hP.r.free 2, hP.r.free 3, hP.r.free 4⟩
            obtain ⟨x0, x1, x2, x3, x4⟩ : wc.cell? ⟨w.heap.size + 2, 0, none⟩ = some (.int .i64 0) ∧ wc.cell? ⟨w.heap.size + 2, 1, none⟩ = some (.int .i64 0) ∧ wc.cell? ⟨w.heap.size + 2, 2, none⟩ = some (.string ⟨#[]⟩) ∧ wc.cell? ⟨w.heap.size + 2, 3, none⟩ = some (.slice none 0 0) ∧ wc.cell? ⟨w.heap.size + 2, 4, none⟩ = some (.slice none 0 0) := ⟨hP.r.cell 0, hP.r.cell 1, hP.r.cell 2, hP.r.cell 3, hP.r.cell 4⟩
            obtain ⟨o0', o1', o2', o3', o4'⟩ : wc.cell? ⟨go, 0, none⟩ = some (.int .i64 k) ∧ wc.cell? ⟨go, 1, none⟩ = some (.int .i64 0) ∧ wc.cell? ⟨go, 2, none⟩ = some (.string ⟨#[]⟩) ∧ wc.cell? ⟨go, 3, none⟩ = some (.slice A8 N1.length c8) ∧ wc.cell? ⟨go, 4, none⟩ = some (.slice A7 N4.length c7) := ⟨hP.o.cell 0, hP.o.cell 1, hP.o.cell 2, hP.o.cell 3, hP.o.cell 4⟩
            have HD1 := Lib.hid hD1
            have HD2 := Lib.hid hD2
            have HFin := Lib.hid hFin
            have HW9 := Lib.hid hW9'
            clear hW9' hch hD1 hD2 hFin hIS hNS hP hZF hkk
            go_wp2
            rw [← HW9.out]
            exact bodyPost_ret (v := .tuple #[.agg #[.int .i64 k, .int .i64 0, .string ⟨#[]⟩, .slice A8 N1.length c8, .slice A7 N4.length c7], .int .i64 0]) (by simp [results, Tryd.results24, go_sem, j0, j1, j2, j3, j4]) rfl ⟨by rw [HE.out]; exact ⟨_, rfl, HD1.out, rfl, HD2.out⟩, HFin.out⟩

end Go.Proofs.YtkjjafijmpacpaaDoor
