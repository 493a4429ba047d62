/-
  keys.Split of a compound key.
-/
import Derived.Test.YtpnbmgfnnmmokaaDoorQj
set_option linter.unusedVariables false
namespace Go.Proofs.YtpnbmgfnnmmokaaDoor
open Go.RowKit

/-- The blocks of a row's items: new ones, and not the row's own. -/
def FreeOf (B : Nat) (u : Value) (k : Nat) : Prop := B ≤ k ∧ some k ≠ u.ownBlock
theorem items_snoc {w1 w9 : World} {B : Nat} {u u9 : Value} {is : List LV} {x : LV} (hO : VOwn w1 B u is) (hG : Grew w1 u w9 u9) (its : ∀ y ∈ is, y.At w1 ∧ y.On (FreeOf B u)) (hx : x.At w1) (hx2 : x.On (FreeOf B u)) : ∀ y ∈ is ++ [x], y.At w9 ∧ y.On (FreeOf B u9) := fun y hy => by
  have hy' : y.At w1 ∧ y.On (FreeOf B u) := by
    rcases List.mem_append.1 hy with hy | hy
    · exact its y hy
    · rw [List.mem_singleton.1 hy]; exact ⟨hx, hx2⟩
  obtain ⟨a1, a2⟩ := hy'
  have a3 := LV.On.and y a2 a1.on
  exact ⟨LV.At.move (S := FreeOf B u) (fun k hk hl => hG.by_.block k hl hk.2) hG.by_.size y a1 a2, LV.On.mono (fun k hk => ⟨hk.1.1, own_new hG hk.2 hk.1.2⟩) y a3⟩
theorem part_ne {dn : Bool} {x : JV} {left : Nat} (h : FormedP x left) : 1 ≤ (partK dn x).length := by
  obtain ⟨c, r, e, _⟩ := keyJ_head x left h
  unfold partK
  split
  · rw [turnB_len, e]; simp
  · rw [e]; simp

set_option maxRecDepth 8000 in
set_option maxHeartbeats 16000000 in
theorem split_any (A : Option Addr) (c : Nat) (K : List Int) (D : Option Addr) (ds : List Bool) (cd : Nat) (xs : List JV) (w : World) (hT : Tabs w) (hB : BRow w A c K) (hD : Cells w w.heap.size D (ds.map Value.bool)) (hK : K = compR ds 0 xs) (hf : ∀ x ∈ xs, FormedP x 6 ∧ NumsOK x) (hl : K.length ≤ 200) (hn : xs.length ≤ 100) :
    Calls Tryd.prog 21 #[.slice A K.length c, .slice D ds.length cd, .int .i64 (xs.length : Nat)] w fun e w' => (∃ (A' : Option Addr) (c' : Nat) (is : List LV), e = .returned (.tuple #[.slice A' xs.length c', .int .i64 0]) ∧ LV.js is = xs ∧ RowAt w' A' is c') ∧ Below w.heap.size w w' := by
  have HCX := Lib.hid (compX_of (down := ds) (fun x hx => (hf x hx).1) (by rw [← hK]; exact hl))
  have HT := Lib.hid hT
  have HB := Lib.hid hB
  have HD := Lib.hid hD
  have HF := Lib.hid hf
  have HK := Lib.hid hK
  have hkl0 : (K.length : Int) ≤ 200 := by omega
  obtain ⟨N, hN⟩ : ∃ N, xs.length = N := ⟨_, rfl⟩
  have HN := Lib.hid hN
  rw [hN] at hn ⊢
  obtain ⟨M, hM⟩ : ∃ M, ds.length = M := ⟨_, rfl⟩
  have HM := Lib.hid hM
  rw [hM]
  obtain ⟨NK, hNK⟩ : ∃ N, K.length = N := ⟨_, rfl⟩
  have HNK := Lib.hid hNK
  rw [hNK] at hl hkl0 ⊢
  have hkI : ¬ (200 : Int) < (NK : Int) := by omega
  have hnI : ¬ (N : Int) < 0 := by omega
  have hnI2 : ¬ (100 : Int) < (N : Int) := by omega
  clear hT hB hD hf hK hN hM hNK hkl0
  go_enter Tryd.func21, Tryd.ntmps21
  go_wp2
  go_loopw [8, 9, 28] (fun s8 s9 i wr => ∃ (q : Nat) (u : Value) (is : List LV) (r : List Int) (A2 : Option Addr) (n2 c2 : Nat), u = s8 ∧ s9 = .slice A2 n2 c2 ∧ i = .int .i64 q ∧ q ≤ N ∧ Hid (compR ds q (xs.drop q) = r) ∧ Hid (r.length = n2) ∧ n2 ≤ NK ∧ BRow w A2 c2 r ∧ VOwn wr w.heap.size u is ∧ Hid (∀ y ∈ is, y.At wr ∧ y.On (FreeOf w.heap.size u)) ∧ Hid (LV.js is = xs.take q) ∧ is.length ≤ 100 ∧ Below w.heap.size w wr)
    (fun _ _ i _ => N - (RowKit.intOf i).toNat)
  case atStart => exact ⟨0, _, [], K, A, NK, c, rfl, rfl, rfl, Nat.zero_le _, Lib.hid (by rw [List.drop_zero]; exact HK.out.symm), HNK, Nat.le_refl _, HB.out, VOwn.nil _ _, Lib.hid (fun y hy => by cases hy), Lib.hid (by rw [LV.js]; rfl), by simp, Below.refl _ _⟩
  case round =>
    obtain ⟨q, u, is, r, A2, n2, c2, rfl, rfl, rfl, hq, HRC, HRL, hnk, hR, hO, HITS, HJS, hil, hB⟩ := hrel
    have hsz := hB.size
    by_cases hlt : q < N
    · have hqI : (q : Int) < (N : Int) := by omega
      have hq0 : (0 : Int) ≤ (q : Int) := by omega
      have hqx : q < xs.length := by rw [HN.out]; exact hlt
      obtain ⟨x, hx⟩ : ∃ x, xs[q] = x := ⟨_, rfl⟩
      have hfx := HF.out x (by rw [← hx]; exact List.getElem_mem hqx)
      obtain ⟨r', hr'⟩ : ∃ r', compR ds (q + 1) (xs.drop (q + 1)) = r' := ⟨_, rfl⟩
      have HR2 : Hid (compR ds (q + 1) (xs.drop (q + 1)) = r') := Lib.hid hr'
      have hrr : r = partK (ds.getD q false) x ++ r' := by rw [← HRC.out, compR_drop ds xs q hqx, hx, hr']
      have HTK : Hid (xs.take q ++ [x] = xs.take (q + 1)) := Lib.hid (by rw [take_snoc xs q hqx, hx])
      have hilq : is.length = q := by have := congrArg List.length HJS.out; rw [js_len, List.length_take] at this; omega
      have hiN : is.length + 1 ≤ 100 := by omega
      have hrx := comp_read ds q r' hfx.1 hfx.2
      have hpn := part_ne (dn := ds.getD q false) hfx.1
      obtain ⟨P, hP⟩ : ∃ P, (partK (ds.getD q false) x).length = P := ⟨_, rfl⟩
      rw [hP] at hpn hrx
      have HLR : Hid (P + r'.length = n2) := Lib.hid (by rw [← HRL.out, hrr, List.length_append, hP])
      have hPn : P ≤ n2 := by have := HLR.out; omega
      have hPI : (P : Int) ≤ (n2 : Int) := by omega
      have hP0 : (0 : Int) ≤ (P : Int) := by omega
      have hcc := hR.len
      rw [HRL.out] at hcc
      have hcm := hR.cap
      obtain ⟨bb, off, rfl, hbb, hcu⟩ := hR.cells.u8 (l := r) (k := 0) (by rw [HRL.out]; omega)
      clear hcu
      have HSUB : Hid (BRow w (some ⟨bb, off + P, none⟩) (c2 - P) r') := Lib.hid (by
        have h := hR.sub P (by rw [HRL.out]; exact hPn)
        rw [hrr, List.drop_left' hP] at h
        exact h)
      have hrl : r.length ≤ 9000000000000 := by rw [HRL.out]; omega
      have HRL2 := Lib.hid hrl
      by_cases hdn : ds.getD q false = true
      · rw [if_pos hdn, ← hrr] at hrx
        have HRX := Lib.hid hrx
        have hqM : q < ds.length := by
          rcases Nat.lt_or_ge q ds.length with h | h
          · exact h
          · rw [List.getD_eq_getElem?_getD, List.getElem?_eq_none h] at hdn; cases hdn
        have hqMI : (q : Int) < (M : Int) := by rw [HM.out] at hqM; omega
        have hdq : ds[q] = true := by rw [List.getD_eq_getElem?_getD, List.getElem?_eq_getElem hqM] at hdn; exact hdn
        obtain ⟨bd, od, rfl, hbd, hcd⟩ := (HD.out.below hB) q (.bool true) (by rw [List.getElem?_map, List.getElem?_eq_getElem hqM, hdq]; rfl)
        have HTC : Hid (Calls Tryd.prog 31 #[.slice (some ⟨bb, off, none⟩) n2 c2] wr fun e w' => ∃ v, e = .returned v ∧ Own w' wr.heap.size v (turnB r) ∧ Below wr.heap.size wr w') := Lib.hid (by have h := turned_any (some ⟨bb, off, none⟩) c2 r wr (hR.below hB) HRL2.out; rw [HRL.out] at h; exact h)
        have HTO := Lib.hid (turnB_oct hR.oct)
        have HTL : Hid ((turnB r).length = n2) := Lib.hid (by rw [turnB_len]; exact HRL.out)
        clear hdn hdq hqM hrx hrr hx hfx hr' hilq hrl hP
        generalize turnB r = TR at *
        go_wp2_with fail
        refine HTC.out.mono ?_
        rintro e w3 ⟨v3, rfl, hown3, hb3⟩
        obtain ⟨A3, c3, hv3, hl3, hm3, hc3⟩ := hown3.shape
        unfold maxLen at hm3
        rw [HTL.out] at hv3 hl3
        subst hv3
        have hB3 := hB.trans (hb3.mono hB.size)
        have HRD : Hid (Calls Tryd.prog 17 #[.slice A3 n2 c3] w3 fun e w' => ReadResO w3 (x, P, 0) e w' ∧ Below w3.heap.size w3 w') := Lib.hid (by have h := Read_anyO A3 c3 TR w3 (HT.out.below hB3) ⟨hc3, by rw [HTL.out]; exact hl3, hm3, HTO.out⟩ (by rw [HTL.out]; have := HRL2.out; rw [HRL.out] at this; omega); rw [HRX.out, HTL.out] at h; exact h)
        clear hc3 hown3 hcd HTC
        go_wp2_with fail
        (with_reducible refine HRD.out.mono ?_)
        rintro e w4 ⟨⟨z, he, hz1, hzj, hzo⟩, hb4⟩
        obtain ⟨kz, nz, sz, Anz, nsz, cnz, Aiz, isz, ciz⟩ := z
        have he' : e = .returned (.tuple #[.agg #[.int .i64 kz, .int .i64 nz, .string sz, .slice Anz nsz.length cnz, .slice Aiz isz.length ciz], .int .i64 (P : Nat), .int .i64 0]) := he
        clear he HRD
        subst he'
        have hB4 := hB3.trans (hb4.mono hB3.size)
        have HZJ : Hid ((LV.mk kz nz sz Anz nsz cnz Aiz isz ciz).j = x) := Lib.hid hzj
        obtain ⟨w5, hw5⟩ : ∃ w5, w5 = w4.alloc (.cells #[.int .i64 kz, .int .i64 nz, .string sz, .slice Anz nsz.length cnz, .slice Aiz isz.length ciz] 25) := ⟨_, rfl⟩
        have hI5 : Blk w5 w4.heap.size 25 #[.int .i64 kz, .int .i64 nz, .string sz, .slice Anz nsz.length cnz, .slice Aiz isz.length ciz] := by rw [hw5]; exact Blk.new w4 _ _
        have hb45 : Below w4.heap.size w4 w5 := by rw [hw5]; exact (Below.refl _ _).alloc (Nat.le_refl _) _
        have hB5 := hB4.trans (hb45.mono hB4.size)
        have hz5 := LV.At.below hb45 _ hz1
        have hbr5 : Below wr.heap.size wr w5 := ((hb3.trans (hb4.mono hb3.size)).trans (hb45.mono (hb3.trans (hb4.mono hb3.size)).size))
        have hO5 := VOwn.below hO hbr5
        have hzf : (LV.mk kz nz sz Anz nsz cnz Aiz isz ciz).On (FreeOf w.heap.size u) := LV.On.mono (fun k hk => ⟨by have := hB.size; have := hb3.size; omega, own_lt hO (by have := hb3.size; omega)⟩) _ hzo
        have HITS5 : Hid (∀ y ∈ is, y.At w5 ∧ y.On (FreeOf w.heap.size u)) := Lib.hid fun y hy => ⟨LV.At.below hbr5 _ (HITS.out y hy).1, (HITS.out y hy).2⟩
        obtain ⟨gz, hgz⟩ : ∃ g, w4.heap.size = g := ⟨_, rfl⟩
        rw [hgz] at hI5
        have HW5 := Lib.hid hw5
        have hs5 := hB5.size
        clear hw5 hzj hz1 hzo hb45
        go_upto_region 16 with fail
        first | rw [← HW5.out, hgz] | rw [← HW5.out]
        clear hgz
        obtain ⟨f0, f1, f2, f3, f4⟩ : w5.cell? ⟨gz, 0, none⟩ = some (.int .i64 kz) ∧ w5.cell? ⟨gz, 1, none⟩ = some (.int .i64 nz) ∧ w5.cell? ⟨gz, 2, none⟩ = some (.string sz) ∧ w5.cell? ⟨gz, 3, none⟩ = some (.slice Anz nsz.length cnz) ∧ w5.cell? ⟨gz, 4, none⟩ = some (.slice Aiz isz.length ciz) := ⟨hI5.cell 0, hI5.cell 1, hI5.cell 2, hI5.cell 3, hI5.cell 4⟩
        by_cases hcp : c2 = P
        · have hnp : n2 = P := by omega
          have hrn : r' = [] := List.eq_nil_of_length_eq_zero (by have := HLR.out; omega)
          subst hcp hnp hrn
          go_region_law (refine VOwn.step rfl (.tmp 52) (.tmp 54) rfl w.heap.size u is ?_ ?_ (w5.heap.size + 1) (some ⟨w5.heap.size, 0, none⟩) 1 1 [(LV.mk kz nz sz Anz nsz cnz Aiz isz ciz)] ?_ ?_ ?_ ?_ ?_ ?_; (first | exact rfl | simp [Act.eval]); (exact (hO5.alloc _).drew); (first | exact rfl | simp [Act.eval]); (exact rfl); (exact (one_val w5 _ _ rfl).drew); (first | omega | (simp; omega)); (simp; omega); intro A9 c9 w9 hO9 hG9)
          all_goals
            have HITS9 := Lib.hid (items_snoc (x := (LV.mk kz nz sz Anz nsz cnz Aiz isz ciz)) (w1 := (w5.alloc (.cells #[.int .i64 kz, .int .i64 nz, .string sz, .slice Anz nsz.length cnz, .slice Aiz isz.length ciz] 25)).drew) (hO5.alloc _).drew hG9 (fun y hy => ⟨LV.At.below (((Below.refl _ _).alloc (Nat.le_refl _) _).drew) _ (HITS5.out y hy).1, (HITS5.out y hy).2⟩) (LV.At.below (((Below.refl _ _).alloc (Nat.le_refl _) _).drew) _ hz5) hzf)
            have hB9 : Below w.heap.size w w9 := (hB5.alloc hs5 _).drew.trans (grew_below (hO5.alloc _).drew (by simp; omega) hG9)
            go_wp2
            go_roundw
            case rel => exact ⟨q + 1, _, _, [], (some ⟨bb, off, none⟩), 0, 0, rfl, rfl, by go_num, by omega, Lib.hid HR2.out, Lib.hid rfl, by omega, BRow.none, hO9, HITS9, by rw [js_snoc, HZJ.out, HJS.out]; exact Lib.hid HTK.out, by simp; omega, hB9⟩
            case measure => simp [RowKit.intOf]; omega
        go_region_law (refine VOwn.step rfl (.tmp 52) (.tmp 54) rfl w.heap.size u is ?_ ?_ (w5.heap.size + 1) (some ⟨w5.heap.size, 0, none⟩) 1 1 [(LV.mk kz nz sz Anz nsz cnz Aiz isz ciz)] ?_ ?_ ?_ ?_ ?_ ?_; (first | exact rfl | simp [Act.eval]); (exact (hO5.alloc _).drew); (first | exact rfl | simp [Act.eval]); (exact rfl); (exact (one_val w5 _ _ rfl).drew); (first | omega | (simp; omega)); (simp; omega); intro A9 c9 w9 hO9 hG9)
        all_goals
          have HITS9 := Lib.hid (items_snoc (x := (LV.mk kz nz sz Anz nsz cnz Aiz isz ciz)) (w1 := (w5.alloc (.cells #[.int .i64 kz, .int .i64 nz, .string sz, .slice Anz nsz.length cnz, .slice Aiz isz.length ciz] 25)).drew) (hO5.alloc _).drew hG9 (fun y hy => ⟨LV.At.below (((Below.refl _ _).alloc (Nat.le_refl _) _).drew) _ (HITS5.out y hy).1, (HITS5.out y hy).2⟩) (LV.At.below (((Below.refl _ _).alloc (Nat.le_refl _) _).drew) _ hz5) hzf)
          have hB9 : Below w.heap.size w w9 := (hB5.alloc hs5 _).drew.trans (grew_below (hO5.alloc _).drew (by simp; omega) hG9)
          go_wp2
          go_roundw
          case rel => exact ⟨q + 1, _, _, r', (some ⟨bb, off + P, none⟩), (n2 - P), (c2 - P), rfl, rfl, by go_num, by omega, Lib.hid HR2.out, Lib.hid (by have := HLR.out; omega), by omega, HSUB.out, hO9, HITS9, by rw [js_snoc, HZJ.out, HJS.out]; exact Lib.hid HTK.out, by simp; omega, hB9⟩
          case measure => simp [RowKit.intOf]; omega
      · rw [if_neg hdn, ← hrr] at hrx
        have HRX := Lib.hid hrx
        have HRD : Hid (Calls Tryd.prog 17 #[.slice (some ⟨bb, off, none⟩) n2 c2] wr fun e w' => ReadResO wr (x, P, 0) e w' ∧ Below wr.heap.size wr w') := Lib.hid (by have h := Read_anyO (some ⟨bb, off, none⟩) c2 r wr (HT.out.below hB) (hR.below hB) (by have := HRL2.out; omega); rw [HRX.out, HRL.out] at h; exact h)
        by_cases hqM : q < ds.length
        · have hqMI : (q : Int) < (M : Int) := by rw [HM.out] at hqM; omega
          have hdq : ds[q] = false := by
            rw [List.getD_eq_getElem?_getD, List.getElem?_eq_getElem hqM] at hdn
            simpa using hdn
          obtain ⟨bd, od, rfl, hbd, hcd⟩ := (HD.out.below hB) q (.bool false) (by rw [List.getElem?_map, List.getElem?_eq_getElem hqM, hdq]; rfl)
          clear hdn hdq hqM hrx hrr hx hfx hr' hilq hrl hP
          go_wp2_with fail
          (with_reducible refine HRD.out.mono ?_)
          rintro e w4 ⟨⟨z, he, hz1, hzj, hzo⟩, hb4⟩
          obtain ⟨kz, nz, sz, Anz, nsz, cnz, Aiz, isz, ciz⟩ := z
          have he' : e = .returned (.tuple #[.agg #[.int .i64 kz, .int .i64 nz, .string sz, .slice Anz nsz.length cnz, .slice Aiz isz.length ciz], .int .i64 (P : Nat), .int .i64 0]) := he
          clear he HRD
          subst he'
          have hB4 := hB.trans (hb4.mono hB.size)
          have HZJ : Hid ((LV.mk kz nz sz Anz nsz cnz Aiz isz ciz).j = x) := Lib.hid hzj
          obtain ⟨w5, hw5⟩ : ∃ w5, w5 = w4.alloc (.cells #[.int .i64 kz, .int .i64 nz, .string sz, .slice Anz nsz.length cnz, .slice Aiz isz.length ciz] 25) := ⟨_, rfl⟩
          have hI5 : Blk w5 w4.heap.size 25 #[.int .i64 kz, .int .i64 nz, .string sz, .slice Anz nsz.length cnz, .slice Aiz isz.length ciz] := by rw [hw5]; exact Blk.new w4 _ _
          have hb45 : Below w4.heap.size w4 w5 := by rw [hw5]; exact (Below.refl _ _).alloc (Nat.le_refl _) _
          have hB5 := hB4.trans (hb45.mono hB4.size)
          have hz5 := LV.At.below hb45 _ hz1
          have hbr5 : Below wr.heap.size wr w5 := (hb4.trans (hb45.mono hb4.size))
          have hO5 := VOwn.below hO hbr5
          have hzf : (LV.mk kz nz sz Anz nsz cnz Aiz isz ciz).On (FreeOf w.heap.size u) := LV.On.mono (fun k hk => ⟨by have := hB.size;  omega, own_lt hO (by  omega)⟩) _ hzo
          have HITS5 : Hid (∀ y ∈ is, y.At w5 ∧ y.On (FreeOf w.heap.size u)) := Lib.hid fun y hy => ⟨LV.At.below hbr5 _ (HITS.out y hy).1, (HITS.out y hy).2⟩
          obtain ⟨gz, hgz⟩ : ∃ g, w4.heap.size = g := ⟨_, rfl⟩
          rw [hgz] at hI5
          have HW5 := Lib.hid hw5
          have hs5 := hB5.size
          clear hw5 hzj hz1 hzo hb45
          go_upto_region 16 with fail
          first | rw [← HW5.out, hgz] | rw [← HW5.out]
          clear hgz
          obtain ⟨f0, f1, f2, f3, f4⟩ : w5.cell? ⟨gz, 0, none⟩ = some (.int .i64 kz) ∧ w5.cell? ⟨gz, 1, none⟩ = some (.int .i64 nz) ∧ w5.cell? ⟨gz, 2, none⟩ = some (.string sz) ∧ w5.cell? ⟨gz, 3, none⟩ = some (.slice Anz nsz.length cnz) ∧ w5.cell? ⟨gz, 4, none⟩ = some (.slice Aiz isz.length ciz) := ⟨hI5.cell 0, hI5.cell 1, hI5.cell 2, hI5.cell 3, hI5.cell 4⟩
          by_cases hcp : c2 = P
          · have hnp : n2 = P := by omega
            have hrn : r' = [] := List.eq_nil_of_length_eq_zero (by have := HLR.out; omega)
            subst hcp hnp hrn
            go_region_law (refine VOwn.step rfl (.tmp 52) (.tmp 54) rfl w.heap.size u is ?_ ?_ (w5.heap.size + 1) (some ⟨w5.heap.size, 0, none⟩) 1 1 [(LV.mk kz nz sz Anz nsz cnz Aiz isz ciz)] ?_ ?_ ?_ ?_ ?_ ?_; (first | exact rfl | simp [Act.eval]); (exact (hO5.alloc _).drew); (first | exact rfl | simp [Act.eval]); (exact rfl); (exact (one_val w5 _ _ rfl).drew); (first | omega | (simp; omega)); (simp; omega); intro A9 c9 w9 hO9 hG9)
            all_goals
              have HITS9 := Lib.hid (items_snoc (x := (LV.mk kz nz sz Anz nsz cnz Aiz isz ciz)) (w1 := (w5.alloc (.cells #[.int .i64 kz, .int .i64 nz, .string sz, .slice Anz nsz.length cnz, .slice Aiz isz.length ciz] 25)).drew) (hO5.alloc _).drew hG9 (fun y hy => ⟨LV.At.below (((Below.refl _ _).alloc (Nat.le_refl _) _).drew) _ (HITS5.out y hy).1, (HITS5.out y hy).2⟩) (LV.At.below (((Below.refl _ _).alloc (Nat.le_refl _) _).drew) _ hz5) hzf)
              have hB9 : Below w.heap.size w w9 := (hB5.alloc hs5 _).drew.trans (grew_below (hO5.alloc _).drew (by simp; omega) hG9)
              go_wp2
              go_roundw
              case rel => exact ⟨q + 1, _, _, [], (some ⟨bb, off, none⟩), 0, 0, rfl, rfl, by go_num, by omega, Lib.hid HR2.out, Lib.hid rfl, by omega, BRow.none, hO9, HITS9, by rw [js_snoc, HZJ.out, HJS.out]; exact Lib.hid HTK.out, by simp; omega, hB9⟩
              case measure => simp [RowKit.intOf]; omega
          go_region_law (refine VOwn.step rfl (.tmp 52) (.tmp 54) rfl w.heap.size u is ?_ ?_ (w5.heap.size + 1) (some ⟨w5.heap.size, 0, none⟩) 1 1 [(LV.mk kz nz sz Anz nsz cnz Aiz isz ciz)] ?_ ?_ ?_ ?_ ?_ ?_; (first | exact rfl | simp [Act.eval]); (exact (hO5.alloc _).drew); (first | exact rfl | simp [Act.eval]); (exact rfl); (exact (one_val w5 _ _ rfl).drew); (first | omega | (simp; omega)); (simp; omega); intro A9 c9 w9 hO9 hG9)
          all_goals
            have HITS9 := Lib.hid (items_snoc (x := (LV.mk kz nz sz Anz nsz cnz Aiz isz ciz)) (w1 := (w5.alloc (.cells #[.int .i64 kz, .int .i64 nz, .string sz, .slice Anz nsz.length cnz, .slice Aiz isz.length ciz] 25)).drew) (hO5.alloc _).drew hG9 (fun y hy => ⟨LV.At.below (((Below.refl _ _).alloc (Nat.le_refl _) _).drew) _ (HITS5.out y hy).1, (HITS5.out y hy).2⟩) (LV.At.below (((Below.refl _ _).alloc (Nat.le_refl _) _).drew) _ hz5) hzf)
            have hB9 : Below w.heap.size w w9 := (hB5.alloc hs5 _).drew.trans (grew_below (hO5.alloc _).drew (by simp; omega) hG9)
            go_wp2
            go_roundw
            case rel => exact ⟨q + 1, _, _, r', (some ⟨bb, off + P, none⟩), (n2 - P), (c2 - P), rfl, rfl, by go_num, by omega, Lib.hid HR2.out, Lib.hid (by have := HLR.out; omega), by omega, HSUB.out, hO9, HITS9, by rw [js_snoc, HZJ.out, HJS.out]; exact Lib.hid HTK.out, by simp; omega, hB9⟩
            case measure => simp [RowKit.intOf]; omega
        · have hqMI : ¬ (q : Int) < (M : Int) := by rw [HM.out] at hqM; omega
          clear hdn hqM hrx hrr hx hfx hr' hilq hrl hP
          go_wp2_with fail
          (with_reducible refine HRD.out.mono ?_)
          rintro e w4 ⟨⟨z, he, hz1, hzj, hzo⟩, hb4⟩
          obtain ⟨kz, nz, sz, Anz, nsz, cnz, Aiz, isz, ciz⟩ := z
          have he' : e = .returned (.tuple #[.agg #[.int .i64 kz, .int .i64 nz, .string sz, .slice Anz nsz.length cnz, .slice Aiz isz.length ciz], .int .i64 (P : Nat), .int .i64 0]) := he
          clear he HRD
          subst he'
          have hB4 := hB.trans (hb4.mono hB.size)
          have HZJ : Hid ((LV.mk kz nz sz Anz nsz cnz Aiz isz ciz).j = x) := Lib.hid hzj
          obtain ⟨w5, hw5⟩ : ∃ w5, w5 = w4.alloc (.cells #[.int .i64 kz, .int .i64 nz, .string sz, .slice Anz nsz.length cnz, .slice Aiz isz.length ciz] 25) := ⟨_, rfl⟩
          have hI5 : Blk w5 w4.heap.size 25 #[.int .i64 kz, .int .i64 nz, .string sz, .slice Anz nsz.length cnz, .slice Aiz isz.length ciz] := by rw [hw5]; exact Blk.new w4 _ _
          have hb45 : Below w4.heap.size w4 w5 := by rw [hw5]; exact (Below.refl _ _).alloc (Nat.le_refl _) _
          have hB5 := hB4.trans (hb45.mono hB4.size)
          have hz5 := LV.At.below hb45 _ hz1
          have hbr5 : Below wr.heap.size wr w5 := (hb4.trans (hb45.mono hb4.size))
          have hO5 := VOwn.below hO hbr5
          have hzf : (LV.mk kz nz sz Anz nsz cnz Aiz isz ciz).On (FreeOf w.heap.size u) := LV.On.mono (fun k hk => ⟨by have := hB.size;  omega, own_lt hO (by  omega)⟩) _ hzo
          have HITS5 : Hid (∀ y ∈ is, y.At w5 ∧ y.On (FreeOf w.heap.size u)) := Lib.hid fun y hy => ⟨LV.At.below hbr5 _ (HITS.out y hy).1, (HITS.out y hy).2⟩
          obtain ⟨gz, hgz⟩ : ∃ g, w4.heap.size = g := ⟨_, rfl⟩
          rw [hgz] at hI5
          have HW5 := Lib.hid hw5
          have hs5 := hB5.size
          clear hw5 hzj hz1 hzo hb45
          go_upto_region 16 with fail
          first | rw [← HW5.out, hgz] | rw [← HW5.out]
          clear hgz
          obtain ⟨f0, f1, f2, f3, f4⟩ : w5.cell? ⟨gz, 0, none⟩ = some (.int .i64 kz) ∧ w5.cell? ⟨gz, 1, none⟩ = some (.int .i64 nz) ∧ w5.cell? ⟨gz, 2, none⟩ = some (.string sz) ∧ w5.cell? ⟨gz, 3, none⟩ = some (.slice Anz nsz.length cnz) ∧ w5.cell? ⟨gz, 4, none⟩ = some (.slice Aiz isz.length ciz) := ⟨hI5.cell 0, hI5.cell 1, hI5.cell 2, hI5.cell 3, hI5.cell 4⟩
          by_cases hcp : c2 = P
          · have hnp : n2 = P := by omega
            have hrn : r' = [] := List.eq_nil_of_length_eq_zero (by have := HLR.out; omega)
            subst hcp hnp hrn
            go_region_law (refine VOwn.step rfl (.tmp 52) (.tmp 54) rfl w.heap.size u is ?_ ?_ (w5.heap.size + 1) (some ⟨w5.heap.size, 0, none⟩) 1 1 [(LV.mk kz nz sz Anz nsz cnz Aiz isz ciz)] ?_ ?_ ?_ ?_ ?_ ?_; (first | exact rfl | simp [Act.eval]); (exact (hO5.alloc _).drew); (first | exact rfl | simp [Act.eval]); (exact rfl); (exact (one_val w5 _ _ rfl).drew); (first | omega | (simp; omega)); (simp; omega); intro A9 c9 w9 hO9 hG9)
            all_goals
              have HITS9 := Lib.hid (items_snoc (x := (LV.mk kz nz sz Anz nsz cnz Aiz isz ciz)) (w1 := (w5.alloc (.cells #[.int .i64 kz, .int .i64 nz, .string sz, .slice Anz nsz.length cnz, .slice Aiz isz.length ciz] 25)).drew) (hO5.alloc _).drew hG9 (fun y hy => ⟨LV.At.below (((Below.refl _ _).alloc (Nat.le_refl _) _).drew) _ (HITS5.out y hy).1, (HITS5.out y hy).2⟩) (LV.At.below (((Below.refl _ _).alloc (Nat.le_refl _) _).drew) _ hz5) hzf)
              have hB9 : Below w.heap.size w w9 := (hB5.alloc hs5 _).drew.trans (grew_below (hO5.alloc _).drew (by simp; omega) hG9)
              go_wp2
              go_roundw
              case rel => exact ⟨q + 1, _, _, [], (some ⟨bb, off, none⟩), 0, 0, rfl, rfl, by go_num, by omega, Lib.hid HR2.out, Lib.hid rfl, by omega, BRow.none, hO9, HITS9, by rw [js_snoc, HZJ.out, HJS.out]; exact Lib.hid HTK.out, by simp; omega, hB9⟩
              case measure => simp [RowKit.intOf]; omega
          go_region_law (refine VOwn.step rfl (.tmp 52) (.tmp 54) rfl w.heap.size u is ?_ ?_ (w5.heap.size + 1) (some ⟨w5.heap.size, 0, none⟩) 1 1 [(LV.mk kz nz sz Anz nsz cnz Aiz isz ciz)] ?_ ?_ ?_ ?_ ?_ ?_; (first | exact rfl | simp [Act.eval]); (exact (hO5.alloc _).drew); (first | exact rfl | simp [Act.eval]); (exact rfl); (exact (one_val w5 _ _ rfl).drew); (first | omega | (simp; omega)); (simp; omega); intro A9 c9 w9 hO9 hG9)
          all_goals
            have HITS9 := Lib.hid (items_snoc (x := (LV.mk kz nz sz Anz nsz cnz Aiz isz ciz)) (w1 := (w5.alloc (.cells #[.int .i64 kz, .int .i64 nz, .string sz, .slice Anz nsz.length cnz, .slice Aiz isz.length ciz] 25)).drew) (hO5.alloc _).drew hG9 (fun y hy => ⟨LV.At.below (((Below.refl _ _).alloc (Nat.le_refl _) _).drew) _ (HITS5.out y hy).1, (HITS5.out y hy).2⟩) (LV.At.below (((Below.refl _ _).alloc (Nat.le_refl _) _).drew) _ hz5) hzf)
            have hB9 : Below w.heap.size w w9 := (hB5.alloc hs5 _).drew.trans (grew_below (hO5.alloc _).drew (by simp; omega) hG9)
            go_wp2
            go_roundw
            case rel => exact ⟨q + 1, _, _, r', (some ⟨bb, off + P, none⟩), (n2 - P), (c2 - P), rfl, rfl, by go_num, by omega, Lib.hid HR2.out, Lib.hid (by have := HLR.out; omega), by omega, HSUB.out, hO9, HITS9, by rw [js_snoc, HZJ.out, HJS.out]; exact Lib.hid HTK.out, by simp; omega, hB9⟩
            case measure => simp [RowKit.intOf]; omega
    · have hqI : ¬ (q : Int) < (N : Int) := by omega
      have hxs : LV.js is = xs := by rw [HJS.out, List.take_of_length_le (by rw [HN.out]; omega)]
      have hisl : is.length = N := by rw [← js_len, hxs]; exact HN.out
      obtain ⟨A', c', hu, hl', hm', hci⟩ := hO.shape
      unfold maxLen at hm'
      have hRow : RowAt wr A' is c' := RowAt.mk hci (LV.allAt.2 fun y hy => (HITS.out y hy).1) ⟨hl', hm'⟩
      have HCO : Hid (Calls Tryd.prog 20 #[.slice A' N c', .slice D M cd] wr fun e w' => KeyRes K 0 wr.heap.size e w' ∧ Below wr.heap.size wr w') := Lib.hid (by
        have h := compound_any A' is c' D ds cd wr (HT.out.below hB) hRow ((HD.out.below hB).whole) (by omega)
        rw [hxs, HCX.out, ← HK.out, hisl, HM.out] at h
        exact h)
      rw [hisl] at hu
      subst hu
      have HXS := Lib.hid hxs
      have HISL := Lib.hid hisl
      clear hxs hisl
      go_wp2_with fail
      (with_reducible refine HCO.out.mono ?_)
      rintro e w3 ⟨⟨v3, A3, c3, rfl, hv3, hq3, hm3, hown3, hc3⟩, hb3⟩
      subst hv3
      have hB3 := hB.trans (hb3.mono hB.size)
      have HEQ : Hid (Calls Tryd.prog 32 #[.slice A NK c, .slice A3 NK c3] w3 fun e w' => e = .returned (.bool true) ∧ w3 = w') := Lib.hid (by
        have h := bytes_equal A A3 K K c c3 w3 (HB.out.below hB3).cells hc3 HB.out.oct HB.out.oct
        rw [show sameB K K = true by simp [sameB], HNK.out] at h
        exact h)
      have hRow3 := hRow.below hb3
      rw [HNK.out]
      clear HCO hc3
      go_wp2_with fail
      (with_reducible refine HEQ.out.mono ?_)
      rintro e w4 ⟨rfl, rfl⟩
      go_wp2
      go_ret2
      exact ⟨⟨A', c', is, rfl, HXS.out, hRow3⟩, hB3⟩
end Go.Proofs.YtpnbmgfnnmmokaaDoor
