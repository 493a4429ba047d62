/-
  The contract of stamp.Read.
-/
import Derived.Test.YtamfhjjepeggcaaRp
import Derived.Test.YtamfhjjepeggcaaKb
import Derived.Deep.RegionLaw
import Derived.Deep.RegionHeld3
import Derived.Deep.DeepCutAuto
set_option linter.unusedVariables false
namespace Go.Proofs.Ytamfhjjepeggcaa
open Go.RowKit

/-- A key whose fields are all zero. -/
abbrev zeroKey : Value := .agg #[.int .i64 0, .slice none 0 0, .int .u64 0]

/-- What stamp.Read answers. -/
def ReadPost (l : List Int) (w : World) (e : Ending) (w' : World) : Prop :=
  (isKey l ∧ ∃ A c, e = .returned (.tuple #[.agg #[.int .i64 (spOf l), .slice A (nmOf l).length c, .int .u64 (tmOf l)], .int .i64 0]) ∧ Cells w' w'.heap.size A (U8 (nmOf l)) ∧ Below w.heap.size w w') ∨
  (¬ isKey l ∧ e = .returned (.tuple #[zeroKey, .int .i64 11]) ∧ Below w.heap.size w w')

theorem push_key {w wr w2 : World} {o : Obj} {a z : Value} {zs : Array Value} {nm : List Int} {x : Int} {v v2 : Value} {t : TypeId} (ht : 5 ≠ t) (hown : Own wr (w.heap.size + 2) v nm) (hK : Blk wr (w.heap.size + 1) t #[a, v, z])
    (hR : Blk wr w.heap.size t zs) (hB : Below w.heap.size w wr) (hown2 : Own w2 (w.heap.size + 2) v2 (nm ++ [x])) (hg2 : Grew (wr.alloc o).drew v w2 v2) :
    Own (w2.setCell ⟨w.heap.size + 1, 1, none⟩ v2) (w.heap.size + 2) v2 (nm ++ [x]) ∧ Blk (w2.setCell ⟨w.heap.size + 1, 1, none⟩ v2) (w.heap.size + 1) t #[a, v2, z] ∧
      Blk (w2.setCell ⟨w.heap.size + 1, 1, none⟩ v2) w.heap.size t zs ∧ Below w.heap.size w (w2.setCell ⟨w.heap.size + 1, 1, none⟩ v2) := by
  have hK2 := (hK.alloc o).drew.grown hg2.by_ (hown.other hK ht)
  have hR2 := (hR.alloc o).drew.grown hg2.by_ (hown.other hR ht)
  have h1 := hK.lt
  refine ⟨hown2.store hK2 ht 1 _, hK2.set_ 1 v2, hR2.far (p := ⟨w.heap.size + 1, 1, none⟩) (by show w.heap.size ≠ w.heap.size + 1; omega) _, ?_⟩
  refine Below.setCell ?_ (by show w.heap.size ≤ w.heap.size + 1; omega) _
  refine ((hB.alloc hB.size o).drew).trans ((Below.refl _ _).grown hg2.by_ ?_ fun g hg => ?_)
  · show w.heap.size ≤ (wr.alloc o).heap.size
    simp; omega
  · have := (hown.lt g hg).1
    omega

theorem take_cons (l : List Int) (k n : Nat) (h : k < l.length) : (l.drop k).take (n + 1) = l[k] :: (l.drop (k + 1)).take n := by
  rw [List.drop_eq_getElem_cons h, List.take_succ_cons]

set_option maxHeartbeats 1000000 in
theorem read_short (A : Option Addr) (l : List Int) (c : Nat) (w : World) (h : l.length < 11) :
    Calls Try.prog 17 #[.slice A l.length c] w (ReadPost l w) := by
  go_enter Try.func17, Try.ntmps17
  go_wp2
  exact bodyPost_ret (v := .tuple #[zeroKey, .int .i64 11]) (by simp [results, Try.results17, go_sem]) rfl (.inr ⟨fun h => by have := h.1; omega, rfl, (Below.refl _ _).alloc (Nat.le_refl _) _⟩)

set_option maxHeartbeats 4000000 in
theorem read_long (b0 off m : Nat) (l : List Int) (c : Nat) (w : World) (hl : l.length = m + 11) (hm : m ≤ 100000000) (hcap : m + 11 ≤ c) (hcm : c ≤ 9223372036854775807) (hc : Cells w w.heap.size (some ⟨b0, off, none⟩) (U8 l)) (ho : Oct l) :
    Calls Try.prog 17 #[.slice (some ⟨b0, off, none⟩) (m + 11) c] w (ReadPost l w) := by
  have hsp : (U8 l)[0]? = some (.int .u8 (spOf l)) := by
    rcases l with _ | ⟨x, r⟩
    · simp at hl
    · rfl
  have hcell0 : w.cell? ⟨b0, off, none⟩ = some (.int .u8 (spOf l)) := hc.known hsp
  have hbb : b0 < w.heap.size := World.block_lt_of_cell? w _ hcell0
  have HL := Lib.hid hl; clear hl
  have hs0 : 0 ≤ spOf l ∧ spOf l ≤ 255 := by
    have h1 := HL.out
    rcases l with _ | ⟨x, r⟩
    · simp at h1
    · exact ho x (by simp)
  clear hsp
  have f1 : (0 : Int) < (m : Int) + 11 := by omega
  have f2 : (8 : Int) ≤ (m : Int) + 11 := by omega
  have f3 : (m : Int) + 11 - 8 ≤ (m : Int) + 11 := by omega
  have f4 : ¬ c = m + 11 - 8 := by omega
  have f5 : ¬ c = m + 3 := by omega
  have ht := tm_bd l ho (by have := HL.out; omega)
  have e3 : l.length - 8 = m + 3 := by have := HL.out; omega
  have e10 : l.length - 10 = m + 1 := by have := HL.out; omega
  have htm : tmOf l = 18446744073709551615 - num (l.drop (m + 3)) 0 := by unfold tmOf; rw [e3]
  have hnm : nmOf l = loose ((l.take (m + 1)).drop 1) := by unfold nmOf; rw [e10]
  have HT := Lib.hid htm
  have HN := Lib.hid hnm
  have h8 : (l.drop (m + 3)).length = 8 := by have := HL.out; simp; omega
  have H8 := Lib.hid h8
  clear htm hnm h8 e3 e10
  go_enter Try.func17, Try.ntmps17
  go_upto_region 3 with fail
  go_cut [4] (fun s4 wx => s4 = .pointer (some ⟨w.heap.size + 1, 0, none⟩) ∧ Blk wx (w.heap.size + 1) 25 #[.int .i64 (spOf l), .slice none 0 0, .int .u64 (tmOf l)] ∧ Blk wx w.heap.size 25 #[.int .i64 0, .slice none 0 0, .int .u64 0] ∧ Below w.heap.size w wx)
  case first =>
    have fw : IntKind.i64.wrap ((m : Int) + 11 - 8) = (m : Int) + 3 := by rw [IntKind.wrap_i64]; omega
    have f6 : (0 : Int) ≤ (m : Int) + 3 := by omega
    have f7 : (m : Int) + 3 ≤ (m : Int) + 11 := by omega
    have f8 : ((m : Int) + 3).toNat = m + 3 := by omega
    have hbits : bits BinOp.xor IntKind.u64 IntKind.u64.max (num (List.drop (m + 3) l) 0) = tmOf l := by
      have := num_eight _ (ho.drop (m + 3)) H8.out
      rw [not_u64 _ this.1 this.2, HT.out]
    have hws : IntKind.i64.wrap (spOf l) = spOf l := by rw [IntKind.wrap_i64]; omega
    go_region_held3 (fun w' => w'.cell? ⟨b0, off, none⟩ = some (.int .u8 (spOf l))) (go_keep)
      (first
        | (go_at_call 27; refine (get64_any b0 (off + (m + 3)) (l.drop (m + 3)) _ _ H8.out (Cells.subU (by first | exact (hc.alloc (Nat.le_refl _) _).drew.whole | exact ((hc.alloc (Nat.le_refl _) _).alloc (by simp) _).drew.whole) (m + 3)) (ho.drop _) (by omega)).mono ?_; rintro e w1 ⟨rfl, rfl⟩))
    all_goals (go_wp2_with fail; go_meet; exact ⟨rfl, (Blk.second w _ _ _).drew, ((Blk.new w _ _).alloc _).drew, (((Below.refl _ _).alloc (Nat.le_refl _) _).alloc (by simp) _).drew⟩)
  case rest =>
  obtain ⟨rfl, hK0, hR0, hB0⟩ := hcut
  go_wp2
  go_loopw [5] (fun r wr => ∃ (i n cp : Nat) (nm : List Int) (v : Value), r = .slice (some ⟨b0, off + 1 + i, none⟩) n cp ∧ n + i ≤ m ∧ m ≤ n + i ∧ n + 10 ≤ cp ∧ nm.length ≤ i ∧ Own wr (w.heap.size + 2) v nm ∧ nmOf l = nm ++ loose ((l.drop (1 + i)).take n) ∧
      Blk wr (w.heap.size + 1) 25 #[.int .i64 (spOf l), v, .int .u64 (tmOf l)] ∧ Blk wr w.heap.size 25 #[.int .i64 0, .slice none 0 0, .int .u64 0] ∧ Below w.heap.size w wr)
    (fun r _ => lenOf r)
  case atStart => exact ⟨0, m, c - 1, [], .slice none 0 0, rfl, by omega, by omega, by omega, by simp, Own.nil _ _, by rw [HN.out]; simp [List.drop_take], hK0, hR0, hB0⟩
  case round =>
    obtain ⟨i, n, cp, nm, v, rfl, hi1, hi2, hcp, hnl, hown, hnm, hK, hR, hB⟩ := hrel
    have HN' := Lib.hid hnm; clear hnm
    have hsz : w.heap.size + 2 ≤ wr.heap.size := by have := hK.lt; omega
    rcases n with _ | n
    · have hnm : nmOf l = nm := by rw [HN'.out]; simp [loose]
      have HM := Lib.hid hnm
      clear hnm
      have hnl2 : nm.length ≤ 100000000 := by omega
      have hon : Oct nm := by rw [← HM.out]; unfold nmOf; exact loose_oct _ ((ho.take _).drop _)
      obtain ⟨A1, c1, e1, _, _, hcn⟩ := hown.shape
      subst e1
      have q0 := hK.cell 0
      have q1 := hK.cell 1
      have q2 := hK.cell 2
      have r0 := hR.cell 0
      have r1 := hR.cell 1
      have r2 := hR.cell 2
      have zr0 := hR.free 0
      have zr1 := hR.free 1
      have zr2 := hR.free 2
      by_cases hz : wrongN (spOf l) nm.length = 0
      · have HZ := Lib.hid hz; clear hz
        go_wp2_with fail
        refine (write_ok (spOf l) A1 nm c1 (tmOf l) _ HZ.out hcn hon ht.1 ht.2).mono ?_
        rintro e w2 ⟨v2, rfl, hown2, hb2⟩
        obtain ⟨A2, c2, e2, _, _, hcell2⟩ := hown2.shape
        subst e2
        have hs2 := hb2.size
        have hK2 := hK.below hb2 hK.lt
        have hR2 := hR.below hb2 hR.lt
        have hB2 := hB.trans (hb2.mono (by omega))
        have hlw := writeL_len (spOf l) nm (tmOf l)
        have HLen : Hid (m + 11 = l.length) := HL.out.symm
        go_wp2_with fail
        rw [show m + 11 = l.length from HLen.out]
        refine (bytes_equal _ A2 l _ c c2 _ ((hc.below hB2).more (by omega)) hcell2 ho (oct_write hs0.1 hs0.2 hon)).mono ?_
        rintro e w3 ⟨rfl, rfl⟩
        rw [← show m + 11 = l.length from HLen.out]
        have p0 := hK2.cell 0
        have p1 := hK2.cell 1
        have p2 := hK2.cell 2
        have u0 := hR2.cell 0
        have u1 := hR2.cell 1
        have u2 := hR2.cell 2
        have zu0 := hR2.free 0
        have zu1 := hR2.free 1
        have zu2 := hR2.free 2
        by_cases hs : l = writeL (spOf l) nm (tmOf l)
        · rw [show sameB l (writeL (spOf l) nm (tmOf l)) = true from decide_eq_true hs]
          have HS := Lib.hid hs; clear hs
          go_wp2
          have hW := hR2.three (.int .i64 (spOf l)) (.slice A1 nm.length c1) (.int .u64 (tmOf l))
          have hWB := below_three hB2 (Nat.le_refl w.heap.size) (.int .i64 (spOf l)) (.slice A1 nm.length c1) (.int .u64 (tmOf l))
          have hown3 := ((hown.below hb2).storeT hR2 (by decide) (.int .i64 (spOf l)) (.slice A1 nm.length c1) (.int .u64 (tmOf l))).cells
          refine bodyPost_ret (v := .tuple #[.agg #[.int .i64 (spOf l), .slice A1 nm.length c1, .int .u64 (tmOf l)], .int .i64 0]) (by simp [results, Try.results17, go_sem, hW.cell]) rfl (.inl ⟨⟨by have := HL.out; omega, by rw [HM.out]; exact HZ.out, by rw [HM.out]; exact HS.out.symm⟩, A1, c1, by rw [HM.out], by rw [HM.out]; exact hown3, hWB⟩)
        · rw [show sameB l (writeL (spOf l) nm (tmOf l)) = false from decide_eq_false hs]
          have HS := Lib.hid hs; clear hs
          go_wp2
          have hW := hR2.three (.int .i64 0) (.slice none 0 0) (.int .u64 0)
          have hWB := below_three hB2 (Nat.le_refl w.heap.size) (.int .i64 0) (.slice none 0 0) (.int .u64 0)
          exact bodyPost_ret (v := .tuple #[zeroKey, .int .i64 11]) (by simp [results, Try.results17, go_sem, hW.cell]) rfl (.inr ⟨fun h => HS.out (by have := h.2.2; rw [HM.out] at this; exact this.symm), rfl, hWB⟩)
      · have hzb : (wrongN (spOf l) nm.length != 0) = true := by simpa using hz
        go_wp2_with fail
        refine (write_no (spOf l) A1 nm c1 (tmOf l) _ hz).mono ?_
        rintro e w2 ⟨rfl, hb2⟩
        have hR2 := hR.below hb2 hR.lt
        have u0 := hR2.cell 0
        have u1 := hR2.cell 1
        have u2 := hR2.cell 2
        have zu0 := hR2.free 0
        have zu1 := hR2.free 1
        have zu2 := hR2.free 2
        go_wp2
        have hW := hR2.three (.int .i64 0) (.slice none 0 0) (.int .u64 0)
        have hWB := below_three (hB.trans (hb2.mono (by omega))) (Nat.le_refl w.heap.size) (.int .i64 0) (.slice none 0 0) (.int .u64 0)
        exact bodyPost_ret (v := .tuple #[zeroKey, .int .i64 11]) (by simp [results, Try.results17, go_sem, hW.cell]) rfl (.inr ⟨fun h => hz (by have := h.2.1; rwa [HM.out] at this), rfl, hWB⟩)
    · have hlt : 1 + i < l.length := by have := HL.out; omega
      have hx : wr.cell? ⟨b0, off + 1 + i, none⟩ = some (.int .u8 (l[1 + i]'hlt)) := by
        have := (hc.below hB).knownU hlt
        rwa [← Nat.add_assoc] at this
      have hoct := ho.at_ (List.getElem?_eq_getElem hlt)
      have q1 : wr.cell? ⟨w.heap.size + 1, 1, none⟩ = some v := by rw [hK.cell]; rfl
      have z1 := hK.free 1
      have q1' : ∀ o, (wr.alloc o).cell? ⟨w.heap.size + 1, 1, none⟩ = some v := fun o => by rw [(hK.alloc o).cell]; rfl
      have hx' : ∀ o, (wr.alloc o).cell? ⟨b0, off + 1 + i, none⟩ = some (.int .u8 (l[1 + i]'hlt)) := fun o => (World.cell?_alloc_lt wr o _ (by show b0 < _; omega)).trans hx
      have g1 : (0 : Int) < (n : Int) + 1 := by omega
      obtain ⟨x, hxx⟩ : ∃ x, l[1 + i]'hlt = x := ⟨_, rfl⟩
      rw [hxx] at hx hoct
      simp only [hxx] at hx'
      have HX := Lib.hid hxx
      clear hxx
      go_upto_region 7 with fail
      go_cut [] (fun wx => ∃ v2, Own wx (w.heap.size + 2) v2 (nm ++ [x]) ∧ Blk wx (w.heap.size + 1) 25 #[.int .i64 (spOf l), v2, .int .u64 (tmOf l)] ∧ Blk wx w.heap.size 25 #[.int .i64 0, .slice none 0 0, .int .u64 0] ∧ Below w.heap.size w wx)
      case first =>
        go_region_law (refine app_stepS rfl (.tmp 35) (.tmp 39) rfl (w.heap.size + 2) v nm ?_ ?_ (wr.heap.size + 1) (some ⟨wr.heap.size, 0, none⟩) 1 [x] ?_ ?_ ?_ ?_ ?_; (simp [Act.eval]); (exact (hown.alloc _).drew); (simp [Act.eval]); (exact (cells_new wr [x]).drew); (simp; omega); (simp; omega); intro A2 c2 w2 hown2 hg2; have hK2 := (hK.alloc (.cells #[.int .u8 x] 5)).drew.grown hg2.by_ (hown.other hK (by decide)); have q2 := hK2.cell 1; have z2 := hK2.free 1)
        all_goals (go_wp2_with fail; go_meet; exact ⟨_, push_key (by decide) hown hK hR hB hown2 hg2⟩)
      case rest =>
        obtain ⟨v2, hown2, hK2, hR2, hB2⟩ := hcut
        have hy : wc.cell? ⟨b0, off + 1 + i, none⟩ = some (.int .u8 x) := by
          have := (hc.below hB2).knownU hlt
          rw [← Nat.add_assoc] at this
          rw [this, HX.out]
        have hcp1 : ¬ cp = 1 := by omega
        have hcp2 : ¬ cp - 1 = 1 := by omega
        have hstep := take_cons l (1 + i) n hlt
        have HST := Lib.hid hstep
        clear hstep q1 z1 q1' hx' hx hK hR hB hown
        by_cases hx0 : x = 0
        · have HX0 := Lib.hid hx0
          rcases n with _ | n
          · subst hx0
            go_wp2
            go_roundw
            case rel => exact ⟨i + 1, 0, cp - 1, nm ++ [0], v2, by simp [Nat.add_assoc], by omega, by omega, by omega, by simp; omega, hown2, by rw [HN'.out, HST.out, HX.out]; simp [loose], hK2, hR2, hB2⟩
            case measure => simp [lenOf]
          · subst hx0
            have hlt2 : 1 + i + 1 < l.length := by have := HL.out; omega
            have hstep2 := take_cons l (1 + i + 1) n hlt2
            have HST2 := Lib.hid hstep2
            clear hstep2
            go_wp2
            go_roundw
            case rel => exact ⟨i + 2, n, cp - 1 - 1, nm ++ [0], v2, by simp [Nat.add_assoc], by omega, by omega, by omega, by simp; omega, hown2, by rw [HN'.out, HST.out, HST2.out, HX.out]; simp [loose, Nat.add_assoc], hK2, hR2, hB2⟩
            case measure => simp [lenOf]; omega
        · have hxb : (x == 0) = false := by simpa using hx0
          have HX0 := Lib.hid hx0
          clear hx0
          go_wp2
          go_roundw
          case rel => exact ⟨i + 1, n, cp - 1, nm ++ [x], v2, by simp [Nat.add_assoc], by omega, by omega, by omega, by simp; omega, hown2, by rw [HN'.out, HST.out, HX.out, loose_cons HX0.out]; simp [Nat.add_assoc], hK2, hR2, hB2⟩
          case measure => simp [lenOf]
end Go.Proofs.Ytamfhjjepeggcaa
