/-
  JournalScans: its walk.
-/
import Derived.Test.YtcgnfkiimnpdcaaJv
import Derived.Test.YtcgnfkiimnpdcaaJm
import Derived.Test.YtcgnfkiimnpdcaaJo
import Derived.Test.YtcgnfkiimnpdcaaJr
import Derived.Test.YtcgnfkiimnpdcaaRw
import Derived.Laws.CopyOwn
set_option linter.unusedVariables false
namespace Go.Proofs.Ytcgnfkiimnpdcaa
open Go.RowKit

/-- A sector that begins with l, zeros behind. -/
def padS (l : List Int) : List Int := l.take 256 ++ List.replicate (256 - l.length) 0
theorem padS_len (l : List Int) : (padS l).length = 256 := by unfold padS; rw [List.length_append, List.length_take, List.length_replicate]; omega
theorem padS_oct {l : List Int} (h : Oct l) : Oct (padS l) := (h.take 256).app fun x hx => by have := List.eq_of_mem_replicate hx; omega
theorem padS_splice (l : List Int) : splice (U8 zeroSec) 0 (U8 (l.take 256)) = U8 (padS l) := by
  unfold splice padS
  rw [List.take_zero, List.nil_append, U8, U8, U8, List.map_append, Nat.zero_add, List.length_map]
  congr 1
  unfold zeroSec
  rw [List.map_replicate, List.map_replicate, List.drop_replicate, List.length_take]
  congr 1
  omega
theorem one8' : (Try.prog.info? 5).map (·.size) = some 1 := by kernel_rfl
theorem rd_wrote (s : DS) (n : Int) (l : List Int) (j : Int) : rd (wroteS s n l) j = if j = n then l else rd s j := by
  unfold rd
  show ((updC s.now n l) j).getD zeroSec = _
  unfold updC
  split <;> rfl
theorem copy_pos (wr : World) (Ar : Option Addr) (l : List Int) (hc : Cells wr wr.heap.size Ar (U8 l)) : 0 < (U8 (l.take 256)).length → (some ⟨wr.heap.size, 0, none⟩ : Option Addr) = some ⟨wr.heap.size, 0, none⟩ ∧ ∃ ad, Ar = some ad ∧ ∀ j v, (U8 (l.take 256))[j]? = some v → (wr.alloc (.cells (U8 zeroSec).toArray 5)).cell? (ad.add j) = some v := fun hp => by
  refine ⟨rfl, ?_⟩
  have hne : U8 (l.take 256) ≠ [] := fun e => by rw [e] at hp; cases hp
  obtain ⟨b, off, rfl, hb, hcell⟩ := (hc.takeU 256).form hne
  refine ⟨_, rfl, fun j v hj => ?_⟩
  rw [add_mk, World.cell?_alloc_lt wr _ _ (by exact hb)]
  exact hcell j v hj
theorem copy_min (l : List Int) : (U8 (l.take 256)).length = Nat.min l.length 256 := by
  rw [List.length_map, List.length_take]
  exact Nat.min_comm _ _
theorem copy_fit (l : List Int) : 0 + (U8 (l.take 256)).length ≤ (U8 zeroSec).length := by
  rw [List.length_map, List.length_map, List.length_take, zeroSec_ok.1]
  omega
theorem OwnR.snocV {W w6 : World} {base : Nat} {v v6 u : Value} {ls : List (List Int)} {l : List Int} {vs : List Value} (hr : W.ownsRow base 27 1 v ls.length vs) (hv : RowsV W vs ls) (hl : RowV W u l) (hr6 : w6.ownsRow base 27 1 v6 (ls.length + 1) (vs ++ [u])) (hg6 : Grew W v w6 v6) : OwnR w6 base v6 (ls ++ [l]) := by
  have hb := BK.grew hr hg6 (by decide)
  refine ⟨vs ++ [u], ?_, (hv.keep hb).snoc (hl.keep hb)⟩
  rw [List.length_append, hv.len]
  exact hr6
theorem scanF_le (R : Nat → List Int) (cnt : Nat) (E : Int) : ∀ (f at_ num : Nat), (scanF R cnt E f at_ num).length ≤ f ∧ ∀ b ∈ scanF R cnt E f at_ num, b.length ≤ 8000
  | 0, _, _ => ⟨Nat.le_refl _, fun b hb => by cases hb⟩
  | f + 1, at_, num => by
    unfold scanF
    split
    · cases hr : recAt R cnt at_ E num with
      | none => exact ⟨Nat.zero_le _, fun b hb => by cases hb⟩
      | some b =>
        obtain ⟨h1, h2⟩ := scanF_le R cnt E f (at_ + partsN b.length) (num + 1)
        refine ⟨by simp; exact h1, fun x hx => ?_⟩
        rcases List.mem_cons.1 hx with rfl | hx
        · exact (recAt_of hr).2.1
        · exact h2 x hx
    · exact ⟨Nat.zero_le _, fun b hb => by cases hb⟩
set_option maxHeartbeats 1000000 in
/-- A list is the same as itself: told. -/
theorem rsame_true (Aa Ab : Option Addr) (la : List (List Int)) (va vb : List Value) (ca cb : Nat) (w : World) (ha : Cells w w.heap.size Aa va) (hra : RowsV w va la) (hb : Cells w w.heap.size Ab vb) (hrb : RowsV w vb la) (hlen : ∀ x ∈ la, x.length ≤ 100000000) (hla : la.length ≤ 1000000) :
    Calls Try.prog 11 #[.slice Aa la.length ca, .slice Ab la.length cb] w fun e w' => e = .returned (.bool true) ∧ Below w.heap.size w w' := by
  have HF := Lib.hid (front_true Aa Ab la la va vb ca cb w ha hra hb hrb (List.take_of_length_le (Nat.le_refl _)).symm hlen hla)
  go_enter Try.func11, Try.ntmps11
  go_wp2_with (go_at_call 21; refine HF.out.mono ?_; rintro e w1 ⟨rfl, hb1⟩)
  go_ret
  exact ⟨rfl, hb1⟩

set_option maxRecDepth 8000 in
set_option maxHeartbeats 8000000 in
theorem scans_walk (A : Option Addr) (rs : List RowD) (c : Nat) (n E : Int) (w : World) (h : RowsAt w A rs) (hl : rs.length ≤ 9223372036854775807) (n0 : 0 ≤ n) (n1 : n ≤ 255) (hE0 : 0 ≤ E) (hE1 : E ≤ 18446744073709551615) :
    Calls Try.prog 3 #[.slice A rs.length c, .int .u8 n, .int .u64 E] w fun e w' => e = .returned (.bool true) ∧ Below w.heap.size w w' := by
  have hmk := make256
  obtain ⟨fr, rfl⟩ := Int.eq_ofNat_of_zero_le n0
  go_enter Try.func3, Try.ntmps3
  go_wp2_with fail
  refine (awake_any w).mono ?_
  rintro e w1 ⟨rfl, hb1⟩
  by_cases h20 : 20 < rs.length
  · have hg : (20 : Int) < (rs.length : Int) := by omega
    go_wp2_with fail
    refine (awake_any w1).mono ?_
    rintro e w2 ⟨rfl, hb2⟩
    go_wp2
    go_ret
    exact ⟨rfl, hb1.trans (hb2.mono hb1.size)⟩
  have hg : ¬ (20 : Int) < (rs.length : Int) := by omega
  obtain ⟨z, hz⟩ : ∃ z : Int, z = (fr : Int) + (rs.length : Int) := ⟨_, rfl⟩
  have hs0 := HJ.new z (by omega) (by omega)
  have hz0 : ∀ j : Nat, rd (newDS z) ((fr : Int) + (j : Int)) = ([] : List (List Int)).getD j zeroSec := fun j => rfl
  go_wp2_with fail
  refine (many_new (Many.nil w.heap.size w1) hb1.size ((fr : Int) + (rs.length : Int))).mono ?_
  rintro e w2 ⟨g, rfl, m2, hb2⟩
  have hB2 := hb1.trans (hb2.mono hb1.size)
  rw [← hz] at m2
  have HZZ := Lib.hid hz
  clear hz
  have hpn0 : (newDS z).pend.length ≤ 0 := Nat.le_refl _
  obtain ⟨s0, hs⟩ : ∃ s0, s0 = newDS z := ⟨_, rfl⟩
  rw [← hs] at hs0 hz0 m2 hpn0
  have m2' : Many w.heap.size w2 [(g, s0)] := m2
  clear hs m2 hb1 hb2
  go_wp2
  go_loopw [8, 9] (fun vl i wr => ∃ (k : Nat) (s : DS) (acc : List (List Int)), i = .int .i64 k ∧ k ≤ rs.length ∧ Hid (acc.length = k) ∧ Hid (∀ x ∈ acc, x.length = 256) ∧ HJ z s ∧ s.pend.length ≤ k ∧ Hid (∀ j : Nat, rd s ((fr : Int) + (j : Int)) = acc.getD j zeroSec) ∧ OwnR wr w.heap.size vl acc ∧ Many w.heap.size wr [(g, s)] ∧ Below w.heap.size w wr)
    (fun _ i _ => rs.length - (intOf i).toNat)
  case atStart => exact ⟨0, s0, [], rfl, Nat.zero_le _, Lib.hid rfl, Lib.hid (fun x hx => by cases hx), hs0, hpn0, Lib.hid hz0, OwnR.nil _ _, m2', hB2⟩
  case round =>
    obtain ⟨k, s, acc, rfl, hk, HACC, H256, hs, hpn, HRD, hown, hM, hB⟩ := hrel
    clear hs0 hz0 hpn0 m2' hB2
    obtain ⟨Al, cl, vsl, el, hlc1, hlc2, hvl, hrow, hrows⟩ := hown.len
    rw [HACC.out] at el
    subst el
    clear hvl hrow hrows
    have hsz := hB.size
    by_cases hlt : k < rs.length
    · have hgk : (k : Int) < (rs.length : Int) := by omega
      obtain ⟨b, off, rfl, hb, c0, hfit⟩ := (h.below hB).at_ hlt
      have hfu : s.fuse ≤ 9223372036854775807 := by rw [hs.fuse]; decide
      generalize rs[k] = r at *
      obtain ⟨Ar, l, cr⟩ := r
      simp only at c0
      have hcl : Cells wr wr.heap.size Ar (U8 l) := hfit.cells
      have hol : Oct l := hfit.ho
      have hlc : l.length ≤ cr := hfit.hl
      have hcm : cr ≤ 9223372036854775807 := hfit.hc
      clear hfit
      obtain ⟨e1, hs'⟩ := hs.write (n := (fr : Int) + (k : Int)) (l := padS l) (by omega) (by have := HZZ.out; omega) (padS_len l)
      have HE := Lib.hid e1
      clear e1
      have HRD' : Hid (∀ j : Nat, rd (wroteS s ((fr : Int) + (k : Int)) (padS l)) ((fr : Int) + (j : Int)) = (acc ++ [padS l]).getD j zeroSec) := Lib.hid fun j => by
        rw [rd_wrote, List.getD_eq_getElem?_getD]
        have ha := HACC.out
        by_cases e : j = k
        · rw [if_pos (by omega), List.getElem?_append_right (by omega), show j - acc.length = 0 by omega]
          rfl
        · rw [if_neg (by omega), HRD.out j, List.getD_eq_getElem?_getD]
          rcases Nat.lt_or_ge j acc.length with h1 | h1
          · rw [List.getElem?_append_left h1]
          · rw [List.getElem?_eq_none h1, List.getElem?_eq_none (by simp; omega)]
      have HW : Hid (∀ (w4 : World) (A : Option Addr), Many w.heap.size w4 [(g, s)] → Bytes w4 A (padS l) → w.heap.size ≤ w4.heap.size → Calls Try.prog 9 #[.pointer (some ⟨g, 0, none⟩), .int .i64 ((fr : Int) + (k : Int)), .slice A 256 256] w4 fun e w' => e = .returned (.int .i64 0) ∧ Many w.heap.size w' [(g, wroteS s ((fr : Int) + (k : Int)) (padS l))] ∧ Below w.heap.size w4 w' ∧ BKA w4 w') := Lib.hid fun w4 A h1 h2 h3 => by
        have := many_write (i := 0) h1 h3 rfl ((fr : Int) + (k : Int)) A (padS l) 256 hfu h2 (padS_oct hol) (by omega) (by rw [padS_len]; decide)
        rw [padS_len, HE.out] at this
        exact this
      have hz : (wr.alloc (.cells (U8 zeroSec).toArray 5)).heap[wr.heap.size]? = some (.cells (U8 zeroSec).toArray 5 (0, 0)) := Blk.new wr _ _
      have hbz : Below wr.heap.size wr (wr.alloc (.cells (U8 zeroSec).toArray 5)) := (Below.refl _ _).alloc (Nat.le_refl _) _
      have HPOS := Lib.hid (copy_pos wr Ar l hcl)
      have HZ := Lib.hid hz
      clear hz
      go_wp2_with (with_reducible refine wpList_copy_splice rfl (.tmp 34) (.tmp 38) 27 27 rfl 5 Try.underlying27 one8' (some ⟨wr.heap.size, 0, none⟩) Ar 256 256 l.length cr rfl rfl wr.heap.size 0 (U8 zeroSec) 5 HZ.out (U8 (l.take 256)) (copy_min l) HPOS.out (copy_fit l) (one_u8 _) wr.heap.size wr hbz (Nat.le_refl _) ?_)
      intro w3 HG3 hB3
      have hg3 := HG3.out
      rw [show List.take 256 (List.map (Value.int IntKind.u8) l) = U8 (l.take 256) from (U8_take l 256).symm, padS_splice] at hg3
      have hown3 : Own w3 0 (.slice (some ⟨wr.heap.size, 0, none⟩) (padS l).length (padS l).length) (padS l) := own_blk (base := 0) hg3 (Nat.zero_le _) (by rw [padS_len]; decide)
      have hrv3 : RowV w3 (.slice (some ⟨wr.heap.size, 0, none⟩) 256 256) (padS l) := by
        have := hown3.rowV (padS_oct hol)
        rw [padS_len] at this
        exact this
      have hby3 : Bytes w3 (some ⟨wr.heap.size, 0, none⟩) (padS l) := hown3.bytes
      have hBB3 := hB.trans (hB3.mono hsz)
      have hoN := hown.below hB3
      obtain ⟨vs4, hr4, hv4⟩ := hoN
      have hl4 := hv4.len
      have hacc := HACC.out
      have hr4k : w3.ownsRow w.heap.size 27 1 (.slice Al k cl) k vs4 := by rw [hl4, hacc] at hr4; exact hr4
      have hr4' := World.ownsRow.alloc hr4k (.cells #[.slice (some ⟨wr.heap.size, 0, none⟩) 256 256] 27)
      have hs3 := hBB3.size
      clear HG3 hg3 HZ HPOS hl4 hacc hr4 hown3
      go_wp2_with (at_builtin; refine appG_anyS Try.underlying22 info_rows rfl (by decide) rfl (.tmp 40) (.tmp 42) rfl w.heap.size _ k vs4 rfl hr4' _ _ 1 1 [.slice (some ⟨wr.heap.size, 0, none⟩) 256 256] rfl (cells_blk w3 _ _) (by simp) (by intro u hu; simp at hu; subst hu; rfl) (by unfold maxLen; omega) (by omega) (by simp; omega) ?_; intro A6 c6 w6 hrow6 hg6)
      have hba : Below w3.heap.size w3 (w3.alloc (.cells #[.slice (some ⟨wr.heap.size, 0, none⟩) 256 256] 27)) := (Below.refl _ _).alloc (Nat.le_refl _) _
      have hbg := grew_low hg6 hr4' (by simp; omega)
      have hownN : OwnR w6 w.heap.size (.slice A6 (k + 1) c6) (acc ++ [padS l]) := OwnR.snocV (by rw [HACC.out]; exact hr4') (hv4.keep (BK.of_below hba)) (hrv3.keep (BK.of_below hba)) (by rw [HACC.out]; exact hrow6) hg6
      have hM6 := ((hM.below hB3).below hba).grew hr4' free_rows (by decide) hg6
      have hby6 := (hby3.keep (BK.of_below hba)).keep (BK.grew hr4' hg6 (by decide))
      have hB6 := hBB3.trans ((hba.mono hs3).trans hbg)
      refine (HW.out w6 _ hM6 hby6 hB6.size).mono ?_
      rintro e w7 ⟨rfl, hM7, hb7, hk7⟩
      go_wp2
      go_roundw
      case rel => exact ⟨k + 1, _, acc ++ [padS l], by go_num, by omega, Lib.hid (by rw [List.length_append, HACC.out]; rfl), Lib.hid (fun x hx => by
          rcases List.mem_append.1 hx with hx | hx
          · exact H256.out x hx
          · rw [List.mem_singleton.1 hx]; exact padS_len l), hs', (by show (s.pend ++ [_]).length ≤ _; rw [List.length_append]; simp; omega), HRD', hownN.bkj hk7.j, hM7, hB6.trans hb7⟩
      case measure => simp [intOf]; omega
    · have hke : k = rs.length := by omega
      subst hke
      have hgk : ¬ ((rs.length : Nat) : Int) < (rs.length : Int) := by omega
      have hzz := HZZ.out
      have hC := scan_any hM hsz (i := 0) rfl fr rs.length E hs.down (by rw [hs.size]; omega) (by rw [hs.size]; omega) (by rw [hs.size]; omega) hE0 hE1
      rw [show (fun k : Nat => rd s ((fr : Int) + (k : Int))) = (fun j => acc.getD j zeroSec) from funext HRD.out] at hC
      have HLO : Hid (∀ w6 : World, Lo wr g w6 → BKA wr w6 ∧ Below w.heap.size wr w6) := Lib.hid fun w6 hlo => ⟨Lo.bka hM (i := 0) rfl hlo, Lo.low hM hsz (i := 0) rfl hlo⟩
      unfold ScanD at hC
      have HRS : Hid (∀ (w6 : World) (vs : List Value), Cells w6 w6.heap.size Al vs → RowsV w6 vs acc → Calls Try.prog 12 #[.slice Al rs.length cl, .int .u64 E] w6 fun e w' => ∃ v, e = .returned v ∧ OwnR w' w6.heap.size v (scanF (fun i => acc.getD i zeroSec) rs.length E (rs.length + 1) 0 0) ∧ Below w6.heap.size w6 w') := Lib.hid fun w6 vs h1 h2 => by
        have := rscan_any Al acc vs cl E w6 h1 h2 H256.out (by rw [HACC.out]; omega) hE0 hE1
        rw [HACC.out] at this
        exact this
      obtain ⟨hf1, hf2⟩ := scanF_le (fun i => acc.getD i zeroSec) rs.length E (rs.length + 1) 0 0
      obtain ⟨got, hgot⟩ : ∃ got, scanF (fun i => acc.getD i zeroSec) rs.length E (rs.length + 1) 0 0 = got := ⟨_, rfl⟩
      rw [hgot] at hC hf1 hf2 HRS
      have HC := Lib.hid hC
      have HF2 := Lib.hid hf2
      clear hC hgot hf2 hzz
      go_wp2_with fail
      refine HC.out.mono ?_
      clear HC
      rintro e w6 ⟨hlo6, v, rfl, hv⟩
      obtain ⟨hk6, hb6⟩ := HLO.out w6 hlo6
      have ho6 := hown.bkj hk6.j
      obtain ⟨Ag, cg, vg, eg, _, _, _, _⟩ := hv.shape
      subst eg
      obtain ⟨hxx, vl6, hcl6, hrl6⟩ := ho6.parts
      clear hxx
      have HRC := Lib.hid (HRS.out w6 vl6 hcl6 hrl6)
      go_wp2_with fail
      refine HRC.out.mono ?_
      clear HRC
      rintro e w7 ⟨v7, rfl, hv7, hb7⟩
      obtain ⟨A7, c7, vs7, e7, _, _, hc7, hr7⟩ := hv7.shape
      subst e7
      obtain ⟨hxx, vg7, hcg7, hrg7⟩ := (hv.below hb7).parts
      clear hxx
      have HS := Lib.hid (rsame_true Ag A7 got vg7 vs7 cg c7 w7 hcg7 hrg7 hc7 hr7 (fun x hx => by have := HF2.out x hx; omega) (by omega))
      go_wp2_with (go_at_call 11; refine HS.out.mono ?_; rintro e w8 ⟨rfl, hb8⟩)
      go_ret
      have hB6 := hB.trans hb6
      have hB7 := hB6.trans (hb7.mono hB6.size)
      exact ⟨rfl, hB7.trans (hb8.mono hB7.size)⟩
end Go.Proofs.Ytcgnfkiimnpdcaa
