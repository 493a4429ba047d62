/-
  MetaAhead.
-/
import Derived.Test.YtobdbkhjdhnooaaMg
import Derived.Test.YtobdbkhjdhnooaaRw
import Derived.Laws.CopyOwn
set_option linter.unusedVariables false
namespace Go.Proofs.Ytobdbkhjdhnooaa
open Go.RowKit

/-- A sector that begins with l, zeros behind. -/
def padS (l : List Int) : List Int := l.take 256 ++ List.replicate (256 - l.length) 0
theorem padS_len (l : List Int) : (padS l).length = 256 := by unfold padS; rw [List.length_append, List.length_take, List.length_replicate]; omega
theorem padS_oct {l : List Int} (h : Oct l) : Oct (padS l) := (h.take 256).app fun x hx => by have := List.eq_of_mem_replicate hx; omega
theorem padS_splice (l : List Int) : splice (U8 zeroSec) 0 (U8 (l.take 256)) = U8 (padS l) := by
  unfold splice padS
  rw [List.take_zero, List.nil_append, U8, U8, U8, List.map_append, Nat.zero_add, List.length_map]
  congr 1
  unfold zeroSec
  rw [List.map_replicate, List.map_replicate, List.drop_replicate, List.length_take]
  congr 1
  omega
theorem one8' : (Try.prog.info? 5).map (·.size) = some 1 := by kernel_rfl
/-- What is read is what lasts and what was written since. -/
def Nw (s : DS) : Prop := s.now = applyW s.lasts s.pend
theorem Nw.new (z : Int) : Nw (newDS z) := rfl
theorem Nw.wrote {s : DS} (h : Nw s) (n : Int) (l : List Int) : Nw (wroteS s n l) := by
  unfold Nw at *
  show updC s.now n l = applyW s.lasts (s.pend ++ [(n, l)])
  rw [applyW_snoc, ← h]
theorem Nw.synced {s : DS} (h : Nw s) : Nw (syncedS s) ∧ (syncedS s).lasts = (syncedS s).now := ⟨h, h.symm⟩
theorem Nw.saved {s : DS} (h : Nw s) (G : Int) (p : List Int) : Nw (savedS s G p) ∧ (savedS s G p).lasts = (savedS s G p).now := (h.synced.1.wrote _ _).synced
/-- A cut of a disk that was synced. -/
theorem rd_cut {s : DS} (hp : s.pend = []) (hl : s.lasts = s.now) (keep : List Bool) (j : Int) : rd (cutS s keep) j = rd s j := by
  unfold rd cutS
  rw [hp, hl]
  rfl
theorem HS.cut {z : Int} {s : DS} (h : HS z s) (keep : List Bool) : HS z (cutS s keep) := ⟨h.size, rfl, rfl⟩
theorem rd_wrote (s : DS) (n : Int) (l : List Int) (j : Int) : rd (wroteS s n l) j = if j = n then l else rd s j := by
  unfold rd
  show ((updC s.now n l) j).getD zeroSec = _
  unfold updC
  split <;> rfl

/-- What the first k rows have made of the disk. -/
structure AH (rs : List RowD) (k : Nat) (s : DS) : Prop where
  hs : HS 42 s
  nw : Nw s
  pend : s.pend.length = k
  at_ : ∀ j (hj : j < rs.length), j < k → rd s (2 + (j : Int)) = padS (rs[j]).l
theorem AH.step {rs : List RowD} {k : Nat} {s : DS} (h : AH rs k s) (hk : k < rs.length) (h40 : rs.length ≤ 40) :
    writeE s (2 + (k : Int)) (padS (rs[k]).l) = (0, wroteS s (2 + (k : Int)) (padS (rs[k]).l)) ∧ AH rs (k + 1) (wroteS s (2 + (k : Int)) (padS (rs[k]).l)) := by
  obtain ⟨e, h'⟩ := h.hs.write (n := 2 + (k : Int)) (l := padS (rs[k]).l) (by omega) (by omega) (padS_len _)
  refine ⟨e, h', h.nw.wrote _ _, by show (s.pend ++ [_]).length = _; rw [List.length_append, h.pend]; rfl, fun j hj hjk => ?_⟩
  rw [rd_wrote]
  by_cases e : j = k
  · subst e; rw [if_pos rfl]
  · rw [if_neg (by omega)]; exact h.at_ j hj (by omega)

theorem copy_pos (wr : World) (Ar : Option Addr) (l : List Int) (hc : Cells wr wr.heap.size Ar (U8 l)) : 0 < (U8 (l.take 256)).length → (some ⟨wr.heap.size, 0, none⟩ : Option Addr) = some ⟨wr.heap.size, 0, none⟩ ∧ ∃ ad, Ar = some ad ∧ ∀ j v, (U8 (l.take 256))[j]? = some v → (wr.alloc (.cells (U8 zeroSec).toArray 5)).cell? (ad.add j) = some v := fun hp => by
  refine ⟨rfl, ?_⟩
  have hne : U8 (l.take 256) ≠ [] := fun e => by rw [e] at hp; cases hp
  obtain ⟨b, off, rfl, hb, hcell⟩ := (hc.takeU 256).form hne
  refine ⟨_, rfl, fun j v hj => ?_⟩
  rw [add_mk, World.cell?_alloc_lt wr _ _ (by exact hb)]
  exact hcell j v hj
theorem copy_min (l : List Int) : (U8 (l.take 256)).length = Nat.min l.length 256 := by
  rw [List.length_map, List.length_take]
  exact Nat.min_comm _ _
theorem copy_fit (l : List Int) : 0 + (U8 (l.take 256)).length ≤ (U8 zeroSec).length := by
  rw [List.length_map, List.length_map, List.length_take, zeroSec_len]
  omega

set_option maxRecDepth 8000 in
set_option maxHeartbeats 8000000 in
theorem ahead_walk (A : Option Addr) (rs : List RowD) (c : Nat) (n : Int) (w : World) (h : RowsAt w A rs) (hl : rs.length ≤ 9223372036854775807) (n0 : 0 ≤ n) (n1 : n ≤ 255) :
    Calls Try.prog 5 #[.slice A rs.length c, .int .u8 n] w fun e w' => e = .returned (.bool true) ∧ Below w.heap.size w w' := by
  have hmk := make256
  go_enter Try.func5, Try.ntmps5
  go_wp2_with fail
  refine (awake_any w).mono ?_
  rintro e w1 ⟨rfl, hb1⟩
  by_cases h40 : 40 < rs.length
  · have hg : (40 : Int) < (rs.length : Int) := by omega
    go_wp2_with fail
    refine (awake_any w1).mono ?_
    rintro e w2 ⟨rfl, hb2⟩
    go_wp2
    go_ret
    exact ⟨rfl, hb1.trans (hb2.mono hb1.size)⟩
  have hg : ¬ (40 : Int) < (rs.length : Int) := by omega
  go_wp2_with fail
  refine (many_new (Many.nil w.heap.size w1) hb1.size 42).mono ?_
  rintro e w2 ⟨g, rfl, m2, hb2⟩
  have hB2 := hb1.trans (hb2.mono hb1.size)
  have ah0 : AH rs 0 (newDS 42) := ⟨HS.new 42 (by decide) (by decide), Nw.new 42, rfl, fun j _ hj => by omega⟩
  clear hb1 hb2
  go_wp2
  go_loopw [6] (fun i wr => ∃ (k : Nat) (s : DS), i = .int .i64 k ∧ k ≤ rs.length ∧ AH rs k s ∧ Many w.heap.size wr [(g, s)] ∧ Below w.heap.size w wr)
    (fun i _ => rs.length - (intOf i).toNat)
  case atStart => exact ⟨0, _, rfl, Nat.zero_le _, ah0, m2, hB2⟩
  case round =>
    obtain ⟨k, s, rfl, hk, hA, hM, hB⟩ := hrel
    clear ah0 m2 hB2
    by_cases hlt : k < rs.length
    · have hgk : (k : Int) < (rs.length : Int) := by omega
      obtain ⟨b, off, rfl, hb, c0, hfit⟩ := (h.below hB).at_ hlt
      obtain ⟨e1, hA'⟩ := hA.step hlt (by omega)
      have hfu : s.fuse ≤ 9223372036854775807 := by rw [hA.hs.fuse]; decide
      have hpn : s.pend.length ≤ 1000000000 := by rw [hA.pend]; omega
      have HA' := Lib.hid hA'
      have HE := Lib.hid e1
      clear hA' e1 hA
      generalize rs[k] = r at *
      obtain ⟨Ar, l, cr⟩ := r
      simp only at c0 HA' HE
      have hcl : Cells wr wr.heap.size Ar (U8 l) := hfit.cells
      have hol : Oct l := hfit.ho
      have hlc : l.length ≤ cr := hfit.hl
      have hcm : cr ≤ 9223372036854775807 := hfit.hc
      clear hfit
      have HW : Hid (∀ (w4 : World) (A : Option Addr), Many w.heap.size w4 [(g, s)] → Bytes w4 A (padS l) → w.heap.size ≤ w4.heap.size → Calls Try.prog 12 #[.pointer (some ⟨g, 0, none⟩), .int .i64 (2 + (k : Int)), .slice A 256 256] w4 fun e w' => e = .returned (.int .i64 0) ∧ Many w.heap.size w' [(g, wroteS s (2 + (k : Int)) (padS l))] ∧ Below w.heap.size w4 w') := Lib.hid fun w4 A h1 h2 h3 => by
        have := many_write (i := 0) h1 h3 rfl (2 + (k : Int)) A (padS l) 256 hfu h2 (padS_oct hol) hpn (by rw [padS_len]; decide)
        rw [padS_len, HE.out] at this
        exact this.mono fun e w' x => ⟨x.1, x.2.1, x.2.2.1⟩
      have hz : (wr.alloc (.cells (U8 zeroSec).toArray 5)).heap[wr.heap.size]? = some (.cells (U8 zeroSec).toArray 5 (0, 0)) := Blk.new wr _ _
      have hbz : Below wr.heap.size wr (wr.alloc (.cells (U8 zeroSec).toArray 5)) := (Below.refl _ _).alloc (Nat.le_refl _) _
      have hpos := copy_pos wr Ar l hcl
      have HPOS := Lib.hid hpos
      have HZ := Lib.hid hz
      clear hpos hz
      go_wp2_with (with_reducible refine wpList_copy_splice rfl (.tmp 29) (.tmp 33) 28 28 rfl 5 Try.underlying28 one8' (some ⟨wr.heap.size, 0, none⟩) Ar 256 256 l.length cr rfl rfl wr.heap.size 0 (U8 zeroSec) 5 HZ.out (U8 (l.take 256)) (copy_min l) HPOS.out (copy_fit l) (one_u8 _) wr.heap.size wr hbz (Nat.le_refl _) ?_)
      intro w3 HG3 hB3
      have hg3 := HG3.out
      rw [show List.take 256 (List.map (Value.int IntKind.u8) l) = U8 (l.take 256) from (U8_take l 256).symm, padS_splice] at hg3
      have hby3 : Bytes w3 (some ⟨wr.heap.size, 0, none⟩) (padS l) := Own.bytes (own_blk (base := 0) hg3 (Nat.zero_le _) (by rw [padS_len]; decide))
      have hBB3 := hB.trans (hB3.mono hB.size)
      clear HG3 hg3 HZ HPOS
      go_wp2_with fail
      refine (HW.out w3 _ (hM.below hB3) hby3 hBB3.size).mono ?_
      rintro e w4 ⟨rfl, hM4, hb4⟩
      go_wp2
      go_roundw
      case rel => exact ⟨k + 1, _, by go_num, by omega, HA'.out, hM4, hBB3.trans hb4⟩
      case measure => simp [intOf]; omega
    · have hke : k = rs.length := by omega
      subst hke
      have hgk : ¬ ((rs.length : Nat) : Int) < (rs.length : Int) := by omega
      obtain ⟨e1, hs1⟩ := hA.hs.save (by decide) (G := 1 + n) (p := []) (by omega) (by simp)
      obtain ⟨nw1, la1⟩ := hA.nw.saved (1 + n) []
      have hrd1 : ∀ j (hj : j < rs.length), rd (savedS s (1 + n) []) (2 + (j : Int)) = padS (rs[j]).l := fun j hj => by
        rw [rd_saved, if_neg (by omega)]
        exact hA.at_ j hj hj
      have hc := many_save (i := 0) hM hB.size rfl (1 + n) none [] 0 (by omega) (by omega) (Kept.of_bytes (Bytes.none _)) Oct.nil (by decide) (by rw [hA.hs.fuse]; decide) (by rw [hA.pend]; omega)
      rw [e1, show ([] : List Int).length = 0 from rfl] at hc
      have HC := Lib.hid hc
      have HRD := Lib.hid hrd1
      have HLA := Lib.hid la1
      clear hc e1 hrd1 la1 nw1 hM
      go_wp2_with fail
      refine HC.out.mono ?_
      clear HC
      rintro e w2 ⟨rfl, m2, hb2, _⟩
      have hB2 := hB.trans hb2
      have hb3 : Below w2.heap.size w2 (w2.alloc (.cells #[.bool false] 4)) := (Below.refl _ _).alloc (Nat.le_refl _) _
      have hkc : Cells (w2.alloc (.cells #[.bool false] 4)) (w2.alloc (.cells #[.bool false] 4)).heap.size (some ⟨w2.heap.size, 0, none⟩) ([false].map Value.bool) := (cells_blk w2 #[.bool false] 4).whole
      have hc := many_cut (i := 0) (m2.below hb3) (Nat.le_trans hB2.size hb3.size) rfl (some ⟨w2.heap.size, 0, none⟩) [false] 1 (by rw [hs1.size]; decide) (by rw [hs1.size]; decide) (by rw [pend_saved]; exact Nat.zero_le _) hkc (by decide)
      rw [show ([false] : List Bool).length = 1 from rfl] at hc
      have HC := Lib.hid hc
      clear hc hkc
      have hB3 := hB2.trans (hb3.mono hB2.size)
      have hrx : ∀ j (hj : j < rs.length), rd (cutS (savedS s (1 + n) []) [false]) (2 + (j : Int)) = padS (rs[j]).l := fun j hj => by
        rw [rd_cut (pend_saved _ _ _) HLA.out]
        exact HRD.out j hj
      have hsx := hs1.cut [false]
      have HRX := Lib.hid hrx
      clear hrx HRD HLA
      go_wp2_with fail
      refine HC.out.mono ?_
      clear HC
      rintro e w4 ⟨g2, rfl, m4, hb4⟩
      have hB4 := hB3.trans (hb4.mono hB3.size)
      have m4' : Many w.heap.size w4 [(g, savedS s (1 + n) []), (g2, cutS (savedS s (1 + n) []) [false])] := m4
      clear m4 m2 hb4 hb3 hb2
      generalize savedS s (1 + n) [] = s1 at *
      generalize cutS s1 [false] = x0 at *
      go_wp2
      go_loopw [9] (fun i wr => ∃ (k : Nat) (x : DS), i = .int .i64 k ∧ k ≤ rs.length ∧ HS 42 x ∧ (∀ j, rd x j = rd x0 j) ∧ Many w.heap.size wr [(g, s1), (g2, x)] ∧ Below w.heap.size w wr)
        (fun i _ => rs.length - (intOf i).toNat)
      case atStart => exact ⟨0, x0, rfl, Nat.zero_le _, hsx, fun _ => rfl, m4', hB4⟩
      case round =>
        obtain ⟨k, x, rfl, hk, hsx2, hrd2, hM, hB⟩ := hrel
        clear m4' hB4 hsx
        by_cases hlt : k < rs.length
        · have hgk : (k : Int) < (rs.length : Int) := by omega
          obtain ⟨b, off, rfl, hb, c0, hfit⟩ := (h.below hB).at_ hlt
          have hR : readE x (2 + (k : Int)) = (0, { x with a0 := wrap64 (x.a0 + 1) }) := by unfold readE; rw [hsx2.down, hsx2.size, if_neg (by decide), if_neg (by omega)]
          have hRL : readL x (2 + (k : Int)) = padS (rs[k]).l := by unfold readL; rw [hR, if_pos rfl, hrd2, HRX.out k hlt]
          have hsx3 : HS 42 { x with a0 := wrap64 (x.a0 + 1) } := ⟨hsx2.size, hsx2.down, hsx2.fuse⟩
          have hrd3 : ∀ j, rd { x with a0 := wrap64 (x.a0 + 1) } j = rd x0 j := fun j => hrd2 j
          have HRD3 := Lib.hid hrd3
          have HR := Lib.hid hR
          have HRL := Lib.hid hRL
          clear hrd2 hrd3 hR hRL hsx2
          generalize rs[k] = r at *
          obtain ⟨Ar, l, cr⟩ := r
          simp only at c0 HRL
          have hcl : Cells wr wr.heap.size Ar (U8 l) := hfit.cells
          have hol : Oct l := hfit.ho
          have hlc : l.length ≤ cr := hfit.hl
          have hcm : cr ≤ 9223372036854775807 := hfit.hc
          clear hfit
          have HC : Hid (∀ (w4 : World), Many w.heap.size w4 [(g, s1), (g2, x)] → w.heap.size ≤ w4.heap.size → Calls Try.prog 14 #[.pointer (some ⟨g2, 0, none⟩), .int .i64 (2 + (k : Int))] w4 fun e w' => ∃ A c, e = .returned (.tuple #[.slice A 256 c, .int .i64 0]) ∧ Bytes w' A (padS l) ∧ Many w.heap.size w' [(g, s1), (g2, { x with a0 := wrap64 (x.a0 + 1) })] ∧ Below w.heap.size w4 w' ∧ BKA w4 w') := Lib.hid fun w4 m1 m3 => by
            have := many_read (i := 1) m1 m3 rfl (2 + (k : Int))
            rw [HRL.out, HR.out, padS_len] at this
            refine this.mono ?_
            rintro e w' ⟨A, c, he, _, r1, r2, r3, r4⟩
            exact ⟨A, c, he, r1, r2, r3, r4⟩
          have hz : (wr.alloc (.cells (U8 zeroSec).toArray 5)).heap[wr.heap.size]? = some (.cells (U8 zeroSec).toArray 5 (0, 0)) := Blk.new wr _ _
          have hbz : Below wr.heap.size wr (wr.alloc (.cells (U8 zeroSec).toArray 5)) := (Below.refl _ _).alloc (Nat.le_refl _) _
          have HPOS := Lib.hid (copy_pos wr Ar l hcl)
          have HZ := Lib.hid hz
          clear hz HR HRL
          go_wp2_with (with_reducible refine wpList_copy_splice rfl (.tmp 58) (.tmp 62) 28 28 rfl 5 Try.underlying28 one8' (some ⟨wr.heap.size, 0, none⟩) Ar 256 256 l.length cr rfl rfl wr.heap.size 0 (U8 zeroSec) 5 HZ.out (U8 (l.take 256)) (copy_min l) HPOS.out (copy_fit l) (one_u8 _) wr.heap.size wr hbz (Nat.le_refl _) ?_)
          intro w3 HG3 hB3
          have hg3 := HG3.out
          rw [show List.take 256 (List.map (Value.int IntKind.u8) l) = U8 (l.take 256) from (U8_take l 256).symm, padS_splice] at hg3
          have hby3 : Bytes w3 (some ⟨wr.heap.size, 0, none⟩) (padS l) := Own.bytes (own_blk (base := 0) hg3 (Nat.zero_le _) (by rw [padS_len]; decide))
          have hBB3 := hB.trans (hB3.mono hB.size)
          clear HG3 hg3 HZ HPOS
          go_wp2_with fail
          refine (HC.out w3 (hM.below hB3) hBB3.size).mono ?_
          rintro e w4 ⟨A4, c4, rfl, hby4, hM4, hb4, hk4⟩
          have hby3' := hby3.keep hk4.b
          have hBB4 := hBB3.trans hb4
          have HS := Lib.hid (same_b A4 (some ⟨wr.heap.size, 0, none⟩) (padS l) (padS l) c4 256 w4 hby4.1 hby3'.1 (by rw [padS_len]; decide))
          rw [padS_len] at HS
          go_wp2_with fail
          refine HS.out.mono ?_
          rintro e w5 ⟨rfl, hb5⟩
          rw [show sameB (padS l) (padS l) = true by unfold sameB; exact decide_eq_true rfl]
          go_wp2
          go_roundw
          case rel => exact ⟨k + 1, _, by go_num, by omega, hsx3, HRD3.out, hM4.below hb5, hBB4.trans (hb5.mono hBB4.size)⟩
          case measure => simp [intOf]; omega
        · have hgk : ¬ (k : Int) < (rs.length : Int) := by omega
          go_wp2
          go_ret
          exact ⟨rfl, hB⟩
end Go.Proofs.Ytobdbkhjdhnooaa
