/-
  pages: Flush, Settle, Room, Used, Cached, Fresh.
-/
import Derived.Test.YtkjbicenhncpeaaPr
set_option linter.unusedVariables false
namespace Go.Proofs.Ytkjbicenhncpeaa
open Go.RowKit

/-- All is as it was but for the disk. -/
structure Same (s : PG) (ds : DS) (k : Nat) (s' : PG) (t : DS) : Prop where
  is : s'.is = s.is
  used : s'.used = s.used
  frm : s'.frm = s.frm
  pool : s'.pool = s.pool
  inv : PInv s' t
  step : DStep ds t k
  cont : ∀ m, content s' t m = content s ds m
theorem Same.refl {s : PG} {ds : DS} (h : PInv s ds) : Same s ds 0 s ds := ⟨rfl, rfl, rfl, rfl, h, DStep.refl _ _, fun _ => rfl⟩
theorem Same.wrote {s s1 : PG} {ds t t' : DS} {k : Nat} (h : Same s ds k s1 t) {m : Int} {l : List Int} {d : Bool} (hm : s1.fr m = some (l, d)) (hl : l.length = 1024) (hW : W4 t t' (s1.frm + 4 * m) l 4) : Same s ds (k + 4) (cleanS s1 m l) t' := by
  obtain ⟨i2, k2⟩ := h.inv.wrote hm hl hW
  exact ⟨h.is, h.used, h.frm, h.pool, i2, h.step.trans hW.dstep, fun j => (k2 j).trans (h.cont j)⟩
/-- What Flush answers. -/
def FlushRes (g gd : Nat) (s : PG) (ds : DS) (w : World) (F : Nat → Prop) (e : Ending) (w' : World) : Prop :=
  (e = .returned (.int .i64 0) ∧ ∃ s' t, Same s ds (4 * s.used.length) s' t ∧ OnPD g gd w F s' t w') ∨ (e = .returned (.int .i64 7) ∧ ¬ Healthy ds ∧ Dead g gd w F w')

set_option maxHeartbeats 4000000 in
theorem flush_any (g gd : Nat) (s : PG) (ds : DS) (F : Nat → Prop) (w : World) (h : PD w g gd s ds F) (hi : PInv s ds) (hp : ds.pend.length ≤ 90000000) :
    Calls Try.prog 14 #[.pointer (some ⟨g, 0, none⟩)] w (FlushRes g gd s ds w F) := by
  obtain ⟨p, D, hC⟩ := h.cur
  have c6 := hC.pages.alive
  obtain ⟨A, c, hvu, hcl, hcm, _⟩ := ownsRow_shape hC.pages.used
  obtain ⟨N, hN⟩ : ∃ N, s.used.length = N := ⟨_, rfl⟩
  have c5 : w.cell? ⟨g, 5, none⟩ = some (.slice A N c) := by rw [← hN, ← hvu]; exact hC.pages.blk.cell 5
  have hNb := hi.len
  rw [hN] at hNb hcl
  have HN := Lib.hid hN
  have HC := Lib.hid hC
  have HI := Lib.hid hi
  have HP := Lib.hid hp
  have H := Lib.hid h
  have HVU := Lib.hid hvu
  clear hC hi hp h hN hvu
  go_enter Try.func14, Try.ntmps14
  go_wp2_with fail
  refine (lost_any g false w c6).mono ?_
  rintro e w1 ⟨rfl, rfl⟩
  go_wp2
  go_loopw [13] (fun vi wr => ∃ (k : Nat) (s1 : PG) (t : DS) (D1 : Nat → Prop), vi = .int .i64 k ∧ k ≤ N ∧ Hid (Same s ds (4 * k) s1 t) ∧ Cur g gd w F wr s1 p t D1) (fun vi _ => N - (RowKit.intOf vi).toNat)
  case atStart => exact ⟨0, s, ds, D, rfl, Nat.zero_le _, Lib.hid (Same.refl HI.out), HC.out⟩
  case round =>
    obtain ⟨k, s1, t, D1, rfl, hk, HS, hC1⟩ := hrel
    by_cases hlt : k < N
    · have hkI : (k : Int) < (N : Int) := by omega
      have hkl : k < s.used.length := by rw [HN.out]; exact hlt
      obtain ⟨n, hn⟩ : ∃ n, s.used[k] = n := ⟨_, rfl⟩
      obtain ⟨A', c', hvu', _, _, hcu⟩ := ownsRow_shape hC1.pages.used
      rw [HVU.out] at hvu'
      injection hvu' with ha1 ha2 ha3
      subst ha1 ha3
      obtain ⟨b, off, hA, _, hcell⟩ := hcu.form (by
        intro e
        have := congrArg List.length e
        rw [List.length_map, HS.out.used] at this
        simp at this
        rw [this] at hkl
        simp at hkl)
      have hA2 : A = some ⟨b, off, none⟩ := hA
      subst hA2
      have ck : wr.cell? ⟨b, off + k, none⟩ = some (.int .i64 n) := hcell k _ (by rw [List.getElem?_map, HS.out.used, List.getElem?_eq_getElem hkl, hn]; rfl)
      have hmem : n ∈ s1.used := by rw [HS.out.used, ← hn]; exact List.getElem_mem _
      rcases hfr : s1.fr n with _ | ⟨l, d⟩
      · exact absurd hfr ((HS.out.inv.keys n).1 hmem)
      have c4 : wr.cell? ⟨g, 4, none⟩ = some (.map (some p.gm)) := hC1.pages.blk.cell 4
      have hlk := hC1.pages.map.lookup1 (P := Try.prog) (T := 67) (K := 3) (E := 73) Try.underlying67 Try.underlying3 (zeroFr _) n
      obtain ⟨f1, f2⟩ := hC1.pages.some_ n l d hfr
      rw [f1] at hlk
      simp only [Option.getD_some] at hlk
      have l2 : wr.cell? ⟨p.fb n, 2, none⟩ = some (.bool d) := f2.blk.cell 2
      have hrng := HS.out.inv.rng n hmem
      have hll := f2.row.len.1
      have HC1 := Lib.hid hC1
      have HF := Lib.hid hfr
      have HRNG := Lib.hid hrng
      have HLL := Lib.hid hll
      clear hC1 hfr hrng hll f1 f2 hmem hcell hcu hA hn hkl ha2
      rcases d with _ | _
      · go_wp2
        clear hlk l2
        go_roundw
        case rel => exact ⟨k + 1, s1, t, D1, by go_num, by omega, Lib.hid ⟨HS.out.is, HS.out.used, HS.out.frm, HS.out.pool, HS.out.inv, HS.out.step.mono (by omega), HS.out.cont⟩, HC1.out⟩
        case measure => simp [RowKit.intOf]; omega
      · have hpp : t.pend.length ≤ 100000000 := by have := HS.out.step.pend; have := HP.out; omega
        have HPP := Lib.hid hpp
        clear hpp
        go_wp2_with fail
        refine (pwrite_any g gd s1 p t D1 n l true wr HC1.out.pages HC1.out.disk HC1.out.gm HF.out HRNG.out.1 HRNG.out.2 (HS.out.inv.area HPP.out)).mono ?_
        rintro e w3 hpw
        rcases HC1.out.wrote HF.out hpw with ⟨rfl, t', D', hW, hC3⟩ | ⟨rfl, hnh, hdead⟩
        · have HS2 := Lib.hid (HS.out.wrote HF.out HLL.out hW)
          have HC3 := Lib.hid hC3
          clear hpw hC3 hW hlk l2 c4 ck
          go_wp2
          go_roundw
          case rel => exact ⟨k + 1, _, t', D', by go_num, by omega, Lib.hid HS2.out, HC3.out⟩
          case measure => simp [RowKit.intOf]; omega
        · have HD3 := Lib.hid hdead
          have HNH : Hid (¬ Healthy ds) := Lib.hid fun hh => hnh (HS.out.step.ok hh)
          clear hdead hpw hnh
          go_wp2
          go_ret
          exact .inr ⟨rfl, HNH.out, HD3.out⟩
    · have hkI : ¬ (k : Int) < (N : Int) := by omega
      have HC1 := Lib.hid hC1
      clear hC1
      go_wp2
      go_ret
      have e : k = N := by omega
      exact .inl ⟨rfl, s1, t, by rw [HN.out, ← e]; exact HS.out, HC1.out.on⟩
set_option maxHeartbeats 1000000 in
theorem flush_over (g : Nat) (w : World) (hc : w.cell? ⟨g, 6, none⟩ = some (.bool true)) :
    Calls Try.prog 14 #[.pointer (some ⟨g, 0, none⟩)] w fun e w' => e = .returned (.int .i64 7) ∧ w = w' := by
  go_enter Try.func14, Try.ntmps14
  go_wp2_with fail
  refine (lost_any g true w hc).mono ?_
  rintro e w1 ⟨rfl, rfl⟩
  go_wp2
  go_ret
  exact ⟨rfl, rfl⟩
set_option maxHeartbeats 1000000 in
theorem flush_nil (w : World) :
    Calls Try.prog 14 #[.pointer none] w fun e w' => e = .returned (.int .i64 7) ∧ w = w' := by
  go_enter Try.func14, Try.ntmps14
  go_wp2_with fail
  refine (lost_nil w).mono ?_
  rintro e w1 ⟨rfl, rfl⟩
  go_wp2
  go_ret
  exact ⟨rfl, rfl⟩

/-- What a page is behind Settle. -/
def settleI (x : Int) : Int := if x = 2 then 1 else if x = 3 then 0 else x
def settleL (is : List Int) : List Int := is.map settleI
def settleK (is : List Int) (k : Nat) : List Int := (is.take k).map settleI ++ is.drop k
theorem settleK_len (is : List Int) (k : Nat) : (settleK is k).length = is.length := by unfold settleK; simp; omega
theorem settleK_at {is : List Int} {k : Nat} (h : k < is.length) : (settleK is k)[k]? = is[k]? := by
  unfold settleK
  rw [List.getElem?_append_right (by simp; omega)]
  simp
  congr 1
  omega
theorem settleK_set {is : List Int} {k : Nat} (h : k < is.length) : (settleK is k).set k (settleI is[k]) = settleK is (k + 1) := by
  unfold settleK
  have hl : ((is.take k).map settleI).length = k := by simp; omega
  rw [List.set_append_right _ _ (by omega), hl, Nat.sub_self, List.drop_eq_getElem_cons h, List.set_cons_zero, List.take_succ_eq_append_getElem h, List.map_append, List.append_assoc]
  rfl
theorem settleK_next {is : List Int} {k : Nat} (h : k < is.length) (e : settleI is[k] = is[k]) : settleK is k = settleK is (k + 1) := by
  rw [← settleK_set h, e]
  symm
  apply List.ext_getElem?
  intro j
  rw [List.getElem?_set]
  split
  · rename_i hj
    subst hj
    rw [settleK_at h, List.getElem?_eq_getElem h, if_pos (by rw [settleK_len]; exact h)]
  · rfl
set_option maxHeartbeats 4000000 in
theorem settle_any (g gd : Nat) (s : PG) (ds : DS) (F : Nat → Prop) (w : World) (h : PD w g gd s ds F) (hi : PInv s ds) :
    Calls Try.prog 16 #[.pointer (some ⟨g, 0, none⟩)] w fun e w' => e = .returned (.tuple #[]) ∧ OnPD g gd w F { s with is := settleL s.is } ds w' := by
  obtain ⟨p, D, hC⟩ := h.cur
  obtain ⟨N, hN⟩ : ∃ N, s.is.length = N := ⟨_, rfl⟩
  have c3 : w.cell? ⟨g, 3, none⟩ = some (.slice (some ⟨p.gi, 0, none⟩) N N) := by rw [← hN]; exact hC.pages.blk.cell 3
  have hend := hi.end_
  have hfrm := hi.frm
  have hsz := hi.size
  rw [hN] at hend
  have HN := Lib.hid hN
  have HC := Lib.hid hC
  clear hC hi h hN
  go_enter Try.func16, Try.ntmps16
  go_wp2
  go_loopw [11] (fun vi wr => ∃ k : Nat, vi = .int .i64 k ∧ k ≤ N ∧ Cur g gd w F wr { s with is := settleK s.is k } p ds D) (fun vi _ => N - (RowKit.intOf vi).toNat)
  case atStart => exact ⟨0, rfl, Nat.zero_le _, by
    have : settleK s.is 0 = s.is := by simp [settleK]
    rw [this]; exact HC.out⟩
  case round =>
    obtain ⟨k, rfl, hk, hC1⟩ := hrel
    by_cases hlt : k < N
    · have hkI : (k : Int) < (N : Int) := by omega
      have hkl : k < s.is.length := by rw [HN.out]; exact hlt
      obtain ⟨x, hx⟩ : ∃ x, s.is[k] = x := ⟨_, rfl⟩
      have ck : wr.cell? ⟨p.gi, k, none⟩ = some (.int .i64 x) := by
        rw [hC1.pages.row.cell k]
        have := settleK_at hkl
        rw [List.getElem?_eq_getElem hkl, hx] at this
        simp [this]
      have zk := hC1.pages.row.free k
      have d3 : wr.cell? ⟨g, 3, none⟩ = some (.slice (some ⟨p.gi, 0, none⟩) N N) := by
        have := hC1.pages.blk.cell 3
        simp only [pcells] at this
        rw [settleK_len, HN.out] at this
        exact this
      by_cases h2 : x = 2
      · subst h2
        have hs := hC1.setIs k 1
        have he : (settleK s.is k).set k 1 = settleK s.is (k + 1) := by rw [← settleK_set hkl, hx]; rfl
        simp only [he] at hs
        have HS := Lib.hid hs
        clear hs he hC1 hx hkl
        go_wp2
        go_roundw
        case rel => exact ⟨k + 1, by go_num, by omega, HS.out⟩
        case measure => simp [RowKit.intOf]; omega
      · have e2 : (x == 2) = false := by simpa using h2
        by_cases h3 : x = 3
        · subst h3
          have hs := hC1.setIs k 0
          have he : (settleK s.is k).set k 0 = settleK s.is (k + 1) := by rw [← settleK_set hkl, hx]; rfl
          simp only [he] at hs
          have HS := Lib.hid hs
          clear hs he hC1 hx hkl
          go_wp2
          go_roundw
          case rel => exact ⟨k + 1, by go_num, by omega, HS.out⟩
          case measure => simp [RowKit.intOf]; omega
        · have e3 : (x == 3) = false := by simpa using h3
          have he : settleK s.is k = settleK s.is (k + 1) := settleK_next hkl (by rw [hx]; unfold settleI; rw [if_neg h2, if_neg h3])
          rw [he] at hC1
          have HS := Lib.hid hC1
          clear he hC1 hx hkl h2 h3
          go_wp2
          go_roundw
          case rel => exact ⟨k + 1, by go_num, by omega, HS.out⟩
          case measure => simp [RowKit.intOf]; omega
    · have hkI : ¬ (k : Int) < (N : Int) := by omega
      have HC1 := Lib.hid hC1
      clear hC1
      go_wp2
      go_end0
      have e : k = N := by omega
      have e2 : settleK s.is k = settleL s.is := by
        unfold settleK settleL
        rw [List.take_of_length_le (by rw [HN.out, e]; exact Nat.le_refl _), List.drop_eq_nil_of_le (by rw [HN.out, e]; exact Nat.le_refl _), List.append_nil]
      have := HC1.out.on
      rw [e2] at this
      exact ⟨rfl, this⟩
set_option maxHeartbeats 1000000 in
theorem settle_nil (w : World) :
    Calls Try.prog 16 #[.pointer none] w fun e w' => e = .returned (.tuple #[]) ∧ w = w' := by
  go_enter Try.func16, Try.ntmps16
  go_wp2
  exact bodyPost_ret (v := .tuple #[]) (by simp [results, Try.results16, go_sem]) rfl ⟨rfl, rfl⟩

/-- How many are free. -/
def roomK (is : List Int) (k : Nat) : Nat := (is.take k).countP (· == 0)
theorem roomK_le (is : List Int) (k : Nat) : roomK is k ≤ k := by
  unfold roomK
  exact Nat.le_trans List.countP_le_length (by simp; omega)
theorem roomK_next {is : List Int} {k : Nat} (h : k < is.length) : roomK is (k + 1) = roomK is k + (if is[k] = 0 then 1 else 0) := by
  unfold roomK
  rw [List.take_succ_eq_append_getElem h, List.countP_append]
  congr 1
  simp [List.countP_cons]
def room (is : List Int) : Nat := is.countP (· == 0)
set_option maxHeartbeats 4000000 in
theorem room_any (g gd : Nat) (s : PG) (ds : DS) (F : Nat → Prop) (w : World) (h : PD w g gd s ds F) (hi : PInv s ds) :
    Calls Try.prog 17 #[.pointer (some ⟨g, 0, none⟩)] w fun e w' => e = .returned (.int .i64 (room s.is)) ∧ w = w' := by
  obtain ⟨p, D, hC⟩ := h.cur
  obtain ⟨N, hN⟩ : ∃ N, s.is.length = N := ⟨_, rfl⟩
  have c3 : w.cell? ⟨g, 3, none⟩ = some (.slice (some ⟨p.gi, 0, none⟩) N N) := by rw [← hN]; exact hC.pages.blk.cell 3
  have hend := hi.end_
  have hfrm := hi.frm
  have hsz := hi.size
  rw [hN] at hend
  have HN := Lib.hid hN
  have HC := Lib.hid hC
  clear hC hi h hN
  go_enter Try.func17, Try.ntmps17
  go_wp2
  go_loopw [3, 13] (fun vn vi wr => ∃ k : Nat, vi = .int .i64 k ∧ k ≤ N ∧ vn = .int .i64 (roomK s.is k) ∧ w = wr) (fun _ vi _ => N - (RowKit.intOf vi).toNat)
  case atStart => exact ⟨0, rfl, Nat.zero_le _, by simp [roomK], rfl⟩
  case round =>
    obtain ⟨k, rfl, hk, rfl, rfl⟩ := hrel
    by_cases hlt : k < N
    · have hkI : (k : Int) < (N : Int) := by omega
      have hkl : k < s.is.length := by rw [HN.out]; exact hlt
      have ck := HC.out.pages.stateAt hkl
      have hnx := roomK_next hkl
      obtain ⟨x, hx⟩ : ∃ x, s.is[k] = x := ⟨_, rfl⟩
      rw [hx] at ck hnx
      have hle := roomK_le s.is k
      obtain ⟨R, hR⟩ : ∃ R, roomK s.is k = R := ⟨_, rfl⟩
      rw [hR] at hnx hle ⊢
      clear hx hkl hR
      by_cases h0 : x = 0
      · subst h0
        rw [if_pos rfl] at hnx
        have HX := Lib.hid hnx
        clear hnx
        go_wp2
        go_roundw
        case rel => exact ⟨k + 1, by go_num, by omega, by rw [HX.out]; go_num, trivial⟩
        case measure => simp [RowKit.intOf]; omega
      · have e0 : (x == 0) = false := by simpa using h0
        have HX : Hid (roomK s.is (k + 1) = R) := Lib.hid (by rw [hnx, if_neg h0]; rfl)
        clear hnx h0
        go_wp2
        go_roundw
        case rel => exact ⟨k + 1, by go_num, by omega, by rw [HX.out], trivial⟩
        case measure => simp [RowKit.intOf]; omega
    · have hkI : ¬ (k : Int) < (N : Int) := by omega
      have e : k = N := by omega
      have HX : Hid (roomK s.is k = room s.is) := Lib.hid (by
        unfold roomK room
        rw [List.take_of_length_le (by rw [HN.out, e]; exact Nat.le_refl _)])
      clear e
      go_wp2
      go_ret
      exact ⟨by rw [HX.out]; rfl, rfl⟩
set_option maxHeartbeats 1000000 in
theorem room_nil (w : World) :
    Calls Try.prog 17 #[.pointer none] w fun e w' => e = .returned (.int .i64 0) ∧ w = w' := by
  go_enter Try.func17, Try.ntmps17
  go_wp2
  go_ret
  exact ⟨rfl, rfl⟩

/-- The numbers of those that are held or fresh. -/
def usedK (is : List Int) : Nat → List Int
  | 0 => []
  | k + 1 => if is.getD k 0 = 1 ∨ is.getD k 0 = 2 then usedK is k ++ [(k : Int)] else usedK is k
theorem usedK_le (is : List Int) : ∀ k, (usedK is k).length ≤ k
  | 0 => Nat.le_refl _
  | k + 1 => by
    have := usedK_le is k
    unfold usedK
    split
    · simp; omega
    · omega
def usedL (is : List Int) : List Int := usedK is is.length
theorem info_int : (Try.prog.info? 3).map (fun i => (i.zero, i.size, i.bytes)) = some (some (.int .i64 0), 1, 8) := by kernel_rfl
set_option maxHeartbeats 4000000 in
theorem used_any (g gd : Nat) (s : PG) (ds : DS) (F : Nat → Prop) (w : World) (h : PD w g gd s ds F) (hi : PInv s ds) :
    Calls Try.prog 18 #[.pointer (some ⟨g, 0, none⟩)] w fun e w' => ∃ v, e = .returned v ∧ Nums w' w.heap.size v (usedL s.is) ∧ Below w.heap.size w w' := by
  obtain ⟨p, D, hC⟩ := h.cur
  obtain ⟨N, hN⟩ : ∃ N, s.is.length = N := ⟨_, rfl⟩
  have c3 : w.cell? ⟨g, 3, none⟩ = some (.slice (some ⟨p.gi, 0, none⟩) N N) := by rw [← hN]; exact hC.pages.blk.cell 3
  have hend := hi.end_
  have hfrm := hi.frm
  have hsz := hi.size
  rw [hN] at hend
  have HN := Lib.hid hN
  have HC := Lib.hid hC
  clear hC hi h hN
  go_enter Try.func18, Try.ntmps18
  go_wp2
  go_loopw [3, 13] (fun vl vi wr => ∃ k : Nat, vi = .int .i64 k ∧ k ≤ N ∧ Nums wr w.heap.size vl (usedK s.is k) ∧ Below w.heap.size w wr) (fun _ vi _ => N - (RowKit.intOf vi).toNat)
  case atStart => exact ⟨0, rfl, Nat.zero_le _, ⟨by simp [usedK], .inl ⟨rfl, rfl⟩⟩, Below.refl _ _⟩
  case round =>
    obtain ⟨k, rfl, hk, hown, hB⟩ := hrel
    by_cases hlt : k < N
    · have hkI : (k : Int) < (N : Int) := by omega
      have hkl : k < s.is.length := by rw [HN.out]; exact hlt
      have ck := (HC.out.below hB).pages.stateAt hkl
      obtain ⟨x, hx⟩ : ∃ x, s.is[k] = x := ⟨_, rfl⟩
      have hg : s.is.getD k 0 = x := by rw [List.getD_eq_getElem?_getD, List.getElem?_eq_getElem hkl, ← hx]; rfl
      have hle := usedK_le s.is k
      obtain ⟨Al, cl, hvl, _⟩ := ownsRow_shape hown
      obtain ⟨M, hM⟩ : ∃ M, (usedK s.is k).length = M := ⟨_, rfl⟩
      rw [hM] at hvl hle
      subst hvl
      rw [hx] at ck
      have HG := Lib.hid hg
      have HM := Lib.hid hM
      clear hx hkl hg hM
      have hsB := hB.size
      by_cases h12 : x = 1 ∨ x = 2
      · have HK : Hid (usedK s.is (k + 1) = usedK s.is k ++ [(k : Int)]) := Lib.hid (by rw [usedK, HG.out, if_pos h12])
        have fin : ∀ A2 c2 w2, w2.ownsRow w.heap.size 3 1 (.slice A2 (M + 1) c2) (M + 1) (I64 (usedK s.is k) ++ [.int .i64 k]) → Nums w2 w.heap.size (.slice A2 (M + 1) c2) (usedK s.is (k + 1)) := fun A2 c2 w2 hr => by
          rw [HK.out]
          unfold Nums
          rw [List.length_append, HM.out, show I64 (usedK s.is k ++ [(k : Int)]) = I64 (usedK s.is k) ++ [.int .i64 k] from by simp [I64]]
          exact hr
        have hown' : wr.ownsRow w.heap.size 3 1 (.slice Al M cl) M (I64 (usedK s.is k)) := by have := hown; unfold Nums at this; rw [HM.out] at this; exact this
        have HFIN := Lib.hid fin
        have HOWN := Lib.hid hown'
        clear fin hown hown'
        rcases h12 with rfl | rfl
        all_goals
          go_wp2_with (first | (at_builtin; refine appG_anyS Try.underlying30 info_int rfl (by decide) rfl (.tmp 24) (.tmp 26) rfl w.heap.size (.slice Al M cl) M (I64 (usedK s.is k)) rfl (HOWN.out.alloc _) _ _ 1 1 [.int .i64 k] rfl (cells_blk wr _ _) (by simp) (by intro u hu; simp at hu; subst hu; rfl) (by unfold maxLen; omega) (by omega) (by simp; omega) ?_; intro A6 c6 w6 hrow6 hg6))
          have hB6 : Below w.heap.size w w6 := (hB.alloc hsB (.cells #[.int .i64 k] 3)).grown hg6.by_ (by simp; omega) (fun b hb => by
            rcases (HOWN.out.alloc (.cells #[.int .i64 k] 3)).2 with ⟨e, _⟩ | ⟨b', _, _, e, hbb, _⟩
            · rw [e] at hb; cases hb
            · rw [e] at hb; injection hb with hb; rw [← hb]; exact hbb)
          go_roundw
          case rel => exact ⟨k + 1, by go_num, by omega, HFIN.out _ _ _ hrow6, hB6⟩
          case measure => simp [RowKit.intOf]; omega
      · have HK : Hid (usedK s.is (k + 1) = usedK s.is k) := Lib.hid (by rw [usedK, HG.out, if_neg h12])
        have e1 : (x == 1) = false := by simp; omega
        have e2 : (x == 2) = false := by simp; omega
        have HOWN := Lib.hid hown
        clear h12 hown
        go_wp2
        go_roundw
        case rel => exact ⟨k + 1, by go_num, by omega, by rw [HK.out]; exact HOWN.out, hB⟩
        case measure => simp [RowKit.intOf]; omega
    · have hkI : ¬ (k : Int) < (N : Int) := by omega
      have e : k = N := by omega
      have HX : Hid (usedK s.is k = usedL s.is) := Lib.hid (by unfold usedL; rw [HN.out, e])
      have HOWN := Lib.hid hown
      clear e hown
      go_wp2
      go_ret
      exact ⟨_, rfl, by rw [← HX.out]; exact HOWN.out, hB⟩
set_option maxHeartbeats 1000000 in
theorem used_nil (w : World) :
    Calls Try.prog 18 #[.pointer none] w fun e w' => e = .returned (.slice none 0 0) ∧ w = w' := by
  go_enter Try.func18, Try.ntmps18
  go_wp2
  go_ret
  exact ⟨rfl, rfl⟩
set_option maxHeartbeats 1000000 in
theorem cached_any (g gd : Nat) (s : PG) (ds : DS) (F : Nat → Prop) (w : World) (h : PD w g gd s ds F) (hi : PInv s ds) :
    Calls Try.prog 19 #[.pointer (some ⟨g, 0, none⟩)] w fun e w' => e = .returned (.int .i64 s.used.length) ∧ w = w' := by
  obtain ⟨p, D, hC⟩ := h.cur
  have c4 : w.cell? ⟨g, 4, none⟩ = some (.map (some p.gm)) := hC.pages.blk.cell 4
  have hlen := hC.pages.map.len (P := Try.prog) (T := 67) (K := 3) (E := 73) Try.underlying67 s.used hi.nodup (fun k => hi.keysM hC.pages k)
  obtain ⟨N, hN⟩ : ∃ N, s.used.length = N := ⟨_, rfl⟩
  rw [hN] at hlen ⊢
  clear hC hi h hN
  go_enter Try.func19, Try.ntmps19
  go_wp2
  go_ret
  exact ⟨rfl, rfl⟩
set_option maxHeartbeats 1000000 in
theorem cached_nil (w : World) :
    Calls Try.prog 19 #[.pointer none] w fun e w' => e = .returned (.int .i64 0) ∧ w = w' := by
  go_enter Try.func19, Try.ntmps19
  go_wp2
  go_ret
  exact ⟨rfl, rfl⟩
set_option maxHeartbeats 1000000 in
theorem fresh_any (g gd : Nat) (s : PG) (ds : DS) (F : Nat → Prop) (n : Int) (w : World) (h : PD w g gd s ds F) :
    Calls Try.prog 20 #[.pointer (some ⟨g, 0, none⟩), .int .i64 n] w fun e w' => e = .returned (.bool (isOf s.is n == 2)) ∧ w = w' := by
  obtain ⟨p, D, hC⟩ := h.cur
  have HOF := Lib.hid (of_any g gd s p n w hC.pages)
  clear hC h
  go_enter Try.func20, Try.ntmps20
  go_wp2_with fail
  refine HOF.out.mono ?_
  rintro e w1 ⟨rfl, rfl⟩
  go_wp2
  go_ret
  exact ⟨rfl, rfl⟩
set_option maxHeartbeats 1000000 in
theorem fresh_nil (n : Int) (w : World) :
    Calls Try.prog 20 #[.pointer none, .int .i64 n] w fun e w' => e = .returned (.bool false) ∧ w = w' := by
  go_enter Try.func20, Try.ntmps20
  go_wp2
  go_ret
  exact ⟨rfl, rfl⟩
end Go.Proofs.Ytkjbicenhncpeaa
