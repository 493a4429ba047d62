/-
  pages.Open; page, awake.
-/
import Derived.Test.YtkjbicenhncpeaaPs
import Derived.Deep.OwnRows
set_option linter.unusedVariables false
namespace Go.Proofs.Ytkjbicenhncpeaa
open Go.RowKit

/-- A page whose bytes are all m. -/
def pgL (m : Int) : List Int := List.replicate 1024 (m % 256)
theorem pgL_len (m : Int) : (pgL m).length = 1024 := by unfold pgL; exact List.length_replicate
theorem pgL_oct (m : Int) : Oct (pgL m) := fun x hx => by
  have := List.eq_of_mem_replicate hx
  omega
/-- The first k bytes are set. -/
def pgK (m : Int) (k : Nat) : List Int := List.replicate k (m % 256) ++ List.replicate (1024 - k) 0
theorem pgK_len (m : Int) (k : Nat) (h : k ≤ 1024) : (pgK m k).length = 1024 := by unfold pgK; rw [List.length_append, List.length_replicate, List.length_replicate]; omega
theorem pgK_all (m : Int) : pgK m 1024 = pgL m := by
  unfold pgK pgL
  rw [Nat.sub_self, List.replicate_zero, List.append_nil]
theorem pgK_at (m : Int) (k : Nat) (h : k < 1024) : ∃ v : Int, (U8 (pgK m k)).toArray[k]? = some (.int .u8 v) := by
  have : k < (pgK m k).length := by rw [pgK_len m k (by omega)]; exact h
  exact ⟨(pgK m k)[k], by simp [U8, this]⟩
theorem pgK_succ (m : Int) (k : Nat) (h : k < 1024) : (U8 (pgK m k)).toArray.setIfInBounds k (.int .u8 (m % 256)) = (U8 (pgK m (k + 1))).toArray := by
  apply Array.toList_inj.1
  rw [Array.toList_setIfInBounds]
  show (U8 (pgK m k)).set k _ = U8 (pgK m (k + 1))
  unfold U8
  rw [← List.map_set]
  congr 1
  unfold pgK
  rw [List.set_append_right _ _ (by simp)]
  have e : 1024 - k = (1024 - (k + 1)) + 1 := by omega
  rw [e, List.replicate_succ]
  simp [List.replicate_succ']

set_option maxHeartbeats 1000000 in
theorem page_any (m : Int) (w : World) :
    Calls Try.prog 11 #[.int .i64 m] w fun e w' => e = .returned (.slice (some ⟨w.heap.size, 0, none⟩) 1024 1024) ∧ Blk w' w.heap.size 5 (U8 (pgL m)).toArray ∧ Below w.heap.size w w' := by
  have hmk := makePage
  go_enter Try.func11, Try.ntmps11
  go_wp2
  have hb0 : Blk (w.alloc (.cells (U8 zeroPage).toArray 5)) w.heap.size 5 (U8 (pgK m 0)).toArray := Blk.new w _ _
  have hB0 : Below w.heap.size w (w.alloc (.cells (U8 zeroPage).toArray 5)) := (Below.refl _ _).alloc (Nat.le_refl _) _
  generalize w.alloc (.cells (U8 zeroPage).toArray 5) = W at *
  clear hmk
  obtain ⟨N, hN⟩ : ∃ N : Nat, N = 1024 := ⟨_, rfl⟩
  rw [← hN]
  have HN := Lib.hid hN
  clear hN
  go_loopw [4] (fun i wr => ∃ k : Nat, i = .int .i64 k ∧ k ≤ N ∧ Blk wr w.heap.size 5 (U8 (pgK m k)).toArray ∧ Below w.heap.size w wr)
    (fun i _ => N - (intOf i).toNat)
  case atStart => exact ⟨0, rfl, Nat.zero_le _, hb0, hB0⟩
  case round =>
    obtain ⟨k, rfl, hk, hb, hB⟩ := hrel
    by_cases hlt : k < N
    · have hl2 : k < 1024 := by have := HN.out; omega
      have hNs : N ≤ 1024 := by have := HN.out; omega
      obtain ⟨v, hv⟩ := pgK_at m k hl2
      have ck : wr.cell? ⟨w.heap.size, k, none⟩ = some (.int .u8 v) := by rw [hb.cell k]; exact hv
      have zk := hb.free k
      have hb' := hb.set_ k (.int .u8 (m % 256))
      rw [pgK_succ m k hl2] at hb'
      have HB := Lib.hid hb'
      clear hb' hv hb hb0
      have hwm : IntKind.u8.wrap m = m % 256 := IntKind.wrap_u8 m
      have hgk : (k : Int) < (N : Int) := by omega
      go_wp2
      go_roundw
      case rel => exact ⟨k + 1, by go_num, by omega, HB.out, hB.setCell (p := ⟨w.heap.size, k, none⟩) (Nat.le_refl _) _⟩
      case measure => simp [intOf]; omega
    · have hNk : k = N := by omega
      have HK := Lib.hid hNk
      clear hNk
      have hgk : ¬ (k : Int) < (N : Int) := by omega
      go_wp2
      go_ret
      have e1 := HN.out
      have e2 := HK.out
      subst e2
      subst e1
      refine ⟨rfl, ?_, hB⟩
      rw [← pgK_all m]
      exact hb

/-- Those that are held from the beginning. -/
def heldL (count : Nat) (keep : List Int) : List Int := keep.foldl (fun is n => is.set n.toNat 1) (List.replicate count 0)
theorem heldL_snoc (count : Nat) (l : List Int) (n : Int) : heldL count (l ++ [n]) = (heldL count l).set n.toNat 1 := by unfold heldL; rw [List.foldl_append]; rfl
theorem heldL_len (count : Nat) (keep : List Int) : (heldL count keep).length = count := by
  have : ∀ (l : List Int) (is : List Int), (l.foldl (fun is n => is.set n.toNat 1) is).length = is.length := by
    intro l
    induction l with
    | nil => intro is; rfl
    | cons x r ih => intro is; rw [List.foldl_cons, ih]; simp
  unfold heldL
  rw [this]; simp
theorem heldL_at (count : Nat) (keep : List Int) (hk : ∀ n ∈ keep, 0 ≤ n) (j : Nat) (hj : j < count) (hn : (j : Int) ∉ keep) : (heldL count keep)[j]? = some 0 := by
  have : ∀ (l : List Int) (is : List Int), (∀ n ∈ l, 0 ≤ n) → (j : Int) ∉ l → (l.foldl (fun is n => is.set n.toNat 1) is)[j]? = is[j]? := by
    intro l
    induction l with
    | nil => intro is _ _; rfl
    | cons x r ih =>
      intro is h1 h2
      rw [List.foldl_cons, ih _ (fun n hn => h1 n (by simp [hn])) (fun h => h2 (by simp [h]))]
      rw [List.getElem?_set_ne]
      intro e
      have := h1 x (by simp)
      exact h2 (by rw [← e]; simp; left; omega)
  unfold heldL
  rw [this keep _ hk hn]
  simp [hj]
theorem info_state : (Try.prog.info? 70).map (fun i => (i.zero, i.size, i.bytes)) = some (some (.int .i64 0), 1, 8) := by kernel_rfl
theorem make_states (k : Nat) (hk : k ≤ 100000000) (w : World) : (Instr.makeSlice 66 (.int .i64 k) (.int .i64 k)).run Try.prog w = .ok (.slice (some ⟨w.heap.size, 0, none⟩) k k) (w.alloc (.cells (Array.replicate k (.int .i64 0)) 70)) := by
  obtain ⟨i0, hi, hz0, hz1, hz2⟩ := info_parts info_state
  have h := run_make (P := Try.prog) w 66 70 i0 (.int .i64 0) Try.underlying66 hi hz0 .i64 .i64 k k (by omega) (Int.le_refl _) (by rw [hz2]; omega) (by omega)
  have e3 : (Value.int .i64 0).cells = #[.int .i64 0] := rfl
  rw [Int.toNat_natCast, e3, hz1, Nat.mul_one, madeCells_one] at h
  have e4 : (List.replicate k (Value.int .i64 0)).toArray = Array.replicate k (.int .i64 0) := by simp
  rw [e4] at h
  exact h
/-- New pages. -/
def newPG (frm pool : Int) (is : List Int) : PG := ⟨frm, pool, is, [], fun _ => none⟩
def newPP (b : Nat) : PP := ⟨b, b + 1, .slice none 0 0, fun _ => none, fun _ => 0, fun _ => .slice none 0 0⟩
def openW (w : World) (gd : Nat) (frm pool : Int) (count : Nat) : World := ((w.alloc (.cells (Array.replicate count (.int .i64 0)) 70)).alloc (.map #[] 0)).alloc (.cells #[.pointer (some ⟨gd, 0, none⟩), .int .i64 frm, .int .i64 pool, .slice (some ⟨w.heap.size, 0, none⟩) count count, .map (some (w.heap.size + 1)), .slice none 0 0, .bool false] 69)
theorem openW_below (w : World) (gd : Nat) (frm pool : Int) (count : Nat) : Below w.heap.size w (openW w gd frm pool count) := (((Below.refl _ _).alloc (Nat.le_refl _) _).alloc (by simp) _).alloc (by simp; omega) _
theorem openW_at (w : World) (gd : Nat) (frm pool : Int) (count : Nat) : PagesOf (openW w gd frm pool count) (w.heap.size + 1 + 1) gd (newPG frm pool (List.replicate count 0)) (newPP w.heap.size) where
  blk := by
    have h := Blk.new ((w.alloc (.cells (Array.replicate count (.int .i64 0)) 70)).alloc (.map #[] 0)) 69 #[.pointer (some ⟨gd, 0, none⟩), .int .i64 frm, .int .i64 pool, .slice (some ⟨w.heap.size, 0, none⟩) count count, .map (some (w.heap.size + 1)), .slice none 0 0, .bool false]
    rw [World.size_alloc, World.size_alloc] at h
    have e : pcells gd (newPG frm pool (List.replicate count 0)) (newPP w.heap.size) false = #[.pointer (some ⟨gd, 0, none⟩), .int .i64 frm, .int .i64 pool, .slice (some ⟨w.heap.size, 0, none⟩) count count, .map (some (w.heap.size + 1)), .slice none 0 0, .bool false] := by
      simp [pcells, newPG, newPP]
    rw [e]
    exact h
  row := by
    have h : Blk (w.alloc (.cells (Array.replicate count (.int .i64 0)) 70)) w.heap.size 70 (Array.replicate count (.int .i64 0)) := Blk.new w _ _
    show (openW w gd frm pool count).heap[w.heap.size]? = _
    unfold openW
    rw [Below.heap_alloc _ _ _ (by simp; omega), Below.heap_alloc _ _ _ (by simp)]
    have e : (I64 (newPG frm pool (List.replicate count 0)).is).toArray = Array.replicate count (.int .i64 0) := by simp [newPG]
    rw [e]
    exact h
  map := by
    have h := MapIs.new (w.alloc (.cells (Array.replicate count (.int .i64 0)) 70))
    rw [World.size_alloc] at h
    refine h.block ?_
    unfold openW
    rw [Below.heap_alloc _ _ _ (by simp)]
  used := ⟨by simp [newPG], .inl ⟨rfl, rfl⟩⟩
  none_ := fun _ _ => rfl
  some_ := fun k l d h => by cases h
theorem newPG_inv (frm pool : Int) (is : List Int) (ds : DS) (h0 : 0 ≤ frm) (hp : 1 ≤ pool ∧ pool ≤ 1000000) (he : frm + 4 * is.length ≤ ds.size) (hs : ds.size ≤ 65536) (hf : ds.fuse ≤ 9223372036854775807) : PInv (newPG frm pool is) ds where
  nodup := List.nodup_nil
  rng := fun n hn => by cases hn
  keys := fun n => ⟨fun h => (by cases h), fun h => absurd rfl h⟩
  cap := by show ((0 : Nat) : Int) ≤ pool; omega
  pool1 := hp
  clean := fun n l h => by cases h
  frm := h0
  end_ := he
  size := hs
  fuse := hf
/-- What Open answers where nothing is wrong. -/
def OpenRes (gd : Nat) (ds : DS) (D : Nat → Prop) (frm pool : Int) (count : Nat) (keep : List Int) (w : World) (e : Ending) (w' : World) : Prop :=
  ∃ g F', e = .returned (.tuple #[.pointer (some ⟨g, 0, none⟩), .int .i64 0]) ∧ PD w' g gd (newPG frm pool (heldL count keep)) ds F' ∧ (∀ k, F' k → D k ∨ w.heap.size ≤ k) ∧ Below w.heap.size w w'

set_option maxHeartbeats 4000000 in
theorem open_any (gd : Nat) (ds : DS) (D : Nat → Prop) (frm pool : Int) (count : Nat) (A : Option Addr) (keep : List Int) (c : Nat) (w : World) (hd : DiskAt w gd ds D) (h0 : 0 ≤ frm) (hp1 : 1 ≤ pool) (he : frm + 4 * (count : Int) ≤ ds.size) (hs : ds.size ≤ 65536) (hk : Cells w w.heap.size A (I64 keep)) (hkl : keep.length ≤ 100000) (hkr : ∀ n ∈ keep, 0 ≤ n ∧ n < (count : Int)) (hkn : keep.Nodup) :
    Calls Try.prog 7 #[.pointer (some ⟨gd, 0, none⟩), .int .i64 frm, .int .i64 count, .int .i64 pool, .slice A keep.length c] w (OpenRes gd ds D frm pool count keep w) := by
  have HSZ : Hid (∀ w', w = w' → Calls Try.prog 26 #[.pointer (some ⟨gd, 0, none⟩)] w' fun e w'' => e = .returned (.int .i64 ds.size) ∧ w' = w'') := Lib.hid fun w' e => by subst e; exact size_w gd ds D w hd
  have hmm := @run_makeMap Try.prog
  have hms := make_states count (by omega)
  obtain ⟨M, hM⟩ : ∃ M, ds.size - frm = M := ⟨_, rfl⟩
  have w1 : IntKind.i64.wrap (ds.size - frm) = M := by rw [IntKind.wrap_i64]; omega
  obtain ⟨Q, hQ⟩ : ∃ Q, M.tdiv 4 = Q := ⟨_, rfl⟩
  have hQe : Q = M / 4 := by rw [← hQ]; exact Int.tdiv_eq_ediv_of_nonneg (by omega)
  have w2 : IntKind.i64.wrap Q = Q := by rw [IntKind.wrap_i64]; omega
  have g1 : ¬ frm < 0 := by omega
  have g2 : ¬ (count : Int) < 0 := by omega
  have g3 : ¬ pool < 1 := by omega
  have g4 : ¬ frm > ds.size := by omega
  have g5 : ¬ (count : Int) > Q := by omega
  have HB := Lib.hid (openW_below w gd frm pool count)
  have HA := Lib.hid (openW_at w gd frm pool count)
  have HD := Lib.hid hd
  have HK := Lib.hid hk
  have HKR := Lib.hid hkr
  have HKN := Lib.hid hkn
  obtain ⟨L, hL⟩ : ∃ L, keep.length = L := ⟨_, rfl⟩
  rw [hL] at hkl ⊢
  have HL := Lib.hid hL
  clear hd hk hkr hkn hL hQe
  go_enter Try.func7, Try.ntmps7
  go_wp2_with (first | (go_at_call 26; refine (HSZ.out _ rfl).mono ?_; rintro e w1 ⟨rfl, rfl⟩))
  go_loopw [50] (fun vi wr => ∃ k : Nat, vi = .int .i64 k ∧ k ≤ L ∧ PagesOf wr (w.heap.size + 1 + 1) gd (newPG frm pool (heldL count (keep.take k))) (newPP w.heap.size) ∧ Below w.heap.size w wr) (fun vi _ => L - (RowKit.intOf vi).toNat)
  case atStart => exact ⟨0, rfl, Nat.zero_le _, HA.out, HB.out⟩
  case round =>
    obtain ⟨k, rfl, hk, hP, hB⟩ := hrel
    by_cases hlt : k < L
    · have hkI : (k : Int) < (L : Int) := by omega
      have hkl : k < keep.length := by rw [HL.out]; exact hlt
      obtain ⟨n, hn⟩ : ∃ n, keep[k] = n := ⟨_, rfl⟩
      obtain ⟨n0, n1⟩ := HKR.out n (by rw [← hn]; exact List.getElem_mem _)
      obtain ⟨j, rfl⟩ : ∃ j : Nat, n = j := ⟨n.toNat, by omega⟩
      have hjc : j < count := by omega
      obtain ⟨b, off, rfl, _, hcell⟩ := (HK.out.below hB).form (by intro e; have := congrArg List.length e; simp at this; rw [this] at hkl; simp at hkl)
      have ck : wr.cell? ⟨b, off + k, none⟩ = some (.int .i64 j) := hcell k _ (by rw [List.getElem?_map, List.getElem?_eq_getElem hkl, hn]; rfl)
      have hnot : (j : Int) ∉ keep.take k := fun hm => by
        obtain ⟨i, hi, e⟩ := List.getElem_of_mem hm
        have hi' : i < k := by simp at hi; omega
        rw [List.getElem_take] at e
        exact (List.pairwise_iff_getElem.1 HKN.out) i k (by omega) hkl hi' (e.trans hn.symm)
      have hat := heldL_at count (keep.take k) (fun n hn => (HKR.out n (List.mem_of_mem_take hn)).1) j hjc hnot
      have cj : wr.cell? ⟨w.heap.size, j, none⟩ = some (.int .i64 0) := by
        have := hP.row.cell j
        rw [show (newPP w.heap.size).gi = w.heap.size from rfl] at this
        rw [this]
        simp [newPG, hat]
      have zj : wr.frozen? ⟨w.heap.size, j, none⟩ = false := hP.row.free j
      have d3 : wr.cell? ⟨w.heap.size + 1 + 1, 3, none⟩ = some (.slice (some ⟨w.heap.size, 0, none⟩) count count) := by
        have := hP.blk.cell 3
        simp only [pcells, newPG, newPP, heldL_len] at this
        exact this
      have hset := hP.setIs j 1
      have he : (newPG frm pool (heldL count (keep.take k))).is.set j 1 = heldL count (keep.take (k + 1)) := by
        rw [List.take_succ_eq_append_getElem hkl, heldL_snoc, hn]
        rfl
      rw [he] at hset
      have hset2 : PagesOf (wr.setCell ⟨w.heap.size, j, none⟩ (.int .i64 1)) (w.heap.size + 1 + 1) gd (newPG frm pool (heldL count (keep.take (k + 1)))) (newPP w.heap.size) := hset
      have HS := Lib.hid hset2
      have HBB : Hid (Below w.heap.size w (wr.setCell ⟨w.heap.size, j, none⟩ (.int .i64 1))) := Lib.hid (hB.setCell (p := ⟨w.heap.size, j, none⟩) (Nat.le_refl _) _)
      have g6 : ¬ (j : Int) < 0 := by omega
      have g7 : ¬ (j : Int) ≥ (count : Int) := by omega
      have g8 : (j : Int) < (count : Int) := by omega
      clear hset hset2 he hP hat hnot hn hkl hcell hB
      go_wp2
      go_roundw
      case rel => exact ⟨k + 1, by go_num, by omega, HS.out, HBB.out⟩
      case measure => simp [RowKit.intOf]; omega
    · have hkI : ¬ (k : Int) < (L : Int) := by omega
      have e : keep.take k = keep := List.take_of_length_le (by rw [HL.out]; omega)
      rw [e] at hP
      have HPP := Lib.hid hP
      have HBB := Lib.hid hB
      clear hP hB e
      go_wp2
      go_ret2
      have hD := HD.out.below HBB.out
      refine ⟨_, fun k => FootP (w.heap.size + 1 + 1) (newPG frm pool (heldL count keep)) (newPP w.heap.size) k ∨ D k, rfl, ⟨_, D, HPP.out, hD, fun hx => ?_, fun _ => Iff.rfl⟩, fun k hk => ?_, HBB.out⟩
      · have := HD.out.lt _ hx
        have e : (newPP w.heap.size).gm = w.heap.size + 1 := rfl
        omega
      · rcases hk with (rfl | rfl | rfl | hk | ⟨m, hm, _⟩) | hk
        · exact .inr (by omega)
        · exact .inr (Nat.le_refl _)
        · exact .inr (by show w.heap.size ≤ w.heap.size + 1; omega)
        · cases hk
        · exact absurd rfl hm
        · exact .inl hk

set_option maxHeartbeats 4000000 in
theorem awake_any (w : World) :
    Calls Try.prog 5 #[] w fun e w' => e = .returned (.bool true) ∧ Below w.heap.size w w' := by
  go_enter Try.func5, Try.ntmps5
  go_wp2_with fail
  refine (new_w 8 w).mono ?_
  rintro e w1 ⟨gd, D, rfl, hD, hDw, hB1⟩
  have hB2 : Below w1.heap.size w1 (w1.alloc (.cells #[.int .i64 0] 3)) := (Below.refl _ _).alloc (Nat.le_refl _) _
  have hO := open_any gd (newDS 8) D 0 1 2 (some ⟨w1.heap.size, 0, none⟩) [0] 1 (w1.alloc (.cells #[.int .i64 0] 3)) (hD.below hB2) (by decide) (by decide) (by decide) (by decide) (fun k u hu => by
    obtain ⟨b, off, e, h1, h2⟩ := (cells_blk w1 #[.int .i64 0] 3) k u hu
    exact ⟨b, off, e, by simp; exact h1, h2⟩) (by decide) (by decide) (by decide)
  have HO := Lib.hid hO
  have HB1 := Lib.hid hB1
  have HB2 := Lib.hid hB2
  have HDW := Lib.hid hDw
  clear hO hD hDw hB1 hB2
  go_wp2_with fail
  refine HO.out.mono ?_
  rintro e w3 ⟨g, F', rfl, hpd, hF', hB3⟩
  have hsz1 := HB1.out.size
  have hsz2 := HB2.out.size
  have hsz3 := hB3.size
  have hF0 : ∀ k, F' k → w.heap.size ≤ k := fun k hk => by
    rcases hF' k hk with x | x
    · exact HDW.out k x
    · omega
  have hB0 : Below w.heap.size w w3 := (HB1.out.trans (HB2.out.mono hsz1)).trans (hB3.mono (by omega))
  have hAL := alloc_any g gd _ _ F' w3 hpd (newPG_inv 0 1 _ _ (by decide) (by decide) (by decide) (by decide) (by decide)) (by decide)
  have HAL := Lib.hid hAL
  have HF0 := Lib.hid hF0
  have HB0 := Lib.hid hB0
  have HLE : Hid (w.heap.size ≤ w3.heap.size) := Lib.hid (by omega)
  clear hAL hpd hF' hB3 hF0 hB0 hsz1 hsz2 hsz3
  go_wp2_with fail
  refine HAL.out.mono ?_
  rintro e w4 hres
  rcases hres with ⟨hx, _⟩ | ⟨i, hi, _, hres⟩
  · exact absurd hx (by decide)
  · have h1 : i = 1 := by
      have : idxI (newPG 0 1 (heldL 2 [0])).is 0 = 1 := by decide
      omega
    subst h1
    rcases hres with ⟨s', t, rfl, _, ⟨F2, _, hch, _⟩⟩ | ⟨rfl, hnh, _⟩
    · have hB5 : Below w.heap.size w w4 := HB0.out.trans (hch.below HLE.out HF0.out)
      clear hch hi
      go_wp2
      go_ret
      exact ⟨rfl, hB5⟩
    · exact absurd (show Healthy (newDS 8) from ⟨rfl, by decide⟩) hnh
end Go.Proofs.Ytkjbicenhncpeaa
