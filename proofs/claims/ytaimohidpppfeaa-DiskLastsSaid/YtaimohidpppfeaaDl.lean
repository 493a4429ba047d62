/-
  DiskLasts: the walk.
-/
import Derived.Test.YtaimohidpppfeaaDt
set_option linter.unusedVariables false
namespace Go.Proofs.Ytaimohidpppfeaa
open Go.RowKit

theorem applyW_none (c : Int → Option (List Int)) (qs : List (Int × List Int)) (j : Int) (h : ∀ q ∈ qs, q.1 ≠ j) : applyW c qs j = c j := by
  induction qs generalizing c with
  | nil => rfl
  | cons q r ih =>
    show applyW (updC c q.1 q.2) r j = c j
    rw [ih _ (fun x hx => h x (by simp [hx]))]
    unfold updC
    rw [if_neg (fun e => h q (by simp) e.symm)]
theorem keptW_sub {α : Type} (qs : List α) (keep : List Bool) (k : Nat) : ∀ q ∈ keptW qs keep k, q ∈ qs := fun q hq => by
  unfold keptW at hq
  obtain ⟨x, hx, rfl⟩ := List.mem_map.1 hq
  have := (List.mem_filter.1 hx).1
  have := List.fst_mem_of_mem_zipIdx this
  exact List.mem_of_mem_take this
/-- The array of what was read: the first k of it are f's. -/
def WasAt (w : World) (bw : Nat) (f : Nat → List Int) (k : Nat) : Prop := ∃ vs : List Value, vs.length = 8 ∧ Blk w bw 36 vs.toArray ∧ ∀ j, j < k → ∃ A c, vs[j]? = some (.slice A 256 c) ∧ Bytes w A (f j)
theorem free_was : Free 36 := ⟨by decide, by decide⟩
theorem free_again : Free 39 := ⟨by decide, by decide⟩
theorem WasAt.keep {w w' : World} {bw : Nat} {f : Nat → List Int} {k : Nat} (h : WasAt w bw f k) (hk : BKA w w') : WasAt w' bw f k := by
  obtain ⟨vs, h1, h2, h3⟩ := h
  refine ⟨vs, h1, hk.blk h2 free_was, fun j hj => ?_⟩
  obtain ⟨A, c, e, hb⟩ := h3 j hj
  exact ⟨A, c, e, hb.keep hk.b⟩
theorem WasAt.put {w : World} {bw : Nat} {f : Nat → List Int} {k : Nat} (h : WasAt w bw f k) (hk : k < 8) {A : Option Addr} {c : Nat} (hb : Bytes w A (f k)) : WasAt (w.setCell ⟨bw, k, none⟩ (.slice A 256 c)) bw f (k + 1) := by
  obtain ⟨vs, h1, h2, h3⟩ := h
  refine ⟨vs.set k (.slice A 256 c), by simpa using h1, ?_, fun j hj => ?_⟩
  · have := h2.set_ k (.slice A 256 c)
    have e : vs.toArray.setIfInBounds k (.slice A 256 c) = (vs.set k (.slice A 256 c)).toArray := by simp
    rw [e] at this
    exact this
  · by_cases e : j = k
    · subst e
      exact ⟨A, c, by rw [List.getElem?_set_self (by omega)], hb.store h2 (by decide) _ _⟩
    · obtain ⟨A', c', e', hb'⟩ := h3 j (by omega)
      exact ⟨A', c', by rw [List.getElem?_set_ne (Ne.symm e)]; exact e', hb'.store h2 (by decide) _ _⟩
theorem WasAt.cell {w : World} {bw : Nat} {f : Nat → List Int} {k : Nat} (h : WasAt w bw f k) {j : Nat} (hj : j < 8) : ∃ v, w.cell? ⟨bw, j, none⟩ = some v := by
  obtain ⟨vs, h1, h2, h3⟩ := h
  refine ⟨vs[j], ?_⟩
  rw [h2.cell j]
  simp
theorem WasAt.at_ {w : World} {bw : Nat} {f : Nat → List Int} {k : Nat} (h : WasAt w bw f k) {j : Nat} (hj : j < k) : ∃ A c, w.cell? ⟨bw, j, none⟩ = some (.slice A 256 c) ∧ Bytes w A (f j) := by
  obtain ⟨vs, h1, h2, h3⟩ := h
  obtain ⟨A, c, e, hb⟩ := h3 j hj
  refine ⟨A, c, ?_, hb⟩
  rw [h2.cell j]
  simpa using e
theorem WasAt.blk {w : World} {bw : Nat} {f : Nat → List Int} {k : Nat} (h : WasAt w bw f k) : ∃ cs, Blk w bw 36 cs := by
  obtain ⟨vs, _, h2, _⟩ := h
  exact ⟨_, h2⟩

/-- The array of what was written again. -/
def AgainAt (w : World) (b : Nat) (bs : List Bool) : Prop := bs.length = 8 ∧ Blk w b 39 (bs.map Value.bool).toArray
theorem AgainAt.keep {w w' : World} {b : Nat} {bs : List Bool} (h : AgainAt w b bs) (hk : BKA w w') : AgainAt w' b bs := ⟨h.1, hk.blk h.2 free_again⟩
theorem AgainAt.put {w : World} {b : Nat} {bs : List Bool} (h : AgainAt w b bs) (k : Nat) : AgainAt (w.setCell ⟨b, k, none⟩ (.bool true)) b (bs.set k true) := by
  refine ⟨by simpa using h.1, ?_⟩
  have := h.2.set_ k (.bool true)
  have e : (bs.map Value.bool).toArray.setIfInBounds k (.bool true) = ((bs.set k true).map Value.bool).toArray := by simp [List.map_set]
  rw [e] at this
  exact this
theorem AgainAt.at_ {w : World} {b : Nat} {bs : List Bool} (h : AgainAt w b bs) {k : Nat} (hk : k < 8) : ∃ v, bs[k]? = some v ∧ w.cell? ⟨b, k, none⟩ = some (.bool v) := by
  have hk' : k < bs.length := by rw [h.1]; exact hk
  refine ⟨bs[k], List.getElem?_eq_getElem hk', ?_⟩
  rw [h.2.cell k]
  simp [hk']
theorem BKA.set_ {w : World} {b : Nat} {t : TypeId} {cs : Array Value} (hb : Blk w b t cs) (i : Nat) (u : Value) {g : Nat} {t' : TypeId} {cs' : Array Value} (hg : Blk w g t' cs') (hne : t' ≠ t) : Blk (w.setCell ⟨b, i, none⟩ u) g t' cs' := hg.far (fun e => by
  have e : g = b := e
  subst e
  unfold Blk at hb hg
  rw [hb] at hg
  injection hg with hg
  injection hg with _ hg
  exact hne hg.symm) u
theorem WasAt.store {w : World} {bw : Nat} {f : Nat → List Int} {k : Nat} (h : WasAt w bw f k) {b : Nat} {t : TypeId} {cs : Array Value} (hb : Blk w b t cs) (h1 : 36 ≠ t) (h2 : t ≠ 5) (i : Nat) (u : Value) : WasAt (w.setCell ⟨b, i, none⟩ u) bw f k := by
  obtain ⟨vs, l1, l2, l3⟩ := h
  refine ⟨vs, l1, BKA.set_ hb i u l2 h1, fun j hj => ?_⟩
  obtain ⟨A, c, e, hb'⟩ := l3 j hj
  exact ⟨A, c, e, hb'.store hb h2 i u⟩
theorem BKA.drew {w w' : World} (h : BKA w w') : BKA w w'.drew := h

set_option maxRecDepth 8000 in
set_option maxHeartbeats 4000000 in
theorem lasts_walk (A : Option Addr) (l : List OpD) (c : Nat) (A' : Option Addr) (l' : List OpD) (c' : Nat) (K : Option Addr) (keep : List Bool) (kc : Nat) (w : World) (h : Ops w A l) (hl : l.length ≤ 9223372036854775807) (h' : Ops w A' l') (hl' : l'.length ≤ 9223372036854775807) (hkc : Cells w w.heap.size K (keep.map Value.bool)) (hkl : keep.length ≤ 9223372036854775807) :
    Calls Try.prog 3 #[.slice A l.length c, .slice A' l'.length c', .slice K keep.length kc] w fun e w' => e = .returned (.bool true) ∧ Below w.heap.size w w' := by
  go_enter Try.func3, Try.ntmps3
  go_wp2_with fail
  refine (awake_any w).mono ?_
  rintro e w1 ⟨rfl, hb1⟩
  go_wp2_with fail
  refine (few_any A l c w1 (h.below hb1) hl).mono ?_
  rintro e w2 ⟨b, rfl, rfl, hfew⟩
  cases b with
  | false =>
    clear hfew
    go_wp2_with fail
    refine (awake_any w1).mono ?_
    rintro e w2 ⟨rfl, hb2⟩
    go_wp2
    go_ret
    exact ⟨rfl, hb1.trans (hb2.mono hb1.size)⟩
  | true =>
  obtain ⟨hl60, _⟩ := hfew rfl
  clear hfew
  go_wp2_with fail
  refine (few_any A' l' c' w1 (h'.below hb1) hl').mono ?_
  rintro e w2 ⟨b, rfl, rfl, hfew⟩
  cases b with
  | false =>
    clear hfew
    go_wp2_with fail
    refine (awake_any w1).mono ?_
    rintro e w2 ⟨rfl, hb2⟩
    go_wp2
    go_ret
    exact ⟨rfl, hb1.trans (hb2.mono hb1.size)⟩
  | true =>
  obtain ⟨hl61, _⟩ := hfew rfl
  clear hfew
  by_cases hk1 : 1000 < keep.length
  · have gk : (1000 : Int) < (keep.length : Int) := by omega
    go_wp2_with fail
    refine (awake_any w1).mono ?_
    rintro e w2 ⟨rfl, hb2⟩
    go_wp2
    go_ret
    exact ⟨rfl, hb1.trans (hb2.mono hb1.size)⟩
  have gk : ¬ (1000 : Int) < (keep.length : Int) := by omega
  have m1 : Many w.heap.size w1 [] := Many.nil _ _
  go_wp2_with fail
  refine (many_new m1 hb1.size 8).mono ?_
  rintro e w2 ⟨g, rfl, m2, hb2⟩
  have B2 := hb1.trans (hb2.mono hb1.size)
  clear hb1 hb2 m1 gk hk1
  have ks0 := KS.new 8 (by decide) (by decide)
  go_wp2
  go_loopw [8] (fun i wr => ∃ (k : Nat) (s : DS), i = .int .i64 k ∧ k ≤ l.length ∧ KS 8 s k ∧ Many w.heap.size wr [(g, s)] ∧ Below w.heap.size w wr)
    (fun i _ => l.length - (intOf i).toNat)
  case atStart => exact ⟨0, _, rfl, Nat.zero_le _, ks0, m2, B2⟩
  case round =>
    obtain ⟨k, s, rfl, hk, hks, hM, hB⟩ := hrel
    clear ks0 m2 B2
    by_cases hlt : k < l.length
    · have hgk : (k : Int) < (l.length : Int) := by omega
      obtain ⟨b, off, rfl, hb, _, c1, c2, _⟩ := (h.below hB).at_ hlt
      have hb0 : b < w.heap.size := by
        obtain ⟨b', off', e', hb', _⟩ := h.at_ hlt
        injection e' with e'
        injection e' with e1 e2
        omega
      obtain ⟨n, hn⟩ : ∃ x, (l[k]).n = x := ⟨_, rfl⟩
      obtain ⟨m, hm⟩ : ∃ x, (l[k]).m = x := ⟨_, rfl⟩
      rw [hn] at c1
      rw [hm] at c2
      clear hn hm
      have hs0 := hB.size
      obtain ⟨q, hq⟩ : ∃ q, (IntKind.u64.wrap n).tmod 8 = q := ⟨_, rfl⟩
      have hq0 : 0 ≤ q ∧ q < 8 := by
        have h1 : 0 ≤ IntKind.u64.wrap n := by rw [IntKind.wrap_u64]; omega
        rw [← hq, Int.tmod_eq_emod_of_nonneg h1]
        omega
      have hq1 : IntKind.u64.wrap q = q := by rw [IntKind.wrap_u64]; omega
      have hq2 : IntKind.i64.wrap q = q := by rw [IntKind.wrap_i64]; omega
      obtain ⟨hw1, hks'⟩ := hks.write hq0.1 hq0.2 (secL_len m)
      have HW : Hid (∀ (w4 : World) (A : Option Addr), Many w.heap.size w4 [(g, s)] → Bytes w4 A (secL m) → w.heap.size ≤ w4.heap.size → Calls Try.prog 11 #[.pointer (some ⟨g, 0, none⟩), .int .i64 q, .slice A 256 256] w4 fun e w' => e = .returned (.int .i64 0) ∧ Many w.heap.size w' [(g, wroteS s q (secL m))] ∧ Below w.heap.size w4 w' ∧ BKA w4 w') := Lib.hid fun w4 A h1 h2 h3 => by
        have := many_write (i := 0) h1 h3 rfl q A (secL m) 256 (by rw [hks.fuse]; decide) h2 (secL_oct m) (by have := hks.pend; omega) (by rw [secL_len]; decide)
        rw [secL_len, hw1] at this
        exact this
      clear hw1
      have HKS := Lib.hid hks'
      clear hks'
      go_wp2
      go_region_held3 (fun w' => w'.cell? ⟨b, off + k * 4 + 1, none⟩ = some (.int .i64 n) ∧ w'.cell? ⟨b, off + k * 4 + 2, none⟩ = some (.int .i64 m)) (go_keep)
        (first
          | (go_at_call 12; refine (sector_any m _).mono ?_; rintro e w4 ⟨rfl, hs4, hb4⟩; have hk1 := fun (p : Addr) (hp : p.block < w.heap.size) => hb4.cell (p := p) (by exact Nat.lt_of_lt_of_le hp hs0))
          | (go_at_call 11; refine (HW.out _ _ (by exact hM.drew.below hb4) (by exact Own.sec hs4) (by exact Nat.le_trans hs0 hb4.size)).mono ?_; rintro e w5 ⟨rfl, hM5, hb5, hk5⟩; have hk2 := fun (p : Addr) (hp : p.block < w.heap.size) => hb5.cell (p := p) hp))
      all_goals
        have hB5 : Below w.heap.size w w5 := (hB.drew.trans (hb4.mono hs0)).trans hb5
        clear c1 c2 hk1 hk2 hb4 hb5 hs4 hM hB hb hq hq1 hq2 HW hk5
        go_wp2
        go_roundw
        case rel => exact ⟨k + 1, _, by go_num, by omega, HKS.out, hM5, hB5⟩
        case measure => simp [intOf]; omega
    · have hke : k = l.length := by omega
      subst hke
      have hgk : ¬ (l.length : Int) < (l.length : Int) := by omega
      clear hlt hk
      obtain ⟨hsy, hks1⟩ := hks.sync
      have hcS := many_sync (i := 0) hM hB.size rfl (by rw [hks.fuse]; decide) (by have := hks.pend; omega)
      rw [hsy] at hcS
      clear hsy
      go_wp2_with fail
      refine hcS.mono ?_
      rintro e w3 ⟨rfl, hM3, hb3, _⟩
      have hB3 := hB.trans hb3
      clear hcS hM hB hb3
      obtain ⟨s1, hs1⟩ : ∃ s1, syncedS s = s1 := ⟨_, rfl⟩
      have hlast : s1.now = s1.lasts := by rw [← hs1]; exact hks1.now
      have hpe : s1.pend = [] := by rw [← hs1]; rfl
      rw [hs1] at hks1
      have hM4 : Many w.heap.size w3 [(g, s1)] := by rw [← hs1]; exact hM3
      clear hM3
      have hks2 : KS 8 s1 0 := ⟨hks1.size, hks1.fuse, hks1.down, hks1.now, by rw [hpe]; exact Nat.le_refl _⟩
      clear hs1 hks1 hks
      have HLA := Lib.hid hlast
      have HPE := Lib.hid hpe
      clear hlast hpe s
      obtain ⟨bw, hbw⟩ : ∃ bw, bw = w3.heap.size := ⟨_, rfl⟩
      have hW0 : WasAt (w3.alloc (.cells #[.slice none 0 0, .slice none 0 0, .slice none 0 0, .slice none 0 0, .slice none 0 0, .slice none 0 0, .slice none 0 0, .slice none 0 0] 36)) bw (fun j => rd s1 j) 0 := by
        rw [hbw]
        exact ⟨[.slice none 0 0, .slice none 0 0, .slice none 0 0, .slice none 0 0, .slice none 0 0, .slice none 0 0, .slice none 0 0, .slice none 0 0], rfl, Blk.new w3 _ _, fun j hj => absurd hj (by omega)⟩
      have hM5 : Many w.heap.size (w3.alloc (.cells #[.slice none 0 0, .slice none 0 0, .slice none 0 0, .slice none 0 0, .slice none 0 0, .slice none 0 0, .slice none 0 0, .slice none 0 0] 36)) [(g, s1)] := hM4.below ((Below.refl _ _).alloc (Nat.le_refl _) _)
      have hB5 : Below w.heap.size w (w3.alloc (.cells #[.slice none 0 0, .slice none 0 0, .slice none 0 0, .slice none 0 0, .slice none 0 0, .slice none 0 0, .slice none 0 0, .slice none 0 0] 36)) := hB3.alloc hB3.size _
      have hbw0 : w.heap.size ≤ bw := by rw [hbw]; exact hB3.size
      have HBW := Lib.hid hbw
      clear hbw hM4 hB3
      go_wp2
      rw [← HBW.out]
      go_loopw [10] (fun i wr => ∃ (k : Nat) (s : DS), i = .int .i64 k ∧ k ≤ 8 ∧ KS 8 s 0 ∧ s.now = s1.now ∧ s.lasts = s1.lasts ∧ s.pend = [] ∧ WasAt wr bw (fun j => rd s1 j) k ∧ Many w.heap.size wr [(g, s)] ∧ Below w.heap.size w wr)
        (fun i _ => 8 - (intOf i).toNat)
      case atStart => exact ⟨0, s1, rfl, by omega, hks2, rfl, rfl, HPE.out, hW0, hM5, hB5⟩
      case round =>
        obtain ⟨k, s, rfl, hk, hks, e1, e2, e3, hW, hM, hB⟩ := hrel
        clear hW0 hM5 hB5
        by_cases hlt : k < 8
        · have hgk : (k : Int) < 8 := by omega
          have hp0 : (0 : Int) ≤ (k : Int) := by omega
          have K0 := (hks.read hp0 hgk).2
          have r0 : rd s k = rd s1 k := by unfold rd; rw [e1]
          have R0 := Lib.hid r0
          have E1 := Lib.hid e1
          have E2 := Lib.hid e2
          have E3 := Lib.hid e3
          clear r0 e1 e2 e3
          go_wp2_with fail
          refine (many_rd (i := 0) hM hB.size rfl hks k hp0 hgk).mono ?_
          rintro e wa ⟨A0, c0, rfl, b0, Ma, ba, ka, l0⟩
          have Ba := hB.trans ba
          have Wa := hW.keep ka
          rw [R0.out] at b0
          clear hM ba l0 ka hW hB
          obtain ⟨cs, hcs⟩ := Wa.blk
          obtain ⟨v, hv⟩ := Wa.cell hlt
          have hz := hcs.free k
          have Wb := Wa.put (c := c0) hlt b0
          have Mb := Ma.store hcs free_was (by decide) k (.slice A0 256 c0)
          have Bb := Ba.setCell (p := ⟨bw, k, none⟩) hbw0 (.slice A0 256 c0)
          go_wp2_with fail
          go_roundw
          case rel => exact ⟨k + 1, _, by go_num, by omega, K0, E1.out, E2.out, E3.out, Wb, Mb, Bb⟩
          case measure => simp [intOf]; omega
        · have hke : k = 8 := by omega
          subst hke
          have hgk : ¬ (8 : Int) < 8 := by omega
          clear hlt hk
          obtain ⟨ba, hba⟩ : ∃ ba, ba = wr.heap.size := ⟨_, rfl⟩
          have hG0 : AgainAt (wr.alloc (.cells #[.bool false, .bool false, .bool false, .bool false, .bool false, .bool false, .bool false, .bool false] 39)) ba [false, false, false, false, false, false, false, false] := by
            rw [hba]
            exact ⟨rfl, Blk.new wr _ _⟩
          have hbl : Below wr.heap.size wr (wr.alloc (.cells #[.bool false, .bool false, .bool false, .bool false, .bool false, .bool false, .bool false, .bool false] 39)) := (Below.refl _ _).alloc (Nat.le_refl _) _
          have hW5 := hW.keep (BKA.of_below hbl)
          have hM5 := hM.below hbl
          have hB5 := hB.trans (hbl.mono hB.size)
          have hba0 : w.heap.size ≤ ba := by rw [hba]; exact hB.size
          have HBA := Lib.hid hba
          have E1 := Lib.hid e1
          have E2 := Lib.hid e2
          have E3 := Lib.hid e3
          clear hba hbl e1 e2 e3 hW hM hB
          go_wp2
          rw [← HBA.out]
          go_loopw [14] (fun i wr => ∃ (k : Nat) (s : DS) (bs : List Bool), i = .int .i64 k ∧ k ≤ l'.length ∧ KS 8 s k ∧ s.pend.length = k ∧ s.lasts = s1.lasts ∧ (∀ q ∈ s.pend, 0 ≤ q.1 ∧ q.1 < 8 ∧ bs[q.1.toNat]? = some true) ∧ AgainAt wr ba bs ∧ WasAt wr bw (fun j => rd s1 j) 8 ∧ Many w.heap.size wr [(g, s)] ∧ Below w.heap.size w wr)
            (fun i _ => l'.length - (intOf i).toNat)
          case atStart => exact ⟨0, s, _, rfl, by omega, hks, by rw [E3.out]; rfl, E2.out, by rw [E3.out]; simp, hG0, hW5, hM5, hB5⟩
          case round =>
            obtain ⟨k, s, bs, rfl, hk, hks, hpl, hla, hag, hG, hW, hM, hB⟩ := hrel
            clear hG0 hW5 hM5 hB5
            by_cases hlt : k < l'.length
            · have hgk : (k : Int) < (l'.length : Int) := by omega
              obtain ⟨b, off, rfl, hb, _, c1, c2, _⟩ := (h'.below hB).at_ hlt
              have hb0 : b < w.heap.size := by
                obtain ⟨b', off', e', hb', _⟩ := h'.at_ hlt
                injection e' with e'
                injection e' with e1 e2
                omega
              obtain ⟨n, hn⟩ : ∃ x, (l'[k]).n = x := ⟨_, rfl⟩
              obtain ⟨m, hm⟩ : ∃ x, (l'[k]).m = x := ⟨_, rfl⟩
              rw [hn] at c1
              rw [hm] at c2
              clear hn hm
              have hs0 := hB.size
              have hq0 : 0 ≤ (IntKind.u64.wrap n).tmod 8 ∧ (IntKind.u64.wrap n).tmod 8 < 8 := by
                have h1 : 0 ≤ IntKind.u64.wrap n := by rw [IntKind.wrap_u64]; omega
                rw [Int.tmod_eq_emod_of_nonneg h1]
                omega
              obtain ⟨q, hq⟩ := Int.eq_ofNat_of_zero_le hq0.1
              have hq8 : q < 8 := by have := hq0.2; omega
              clear hq0
              have hq1 : IntKind.u64.wrap (q : Int) = q := by rw [IntKind.wrap_u64]; omega
              have hq2 : IntKind.i64.wrap (q : Int) = q := by rw [IntKind.wrap_i64]; omega
              obtain ⟨hw1, hks'⟩ := hks.write (n := q) (by omega) (by omega) (secL_len m)
              have HW : Hid (∀ (w4 : World) (A : Option Addr), Many w.heap.size w4 [(g, s)] → Bytes w4 A (secL m) → w.heap.size ≤ w4.heap.size → Calls Try.prog 11 #[.pointer (some ⟨g, 0, none⟩), .int .i64 q, .slice A 256 256] w4 fun e w' => e = .returned (.int .i64 0) ∧ Many w.heap.size w' [(g, wroteS s q (secL m))] ∧ Below w.heap.size w4 w' ∧ BKA w4 w') := Lib.hid fun w4 A h1 h2 h3 => by
                have := many_write (i := 0) h1 h3 rfl q A (secL m) 256 (by rw [hks.fuse]; decide) h2 (secL_oct m) (by have := hks.pend; omega) (by rw [secL_len]; decide)
                rw [secL_len, hw1] at this
                exact this
              clear hw1
              have HKS := Lib.hid hks'
              clear hks'
              have HPL : Hid ((wroteS s q (secL m)).pend.length = k + 1) := Lib.hid (by show (s.pend ++ [_]).length = k + 1; rw [List.length_append, hpl]; rfl)
              have HLA : Hid ((wroteS s q (secL m)).lasts = s1.lasts) := Lib.hid hla
              have HAG : Hid (∀ r ∈ (wroteS s q (secL m)).pend, 0 ≤ r.1 ∧ r.1 < 8 ∧ (bs.set q true)[r.1.toNat]? = some true) := Lib.hid fun r hr => by
                have hbl : bs.length = 8 := hG.1
                have hr : r ∈ s.pend ++ [((q : Int), secL m)] := hr
                rcases List.mem_append.1 hr with h1 | h1
                · obtain ⟨h2, h3, h4⟩ := hag r h1
                  refine ⟨h2, h3, ?_⟩
                  by_cases e : r.1.toNat = q
                  · rw [e, List.getElem?_set_self (by omega)]
                  · rw [List.getElem?_set_ne (Ne.symm e)]; exact h4
                · simp at h1
                  subst h1
                  exact ⟨by show 0 ≤ (q : Int); omega, by show (q : Int) < 8; omega, by show (bs.set q true)[((q : Int)).toNat]? = _; rw [Int.toNat_natCast, List.getElem?_set_self (by omega)]⟩
              obtain ⟨vb, _, cb⟩ := hG.at_ hq8
              have zb := hG.2.free q
              have hG2 := hG.put q
              have hW2 := hW.store hG.2 (by decide) (by decide) q (.bool true)
              have hM2 := hM.store hG.2 free_again (by decide) q (.bool true)
              have hB2 := hB.setCell (p := ⟨ba, q, none⟩) hba0 (.bool true)
              have c2' : (wr.setCell ⟨ba, q, none⟩ (.bool true)).cell? ⟨b, off + k * 4 + 2, none⟩ = some (.int .i64 m) := by
                have : b ≠ ba := by omega
                rw [← c2]
                exact World.cell?_of_block (a := ⟨b, off + k * 4 + 2, none⟩) (Below.heap_setCell wr ⟨ba, q, none⟩ _ b this)
              have hgq : (q : Int) < 8 := by omega
              have hgq0 : (0 : Int) ≤ (q : Int) := by omega
              have hs2 := hB2.size
              clear hpl hla hag
              go_wp2_with fail
              refine (sector_any m _).mono ?_
              rintro e w4 ⟨rfl, hs4, hb4⟩
              have hM4 := hM2.below hb4
              have hB4 := hB2.trans (hb4.mono hs2)
              have k4 := BKA.of_below hb4
              have hG4 := hG2.keep k4
              have hW4 := hW2.keep k4
              obtain ⟨bx, hbx⟩ : ∃ bx, bx = (wr.setCell ⟨ba, q, none⟩ (.bool true)).heap.size := ⟨_, rfl⟩
              rw [← hbx] at hs4
              rw [← hbx]
              have hby := Own.sec hs4
              clear hbx hs4 hb4 k4 hG2 hW2 hM2 hB2 hG hW hM hB c1 c2 c2' cb zb hs2
              go_wp2_with fail
              refine (HW.out w4 _ hM4 hby hB4.size).mono ?_
              rintro e w5 ⟨rfl, hM5, hb5, k5⟩
              have hB5 := hB4.trans hb5
              have hG5 := hG4.keep k5
              have hW5 := hW4.keep k5
              clear hM4 hB4 hG4 hW4 hb5 k5 hby HW
              go_wp2_with fail
              go_roundw
              case rel => exact ⟨k + 1, _, _, by go_num, by omega, HKS.out, HPL.out, HLA.out, HAG.out, hG5, hW5, hM5, hB5⟩
              case measure => simp [intOf]; omega
            · have hke : k = l'.length := by omega
              subst hke
              have hgk : ¬ (l'.length : Int) < (l'.length : Int) := by omega
              clear hlt hk
              have hcx : ∀ j : Nat, j < 8 → bs[j]? = some false → rd (cutS s keep) j = rd s1 j := fun j hj hbj => by
                unfold rd
                have e1 : (cutS s keep).now j = s1.now j := by
                  show applyW s.lasts (keptW s.pend keep s.pend.length) j = s1.now j
                  rw [applyW_none, hla, HLA.out]
                  intro q hq e
                  obtain ⟨h2, h3, h4⟩ := hag q (keptW_sub _ _ _ q hq)
                  have : q.1.toNat = j := by omega
                  rw [this, hbj] at h4
                  cases h4
                rw [e1]
              have HCX := Lib.hid hcx
              have HPL := Lib.hid hpl
              clear hcx hla hag hpl
              go_wp2_with fail
              refine (many_cut (i := 0) hM hB.size rfl K keep kc (by rw [hks.size]; decide) (by rw [hks.size]; decide) (by have := hks.pend; omega) ((hkc.below hB).whole) hkl).mono ?_
              rintro e w4 ⟨gx, rfl, hM4, hb4⟩
              have hB4 := hB.trans (hb4.mono hB.size)
              have k4 := BKA.of_below hb4
              have hG4 := hG.keep k4
              have hW4 := hW.keep k4
              have hM4' : Many w.heap.size w4 [(g, s), (gx, cutS s keep)] := hM4
              have kx := hks.cut keep
              clear hM hB hG hW hb4 k4 hM4
              go_wp2
              go_loopw [17] (fun i wr => ∃ (k : Nat) (x : DS), i = .int .i64 k ∧ k ≤ 8 ∧ KS 8 x 0 ∧ x.now = (cutS s keep).now ∧ x.pend = [] ∧ AgainAt wr ba bs ∧ WasAt wr bw (fun j => rd s1 j) 8 ∧ Many w.heap.size wr [(g, s), (gx, x)] ∧ Below w.heap.size w wr)
                (fun i _ => 8 - (intOf i).toNat)
              case atStart => exact ⟨0, _, rfl, by omega, kx, rfl, rfl, hG4, hW4, hM4', hB4⟩
              case round =>
                obtain ⟨k, x, rfl, hk, hkx, ex, ep, hG, hW, hM, hB⟩ := hrel
                clear hG4 hW4 hM4' hB4 kx
                by_cases hlt : k < 8
                · have hgk : (k : Int) < 8 := by omega
                  have hp0 : (0 : Int) ≤ (k : Int) := by omega
                  have K0 := (hkx.read hp0 hgk).2
                  have r0 : rd x k = rd (cutS s keep) k := by unfold rd; rw [ex]
                  have R0 := Lib.hid r0
                  have EX := Lib.hid ex
                  have EP := Lib.hid ep
                  clear r0 ex ep
                  go_wp2_with fail
                  refine (many_rd (i := 1) hM hB.size rfl hkx k hp0 hgk).mono ?_
                  rintro e wa ⟨A0, c0, rfl, b0, Ma, bl, ka, l0⟩
                  have Ba := hB.trans bl
                  have Wa := hW.keep ka
                  have Ga := hG.keep ka
                  have L0 := Lib.hid l0
                  clear hM bl l0 ka hW hB hG
                  obtain ⟨vb, hvb, cvb⟩ := Ga.at_ hlt
                  cases vb with
                  | true =>
                    clear hvb
                    go_wp2_with fail
                    go_roundw
                    case rel => exact ⟨k + 1, _, by go_num, by omega, K0, EX.out, EP.out, Ga, Wa, Ma, Ba⟩
                    case measure => simp [intOf]; omega
                  | false =>
                    have hrr : rd x k = rd s1 k := R0.out.trans (HCX.out k hlt hvb)
                    have HRR := Lib.hid hrr
                    clear hvb hrr
                    obtain ⟨A1, c1, cw, b1⟩ := Wa.at_ hlt
                    have l1 : (rd s1 k).length = 256 := by rw [← HRR.out]; exact L0.out
                    have L1 := Lib.hid l1
                    clear l1
                    go_wp2_with fail
                    refine (same_sec A0 A1 _ _ c0 c1 wa b0 b1 L0.out L1.out HRR.out).mono ?_
                    rintro e wf ⟨rfl, bf⟩
                    have Bf := Ba.trans (bf.mono Ba.size)
                    have Mf := Ma.below bf
                    have kf := BKA.of_below bf
                    have Gf := Ga.keep kf
                    have Wf := Wa.keep kf
                    clear bf kf Ga Wa Ma Ba b0 b1 cw cvb
                    go_wp2_with fail
                    go_roundw
                    case rel => exact ⟨k + 1, _, by go_num, by omega, K0, EX.out, EP.out, Gf, Wf, Mf, Bf⟩
                    case measure => simp [intOf]; omega
                · have hke : k = 8 := by omega
                  subst hke
                  have hgk : ¬ (8 : Int) < 8 := by omega
                  have EP := Lib.hid ep
                  clear hlt hk ep
                  go_wp2_with fail
                  refine (many_pending (i := 0) hM rfl).mono ?_
                  rintro e w9 ⟨rfl, rfl⟩
                  rw [HPL.out]
                  go_wp2_with fail
                  refine (many_pending (i := 1) hM rfl).mono ?_
                  rintro e w9 ⟨rfl, rfl⟩
                  rw [EP.out]
                  go_wp2
                  go_ret
                  exact ⟨rfl, hB⟩
end Go.Proofs.Ytaimohidpppfeaa
