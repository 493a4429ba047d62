/-
  Pages and the reference's in step; act.
-/
import Derived.Test.YtkjbicenhncpeaaPw
import Derived.Test.YtkjbicenhncpeaaPu
import Derived.Deep.QuietTactic
import Derived.BigQuiet
set_option linter.unusedVariables false
namespace Go.Proofs.Ytkjbicenhncpeaa
open Go.RowKit

theorem take_snoc {α : Type} (l : List α) (k : Nat) (h : k < l.length) : l.take (k + 1) = l.take k ++ [l[k]] := by
  rw [List.take_succ_eq_append_getElem h]

/-- Are two rows alike? -/
def sameB (a b : List Int) : Bool := decide (a = b)

set_option maxHeartbeats 1000000 in
theorem sameK_any (A B : Option Addr) (a b : List Int) (c d : Nat) (w : World) (ha : Cells w w.heap.size A (U8 a)) (hb : Cells w w.heap.size B (U8 b)) (hl : a.length ≤ 10000000000000) :
    Calls Try.prog 38 #[.slice A a.length c, .slice B b.length d] w fun e w' => e = .returned (.bool (sameB a b)) ∧ ∃ n, w' = w.drewN n := by
  by_cases hlen : a.length = b.length
  · have hne : ((a.length : Int) != (b.length : Int)) = false := by simp [hlen]
    have HL := Lib.hid hlen; clear hlen
    go_enter Try.func38, Try.ntmps38
    go_wp2
    go_loopw [5] (fun i wr => ∃ k n : Nat, k ≤ a.length ∧ i = .int .i64 k ∧ a.take k = b.take k ∧ wr = w.drewN n)
      (fun i _ => a.length - (intOf i).toNat)
    case atStart => exact ⟨0, 0, Nat.zero_le _, rfl, rfl, rfl⟩
    case round =>
      obtain ⟨k, n, hk, rfl, htk, rfl⟩ := hrel
      have HT := Lib.hid htk; clear htk
      by_cases hlt : k < a.length
      · have hltb : k < b.length := by have := HL.out; omega
        obtain ⟨b1, o1, rfl, _, hca⟩ := ha.u8 hlt
        obtain ⟨b2, o2, rfl, _, hcb⟩ := hb.u8 hltb
        by_cases hx : a[k] = b[k]
        · have hn : (a[k] != b[k]) = false := by simp [hx]
          have HX := Lib.hid hx; clear hx
          go_wp2
          go_quiet (fail)
          go_wp2
          go_roundw
          case rel => exact ⟨k + 1, _, by omega, by go_num, by rw [take_snoc a k hlt, take_snoc b k hltb, HT.out, HX.out], rfl⟩
          case measure => simp [intOf]; omega
        · have hn : (a[k] != b[k]) = true := by simpa using hx
          have HX := Lib.hid hx; clear hx
          go_wp2
          go_quiet (fail)
          go_wp2
          go_ret
          exact ⟨ret_bool (by symm; simp only [sameB, decide_eq_false_iff_not]; rintro rfl; exact HX.out rfl), n + nq, World.drewN_drewN _ _ _⟩
      · go_wp2
        go_ret
        refine ⟨ret_bool ?_, _, rfl⟩
        have h1 := HT.out
        have h2 := HL.out
        rw [List.take_of_length_le (by omega), List.take_of_length_le (by omega)] at h1
        simp [sameB, h1]
  · have hne : ((a.length : Int) != (b.length : Int)) = true := by simp; omega
    go_enter Try.func38, Try.ntmps38
    go_wp2
    go_ret
    exact ⟨ret_bool (by symm; simp only [sameB, decide_eq_false_iff_not]; rintro rfl; exact hlen rfl), 0, rfl⟩

theorem isOf_set {is : List Int} {i : Nat} (hi : i < is.length) (x n : Int) : isOf (is.set i x) n = if n = i then x else isOf is n := by
  unfold isOf
  rw [List.length_set]
  by_cases h : n < 0 ∨ (is.length : Int) ≤ n
  · rw [if_pos h, if_neg (by omega), if_pos h]
  · rw [if_neg h, if_neg h]
    by_cases e : n = i
    · rw [if_pos e, List.getD_eq_getElem?_getD, show n.toNat = i by omega, List.getElem?_set_self hi]
      rfl
    · rw [if_neg e, List.getD_eq_getElem?_getD, List.getD_eq_getElem?_getD, List.getElem?_set_ne (by omega)]
theorem isOf_settle (is : List Int) (n : Int) : isOf (settleL is) n = settleI (isOf is n) := by
  unfold isOf settleL
  rw [List.length_map]
  by_cases h : n < 0 ∨ (is.length : Int) ≤ n
  · rw [if_pos h, if_pos h]; rfl
  · rw [if_neg h, if_neg h, List.getD_eq_getElem?_getD, List.getD_eq_getElem?_getD, List.getElem?_map, List.getElem?_eq_getElem (by omega)]
    rfl
theorem settleI_live {x : Int} (h : settleI x = 1 ∨ settleI x = 2) : x = 1 ∨ x = 2 := by
  unfold settleI at h
  split at h
  · rename_i e; exact .inr e
  · split at h
    · omega
    · exact h
theorem freeIs_at {is : List Int} {n : Int} (h : isOf is n = 2 ∨ isOf is n = 1) : freeIs is n = is.set n.toNat (if isOf is n = 2 then 0 else 3) ∧ n.toNat < is.length ∧ 0 ≤ n := by
  obtain ⟨b0, b1, hk, _⟩ := isOf_in (is := is) (n := n) (by omega)
  refine ⟨?_, hk, b0⟩
  unfold freeIs
  split <;> rfl
/-- The reference holds what the pages hold. -/
structure Sim (s : PG) (t : DS) (r : RG) : Prop where
  is : r.is = s.is
  blen : r.b.length = r.is.length
  page : ∀ n, (isOf s.is n = 1 ∨ isOf s.is n = 2) → r.b[n.toNat]? = some (content s t n)
/-- What holds between acts. -/
structure Ok (K : Int) (C n : Nat) (s : PG) (t : DS) (r : RG) : Prop where
  inv : PInv s t
  live : Healthy t
  pool : s.pool = K
  cnt : s.is.length = C
  pend : t.pend.length ≤ n
  sim : Sim s t r
theorem live_in {is : List Int} {n : Int} (h : isOf is n = 1 ∨ isOf is n = 2) : 0 ≤ n ∧ n.toNat < is.length := by
  obtain ⟨b0, b1, hk, _⟩ := isOf_in (is := is) (n := n) (by omega)
  exact ⟨b0, hk⟩
theorem Ok.alloc {K : Int} {C n : Nat} {s s' : PG} {t t' : DS} {r : RG} (h : Ok K C n s t r) {i : Nat} (hi : i < s.is.length) (hn : Next s t (s.is.set i 2) i zeroPage 4 s' t') : Ok K C (n + 24) s' t' ⟨r.is.set i 2, r.b.set i zeroPage⟩ := by
  refine ⟨hn.inv, hn.step.ok h.live, hn.pool.trans h.pool, by rw [hn.is, List.length_set, h.cnt], by have := hn.step.pend; have := h.pend; omega, ⟨by rw [hn.is, h.sim.is], by simp [h.sim.blen], fun m hm => ?_⟩⟩
  rw [hn.is, isOf_set hi] at hm
  rw [hn.cont m]
  have hb := h.sim.blen
  rw [h.sim.is] at hb
  show (r.b.set i zeroPage)[m.toNat]? = _
  by_cases e : m = i
  · rw [if_pos e, e, Int.toNat_natCast, List.getElem?_set_self (by omega)]
  · rw [if_neg e] at hm ⊢
    have := live_in hm
    rw [List.getElem?_set_ne (by omega)]
    exact h.sim.page m hm
theorem Ok.put {K : Int} {C n : Nat} {s s' : PG} {t t' : DS} {r : RG} (h : Ok K C n s t r) {j : Int} {b : List Int} (hj : isOf s.is j = 2) (hn : Next s t s.is j b 4 s' t') : Ok K C (n + 24) s' t' { r with b := r.b.set j.toNat b } := by
  have hj' := live_in (.inr hj)
  refine ⟨hn.inv, hn.step.ok h.live, hn.pool.trans h.pool, by rw [hn.is, h.cnt], by have := hn.step.pend; have := h.pend; omega, ⟨by rw [hn.is, h.sim.is], by simp [h.sim.blen], fun m hm => ?_⟩⟩
  rw [hn.is] at hm
  rw [hn.cont m]
  have hb := h.sim.blen
  rw [h.sim.is] at hb
  show (r.b.set j.toNat b)[m.toNat]? = _
  by_cases e : m = j
  · rw [if_pos e, e, List.getElem?_set_self (by omega)]
  · have := live_in hm
    rw [if_neg e, List.getElem?_set_ne (by omega)]
    exact h.sim.page m hm
theorem Ok.get {K : Int} {C n : Nat} {s s' : PG} {t t' : DS} {r : RG} (h : Ok K C n s t r) {j : Int} (hn : Next s t s.is j (content s t j) 4 s' t') : Ok K C (n + 24) s' t' r := by
  refine ⟨hn.inv, hn.step.ok h.live, hn.pool.trans h.pool, by rw [hn.is, h.cnt], by have := hn.step.pend; have := h.pend; omega, ⟨by rw [hn.is, h.sim.is], h.sim.blen, fun m hm => ?_⟩⟩
  rw [hn.is] at hm
  rw [hn.cont m, h.sim.page m hm]
  by_cases e : m = j
  · rw [if_pos e, e]
  · rw [if_neg e]
theorem Ok.free {K : Int} {C n : Nat} {s s' : PG} {t : DS} {r : RG} (h : Ok K C n s t r) {j : Int} {l : List Int} (hj : isOf s.is j = 2 ∨ isOf s.is j = 1) (hn : Next s t (freeIs s.is j) j l 0 s' t) : Ok K C (n + 24) s' t { r with is := freeIs r.is j } := by
  obtain ⟨he, hk, h0⟩ := freeIs_at hj
  refine ⟨hn.inv, h.live, hn.pool.trans h.pool, by rw [hn.is, he, List.length_set, h.cnt], by have := h.pend; omega, ⟨by rw [hn.is, h.sim.is], ?_, fun m hm => ?_⟩⟩
  · show r.b.length = (freeIs r.is j).length
    rw [h.sim.is, he, List.length_set, h.sim.blen, h.sim.is]
  · rw [hn.is, he, isOf_set hk] at hm
    rw [hn.cont m]
    by_cases e : m = j
    · rw [if_pos (by omega)] at hm
      split at hm <;> omega
    · rw [if_neg (by omega)] at hm
      rw [if_neg e]
      exact h.sim.page m hm
theorem Ok.mono {K : Int} {C n m : Nat} {s : PG} {t : DS} {r : RG} (h : Ok K C n s t r) (hm : n ≤ m) : Ok K C m s t r := ⟨h.inv, h.live, h.pool, h.cnt, by have := h.pend; omega, h.sim⟩
theorem Ok.flush {K : Int} {C n : Nat} {s s' : PG} {t t' : DS} {r : RG} (h : Ok K C n s t r) (hK : K ≤ 6) (hn : Same s t (4 * s.used.length) s' t') : Ok K C (n + 24) s' t' r := by
  have hcap := h.inv.cap
  rw [h.pool] at hcap
  refine ⟨hn.inv, hn.step.ok h.live, hn.pool.trans h.pool, by rw [hn.is, h.cnt], by have := hn.step.pend; have := h.pend; omega, ⟨by rw [hn.is, h.sim.is], h.sim.blen, fun m hm => ?_⟩⟩
  rw [hn.is] at hm
  rw [hn.cont m]
  exact h.sim.page m hm
theorem burn_live {t : DS} (h : Healthy t) : burnS t = t := by
  unfold Healthy at h
  unfold burnS
  rw [if_neg (by omega), if_neg (by omega)]
theorem Ok.sync {K : Int} {C n : Nat} {s : PG} {t : DS} {r : RG} (h : Ok K C n s t r) : (syncE t).1 = 0 ∧ Ok K C n s (syncE t).2 r := by
  have hl := h.live
  have hb := burn_live hl
  obtain ⟨h1, h2⟩ := id hl
  unfold syncE
  rw [if_neg (by rw [h1]; decide), if_neg (by omega), hb]
  refine ⟨rfl, ⟨?_, hl, h.pool, h.cnt, Nat.zero_le _, ⟨h.sim.is, h.sim.blen, h.sim.page⟩⟩⟩
  exact ⟨h.inv.nodup, h.inv.rng, h.inv.keys, h.inv.cap, h.inv.pool1, h.inv.clean, h.inv.frm, h.inv.end_, h.inv.size, h.inv.fuse⟩
theorem Ok.settle {K : Int} {C n : Nat} {s : PG} {t : DS} {r : RG} (h : Ok K C n s t r) : Ok K C n { s with is := settleL s.is } t { r with is := settleL r.is } := by
  refine ⟨h.inv.setIs (by simp [settleL]), h.live, h.pool, by show (settleL s.is).length = C; simp [settleL, h.cnt], h.pend, ⟨by show settleL r.is = settleL s.is; rw [h.sim.is], by show r.b.length = (settleL r.is).length; simp [settleL, h.sim.blen], fun m hm => ?_⟩⟩
  have hm : isOf (settleL s.is) m = 1 ∨ isOf (settleL s.is) m = 2 := hm
  rw [isOf_settle] at hm
  exact h.sim.page m (settleI_live hm)

/-- The blocks below B, and all acts, are as they were. -/
def BKO (w w' : World) : Prop := ∀ (k : Nat) (cur : Array Value) (mk : Nat × Nat), w.heap[k]? = some (Obj.cells cur 33 mk) → w'.heap[k]? = w.heap[k]?
structure Kept (B : Nat) (w w' : World) : Prop where
  below : Below B w w'
  op : BKO w w'
theorem Kept.refl (B : Nat) (w : World) : Kept B w w := ⟨Below.refl _ _, fun _ _ _ _ => rfl⟩
theorem Kept.size {B : Nat} {w w' : World} (h : Kept B w w') : w.heap.size ≤ w'.heap.size := h.below.size
theorem Kept.trans {B : Nat} {w w1 w2 : World} (h : Kept B w w1) (k : Kept B w1 w2) : Kept B w w2 := ⟨h.below.trans k.below, fun j cur mk hj => (k.op j cur mk ((h.op j cur mk hj).trans hj)).trans (h.op j cur mk hj)⟩
theorem Kept.of {B : Nat} {w w' : World} (h : Below w.heap.size w w') (hB : B ≤ w.heap.size) : Kept B w w' := ⟨h.mono hB, fun k cur mk hk => h.block k (heap_lt hk)⟩
theorem Kept.blk {B : Nat} {w w' : World} (h : Kept B w w') {k : Nat} {cs : Array Value} (hk : Blk w k 33 cs) : Blk w' k 33 cs := (h.op k cs _ hk).trans hk
theorem PD.notOp {w : World} {g gd : Nat} {s : PG} {ds : DS} {F : Nat → Prop} (h : PD w g gd s ds F) (k : Nat) (cur : Array Value) (mk : Nat × Nat) (hk : F k) : w.heap[k]? ≠ some (Obj.cells cur 33 mk) := by
  obtain ⟨p, D, h1, h2, _, hF⟩ := h
  rcases (hF k).1 hk with h | h
  · rcases h1.kind k h with ⟨rfl, _⟩ | ⟨cur', t, ht, hb⟩
    · exact h1.map.notCells
    · rw [hb]
      intro e
      injection e with e
      injection e with _ e
      rcases ht with rfl | rfl | rfl | rfl <;> exact absurd e (by decide)
  · exact h2.notT k cur _ mk ⟨by decide, by decide⟩ h
theorem RefAt.notOp {w : World} {g : Nat} {r : RG} {R : Nat → Prop} (h : RefAt w g r R) (k : Nat) (cur : Array Value) (mk : Nat × Nat) (hk : R k) : w.heap[k]? ≠ some (Obj.cells cur 33 mk) := by
  obtain ⟨q, h1, h2⟩ := h
  intro e
  rcases (h2 k).1 hk with rfl | rfl | rfl
  · exact ne_types e h1.blk (by decide) rfl
  · exact ne_types e h1.row (by decide) rfl
  · exact ne_types e h1.rows (by decide) rfl
theorem bko_of {w w' : World} {S : Nat → Prop} (hc : Chg w w' S) (hS : ∀ k cur mk, S k → w.heap[k]? ≠ some (Obj.cells cur 33 mk)) : BKO w w' := fun k cur mk hk => hc.block k (heap_lt hk) fun hs => hS k cur mk hs hk
/-- Pages, their disk and the reference's pages, apart, in blocks from B on. -/
structure Both (B g gd gr : Nat) (w : World) (s : PG) (t : DS) (F : Nat → Prop) (r : RG) (R : Nat → Prop) : Prop where
  pd : PD w g gd s t F
  ref : RefAt w gr r R
  fb : ∀ k, F k → B ≤ k
  rb : ∀ k, R k → B ≤ k
  dis : ∀ k, F k → ¬ R k
theorem PD.apart {w w' : World} {g gd : Nat} {s : PG} {ds : DS} {F S : Nat → Prop} (h : PD w g gd s ds F) (hc : Chg w w' S) (hd : ∀ k, F k → ¬ S k) (hb : ∀ k cur mk, S k → w.heap[k]? ≠ some (Obj.cells cur 5 mk)) : PD w' g gd s ds F := by
  obtain ⟨p, D, h1, h2, h3, hF⟩ := h
  exact ⟨p, D, h1.keep (fun k hk => hc.block k (h1.lt k hk) (hd k ((hF k).2 (.inl hk)))) (bk_of_chg hc hb) hc.size, h2.apart hc (fun k hk hD => hd k ((hF k).2 (.inr hD)) hk) hb, h3, hF⟩
section
variable {B g gd gr : Nat} {w w' : World} {s : PG} {t : DS} {F : Nat → Prop} {r : RG} {R : Nat → Prop}
theorem Both.below (h : Both B g gd gr w s t F r R) (hb : Below w.heap.size w w') : Both B g gd gr w' s t F r R := ⟨h.pd.below hb, h.ref.below hb, h.fb, h.rb, h.dis⟩
theorem Both.pages (h : Both B g gd gr w s t F r R) (hB : B ≤ w.heap.size) {s' : PG} {t' : DS} (ho : OnPD g gd w F s' t' w') : Kept B w w' ∧ ∃ F', Both B g gd gr w' s' t' F' r R := by
  obtain ⟨F', h1, h2, h3⟩ := ho
  refine ⟨⟨h2.below hB h.fb, bko_of h2 fun k cur mk hk => h.pd.notOp k cur mk hk⟩, F', h1, h.ref.apart h2 (fun k hk => h.dis k hk) (fun k cur mk hk => h.pd.notByte k cur mk hk), fun k hk => ?_, h.rb, fun k hk hr => ?_⟩
  · rcases h3 k hk with x | x
    · exact h.fb k x
    · omega
  · rcases h3 k hk with x | x
    · exact h.dis k x hr
    · have := h.ref.lt k hr; omega
theorem Both.refs (h : Both B g gd gr w s t F r R) (hB : B ≤ w.heap.size) {r' : RG} (ho : OnR gr w R r' w') : Kept B w w' ∧ Both B g gd gr w' s t F r' R := by
  obtain ⟨h1, h2⟩ := ho
  exact ⟨⟨h2.below hB h.rb, bko_of h2 fun k cur mk hk => h.ref.notOp k cur mk hk⟩, h.pd.apart h2 (fun k hk => h.dis k hk) (fun k cur mk hk => h.ref.notByte k cur mk hk), h1, h.fb, h.rb, h.dis⟩
theorem Both.sync (h : Both B g gd gr w s t F r R) (hf : t.fuse ≤ 9223372036854775807) (hp : t.pend.length ≤ 1000000000) : Calls Try.prog 40 #[.pointer (some ⟨gd, 0, none⟩)] w fun e w' => e = .returned (.int .i64 (syncE t).1) ∧ OnPD g gd w F s (syncE t).2 w' := by
  obtain ⟨p, D, h1, h2, h3, hF⟩ := h.pd
  refine (sync_w gd t D w h2 hf hp).mono ?_
  rintro e w' ⟨rfl, ho⟩
  exact ⟨rfl, PD.acts h1 h2 h3 hF ho⟩
end
theorem drewN_below (w : World) (q : Nat) : Below w.heap.size w (w.drewN q) := ⟨rfl, rfl, rfl, Nat.le_refl _, fun _ _ => rfl⟩
/-- What holds in memory between acts. -/
def StB (B g gd gr : Nat) (K : Int) (C n : Nat) (w : World) : Prop := ∃ s t F r R, Both B g gd gr w s t F r R ∧ Ok K C n s t r
theorem StB.below {B g gd gr : Nat} {K : Int} {C n : Nat} {w w' : World} (h : StB B g gd gr K C n w) (hb : Below w.heap.size w w') : StB B g gd gr K C n w' := by
  obtain ⟨s, t, F, r, R, h1, h2⟩ := h
  exact ⟨s, t, F, r, R, h1.below hb, h2⟩
theorem StB.mono {B g gd gr : Nat} {K : Int} {C n m : Nat} {w : World} (h : StB B g gd gr K C n w) (hm : n ≤ m) : StB B g gd gr K C m w := by
  obtain ⟨s, t, F, r, R, h1, h2⟩ := h
  exact ⟨s, t, F, r, R, h1, h2.mono hm⟩
/-- What act answers. -/
def ActRes (B g gd gr : Nat) (K : Int) (C n : Nat) (w : World) (e : Ending) (w' : World) : Prop := e = .returned (.bool true) ∧ Below B w w' ∧ StB B g gd gr K C (n + 24) w'
/-- Both did the same. -/
def Pair (B g gd gr : Nat) (K : Int) (C n : Nat) (w : World) (w' : World) : Prop := Kept B w w' ∧ StB B g gd gr K C (n + 24) w'
section
variable {B g gd gr : Nat} {K : Int} {C n : Nat} {w : World} (h : StB B g gd gr K C n w) (hB : B ≤ w.heap.size) (hn : n ≤ 80000000) (hC : C ≤ 100000)
include h hB hn hC
/-- The pages' act, and behind it the reference's. -/
theorem alloc_pair : Calls Try.prog 9 #[.pointer (some ⟨g, 0, none⟩)] w fun e w1 => ∃ x y, e = .returned (.tuple #[.int .i64 x, .int .i64 y]) ∧ Kept B w w1 ∧ Calls Try.prog 35 #[.pointer (some ⟨gr, 0, none⟩)] w1 fun e w2 => e = .returned (.tuple #[.int .i64 x, .int .i64 y]) ∧ Pair B g gd gr K C n w w2 := by
  have hn2 := hn
  have hC2 := hC
  obtain ⟨s, t, F, r, R, hb, ho⟩ := h
  have hpe := ho.pend
  refine (alloc_any g gd s t F w hb.pd ho.inv (by omega)).mono ?_
  rintro e0 w1 (⟨hneg, rfl, hon⟩ | ⟨i, hi, hil, ⟨s', t', rfl, hnx, hon⟩ | ⟨rfl, hnh, _⟩⟩)
  · obtain ⟨hb1, F', hb2⟩ := hb.pages hB hon
    refine ⟨0, 6, rfl, hb1, (ralloc_any gr r R w1 hb2.ref (by rw [ho.sim.is, ho.cnt]; exact hC)).mono ?_⟩
    rintro e2 w2 (⟨_, rfl, rfl⟩ | ⟨j, hj, _, _⟩)
    · exact ⟨rfl, hb1, s, t, F', r, R, hb2, ho.mono (by omega)⟩
    · rw [ho.sim.is] at hj; omega
  · obtain ⟨hb1, F', hb2⟩ := hb.pages hB hon
    refine ⟨i, 0, rfl, hb1, (ralloc_any gr r R w1 hb2.ref (by rw [ho.sim.is, ho.cnt]; exact hC)).mono ?_⟩
    rintro e2 w2 (⟨hneg, _, _⟩ | ⟨j, hj, rfl, hor⟩)
    · rw [ho.sim.is] at hneg; omega
    · rw [ho.sim.is] at hj
      obtain rfl : j = i := by omega
      obtain ⟨hb3, hb4⟩ := hb2.refs (Nat.le_trans hB hb1.size) hor
      exact ⟨rfl, hb1.trans hb3, s', t', F', _, R, hb4, ho.alloc hil hnx⟩
  · exact absurd ho.live hnh
theorem put_pair (j : Int) (b : List Int) (hob : Oct b) (hbl : b.length ≤ 100000000) (A : Option Addr) (c : Nat) (hc : Cells w w.heap.size A (U8 b)) : Calls Try.prog 10 #[.pointer (some ⟨g, 0, none⟩), .int .i64 j, .slice A b.length c] w fun e w1 => ∃ y, e = .returned (.int .i64 y) ∧ Kept B w w1 ∧ ∀ w2 A2 c2, Below w1.heap.size w1 w2 → Cells w2 w2.heap.size A2 (U8 b) → Calls Try.prog 36 #[.pointer (some ⟨gr, 0, none⟩), .int .i64 j, .slice A2 b.length c2] w2 fun e w3 => e = .returned (.int .i64 y) ∧ Kept B w w3 ∧ Kept B w2 w3 ∧ StB B g gd gr K C (n + 24) w3 := by
  have hn2 := hn
  have hC2 := hC
  obtain ⟨s, t, F, r, R, hb, ho⟩ := h
  have hpe := ho.pend
  refine (pput_any g gd s t F j A b c w hb.pd ho.inv (by omega) hc hob hbl).mono ?_
  rintro e0 w1 (⟨hx, rfl, hon⟩ | ⟨hx, hy, ⟨s', t', rfl, hnx, hon⟩ | ⟨rfl, hnh, _⟩⟩)
  · obtain ⟨hb1, F', hb2⟩ := hb.pages hB hon
    refine ⟨1, rfl, hb1, fun w2 A2 c2 hw2 hc2 => ?_⟩
    have hb3 := hb2.below hw2
    have hbw : Kept B w w2 := hb1.trans (Kept.of hw2 (Nat.le_trans hB hb1.size))
    refine (rput_any gr r R j A2 b c2 w2 hb3.ref hc2 hob hbl).mono ?_
    rintro e2 w3 (⟨_, rfl, rfl⟩ | ⟨hz, hz2, _, _⟩)
    · exact ⟨rfl, hbw, Kept.refl _ _, s, t, F', r, R, hb3, ho.mono (by omega)⟩
    · rw [ho.sim.is] at hz
      rcases hx with hx | hx
      · exact absurd hz hx
      · exact absurd hz2 hx
  · obtain ⟨hb1, F', hb2⟩ := hb.pages hB hon
    refine ⟨0, rfl, hb1, fun w2 A2 c2 hw2 hc2 => ?_⟩
    have hb3 := hb2.below hw2
    have hbw : Kept B w w2 := hb1.trans (Kept.of hw2 (Nat.le_trans hB hb1.size))
    refine (rput_any gr r R j A2 b c2 w2 hb3.ref hc2 hob hbl).mono ?_
    rintro e2 w3 (⟨hz, _, _⟩ | ⟨hz, hz2, rfl, hor⟩)
    · rw [ho.sim.is] at hz
      rcases hz with hz | hz
      · exact absurd hx hz
      · exact absurd hy hz
    · obtain ⟨hb4, hb5⟩ := hb3.refs (Nat.le_trans hB hbw.size) hor
      exact ⟨rfl, hbw.trans hb4, hb4, s', t', F', _, R, hb5, ho.put hx hnx⟩
  · exact absurd ho.live hnh
theorem get_pair (j : Int) : Calls Try.prog 12 #[.pointer (some ⟨g, 0, none⟩), .int .i64 j] w fun e w1 => ∃ A1 N1 c1 y, e = .returned (.tuple #[.slice A1 N1 c1, .int .i64 y]) ∧ Kept B w w1 ∧ Calls Try.prog 37 #[.pointer (some ⟨gr, 0, none⟩), .int .i64 j] w1 fun e w2 => ∃ A2 c2, e = .returned (.tuple #[.slice A2 N1 c2, .int .i64 y]) ∧ Pair B g gd gr K C n w w2 ∧ Calls Try.prog 38 #[.slice A1 N1 c1, .slice A2 N1 c2] w2 fun e w3 => e = .returned (.bool true) ∧ Below w2.heap.size w2 w3 := by
  have hn2 := hn
  have hC2 := hC
  obtain ⟨s, t, F, r, R, hb, ho⟩ := h
  have hpe := ho.pend
  refine (get_any g gd s t F j w hb.pd ho.inv (by omega)).mono ?_
  rintro e0 w1 (⟨hx, rfl, hon⟩ | ⟨hx, ⟨s', t', v, rfl, hown, hl, hoc, hnx, hon⟩ | ⟨rfl, hnh, _⟩⟩)
  · obtain ⟨hb1, F', hb2⟩ := hb.pages hB hon
    refine ⟨none, 0, 0, 1, rfl, hb1, (rget_any gr r R j w1 hb2.ref).mono ?_⟩
    rintro e2 w2 (⟨_, rfl, rfl⟩ | ⟨hz, _⟩)
    · refine ⟨none, 0, rfl, ⟨hb1, s, t, F', r, R, hb2, ho.mono (by omega)⟩, ?_⟩
      refine (sameK_any none none [] [] 0 0 w1 Cells.nil Cells.nil (by simp)).mono ?_
      rintro e3 w3 ⟨rfl, q, rfl⟩
      exact ⟨rfl, drewN_below _ q⟩
    · rw [ho.sim.is] at hz; omega
  · obtain ⟨hb1, F', hb2⟩ := hb.pages hB hon
    obtain ⟨A1, c1, rfl, _, _, _⟩ := hown.shape
    refine ⟨A1, _, c1, 0, rfl, hb1, (rget_any gr r R j w1 hb2.ref).mono ?_⟩
    rintro e2 w2 (⟨hz, _, _⟩ | ⟨hz, rfl, v2, l2, rfl, hl2, hp2⟩)
    · rw [ho.sim.is] at hz; omega
    · have e := ho.sim.page j hx
      rw [hl2] at e
      injection e with e
      subst e
      obtain ⟨A2, c2, rfl, hc2⟩ := hp2.cells
      refine ⟨A2, c2, rfl, ⟨hb1, s', t', F', r, R, hb2, ho.get hnx⟩, ?_⟩
      refine (sameK_any A1 A2 _ _ c1 c2 w1 hown.cells hc2 (by rw [hl]; decide)).mono ?_
      rintro e3 w3 ⟨rfl, q, rfl⟩
      exact ⟨by simp [sameB], drewN_below _ q⟩
  · exact absurd ho.live hnh
theorem free_pair (j : Int) : Calls Try.prog 13 #[.pointer (some ⟨g, 0, none⟩), .int .i64 j] w fun e w1 => ∃ y, e = .returned (.int .i64 y) ∧ Kept B w w1 ∧ Calls Try.prog 39 #[.pointer (some ⟨gr, 0, none⟩), .int .i64 j] w1 fun e w2 => e = .returned (.int .i64 y) ∧ Kept B w w2 ∧ Kept B w1 w2 ∧ StB B g gd gr K C (n + 24) w2 := by
  have hn2 := hn
  have hC2 := hC
  obtain ⟨s, t, F, r, R, hb, ho⟩ := h
  have hpe := ho.pend
  have hn2 := hn
  refine (free_any g gd s t F j w hb.pd ho.inv).mono ?_
  rintro e0 w1 (⟨hx, rfl, hon⟩ | ⟨hx, rfl, s', l, hnx, hon⟩)
  · obtain ⟨hb1, F', hb2⟩ := hb.pages hB hon
    refine ⟨1, rfl, hb1, (rfree_any gr r R j w1 hb2.ref).mono ?_⟩
    rintro e2 w2 (⟨_, rfl, rfl⟩ | ⟨hz, _⟩)
    · exact ⟨rfl, hb1, Kept.refl _ _, s, t, F', r, R, hb2, ho.mono (by omega)⟩
    · rw [ho.sim.is] at hz; omega
  · obtain ⟨hb1, F', hb2⟩ := hb.pages hB hon
    refine ⟨0, rfl, hb1, (rfree_any gr r R j w1 hb2.ref).mono ?_⟩
    rintro e2 w2 (⟨hz, _, _⟩ | ⟨_, rfl, hor⟩)
    · rw [ho.sim.is] at hz; omega
    · obtain ⟨hb3, hb4⟩ := hb2.refs (Nat.le_trans hB hb1.size) hor
      exact ⟨rfl, hb1.trans hb3, hb3, s', t, F', _, R, hb4, ho.free hx hnx⟩
theorem flush_pair (hK : K ≤ 6) : Calls Try.prog 14 #[.pointer (some ⟨g, 0, none⟩)] w fun e w1 => e = .returned (.int .i64 0) ∧ Pair B g gd gr K C n w w1 := by
  have hn2 := hn
  have hC2 := hC
  obtain ⟨s, t, F, r, R, hb, ho⟩ := h
  have hpe := ho.pend
  refine (flush_any g gd s t F w hb.pd ho.inv (by omega)).mono ?_
  rintro e0 w1 (⟨rfl, s', t', hs, hon⟩ | ⟨rfl, hnh, _⟩)
  · obtain ⟨hb1, F', hb2⟩ := hb.pages hB hon
    exact ⟨rfl, hb1, s', t', F', r, R, hb2, ho.flush hK hs⟩
  · exact absurd ho.live hnh
theorem sync_st : Calls Try.prog 40 #[.pointer (some ⟨gd, 0, none⟩)] w fun e w1 => e = .returned (.int .i64 0) ∧ Kept B w w1 ∧ StB B g gd gr K C n w1 := by
  have hn2 := hn
  have hC2 := hC
  obtain ⟨s, t, F, r, R, hb, ho⟩ := h
  have hpe := ho.pend
  obtain ⟨h1, h2⟩ := ho.sync
  refine (hb.sync ho.inv.fuse (by omega)).mono ?_
  rintro e0 w1 ⟨rfl, hon⟩
  obtain ⟨hb1, F', hb2⟩ := hb.pages hB hon
  exact ⟨by rw [h1], hb1, s, _, F', r, R, hb2, h2⟩
theorem settle_pair : Calls Try.prog 16 #[.pointer (some ⟨g, 0, none⟩)] w fun e w1 => e = .returned (.tuple #[]) ∧ Kept B w w1 ∧ Calls Try.prog 41 #[.pointer (some ⟨gr, 0, none⟩)] w1 fun e w2 => e = .returned (.tuple #[]) ∧ Kept B w w2 ∧ StB B g gd gr K C n w2 := by
  have hn2 := hn
  have hC2 := hC
  obtain ⟨s, t, F, r, R, hb, ho⟩ := h
  have hn2 := hn
  refine (settle_any g gd s t F w hb.pd ho.inv).mono ?_
  rintro e0 w1 ⟨rfl, hon⟩
  obtain ⟨hb1, F', hb2⟩ := hb.pages hB hon
  refine ⟨rfl, hb1, (rsettle_any gr r R w1 hb2.ref (by rw [ho.sim.is, ho.cnt]; exact hC)).mono ?_⟩
  rintro e2 w2 ⟨rfl, hor⟩
  obtain ⟨hb3, hb4⟩ := hb2.refs (Nat.le_trans hB hb1.size) hor
  exact ⟨rfl, hb1.trans hb3, _, t, F', _, R, hb4, ho.settle⟩
end

/-- What page answers ahead of Put: and all that is done behind it. -/
def PutAll (B g gd gr : Nat) (K : Int) (C n : Nat) (j m : Int) (w1 : World) (e : Ending) (w2 : World) : Prop := ∃ A c N, e = .returned (.slice A N c) ∧ Kept B w1 w2 ∧ Calls Try.prog 10 #[.pointer (some ⟨g, 0, none⟩), .int .i64 j, .slice A N c] w2 fun e w3 => ∃ y, e = .returned (.int .i64 y) ∧ Kept B w2 w3 ∧ Calls Try.prog 11 #[.int .i64 m] w3 fun e w4 => ∃ A2 c2 N2, e = .returned (.slice A2 N2 c2) ∧ Kept B w3 w4 ∧ Calls Try.prog 36 #[.pointer (some ⟨gr, 0, none⟩), .int .i64 j, .slice A2 N2 c2] w4 fun e w5 => e = .returned (.int .i64 y) ∧ Kept B w4 w5 ∧ Pair B g gd gr K C n w1 w5
theorem put_all {B g gd gr : Nat} {K : Int} {C n : Nat} {w1 : World} (h : StB B g gd gr K C n w1) (hB : B ≤ w1.heap.size) (hn : n ≤ 80000000) (hC : C ≤ 100000) (j m : Int) : Calls Try.prog 11 #[.int .i64 m] w1.drew (PutAll B g gd gr K C n j m w1) := by
  refine (page_v m w1.drew).mono ?_
  rintro e w2 ⟨A, c, N, rfl, hN, hc, hb⟩
  have hb2 : Below w1.heap.size w1 w2 := (Below.refl _ _).drew.trans hb
  refine ⟨A, c, N, rfl, Kept.of hb2 hB, ?_⟩
  subst hN
  refine (put_pair (h.below hb2) (Nat.le_trans hB hb2.size) hn hC j (pgL m) (pgL_oct m) (by rw [pgL_len]; decide) A c hc).mono ?_
  rintro e w3 ⟨y, rfl, hk3, hrest⟩
  refine ⟨y, rfl, hk3, (page_v m w3).mono ?_⟩
  rintro e w4 ⟨A2, c2, N2, rfl, hN2, hc2, hb4⟩
  have hB3 : B ≤ w3.heap.size := Nat.le_trans (Nat.le_trans hB hb2.size) hk3.size
  refine ⟨A2, c2, N2, rfl, Kept.of hb4 hB3, ?_⟩
  subst hN2
  refine (hrest w4 A2 c2 hb4 hc2).mono ?_
  rintro e w5 ⟨rfl, hk5, h24, hs5⟩
  exact ⟨rfl, h24, (Kept.of hb2 hB).trans hk5, hs5⟩
theorem free_all {B g gd gr : Nat} {K : Int} {C n : Nat} {w1 : World} (h : StB B g gd gr K C n w1) (hB : B ≤ w1.heap.size) (hn : n ≤ 80000000) (hC : C ≤ 100000) (j : Int) : Calls Try.prog 13 #[.pointer (some ⟨g, 0, none⟩), .int .i64 j] w1.drew fun e w2 => ∃ y, e = .returned (.int .i64 y) ∧ Kept B w1 w2 ∧ Calls Try.prog 39 #[.pointer (some ⟨gr, 0, none⟩), .int .i64 j] w2 fun e w3 => e = .returned (.int .i64 y) ∧ Kept B w2 w3 ∧ Pair B g gd gr K C n w1 w3 := by
  have hd : Kept B w1 w1.drew := Kept.of (Below.refl _ _).drew hB
  refine (free_pair (h.below (Below.refl _ _).drew) hB hn hC j).mono ?_
  rintro e w2 ⟨y, rfl, hk2, hr⟩
  refine ⟨y, rfl, hd.trans hk2, hr.mono ?_⟩
  rintro e w3 ⟨rfl, hk3, h23, hs3⟩
  exact ⟨rfl, h23, hd.trans hk3, hs3⟩
set_option maxHeartbeats 16000000 in
set_option maxRecDepth 20000 in
theorem act_any (B g gd gr : Nat) (K : Int) (C n : Nat) (op : OpP) (w : World) (h : StB B g gd gr K C n w) (hB : B ≤ w.heap.size) (hn : n ≤ 70000000) (hC : C ≤ 100000) (hK : K ≤ 6) :
    Calls Try.prog 22 #[.pointer (some ⟨gd, 0, none⟩), .pointer (some ⟨g, 0, none⟩), .pointer (some ⟨gr, 0, none⟩), .agg #[.int .i64 op.kind, .int .i64 op.n, .int .i64 op.m]] w (ActRes B g gd gr K C n w) := by
  obtain ⟨kd, j, m⟩ := op
  have hb1 : Below w.heap.size w (w.alloc (.cells #[.int .i64 kd, .int .i64 j, .int .i64 m] 33)) := (Below.refl _ _).alloc (Nat.le_refl _) _
  have hblk : Blk (w.alloc (.cells #[.int .i64 kd, .int .i64 j, .int .i64 m] 33)) w.heap.size 33 #[.int .i64 kd, .int .i64 j, .int .i64 m] := Blk.new w _ _
  have hst := h.below hb1
  have hk1 := Kept.of hb1 hB
  obtain ⟨w1, hw1⟩ : ∃ w1, w.alloc (.cells #[.int .i64 kd, .int .i64 j, .int .i64 m] 33) = w1 := ⟨_, rfl⟩
  obtain ⟨ob, hob⟩ : ∃ ob, w.heap.size = ob := ⟨_, rfl⟩
  rw [hw1] at hblk hst hk1
  rw [hob] at hblk
  have hB1 : B ≤ w1.heap.size := Nat.le_trans hB hk1.size
  have c0 : w1.cell? ⟨ob, 0, none⟩ = some (.int .i64 kd) := hblk.cell 0
  have c1 : w1.cell? ⟨ob, 1, none⟩ = some (.int .i64 j) := hblk.cell 1
  have c2 : w1.cell? ⟨ob, 2, none⟩ = some (.int .i64 m) := hblk.cell 2
  have HST := Lib.hid hst
  have HK1 := Lib.hid hk1
  have HBL := Lib.hid hblk
  have HW1 := Lib.hid hw1
  have HOB := Lib.hid hob
  have HB1 := Lib.hid hB1
  clear hst hk1 hblk hw1 hob hB1 hb1 h hB
  go_enter Try.func22, Try.ntmps22
  go_upto_region 1 with fail
  rw [HW1.out, HOB.out]
  by_cases h1 : kd = 1
  · subst h1
    have HA := Lib.hid (alloc_pair HST.out HB1.out (by omega) hC)
    go_wp2_with fail
    refine HA.out.mono ?_
    rintro e w2 ⟨x, y, rfl, _, hr⟩
    have HR := Lib.hid hr
    clear hr
    go_wp2_with fail
    refine HR.out.mono ?_
    rintro e w3 ⟨rfl, hp⟩
    have HP := Lib.hid hp
    clear hp
    go_wp2
    go_ret
    exact ⟨rfl, (HK1.out.trans HP.out.1).below, HP.out.2⟩
  have e1 : (kd == 1) = false := by simpa using h1
  clear h1
  by_cases h2 : kd = 2
  · subst h2
    have HPG : Hid (∀ w', w' = w1.drew → Calls Try.prog 11 #[.int .i64 m] w' (PutAll B g gd gr K C n j m w1)) := Lib.hid fun w' e => by rw [e]; exact put_all HST.out HB1.out (by omega) hC j m
    have q1 : Hid True := Lib.hid trivial
    go_wp2
    go_region_held3 (fun w' => w'.cell? ⟨ob, 1, none⟩ = some (.int .i64 j) ∧ w'.cell? ⟨ob, 2, none⟩ = some (.int .i64 m)) (go_keep) (first
      | (go_at_call 11; clear q1; refine (HPG.out _ rfl).mono ?_; rintro e w2 ⟨A2, c2', N2, rfl, hk2, hput⟩; have hbl2 := hk2.blk HBL.out; have d21 : w2.cell? ⟨ob, 1, none⟩ = some (.int .i64 j) := hbl2.cell 1; have d22 : w2.cell? ⟨ob, 2, none⟩ = some (.int .i64 m) := hbl2.cell 2; have HPUT := Lib.hid hput; have HBL2 := Lib.hid hbl2; clear hbl2 hput hk2)
      | (go_at_call 10; refine HPUT.out.mono ?_; rintro e w3 ⟨y, rfl, hk3, hpage⟩; have hbl3 := hk3.blk HBL2.out; have d31 : w3.cell? ⟨ob, 1, none⟩ = some (.int .i64 j) := hbl3.cell 1; have d32 : w3.cell? ⟨ob, 2, none⟩ = some (.int .i64 m) := hbl3.cell 2; have HPAGE := Lib.hid hpage; have HBL3 := Lib.hid hbl3; clear hbl3 hpage hk3)
      | (go_at_call 11; refine HPAGE.out.mono ?_; rintro e w4 ⟨A4, c4, N4, rfl, hk4, hrput⟩; have hbl4 := hk4.blk HBL3.out; have d41 : w4.cell? ⟨ob, 1, none⟩ = some (.int .i64 j) := hbl4.cell 1; have d42 : w4.cell? ⟨ob, 2, none⟩ = some (.int .i64 m) := hbl4.cell 2; have HRPUT := Lib.hid hrput; have HBL4 := Lib.hid hbl4; clear hbl4 hrput hk4)
      | (go_at_call 36; refine HRPUT.out.mono ?_; rintro e w5 ⟨rfl, hk5, hp⟩; have hbl5 := hk5.blk HBL4.out; have d51 : w5.cell? ⟨ob, 1, none⟩ = some (.int .i64 j) := hbl5.cell 1; have d52 : w5.cell? ⟨ob, 2, none⟩ = some (.int .i64 m) := hbl5.cell 2; have HP := Lib.hid hp; clear hbl5 hp hk5))
    go_wp2
    go_ret
    exact ⟨rfl, (HK1.out.trans HP.out.1).below, HP.out.2⟩
  have e2 : (kd == 2) = false := by simpa using h2
  clear h2
  by_cases h3 : kd = 3
  · subst h3
    have HA := Lib.hid (get_pair HST.out HB1.out (by omega) hC j)
    go_wp2_with fail
    refine HA.out.mono ?_
    rintro e w2 ⟨A1, N1, c1', y, rfl, hk2, hr⟩
    have hbl2 := hk2.blk HBL.out
    have d21 : w2.cell? ⟨ob, 1, none⟩ = some (.int .i64 j) := hbl2.cell 1
    have HR := Lib.hid hr
    clear hr hbl2 hk2
    go_wp2_with fail
    refine HR.out.mono ?_
    rintro e w3 ⟨A2, c2', rfl, hp, hs⟩
    have HP := Lib.hid hp
    have HS := Lib.hid hs
    clear hp hs
    go_wp2_with fail
    refine HS.out.mono ?_
    rintro e w4 ⟨rfl, hb4⟩
    have HB4 := Lib.hid hb4
    clear hb4
    go_wp2
    go_ret
    exact ⟨rfl, ((HK1.out.trans HP.out.1).trans (Kept.of HB4.out (Nat.le_trans HB1.out HP.out.1.size))).below, HP.out.2.below HB4.out⟩
  have e3 : (kd == 3) = false := by simpa using h3
  clear h3
  by_cases h4 : kd = 4
  · subst h4
    have HA : Hid (∀ w', w' = w1.drew → Calls Try.prog 13 #[.pointer (some ⟨g, 0, none⟩), .int .i64 j] w' fun e w2 => ∃ y, e = .returned (.int .i64 y) ∧ Kept B w1 w2 ∧ Calls Try.prog 39 #[.pointer (some ⟨gr, 0, none⟩), .int .i64 j] w2 fun e w3 => e = .returned (.int .i64 y) ∧ Kept B w2 w3 ∧ Pair B g gd gr K C n w1 w3) := Lib.hid fun w' e => by rw [e]; exact free_all HST.out HB1.out (by omega) hC j
    go_wp2
    go_region_held3 (fun w' => w'.cell? ⟨ob, 1, none⟩ = some (.int .i64 j)) (go_keep) (first
      | (go_at_call 13; refine (HA.out _ rfl).mono ?_; rintro e w2 ⟨y, rfl, hk2, hput⟩; have hbl2 := hk2.blk HBL.out; have d21 : w2.cell? ⟨ob, 1, none⟩ = some (.int .i64 j) := hbl2.cell 1; have HPUT := Lib.hid hput; have HBL2 := Lib.hid hbl2; clear hbl2 hput hk2)
      | (go_at_call 39; refine HPUT.out.mono ?_; rintro e w3 ⟨rfl, hk3, hp⟩; have hbl3 := hk3.blk HBL2.out; have d31 : w3.cell? ⟨ob, 1, none⟩ = some (.int .i64 j) := hbl3.cell 1; have HP := Lib.hid hp; clear hbl3 hp hk3))
    go_wp2
    go_ret
    exact ⟨rfl, (HK1.out.trans HP.out.1).below, HP.out.2⟩
  have e4 : (kd == 4) = false := by simpa using h4
  clear h4
  by_cases h5 : kd = 5
  · subst h5
    have HA := Lib.hid (flush_pair HST.out HB1.out (by omega) hC hK)
    go_wp2_with fail
    refine HA.out.mono ?_
    rintro e w2 ⟨rfl, hp⟩
    have HP := Lib.hid hp
    clear hp
    go_wp2
    go_ret
    exact ⟨rfl, (HK1.out.trans HP.out.1).below, HP.out.2⟩
  have e5 : (kd == 5) = false := by simpa using h5
  clear h5
  by_cases h6 : kd = 6
  · subst h6
    have HA := Lib.hid (flush_pair HST.out HB1.out (by omega) hC hK)
    go_wp2_with fail
    refine HA.out.mono ?_
    rintro e w2 ⟨rfl, hp⟩
    have HP := Lib.hid hp
    have HS := Lib.hid (sync_st hp.2 (Nat.le_trans HB1.out hp.1.size) (by omega) hC)
    clear hp
    go_wp2_with fail
    refine HS.out.mono ?_
    rintro e w3 ⟨rfl, hk3, hs3⟩
    have HT := Lib.hid (settle_pair hs3 (Nat.le_trans (Nat.le_trans HB1.out HP.out.1.size) hk3.size) (by omega) hC)
    have HK3 := Lib.hid hk3
    clear hk3 hs3
    go_wp2_with fail
    refine HT.out.mono ?_
    rintro e w4 ⟨rfl, _, hr⟩
    have HR := Lib.hid hr
    clear hr
    go_wp2_with fail
    refine HR.out.mono ?_
    rintro e w5 ⟨rfl, hk5, hs5⟩
    have HK5 := Lib.hid hk5
    have HS5 := Lib.hid hs5
    clear hk5 hs5
    go_wp2
    go_ret
    exact ⟨rfl, (((HK1.out.trans HP.out.1).trans HK3.out).trans HK5.out).below, HS5.out⟩
  have e6 : (kd == 6) = false := by simpa using h6
  clear h6
  go_wp2
  go_ret
  exact ⟨rfl, HK1.out.below, HST.out.mono (by omega)⟩
end Go.Proofs.Ytkjbicenhncpeaa
