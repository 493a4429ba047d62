/-
  pages: Alloc, Put, Free.
-/
import Derived.Test.YtkjbicenhncpeaaPp
set_option linter.unusedVariables false
namespace Go.Proofs.Ytkjbicenhncpeaa
open Go.RowKit

/-- A page of zeros. -/
def zeroPage : List Int := List.replicate 1024 0
theorem zeroPage_oct : Oct zeroPage := fun x hx => by have := List.eq_of_mem_replicate hx; omega
theorem zeroPage_len : zeroPage.length = 1024 := List.length_replicate
theorem madeCells_one (z : Value) (n : Nat) : madeCells #[z] n = (List.replicate n z).toArray := by
  apply Array.ext
  · simp [madeCells]
  · intro i h1 h2
    simp [madeCells, Nat.mod_one]
theorem makePage (w : World) : (Instr.makeSlice 37 (.int .i64 1024) (.int .i64 1024)).run Try.prog w = .ok (.slice (some ⟨w.heap.size, 0, none⟩) 1024 1024) (w.alloc (.cells (U8 zeroPage).toArray 5)) := by
  obtain ⟨i0, hi, hz0, hz1, hz2⟩ := info_parts info8
  have h := run_make (P := Try.prog) w 37 5 i0 (.int .u8 0) Try.underlying37 hi hz0 .i64 .i64 1024 1024 (by decide) (by decide) (by rw [hz2]; decide) (by decide)
  have e2 : (1024 : Int).toNat = 1024 := rfl
  have e3 : (Value.int .u8 0).cells = #[.int .u8 0] := rfl
  rw [e2, e3, hz1, Nat.mul_one, madeCells_one] at h
  have e4 : U8 zeroPage = List.replicate 1024 (.int .u8 0) := by rw [U8, zeroPage, List.map_replicate]
  rw [e4]
  exact h

/-- The pages went on: what each is is as told; on the page n lies l, all else is as it was. -/
structure Next (s : PG) (ds : DS) (is' : List Int) (n : Int) (l : List Int) (k : Nat) (s' : PG) (t : DS) : Prop where
  is : s'.is = is'
  frm : s'.frm = s.frm
  pool : s'.pool = s.pool
  inv : PInv s' t
  step : DStep ds t k
  cont : ∀ m, content s' t m = if m = n then l else content s ds m
theorem PInv.setIs {s : PG} {ds : DS} (h : PInv s ds) {is' : List Int} (hl : is'.length = s.is.length) : PInv { s with is := is' } ds where
  nodup := h.nodup
  rng := fun n hn => by show 0 ≤ n ∧ n < (is'.length : Int); rw [hl]; exact h.rng n hn
  keys := h.keys
  cap := h.cap
  pool1 := h.pool1
  clean := h.clean
  frm := h.frm
  end_ := by show s.frm + 4 * (is'.length : Int) ≤ ds.size; rw [hl]; exact h.end_
  size := h.size
  fuse := h.fuse
theorem Next.ofPut {s s' : PG} {ds t : DS} {n : Int} {l : List Int} {d : Bool} (h : PutOut s ds n l d s' t) : Next s ds s.is n l 4 s' t := ⟨h.is, h.frm, h.pool, h.inv, h.step, h.cont⟩
theorem Next.setIs {s s' : PG} {ds t : DS} {is1 is2 : List Int} {n : Int} {l : List Int} {k : Nat} (h : Next s ds is1 n l k s' t) (hl : is2.length = is1.length) : Next s ds is2 n l k { s' with is := is2 } t :=
  ⟨rfl, h.frm, h.pool, h.inv.setIs (by rw [hl, h.is]), h.step, h.cont⟩
/-- What a page is was set. -/
theorem Cur.setIs {g gd : Nat} {w w1 : World} {F : Nat → Prop} {s : PG} {p : PP} {ds : DS} {D : Nat → Prop} (h : Cur g gd w F w1 s p ds D) (i : Nat) (x : Int) : Cur g gd w F (w1.setCell ⟨p.gi, i, none⟩ (.int .i64 x)) { s with is := s.is.set i x } p ds D :=
  ⟨h.pages.setIs i x, h.disk.setOwn h.pages.row free_state (by decide) i _, h.gm, h.chg.trans (Chg.setCell w1 ⟨p.gi, i, none⟩ _) (fun k hk => h.foot k (.inr (.inl hk))), h.foot, h.dfoot, h.own⟩
theorem chg_before {w w2 w3 : World} {F : Nat → Prop} (hb : Below w.heap.size w w2) (hc : Chg w2 w3 F) : Chg w w3 F := (Chg.of_below hb F).trans hc (fun k hk => .inl hk)
/-- Behind put. -/
theorem Cur.ofPut {g gd f : Nat} {w w2 w3 : World} {F F' : Nat → Prop} {s s' : PG} {ds t : DS} (h : PD w g gd s ds F) (hb : Below w.heap.size w w2) (hf : F f ∨ w.heap.size ≤ f) (hp : PD w3 g gd s' t F') (hc : Chg w2 w3 F) (hF : ∀ k, F' k → F k ∨ k = f ∨ w2.heap.size ≤ k) : ∃ p D, Cur g gd w F w3 s' p t D := by
  obtain ⟨p0, D0, _, _, _, hF0⟩ := h
  obtain ⟨p, D, h1, h2, h3, hF'⟩ := hp
  have hx : ∀ k, F' k → F k ∨ w.heap.size ≤ k := fun k hk => by
    rcases hF k hk with x | x | x
    · exact .inl x
    · rw [x]; exact hf
    · exact .inr (Nat.le_trans hb.size x)
  exact ⟨p, D, h1, h2, h3, chg_before hb hc , fun k hk => hx k ((hF' k).2 (.inl hk)), fun k hk => hx k ((hF' k).2 (.inr hk)), (hF0 g).2 (.inl (.inl rfl))⟩
theorem Dead.before {g gd : Nat} {w w2 w3 : World} {F : Nat → Prop} (hb : Below w.heap.size w w2) (h : Dead g gd w2 F w3) : Dead g gd w F w3 := by
  obtain ⟨a1, a2, ⟨t, D, a3, a4, a5, a6⟩, a7⟩ := h
  exact ⟨a1, a2, ⟨t, D, a3, a4, a5, fun k hk => (a6 k hk).imp_right (Nat.le_trans hb.size)⟩, chg_before hb a7⟩

/-- A page of zeros and a frame are made. -/
def frameW (w : World) (n : Int) (N : Nat) : World := (w.alloc (.cells (U8 zeroPage).toArray 5)).alloc (.cells #[.int .i64 n, .slice (some ⟨w.heap.size, 0, none⟩) N N, .bool true] 75)
theorem frameW_size (w : World) (n : Int) (N : Nat) : (frameW w n N).heap.size = w.heap.size + 2 := by simp [frameW]
theorem frameW_below (w : World) (n : Int) (N : Nat) : Below w.heap.size w (frameW w n N) := ((Below.refl _ _).alloc (Nat.le_refl _) _).alloc (by simp) _
theorem frameW_at (w : World) (n : Int) : FrameAt (frameW w n 1024) (w.heap.size + 1) n (.slice (some ⟨w.heap.size, 0, none⟩) 1024 1024) zeroPage true := by
  have hs : (w.alloc (.cells (U8 zeroPage).toArray 5)).heap.size = w.heap.size + 1 := by simp
  refine ⟨?_, ?_⟩
  · have := Blk.new (w.alloc (.cells (U8 zeroPage).toArray 5)) 75 #[.int .i64 n, .slice (some ⟨w.heap.size, 0, none⟩) 1024 1024, .bool true]
    rw [hs] at this
    exact this
  · have hb : Blk (w.alloc (.cells (U8 zeroPage).toArray 5)) w.heap.size 5 (U8 zeroPage).toArray := Blk.new w _ _
    have ho := own_blk (base := 0) hb (Nat.zero_le _) (by rw [zeroPage_len]; decide)
    rw [zeroPage_len] at ho
    have hp := own_page ho zeroPage_len zeroPage_oct
    exact hp.keep (BKA.of_below ((Below.refl _ _).alloc (Nat.le_refl _) _)).b (by rw [frameW_size, hs]; omega)
/-- What Alloc answers. -/
def AllocRes (g gd : Nat) (s : PG) (ds : DS) (w : World) (F : Nat → Prop) (e : Ending) (w' : World) : Prop :=
  (idxI s.is 0 < 0 ∧ e = .returned (.tuple #[.int .i64 0, .int .i64 6]) ∧ OnPD g gd w F s ds w') ∨
  (∃ i : Nat, idxI s.is 0 = i ∧ i < s.is.length ∧ ((∃ s' t, e = .returned (.tuple #[.int .i64 i, .int .i64 0]) ∧ Next s ds (s.is.set i 2) i zeroPage 4 s' t ∧ OnPD g gd w F s' t w') ∨ (e = .returned (.tuple #[.int .i64 0, .int .i64 7]) ∧ ¬ Healthy ds ∧ Dead g gd w F w')))
theorem idxI_neg {l : List Int} {x : Int} : idxI l x < 0 ∨ ∃ i : Nat, idxI l x = i ∧ i < l.length ∧ l[i]? = some x := by
  by_cases h : x ∈ l
  · obtain ⟨i, h1, h2, h3⟩ := idxI_mem h
    exact .inr ⟨i, h1, h2, h3⟩
  · refine .inl ?_
    rw [idxI_none fun q hq => h (List.mem_of_getElem? hq)]
    decide
theorem PagesOf.stateCells {w : World} {g gd : Nat} {s : PG} {p : PP} (h : PagesOf w g gd s p) : Cells w w.heap.size (some ⟨p.gi, 0, none⟩) (I64 s.is) := fun k u hu => by
  refine ⟨p.gi, 0, rfl, heap_lt h.row, ?_⟩
  rw [Nat.zero_add, h.row.cell k, ← Array.getElem?_toList]
  exact hu

set_option maxHeartbeats 4000000 in
theorem alloc_any (g gd : Nat) (s : PG) (ds : DS) (F : Nat → Prop) (w : World) (h : PD w g gd s ds F) (hi : PInv s ds) (hp : ds.pend.length ≤ 100000000) :
    Calls Try.prog 9 #[.pointer (some ⟨g, 0, none⟩)] w (AllocRes g gd s ds w F) := by
  obtain ⟨p, D, hC⟩ := h.cur
  have c6 := hC.pages.alive
  have c3 : w.cell? ⟨g, 3, none⟩ = some (.slice (some ⟨p.gi, 0, none⟩) s.is.length s.is.length) := hC.pages.blk.cell 3
  have hend := hi.end_
  have hfr := hi.frm
  have hsz := hi.size
  have hX := sindex_any (some ⟨p.gi, 0, none⟩) s.is s.is.length 0 w hC.pages.stateCells (by omega)
  have HX := Lib.hid hX
  have HC := Lib.hid hC
  have HI := Lib.hid hi
  have HP := Lib.hid hp
  have H := Lib.hid h
  clear hX hC hi hp h hend hfr hsz
  rcases idxI_neg (l := s.is) (x := 0) with hneg | ⟨i, hi1, hi2, hi3⟩
  · have HNEG := Lib.hid hneg
    go_enter Try.func9, Try.ntmps9
    go_wp2_with fail
    refine (lost_any g false w c6).mono ?_
    rintro e w1 ⟨rfl, rfl⟩
    go_wp2_with fail
    refine HX.out.mono ?_
    rintro e w1 ⟨rfl, rfl⟩
    go_wp2
    go_ret2
    exact .inl ⟨HNEG.out, rfl, OnPD.same H.out⟩
  · have HX2 : Hid (Calls Try.prog 28 #[.slice (some ⟨p.gi, 0, none⟩) s.is.length s.is.length, .int .i64 0] w fun e w' => e = .returned (.int .i64 i) ∧ w = w') := Lib.hid (by rw [← hi1]; exact HX.out)
    have HI1 := Lib.hid hi1
    obtain ⟨N, hN⟩ : ∃ N : Nat, N = 1024 := ⟨_, rfl⟩
    have hmk : ∀ w, (Instr.makeSlice 37 (.int .i64 1024) (.int .i64 1024)).run Try.prog w = .ok (.slice (some ⟨w.heap.size, 0, none⟩) N N) (w.alloc (.cells (U8 zeroPage).toArray 5)) := by rw [hN]; exact makePage
    have hPD2 : PD (frameW w i N) g gd s ds F := H.out.below (frameW_below w i N)
    have hfa := frameW_at w i
    rw [← hN] at hfa
    have hput := put_any g gd (w.heap.size + 1) s ds F i _ zeroPage true (frameW w i N) hPD2 HI.out HP.out hfa (by omega) (by omega) (fun e => by cases e)
    have HPUT := Lib.hid hput
    clear HX hi1 hi3 hPD2 hfa hput hN
    go_enter Try.func9, Try.ntmps9
    go_wp2_with fail
    refine (lost_any g false w c6).mono ?_
    rintro e w1 ⟨rfl, rfl⟩
    go_wp2_with fail
    refine HX2.out.mono ?_
    rintro e w1 ⟨rfl, rfl⟩
    go_wp2_with fail
    refine HPUT.out.mono ?_
    rintro e w3 hres
    rcases hres with ⟨rfl, s', t, F', hout, hpd, hch, hF', _⟩ | ⟨rfl, hnh, _, hdead⟩
    · obtain ⟨p', D', hC3⟩ := Cur.ofPut H.out (frameW_below w i N) (.inr (by omega)) hpd hch hF'
      have hnx := Next.ofPut hout
      have c3' : w3.cell? ⟨g, 3, none⟩ = some (.slice (some ⟨p'.gi, 0, none⟩) s.is.length s.is.length) := by rw [← hnx.is]; exact hC3.pages.blk.cell 3
      have ci' : w3.cell? ⟨p'.gi, i, none⟩ = some (.int .i64 (s.is[i])) := by
        have := hC3.pages.stateAt (k := i) (by rw [hnx.is]; exact hi2)
        rw [this]
        simp [hnx.is]
      have zi' := hC3.pages.row.free i
      have hii : (i : Int) < (s.is.length : Int) := by omega
      have HC3 := Lib.hid hC3
      have HNX := Lib.hid hnx
      clear hC3 hnx hpd hch hF' hout
      go_wp2
      go_ret2
      have hC4 := HC3.out.setIs i 2
      rw [HNX.out.is] at hC4
      exact .inr ⟨i, HI1.out, hi2, .inl ⟨_, t, rfl, HNX.out.setIs (by simp), hC4.on⟩⟩
    · have HD := Lib.hid (Dead.before (frameW_below w i N) hdead)
      clear hdead
      go_wp2
      go_ret2
      exact .inr ⟨i, HI1.out, hi2, .inr ⟨rfl, hnh, HD.out⟩⟩
set_option maxHeartbeats 1000000 in
theorem alloc_over (g : Nat) (w : World) (hc : w.cell? ⟨g, 6, none⟩ = some (.bool true)) :
    Calls Try.prog 9 #[.pointer (some ⟨g, 0, none⟩)] w fun e w' => e = .returned (.tuple #[.int .i64 0, .int .i64 7]) ∧ w = w' := by
  go_enter Try.func9, Try.ntmps9
  go_wp2_with fail
  refine (lost_any g true w hc).mono ?_
  rintro e w1 ⟨rfl, rfl⟩
  go_wp2
  go_ret2
  exact ⟨rfl, rfl⟩
set_option maxHeartbeats 1000000 in
theorem alloc_nil (w : World) :
    Calls Try.prog 9 #[.pointer none] w fun e w' => e = .returned (.tuple #[.int .i64 0, .int .i64 7]) ∧ w = w' := by
  go_enter Try.func9, Try.ntmps9
  go_wp2_with fail
  refine (lost_nil w).mono ?_
  rintro e w1 ⟨rfl, rfl⟩
  go_wp2
  go_ret2
  exact ⟨rfl, rfl⟩

/-- What Put answers. -/
def PPutRes (g gd : Nat) (s : PG) (ds : DS) (n : Int) (b : List Int) (w : World) (F : Nat → Prop) (e : Ending) (w' : World) : Prop :=
  ((isOf s.is n ≠ 2 ∨ b.length ≠ 1024) ∧ e = .returned (.int .i64 1) ∧ OnPD g gd w F s ds w') ∨
  (isOf s.is n = 2 ∧ b.length = 1024 ∧ ((∃ s' t, e = .returned (.int .i64 0) ∧ Next s ds s.is n b 4 s' t ∧ OnPD g gd w F s' t w') ∨ (e = .returned (.int .i64 7) ∧ ¬ Healthy ds ∧ Dead g gd w F w')))
theorem isOf_in {is : List Int} {n : Int} (h : isOf is n ≠ 0) : 0 ≤ n ∧ n < is.length ∧ ∃ hk : n.toNat < is.length, is[n.toNat] = isOf is n := by
  unfold isOf at h ⊢
  split at h
  · exact absurd rfl h
  · rename_i hn
    rw [if_neg hn]
    have hk : n.toNat < is.length := by omega
    refine ⟨by omega, by omega, hk, ?_⟩
    rw [List.getD_eq_getElem?_getD, List.getElem?_eq_getElem hk]
    rfl
theorem own_frame {w w1 : World} {v : Value} {b : List Int} (n : Int) (d : Bool) (ho : Own w1 w.heap.size v b) (hl : b.length = 1024) (hoc : Oct b) : FrameAt (w1.alloc (.cells #[.int .i64 n, v, .bool d] 75)) w1.heap.size n v b d :=
  ⟨Blk.new w1 _ _, (own_page ho hl hoc).keep (BKA.of_below ((Below.refl _ _).alloc (Nat.le_refl _) _)).b (by simp)⟩

set_option maxHeartbeats 4000000 in
theorem pput_any (g gd : Nat) (s : PG) (ds : DS) (F : Nat → Prop) (n : Int) (A : Option Addr) (b : List Int) (c : Nat) (w : World) (h : PD w g gd s ds F) (hi : PInv s ds) (hp : ds.pend.length ≤ 100000000) (hcb : Cells w w.heap.size A (U8 b)) (hob : Oct b) (hbl : b.length ≤ 100000000) :
    Calls Try.prog 10 #[.pointer (some ⟨g, 0, none⟩), .int .i64 n, .slice A b.length c] w (PPutRes g gd s ds n b w F) := by
  obtain ⟨p, D, hC⟩ := h.cur
  have c6 := hC.pages.alive
  have hOF := of_any g gd s p n w hC.pages
  have HOF := Lib.hid hOF
  have HC := Lib.hid hC
  have HI := Lib.hid hi
  have HP := Lib.hid hp
  have H := Lib.hid h
  have HCL := Lib.hid (clone_any A b c w hcb hbl)
  clear hOF hC hi hp h hcb
  by_cases h2 : isOf s.is n = 2
  · rw [h2] at HOF
    have HH2 := Lib.hid h2
    have hin := isOf_in (is := s.is) (n := n) (by rw [h2]; decide)
    clear h2
    obtain ⟨N, hN⟩ : ∃ N, b.length = N := ⟨_, rfl⟩
    rw [hN] at HCL ⊢
    by_cases hl : N = 1024
    · have hne : ((N : Int) != 1024) = false := by simp [hl]
      have HL : Hid (b.length = 1024) := Lib.hid (hN.trans hl)
      clear hl hN
      go_enter Try.func10, Try.ntmps10
      go_wp2_with fail
      refine (lost_any g false w c6).mono ?_
      rintro e w1 ⟨rfl, rfl⟩
      go_wp2_with fail
      refine HOF.out.mono ?_
      rintro e w1 ⟨rfl, rfl⟩
      go_wp2_with fail
      refine HCL.out.mono ?_
      rintro e w1 ⟨v1, rfl, hown, hb1⟩
      have hfa := own_frame n true hown HL.out hob
      have hbb : Below w.heap.size w (w1.alloc (.cells #[.int .i64 n, v1, .bool true] 75)) := hb1.alloc hb1.size _
      have HBB := Lib.hid hbb
      have HPUT := Lib.hid (put_any g gd w1.heap.size s ds F n v1 b true _ (H.out.below hbb) HI.out HP.out hfa hin.1 hin.2.1 (fun e => by cases e))
      have HB1 := Lib.hid hb1
      obtain ⟨A1, k1, hv1, _⟩ := hown.shape
      obtain ⟨N1, hN1⟩ : ∃ N1, b.length = N1 := ⟨_, rfl⟩
      rw [hN1] at hv1
      subst hv1
      clear hN1 hown hb1 hfa hbb
      go_wp2_with fail
      refine HPUT.out.mono ?_
      rintro e w3 hres
      rcases hres with ⟨rfl, s', t, F', hout, hpd, hch, hF', _⟩ | ⟨rfl, hnh, _, hdead⟩
      · obtain ⟨p', D', hC3⟩ := Cur.ofPut H.out HBB.out (.inr HB1.out.size) hpd hch hF'
        have HON := Lib.hid hC3.on
        have HNX := Lib.hid (Next.ofPut hout)
        clear hC3 hout hpd hch hF'
        go_wp2
        go_ret
        exact .inr ⟨HH2.out, HL.out, .inl ⟨s', t, rfl, HNX.out, HON.out⟩⟩
      · have HD := Lib.hid (Dead.before HBB.out hdead)
        clear hdead
        go_wp2
        go_ret
        exact .inr ⟨HH2.out, HL.out, .inr ⟨rfl, hnh, HD.out⟩⟩
    · have hne : ((N : Int) != 1024) = true := by simp; omega
      have HL : Hid (b.length ≠ 1024) := Lib.hid (fun e => hl (hN.symm.trans e))
      clear hl hN
      go_enter Try.func10, Try.ntmps10
      go_wp2_with fail
      refine (lost_any g false w c6).mono ?_
      rintro e w1 ⟨rfl, rfl⟩
      go_wp2_with fail
      refine HOF.out.mono ?_
      rintro e w1 ⟨rfl, rfl⟩
      go_wp2
      go_ret
      exact .inl ⟨.inr HL.out, rfl, OnPD.same H.out⟩
  · have hne : (isOf s.is n != 2) = true := by simpa using h2
    have HH2 := Lib.hid h2
    clear h2
    obtain ⟨N, hN⟩ : ∃ N, b.length = N := ⟨_, rfl⟩
    rw [hN] at HCL ⊢
    clear hN
    go_enter Try.func10, Try.ntmps10
    go_wp2_with fail
    refine (lost_any g false w c6).mono ?_
    rintro e w1 ⟨rfl, rfl⟩
    go_wp2_with fail
    refine HOF.out.mono ?_
    rintro e w1 ⟨rfl, rfl⟩
    go_wp2
    go_ret
    exact .inl ⟨.inl HH2.out, rfl, OnPD.same H.out⟩
set_option maxHeartbeats 1000000 in
theorem pput_over (g : Nat) (n : Int) (v : Value) (w : World) (hc : w.cell? ⟨g, 6, none⟩ = some (.bool true)) :
    Calls Try.prog 10 #[.pointer (some ⟨g, 0, none⟩), .int .i64 n, v] w fun e w' => e = .returned (.int .i64 7) ∧ w = w' := by
  go_enter Try.func10, Try.ntmps10
  go_wp2_with fail
  refine (lost_any g true w hc).mono ?_
  rintro e w1 ⟨rfl, rfl⟩
  go_wp2
  go_ret
  exact ⟨rfl, rfl⟩
set_option maxHeartbeats 1000000 in
theorem pput_nil (n : Int) (v : Value) (w : World) :
    Calls Try.prog 10 #[.pointer none, .int .i64 n, v] w fun e w' => e = .returned (.int .i64 7) ∧ w = w' := by
  go_enter Try.func10, Try.ntmps10
  go_wp2_with fail
  refine (lost_nil w).mono ?_
  rintro e w1 ⟨rfl, rfl⟩
  go_wp2
  go_ret
  exact ⟨rfl, rfl⟩

/-- What Free answers: what each page is behind it. -/
def freeIs (is : List Int) (n : Int) : List Int := if isOf is n = 2 then is.set n.toNat 0 else is.set n.toNat 3
def FreeRes (g gd : Nat) (s : PG) (ds : DS) (n : Int) (w : World) (F : Nat → Prop) (e : Ending) (w' : World) : Prop :=
  ((isOf s.is n ≠ 2 ∧ isOf s.is n ≠ 1) ∧ e = .returned (.int .i64 1) ∧ OnPD g gd w F s ds w') ∨
  ((isOf s.is n = 2 ∨ isOf s.is n = 1) ∧ e = .returned (.int .i64 0) ∧ ∃ s' l, Next s ds (freeIs s.is n) n l 0 s' ds ∧ OnPD g gd w F s' ds w')
theorem Next.freed {s : PG} {ds : DS} (h : PInv s ds) (n : Int) {is' : List Int} (hl : is'.length = s.is.length) : Next s ds is' n (content (dropS { s with is := is' } n) ds n) 0 (dropS { s with is := is' } n) ds := by
  refine ⟨rfl, rfl, rfl, (h.setIs hl).drop n, DStep.refl _ _, fun m => ?_⟩
  by_cases e : m = n
  · rw [if_pos e, e]
  · rw [if_neg e, content_drop e]
    rfl

set_option maxHeartbeats 4000000 in
theorem free_any (g gd : Nat) (s : PG) (ds : DS) (F : Nat → Prop) (n : Int) (w : World) (h : PD w g gd s ds F) (hi : PInv s ds) :
    Calls Try.prog 13 #[.pointer (some ⟨g, 0, none⟩), .int .i64 n] w (FreeRes g gd s ds n w F) := by
  obtain ⟨p, D, hC⟩ := h.cur
  have c6 := hC.pages.alive
  have c3 : w.cell? ⟨g, 3, none⟩ = some (.slice (some ⟨p.gi, 0, none⟩) s.is.length s.is.length) := hC.pages.blk.cell 3
  have hOF := of_any g gd s p n w hC.pages
  have HOF := Lib.hid hOF
  have HC := Lib.hid hC
  have HI := Lib.hid hi
  have H := Lib.hid h
  clear hOF hC hi h
  by_cases h2 : isOf s.is n = 2
  · -- it is 2
    rw [h2] at HOF
    obtain ⟨b0, b1, hk, hat⟩ := isOf_in (is := s.is) (n := n) (by rw [h2]; decide)
    obtain ⟨k, rfl⟩ : ∃ k : Nat, n = k := ⟨n.toNat, by omega⟩
    rw [Int.toNat_natCast] at hk
    have HH := Lib.hid h2
    have HIS : Hid (freeIs s.is k = s.is.set k 0) := Lib.hid (by unfold freeIs; rw [h2]; simp)
    have ck := HC.out.pages.stateAt hk
    obtain ⟨x, hx⟩ : ∃ x, s.is[k] = x := ⟨_, rfl⟩
    rw [hx] at ck
    have zk := HC.out.pages.row.free k
    have hlk : (k : Int) < (s.is.length : Int) := by omega
    have hk0 : (0 : Int) ≤ (k : Int) := by omega
    have hC2 := HC.out.setIs k 0
    have HC2 := Lib.hid hC2
    have HI2 : Hid (PInv { s with is := s.is.set k 0 } ds) := Lib.hid (HI.out.setIs (by simp))
    clear hC2 hat hx h2 
    go_enter Try.func13, Try.ntmps13
    go_wp2_with fail
    refine (lost_any g false w c6).mono ?_
    rintro e w1 ⟨rfl, rfl⟩
    go_wp2_with fail
    refine HOF.out.mono ?_
    rintro e w1 ⟨rfl, rfl⟩
    go_wp2_with fail
    refine (drop_any g gd _ p ds k _ HC2.out.pages HI2.out).mono ?_
    rintro e w4 hdp
    obtain ⟨rfl, p2, hC4, _⟩ := HC2.out.drop hdp
    have HON := Lib.hid hC4.on
    clear hdp hC4
    go_wp2
    go_ret
    exact .inr ⟨.inl HH.out, rfl, _, _, by rw [HIS.out]; exact Next.freed HI.out k (by simp), HON.out⟩
  by_cases h1 : isOf s.is n = 1
  · -- it is 1
    rw [h1] at HOF
    obtain ⟨b0, b1, hk, hat⟩ := isOf_in (is := s.is) (n := n) (by rw [h1]; decide)
    obtain ⟨k, rfl⟩ : ∃ k : Nat, n = k := ⟨n.toNat, by omega⟩
    rw [Int.toNat_natCast] at hk
    have HH := Lib.hid h1
    have HIS : Hid (freeIs s.is k = s.is.set k 3) := Lib.hid (by unfold freeIs; rw [h1]; simp)
    have ck := HC.out.pages.stateAt hk
    obtain ⟨x, hx⟩ : ∃ x, s.is[k] = x := ⟨_, rfl⟩
    rw [hx] at ck
    have zk := HC.out.pages.row.free k
    have hlk : (k : Int) < (s.is.length : Int) := by omega
    have hk0 : (0 : Int) ≤ (k : Int) := by omega
    have hC2 := HC.out.setIs k 3
    have HC2 := Lib.hid hC2
    have HI2 : Hid (PInv { s with is := s.is.set k 3 } ds) := Lib.hid (HI.out.setIs (by simp))
    clear hC2 hat hx h1 h2
    go_enter Try.func13, Try.ntmps13
    go_wp2_with fail
    refine (lost_any g false w c6).mono ?_
    rintro e w1 ⟨rfl, rfl⟩
    go_wp2_with fail
    refine HOF.out.mono ?_
    rintro e w1 ⟨rfl, rfl⟩
    go_wp2_with fail
    refine (drop_any g gd _ p ds k _ HC2.out.pages HI2.out).mono ?_
    rintro e w4 hdp
    obtain ⟨rfl, p2, hC4, _⟩ := HC2.out.drop hdp
    have HON := Lib.hid hC4.on
    clear hdp hC4
    go_wp2
    go_ret
    exact .inr ⟨.inr HH.out, rfl, _, _, by rw [HIS.out]; exact Next.freed HI.out k (by simp), HON.out⟩
  · have e2 : (isOf s.is n == 2) = false := by simpa using h2
    have e1 : (isOf s.is n == 1) = false := by simpa using h1
    have HH := Lib.hid (And.intro h2 h1)
    clear h2 h1
    go_enter Try.func13, Try.ntmps13
    go_wp2_with fail
    refine (lost_any g false w c6).mono ?_
    rintro e w1 ⟨rfl, rfl⟩
    go_wp2_with fail
    refine HOF.out.mono ?_
    rintro e w1 ⟨rfl, rfl⟩
    go_wp2
    go_ret
    exact .inl ⟨HH.out, rfl, OnPD.same H.out⟩
set_option maxHeartbeats 1000000 in
theorem free_over (g : Nat) (n : Int) (w : World) (hc : w.cell? ⟨g, 6, none⟩ = some (.bool true)) :
    Calls Try.prog 13 #[.pointer (some ⟨g, 0, none⟩), .int .i64 n] w fun e w' => e = .returned (.int .i64 7) ∧ w = w' := by
  go_enter Try.func13, Try.ntmps13
  go_wp2_with fail
  refine (lost_any g true w hc).mono ?_
  rintro e w1 ⟨rfl, rfl⟩
  go_wp2
  go_ret
  exact ⟨rfl, rfl⟩
set_option maxHeartbeats 1000000 in
theorem free_nil (n : Int) (w : World) :
    Calls Try.prog 13 #[.pointer none, .int .i64 n] w fun e w' => e = .returned (.int .i64 7) ∧ w = w' := by
  go_enter Try.func13, Try.ntmps13
  go_wp2_with fail
  refine (lost_nil w).mono ?_
  rintro e w1 ⟨rfl, rfl⟩
  go_wp2
  go_ret
  exact ⟨rfl, rfl⟩
end Go.Proofs.Ytkjbicenhncpeaa
