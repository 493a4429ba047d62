/-
  pages.Get.
-/
import Derived.Test.YtkjbicenhncpeaaPq
set_option linter.unusedVariables false
namespace Go.Proofs.Ytkjbicenhncpeaa
open Go.RowKit

/-- Of what was there in w only the counter of reads of the disk g has changed. -/
def Lo (w : World) (g : Nat) (wr : World) : Prop := ∃ x : Int, Below w.heap.size (w.setCell ⟨g, 6, none⟩ (.int .i64 x)) wr
theorem set_size (w : World) (p : Addr) (u : Value) : (w.setCell p u).heap.size = w.heap.size := by simp [World.setCell]
theorem DiskOf.reads {w : World} {g : Nat} {s : DS} {p : DP} (h : DiskOf w g s p) (x : Int) : DiskOf (w.setCell ⟨g, 6, none⟩ (.int .i64 x)) g { s with a0 := x } p := h.set_ 6 _ rfl rfl rfl rfl
theorem Lo.size {w wr : World} {g : Nat} (h : Lo w g wr) : w.heap.size ≤ wr.heap.size := by
  obtain ⟨x, h⟩ := h
  have := h.size
  rwa [set_size] at this
theorem Lo.far {w wr : World} {g : Nat} (h : Lo w g wr) {k : Nat} (hk : k < w.heap.size) (hg : k ≠ g) : wr.heap[k]? = w.heap[k]? := by
  obtain ⟨x, h⟩ := h
  exact (h.block k hk).trans (Below.heap_setCell w ⟨g, 6, none⟩ _ k hg)
theorem Lo.trans {w wr w' : World} {g : Nat} (h : Lo w g wr) (k : Below w.heap.size wr w') : Lo w g w' := by
  obtain ⟨x, h⟩ := h
  exact ⟨x, h.trans k⟩
theorem Lo.below {w wr : World} {g B : Nat} (h : Lo w g wr) (hg : B ≤ g) (hB : B ≤ w.heap.size) : Below B w wr := by
  obtain ⟨x, h⟩ := h
  exact ⟨h.os, h.tape, h.output, by have := h.size; rwa [set_size] at this, fun k hk => (h.block k (by omega)).trans (Below.heap_setCell w ⟨g, 6, none⟩ _ k (fun e => by have e : k = g := e; omega))⟩
theorem Lo.of {w w' : World} {g : Nat} {s : DS} {x : Int} {p : DP} (h : DiskOf w g s p) (h' : DiskOf w' g { s with a0 := x } p) (os : w'.os = w.os) (tape : w'.tape = w.tape) (out : w'.output = w.output) (hs : w.heap.size ≤ w'.heap.size) (hb : ∀ k, k < w.heap.size → k ≠ g → w'.heap[k]? = w.heap[k]?) : Lo w g w' := by
  refine ⟨x, os, tape, out, by rw [set_size]; exact hs, fun k hk => ?_⟩
  by_cases e : k = g
  · subst e
    exact h'.blk.trans (h.reads x).blk.symm
  · exact (hb k hk e).trans (Below.heap_setCell w ⟨g, 6, none⟩ _ k e).symm
theorem row_chg {w w' : World} {base : Nat} {e : TypeId} {size n : Nat} {v : Value} {xs : List Value} {g : Nat} (h : w.ownsRow base e size v n xs) (hc : Chg w w' (fun k => k = g)) (hg : g < base) : w'.ownsRow base e size v n xs := by
  refine World.ownsRow.kept (row := some g) h ⟨hc.os, hc.tape, hc.output, hc.size, fun k hk hne => hc.block k hk fun e => hne (by rw [e])⟩ ?_
  rcases h.2 with ⟨rfl, _⟩ | ⟨b, cap, cur, rfl, hb, _⟩
  · exact .inl rfl
  · refine .inr fun e => ?_
    injection e with e
    have e : b = g := e
    omega

/-- The first sectors of a page. -/
def rdK (ds : DS) (a : Int) : Nat → List Int
  | 0 => []
  | k + 1 => rdK ds a k ++ rd ds (a + k)
theorem rdK_pg (ds : DS) (a : Int) : rdK ds a 4 = pg ds a := by
  unfold pg
  simp only [rdK, List.nil_append, List.append_assoc]
  rw [show a + ((0 : Nat) : Int) = a by simp]
  rfl
theorem rdK_len {w : World} {gd : Nat} {ds : DS} {D : Nat → Prop} (h : DiskAt w gd ds D) (a : Int) : ∀ k, (rdK ds a k).length = 256 * k ∧ Oct (rdK ds a k)
  | 0 => ⟨rfl, fun x hx => by cases hx⟩
  | k + 1 => by
    obtain ⟨h1, h2⟩ := rdK_len h a k
    obtain ⟨h3, h4⟩ := h.rd_len (a + k)
    refine ⟨by simp only [rdK]; rw [List.length_append, h1, h3]; omega, fun x hx => ?_⟩
    simp only [rdK] at hx
    rcases List.mem_append.1 hx with hx | hx
    · exact h2 x hx
    · exact h4 x hx
/-- A sector was read. -/
def rdS (ds : DS) (x : Int) : DS := { ds with a0 := x }
theorem PInv.reads {s : PG} {ds : DS} (h : PInv s ds) (x : Int) : PInv s (rdS ds x) := ⟨h.nodup, h.rng, h.keys, h.cap, h.pool1, h.clean, h.frm, h.end_, h.size, h.fuse⟩
theorem PD.lo {g gd : Nat} {w wr : World} {s : PG} {ds : DS} {F : Nat → Prop} (h : PD w g gd s ds F) (hl : Lo w gd wr) : ∃ x, PD wr g gd s (rdS ds x) F ∧ Chg w wr F := by
  obtain ⟨p, D, h1, h2, h3, hF⟩ := h
  obtain ⟨x, hx⟩ := hl
  obtain ⟨q, hq, hD⟩ := id h2
  have hon : OnD gd w D (rdS ds x) (w.setCell ⟨gd, 6, none⟩ (.int .i64 x)) := OnD.one (s := ds) hD (hq.reads x) (Chg.setCell w ⟨gd, 6, none⟩ _)
  obtain ⟨k1, _, _, _, k4, _⟩ := h1.onDisk h2 h3 hon
  have hd : DiskAt (w.setCell ⟨gd, 6, none⟩ (.int .i64 x)) gd (rdS ds x) D := ⟨q, hq.reads x, hD⟩
  have hb : Below (w.setCell ⟨gd, 6, none⟩ (.int .i64 x)).heap.size (w.setCell ⟨gd, 6, none⟩ (.int .i64 x)) wr := by rw [set_size]; exact hx
  refine ⟨x, ⟨p, D, k1.below hb, hd.below hb, h3, hF⟩, (k4.mono fun k _ hk => (hF k).2 (.inr hk)).trans (Chg.of_below hb F) (fun k hk => .inl hk)⟩
theorem PD.disk {g gd : Nat} {w : World} {s : PG} {ds : DS} {F : Nat → Prop} (h : PD w g gd s ds F) : ∃ q, DiskOf w gd ds q := by
  obtain ⟨_, _, _, ⟨q, hq, _⟩, _⟩ := h
  exact ⟨q, hq⟩
theorem readP {g gd : Nat} {w wr : World} {s : PG} {ds : DS} {F : Nat → Prop} (h : PD w g gd s ds F) (hlo : Lo w gd wr) (hd : ds.down = false) (n : Int) (h0 : 0 ≤ n) (h1 : n < ds.size) :
    Calls Try.prog 33 #[.pointer (some ⟨gd, 0, none⟩), .int .i64 n] wr fun e w' => ∃ A N c, e = .returned (.tuple #[.slice A N c, .int .i64 0]) ∧ N = (rd ds n).length ∧ Cells w' w'.heap.size A (U8 (rd ds n)) ∧ Lo w gd w' ∧ Chg wr w' (fun k => k = gd) := by
  obtain ⟨p, hp⟩ := h.disk
  have hlo' := hlo
  obtain ⟨x, hx⟩ := hlo
  have hr : DiskOf wr gd { ds with a0 := x } p := (hp.reads x).below (by rw [set_size]; exact hx)
  refine (read_any gd { ds with a0 := x } p n wr hr).mono ?_
  intro e w' hw
  unfold ReadD at hw
  rw [if_neg (by show ¬ ds.down = true; rw [hd]; decide), if_neg (by show ¬ (n < 0 ∨ ds.size ≤ n); omega)] at hw
  obtain ⟨v, rfl, hown, hdk, hc⟩ := hw
  have hown' : Own w' wr.heap.size v (rd ds n) := hown
  obtain ⟨A, c, rfl, _, _, hcell⟩ := hown'.shape
  refine ⟨A, _, c, rfl, rfl, hown'.cells, ?_, hc⟩
  have s1 := hc.size
  have s2 := hlo'.size
  exact Lo.of (x := wrap64 (x + 1)) hp hdk (hc.os.trans hx.os) (hc.tape.trans hx.tape) (hc.output.trans hx.output) (by omega) fun k hk e => (hc.block k (by omega) e).trans (hlo'.far hk e)
theorem readP_no {g gd : Nat} {w : World} {s : PG} {ds : DS} {F : Nat → Prop} (h : PD w g gd s ds F) (hd : ds.down = true) (n : Int) :
    Calls Try.prog 33 #[.pointer (some ⟨gd, 0, none⟩), .int .i64 n] w.drew fun e w' => e = .returned (.tuple #[.slice none 0 0, .int .i64 7]) ∧ w.drew = w' := by
  obtain ⟨p, hp⟩ := h.drew.disk
  refine (read_any gd ds p n w.drew hp).mono ?_
  intro e w' hw
  unfold ReadD at hw
  rw [if_pos hd] at hw
  exact hw
theorem Cur.ofPut2 {g gd f : Nat} {w w2 w3 : World} {F F' : Nat → Prop} {s s' : PG} {ds t : DS} (h : PD w g gd s ds F) (hb : Chg w w2 F) (hf : F f ∨ w.heap.size ≤ f) (hp : PD w3 g gd s' t F') (hc : Chg w2 w3 F) (hF : ∀ k, F' k → F k ∨ k = f ∨ w2.heap.size ≤ k) : ∃ p D, Cur g gd w F w3 s' p t D := by
  obtain ⟨p0, D0, _, _, _, hF0⟩ := h
  obtain ⟨p, D, h1, h2, h3, hF'⟩ := hp
  have hx : ∀ k, F' k → F k ∨ w.heap.size ≤ k := fun k hk => by
    rcases hF k hk with x | x | x
    · exact .inl x
    · rw [x]; exact hf
    · exact .inr (Nat.le_trans hb.size x)
  exact ⟨p, D, h1, h2, h3, hb.trans hc (fun k hk => .inl hk), fun k hk => hx k ((hF' k).2 (.inl hk)), fun k hk => hx k ((hF' k).2 (.inr hk)), (hF0 g).2 (.inl (.inl rfl))⟩
theorem Dead.before2 {g gd : Nat} {w w2 w3 : World} {F : Nat → Prop} (hb : Chg w w2 F) (h : Dead g gd w2 F w3) : Dead g gd w F w3 := by
  obtain ⟨a1, a2, ⟨t, D, a3, a4, a5, a6⟩, a7⟩ := h
  exact ⟨a1, a2, ⟨t, D, a3, a4, a5, fun k hk => (a6 k hk).imp_right (Nat.le_trans hb.size)⟩, hb.trans a7 (fun k hk => .inl hk)⟩
theorem own_base {w : World} {a b : Nat} {v : Value} {l : List Int} (h : Own w b v l) (hab : a ≤ b) : Own w a v l := by
  refine ⟨h.1, ?_⟩
  rcases h.2 with h | ⟨g, cap, cur, e, hb, rest⟩
  · exact .inl h
  · exact .inr ⟨g, cap, cur, e, Nat.le_trans hab hb, rest⟩
theorem PageB.cells {w : World} {v : Value} {l : List Int} (h : PageB w v l) : ∃ A c, v = .slice A l.length c ∧ Cells w w.heap.size A (U8 l) := by
  obtain ⟨b, off, c, cur, mk, rfl, hb, h1, h2, hc, hl, ho⟩ := h
  exact ⟨_, c, by rw [hl], hc⟩
theorem PageB.len {w : World} {v : Value} {l : List Int} (h : PageB w v l) : l.length = 1024 ∧ Oct l := by
  obtain ⟨_, _, _, _, _, _, _, _, _, _, hl, ho⟩ := h
  exact ⟨hl, ho⟩
theorem Next.before {s s' : PG} {ds t : DS} {is' : List Int} {n : Int} {l : List Int} {k : Nat} {x : Int} (h : Next s (rdS ds x) is' n l k s' t) : Next s ds is' n l k s' t := ⟨h.is, h.frm, h.pool, h.inv, ⟨h.step.size, h.step.pend, h.step.fuse, h.step.ok⟩, h.cont⟩
theorem Next.drop {s s' : PG} {ds t : DS} {n : Int} {l : List Int} {d : Bool} (h : PutOut (dropS s n) ds n l d s' t) : Next s ds s.is n l 4 s' t :=
  ⟨h.is, h.frm, h.pool, h.inv, h.step, fun m => by
    rw [h.cont m]
    by_cases e : m = n
    · rw [if_pos e, if_pos e]
    · rw [if_neg e, if_neg e, content_drop e]⟩
/-- What Get answers. -/
def GetRes (g gd : Nat) (s : PG) (ds : DS) (n : Int) (w : World) (F : Nat → Prop) (e : Ending) (w' : World) : Prop :=
  ((isOf s.is n ≠ 1 ∧ isOf s.is n ≠ 2) ∧ e = .returned (.tuple #[.slice none 0 0, .int .i64 1]) ∧ OnPD g gd w F s ds w') ∨
  ((isOf s.is n = 1 ∨ isOf s.is n = 2) ∧
    ((∃ s' t v, e = .returned (.tuple #[v, .int .i64 0]) ∧ Own w' w.heap.size v (content s ds n) ∧ (content s ds n).length = 1024 ∧ Oct (content s ds n) ∧ Next s ds s.is n (content s ds n) 4 s' t ∧ OnPD g gd w F s' t w') ∨
     (e = .returned (.tuple #[.slice none 0 0, .int .i64 7]) ∧ ¬ Healthy ds ∧ Dead g gd w F w')))

set_option maxHeartbeats 2000000 in
theorem get_arg (g gd : Nat) (s : PG) (ds : DS) (F : Nat → Prop) (n : Int) (w : World) (h : PD w g gd s ds F) (hi : PInv s ds) (hp : ds.pend.length ≤ 100000000) (h1 : isOf s.is n ≠ 1) (h2 : isOf s.is n ≠ 2) : Calls Try.prog 12 #[.pointer (some ⟨g, 0, none⟩), .int .i64 n] w (GetRes g gd s ds n w F) := by
  obtain ⟨p, D, hC⟩ := h.cur
  have c6 := hC.pages.alive
  have hOF := of_any g gd s p n w hC.pages
  have HOF := Lib.hid hOF
  have HC := Lib.hid hC
  have HI := Lib.hid hi
  have HP := Lib.hid hp
  have H := Lib.hid h
  clear hOF hC hi hp h
  have e1 : (isOf s.is n != 1) = true := by simpa using h1
  have e2 : (isOf s.is n != 2) = true := by simpa using h2
  have HH := Lib.hid (And.intro h1 h2)
  clear h1 h2
  go_enter Try.func12, Try.ntmps12
  go_wp2_with fail
  refine (lost_any g false w c6).mono ?_
  rintro e w1 ⟨rfl, rfl⟩
  go_wp2_with fail
  refine HOF.out.mono ?_
  rintro e w1 ⟨rfl, rfl⟩
  go_wp2
  go_ret2
  exact .inl ⟨HH.out, rfl, OnPD.same H.out⟩
set_option maxHeartbeats 4000000 in
theorem get_pool (g gd : Nat) (s : PG) (ds : DS) (F : Nat → Prop) (n : Int) (w : World) (h : PD w g gd s ds F) (hi : PInv s ds) (hp : ds.pend.length ≤ 100000000) (x : Int) (hx : isOf s.is n = x) (h12 : (x = 1 ∨ x = 2)) (l : List Int) (d : Bool) (hs : s.fr n = some (l, d)) : Calls Try.prog 12 #[.pointer (some ⟨g, 0, none⟩), .int .i64 n] w (GetRes g gd s ds n w F) := by
  obtain ⟨p, D, hC⟩ := h.cur
  have c6 := hC.pages.alive
  have hOF := of_any g gd s p n w hC.pages
  have HOF := Lib.hid hOF
  have HC := Lib.hid hC
  have HI := Lib.hid hi
  have HP := Lib.hid hp
  have H := Lib.hid h
  clear hOF hC hi hp h
  have c4 : w.cell? ⟨g, 4, none⟩ = some (.map (some p.gm)) := HC.out.pages.blk.cell 4
  have hlk := HC.out.pages.map.lookup (P := Try.prog) (T := 67) (K := 3) (E := 73) Try.underlying67 Try.underlying3 (zeroFr _) n
  obtain ⟨f1, f2⟩ := HC.out.pages.some_ n l d hs
  rw [f1] at hlk
  simp only [Option.getD_some, Option.isSome_some] at hlk
  obtain ⟨f, hf⟩ : ∃ f, p.fb n = f := ⟨_, rfl⟩
  rw [hf] at f1 f2 hlk
  have hcon : content s ds n = l := by unfold content; rw [hs]; rfl
  have hin := isOf_in (is := s.is) (n := n) (by rw [hx]; omega)
  have hmem : n ∈ s.used := (HI.out.keys n).2 (by rw [hs]; simp)
  have hdl := drop_len HI.out hmem
  have hcap := HI.out.cap
  have hfF : F f := by
    obtain ⟨p0, D0, q1, q2, q3, hF0⟩ := H.out
    have b1 := f2.blk
    obtain ⟨z1, z2⟩ := q1.some_ n l d hs
    have := HC.out.foot f (.inr (.inr (.inr (.inr ⟨n, by rw [hs]; simp, hf⟩))))
    rcases this with y | y
    · exact y
    · have := heap_lt b1; omega
  have hclean : d = false → l = pg ds (s.frm + 4 * n) := fun e => HI.out.clean n l (by rw [hs, e])
  have HCLEAN := Lib.hid hclean
  have HCON := Lib.hid hcon
  have HF2 := Lib.hid f2
  have HFF := Lib.hid hfF
  have HNF : Hid (¬ s.pool ≤ ((dropS (dropS s n) n).used.length : Int)) := Lib.hid (by
    rw [dropS_none (HI.out.drop n) (dropS_none_at s n)]
    omega)
  have HIN := Lib.hid hin
  have H12 := Lib.hid h12
  have HX := Lib.hid hx
  rw [hx] at HOF
  clear f1 f2 hcon hin hmem hdl hcap hfF hf hs hclean hx
  obtain rfl | rfl := h12
  all_goals
    (go_enter Try.func12, Try.ntmps12
     go_wp2_with fail
     refine (lost_any g false w c6).mono ?_
     rintro e w1 ⟨rfl, rfl⟩
     go_wp2_with fail
     refine HOF.out.mono ?_
     rintro e w1 ⟨rfl, rfl⟩
     go_wp2_with fail
     refine (drop_any g gd s p ds n w HC.out.pages HI.out).mono ?_
     rintro e w1 hdp
     obtain ⟨rfl, p1, hC1, e1, e2, e3, e4, hkeep⟩ := HC.out.drop hdp
     have hbk : BK w w1 := fun k cur mk hk => hkeep k cur _ mk hk (by decide) (by decide)
     have hF1 : FrameAt w1 f n (p.fv n) l d := HF2.out.keep (hkeep f _ _ _ HF2.out.blk (by decide) (by decide)) hbk (by obtain ⟨_, _, _, _, _, _, _, hx, _⟩ := hdp; exact hx.size)
     obtain ⟨F1, hpd1, hch1, hsub1⟩ := hC1.on
     have HPUT := Lib.hid (put_any g gd f (dropS s n) ds F1 n _ l d w1 hpd1 (HI.out.drop n) HP.out hF1 HIN.out.1 HIN.out.2.1 HCLEAN.out)
     have HCH1 := Lib.hid hch1
     have HSUB1 := Lib.hid hsub1
     clear hdp hkeep hbk hC1 hF1 hpd1 hch1 hsub1 e1 e2 e3 e4 hlk
     go_wp2_with fail
     refine HPUT.out.mono ?_
     rintro e w3 hres
     rcases hres with ⟨rfl, s', t, F', hout, hpd, hch, hF', hfr⟩ | ⟨_, _, hbad, _⟩
     · have hcc : Chg w1 w3 (fun k => F k ∨ w.heap.size ≤ k) := hch.mono fun k _ hk => HSUB1.out k hk
       have hc2 : Chg w w3 F := HCH1.out.trans hch HSUB1.out
       have hon : OnPD g gd w F s' t w3 := ⟨F', hpd, hc2, fun k hk => by
         rcases hF' k hk with x | x | x
         · exact HSUB1.out k x
         · rw [x]; exact .inl HFF.out
         · exact .inr (Nat.le_trans HCH1.out.size x)⟩
       obtain ⟨Af, cf, hv, hcl⟩ := hfr.row.cells
       obtain ⟨hl1, hl2⟩ := hfr.row.len
       have z1 : w3.cell? ⟨f, 1, none⟩ = some (.slice Af l.length cf) := by rw [← hv]; exact hfr.blk.cell 1
       obtain ⟨N, hN⟩ : ∃ N, l.length = N := ⟨_, rfl⟩
       have hcn := clone_any Af l cf w3 hcl (by omega)
       rw [hN] at z1 hcn
       have HCN := Lib.hid hcn
       have HON := Lib.hid hon
       have HNX := Lib.hid (Next.drop hout)
       have HL := Lib.hid (And.intro hl1 hl2)
       have HSZ : Hid (w.heap.size ≤ w3.heap.size) := Lib.hid hc2.size
       clear hcn hon hout hpd hch hF' hfr hcc hc2 hv hcl hl1 hl2 hN
       go_wp2_with fail
       refine HCN.out.mono ?_
       rintro e w6 ⟨v6, rfl, hown, hb6⟩
       have HOWN := Lib.hid hown
       have HB6 := Lib.hid hb6
       clear hown hb6
       go_wp2
       go_ret2
       refine .inr ⟨by rw [HX.out]; first | exact .inl rfl | exact .inr rfl, .inl ⟨s', t, v6, rfl, ?_, ?_, ?_, ?_, ?_⟩⟩
       · rw [HCON.out]; exact own_base HOWN.out HSZ.out
       · rw [HCON.out]; exact HL.out.1
       · rw [HCON.out]; exact HL.out.2
       · rw [HCON.out]; exact HNX.out
       · obtain ⟨F9, y1, y2, y3⟩ := HON.out
         exact ⟨F9, y1.below HB6.out, y2.trans (Chg.of_below HB6.out F) (fun k hk => .inl hk), y3⟩
     · exact absurd (show s.pool ≤ _ from hbad) (by have := HNF.out; omega))
set_option maxHeartbeats 4000000 in
theorem get_down (g gd : Nat) (s : PG) (ds : DS) (F : Nat → Prop) (n : Int) (w : World) (h : PD w g gd s ds F) (hi : PInv s ds) (hp : ds.pend.length ≤ 100000000) (x : Int) (hx : isOf s.is n = x) (h12 : (x = 1 ∨ x = 2)) (hs : s.fr n = none) (hdn : ds.down = true) : Calls Try.prog 12 #[.pointer (some ⟨g, 0, none⟩), .int .i64 n] w (GetRes g gd s ds n w F) := by
  obtain ⟨p, D, hC⟩ := h.cur
  have c6 := hC.pages.alive
  have hOF := of_any g gd s p n w hC.pages
  have HOF := Lib.hid hOF
  have HC := Lib.hid hC
  have HI := Lib.hid hi
  have HP := Lib.hid hp
  have H := Lib.hid h
  clear hOF hC hi hp h
  have c4 : w.cell? ⟨g, 4, none⟩ = some (.map (some p.gm)) := HC.out.pages.blk.cell 4
  have hlk := HC.out.pages.map.lookup (P := Try.prog) (T := 67) (K := 3) (E := 73) Try.underlying67 Try.underlying3 (zeroFr _) n
  rw [HC.out.pages.none_ n hs] at hlk
  simp only [Option.getD_none, Option.isSome_none] at hlk
  have hcon : content s ds n = pg ds (s.frm + 4 * n) := by unfold content; rw [hs]; rfl
  have hin := isOf_in (is := s.is) (n := n) (by rw [hx]; omega)
  have hgd : gd < w.heap.size := by obtain ⟨q, hq⟩ := H.out.disk; exact heap_lt hq.blk
  have hend := HI.out.end_
  have hfrm := HI.out.frm
  have hsz := HI.out.size
  have b0 : 0 ≤ n := hin.1
  have b1 : n < s.is.length := hin.2.1
  have b2 : n ≤ 65536 := by omega
  have b3 : s.frm ≤ 65536 := by omega
  have b4 : s.frm + 4 * n + 4 ≤ ds.size := by omega
  have HCON := Lib.hid hcon
  have HIN := Lib.hid hin
  have HS := Lib.hid hs
  have H12 := Lib.hid h12
  have HX := Lib.hid hx
  rw [hx] at HOF
  have HGD := Lib.hid hgd
  clear hcon hin hs hx hgd hend
  have c0 : w.cell? ⟨g, 0, none⟩ = some (.pointer (some ⟨gd, 0, none⟩)) := HC.out.pages.blk.cell 0
  have c1 : w.cell? ⟨g, 1, none⟩ = some (.int .i64 s.frm) := HC.out.pages.blk.cell 1
  have hz6 := HC.out.pages.blk.free 6
  have w1 : IntKind.i64.wrap (4 * n) = 4 * n := by rw [IntKind.wrap_i64]; omega
  have w2 : IntKind.i64.wrap (s.frm + 4 * n) = s.frm + 4 * n := by rw [IntKind.wrap_i64]; omega
  have w3 : IntKind.i64.wrap (s.frm + 4 * n + 0) = s.frm + 4 * n := by rw [IntKind.wrap_i64]; omega
  have w4 : s.frm + 4 * n + 0 = s.frm + 4 * n := by omega
  have HR := Lib.hid (readP_no H.out hdn (s.frm + 4 * n))
  have HDN := Lib.hid hdn
  clear hdn
  obtain rfl | rfl := h12
  all_goals
    (go_enter Try.func12, Try.ntmps12
     go_wp2_with fail
     refine (lost_any g false w c6).mono ?_
     rintro e w1 ⟨rfl, rfl⟩
     go_wp2_with fail
     refine HOF.out.mono ?_
     rintro e w1 ⟨rfl, rfl⟩
     go_wp2
     go_loopw [9, 45] (fun vb vi wr => vb = .slice none 0 0 ∧ vi = .int .i64 0 ∧ w = wr) (fun _ _ _ => 0)
     case atStart => exact ⟨rfl, rfl, rfl⟩
     case round =>
       obtain ⟨rfl, rfl, rfl⟩ := hrel
       go_wp2
       go_region_held3 (fun w' => w'.cell? ⟨g, 0, none⟩ = some (.pointer (some ⟨gd, 0, none⟩)) ∧ w'.cell? ⟨g, 1, none⟩ = some (.int .i64 s.frm)) (go_keep) (first | (go_at_call 33; refine HR.out.mono ?_; rintro e w5 ⟨rfl, rfl⟩))
       go_wp2
       go_ret2
       have hd2 := HC.out
       have hb6 := hd2.pages.blk.set_ 6 (.bool true)
       refine .inr ⟨(by rw [HX.out]; first | exact .inl rfl | exact .inr rfl), .inr ⟨rfl, (fun hh => by have := hh.1; rw [HDN.out] at this; cases this), hb6.cell 6, hd2.own, ⟨ds, D, (hd2.disk.setOwn hd2.pages.blk free_pages (by decide) 6 _).drewD, HDN.out, hd2.pages.notD hd2.disk hd2.gm g (.inl rfl), hd2.dfoot⟩, ?_⟩⟩
       exact (hd2.chg.trans (Chg.setCell w ⟨g, 6, none⟩ _) (fun i hi => by have hi : i = g := hi; rw [hi]; exact .inl hd2.own)).trans (Chg.drew _ F) (fun k hk => .inl hk))
set_option maxHeartbeats 8000000 in
theorem get_disk (g gd : Nat) (s : PG) (ds : DS) (F : Nat → Prop) (n : Int) (w : World) (h : PD w g gd s ds F) (hi : PInv s ds) (hp : ds.pend.length ≤ 100000000) (x : Int) (hx : isOf s.is n = x) (h12 : (x = 1 ∨ x = 2)) (hs : s.fr n = none) (hdn : ds.down = false) : Calls Try.prog 12 #[.pointer (some ⟨g, 0, none⟩), .int .i64 n] w (GetRes g gd s ds n w F) := by
  obtain ⟨p, D, hC⟩ := h.cur
  have c6 := hC.pages.alive
  have hOF := of_any g gd s p n w hC.pages
  have HOF := Lib.hid hOF
  have HC := Lib.hid hC
  have HI := Lib.hid hi
  have HP := Lib.hid hp
  have H := Lib.hid h
  clear hOF hC hi hp h
  have c4 : w.cell? ⟨g, 4, none⟩ = some (.map (some p.gm)) := HC.out.pages.blk.cell 4
  have hlk := HC.out.pages.map.lookup (P := Try.prog) (T := 67) (K := 3) (E := 73) Try.underlying67 Try.underlying3 (zeroFr _) n
  rw [HC.out.pages.none_ n hs] at hlk
  simp only [Option.getD_none, Option.isSome_none] at hlk
  have hcon : content s ds n = pg ds (s.frm + 4 * n) := by unfold content; rw [hs]; rfl
  have hin := isOf_in (is := s.is) (n := n) (by rw [hx]; omega)
  have hgd : gd < w.heap.size := by obtain ⟨q, hq⟩ := H.out.disk; exact heap_lt hq.blk
  have hend := HI.out.end_
  have hfrm := HI.out.frm
  have hsz := HI.out.size
  have b0 : 0 ≤ n := hin.1
  have b1 : n < s.is.length := hin.2.1
  have b2 : n ≤ 65536 := by omega
  have b3 : s.frm ≤ 65536 := by omega
  have b4 : s.frm + 4 * n + 4 ≤ ds.size := by omega
  have HCON := Lib.hid hcon
  have HIN := Lib.hid hin
  have HS := Lib.hid hs
  have H12 := Lib.hid h12
  have HX := Lib.hid hx
  rw [hx] at HOF
  have HGD := Lib.hid hgd
  clear hcon hin hs hx hgd hend
  obtain ⟨a, ha⟩ : ∃ a, s.frm + 4 * n = a := ⟨_, rfl⟩
  have w1 : IntKind.i64.wrap (4 * n) = 4 * n := by rw [IntKind.wrap_i64]; omega
  have w2 : IntKind.i64.wrap (s.frm + 4 * n) = a := by rw [IntKind.wrap_i64]; omega
  have a0 : 0 ≤ a := by omega
  have a1 : a + 4 ≤ ds.size := by omega
  have a2 : a ≤ 65536 := by omega
  have HA := Lib.hid ha
  have HDN := Lib.hid hdn
  have HA1 := Lib.hid a1
  clear ha hdn b4 hfrm hsz a1
  obtain rfl | rfl := h12
  all_goals
    (go_enter Try.func12, Try.ntmps12
     go_wp2_with fail
     refine (lost_any g false w c6).mono ?_
     rintro e w1 ⟨rfl, rfl⟩
     go_wp2_with fail
     refine HOF.out.mono ?_
     rintro e w1 ⟨rfl, rfl⟩
     go_wp2
     go_loopw [9, 45] (fun vb vi wr => ∃ k : Nat, vi = .int .i64 k ∧ k ≤ 4 ∧ Own wr w.heap.size vb (rdK ds a k) ∧ Lo w gd wr) (fun _ vi _ => 4 - (RowKit.intOf vi).toNat)
     case atStart =>
       refine ⟨0, rfl, Nat.zero_le _, Own.nil _ _, ?_⟩
       obtain ⟨q, hq⟩ := H.out.disk
       exact Lo.of (x := ds.a0) hq hq rfl rfl rfl (Nat.le_refl _) fun _ _ _ => rfl
     case round =>
       obtain ⟨k, rfl, hk4, hown, hlo⟩ := hrel
       obtain ⟨x0, hpd0, hch0⟩ := H.out.lo hlo
       obtain ⟨p0, D0, hC0⟩ := hpd0.cur
       have c0 : wr.cell? ⟨g, 0, none⟩ = some (.pointer (some ⟨gd, 0, none⟩)) := hC0.pages.blk.cell 0
       have c1 : wr.cell? ⟨g, 1, none⟩ = some (.int .i64 s.frm) := hC0.pages.blk.cell 1
       have hlen := (rdK_len H.out.cur.choose_spec.choose_spec.disk a k).1
       have HPD0 := Lib.hid hpd0
       have HCH0 := Lib.hid hch0
       clear hpd0 hch0 hC0
       by_cases hlt : k < 4
       · have hkI : (k : Int) < 4 := by omega
         obtain ⟨q, hq⟩ : ∃ q, a + (k : Int) = q := ⟨_, rfl⟩
         have w3 : IntKind.i64.wrap (a + (k : Int)) = q := by rw [IntKind.wrap_i64]; omega
         have HR := Lib.hid (readP H.out (Lo.trans hlo (Below.refl w.heap.size wr).drew) HDN.out q (by omega) (by have := HA1.out; omega))
         have hl2 := (H.out.cur.choose_spec.choose_spec.disk.rd_len q).1
         obtain ⟨M, hM⟩ : ∃ M, (rd ds q).length = M := ⟨_, rfl⟩
         have HM := Lib.hid hM
         have HL2 := Lib.hid hl2
         have HLEN := Lib.hid hlen
         have HQ := Lib.hid hq
         have HOWN := Lib.hid hown
         have HLO := Lib.hid hlo
         clear hM hl2 hlen hq hlo
         obtain ⟨Ab, cb, hvb, _⟩ := hown.shape
         obtain ⟨B, hB⟩ : ∃ B, (rdK ds a k).length = B := ⟨_, rfl⟩
         rw [hB] at hvb
         have HVB := Lib.hid hvb
         have HB := Lib.hid hB
         clear hvb hB hown
         go_wp2
         go_region_held3 (fun w' => w'.cell? ⟨g, 0, none⟩ = some (.pointer (some ⟨gd, 0, none⟩)) ∧ w'.cell? ⟨g, 1, none⟩ = some (.int .i64 s.frm)) (go_keep) (first | (go_at_call 33; refine HR.out.mono ?_; rintro e w5 ⟨A5, N5, c5, rfl, hN5, hcell5, hlo5, hch5⟩; have HN5 := Lib.hid hN5; have HCELL5 := Lib.hid hcell5; have HLO5 := Lib.hid hlo5; have HCH5 := Lib.hid hch5; obtain ⟨x5, hpd5, hchg5⟩ := H.out.lo hlo5; obtain ⟨p5, D5, hC5⟩ := hpd5.cur; have c50 : w5.cell? ⟨g, 0, none⟩ = some (.pointer (some ⟨gd, 0, none⟩)) := hC5.pages.blk.cell 0; have c51 : w5.cell? ⟨g, 1, none⟩ = some (.int .i64 s.frm) := hC5.pages.blk.cell 1; clear hpd5 hchg5 hC5 hN5 hcell5 hlo5 hch5))
         have hown5 : Own w5 w.heap.size u9 (rdK ds a k) := row_chg (by exact HOWN.out) HCH5.out HGD.out
         go_wp2_with (first | (at_builtin; refine app_any rfl (.tmp 70) (.tmp 71) rfl w.heap.size u9 (rdK ds a k) rfl hown5 w5.heap.size A5 c5 (rd ds q) (by rw [← HN5.out]; rfl) HCELL5.out (by rw [HLEN.out, HL2.out]; omega) HLO5.out.size ?_; intro v7 w7 hown7 hg7))
         have hlo7 := HLO5.out.trans (hg7.below hown5 HLO5.out.size)
         clear c50 c51
         go_roundw
         case rel => exact ⟨k + 1, by go_num, by omega, by simp only [rdK]; rw [HQ.out]; exact hown7, hlo7⟩
         case measure => simp [RowKit.intOf]; omega
       · obtain rfl : k = 4 := by omega
         have hkI : ¬ (4 : Int) < 4 := by omega
         rw [rdK_pg] at hown hlen
         have hoct : Oct (pg ds a) := by rw [← rdK_pg]; exact (rdK_len H.out.cur.choose_spec.choose_spec.disk a 4).2
         have hfa : FrameAt (wr.alloc (.cells #[.int .i64 n, u9, .bool false] 75)) wr.heap.size n u9 (pg ds a) false := ⟨Blk.new wr _ _, (own_page hown hlen hoct).keep (BKA.of_below ((Below.refl _ _).alloc (Nat.le_refl _) _)).b (by simp)⟩
         have hbb : Below wr.heap.size wr (wr.alloc (.cells #[.int .i64 n, u9, .bool false] 75)) := (Below.refl _ _).alloc (Nat.le_refl _) _
         have HPUT := Lib.hid (put_any g gd wr.heap.size s (rdS ds x0) F n u9 (pg ds a) false _ (HPD0.out.below hbb) (HI.out.reads x0) HP.out hfa b0 b1 (fun _ => by rw [HA.out]; rfl))
         have HCHB : Hid (Chg w (wr.alloc (.cells #[.int .i64 n, u9, .bool false] 75)) F) := Lib.hid (HCH0.out.trans (Chg.of_below hbb F) (fun k hk => .inl hk))
         have HLE := Lib.hid hlo.size
         obtain ⟨Ab, cb, hvb, _⟩ := hown.shape
         obtain ⟨B, hB⟩ : ∃ B, (pg ds a).length = B := ⟨_, rfl⟩
         rw [hB] at hvb
         subst hvb
         have HB := Lib.hid hB
         have HL := Lib.hid (And.intro hlen hoct)
         clear hown hlo hfa hbb hB hlen hoct
         go_wp2_with fail
         refine HPUT.out.mono ?_
         rintro e w3 hres
         rcases hres with ⟨rfl, s', t, F', hout, hpd, hch, hF', hfr⟩ | ⟨rfl, hnh, _, hdead⟩
         · obtain ⟨p', D', hC3⟩ := Cur.ofPut2 H.out HCHB.out (.inr HLE.out) hpd hch hF'
           obtain ⟨Af, cf, hv, hcl⟩ := hfr.row.cells
           rw [HB.out] at hv
           injection hv with hv1 hv2 hv3
           subst hv1 hv3
           have hcn := clone_any Ab (pg ds a) cb w3 hcl (by rw [HL.out.1]; decide)
           rw [HB.out] at hcn
           have HCN := Lib.hid hcn
           have HON := Lib.hid hC3.on
           have HSZ : Hid (w.heap.size ≤ w3.heap.size) := Lib.hid hC3.chg.size
           have HNX := Lib.hid (Next.ofPut hout).before
           clear hcn hcl hC3 hout hpd hch hF' hfr hv2
           go_wp2_with fail
           refine HCN.out.mono ?_
           rintro e w6 ⟨v6, rfl, hown, hb6⟩
           have HOWN := Lib.hid hown
           have HB6 := Lib.hid hb6
           clear hown hb6
           go_wp2
           go_ret2
           refine .inr ⟨by rw [HX.out]; first | exact .inl rfl | exact .inr rfl, .inl ⟨s', t, v6, rfl, ?_, ?_, ?_, ?_, ?_⟩⟩
           · rw [HCON.out, HA.out]; exact own_base HOWN.out HSZ.out
           · rw [HCON.out, HA.out]; exact HL.out.1
           · rw [HCON.out, HA.out]; exact HL.out.2
           · rw [HCON.out, HA.out]; exact HNX.out
           · obtain ⟨F9, y1, y2, y3⟩ := HON.out
             exact ⟨F9, y1.below HB6.out, y2.trans (Chg.of_below HB6.out F) (fun k hk => .inl hk), y3⟩
         · have HD := Lib.hid (Dead.before2 HCHB.out hdead)
           clear hdead
           go_wp2
           go_ret2
           exact .inr ⟨by rw [HX.out]; first | exact .inl rfl | exact .inr rfl, .inr ⟨rfl, hnh, HD.out⟩⟩)
theorem get_any (g gd : Nat) (s : PG) (ds : DS) (F : Nat → Prop) (n : Int) (w : World) (h : PD w g gd s ds F) (hi : PInv s ds) (hp : ds.pend.length ≤ 100000000) : Calls Try.prog 12 #[.pointer (some ⟨g, 0, none⟩), .int .i64 n] w (GetRes g gd s ds n w F) := by
  by_cases h12 : isOf s.is n = 1 ∨ isOf s.is n = 2
  · rcases hs : s.fr n with _ | ⟨l, d⟩
    · rcases hd : ds.down with _ | _
      · exact get_disk g gd s ds F n w h hi hp _ rfl h12 hs hd
      · exact get_down g gd s ds F n w h hi hp _ rfl h12 hs hd
    · exact get_pool g gd s ds F n w h hi hp _ rfl h12 l d hs
  · exact get_arg g gd s ds F n w h hi hp (fun e => h12 (.inl e)) (fun e => h12 (.inr e))
set_option maxHeartbeats 1000000 in
theorem get_over (g : Nat) (n : Int) (w : World) (hc : w.cell? ⟨g, 6, none⟩ = some (.bool true)) :
    Calls Try.prog 12 #[.pointer (some ⟨g, 0, none⟩), .int .i64 n] w fun e w' => e = .returned (.tuple #[.slice none 0 0, .int .i64 7]) ∧ w = w' := by
  go_enter Try.func12, Try.ntmps12
  go_wp2_with fail
  refine (lost_any g true w hc).mono ?_
  rintro e w1 ⟨rfl, rfl⟩
  go_wp2
  go_ret2
  exact ⟨rfl, rfl⟩
set_option maxHeartbeats 1000000 in
theorem get_nil (n : Int) (w : World) :
    Calls Try.prog 12 #[.pointer none, .int .i64 n] w fun e w' => e = .returned (.tuple #[.slice none 0 0, .int .i64 7]) ∧ w = w' := by
  go_enter Try.func12, Try.ntmps12
  go_wp2_with fail
  refine (lost_nil w).mono ?_
  rintro e w1 ⟨rfl, rfl⟩
  go_wp2
  go_ret2
  exact ⟨rfl, rfl⟩
end Go.Proofs.Ytkjbicenhncpeaa
