/-
  munimentref03.Sort.
-/
import Derived.Test.YtmobolefijneoaaDoorO5
set_option linter.unusedVariables false
namespace Go.Proofs.YtmobolefijneoaaDoor
open Go.RowKit Go.Joins Go.Deep

/-! ### plain: each value put ahead of the first one that is greater -/
theorem sortOn_pairwise {l : List JV} : SortOn l 0 l.length ↔ l.Pairwise leJ := by
  rw [List.pairwise_iff_getElem]
  constructor
  · intro h i j hi hj hij
    have := h i j (by omega) hij hj
    rwa [jat_lt hi, jat_lt hj] at this
  · intro h i k _ hik hk
    rw [jat_lt (by omega), jat_lt hk]
    exact h i k (by omega) hk hik
theorem sort_insert {l : List JV} {x : JV} {k : Nat} (h : SortOn l 0 l.length) (hk : k ≤ l.length) (h1 : ∀ q, q < k → leJ (jat l q) x) (h2 : k < l.length → leJ x (jat l k)) :
    SortOn (l.take k ++ [x] ++ l.drop k) 0 (l.take k ++ [x] ++ l.drop k).length := by
  rw [sortOn_pairwise]
  have hp := sortOn_pairwise.1 h
  have e : l = l.take k ++ l.drop k := (List.take_append_drop k l).symm
  rw [e] at hp
  obtain ⟨p1, p2, p3⟩ := List.pairwise_append.1 hp
  have a1 : ∀ y ∈ l.take k, leJ y x := fun y hy => by
    obtain ⟨q, hq, rfl⟩ := List.mem_iff_getElem.1 hy
    have hq' : q < k := by simp at hq; omega
    have := h1 q hq'
    rw [jat_lt (by omega)] at this
    simpa using this
  have a2 : ∀ y ∈ l.drop k, leJ x y := fun y hy => by
    obtain ⟨q, hq, rfl⟩ := List.mem_iff_getElem.1 hy
    have hq' : k + q < l.length := by simp at hq; omega
    have h3 := h2 (by omega)
    simp only [List.getElem_drop]
    by_cases e0 : q = 0
    · subst e0
      rw [jat_lt (by omega)] at h3
      simpa using h3
    · have h4 := h k (k + q) (by omega) (by omega) hq'
      rw [jat_lt hq'] at h4
      exact leJ_trans h3 h4
  rw [List.append_assoc, List.pairwise_append]
  refine ⟨p1, ?_, fun y hy z hz => ?_⟩
  · rw [List.singleton_append, List.pairwise_cons]
    exact ⟨a2, p2⟩
  · rw [List.singleton_append, List.mem_cons] at hz
    rcases hz with rfl | hz
    · exact a1 y hy
    · exact p3 y hy z hz
theorem perm_insert {α : Type} {l m : List α} {x : α} {k : Nat} (h : l.Perm m) : (l.take k ++ [x] ++ l.drop k).Perm (m ++ [x]) := by
  have e : (l.take k ++ [x] ++ l.drop k).Perm ([x] ++ (l.take k ++ l.drop k)) := by
    rw [List.append_assoc]
    exact List.perm_append_comm_assoc _ _ _
  rw [List.take_append_drop] at e
  exact e.trans ((List.Perm.append_left [x] h).trans List.perm_append_comm)
/-- The first i values, sorted. -/
structure SortTo (is js : List LV) (i : Nat) : Prop where
  perm : js.Perm (is.take i)
  sort : SortOn (LV.js js) 0 (LV.js js).length
theorem SortTo.start (is : List LV) : SortTo is [] 0 := ⟨.refl _, SortOn.few (by simp [LV.js])⟩
theorem js_insert (js : List LV) (x : LV) (k : Nat) : LV.js (js.take k ++ [x] ++ js.drop k) = (LV.js js).take k ++ [x.j] ++ (LV.js js).drop k := by
  simp [LV.js_map, List.map_take, List.map_drop]
theorem SortTo.step {is js : List LV} {i k : Nat} {x : LV} (h : SortTo is js i) (hi : i < is.length) (hx : nth is i = x) (hk : k ≤ js.length) (h1 : ∀ q, q < k → leJ (jat (LV.js js) q) x.j) (h2 : k < js.length → leJ x.j (jat (LV.js js) k)) :
    SortTo is (js.take k ++ [x] ++ js.drop k) (i + 1) := by
  refine ⟨?_, ?_⟩
  · have e : is.take (i + 1) = is.take i ++ [x] := by rw [List.take_succ_eq_append_getElem hi, ← nth_lt hi, hx]
    rw [e]
    exact perm_insert h.perm
  · rw [js_insert]
    exact sort_insert h.sort (by rw [js_length]; exact hk) h1 (by rw [js_length]; exact h2)

/-! ### append onto a row whose length is given -/
theorem VOwn.anyN {ops : Array Oper} {rest : List Oper} {w : World} {o : Oper} {a : Act} {Q : Exit → Act → World → Prop} (hgd : o.guard = none) (s x : Operand)
    (ho : o.op = .call { callee := .builtin .append, args := #[s, x], argTypes := #[23, 23] })
    (base : Nat) (v : Value) (is : List LV) (n : Nat) (hn : is.length = n) (hs : a.eval s = v) (hown : VOwn w base v is) (B : Nat) (A : Option Addr) (m c : Nat) (news : List LV) (hx : a.eval x = .slice A m c) (hm : m = news.length) (hc : Cells w B A (news.flatMap LV.cells))
    (hlen : n + m ≤ 1000000000) (hbase : base ≤ w.heap.size)
    (h : ∀ A' c' w', VOwn w' base (.slice A' (n + m) c') (is ++ news) → Below base w w' → wpList Tryd.prog ops Q rest (a.put o.dst (.slice A' (n + m) c')) w') : wpList Tryd.prog ops Q (o :: rest) a w := by
  subst hn
  exact VOwn.any hgd s x ho base v is hs hown B A m c news hx hm hc (by omega) hbase fun A' c' w' h1 h2 => h A' c' w' h1 (grew_below hown hbase h2)
theorem Cells.left' {w : World} {B : Nat} {A : Option Addr} {xs ys : List Value} (h : Cells w B A (xs ++ ys)) : Cells w B A xs := fun k u hu => h k u (by rw [List.getElem?_append_left (List.getElem?_eq_some_iff.1 hu).1]; exact hu)
theorem Cells.right' {w : World} {B b off : Nat} {xs ys : List Value} (h : Cells w B (some ⟨b, off, none⟩) (xs ++ ys)) : Cells w B (some ⟨b, off + xs.length, none⟩) ys := by
  have := h.sub xs.length
  rwa [List.drop_left] at this
theorem flat_split' (is : List LV) (p : Nat) : is.flatMap LV.cells = (is.take p).flatMap LV.cells ++ (is.drop p).flatMap LV.cells := by rw [← List.flatMap_append, List.take_append_drop]
theorem one_val' (w : World) (z : LV) (xs : Array Value) (h : xs.toList = z.cells) : Cells (w.alloc (.cells xs 25)) (w.heap.size + 1) (some ⟨w.heap.size, 0, none⟩) ([z].flatMap LV.cells) := by
  have := cells_blk w xs 25
  rw [h] at this
  simpa using this
theorem VOwn.rowAt {w : World} {base : Nat} {A : Option Addr} {n c : Nat} {js : List LV} (h : VOwn w base (.slice A n c) js) (ha : LV.AllAt w js) : RowAt w A js c := by
  obtain ⟨h1, h2, h3, _⟩ := h.cells
  unfold maxLen at h3
  exact RowAt.mk h1 ha ⟨h2, by omega⟩
theorem VOwn.base {w : World} {base b' : Nat} {v : Value} {is : List LV} (h : VOwn w base v is) (hb : b' ≤ base) : VOwn w b' v is := owns_base h hb
theorem VOwn.below' {w w' : World} {base : Nat} {v : Value} {is : List LV} (h : VOwn w base v is) (hb : Below w.heap.size w w') : VOwn w' base v is := h.below hb

set_option maxHeartbeats 8000000 in
set_option maxRecDepth 20000 in
theorem rsort_any (A : Option Addr) (is : List LV) (c : Nat) (w : World) (hR : RowAt w A is c) (hl : is.length ≤ 1000) :
    Calls Tryd.prog 17 #[.slice A is.length c] w (SortedV is w) := by
  have hcap := hR.cap
  have HFO := Lib.hid (fun w' (hb : Below w.heap.size w w') => rformedl_any _ is c w' (hR.below hb))
  have HR := Lib.hid hR
  obtain ⟨n, hn⟩ : ∃ n, is.length = n := ⟨_, rfl⟩
  rw [hn] at HFO hcap hl ⊢
  have HN := Lib.hid hn
  clear hR hn
  rcases Nat.eq_zero_or_pos n with h0 | h0
  · subst h0
    have HE : Hid (is = []) := Lib.hid (List.eq_nil_of_length_eq_zero HN.out)
    go_enter Tryd.func17, Tryd.ntmps17
    go_wp2
    refine wp_loop_rounds 1 ?_
    rw [rounds_succ]
    go_wp2
    go_ret
    exact ⟨none, [], 0, rfl, RowAt.mk Cells.nil trivial ⟨Nat.le_refl _, Nat.zero_le _⟩, Below.refl _ _, fun _ => rfl, fun _ => ⟨by rw [HE.out], SortOn.few (by simp)⟩⟩
  obtain ⟨b0, off0, rfl, _⟩ := HR.out.addr (by rw [HN.out]; exact h0)
  by_cases haf : AllF is
  case neg =>
    have HAF := Lib.hid haf
    have HFO2 : Hid (Calls Tryd.prog 30 #[.slice (some ⟨b0, off0, none⟩) n c] w fun e w' => e = .returned (.bool false) ∧ Below w.heap.size w w') := Lib.hid ((HFO.out w (Below.refl _ _)).mono (by
      rintro e w' ⟨⟨bb, rfl, hbb⟩, hb⟩
      cases bb with
      | true => exact absurd (hbb.1 rfl) haf
      | false => exact ⟨rfl, hb⟩))
    have h0I : (0 : Int) < (n : Int) := by omega
    clear haf HFO
    go_enter Tryd.func17, Tryd.ntmps17
    go_wp2
    refine wp_loop_rounds 1 ?_
    rw [rounds_succ]
    go_wp2_with fail
    refine HFO2.out.mono ?_
    rintro e w1 ⟨rfl, hb1⟩
    go_wp2
    go_ret
    exact ⟨none, [], 0, rfl, RowAt.mk Cells.nil trivial ⟨Nat.le_refl _, Nat.zero_le _⟩, hb1, fun _ => rfl, fun h => absurd h HAF.out⟩
  have HAF := Lib.hid haf
  have HFO2 : Hid (∀ w', Below w.heap.size w w' → Calls Tryd.prog 30 #[.slice (some ⟨b0, off0, none⟩) n c] w' fun e w'' => e = .returned (.bool true) ∧ Below w'.heap.size w' w'') := Lib.hid fun w' hb' => (HFO.out w' hb').mono (by
    rintro e w' ⟨⟨bb, rfl, hbb⟩, hb⟩
    cases bb with
    | false => have := hbb.2 haf; cases this
    | true => exact ⟨rfl, hb⟩)
  clear haf HFO
  go_enter Tryd.func17, Tryd.ntmps17
  go_wp2
  go_loopw [3, 4] (fun vo vi wr => ∃ (i : Nat) (A : Option Addr) (c : Nat) (js : List LV), vi = .int .i64 i ∧ vo = .slice A i c ∧ i ≤ n ∧ Hid (js.length = i) ∧ i ≤ c ∧ c ≤ 9223372036854775807 ∧ VOwn wr w.heap.size (.slice A i c) js ∧ Hid (SortTo is js i) ∧ Below w.heap.size w wr) (fun _ vi _ => n - (RowKit.intOf vi).toNat)
  case atStart => exact ⟨0, none, 0, [], rfl, rfl, Nat.zero_le _, Lib.hid rfl, Nat.le_refl _, by omega, VOwn.nil _ _, Lib.hid (SortTo.start is), Below.refl _ _⟩
  case round =>
    obtain ⟨i, Ao, co, js, rfl, rfl, hin, HLJ, hLc, hco, hO, HS, hB⟩ := hrel
    by_cases hlt : i < n
    · have hiI : (i : Int) < (n : Int) := by omega
      have hi0 : (0 : Int) ≤ (i : Int) := by omega
      have hL1 : i ≤ 1000 := by omega
      have HF1 := Lib.hid (HFO2.out wr hB)
      go_wp2_with fail
      refine HF1.out.mono ?_
      rintro e w1 ⟨rfl, hb1⟩
      have hB1 := hB.trans (hb1.mono hB.size)
      have hO1 := hO.below hb1
      clear HF1 hO hB hb1
      go_wp2
      go_loopw [5] (fun vk wq => ∃ k : Nat, vk = .int .i64 k ∧ k ≤ i ∧ VOwn wq w.heap.size (.slice Ao i co) js ∧ Hid (∀ q, q < k → leJ (jat (LV.js js) q) (jat (LV.js is) i)) ∧ Below w.heap.size w wq) (fun vk _ => i - (RowKit.intOf vk).toNat)
      case atStart => exact ⟨0, rfl, Nat.zero_le _, hO1, Lib.hid fun q h => absurd h (by omega), hB1⟩
      case round =>
        clear hO1 hB1
        obtain ⟨k, rfl, hkL, hO, HK, hB⟩ := hrel
        have hil : i < is.length := by rw [HN.out]; exact hlt
        have HAJ : Hid (LV.AllAt wr js ∧ ∀ x ∈ js, x ∈ is) := Lib.hid (by
          have h1 : ∀ x ∈ js, x ∈ is := fun x hx => List.mem_of_mem_take (HS.out.perm.mem_iff.1 hx)
          exact ⟨LV.allAt.2 fun x hx => LV.allAt.1 (HR.out.below hB).allAt x (h1 x hx), h1⟩)
        have HFIN : Hid (k < i → ¬ leJ (jat (LV.js js) k) (jat (LV.js is) i)) → Hid (∀ x, nth is i = x → SortTo is (js.take k ++ [x] ++ js.drop k) (i + 1)) := fun h => Lib.hid fun x hx => by
          have hxj : x.j = jat (LV.js is) i := by rw [← hx]; exact nth_j hil
          refine HS.out.step hil hx (by rw [HLJ.out]; exact hkL) (fun q hq => by rw [hxj]; exact HK.out q hq) (fun hk => ?_)
          have := h.out (by rw [← HLJ.out]; exact hk)
          rw [hxj]
          unfold leJ at *
          have := cmpJ_neg (jat (LV.js js) k) (jat (LV.js is) i)
          omega
        -- what is done behind the search
        have TAIL : True := trivial
        by_cases hkl : k < i
        · have hkI : (k : Int) < (i : Int) := by omega
          have hk0 : (0 : Int) ≤ (k : Int) := by omega
          have hRa := hO.rowAt HAJ.out.1
          have hRb := HR.out.below hB
          have hkj : k < js.length := by rw [HLJ.out]; exact hkl
          have hAFj : AllF js := fun x hx => HAF.out x (HAJ.out.2 x hx)
          obtain ⟨bo, oo, rfl, _⟩ := hRa.addr (by omega)
          obtain ⟨D, hD⟩ : ∃ D, cmpJ (jat (LV.js js) k) (jat (LV.js is) i) = D := ⟨_, rfl⟩
          have hHX : ∀ x, nth is i = x → nth is i = x := fun x h => h
          have hCMP1 := fun w' (hw' : Below wr.heap.size wr w') => (show Calls Tryd.prog 25 #[(nth js k).val, (nth is i).val] w' fun e w'' => e = .returned (.int .i64 (cmpJ (jat (LV.js js) k) (jat (LV.js is) i))) ∧ Below w'.heap.size w' w'' from by rw [← nth_j hkj, ← nth_j hil]; exact plain_any _ (nth js k) (nth is i) 6 6 w' (Nat.lt_succ_self _) ((hRa.at hkj).below hw' _) ((hRb.at hil).below hw' _) (hAFj _ (nth_mem hkj)) (HAF.out _ (nth_mem hil)))
          have hF1 := fun w' (hw' : Below wr.heap.size wr w') x0 x1 x2 x3 x4 (e : (nth js k).cells = [x0, x1, x2, x3, x4]) => (hRa.below hw').five hkj e
          have hG1 := fun w' (hw' : Below wr.heap.size wr w') x0 x1 x2 x3 x4 (e : (nth is i).cells = [x0, x1, x2, x3, x4]) => (hRb.below hw').five hil e
          obtain ⟨x, hx⟩ : ∃ x, nth js k = x := ⟨_, rfl⟩
          obtain ⟨y, hy⟩ : ∃ y, nth is i = y := ⟨_, rfl⟩
          rw [hD] at hCMP1
          rw [hx] at hCMP1 hF1
          rw [hy] at hCMP1 hG1
          obtain ⟨k1, n1, s1, An1, ns1, cn1, Ai1, is1, ci1⟩ := x
          obtain ⟨k2, n2, s2, An2, ns2, cn2, Ai2, is2, ci2⟩ := y
          have HCMP : Hid (∀ w', Below wr.heap.size wr w' → Calls Tryd.prog 25 #[.agg #[.int .i64 k1, .int .i64 n1, .string s1, .slice An1 ns1.length cn1, .slice Ai1 is1.length ci1], .agg #[.int .i64 k2, .int .i64 n2, .string s2, .slice An2 ns2.length cn2, .slice Ai2 is2.length ci2]] w' fun e w'' => e = .returned (.int .i64 D) ∧ Below w'.heap.size w' w'') := Lib.hid hCMP1
          have HG : Hid (∀ w', Below wr.heap.size wr w' → _) := Lib.hid fun w' hw' => hG1 w' hw' _ _ _ _ _ rfl
          have HF : Hid (∀ w', Below wr.heap.size wr w' → _) := Lib.hid fun w' hw' => hF1 w' hw' _ _ _ _ _ rfl
          have HD := Lib.hid hD
          have HX := Lib.hid hy
          clear hHX hAFj hkj hCMP1 hF1 hG1 hx hy hD hRa hRb
          have HB := Lib.hid hB
          have HO := Lib.hid hO
          clear hB hO
          by_cases hD0 : D ≤ 0
          · have hDb : decide (D ≤ 0) = true := decide_eq_true hD0
            go_wp2_with fail
            refine region_calm (by kernel_rfl) (by kernel_rfl) ?_
            repeat (first
              | go_big_quiet_skip
              | (go_big_quiet_want
                 apply quiet_at
                 · intro w' hw'
                   (obtain ⟨c0, c1, c2, c3, c4⟩ := HF.out _ (by assumption); obtain ⟨d0, d1, d2, d3, d4⟩ := HG.out _ (by assumption))
                   go_simp
                   first
                     | done
                     | exact rfl
                     | ((go_at_call 25; refine (HCMP.out _ (by assumption)).mono ?_; rintro e w9 ⟨h1, h2⟩; exact ⟨h1, Below.trans (by assumption) (h2.mono (Below.size (by assumption)))⟩))
                 (try simp only [Act.put, List.setIfInBounds_toArray, List.set_cons_zero, List.set_cons_succ])
                 go_big_quiet_on))
            refine wpQuiet_nil ?_
            intro w5 hb5
            have hb5a : Below wr.heap.size wr w5 := hb5
            have HB5 := Lib.hid (HB.out.trans (hb5a.mono HB.out.size))
            have HO5 := Lib.hid (HO.out.below hb5a)
            clear hb5 hb5a
            go_wp2
            go_roundw
            case measure => simp [RowKit.intOf]; omega
            case rel => exact ⟨k + 1, by go_num, by omega, HO5.out, Lib.hid (fun q hq => by
              by_cases e : q = k
              · rw [e]; unfold leJ; rw [HD.out]; exact hD0
              · exact HK.out q (by omega)), HB5.out⟩
          · have hDb : decide (D ≤ 0) = false := decide_eq_false hD0
            go_wp2_with fail
            refine region_calm (by kernel_rfl) (by kernel_rfl) ?_
            repeat (first
              | go_big_quiet_skip
              | (go_big_quiet_want
                 apply quiet_at
                 · intro w' hw'
                   (obtain ⟨c0, c1, c2, c3, c4⟩ := HF.out _ (by assumption); obtain ⟨d0, d1, d2, d3, d4⟩ := HG.out _ (by assumption))
                   go_simp
                   first
                     | done
                     | exact rfl
                     | ((go_at_call 25; refine (HCMP.out _ (by assumption)).mono ?_; rintro e w9 ⟨h1, h2⟩; exact ⟨h1, Below.trans (by assumption) (h2.mono (Below.size (by assumption)))⟩))
                 (try simp only [Act.put, List.setIfInBounds_toArray, List.set_cons_zero, List.set_cons_succ])
                 go_big_quiet_on))
            refine wpQuiet_nil ?_
            intro w5 hb5
            have hb5a : Below wr.heap.size wr w5 := hb5
            have hB5 := HB.out.trans (hb5a.mono HB.out.size)
            have hO5 := HO.out.below hb5a
            have HFN := HFIN (Lib.hid fun _ => by unfold leJ; rw [HD.out]; omega)
            clear hb5 hb5a HFIN HCMP HF HG HB HO
            have hcO := hO5.cells
            obtain ⟨hcO1, hcO2, hcO3, hcO4⟩ := hcO
            clear hcO4
            unfold maxLen at hcO3
            rw [flat_split' js k] at hcO1
            have hcT := hcO1.left'
            have hlT : (js.take k).length = k := by rw [List.length_take, HLJ.out]; omega
            have hlD : (js.drop k).length = i - k := by rw [List.length_drop, HLJ.out]
            have hRi : RowAt w5 (some ⟨b0, off0, none⟩) is c := HR.out.below (show Below w.heap.size w w5 from hB5)
            have hX1 := fun w6 (hb6 : Below w5.heap.size w5 w6) x0 x1 x2 x3 x4 (e : (nth is i).cells = [x0, x1, x2, x3, x4]) => (hRi.below hb6).five hil e
            have HFN2 := Lib.hid (fun x (hx : nth is i = x) => HFN.out x hx)
            obtain ⟨x, hx⟩ : ∃ x, nth is i = x := ⟨_, rfl⟩
            have HFN3 := Lib.hid (HFN2.out x hx)
            rw [hx] at hX1
            obtain ⟨k1, n1, s1, An1, ns1, cn1, Ai1, is1, ci1⟩ := x
            have HX1 := Lib.hid (fun w6 (hb6 : Below w5.heap.size w5 w6) => hX1 w6 hb6 _ _ _ _ _ rfl)
            obtain ⟨T1, hT1⟩ : ∃ T, T = js.take k := ⟨_, rfl⟩
            obtain ⟨T3, hT3⟩ : ∃ T, T = js.drop k := ⟨_, rfl⟩
            rw [← hT1] at hcT hlT hcO1 HFN3
            rw [← hT3] at hlD hcO1 HFN3
            have HO5 := Lib.hid hO5
            have HB5 := Lib.hid hB5
            have HLT := Lib.hid hlT
            have HLD := Lib.hid hlD
            have HCO := Lib.hid hcO1
            clear hX1 hx HFN HFN2 hT1 hT3 hO5 hB5 hcO1 hlT hlD hRi
            go_upto_region 9 with fail
            go_upto_region 11 with (first | (at_builtin; refine VOwn.anyN rfl (.tmp 35) (.tmp 38) rfl w5.heap.size (.slice none 0 0) [] 0 rfl rfl (VOwn.nil _ _) w5.heap.size (some ⟨bo, oo, none⟩) k co T1 rfl HLT.out.symm hcT (by omega) (Nat.le_refl _) ?_; intro A6 c6 w6 hO6 hb6; obtain ⟨d0, d1, d2, d3, d4⟩ := HX1.out w6 hb6; have hO6' : VOwn w6 w5.heap.size (.slice A6 k c6) T1 := (by simpa using hO6); have HB6 := Lib.hid hb6; have hs6 := hb6.size; clear hO6 hcT) | (at_builtin; refine VOwn.anyN rfl (.tmp 40) (.tmp 45) rfl w5.heap.size (.slice A6 k c6) T1 k HLT.out rfl (hO6'.alloc _) (w6.heap.size + 1) (some ⟨w6.heap.size, 0, none⟩) 1 1 [(LV.mk k1 n1 s1 An1 ns1 cn1 Ai1 is1 ci1)] rfl rfl (one_val' w6 (LV.mk k1 n1 s1 An1 ns1 cn1 Ai1 is1 ci1) #[.int .i64 k1, .int .i64 n1, .string s1, .slice An1 ns1.length cn1, .slice Ai1 is1.length ci1] rfl) (by omega) (by simp; omega) ?_; intro A7 c7 w7 hO7 hb7))
            have hb7' : Below w5.heap.size w5 w7 := HB6.out.trans (((Below.refl _ _).alloc hs6 _).trans hb7)
            have HC7 := Lib.hid (HCO.out.below hb7')
            have HB7 := Lib.hid hb7'
            have hs7 := hb7'.size
            have HL7 : Hid ((T1 ++ [(LV.mk k1 n1 s1 An1 ns1 cn1 Ai1 is1 ci1)]).length = k + 1) := Lib.hid (by rw [List.length_append, HLT.out]; rfl)
            obtain ⟨T2, hT2⟩ : ∃ T, T = T1 ++ [(LV.mk k1 n1 s1 An1 ns1 cn1 Ai1 is1 ci1)] := ⟨_, rfl⟩
            rw [← hT2] at hO7 HL7 HFN3
            clear d0 d1 d2 d3 d4 hO6' hb7 hb7' hb6 hT2
            by_cases hways : k = co
            · have hki : k = i := by omega
              have hD0 : T3 = [] := List.eq_nil_of_length_eq_zero (by have := HLD.out; omega)
              subst hways
              go_wp2_with (first | (at_builtin; refine VOwn.anyN rfl (.tmp 47) (.tmp 50) rfl w5.heap.size (.slice A7 (k + 1) c7) T2 (k + 1) HL7.out rfl hO7 w7.heap.size (some ⟨bo, oo, none⟩) 0 0 [] rfl rfl Cells.nil (by omega) hs7 ?_; intro A8 c8 w8 hO8 hb8))
              have hO8' : VOwn w8 w5.heap.size (.slice A8 (k + 1) c8) (T2 ++ T3) := by rw [hD0]; exact hO8
              clear hO8
              obtain ⟨q1, q2, q3, q4⟩ := hO8'.cells
              unfold maxLen at q3
              have HQ := Lib.hid (show (T2 ++ T3).length = i + 1 ∧ i + 1 ≤ c8 ∧ c8 ≤ 9223372036854775807 from by have := HL7.out; have := HLD.out; rw [List.length_append] at q2 ⊢; omega)
              have hB8 := HB5.out.trans ((HB7.out.trans hb8).mono HB5.out.size)
              have hO9 : VOwn w8 w.heap.size (.slice A8 (i + 1) c8) (T2 ++ T3) := by
                have := hO8'.base (b' := w.heap.size) HB5.out.size
                rwa [show k + 1 = i + 1 by omega] at this
              clear q1 q2 q3 q4 hO8' hb8
              go_wp2
              go_roundw
              case measure => simp [RowKit.intOf]; omega
              case rel => exact ⟨i + 1, A8, c8, T2 ++ T3, by go_num, by first | rfl | (congr 1; omega), by omega, Lib.hid HQ.out.1, HQ.out.2.1, HQ.out.2.2, hO9, HFN3, hB8⟩
            · have hways2 : ¬ co = k := fun e => hways e.symm
              have hc3 : Cells w7 w7.heap.size (some ⟨bo, oo + k * 5, none⟩) (T3.flatMap LV.cells) := by
                have := HC7.out.right'
                rw [flat_len, HLT.out] at this
                exact this.whole
              go_wp2_with (first | (at_builtin; refine VOwn.anyN rfl (.tmp 47) (.tmp 50) rfl w5.heap.size (.slice A7 (k + 1) c7) T2 (k + 1) HL7.out rfl hO7 w7.heap.size (some ⟨bo, oo + k * 5, none⟩) (i - k) (co - k) T3 rfl HLD.out.symm hc3 (by omega) hs7 ?_; intro A8 c8 w8 hO8' hb8))
              obtain ⟨q1, q2, q3, q4⟩ := hO8'.cells
              unfold maxLen at q3
              have HQ := Lib.hid (show (T2 ++ T3).length = i + 1 ∧ i + 1 ≤ c8 ∧ c8 ≤ 9223372036854775807 from by have := HL7.out; have := HLD.out; rw [List.length_append] at q2 ⊢; omega)
              have hB8 := HB5.out.trans ((HB7.out.trans hb8).mono HB5.out.size)
              have hO9 : VOwn w8 w.heap.size (.slice A8 (i + 1) c8) (T2 ++ T3) := by
                have := hO8'.base (b' := w.heap.size) HB5.out.size
                rwa [show k + 1 + (i - k) = i + 1 by omega] at this
              clear q1 q2 q3 q4 hO8' hb8
              go_wp2
              go_roundw
              case measure => simp [RowKit.intOf]; omega
              case rel => exact ⟨i + 1, A8, c8, T2 ++ T3, by go_num, by first | rfl | (congr 1; omega), by omega, Lib.hid HQ.out.1, HQ.out.2.1, HQ.out.2.2, hO9, HFN3, hB8⟩
            
        · have hkI : ¬ (k : Int) < (i : Int) := by omega
          have hB5 := hB.drew
          have hO5 : VOwn wr.drew w.heap.size (.slice Ao i co) js := hO.below (Below.refl wr.heap.size wr).drew
          have HFN := HFIN (Lib.hid fun h => absurd h hkl)
          clear hO hB HFIN
          go_wp2_with fail
          go_region
          generalize wr.drew = wz at hB5 hO5 ⊢
          have hcO := hO5.cells
          obtain ⟨hcO1, hcO2, hcO3, hcO4⟩ := hcO
          clear hcO4
          unfold maxLen at hcO3
          rw [flat_split' js k] at hcO1
          have hcT := hcO1.left'
          have hlT : (js.take k).length = k := by rw [List.length_take, HLJ.out]; omega
          have hlD : (js.drop k).length = i - k := by rw [List.length_drop, HLJ.out]
          have hRi : RowAt wz (some ⟨b0, off0, none⟩) is c := HR.out.below (show Below w.heap.size w wz from hB5)
          have hX1 := fun w6 (hb6 : Below wz.heap.size wz w6) x0 x1 x2 x3 x4 (e : (nth is i).cells = [x0, x1, x2, x3, x4]) => (hRi.below hb6).five hil e
          have HFN2 := Lib.hid (fun x (hx : nth is i = x) => HFN.out x hx)
          obtain ⟨x, hx⟩ : ∃ x, nth is i = x := ⟨_, rfl⟩
          have HFN3 := Lib.hid (HFN2.out x hx)
          rw [hx] at hX1
          obtain ⟨k1, n1, s1, An1, ns1, cn1, Ai1, is1, ci1⟩ := x
          have HX1 := Lib.hid (fun w6 (hb6 : Below wz.heap.size wz w6) => hX1 w6 hb6 _ _ _ _ _ rfl)
          obtain ⟨T1, hT1⟩ : ∃ T, T = js.take k := ⟨_, rfl⟩
          obtain ⟨T3, hT3⟩ : ∃ T, T = js.drop k := ⟨_, rfl⟩
          rw [← hT1] at hcT hlT hcO1 HFN3
          rw [← hT3] at hlD hcO1 HFN3
          have HO5 := Lib.hid hO5
          have HB5 := Lib.hid hB5
          have HLT := Lib.hid hlT
          have HLD := Lib.hid hlD
          have HCO := Lib.hid hcO1
          clear hX1 hx HFN HFN2 hT1 hT3 hO5 hB5 hcO1 hlT hlD hRi
          go_upto_region 9 with fail
          go_upto_region 11 with (first | (at_builtin; refine VOwn.anyN rfl (.tmp 35) (.tmp 38) rfl wz.heap.size (.slice none 0 0) [] 0 rfl rfl (VOwn.nil _ _) wz.heap.size Ao k co T1 rfl HLT.out.symm hcT (by omega) (Nat.le_refl _) ?_; intro A6 c6 w6 hO6 hb6; obtain ⟨d0, d1, d2, d3, d4⟩ := HX1.out w6 hb6; have hO6' : VOwn w6 wz.heap.size (.slice A6 k c6) T1 := (by simpa using hO6); have HB6 := Lib.hid hb6; have hs6 := hb6.size; clear hO6 hcT) | (at_builtin; refine VOwn.anyN rfl (.tmp 40) (.tmp 45) rfl wz.heap.size (.slice A6 k c6) T1 k HLT.out rfl (hO6'.alloc _) (w6.heap.size + 1) (some ⟨w6.heap.size, 0, none⟩) 1 1 [(LV.mk k1 n1 s1 An1 ns1 cn1 Ai1 is1 ci1)] rfl rfl (one_val' w6 (LV.mk k1 n1 s1 An1 ns1 cn1 Ai1 is1 ci1) #[.int .i64 k1, .int .i64 n1, .string s1, .slice An1 ns1.length cn1, .slice Ai1 is1.length ci1] rfl) (by omega) (by simp; omega) ?_; intro A7 c7 w7 hO7 hb7))
          have hb7' : Below wz.heap.size wz w7 := HB6.out.trans (((Below.refl _ _).alloc hs6 _).trans hb7)
          have HC7 := Lib.hid (HCO.out.below hb7')
          have HB7 := Lib.hid hb7'
          have hs7 := hb7'.size
          have HL7 : Hid ((T1 ++ [(LV.mk k1 n1 s1 An1 ns1 cn1 Ai1 is1 ci1)]).length = k + 1) := Lib.hid (by rw [List.length_append, HLT.out]; rfl)
          obtain ⟨T2, hT2⟩ : ∃ T, T = T1 ++ [(LV.mk k1 n1 s1 An1 ns1 cn1 Ai1 is1 ci1)] := ⟨_, rfl⟩
          rw [← hT2] at hO7 HL7 HFN3
          clear d0 d1 d2 d3 d4 hO6' hb7 hb7' hb6 hT2
          by_cases hways : k = co
          · have hki : k = i := by omega
            have hD0 : T3 = [] := List.eq_nil_of_length_eq_zero (by have := HLD.out; omega)
            subst hways
            go_wp2_with (first | (at_builtin; refine VOwn.anyN rfl (.tmp 47) (.tmp 50) rfl wz.heap.size (.slice A7 (k + 1) c7) T2 (k + 1) HL7.out rfl hO7 w7.heap.size Ao 0 0 [] rfl rfl Cells.nil (by omega) hs7 ?_; intro A8 c8 w8 hO8 hb8))
            have hO8' : VOwn w8 wz.heap.size (.slice A8 (k + 1) c8) (T2 ++ T3) := by rw [hD0]; exact hO8
            clear hO8
            obtain ⟨q1, q2, q3, q4⟩ := hO8'.cells
            unfold maxLen at q3
            have HQ := Lib.hid (show (T2 ++ T3).length = i + 1 ∧ i + 1 ≤ c8 ∧ c8 ≤ 9223372036854775807 from by have := HL7.out; have := HLD.out; rw [List.length_append] at q2 ⊢; omega)
            have hB8 := HB5.out.trans ((HB7.out.trans hb8).mono HB5.out.size)
            have hO9 : VOwn w8 w.heap.size (.slice A8 (i + 1) c8) (T2 ++ T3) := by
              have := hO8'.base (b' := w.heap.size) HB5.out.size
              rwa [show k + 1 = i + 1 by omega] at this
            clear q1 q2 q3 q4 hO8' hb8
            go_wp2
            go_roundw
            case measure => simp [RowKit.intOf]; omega
            case rel => exact ⟨i + 1, A8, c8, T2 ++ T3, by go_num, by first | rfl | (congr 1; omega), by omega, Lib.hid HQ.out.1, HQ.out.2.1, HQ.out.2.2, hO9, HFN3, hB8⟩
          · have hways2 : ¬ co = k := fun e => hways e.symm
            have hlj : 0 < co := by omega
            obtain ⟨bo, oo, rfl⟩ : ∃ bo oo, Ao = some ⟨bo, oo, none⟩ := by
              rcases HO5.out.2 with ⟨e, _⟩ | ⟨g, _, _, e, _⟩
              · injection e with _ _ e3; omega
              · injection e with e1; exact ⟨g, 0, e1⟩
            have hc3 : Cells w7 w7.heap.size (some ⟨bo, oo + k * 5, none⟩) (T3.flatMap LV.cells) := by
              have := HC7.out.right'
              rw [flat_len, HLT.out] at this
              exact this.whole
            go_wp2_with (first | (at_builtin; refine VOwn.anyN rfl (.tmp 47) (.tmp 50) rfl wz.heap.size (.slice A7 (k + 1) c7) T2 (k + 1) HL7.out rfl hO7 w7.heap.size (some ⟨bo, oo + k * 5, none⟩) (i - k) (co - k) T3 rfl HLD.out.symm hc3 (by omega) hs7 ?_; intro A8 c8 w8 hO8' hb8))
            obtain ⟨q1, q2, q3, q4⟩ := hO8'.cells
            unfold maxLen at q3
            have HQ := Lib.hid (show (T2 ++ T3).length = i + 1 ∧ i + 1 ≤ c8 ∧ c8 ≤ 9223372036854775807 from by have := HL7.out; have := HLD.out; rw [List.length_append] at q2 ⊢; omega)
            have hB8 := HB5.out.trans ((HB7.out.trans hb8).mono HB5.out.size)
            have hO9 : VOwn w8 w.heap.size (.slice A8 (i + 1) c8) (T2 ++ T3) := by
              have := hO8'.base (b' := w.heap.size) HB5.out.size
              rwa [show k + 1 + (i - k) = i + 1 by omega] at this
            clear q1 q2 q3 q4 hO8' hb8
            go_wp2
            go_roundw
            case measure => simp [RowKit.intOf]; omega
            case rel => exact ⟨i + 1, A8, c8, T2 ++ T3, by go_num, by first | rfl | (congr 1; omega), by omega, Lib.hid HQ.out.1, HQ.out.2.1, HQ.out.2.2, hO9, HFN3, hB8⟩
          
    · have hiI : ¬ (i : Int) < (n : Int) := by omega
      have HX : Hid (SortTo is js is.length) := Lib.hid (by have := HS.out; rw [show i = is.length by have := HN.out; omega] at this; exact this)
      have HAJ : Hid (LV.AllAt wr js) := Lib.hid (LV.allAt.2 fun x hx => LV.allAt.1 (HR.out.below hB).allAt x (List.mem_of_mem_take (HS.out.perm.mem_iff.1 hx)))
      go_wp2
      go_ret
      refine ⟨Ao, js, co, by rw [HLJ.out]; rfl, hO.rowAt HAJ.out, hB, fun h => absurd HAF.out h, fun _ => ⟨?_, by have := HX.out.sort; rwa [js_length] at this⟩⟩
      have := HX.out.perm
      rw [List.take_length] at this
      rw [LV.js_map, LV.js_map]
      exact this.map _
end Go.Proofs.YtmobolefijneoaaDoor
