/-
  The contracts of bytes.Compare, bytes.Equal, munimentref04.Less.
-/
import Derived.Test.YtbngcinhjoigaaaSm
import Derived.Test.YtbngcinhjoigaaaLq
import Derived.Lib.Bytealg
import Derived.Lib.BytesEntry
import Derived.Lib.Walk
import Derived.Laws.BytesArg
import Derived.Shelf.Bytes.SlSmallAll
import Derived.Outline
set_option linter.unusedVariables false
namespace Go.Proofs.Ytbngcinhjoigaaa
open Go.RowKit

theorem ext_bytes (A : Option Addr) (a : List Int) (c : Nat) (w : World) (ha : Cells w w.heap.size A (U8 a)) : (Extern.Bytes.bytesOf (.slice A a.length c)).run Try.prog w = .ok ⟨(Lib.bytesOf a).toArray⟩ w := by
  rcases A with _ | ad
  · rcases a with _ | ⟨x, r⟩
    · rfl
    · obtain ⟨b, off, e, _⟩ := ha 0 (.int .u8 x) rfl
      cases e
  · have h := Lib.run_loadBytesX (P := Try.prog) w a ad .empty (fun j x hj => by
      obtain ⟨b, off, e, _, hc⟩ := ha j (.int .u8 x) (by rw [U8, List.getElem?_map, hj]; rfl)
      injection e with e
      subst e
      rw [add_mk]; exact hc)
    have he : (⟨ByteArray.empty.data ++ (Lib.bytesOf a).toArray⟩ : ByteArray) = ⟨(Lib.bytesOf a).toArray⟩ := by
      apply ByteArray.ext
      show (#[] : Array UInt8) ++ (Lib.bytesOf a).toArray = (Lib.bytesOf a).toArray
      simp
    rw [he] at h
    exact h

theorem ext_compare (A B : Option Addr) (a b : List Int) (c d : Nat) (w : World) (ha : Cells w w.heap.size A (U8 a)) (hb : Cells w w.heap.size B (U8 b)) (hoa : Oct a) (hob : Oct b) :
    (Extern.BytealgCompare.compare #[.slice A a.length c, .slice B b.length d]).run Try.prog w = .ok (.int .i64 (cmpB a b)) w := by
  have h1 := ext_bytes A a c w ha
  have h2 := ext_bytes B b d w hb
  change Sem.run Try.prog (do pure (goInt (Extern.BytealgCompare.cmp (← Extern.Bytes.bytesOf (.slice A a.length c)) (← Extern.Bytes.bytesOf (.slice B b.length d))))) w = _
  simp only [Sem.run_bind, Sem.run_pure, h1, h2, Result.andThen]
  rw [Lib.cmp_eq]
  have e : ∀ l : List Int, (⟨(Lib.bytesOf l).toArray⟩ : ByteArray).data.toList = l.map fun n => UInt8.ofNat n.toNat := fun l => by simp [Lib.bytesOf]
  rw [e, e, cmp_bytes a b hoa hob]
  rfl

set_option maxHeartbeats 1000000 in
set_option maxRecDepth 100000 in
theorem bytes_compare (A B : Option Addr) (a b : List Int) (c d : Nat) (w : World) (ha : Cells w w.heap.size A (U8 a)) (hb : Cells w w.heap.size B (U8 b)) (hoa : Oct a) (hob : Oct b) :
    Calls Try.prog 20 #[.slice A a.length c, .slice B b.length d] w fun e w' => e = .returned (.int .i64 (cmpB a b)) ∧ w = w' := by
  have hx := ext_compare A B a b c d w ha hb hoa hob
  have HX := Lib.hid hx
  clear hx
  go_enter Try.func20, Try.ntmps20
  go_wp2
  rw [run_callFunc_extern Try.func36 (by kernel_rfl) (by kernel_rfl) (by kernel_rfl) (e := Extern.BytealgCompare.compare) (by kernel_rfl), HX.out]
  simp only [Result.andThen]
  rw [Oper.upon_value]
  go_wp2
  go_ret
  exact ⟨rfl, rfl⟩

theorem conv_str (A : Option Addr) (a : List Int) (c : Nat) (w : World) (ha : Cells w w.heap.size A (U8 a)) :
    (convert 26 9 (.slice A a.length c)).run Try.prog w = .ok (.string (strOfNums a)) w := by
  rcases a with _ | ⟨x, r⟩
  · exact run_convert_bytes_zero w 26 5 Try.underlying26 Try.underlying5 A c 9 Try.underlying9
  · obtain ⟨b, off, rfl, _, hc⟩ := ha.form (by simp)
    refine run_convert_bytes_arg (P := Try.prog) w 26 5 Try.underlying26 Try.underlying5 b off _ c (x :: r) rfl (fun i hi => ?_) 9 Try.underlying9
    have e : (U8 (x :: r))[i]? = some (.int .u8 ((x :: r)[i]'hi)) := by rw [U8, List.getElem?_map, List.getElem?_eq_getElem hi]; rfl
    rw [hc i _ e, List.getD_eq_getElem?_getD, List.getElem?_eq_getElem hi]
    rfl

theorem str_inj (a b : List Int) (ha : Oct a) (hb : Oct b) (h : (strOfNums a).toList = (strOfNums b).toList) : a = b := by
  have h' : (a.map fun n => UInt8.ofNat n.toNat) = b.map fun n => UInt8.ofNat n.toNat := by
    have e : ∀ l : List Int, (strOfNums l).toList = l.map fun n => UInt8.ofNat n.toNat := fun l => by
      rw [show (strOfNums l).toList = (strOfNums l).data.toList from by simp [ByteArray.toList_eq], strOfNums_data]
    rwa [e, e] at h
  clear h
  induction a generalizing b with
  | nil => cases b <;> simp_all
  | cons x r ih =>
    rcases b with _ | ⟨y, s⟩
    · simp at h'
    · simp only [List.map_cons, List.cons.injEq] at h'
      have hx := ha x (by simp)
      have hy := hb y (by simp)
      have e := congrArg UInt8.toNat h'.1
      simp at e
      rw [ih s (fun z hz => ha z (by simp [hz])) (fun z hz => hb z (by simp [hz])) h'.2, show x = y from by omega]

set_option maxHeartbeats 1000000 in
theorem bytes_equal (A B : Option Addr) (a b : List Int) (c d : Nat) (w : World) (ha : Cells w w.heap.size A (U8 a)) (hb : Cells w w.heap.size B (U8 b)) (hoa : Oct a) (hob : Oct b) :
    Calls Try.prog 21 #[.slice A a.length c, .slice B b.length d] w fun e w' => e = .returned (.bool (sameB a b)) ∧ w = w' := by
  have k1 := conv_str A a c w ha
  have k2 := conv_str B b d w hb
  go_enter Try.func21, Try.ntmps21
  go_wp2
  go_ret
  refine ⟨ret_bool ?_, rfl⟩
  by_cases h : a = b
  · subst h; simp [sameB]
  · rw [sameB, decide_eq_false h, beq_eq_false_iff_ne]
    exact fun e => h (str_inj a b hoa hob e)
set_option maxHeartbeats 1000000 in
theorem less_any (A B : Option Addr) (a b : List Int) (c d : Nat) (w : World) (ha : Cells w w.heap.size A (U8 a)) (hb : Cells w w.heap.size B (U8 b)) (hl : a.length ≤ 100000000) (hm : b.length ≤ 100000000) (hoa : Oct a) (hob : Oct b) :
    Calls Try.prog 24 #[.slice A a.length c, .slice B b.length d] w fun e w' => e = .returned (.bool (lessB a b)) ∧ ∃ n, w' = w.drewN n := by
  go_enter Try.func24, Try.ntmps24
  go_wp2
  go_loopw [5] (fun i wr => ∃ k n : Nat, k ≤ a.length ∧ k ≤ b.length ∧ i = .int .i64 k ∧ a.take k = b.take k ∧ wr = w.drewN n)
    (fun i _ => a.length - (intOf i).toNat)
  case atStart => exact ⟨0, 0, Nat.zero_le _, Nat.zero_le _, rfl, rfl, rfl⟩
  case round =>
    obtain ⟨k, n, hk, hk2, rfl, htk, rfl⟩ := hrel
    have HT := Lib.hid htk; clear htk
    by_cases hlt : k < a.length
    · by_cases hltb : k < b.length
      · obtain ⟨b1, o1, rfl, _, hca⟩ := ha.u8 hlt
        obtain ⟨b2, o2, rfl, _, hcb⟩ := hb.u8 hltb
        have ob1 := hoa.at_ (List.getElem?_eq_getElem hlt)
        have ob2 := hob.at_ (List.getElem?_eq_getElem hltb)
        by_cases hx : a[k] = b[k]
        · have hn : (a[k] != b[k]) = false := by simp [hx]
          have HX := Lib.hid hx; clear hx
          go_wp2
          go_quiet (fail)
          go_wp2
          go_roundw
          case rel => exact ⟨k + 1, _, by omega, by omega, by go_num, by rw [take_snoc a k hlt, take_snoc b k hltb, HT.out, HX.out], rfl⟩
          case measure => simp [intOf]; omega
        · have hn : (a[k] != b[k]) = true := by simpa using hx
          have HX := Lib.hid hx; clear hx
          go_wp2
          go_quiet (fail)
          go_wp2
          go_quiet (fail)
          go_wp2
          go_ret
          exact ⟨ret_bool (lessB_at HT.out hlt hltb HX.out).symm, _, by rw [World.drewN_drewN, World.drewN_drewN]⟩
      · have HF := Lib.hid (lessB_end HT.out hk hk2 (by omega))
        go_wp2
        go_ret
        exact ⟨ret_bool (by rw [HF.out]), _, rfl⟩
    · have HF := Lib.hid (lessB_end HT.out hk hk2 (by omega))
      go_wp2
      go_ret
      exact ⟨ret_bool (by rw [HF.out]), _, rfl⟩

theorem less_b (A B : Option Addr) (a b : List Int) (c d : Nat) (w : World) (ha : Cells w w.heap.size A (U8 a)) (hb : Cells w w.heap.size B (U8 b)) (hl : a.length ≤ 100000000) (hm : b.length ≤ 100000000) (hoa : Oct a) (hob : Oct b) :
    Calls Try.prog 24 #[.slice A a.length c, .slice B b.length d] w fun e w' => e = .returned (.bool (lessB a b)) ∧ Below w.heap.size w w' :=
  (less_any A B a b c d w ha hb hl hm hoa hob).mono fun _ _ ⟨h, n, e⟩ => ⟨h, e ▸ below_drewN (Below.refl _ _) n⟩

end Go.Proofs.Ytbngcinhjoigaaa
