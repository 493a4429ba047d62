/-
  Plain words: what the two readers of keys compute, and that it is one thing.
-/
import Derived.Test.YtamfhjjepeggcaaLb
import Derived.Test.YtamfhjjepeggcaaSd
set_option linter.unusedVariables false
namespace Go.Proofs.Ytamfhjjepeggcaa

/-- What stamp.Read makes of the bytes between the space and the two last zeros. -/
def loose : List Int → List Int
  | [] => []
  | [c] => [c]
  | c :: d :: r => if c = 0 then 0 :: loose r else c :: loose (d :: r)
theorem loose_cons {c : Int} (h : c ≠ 0) (r : List Int) : loose (c :: r) = c :: loose r := by
  rcases r with _ | ⟨d, r⟩
  · rfl
  · simp [loose, h]
theorem loose_esc (n : List Int) : loose (esc n) = n := by
  induction n with
  | nil => rfl
  | cons c r ih =>
    by_cases h : c = 0
    · subst h; simp [esc, loose, ih]
    · rw [esc, if_neg h, loose_cons h, ih]
theorem loose_len : ∀ l : List Int, (loose l).length ≤ l.length
  | [] => by simp [loose]
  | [c] => by simp [loose]
  | c :: d :: r => by
    have h1 := loose_len r
    have h2 := loose_len (d :: r)
    simp only [loose]
    split <;> simp only [List.length_cons] at * <;> omega
theorem loose_oct : ∀ l : List Int, Oct l → Oct (loose l)
  | [], h => h
  | [c], h => h
  | c :: d :: r, h => by
    have hc := h c (by simp)
    simp only [loose]
    split
    · exact Oct.cons (by decide) (by decide) (loose_oct r (fun x hx => h x (by simp [hx])))
    · exact Oct.cons hc.1 hc.2 (loose_oct (d :: r) (fun x hx => h x (List.mem_cons_of_mem _ hx)))

/-- The space, the name and the time that stamp.Read takes out of bytes, ahead of its look. -/
def spOf (b : List Int) : Int := b.headD 0
def nmOf (b : List Int) : List Int := loose ((b.take (b.length - 10)).drop 1)
def tmOf (b : List Int) : Int := 18446744073709551615 - num (b.drop (b.length - 8)) 0

/-- Is b the bytes of that key? -/
def isKey (b : List Int) : Prop := 11 ≤ b.length ∧ wrongN (spOf b) (nmOf b).length = 0 ∧ writeL (spOf b) (nmOf b) (tmOf b) = b
instance (b : List Int) : Decidable (isKey b) := by unfold isKey; infer_instance

theorem tm_bd (b : List Int) (ho : Oct b) (h : 8 ≤ b.length) : 0 ≤ tmOf b ∧ tmOf b ≤ 18446744073709551615 := by
  have := num_eight (b.drop (b.length - 8)) (ho.drop _) (by simp; omega)
  unfold tmOf
  omega

theorem parts_write (sp : Int) (n : List Int) (t : Int) (h0 : 0 ≤ t) (h1 : t ≤ 18446744073709551615) : spOf (writeL sp n t) = sp ∧ nmOf (writeL sp n t) = n ∧ tmOf (writeL sp n t) = t := by
  have e : writeL sp n t = (sp :: esc n) ++ (0 :: 0 :: be64 (18446744073709551615 - t)) := by simp [writeL, frontL]
  have hl : (writeL sp n t).length = (sp :: esc n).length + 10 := by rw [e, List.length_append]; rfl
  refine ⟨rfl, ?_, ?_⟩
  · unfold nmOf
    rw [hl, Nat.add_sub_cancel, e, List.take_left']
    · simp [loose_esc]
    · rfl
  · unfold tmOf
    have e2 : (writeL sp n t).length - 8 = (frontL sp n 0).length := by rw [writeL, List.length_append, be64_len, Nat.add_sub_cancel]
    rw [e2, writeL, List.drop_left', num_be64 _ (by omega) (by omega)]
    · omega
    · rfl
theorem isKey_write (sp : Int) (n : List Int) (t : Int) (h0 : 0 ≤ t) (h1 : t ≤ 18446744073709551615) (hw : wrongN sp n.length = 0) : isKey (writeL sp n t) := by
  obtain ⟨e1, e2, e3⟩ := parts_write sp n t h0 h1
  refine ⟨by have := writeL_len sp n t; omega, ?_, ?_⟩
  · rw [e1, e2]; exact hw
  · rw [e1, e2, e3]

/-- What the reference's loop makes of the bytes behind the space: the name, and what is left. -/
def scan : List Int → List Int → Option (List Int × List Int)
  | c :: d :: r, nm => if 200 < nm.length then none else if c ≠ 0 then scan (d :: r) (nm ++ [c]) else if d = 0 then some (nm, c :: d :: r) else if d ≠ 255 then none else scan r (nm ++ [0])
  | _, _ => none
theorem scan_esc (n T : List Int) : ∀ nm : List Int, nm.length + n.length ≤ 200 → scan (esc n ++ 0 :: 0 :: T) nm = some (nm ++ n, 0 :: 0 :: T) := by
  induction n with
  | nil =>
    intro nm h
    simp only [List.length_nil] at h
    simp [esc, scan]
    omega
  | cons c r ih =>
    intro nm h
    simp only [List.length_cons] at h
    by_cases hc : c = 0
    · subst hc
      rw [esc, if_pos rfl]
      simp only [List.cons_append]
      rw [scan, if_neg (by omega), if_neg (by simp), if_neg (by decide), if_neg (by simp), ih _ (by simp; omega)]
      simp
    · rw [esc, if_neg hc]
      have ht : ∃ d s, esc r ++ 0 :: 0 :: T = d :: s := by
        rcases esc r with _ | ⟨d, s⟩
        · exact ⟨_, _, rfl⟩
        · exact ⟨_, _, rfl⟩
      obtain ⟨d, s, ht⟩ := ht
      have ih' := ih (nm ++ [c]) (by simp; omega)
      rw [ht] at ih'
      rw [List.cons_append, ht, scan, if_neg (by omega), if_pos hc, ih']
      simp
theorem scan_some : ∀ (l nm nm' rest : List Int), scan l nm = some (nm', rest) → ∃ n T, nm' = nm ++ n ∧ l = esc n ++ 0 :: 0 :: T ∧ rest = 0 :: 0 :: T
  | [], nm, nm', rest, h => by simp [scan] at h
  | [c], nm, nm', rest, h => by simp [scan] at h
  | c :: d :: r, nm, nm', rest, h => by
    rw [scan] at h
    split at h
    · cases h
    · split at h
      · rename_i hc
        obtain ⟨n, T, e1, e2, e3⟩ := scan_some (d :: r) _ _ _ h
        refine ⟨c :: n, T, by rw [e1]; simp, ?_, e3⟩
        rw [esc, if_neg hc, List.cons_append, ← e2]
      · rename_i hc
        have hc : c = 0 := by simpa using hc
        subst hc
        split at h
        · rename_i hd
          subst hd
          simp only [Option.some.injEq, Prod.mk.injEq] at h
          exact ⟨[], r, by simp [h.1], by simp [esc], h.2.symm⟩
        · split at h
          · cases h
          · rename_i hd
            have hd : d = 255 := by simpa using hd
            subst hd
            obtain ⟨n, T, e1, e2, e3⟩ := scan_some r _ _ _ h
            refine ⟨0 :: n, T, by rw [e1]; simp, ?_, e3⟩
            rw [esc, if_pos rfl, e2]
            rfl

/-- The reference's answer. -/
def rkey (b : List Int) : Option (Int × List Int × Int) :=
  match b with
  | [] => none
  | sp :: r => match scan r [] with
    | none => none
    | some (nm, rest) => if rest.length = 10 ∧ nm.length ≤ 200 then some (sp, nm, 18446744073709551615 - num (rest.drop 2) 0) else none

theorem rkey_key (b : List Int) (ho : Oct b) : rkey b = if isKey b then some (spOf b, nmOf b, tmOf b) else none := by
  by_cases hk : isKey b
  · rw [if_pos hk]
    obtain ⟨h11, hw, he⟩ := hk
    obtain ⟨h0, h1, h2⟩ := wrongN_ok hw
    have hb : b = spOf b :: (esc (nmOf b) ++ 0 :: 0 :: be64 (18446744073709551615 - tmOf b)) := by
      conv => lhs; rw [← he]
      simp [writeL, frontL]
    have ht := tm_bd b ho (by omega)
    generalize spOf b = sp at *
    generalize nmOf b = nm at *
    generalize tmOf b = t at *
    rw [hb, rkey, scan_esc _ _ [] (by simpa using h2)]
    simp only [List.nil_append]
    rw [if_pos ⟨by simp [be64_len], h2⟩]
    simp only [List.drop_succ_cons, List.drop_zero, num_be64 (18446744073709551615 - t) (by omega) (by omega)]
    rw [show (18446744073709551615 : Int) - (18446744073709551615 - t) = t by omega]
  · rw [if_neg hk]
    rcases b with _ | ⟨sp, r⟩
    · rfl
    · rw [rkey]
      rcases hs : scan r [] with _ | ⟨nm, rest⟩
      · rfl
      · simp only
        split
        · rename_i hc
          exfalso
          obtain ⟨n, T, e1, e2, e3⟩ := scan_some _ _ _ _ hs
          simp only [List.nil_append] at e1
          subst e1
          subst e3
          have hT : T.length = 8 := by have := hc.1; simpa using this
          have hoT : Oct T := fun x hx => ho x (by rw [e2]; simp [hx])
          have hn8 := num_eight T hoT hT
          apply hk
          have e : sp :: r = writeL sp nm (18446744073709551615 - num T 0) := by
            rw [writeL, frontL, show (18446744073709551615 : Int) - (18446744073709551615 - num T 0) = num T 0 by omega, be64_num T hoT hT, e2]
            simp
          rw [e]
          have hsp := ho sp (by simp)
          exact isKey_write _ _ _ (by omega) (by omega) (by unfold wrongN; rw [if_neg (by omega), if_neg (by omega)])
        · rfl
end Go.Proofs.Ytamfhjjepeggcaa
