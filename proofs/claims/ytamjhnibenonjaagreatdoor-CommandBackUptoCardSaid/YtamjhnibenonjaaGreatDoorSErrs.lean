/- Laws of what command computes: an error's text; which errors there are. No program's walk. -/
import Derived.Test.YtamjhnibenonjaaGreatDoorPKnown
namespace Go.Proofs.YtamjhnibenonjaaGreatDoor
set_option linter.unusedVariables false
set_option linter.unusedSimpArgs false
open Go Go.RowKit
def valD (l : List UInt8) : Nat := l.foldl (fun a c => a * 10 + (c.toNat - 48)) 0
theorem valD_append (l : List UInt8) (c : UInt8) : valD (l ++ [c]) = valD l * 10 + (c.toNat - 48) := by simp [valD]
theorem digit_toNat (i : Nat) (h : i < 10) : (UInt8.ofNat (48 + i)).toNat = 48 + i := by
  rw [UInt8.toNat_ofNat']; omega
theorem valD_dec (u : Nat) : valD (Lib.decDigits u) = u := by
  induction u using Nat.strongRecOn with
  | _ u ih =>
    rw [Lib.decDigits]
    split
    · rename_i h
      simp only [valD, List.foldl_cons, List.foldl_nil]
      rw [digit_toNat u h]; omega
    · rename_i h
      rw [valD_append, ih (u / 10) (by omega), digit_toNat _ (by omega)]; omega
theorem dec_ne_nil (u : Nat) : Lib.decDigits u ≠ [] := by
  rw [Lib.decDigits]
  split <;> simp
theorem dec_head (u : Nat) : ∀ c ∈ Lib.decDigits u, c ≠ 45 := by
  induction u using Nat.strongRecOn with
  | _ u ih =>
    intro c hc
    rw [Lib.decDigits] at hc
    split at hc
    · rename_i h
      simp only [List.mem_singleton] at hc
      rintro rfl
      have := congrArg UInt8.toNat hc
      rw [digit_toNat u h] at this
      simp at this; omega
    · rename_i h
      rcases List.mem_append.1 hc with hc | hc
      · exact ih (u / 10) (by omega) c hc
      · simp only [List.mem_singleton] at hc
        rintro rfl
        have := congrArg UInt8.toNat hc
        rw [digit_toNat _ (by omega)] at this
        simp at this; omega
theorem itoa_inj {a b : Int} (h : Lib.itoa a = Lib.itoa b) : a = b := by
  unfold Lib.itoa at h
  split at h <;> split at h
  · simp only [List.cons.injEq, true_and] at h
    have := congrArg valD h
    rw [valD_dec, valD_dec] at this
    omega
  · exact absurd rfl (dec_head _ 45 (by rw [← h]; simp))
  · exact absurd rfl (dec_head _ 45 (by rw [h]; simp))
  · have := congrArg valD h
    rw [valD_dec, valD_dec] at this
    omega
theorem itoaB_inj {a b : Int} (h : itoaB a = itoaB b) : a = b := by
  simp only [itoaB, ByteArray.mk.injEq] at h
  exact itoa_inj (by simpa using congrArg Array.toList h)
theorem errsB_data (e : Int) : (errsB e).data.toList = [69, 82, 82, 32] ++ Lib.itoa e := by
  simp [errsB, itoaB, ByteArray.data_append]
theorem errsB_inj {a b : Int} (h : errsB a = errsB b) : a = b := by
  have := congrArg (fun x => x.data.toList) h
  simp only [errsB_data] at this
  exact itoa_inj (List.append_cancel_left this)
theorem errsB_size (e : Int) : 5 ≤ (errsB e).size := by
  have h := congrArg List.length (errsB_data e)
  have hn : Lib.itoa e ≠ [] := by
    unfold Lib.itoa; split
    · simp
    · exact dec_ne_nil _
  have : 1 ≤ (Lib.itoa e).length := by
    cases hl : Lib.itoa e with
    | nil => exact absurd hl hn
    | cons x l => simp
  have h2 : (errsB e).data.toList.length = (errsB e).size := Array.length_toList
  rw [h2] at h
  simp at h
  omega
theorem errsB_head (e : Int) : (errsB e).extract 0 4 = ⟨#[69, 82, 82, 32]⟩ := by
  apply string_ext
  rw [ByteArray.data_extract, Array.toList_extract, errsB_data]
  simp
/-- The errors that a reader tells. -/
def GoodE (e : Int) : Prop := e = 0 ∨ e = 2 ∨ e = 3
theorem good_fail {R : Rd} {e : Int} (h : GoodE R.e) (he : GoodE e) : GoodE (R.fail e).e := by
  unfold Rd.fail; split
  · exact he
  · exact h
theorem good_number {R : Rd} {s : ByteArray} {lo hi : Int} (h : GoodE R.e) : GoodE (R.number s lo hi).e := by
  unfold Rd.number; split
  · exact h
  · exact good_fail h (.inr (.inl rfl))
theorem good_named {R : Rd} {s : ByteArray} (h : GoodE R.e) : GoodE (R.named s).e := by
  unfold Rd.named; split
  · exact h
  · exact good_fail h (.inr (.inl rfl))
theorem good_pathErr (l : List ByteArray) : GoodE (pathErr l) := by
  unfold pathErr; split
  · exact .inr (.inr rfl)
  · split
    · exact .inr (.inl rfl)
    · exact .inl rfl
theorem good_wishLoop : ∀ (k : Nat) (R : Rd), GoodE R.e → GoodE (R.wishLoop k).e
  | 0, _, h => h
  | k + 1, R, h => by
    rw [Rd.wishLoop]
    split
    · exact h
    · split
      · exact good_wishLoop k _ (good_number (good_number (good_named h)))
      · exact good_fail h (.inr (.inl rfl))
theorem good_polNum {R : Rd} {lo hi : Int} {f : Pol → Int → Pol} (h : GoodE R.e) : GoodE (R.polNum lo hi f).e := good_number (R := R.rest) h
theorem good_apply (f : Nat) (R : Rd) (h : GoodE R.e) : GoodE (applyF f R).e := by
  unfold applyF
  split
  · exact good_named (R := R.rest) h
  split
  · simp only [Rd.readKey]; split
    · exact good_fail h (.inr (.inl rfl))
    · exact h
  split
  · exact good_number (R := R.rest) h
  split
  · unfold Rd.readPath; split
    · exact h
    · unfold Rd.pathCheck; split
      · exact h
      · exact good_fail h (good_pathErr _)
  split
  · unfold Rd.readWishes; split
    · exact good_fail h (.inr (.inr rfl))
    · exact good_wishLoop _ _ h
  split
  · exact good_number (R := R.rest) h
  split
  · exact good_number (R := R.rest) h
  split
  · unfold Rd.readPolicy Rd.polCheck; split
    · exact good_polNum (good_polNum (good_polNum (good_polNum (good_polNum (good_polNum h)))))
    · exact good_fail (good_polNum (good_polNum (good_polNum (good_polNum (good_polNum (good_polNum h)))))) (.inr (.inl rfl))
  split
  · unfold Rd.readMost; split
    · exact h
    · exact good_number (R := R.rest) h
  · exact h
theorem good_readAll : ∀ (fns : List Nat) (R : Rd), GoodE R.e → GoodE (readAll fns R).e
  | [], _, h => h
  | f :: fns, R, h => good_readAll fns _ (good_apply f R h)
theorem parseRow_ne (r : Form) (l : List ByteArray) : (parseRow r l).2 ≠ 10 := by
  unfold parseRow
  split
  · decide
  · have := good_readAll r.fns (Rd.start r.kind l) (.inl rfl)
    split
    · simp
    · rcases this with h | h | h <;> simp only [h] <;> decide
theorem parseF_unknown (x : ByteArray) (l : List ByteArray) : ((parseF (x :: l)).2 == 10) = (formFor (upB x)).isNone := by
  unfold parseF
  split
  · contradiction
  · rename_i y m hym
    simp only [List.cons.injEq] at hym
    obtain ⟨rfl, rfl⟩ := hym
    cases hf : formFor (upB x) with
    | none => simp
    | some r => simp [parseRow_ne]
end Go.Proofs.YtamjhnibenonjaaGreatDoor
