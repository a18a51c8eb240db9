/- Strings cut at one byte, and joined again; numbers printed and read again. Plain laws, no program. -/
import Derived.Test.YtamjhnibenonjaaGreatDoorPAdd
import Derived.Test.YtamjhnibenonjaaGreatDoorSErrs
import Derived.Lib.AtoiAllCases
import Derived.Lib.SplitLaws
namespace Go.Proofs.YtamjhnibenonjaaGreatDoor
set_option linter.unusedVariables false
set_option linter.unusedSimpArgs false
open Go Go.RowKit
/-- Cut at each c. -/
def spl (c : UInt8) : List UInt8 → List (List UInt8)
  | [] => [[]]
  | b :: l => if b = c then [] :: spl c l else match spl c l with
    | h :: t => (b :: h) :: t
    | [] => [[b]]
theorem spl_cons (c : UInt8) : ∀ l, ∃ h t, spl c l = h :: t
  | [] => ⟨[], [], rfl⟩
  | b :: l => by
    unfold spl
    split
    · exact ⟨_, _, rfl⟩
    · split
      · exact ⟨_, _, rfl⟩
      · exact ⟨_, _, rfl⟩
theorem splitK_spl (c : UInt8) : ∀ l : List UInt8, Lib.splitK [c] 0 (Lib.count l [c]) l = spl c l
  | [] => by rw [Lib.count_miss (by simp [Lib.index])]; rfl
  | b :: l => by
    by_cases h : b = c
    · subst h
      have hix : Lib.index (b :: l) [b] = 0 := by rw [Lib.index]; simp [List.isPrefixOf]
      rw [Lib.count_cons_eq, Nat.add_comm, Lib.splitK, hix, spl, if_pos rfl, ← splitK_spl b l]
      simp
    · have hp : ([c] : List UInt8).isPrefixOf (b :: l) = false := by simp [List.isPrefixOf, Ne.symm h]
      have hix : Lib.index (b :: l) [c] = if Lib.index l [c] == -1 then -1 else Lib.index l [c] + 1 := by rw [Lib.index, hp]; simp
      have ih := splitK_spl c l
      rw [Lib.count_cons_ne b c l h, spl, if_neg h]
      by_cases hm : Lib.index l [c] = -1
      · rw [Lib.count_miss hm] at ih ⊢
        rw [Lib.splitK] at ih
        rw [Lib.splitK, ← ih]
      · have hge := Lib.index_ge l [c]
        obtain ⟨j, hj⟩ : ∃ j : Nat, Lib.index l [c] = j := ⟨(Lib.index l [c]).toNat, by omega⟩
        have hix' : Lib.index (b :: l) [c] = ((j + 1 : Nat) : Int) := by rw [hix, if_neg (fun e => hm (beq_iff_eq.1 e)), hj]; rfl
        have hc := Lib.count_hit (s := l) (sub := [c]) (by simp) hj
        rw [hc, Nat.add_comm, Lib.splitK, hj] at ih
        rw [hc, Nat.add_comm, Lib.splitK, hix']
        have n1 : ((((j + 1 : Nat) : Int)) == -1) = false := by simp; omega
        have n2 : (((j : Int)) == -1) = false := by simp
        rw [n2] at ih
        rw [n1]
        simp only [Bool.false_eq_true, if_false, Int.toNat_natCast] at ih ⊢
        rw [← ih]
        simp
theorem splitAt_spl (s : ByteArray) (c : UInt8) : (splitAt s ⟨#[c]⟩).map (·.data.toList) = spl c s.data.toList := by
  rw [splitAt, Lib.splitB_data]
  exact splitK_spl c s.data.toList
def joinB (c : UInt8) (l : List ByteArray) : ByteArray := ⟨(Lib.join (l.map (·.data.toList)) [c]).toArray⟩
theorem spl_join (c : UInt8) : ∀ l h t, spl c l = h :: t → h ++ Lib.joinTail [c] t = l
  | [], h, t, e => by simp only [spl, List.cons.injEq] at e; obtain ⟨rfl, rfl⟩ := e; rfl
  | b :: l, h, t, e => by
    obtain ⟨h', t', e'⟩ := spl_cons c l
    have ih := spl_join c l h' t' e'
    rw [spl, e'] at e
    split at e
    · rename_i hb
      simp only [List.cons.injEq] at e
      obtain ⟨rfl, rfl⟩ := e
      subst hb
      simp only [Lib.joinTail, List.map_cons, List.flatten_cons, List.nil_append, List.cons_append] at ih ⊢
      rw [ih]
    · simp only [List.cons.injEq] at e
      obtain ⟨rfl, rfl⟩ := e
      rw [List.cons_append, ih]
theorem join_split (s : ByteArray) (c : UInt8) : joinB c (splitAt s ⟨#[c]⟩) = s := by
  obtain ⟨h, t, e⟩ := spl_cons c s.data.toList
  rw [joinB, splitAt_spl, e, Lib.join_cons, spl_join c _ _ _ e]
theorem spl_free (c : UInt8) : ∀ x : List UInt8, c ∉ x → spl c x = [x]
  | [], _ => rfl
  | b :: l, h => by
    simp only [List.mem_cons, not_or] at h
    rw [spl, if_neg (Ne.symm h.1), spl_free c l h.2]
theorem spl_at (c : UInt8) (r : List UInt8) : ∀ x : List UInt8, c ∉ x → spl c (x ++ c :: r) = x :: spl c r
  | [], _ => by rw [List.nil_append, spl, if_pos rfl]
  | b :: l, h => by
    simp only [List.mem_cons, not_or] at h
    rw [List.cons_append, spl, if_neg (Ne.symm h.1), spl_at c r l h.2]
theorem bytes_inj {l m : List ByteArray} (h : l.map (·.data.toList) = m.map (·.data.toList)) : l = m := by
  induction l generalizing m with
  | nil => cases m with
    | nil => rfl
    | cons _ _ => simp at h
  | cons x l ih => cases m with
    | nil => simp at h
    | cons y m =>
      simp only [List.map_cons, List.cons.injEq] at h
      rw [string_ext h.1, ih h.2]
theorem split3 (a b d : ByteArray) (c : UInt8) (ha : c ∉ a.data.toList) (hb : c ∉ b.data.toList) (hd : c ∉ d.data.toList) : splitAt (a ++ ⟨#[c]⟩ ++ b ++ ⟨#[c]⟩ ++ d) ⟨#[c]⟩ = [a, b, d] := by
  apply bytes_inj
  rw [splitAt_spl]
  have e : (a ++ ⟨#[c]⟩ ++ b ++ ⟨#[c]⟩ ++ d).data.toList = a.data.toList ++ c :: (b.data.toList ++ c :: d.data.toList) := by simp [ByteArray.data_append]
  rw [e, spl_at c _ _ ha, spl_at c _ _ hb, spl_free c _ hd]
  rfl
theorem join3 (s a b d : ByteArray) (c : UInt8) (h : splitAt s ⟨#[c]⟩ = [a, b, d]) : a ++ ⟨#[c]⟩ ++ b ++ ⟨#[c]⟩ ++ d = s := by
  have e := join_split s c
  rw [h, joinB] at e
  rw [← e]
  apply string_ext
  simp [ByteArray.data_append, Lib.join, List.intercalate, List.intersperse]
/-! numbers -/
theorem parse_dec (u : Nat) (hu : u < 18446744073709551616) : ∀ r, Lib.parseUint10 0 (Lib.decDigits u ++ r) = Lib.parseUint10 u r := by
  induction u using Nat.strongRecOn with
  | _ u ih =>
    intro r
    rw [Lib.decDigits]
    split
    · rename_i h
      rw [List.singleton_append, Lib.parseUint10, digit_toNat u h, if_pos (by omega), if_neg (by omega), if_neg (by omega)]
      congr 1; omega
    · rename_i h
      rw [List.append_assoc, ih (u / 10) (by omega) (by omega), List.singleton_append, Lib.parseUint10, digit_toNat _ (by omega), if_pos (by omega), if_neg (by omega), if_neg (by omega)]
      congr 1; omega
theorem parseMag_dec (u : Nat) (hu : u < 18446744073709551616) : Lib.parseMag (Lib.decDigits u) = .ok u := by
  rw [Lib.parseMag, if_neg (dec_ne_nil u)]
  have := parse_dec u hu []
  rw [List.append_nil] at this
  rw [this]; rfl
theorem dec_digit (u : Nat) : ∀ c ∈ Lib.decDigits u, 48 ≤ c.toNat ∧ c.toNat ≤ 57 := by
  induction u using Nat.strongRecOn with
  | _ u ih =>
    intro c hc
    rw [Lib.decDigits] at hc
    split at hc
    · rename_i h
      simp only [List.mem_singleton] at hc
      subst hc
      rw [digit_toNat u h]; omega
    · rename_i h
      rcases List.mem_append.1 hc with hc | hc
      · exact ih (u / 10) (by omega) c hc
      · simp only [List.mem_singleton] at hc
        subst hc
        rw [digit_toNat _ (by omega)]; omega
theorem atoi_itoa (n : Int) (h0 : -9223372036854775808 ≤ n) (h1 : n ≤ 9223372036854775807) : Lib.atoiAll (Lib.itoa n) = .ok n := by
  by_cases hn : n < 0
  · rw [Lib.itoa, if_pos hn, Lib.atoiAll_minus, parseMag_dec _ (by omega)]
    simp only [Lib.signed]
    rw [if_neg (by omega)]
    congr 1; omega
  · rw [Lib.itoa, if_neg hn]
    obtain ⟨u, rfl⟩ := Int.eq_ofNat_of_zero_le (by omega : 0 ≤ n)
    have hm := parseMag_dec u (by omega)
    have e0 : ((u : Int)).toNat = u := Int.toNat_natCast u
    rw [e0]
    cases hd : Lib.decDigits u with
    | nil => exact absurd hd (dec_ne_nil u)
    | cons c r =>
      have hc := dec_digit u c (by rw [hd]; exact List.mem_cons_self ..)
      rw [hd] at hm
      rw [Lib.atoiAll_plain c r (by omega) (by omega), hm]
      simp only [Lib.signless]
      rw [if_neg (by omega)]
theorem parseD_itoa (n : Int) (h0 : -9223372036854775808 ≤ n) (h1 : n ≤ 9223372036854775807) : parseD (itoaB n) = some n := by
  rw [parseD, show (itoaB n).data.toList = Lib.itoa n from rfl, atoi_itoa n h0 h1]
  simp
theorem upto_itoa (n lo hi : Int) (h0 : -9223372036854775808 ≤ n) (h1 : n ≤ 9223372036854775807) (hl : lo ≤ n) (hh : n ≤ hi) : uptoB (itoaB n) lo hi = true ∧ uptoV (itoaB n) lo hi = n := by
  have h : uptoB (itoaB n) lo hi = true := by simp [uptoB, parseB, parseV, parseD_itoa n h0 h1, hl, hh]
  refine ⟨h, ?_⟩
  rw [uptoV, if_pos h, parseV, parseD_itoa n h0 h1]; rfl
theorem itoa_upto {s : ByteArray} {lo hi : Int} (h : uptoB s lo hi = true) : itoaB (uptoV s lo hi) = s := by
  rw [uptoV, if_pos h]
  simp only [uptoB, Bool.and_eq_true, parseB] at h
  unfold parseV parseD at *
  revert h
  split
  · rename_i n hn
    split
    · rename_i hs; intro _; exact hs
    · rintro ⟨⟨h, -⟩, -⟩; cases h
  · rintro ⟨⟨h, -⟩, -⟩; cases h
theorem colon_itoa (n : Int) (c : UInt8) (hc : c.toNat < 45 ∨ 57 < c.toNat) : c ∉ (itoaB n).data.toList := by
  intro h
  rw [show (itoaB n).data.toList = Lib.itoa n from rfl, Lib.itoa] at h
  split at h
  · rcases List.mem_cons.1 h with rfl | h
    · simp at hc
    · have := dec_digit _ _ h; omega
  · have := dec_digit _ _ h; omega
end Go.Proofs.YtamjhnibenonjaaGreatDoor
