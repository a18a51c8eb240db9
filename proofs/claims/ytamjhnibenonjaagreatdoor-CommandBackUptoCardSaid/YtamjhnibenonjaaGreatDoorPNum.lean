/- digits.Parse and Upto, num.Clamp: what each answers; nothing that was there is changed. Conditions: the library's two error variables lie in memory. -/
import Derived.Test.YtamjhnibenonjaaGreatDoorPDigits
import Derived.Test.YtamjhnibenonjaaGreatDoorShelf
namespace Go.Proofs.YtamjhnibenonjaaGreatDoor
set_option linter.unusedVariables false
set_option linter.unusedSimpArgs false
open Go Go.RowKit
/-- What the library's variables are asked for. -/
structure Glob (w : World) : Prop where
  size : 9 < w.heap.size
  maxLen : ∃ m, w.cell? ⟨0, 0, none⟩ = some (.int .i64 m)
  esyn : ∃ ev, w.cell? ⟨3, 0, none⟩ = some ev ∧ (ev = .nilIface ∨ ∃ te pe, ev = .iface te pe)
  erng : ∃ ev, w.cell? ⟨4, 0, none⟩ = some ev ∧ (ev = .nilIface ∨ ∃ te pe, ev = .iface te pe)
  tabs : Lib.Utf8Tabs 1 2 w
theorem Glob.below {w w' : World} {B : Nat} (h : Glob w) (hb : Below B w w') (hB : 9 < B) : Glob w' := by
  have k : ∀ b o, b ≤ 9 → w'.cell? ⟨b, o, none⟩ = w.cell? ⟨b, o, none⟩ := fun b o hbo => hb.cell (p := ⟨b, o, none⟩) (show b < B by omega)
  refine ⟨Nat.lt_of_lt_of_le h.size hb.size, ?_, ?_, ?_, ?_⟩
  · rw [k _ _ (by decide)]; exact h.maxLen
  · rw [k _ _ (by decide)]; exact h.esyn
  · rw [k _ _ (by decide)]; exact h.erng
  · refine ⟨fun c hc => ?_, fun i hi => ?_⟩
    · rw [k _ _ (by decide)]; exact h.tabs.1 c hc
    · rw [k _ _ (by decide), k _ _ (by decide)]; exact h.tabs.2 i hi
/-- digits.Parse's answer. -/
def parseD (s : ByteArray) : Option Int := match Lib.atoiAll s.data.toList with | .ok n => if itoaB n = s then some n else none | _ => none
def parseV (s : ByteArray) : Int := (parseD s).getD 0
def parseB (s : ByteArray) : Bool := (parseD s).isSome
theorem atoiAll_bound {l : List UInt8} {n : Int} (h : Lib.atoiAll l = .ok n) : -9223372036854775808 ≤ n ∧ n ≤ 9223372036854775807 := by
  unfold Lib.atoiAll at h
  split at h
  · cases h
  · simp only at h
    split at h
    · cases h
    · cases h
    · split at h
      · cases h
      · split at h
        · cases h
        · simp only [Lib.NumEnd.ok.injEq] at h
          subst h
          split <;> omega
theorem toList_ne {s t : ByteArray} (h : s ≠ t) : (s.toList == t.toList) = false := by
  simp only [beq_eq_false_iff_ne, ne_eq]
  intro e
  apply h
  rw [ByteArray.toList_eq, ByteArray.toList_eq] at e
  exact string_ext e
theorem parseD_range {s : ByteArray} {n : Int} (h : parseD s = some n) : -9223372036854775808 ≤ n ∧ n ≤ 9223372036854775807 := by
  unfold parseD at h
  split at h
  · rename_i m hm
    split at h
    · cases h; exact atoiAll_bound hm
    · cases h
  · cases h
set_option maxHeartbeats 1000000 in
theorem Parse_any (s : ByteArray) (w : World) (hg : Glob w) (hs : s.size ≤ 281474976710656) :
    Calls Tryz.prog 77 #[.string s] w fun e w' => e = .returned (.tuple #[.int .i64 (parseV s), .bool (parseB s)]) ∧ Below w.heap.size w w' := by
  cases h : Lib.atoiAll s.data.toList with
  | ok n =>
    have hp : parseD s = if itoaB n = s then some n else none := by simp [parseD, h]
    have HP := Lib.hid hp
    have H := Lib.hid h
    clear h hp
    have hbn := atoiAll_bound H.out
    by_cases hn : itoaB n = s
    · have ht : ((itoaB n).toList == s.toList) = true := by rw [hn]; simp
      have HN := Lib.hid hn
      clear hn
      go_enter Tryz.func77, Tryz.ntmps77
      go_wp2_with fail
      refine (Tryz.strconv_Atoi_ok s (by omega) n H.out _).mono ?_
      rintro e w1 ⟨rfl, hw⟩
      have hb : Below w.heap.size w w1 := by
        rcases hw with rfl | ⟨t, rfl⟩
        · exact Below.refl _ _
        · exact below_bytesWorld w _ t
      clear hw
      go_wp2_with fail
      refine (Print_any n hbn.1 hbn.2 _).mono ?_
      rintro e w2 ⟨rfl, hk⟩
      go_wp2
      go_ret2
      exact ⟨by simp [parseV, parseB, HP.out, HN.out], hb.trans (hk.below.mono hb.size)⟩
    · have ht := toList_ne hn
      have HN := Lib.hid hn
      clear hn
      go_enter Tryz.func77, Tryz.ntmps77
      go_wp2_with fail
      refine (Tryz.strconv_Atoi_ok s (by omega) n H.out _).mono ?_
      rintro e w1 ⟨rfl, hw⟩
      have hb : Below w.heap.size w w1 := by
        rcases hw with rfl | ⟨t, rfl⟩
        · exact Below.refl _ _
        · exact below_bytesWorld w _ t
      clear hw
      go_wp2_with fail
      refine (Print_any n hbn.1 hbn.2 _).mono ?_
      rintro e w2 ⟨rfl, hk⟩
      go_wp2
      go_ret2
      exact ⟨by simp [parseV, parseB, HP.out, HN.out], hb.trans (hk.below.mono hb.size)⟩
  | «syntax» =>
    have hp : parseD s = none := by simp [parseD, h]
    have HP := Lib.hid hp
    have H := Lib.hid h
    clear h hp
    obtain ⟨ev, hev, hev2⟩ := hg.esyn
    go_enter Tryz.func77, Tryz.ntmps77
    go_wp2_with fail
    refine (Tryz.strconv_Atoi_syntax s hs H.out ev _ hev hev2).mono ?_
    rintro e w1 ⟨N, rfl, _, _, hb⟩
    go_wp2
    go_ret2
    exact ⟨by simp [parseV, parseB, HP.out], hb⟩
  | range =>
    have hp : parseD s = none := by simp [parseD, h]
    have HP := Lib.hid hp
    have H := Lib.hid h
    clear h hp
    obtain ⟨ev, hev, hev2⟩ := hg.erng
    go_enter Tryz.func77, Tryz.ntmps77
    go_wp2_with fail
    refine (Tryz.strconv_Atoi_range s hs H.out ev _ hev hev2).mono ?_
    rintro e w1 ⟨N, rfl, _, _, hb⟩
    go_wp2
    go_ret2
    exact ⟨by simp [parseV, parseB, HP.out], hb⟩
/-- digits.Upto's answer. -/
def uptoB (s : ByteArray) (lo hi : Int) : Bool := parseB s && decide (lo ≤ parseV s) && decide (parseV s ≤ hi)
def uptoV (s : ByteArray) (lo hi : Int) : Int := if uptoB s lo hi then parseV s else 0
theorem parseV_range (s : ByteArray) : -9223372036854775808 ≤ parseV s ∧ parseV s ≤ 9223372036854775807 := by
  unfold parseV
  cases h : parseD s with
  | none => simp
  | some n => simpa using parseD_range h
theorem uptoV_range (s : ByteArray) (lo hi : Int) (h : uptoB s lo hi = true) : lo ≤ uptoV s lo hi ∧ uptoV s lo hi ≤ hi := by
  unfold uptoV; rw [if_pos h]; simp [uptoB] at h; exact ⟨h.1.2, h.2⟩
theorem uptoV_i64 (s : ByteArray) (lo hi : Int) : -9223372036854775808 ≤ uptoV s lo hi ∧ uptoV s lo hi ≤ 9223372036854775807 := by
  unfold uptoV; split
  · exact parseV_range s
  · omega
set_option maxHeartbeats 1000000 in
theorem Upto_any (s : ByteArray) (lo hi : Int) (w : World) (hg : Glob w) (hs : s.size ≤ 281474976710656) :
    Calls Tryz.prog 61 #[.string s, .int .i64 lo, .int .i64 hi] w fun e w' => e = .returned (.tuple #[.int .i64 (uptoV s lo hi), .bool (uptoB s lo hi)]) ∧ Below w.heap.size w w' := by
  have hP := Parse_any s w hg hs
  by_cases hp : parseB s = true
  · rw [hp] at hP
    by_cases h1 : lo ≤ parseV s
    · have h1' : decide (parseV s < lo) = false := by simp; omega
      by_cases h2 : parseV s ≤ hi
      · have r1 : uptoB s lo hi = true := by simp [uptoB, hp, h1, h2]
        have r2 : uptoV s lo hi = parseV s := by simp [uptoV, r1]
        rw [r1, r2]
        have h2' : decide (hi < parseV s) = false := by simp; omega
        clear r1 r2 hp
        go_enter Tryz.func61, Tryz.ntmps61
        go_wp2_with fail
        refine hP.mono ?_
        rintro e w1 ⟨rfl, hb⟩
        go_wp2
        go_ret2
        exact ⟨rfl, hb⟩
      · have r1 : uptoB s lo hi = false := by simp [uptoB]; omega
        have r2 : uptoV s lo hi = 0 := by simp [uptoV, r1]
        rw [r1, r2]
        have h2' : decide (hi < parseV s) = true := by simp; omega
        clear r1 r2 hp
        go_enter Tryz.func61, Tryz.ntmps61
        go_wp2_with fail
        refine hP.mono ?_
        rintro e w1 ⟨rfl, hb⟩
        go_wp2
        go_ret2
        exact ⟨rfl, hb⟩
    · have h1' : decide (parseV s < lo) = true := by simp; omega
      have r1 : uptoB s lo hi = false := by simp [uptoB]; omega
      have r2 : uptoV s lo hi = 0 := by simp [uptoV, r1]
      rw [r1, r2]
      clear r1 r2 hp
      go_enter Tryz.func61, Tryz.ntmps61
      go_wp2_with fail
      refine hP.mono ?_
      rintro e w1 ⟨rfl, hb⟩
      go_wp2
      go_ret2
      exact ⟨rfl, hb⟩
  · have hp' : parseB s = false := by simpa using hp
    rw [hp'] at hP
    have r1 : uptoB s lo hi = false := by simp [uptoB, hp']
    have r2 : uptoV s lo hi = 0 := by simp [uptoV, r1]
    rw [r1, r2]
    clear r1 r2 hp hp'
    go_enter Tryz.func61, Tryz.ntmps61
    go_wp2_with fail
    refine hP.mono ?_
    rintro e w1 ⟨rfl, hb⟩
    go_wp2
    go_ret2
    exact ⟨rfl, hb⟩
end Go.Proofs.YtamjhnibenonjaaGreatDoor
