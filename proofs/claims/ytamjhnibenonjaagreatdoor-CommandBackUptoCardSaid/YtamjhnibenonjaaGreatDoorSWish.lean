/- command: with one more wish behind them all others are as they were; small letters in a name. Plain laws, no program. -/
import Derived.Test.YtamjhnibenonjaaGreatDoorSBack2
namespace Go.Proofs.YtamjhnibenonjaaGreatDoor
set_option linter.unusedVariables false
set_option linter.unusedSimpArgs false
open Go Go.RowKit
theorem readPath_frame (C : Cmd) (a : ByteArray) (e : Int) : ∃ c' e', c'.wishes = C.wishes ∧ ∀ X, (⟨C, a :: X, e⟩ : Rd).readPath = ⟨c', X, e'⟩ := by
  by_cases hd : a = dashB
  · refine ⟨C, e, rfl, fun X => ?_⟩
    unfold Rd.readPath
    rw [if_pos (show (⟨C, a :: X, e⟩ : Rd).arg = dashB from hd)]; rfl
  · by_cases hp : pathErr (C.path ++ splitAt a slashB) = 0
    · refine ⟨{ C with path := C.path ++ splitAt a slashB }, e, rfl, fun X => ?_⟩
      unfold Rd.readPath
      rw [if_neg (show ¬ (⟨C, a :: X, e⟩ : Rd).arg = dashB from hd)]
      unfold Rd.pathCheck
      rw [if_pos (show pathErr (((⟨C, a :: X, e⟩ : Rd).rest.setPath ((⟨C, a :: X, e⟩ : Rd).c.path ++ splitAt (⟨C, a :: X, e⟩ : Rd).arg slashB)).c.path) = 0 from hp)]
      rfl
    · refine ⟨{ C with path := C.path ++ splitAt a slashB }, if e = 0 then pathErr (C.path ++ splitAt a slashB) else e, rfl, fun X => ?_⟩
      unfold Rd.readPath
      rw [if_neg (show ¬ (⟨C, a :: X, e⟩ : Rd).arg = dashB from hd)]
      unfold Rd.pathCheck
      rw [if_neg (show ¬ pathErr (((⟨C, a :: X, e⟩ : Rd).rest.setPath ((⟨C, a :: X, e⟩ : Rd).c.path ++ splitAt (⟨C, a :: X, e⟩ : Rd).arg slashB)).c.path) = 0 from hp)]
      unfold Rd.fail
      by_cases he : e = 0
      · rw [if_pos (show ((⟨C, a :: X, e⟩ : Rd).rest.setPath ((⟨C, a :: X, e⟩ : Rd).c.path ++ splitAt (⟨C, a :: X, e⟩ : Rd).arg slashB)).e = 0 from he), if_pos he]; rfl
      · rw [if_neg (show ¬ ((⟨C, a :: X, e⟩ : Rd).rest.setPath ((⟨C, a :: X, e⟩ : Rd).c.path ++ splitAt (⟨C, a :: X, e⟩ : Rd).arg slashB)).e = 0 from he), if_neg he]; rfl
theorem readTime_frame (C : Cmd) (a : ByteArray) (e : Int) : ∃ c' e', c'.wishes = C.wishes ∧ ∀ X, (⟨C, a :: X, e⟩ : Rd).readTime = ⟨c', X, e'⟩ := by
  by_cases hu : uptoB a 0 9007199254740992 = true
  · refine ⟨{ C with n := uptoV a 0 9007199254740992 }, e, rfl, fun X => ?_⟩
    unfold Rd.readTime Rd.readNum
    rw [number_of (show uptoB (⟨C, a :: X, e⟩ : Rd).arg 0 9007199254740992 = true from hu)]; rfl
  · refine ⟨{ C with n := uptoV a 0 9007199254740992 }, if e = 0 then 2 else e, rfl, fun X => ?_⟩
    unfold Rd.readTime Rd.readNum Rd.number
    rw [if_neg (show ¬ uptoB (⟨C, a :: X, e⟩ : Rd).arg 0 9007199254740992 = true from hu)]
    unfold Rd.fail
    by_cases he : e = 0
    · rw [if_pos (show (⟨C, a :: X, e⟩ : Rd).rest.e = 0 from he), if_pos he]; rfl
    · rw [if_neg (show ¬ (⟨C, a :: X, e⟩ : Rd).rest.e = 0 from he), if_neg he]; rfl
theorem printF_ne {c : Cmd} (h : printF c ≠ []) : parseF (wordsF c) = (c, 0) ∧ printF c = wordsF c := by
  unfold printF at h ⊢
  split
  · rename_i hc
    exact ⟨by rw [← hc.1]; exact (Prod.ext hc.2.symm rfl), rfl⟩
  · rename_i hc; rw [if_neg hc] at h; exact absurd rfl h
theorem printF_of {c : Cmd} (h : parseF (wordsF c) = (c, 0)) : printF c = wordsF c := by
  unfold printF
  rw [h, if_pos ⟨rfl, rfl⟩]
def Cmd.more (c : Cmd) (w : Wish) : Cmd := { c with wishes := c.wishes ++ [w] }
theorem words_more (c : Cmd) (w : Wish) (hk : c.kind = 4 ∨ c.kind = 5 ∨ c.kind = 6) : wordsF (c.more w) = wordsF c ++ [wishB w] := by
  unfold wordsF tailF
  rw [if_neg (show ¬ (c.more w).kind = 7 by show ¬ c.kind = 7; omega), if_neg (show ¬ c.kind = 7 by omega)]
  show nameOf c.kind :: (headF c ++ (c.wishes ++ [w]).map wishB) = nameOf c.kind :: (headF c ++ c.wishes.map wishB) ++ [wishB w]
  simp
/-- The part that reads what stands ahead of the wishes. -/
theorem more_row {r : Form} {c : Cmd} {w : Wish} {pre : List ByteArray} (hk : c.kind = 4 ∨ c.kind = 5 ∨ c.kind = 6)
    (hfr : ∃ c' e', c'.wishes = [] ∧ ∀ X, readAll r.fns (Rd.start r.kind (pre ++ X)) = (⟨c', X, e'⟩ : Rd).readWishes) (hmost : r.most = 1073741824)
    (h : parseRow r (pre ++ c.wishes.map wishB) = (c, 0)) (hw : WishOk w) (hl : c.wishes.length + 1 ≤ 20) (hpre : pre.length ≤ 2) :
    parseRow r (pre ++ (c.more w).wishes.map wishB) = (c.more w, 0) := by
  obtain ⟨c', e', hc', hX⟩ := hfr
  obtain ⟨h0, h1, he, hc⟩ := parseRow_ok h
  rw [hX] at he hc
  obtain ⟨ws, g1, g2, g3, g4, g5⟩ := readWishes_back he
  rw [g3] at hc
  have hws : ws = c.wishes := by rw [hc]; simp [Rd.withWishes, hc']
  subst hws
  have ha : ∀ x ∈ (c.more w).wishes, WishOk x := by
    intro x hx
    simp only [Cmd.more, List.mem_append, List.mem_singleton] at hx
    rcases hx with hx | rfl
    · exact g1 x hx
    · exact hw
  have hf := readWishes_fwd (c.more w).wishes ⟨c', (c.more w).wishes.map wishB, e'⟩ ha rfl (by simp [Cmd.more]; omega)
  have e0 : e' = 0 := g4
  have hlen : (pre ++ (c.more w).wishes.map wishB).length = (pre ++ c.wishes.map wishB).length + 1 := by simp [Cmd.more]; omega
  have h3 := parseRow_of (r := r) (l := pre ++ (c.more w).wishes.map wishB) (by omega) (by rw [hmost, hlen]; simp; omega) (by rw [hX, hf]; exact e0)
  rw [h3, hX, hf]
  congr 1
  have : c = { c' with wishes := c'.wishes ++ c.wishes } := hc
  have e1 : c.kind = c'.kind := by have h := congrArg Cmd.kind this; exact h
  have e2 : c.name = c'.name := by have h := congrArg Cmd.name this; exact h
  have e3 : c.pol = c'.pol := by have h := congrArg Cmd.pol this; exact h
  have e4 : c.path = c'.path := by have h := congrArg Cmd.path this; exact h
  have e5 : c.n = c'.n := by have h := congrArg Cmd.n this; exact h
  show (⟨c'.kind, c'.name, c'.pol, c'.path, c'.wishes ++ (c.wishes ++ [w]), c'.n⟩ : Cmd) = ⟨c.kind, c.name, c.pol, c.path, c.wishes ++ [w], c.n⟩
  rw [hc', List.nil_append, e1, e2, e3, e4, e5]
theorem formFor_take : formFor (upB (nameOf 4)) = some ⟨⟨#[84, 65, 75, 69]⟩, 4, 2, 1073741824, [30, 31]⟩ := by rfl
theorem formFor_peek : formFor (upB (nameOf 5)) = some ⟨⟨#[80, 69, 69, 75]⟩, 5, 2, 1073741824, [30, 31]⟩ := by rfl
theorem formFor_reserve : formFor (upB (nameOf 6)) = some ⟨⟨#[82, 69, 83, 69, 82, 86, 69]⟩, 6, 3, 1073741824, [32, 30, 31]⟩ := by rfl
theorem parseF_form {x : ByteArray} {l : List ByteArray} {r : Form} (h : formFor (upB x) = some r) : parseF (x :: l) = parseRow r l := by
  unfold parseF; simp only; rw [h]
theorem words_kind {c : Cmd} {k : Int} (hk : c.kind = k) (h : k = 4 ∨ k = 5) : wordsF c = nameOf k :: ([pathB c.path] ++ c.wishes.map wishB) := by
  unfold wordsF headF tailF
  rw [hk]
  rcases h with rfl | rfl <;> rfl
theorem words_kind6 {c : Cmd} (hk : c.kind = 6) : wordsF c = nameOf 6 :: ([itoaB c.n, pathB c.path] ++ c.wishes.map wishB) := by
  unfold wordsF headF tailF
  rw [hk]
  rfl
theorem parse_more {c : Cmd} {w : Wish} (hk : c.kind = 4 ∨ c.kind = 5 ∨ c.kind = 6) (h : parseF (wordsF c) = (c, 0)) (hw : WishOk w) (hl : c.wishes.length + 1 ≤ 20) : parseF (wordsF (c.more w)) = (c.more w, 0) := by
  have frame2 : ∀ (k : Int) (a : ByteArray), ∃ c' e', c'.wishes = [] ∧ ∀ X, readAll [30, 31] (Rd.start k ([a] ++ X)) = (⟨c', X, e'⟩ : Rd).readWishes := by
    intro k a
    obtain ⟨c', e', h1, h2⟩ := readPath_frame { Cmd.zero with kind := k } a 0
    exact ⟨c', e', h1, fun X => congrArg Rd.readWishes (h2 X)⟩
  have frame3 : ∀ (t a : ByteArray), ∃ c' e', c'.wishes = [] ∧ ∀ X, readAll [32, 30, 31] (Rd.start 6 ([t, a] ++ X)) = (⟨c', X, e'⟩ : Rd).readWishes := by
    intro t a
    obtain ⟨c1, e1, h1, h2⟩ := readTime_frame { Cmd.zero with kind := 6 } t 0
    obtain ⟨c', e', h3, h4⟩ := readPath_frame c1 a e1
    exact ⟨c', e', h3.trans h1, fun X => (congrArg (fun R => Rd.readWishes (Rd.readPath R)) (h2 (a :: X))).trans (congrArg Rd.readWishes (h4 X))⟩
  rcases hk with hk' | hk' | hk'
  · rw [words_kind hk' (.inl rfl), parseF_form formFor_take] at h
    rw [words_kind (c := c.more w) hk' (.inl rfl), parseF_form formFor_take]
    exact more_row (.inl hk') (frame2 4 _) rfl h hw hl (by simp)
  · rw [words_kind hk' (.inr rfl), parseF_form formFor_peek] at h
    rw [words_kind (c := c.more w) hk' (.inr rfl), parseF_form formFor_peek]
    exact more_row (.inr (.inl hk')) (frame2 5 _) rfl h hw hl (by simp)
  · rw [words_kind6 hk', parseF_form formFor_reserve] at h
    rw [words_kind6 (c := c.more w) hk', parseF_form formFor_reserve]
    exact more_row (.inr (.inr hk')) (frame3 _ _) rfl h hw hl (by simp)
/-- The law of one more wish. -/
theorem print_more {c : Cmd} {w : Wish} (hk : c.kind = 4 ∨ c.kind = 5 ∨ c.kind = 6) (h : printF c ≠ []) :
    (WishOk w ∧ c.wishes.length + 1 ≤ 20 → printF (c.more w) = printF c ++ [wishB w]) ∧ (¬ (WishOk w ∧ c.wishes.length + 1 ≤ 20) → printF (c.more w) = []) := by
  obtain ⟨hp, he⟩ := printF_ne h
  refine ⟨fun ⟨hw, hl⟩ => ?_, fun hn => ?_⟩
  · rw [printF_of (parse_more hk hp hw hl), he, words_more c w hk]
  · by_cases hd : printF (c.more w) = []
    · exact hd
    · exfalso
      obtain ⟨hq, -⟩ := printF_ne hd
      have := (parse_words (x := nameOf (c.more w).kind) hq).2 hk
      exact hn ⟨this.1 w (by simp [Cmd.more]), by have := this.2; simpa [Cmd.more] using this⟩
/-! small letters -/
def lowB (s : ByteArray) : ByteArray := ⟨(s.data.toList.map fun c => c + 32).toArray⟩
theorem low_up {s : ByteArray} {r : Form} (h : formFor (upB s) = some r) : upB (lowB (upB s)) = upB s := by
  obtain ⟨hr, e⟩ := formTab_find h
  rw [e]
  have hall : ∀ r ∈ formTab, upB (lowB r.name) = r.name := by decide
  exact hall r hr
end Go.Proofs.YtamjhnibenonjaaGreatDoor
