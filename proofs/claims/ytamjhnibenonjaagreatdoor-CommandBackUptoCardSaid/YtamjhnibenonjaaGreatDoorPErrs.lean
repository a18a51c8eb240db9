/- tapsterlaw18.CommandErrs: the walk. -/
import Derived.Test.YtamjhnibenonjaaGreatDoorSErrs
import Derived.Laws.OwnMore
namespace Go.Proofs.YtamjhnibenonjaaGreatDoor
set_option linter.unusedVariables false
set_option linter.unusedSimpArgs false
open Go Go.RowKit
def ArgsV (w : World) (v : Value) (l : List ByteArray) : Prop := StrsIn w w.heap.size v l ∧ (v = .slice none 0 0 ∨ ∃ ad c, v = .slice (some ad) l.length c)
def Fits (l : List ByteArray) : Prop := ∀ x ∈ l, x.size ≤ 140737488351232
theorem longL_fits (l : List ByteArray) (h : Fits l) (hn : l.length ≤ 60) : longL l ≤ 9223372036854775807 := by
  have : ∀ l : List ByteArray, Fits l → longL l ≤ l.length * 140737488351233 := by
    intro l
    induction l with
    | nil => intro _; simp [longL]
    | cons x l ih =>
      intro h
      have h1 := ih (fun y hy => h y (List.mem_cons_of_mem _ hy))
      have h2 := h x (List.mem_cons_self ..)
      simp only [longL, List.map_cons, List.sum_cons, List.length_cons] at h1 ⊢
      omega
  have := this l h
  have h3 : l.length * 140737488351233 ≤ 60 * 140737488351233 := Nat.mul_le_mul_right _ hn
  omega
theorem longL_mem (l : List ByteArray) : ∀ x ∈ l, x.size ≤ longL l := by
  induction l with
  | nil => intro x hx; cases hx
  | cons y l ih =>
    intro x hx
    simp only [longL, List.map_cons, List.sum_cons] at ih ⊢
    rcases List.mem_cons.1 hx with rfl | hx
    · omega
    · have := ih x hx; omega
set_option maxHeartbeats 4000000 in
set_option maxRecDepth 100000 in
theorem CommandErrs_early (e f : Int) (name : ByteArray) (v : Value) (l : List ByteArray) (w : World) (hv : ArgsV w v l) (hf : Fits l) (hg : Glob w) (hb : 9 < w.heap.size)
    (hc : 50 < name.size ∨ 30 < l.length ∨ 500 < longL l) :
    Calls Tryz.prog 3 #[.int .i64 e, .int .i64 f, .string name, v] w fun en w' => en = .returned (.bool true) ∧ Keep (fun _ => False) w w' := by
  have hK := known_any w hg hb
  by_cases h1 : 50 < name.size
  · obtain ⟨⟨a, c, rfl, -⟩, -⟩ := hv
    have h1' : (50 : Int) < (name.size : Int) := by omega
    clear hc h1
    go_enter Tryz.func3, Tryz.ntmps3
    go_wp2_with fail
    refine hK.mono ?_
    rintro en w1 ⟨rfl, hk⟩
    have HK := Lib.hid hk
    clear hk
    go_wp2
    go_ret
    exact ⟨rfl, HK.out⟩
  · by_cases h2 : 30 < l.length
    · obtain ⟨⟨a, c, rfl, -⟩, -⟩ := hv
      have h1' : ¬ (50 : Int) < (name.size : Int) := by omega
      have h2' : (30 : Int) < (l.length : Int) := by omega
      clear hc h1 h2
      go_enter Tryz.func3, Tryz.ntmps3
      go_wp2_with fail
      refine hK.mono ?_
      rintro en w1 ⟨rfl, hk⟩
      have HK := Lib.hid hk
      clear hk
      go_wp2
      go_ret
      exact ⟨rfl, HK.out⟩
    · have hL := Long03_any v l _ w hv.1 (longL_fits l hf (by omega))
      obtain ⟨⟨a, c, rfl, -⟩, -⟩ := hv
      have h1' : ¬ (50 : Int) < (name.size : Int) := by omega
      have h2' : ¬ (30 : Int) < (l.length : Int) := by omega
      have h3 : (500 : Int) < (longL l : Int) := by omega
      clear hc h1 h2
      go_enter Tryz.func3, Tryz.ntmps3
      go_wp2_with fail
      refine hL.mono ?_
      rintro en w1 ⟨rfl, rfl⟩
      go_wp2_with fail
      refine hK.mono ?_
      rintro en w1 ⟨rfl, hk⟩
      have HK := Lib.hid hk
      clear hk
      go_wp2
      go_ret
      exact ⟨rfl, HK.out⟩
end Go.Proofs.YtamjhnibenonjaaGreatDoor
