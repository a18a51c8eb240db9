/- book.Named: whether a name may be. -/
import Derived.Test.YtamjhnibenonjaaGreatDoorPRd
import Derived.Deep.QuietTactic
import Derived.BigQuiet
namespace Go.Proofs.YtamjhnibenonjaaGreatDoor
set_option linter.unusedVariables false
set_option linter.unusedSimpArgs false
open Go Go.RowKit
def oddS : ByteArray := ⟨#[45, 95, 46]⟩
set_option maxHeartbeats 1000000 in
set_option maxRecDepth 1000000 in
theorem IndexRune_bad (r : Int) (h0 : 128 ≤ r) (hv : Lib.validRune r = false) (w : World) :
    Calls Tryz.prog 126 #[.string oddS, .int .i32 r] w fun e w' => e = .returned (.int .i64 (-1)) ∧ Below w.heap.size w w' := by
  have h1 : decide (r < 128) = false := by simp; omega
  have h2 : decide (0 ≤ r) = true := by simp; omega
  have h3 : (r == 65533) = false := by
    simp only [beq_eq_false_iff_ne]; rintro rfl; exact absurd hv (by decide)
  have hV := Tryz.utf8_ValidRune r w
  rw [hv] at hV
  clear hv
  go_enter Tryz.func126, Tryz.ntmps126
  go_wp2_with fail
  refine hV.mono ?_
  rintro e w1 ⟨rfl, rfl⟩
  go_wp2
  go_ret
  exact ⟨rfl, Below.refl _ _⟩
set_option maxHeartbeats 1000000 in
set_option maxRecDepth 1000000 in
theorem IndexRune_err (w : World) :
    Calls Tryz.prog 126 #[.string oddS, .int .i32 65533] w fun e w' => e = .returned (.int .i64 (-1)) ∧ Below w.heap.size w w' := by
  go_enter Tryz.func126, Tryz.ntmps126
  go_wp2
  have n0 := run_next_ascii (P := Tryz.prog) w oddS 0
  have n1 := run_next_ascii (P := Tryz.prog) w oddS 1
  have n2 := run_next_ascii (P := Tryz.prog) w oddS 2
  have n3 : ∀ ty, (Instr.next (.pointer (some ⟨w.heap.size, 0, none⟩)) true ty).run Tryz.prog (w.iter oddS 3) = .ok (.tuple #[.bool false]) (w.iter oddS 3) := fun ty => run_next_end w oddS 3 ty (by decide)
  replace n0 : ∀ ty, (Instr.next (.pointer (some ⟨w.heap.size, 0, none⟩)) true ty).run Tryz.prog (w.iter oddS 0) = .ok (.tuple #[.bool true, .int .i64 0, .int .i32 45]) (w.iter oddS 1) := fun ty => n0 ty (by decide) (by decide)
  replace n1 : ∀ ty, (Instr.next (.pointer (some ⟨w.heap.size, 0, none⟩)) true ty).run Tryz.prog (w.iter oddS 1) = .ok (.tuple #[.bool true, .int .i64 1, .int .i32 95]) (w.iter oddS 2) := fun ty => n1 ty (by decide) (by decide)
  replace n2 : ∀ ty, (Instr.next (.pointer (some ⟨w.heap.size, 0, none⟩)) true ty).run Tryz.prog (w.iter oddS 2) = .ok (.tuple #[.bool true, .int .i64 2, .int .i32 46]) (w.iter oddS 3) := fun ty => n2 ty (by decide) (by decide)
  refine wp_loop_rounds 4 ?_
  rw [rounds_succ]
  go_wp2
  rw [rounds_succ]
  go_wp2
  rw [rounds_succ]
  go_wp2
  rw [rounds_succ]
  go_wp2
  go_ret
  refine ⟨rfl, ?_⟩
  simp only [World.iter]
  exact (Below.refl _ w).alloc (Nat.le_refl _) _
theorem encode_high (r : Int) (h0 : 128 ≤ r) (hv : Hid (Lib.validRune r = true)) : (∃ x0 c : UInt8, Utf8.encode r = ⟨#[x0, c]⟩ ∧ 128 ≤ c.toNat) ∨ (∃ x0 x1 c : UInt8, Utf8.encode r = ⟨#[x0, x1, c]⟩ ∧ 128 ≤ c.toNat) ∨ (∃ x0 x1 x2 c : UInt8, Utf8.encode r = ⟨#[x0, x1, x2, c]⟩ ∧ 128 ≤ c.toNat) := by
  have hb : ∀ n, 128 ≤ (UInt8.ofNat (0x80 + n % 64)).toNat := fun n => by simp; omega
  unfold Utf8.encode
  generalize hc : (if Utf8.valid r = true then r.toNat else Utf8.runeError) = c
  have hc0 : ¬ c < 0x80 := by
    rw [← hc]; split
    · omega
    · simp [Utf8.runeError]
  simp only
  rw [if_neg hc0]
  split
  · exact .inl ⟨_, _, rfl, hb _⟩
  · split
    · exact .inr (.inl ⟨_, _, _, rfl, hb _⟩)
    · exact .inr (.inr ⟨_, _, _, _, rfl, hb _⟩)
theorem IndexByte_none (l : List UInt8) (c : UInt8) (hl : c ∉ l) (w : World) :
    Calls Tryz.prog 147 #[.string ⟨l.toArray⟩, .int .u8 (c.toNat : Int)] w fun e w' => e = .returned (.int .i64 (-1)) ∧ w' = w := by
  refine (Tryz.strings_IndexByte ⟨l.toArray⟩ (c.toNat : Int) w).mono ?_
  rintro e w' ⟨rfl, rfl⟩
  refine ⟨?_, rfl⟩
  rw [show ((c.toNat : Int)).toNat.toUInt8 = c by simp]
  congr 2
  simp only
  induction l with
  | nil => rfl
  | cons b l ih =>
    simp only [List.mem_cons, not_or] at hl
    have hb : (b == c) = false := by simpa using fun e => hl.1 e.symm
    simp [Lib.indexByte, hb, ih hl.2]
set_option maxHeartbeats 1000000 in
set_option maxRecDepth 1000000 in
theorem IndexRune_good (r : Int) (h0 : 128 ≤ r) (hr : r ≠ 65533) (hv : Lib.validRune r = true) (w : World) :
    Calls Tryz.prog 126 #[.string oddS, .int .i32 r] w fun e w' => e = .returned (.int .i64 (-1)) ∧ Below w.heap.size w w' := by
  have h1 : decide (r < 128) = false := by simp; omega
  have h2 : decide (0 ≤ r) = true := by simp; omega
  have h3 : (r == 65533) = false := by simpa using hr
  have hV := Tryz.utf8_ValidRune r w
  rw [hv] at hV
  have hv' := Lib.hid hv
  clear hv
  go_enter Tryz.func126, Tryz.ntmps126
  go_wp2_with fail
  refine hV.mono ?_
  rintro e w1 ⟨rfl, rfl⟩
  go_wp2
  go_step3
  go_wp2
  rcases encode_high r h0 hv' with ⟨x0, c, he, hc⟩ | ⟨x0, x1, c, he, hc⟩ | ⟨x0, x1, x2, c, he, hc⟩
  · rw [he, show (⟨#[x0, c]⟩ : ByteArray).size = 2 from rfl, show wrap64 (((2 : Nat) : Int) - 1) = 1 from by unfold wrap64; omega]
    have hne : ((95 : Int) == (c.toNat : Int)) = false := by simp; omega
    clear he
    have hi1 : ∀ w, (Instr.index 9 (.string oddS) (.int .i64 1)).run Tryz.prog w = .ok (.int .u8 95) w := fun _ => by kernel_rfl
    have hi2 : ∀ w, (Instr.index 9 (.string ⟨#[x0, c]⟩) (.int .i64 1)).run Tryz.prog w = .ok (.int .u8 (c.toNat : Int)) w := fun _ => by kernel_rfl
    refine wp_loop_rounds 1 ?_
    rw [rounds_succ]
    go_wp2
    go_step3
    go_wp2
    go_quiet (fail)
    go_wp2
    have hs1 : ∀ w, (Instr.slice 9 (.string oddS) (some (.int .i64 2)) none none).run Tryz.prog w = .ok (.string ⟨#[46]⟩) w := fun _ => by kernel_rfl
    have hI := IndexByte_none [46] c (by simp; rintro rfl; simp at hc)
    have hw2 : IntKind.i64.wrap (1 + 1) = 2 := by simp [IntKind.wrap, IntKind.signed, IntKind.bits]
    have hbW : Below w1.heap.size w1 (w1.drewN nq) := ((Keep.refl (fun _ => False) w1).drewN nq).below
    generalize w1.drewN nq = W at *
    go_quiet ((go_at_call 147; exact Calls.quiet_of_same (hI _)))
    have hbW2 : Below W.heap.size W (W.drewN nq) := ((Keep.refl (fun _ => False) W).drewN nq).below
    go_wp2
    rw [Exit.noGoto_ret]
    go_wp2
    rw [Exit.noGoto_ret]
    go_ret
    exact ⟨rfl, hbW.trans (hbW2.mono hbW.size)⟩
  · rw [he, show (⟨#[x0, x1, c]⟩ : ByteArray).size = 3 from rfl, show wrap64 (((3 : Nat) : Int) - 1) = 2 from by unfold wrap64; omega]
    have hne : ((46 : Int) == (c.toNat : Int)) = false := by simp; omega
    clear he
    have hi1 : ∀ w, (Instr.index 9 (.string oddS) (.int .i64 2)).run Tryz.prog w = .ok (.int .u8 46) w := fun _ => by kernel_rfl
    have hi2 : ∀ w, (Instr.index 9 (.string ⟨#[x0, x1, c]⟩) (.int .i64 2)).run Tryz.prog w = .ok (.int .u8 (c.toNat : Int)) w := fun _ => by kernel_rfl
    refine wp_loop_rounds 1 ?_
    rw [rounds_succ]
    go_wp2
    go_step3
    go_wp2
    go_quiet (fail)
    go_wp2
    have hs1 : ∀ w, (Instr.slice 9 (.string oddS) (some (.int .i64 3)) none none).run Tryz.prog w = .ok (.string ⟨#[]⟩) w := fun _ => by kernel_rfl
    have hI := IndexByte_none [] c (by simp)
    have hw2 : IntKind.i64.wrap (2 + 1) = 3 := by simp [IntKind.wrap, IntKind.signed, IntKind.bits]
    have hbW : Below w1.heap.size w1 (w1.drewN nq) := ((Keep.refl (fun _ => False) w1).drewN nq).below
    generalize w1.drewN nq = W at *
    go_quiet ((go_at_call 147; exact Calls.quiet_of_same (hI _)))
    have hbW2 : Below W.heap.size W (W.drewN nq) := ((Keep.refl (fun _ => False) W).drewN nq).below
    go_wp2
    rw [Exit.noGoto_ret]
    go_wp2
    rw [Exit.noGoto_ret]
    go_ret
    exact ⟨rfl, hbW.trans (hbW2.mono hbW.size)⟩
  · rw [he, show (⟨#[x0, x1, x2, c]⟩ : ByteArray).size = 4 from rfl, show wrap64 (((4 : Nat) : Int) - 1) = 3 from by unfold wrap64; omega]
    clear he
    refine wp_loop_rounds 1 ?_
    rw [rounds_succ]
    go_wp2
    rw [Exit.noGoto_ret]
    go_ret
    exact ⟨rfl, Below.refl _ _⟩
theorem IndexRune_high (r : Int) (h0 : 128 ≤ r) (w : World) :
    Calls Tryz.prog 126 #[.string oddS, .int .i32 r] w fun e w' => e = .returned (.int .i64 (-1)) ∧ Below w.heap.size w w' := by
  by_cases h : r = 65533
  · subst h; exact IndexRune_err w
  · cases hv : Lib.validRune r with
    | false => exact IndexRune_bad r h0 hv w
    | true => exact IndexRune_good r h0 h hv w
theorem ContainsRune_high (r : Int) (h0 : 128 ≤ r) (w : World) :
    Calls Tryz.prog 75 #[.string oddS, .int .i32 r] w fun e w' => e = .returned (.bool false) ∧ Below w.heap.size w w' := by
  go_enter Tryz.func75, Tryz.ntmps75
  go_wp2_with fail
  refine (IndexRune_high r h0 _).mono ?_
  rintro e w1 ⟨rfl, hb⟩
  go_wp2
  go_ret
  exact ⟨rfl, hb⟩
theorem ContainsRune_odd (r : Int) (h0 : 0 ≤ r) (w : World) :
    Calls Tryz.prog 75 #[.string oddS, .int .i32 r] w fun e w' => e = .returned (.bool (r == 45 || r == 95 || r == 46)) ∧ Below w.heap.size w w' := by
  by_cases h : r < 128
  · refine (Tryz.strings_ContainsRune_ascii oddS r w h0 h).mono ?_
    rintro e w1 ⟨rfl, rfl⟩
    refine ⟨?_, Below.refl _ _⟩
    obtain ⟨x, rfl⟩ := Int.eq_ofNat_of_zero_le h0
    have hx : x < 128 := by omega
    have key : ∀ y : Fin 128, decide (0 ≤ Lib.indexByte oddS.data.toList ((y.val : Int).toNat.toUInt8)) = ((y.val : Int) == 45 || (y.val : Int) == 95 || (y.val : Int) == 46) := by decide +kernel
    exact congrArg (fun b => Ending.returned (.bool b)) (key ⟨x, hx⟩)
  · refine (ContainsRune_high r (by omega) w).mono ?_
    rintro e w1 ⟨rfl, hb⟩
    refine ⟨?_, hb⟩
    rw [show (r == 45 || r == 95 || r == 46) = false by simp; omega]
def okRune (x : Nat) : Bool := (97 ≤ x && x ≤ 122) || (65 ≤ x && x ≤ 90) || (48 ≤ x && x ≤ 57) || x == 45 || x == 95 || x == 46
set_option maxHeartbeats 1000000 in
theorem Named1_A (x : Nat) (w : World) (h1 : x < 48) :
    Calls Tryz.prog 74 #[.int .i32 (x : Int)] w fun e w' => e = .returned (.bool (!okRune x)) ∧ Below w.heap.size w w' := by
  have hC := ContainsRune_odd (x : Int) (by omega)
  have e1 : okRune x = ((x : Int) == 45 || (x : Int) == 95 || (x : Int) == 46) := by
    rw [Bool.eq_iff_iff]; simp [okRune]; omega
  rw [e1]
  have a0 : decide ((x : Int) < 97) = true := by simp; omega
  have a1 : decide (122 < (x : Int)) = false := by simp; omega
  have a2 : decide ((x : Int) < 65) = true := by simp; omega
  have a3 : decide (90 < (x : Int)) = false := by simp; omega
  have a4 : decide ((x : Int) < 48) = true := by simp; omega
  have a5 : decide (57 < (x : Int)) = false := by simp; omega
  clear e1 h1
  go_enter Tryz.func74, Tryz.ntmps74
  go_wp2_with fail
  refine (hC _).mono ?_
  rintro e w1 ⟨rfl, hb⟩
  go_wp2
  go_ret
  exact ⟨by simp, hb⟩
set_option maxHeartbeats 1000000 in
theorem Named1_B (x : Nat) (w : World) (h1 : 48 ≤ x ∧ x ≤ 57) :
    Calls Tryz.prog 74 #[.int .i32 (x : Int)] w fun e w' => e = .returned (.bool (!okRune x)) ∧ Below w.heap.size w w' := by
  have hC := ContainsRune_odd (x : Int) (by omega)
  have e1 : okRune x = true := by simp [okRune]; omega
  rw [e1]
  have a0 : decide ((x : Int) < 97) = true := by simp; omega
  have a1 : decide (122 < (x : Int)) = false := by simp; omega
  have a2 : decide ((x : Int) < 65) = true := by simp; omega
  have a3 : decide (90 < (x : Int)) = false := by simp; omega
  have a4 : decide ((x : Int) < 48) = false := by simp; omega
  have a5 : decide (57 < (x : Int)) = false := by simp; omega
  clear e1 h1
  go_enter Tryz.func74, Tryz.ntmps74
  go_wp2
  go_ret
  exact ⟨rfl, Below.refl _ _⟩
set_option maxHeartbeats 1000000 in
theorem Named1_C (x : Nat) (w : World) (h1 : 58 ≤ x ∧ x ≤ 64) :
    Calls Tryz.prog 74 #[.int .i32 (x : Int)] w fun e w' => e = .returned (.bool (!okRune x)) ∧ Below w.heap.size w w' := by
  have hC := ContainsRune_odd (x : Int) (by omega)
  have e1 : okRune x = ((x : Int) == 45 || (x : Int) == 95 || (x : Int) == 46) := by
    rw [Bool.eq_iff_iff]; simp [okRune]; omega
  rw [e1]
  have a0 : decide ((x : Int) < 97) = true := by simp; omega
  have a1 : decide (122 < (x : Int)) = false := by simp; omega
  have a2 : decide ((x : Int) < 65) = true := by simp; omega
  have a3 : decide (90 < (x : Int)) = false := by simp; omega
  have a4 : decide ((x : Int) < 48) = false := by simp; omega
  have a5 : decide (57 < (x : Int)) = true := by simp; omega
  clear e1 h1
  go_enter Tryz.func74, Tryz.ntmps74
  go_wp2_with fail
  refine (hC _).mono ?_
  rintro e w1 ⟨rfl, hb⟩
  go_wp2
  go_ret
  exact ⟨by simp, hb⟩
set_option maxHeartbeats 1000000 in
theorem Named1_D (x : Nat) (w : World) (h1 : 65 ≤ x ∧ x ≤ 90) :
    Calls Tryz.prog 74 #[.int .i32 (x : Int)] w fun e w' => e = .returned (.bool (!okRune x)) ∧ Below w.heap.size w w' := by
  have hC := ContainsRune_odd (x : Int) (by omega)
  have e1 : okRune x = true := by simp [okRune]; omega
  rw [e1]
  have a0 : decide ((x : Int) < 97) = true := by simp; omega
  have a1 : decide (122 < (x : Int)) = false := by simp; omega
  have a2 : decide ((x : Int) < 65) = false := by simp; omega
  have a3 : decide (90 < (x : Int)) = false := by simp; omega
  have a4 : decide ((x : Int) < 48) = false := by simp; omega
  have a5 : decide (57 < (x : Int)) = true := by simp; omega
  clear e1 h1
  go_enter Tryz.func74, Tryz.ntmps74
  go_wp2
  go_ret
  exact ⟨rfl, Below.refl _ _⟩
set_option maxHeartbeats 1000000 in
theorem Named1_E (x : Nat) (w : World) (h1 : 91 ≤ x ∧ x ≤ 96) :
    Calls Tryz.prog 74 #[.int .i32 (x : Int)] w fun e w' => e = .returned (.bool (!okRune x)) ∧ Below w.heap.size w w' := by
  have hC := ContainsRune_odd (x : Int) (by omega)
  have e1 : okRune x = ((x : Int) == 45 || (x : Int) == 95 || (x : Int) == 46) := by
    rw [Bool.eq_iff_iff]; simp [okRune]; omega
  rw [e1]
  have a0 : decide ((x : Int) < 97) = true := by simp; omega
  have a1 : decide (122 < (x : Int)) = false := by simp; omega
  have a2 : decide ((x : Int) < 65) = false := by simp; omega
  have a3 : decide (90 < (x : Int)) = true := by simp; omega
  have a4 : decide ((x : Int) < 48) = false := by simp; omega
  have a5 : decide (57 < (x : Int)) = true := by simp; omega
  clear e1 h1
  go_enter Tryz.func74, Tryz.ntmps74
  go_wp2_with fail
  refine (hC _).mono ?_
  rintro e w1 ⟨rfl, hb⟩
  go_wp2
  go_ret
  exact ⟨by simp, hb⟩
set_option maxHeartbeats 1000000 in
theorem Named1_F (x : Nat) (w : World) (h1 : 97 ≤ x ∧ x ≤ 122) :
    Calls Tryz.prog 74 #[.int .i32 (x : Int)] w fun e w' => e = .returned (.bool (!okRune x)) ∧ Below w.heap.size w w' := by
  have hC := ContainsRune_odd (x : Int) (by omega)
  have e1 : okRune x = true := by simp [okRune]; omega
  rw [e1]
  have a0 : decide ((x : Int) < 97) = false := by simp; omega
  have a1 : decide (122 < (x : Int)) = false := by simp; omega
  have a2 : decide ((x : Int) < 65) = false := by simp; omega
  have a3 : decide (90 < (x : Int)) = true := by simp; omega
  have a4 : decide ((x : Int) < 48) = false := by simp; omega
  have a5 : decide (57 < (x : Int)) = true := by simp; omega
  clear e1 h1
  go_enter Tryz.func74, Tryz.ntmps74
  go_wp2
  go_ret
  exact ⟨rfl, Below.refl _ _⟩
set_option maxHeartbeats 1000000 in
theorem Named1_G (x : Nat) (w : World) (h1 : 123 ≤ x) :
    Calls Tryz.prog 74 #[.int .i32 (x : Int)] w fun e w' => e = .returned (.bool (!okRune x)) ∧ Below w.heap.size w w' := by
  have hC := ContainsRune_odd (x : Int) (by omega)
  have e1 : okRune x = ((x : Int) == 45 || (x : Int) == 95 || (x : Int) == 46) := by
    rw [Bool.eq_iff_iff]; simp [okRune]; omega
  rw [e1]
  have a0 : decide ((x : Int) < 97) = false := by simp; omega
  have a1 : decide (122 < (x : Int)) = true := by simp; omega
  have a2 : decide ((x : Int) < 65) = false := by simp; omega
  have a3 : decide (90 < (x : Int)) = true := by simp; omega
  have a4 : decide ((x : Int) < 48) = false := by simp; omega
  have a5 : decide (57 < (x : Int)) = true := by simp; omega
  clear e1 h1
  go_enter Tryz.func74, Tryz.ntmps74
  go_wp2_with fail
  refine (hC _).mono ?_
  rintro e w1 ⟨rfl, hb⟩
  go_wp2
  go_ret
  exact ⟨by simp, hb⟩
theorem Named1_any (x : Nat) (w : World) :
    Calls Tryz.prog 74 #[.int .i32 (x : Int)] w fun e w' => e = .returned (.bool (!okRune x)) ∧ Below w.heap.size w w' := by
  by_cases h1 : x < 48
  · exact Named1_A x w h1
  by_cases h2 : x ≤ 57
  · exact Named1_B x w (by omega)
  by_cases h3 : x ≤ 64
  · exact Named1_C x w (by omega)
  by_cases h4 : x ≤ 90
  · exact Named1_D x w (by omega)
  by_cases h5 : x ≤ 96
  · exact Named1_E x w (by omega)
  by_cases h6 : x ≤ 122
  · exact Named1_F x w (by omega)
  · exact Named1_G x w (by omega)
theorem okRune_byte (c : UInt8) : okRune c.toNat = okByte c := rfl
theorem okRune_high {x : Nat} (h : 128 ≤ x) : okRune x = false := by simp [okRune]; omega
theorem drop_all (s : ByteArray) (pos : Nat) (h : pos < s.size) : (s.data.toList.drop pos).all okByte = (okByte s[pos] && (s.data.toList.drop (pos + 1)).all okByte) := by
  have hl : pos < s.data.toList.length := by have := Lib.size_eq s; omega
  rw [List.drop_eq_getElem_cons hl, List.all_cons]
  rfl
theorem named_from (s : ByteArray) : ∀ (f pos : Nat), s.size ≤ pos + f → (0 ≤ Lib.idxFuncFrom (fun x => !okRune x) true s f pos ↔ (s.data.toList.drop pos).all okByte = false)
  | 0, pos, h => by
    rw [List.drop_eq_nil_of_le (by have := Lib.size_eq s; omega)]
    simp [Lib.idxFuncFrom]
  | f + 1, pos, h => by
    unfold Lib.idxFuncFrom
    by_cases hp : pos < s.size
    · rw [if_pos hp, drop_all s pos hp]
      by_cases ha : (s[pos]'hp).toNat < 128
      · rw [decode_ascii s pos hp ha]
        have ih := named_from s f (pos + 1) (by omega)
        have e : okRune (s[pos]'hp).toNat = okByte (s[pos]'hp) := okRune_byte _
        by_cases hk : okByte s[pos] = true
        · rw [if_neg (by simp only [e, hk]; simp), ih, hk, Bool.true_and]
        · have hk' : okByte s[pos] = false := by simpa using hk
          rw [if_pos (by simp only [e, hk']; simp), hk']; simp
      · have hd := (decode_high s pos hp (by omega)).1
        have : okByte s[pos] = false := by rw [← okRune_byte]; exact okRune_high (by omega)
        rw [if_pos (by simp only [okRune_high hd]; simp), this]; simp
    · rw [if_neg hp, List.drop_eq_nil_of_le (by have := Lib.size_eq s; omega)]
      simp
/-- The runes of a name that may be are its bytes. -/
theorem named_runes (s : ByteArray) : decide (0 ≤ Lib.idxFunc (fun x => !okRune x) true s) = !(s.data.toList.all okByte) := by
  have := named_from s s.size 0 (by omega)
  rw [List.drop_zero] at this
  cases h : s.data.toList.all okByte
  · exact decide_eq_true (this.2 h)
  · exact decide_eq_false (fun hh => by have := this.1 hh; rw [this] at h; cases h)
theorem empty_iff (s : ByteArray) : s.toList.isEmpty = decide (s.size = 0) := by
  rw [ByteArray.toList_eq]
  rw [Lib.size_eq]
  cases h : s.data.toList with
  | nil => simp
  | cons a l => simp
set_option maxHeartbeats 1000000 in
theorem Named_any (s : ByteArray) (w : World) :
    Calls Tryz.prog 60 #[.string s] w fun e w' => e = .returned (.bool (namedB s)) ∧ Below w.heap.size w w' := by
  have hF := Tryz.strings_ContainsFunc_grows 74 #[] (fun args w => by kernel_rfl) (fun x => !okRune x) s w (fun W x _ _ => by simpa using Named1_any x W)
  rw [named_runes] at hF
  by_cases h0 : s.size = 0
  · have e1 : namedB s = false := by simp [namedB, h0]
    rw [e1]
    have hs : s.toList.isEmpty = true := by rw [empty_iff]; simpa using h0
    clear e1 h0
    go_enter Tryz.func60, Tryz.ntmps60
    go_wp2
    go_ret
    exact ⟨rfl, Below.refl _ _⟩
  · have hs : s.toList.isEmpty = false := by rw [empty_iff]; simpa using h0
    by_cases h4 : s.size ≤ 40
    · have e1 : namedB s = s.data.toList.all okByte := by simp [namedB, h4]; omega
      rw [e1]
      have a1 : decide (s.size ≤ 40) = true := by simpa using h4
      have a2 : decide ((s.size : Int) ≤ 40) = true := by simp; omega
      clear e1 h0 h4
      go_enter Tryz.func60, Tryz.ntmps60
      go_wp2_with fail
      refine hF.mono ?_
      rintro e w1 ⟨rfl, hb⟩
      go_wp2
      go_ret
      exact ⟨by simp, hb⟩
    · have e1 : namedB s = false := by simp [namedB]; omega
      rw [e1]
      have a2 : decide ((s.size : Int) ≤ 40) = false := by simp; omega
      clear e1 h0 h4
      go_enter Tryz.func60, Tryz.ntmps60
      go_wp2
      go_ret
      exact ⟨rfl, Below.refl _ _⟩
end Go.Proofs.YtamjhnibenonjaaGreatDoor
