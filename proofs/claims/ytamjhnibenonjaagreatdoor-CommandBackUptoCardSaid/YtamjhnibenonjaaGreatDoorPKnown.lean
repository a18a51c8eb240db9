/- command.Errs; what is known of the chapter's example. -/
import Derived.Test.YtamjhnibenonjaaGreatDoorPSame18
import Derived.Lib.ItoaLen
namespace Go.Proofs.YtamjhnibenonjaaGreatDoor
set_option linter.unusedVariables false
set_option linter.unusedSimpArgs false
open Go Go.RowKit
def errsB (e : Int) : ByteArray := ⟨#[69, 82, 82, 32]⟩ ++ itoaB e
theorem itoaB_size (e : Int) (h0 : -9223372036854775808 ≤ e) (h1 : e ≤ 9223372036854775807) : (itoaB e).size ≤ 21 := by
  have := Lib.itoa_length_le e h0 h1
  simpa [itoaB, ByteArray.size] using this
theorem Errs_any (e : Int) (h0 : -9223372036854775808 ≤ e) (h1 : e ≤ 9223372036854775807) (w : World) :
    Calls Tryz.prog 9 #[.int .i64 e] w fun en w' => en = .returned (.string (errsB e)) ∧ Keep (fun _ => False) w w' := by
  have hsz := itoaB_size e h0 h1
  go_enter Tryz.func9, Tryz.ntmps9
  go_wp2_with fail
  refine (Print_any e h0 h1 w).mono ?_
  rintro en w1 ⟨rfl, hk⟩
  have HK := Lib.hid hk
  clear hk
  go_wp2
  go_ret
  exact ⟨by rfl, HK.out⟩
def knownArgs : List ByteArray := [⟨#[116, 97, 107, 101]⟩, ⟨#[116, 47, 117]⟩, ⟨#[112, 58, 49, 58, 51]⟩]
def knownCmd : Cmd := { Cmd.zero with kind := 4, path := [⟨#[116]⟩, ⟨#[117]⟩], wishes := [⟨⟨#[112]⟩, 1, 3⟩] }
theorem known_parse : parseF knownArgs = (knownCmd, 0) := by decide +kernel
theorem known_errs : errsB 2 = ⟨#[69, 82, 82, 32, 50]⟩ := by decide +kernel
theorem known_ok : ArgsOk knownArgs := by
  have h : ∀ x ∈ knownArgs, x.size ≤ 4194304 := by decide
  exact h
theorem RowIn.new (w : World) (size n : Nat) (t : TypeId) (cs : Array Value) (hn : n ≤ 100) : RowIn (w.alloc (.cells cs t)) (w.heap.size + 1) size (.slice (some ⟨w.heap.size, 0, none⟩) n n) n cs.toList := by
  refine ⟨_, _, rfl, Nat.le_refl _, by omega, fun _ => ⟨_, _, rfl, by omega, fun j x hj => ?_⟩⟩
  rw [cell_of_block (block_new w _), Nat.zero_add]
  simpa using hj
theorem RowIn.mono {w : World} {B B' size n : Nat} {v : Value} {l : List Value} (h : RowIn w B size v n l) (hB : B ≤ B') : RowIn w B' size v n l := by
  obtain ⟨a, c, h1, h2, h3, h4⟩ := h
  refine ⟨a, c, h1, h2, h3, fun hne => ?_⟩
  obtain ⟨b, o, h5, h6, h7⟩ := h4 hne
  exact ⟨b, o, h5, by omega, h7⟩
theorem CmdIn.mono {w : World} {B B' : Nat} {v : Value} {c : Cmd} (h : CmdIn w B v c) (hB : B ≤ B') : CmdIn w B' v c := by
  obtain ⟨pv, wv, h1, h2, h3⟩ := h
  exact ⟨pv, wv, h1, h2.mono hB, h3.mono hB⟩
theorem CmdIn.slices {w : World} {B : Nat} {v : Value} {c : Cmd} (h : CmdIn w B v c) : ∃ pa pc wa wc, v = .agg (cmdCells c (.slice pa c.path.length pc) (.slice wa c.wishes.length wc)) := by
  obtain ⟨pv, wv, h1, ⟨pa, pc, rfl, _⟩, ⟨wa, wc, rfl, _⟩⟩ := h
  exact ⟨_, _, _, _, h1⟩
set_option maxHeartbeats 1000000 in
set_option maxRecDepth 100000 in
theorem known_any (w : World) (hg : Glob w) (hb : 9 < w.heap.size) :
    Calls Tryz.prog 8 #[] w fun en w' => en = .returned (.bool true) ∧ Keep (fun _ => False) w w' := by
  go_enter Tryz.func8, Tryz.ntmps8
  go_wp2_with fail
  have k1 : Keep (fun _ => False) w (w.alloc (.cells #[.string ⟨#[116, 97, 107, 101]⟩, .string ⟨#[116, 47, 117]⟩, .string ⟨#[112, 58, 49, 58, 51]⟩] 9)) := (Keep.refl _ _).alloc _
  have hs1 := (RowIn.new w 1 3 9 #[.string ⟨#[116, 97, 107, 101]⟩, .string ⟨#[116, 47, 117]⟩, .string ⟨#[112, 58, 49, 58, 51]⟩] (by decide)).strs (l := knownArgs)
  rw [← World.size_alloc w (.cells #[.string ⟨#[116, 97, 107, 101]⟩, .string ⟨#[116, 47, 117]⟩, .string ⟨#[112, 58, 49, 58, 51]⟩] 9)] at hs1
  refine (CParse_any _ knownArgs _ hs1 known_ok (hg.below k1.below hb) (Nat.lt_of_lt_of_le hb k1.size)).mono ?_
  rintro en w1 ⟨cv, rfl, hc, hk1⟩
  rw [known_parse] at hc
  rw [known_parse]
  obtain ⟨pa, pc, wa, wc, rfl⟩ := hc.slices
  have HC := Lib.hid hc
  have HK1 := Lib.hid (k1.trans hk1)
  clear hc hk1 k1 hs1
  simp only [cmdCells, knownCmd, Cmd.zero, Pol.zero, emptyB, List.length_cons, List.length_nil] at HC ⊢
  go_wp2_with fail
  obtain ⟨wx, hwx⟩ : ∃ wx, wx = w1.alloc (.cells #[.int .i64 4, .string ⟨#[]⟩, .int .i64 0, .int .i64 0, .int .i64 0, .int .i64 0, .int .i64 0, .bool false, .slice pa 2 pc, .slice wa 1 wc, .int .i64 0] 31) := ⟨_, rfl⟩
  have hkx : Keep (fun _ => False) w1 wx := by rw [hwx]; exact (Keep.refl _ _).alloc _
  have hsx : wx.heap.size = w1.heap.size + 1 := by rw [hwx]; simp
  rw [← hwx, ← hsx]
  have r1 := RowIn.new wx 1 2 9 #[.string ⟨#[116]⟩, .string ⟨#[117]⟩] (by decide)
  have hky := (Keep.refl (fun _ => False) wx).alloc (.cells #[.string ⟨#[116]⟩, .string ⟨#[117]⟩] 9)
  have hsy : (wx.alloc (.cells #[.string ⟨#[116]⟩, .string ⟨#[117]⟩] 9)).heap.size = wx.heap.size + 1 := by simp
  generalize wx.alloc (.cells #[.string ⟨#[116]⟩, .string ⟨#[117]⟩] 9) = wy at *
  rw [← hsy]
  have r2 := RowIn.new wy 3 1 42 #[.string ⟨#[112]⟩, .int .i64 1, .int .i64 3] (by decide)
  have hkz := (Keep.refl (fun _ => False) wy).alloc (.cells #[.string ⟨#[112]⟩, .int .i64 1, .int .i64 3] 42)
  generalize wy.alloc (.cells #[.string ⟨#[112]⟩, .int .i64 1, .int .i64 3] 42) = wz at *
  have hd : CmdIn wz (wy.heap.size + 1) (.agg #[.int .i64 4, .string ⟨#[]⟩, .int .i64 0, .int .i64 0, .int .i64 0, .int .i64 0, .int .i64 0, .bool false, .slice (some ⟨wx.heap.size, 0, none⟩) 2 2, .slice (some ⟨wy.heap.size, 0, none⟩) 1 1, .int .i64 0]) knownCmd :=
    ⟨_, _, rfl, (r1.keep hkz).mono (by omega), r2⟩
  refine (Same18_any _ _ knownCmd knownCmd (wy.heap.size + 1) wz ((HC.out.keep (hkx.trans (hky.trans hkz))).mono (by omega)) hd).mono ?_
  rintro en w5 ⟨rfl, hk5⟩
  have HK5 := Lib.hid (HK1.out.trans (hkx.trans (hky.trans (hkz.trans hk5))))
  have hdt : decide (knownCmd = knownCmd) = true := by simp
  rw [hdt]
  clear hk5 hkz hky hkx hd r1 r2 hwx hdt hsx hsy HC HK1
  go_wp2_with fail
  refine (Errs_any 2 (by decide) (by decide) w5).mono ?_
  rintro en w6 ⟨rfl, hk6⟩
  have HK6 := Lib.hid (HK5.out.trans hk6)
  have hs : (errsB 2).toList = [69, 82, 82, 32, 50] := by rw [known_errs, ByteArray.toList_eq]
  clear hk6
  go_wp2
  go_ret
  exact ⟨rfl, HK6.out⟩
end Go.Proofs.YtamjhnibenonjaaGreatDoor
