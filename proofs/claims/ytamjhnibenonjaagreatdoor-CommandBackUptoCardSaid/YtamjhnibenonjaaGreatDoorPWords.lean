/- command.words: a command's arguments, as they would be. -/
import Derived.Test.YtamjhnibenonjaaGreatDoorPAdd2
import Derived.Deep.Cut
import Derived.Deep.CutRange
import Derived.Deep.CutBlock
namespace Go.Proofs.YtamjhnibenonjaaGreatDoor
set_option linter.unusedVariables false
set_option linter.unusedSimpArgs false
open Go Go.RowKit
open Go.ChangeMaps (setBlock)
theorem Join_any (v : Value) (l : List ByteArray) (B : Nat) (w : World) (h : StrsIn w B v l) (hB : B ≤ w.heap.size) (hl : longL l ≤ 4000000) :
    Calls Tryz.prog 36 #[v, .string ⟨#[47]⟩] w fun e w' => e = .returned (.string (joinB 47 l)) ∧ Keep (fun _ => False) w w' := by
  obtain ⟨a, c, rfl, hlc, hcm, hel⟩ := h
  by_cases hne : l = []
  · subst hne
    exact (Tryz.strings_Join_none a c ⟨#[47]⟩ w).mono fun e w' ⟨h1, h2⟩ => ⟨h1, h2 ▸ Keep.refl _ _⟩
  · obtain ⟨bk, o, rfl, hb, hx⟩ := hel hne
    have hj := join_length 47 l
    have hn := longL_length l
    exact (Tryz.strings_Join bk o c l ⟨#[47]⟩ w hx (by omega) (by omega) hlc (by show (Lib.join _ [47]).length ≤ _; omega)).mono fun e w' ⟨h1, h2⟩ => ⟨h1, Keep.of_below h2⟩
set_option maxHeartbeats 40000000 in
set_option maxRecDepth 100000 in
theorem words_any (v : Value) (c : Cmd) (w : World) (h : CmdIn w w.heap.size v c) (hs : Small c) :
    Calls Tryz.prog 21 #[v] w fun e w' => ∃ rv, e = .returned rv ∧ w'.ownsRow w.heap.size 9 1 rv (wordsF c).length ((wordsF c).map .string) ∧ Keep (fun _ => False) w w' := by
  obtain ⟨pv, wv, rfl, hp, hw⟩ := h.ex
  simp only [cmdCells]
  have hsn := hs.n
  have HS := Lib.hid hs
  have HP := Lib.hid hp.strs
  have HW := Lib.hid hw
  clear hs hw
  obtain ⟨pa, pc, rfl, -⟩ := hp
  obtain ⟨wa, wcap, rfl, -⟩ := HW.out
  clear h
  go_enter Tryz.func21, Tryz.ntmps21
  go_wp2_with fail
  refine (Print_any c.n hsn.1 hsn.2 _).mono ?_
  rintro e w1 ⟨rfl, k1⟩
  go_wp2_with fail
  refine (forms_any _).mono ?_
  rintro e w2 ⟨rfl, hf2, k2⟩
  obtain ⟨es, hb2, hes⟩ := hf2.rowsOf
  have hrg := run_range_map (P := Tryz.prog) w2 50 9 48 w1.heap.size es 15 Tryz.underlying50 hb2
  go_wp2_with fail
  have k3 : Keep (fun _ => False) w1 (w2.alloc (.mapIter (some w1.heap.size) 15 #[] 15)) := k2.alloc _
  have hcb1 : w1.heap[w.heap.size]? = some (.cells #[.int .i64 c.kind, .string c.name, .int .i64 c.pol.kind, .int .i64 c.pol.limit, .int .i64 c.pol.period, .int .i64 c.pol.burst, .int .i64 c.pol.cap, .bool c.pol.opn, .slice pa c.path.length pc, .slice wa c.wishes.length wcap, .int .i64 c.n] 31 (0, 0)) := k1.get (block_new _ _) id
  have hcb3 := k3.get hcb1 id
  have kw : Keep (fun _ => False) w (w2.alloc (.mapIter (some w1.heap.size) 15 #[] 15)) := ((Keep.refl _ w).alloc _).trans (k1.trans k3)
  have hlt1 := lt_of_block hcb1
  have hlt2 := lt_of_block hb2
  have hb3 : (w2.alloc (.mapIter (some w1.heap.size) 15 #[] 15)).heap[w1.heap.size]? = some (.map es 15) := block_alloc hb2 _
  have hi3 := block_new w2 (.mapIter (some w1.heap.size) 15 #[] 15)
  have hsz3 : w2.heap.size < (w2.alloc (.mapIter (some w1.heap.size) 15 #[] 15)).heap.size := by simp
  obtain ⟨b, hb⟩ : ∃ b, b = w1.heap.size := ⟨_, rfl⟩
  obtain ⟨it, hit⟩ : ∃ b, b = w2.heap.size := ⟨_, rfl⟩
  obtain ⟨cb, hcbe⟩ : ∃ b, b = w.heap.size := ⟨_, rfl⟩
  have hord : cb < b ∧ b < it := ⟨by omega, by omega⟩
  have HBE := Lib.hid hb
  have HIE := Lib.hid hit
  have HCE := Lib.hid hcbe
  rw [← hb] at hb3 hi3 hcb3 kw hsz3 ⊢
  rw [← hit] at hi3 hsz3 ⊢
  rw [← hcbe] at hcb3 ⊢
  clear hrg k1 k2 k3 hf2 hb2 hcb1 hlt1 hlt2 hb hit hcbe
  generalize w2.alloc (.mapIter (some b) 15 #[] 15) = W0 at *
  have HKW := Lib.hid kw
  clear kw
  go_loopw [3, 5, 6] (fun nm x y wr => ∃ s, nm = .string s ∧ ∃ seen, NameInv c.kind seen s ∧ wr.heap[it]? = some (.mapIter (some b) 15 seen 15) ∧ Keep (fun k => k = it) W0 wr) (fun _ _ _ wr => (leftOf es (wr.iterSeen it)).size)
  case atStart => exact ⟨_, rfl, #[], NameInv.start _, hi3, Keep.refl _ _⟩
  case round =>
    obtain ⟨s, rfl, seen, hinv, hir, hkr⟩ := hrel
    have hbr := hkr.get hb3 (by omega)
    have hcr := hkr.get hcb3 (by omega)
    rcases run_next_at (P := Tryz.prog) wr 0 it b 15 15 seen es 15 hir hbr hes.born_lt (Nat.le_refl _) with ⟨h0, hrun⟩ | ⟨e, he, w3, hw3, hrun⟩
    · have hnx : ∀ ty, (Instr.next (.pointer (some ⟨it, 0, none⟩)) false ty).run Tryz.prog wr = .ok (.tuple #[.bool false]) wr := fun _ => hrun
      have hname := hinv.done hes (all_seen es seen h0)
      subst hname
      clear hinv
      have hkw : Keep (fun _ => False) w wr := HKW.out.step hkr (fun k hk e => by have := HCE.out; omega)
      have hJ := Join_any _ _ _ _ (HP.out.keep hkw) hkw.size (by have := HS.out.path; omega)
      have hcc := cell_of_block hcr
      go_wp2_with fail
      refine hJ.mono ?_
      rintro e w4 ⟨rfl, k4⟩
      have hc4 := k4.get hcr id
      have HK4 := Lib.hid (hkw.trans k4)
      have hcc := cell_of_block hc4
      clear hJ hrun hnx hir hkr hbr hcr h0 hi3 hb3 hes hcb3 k4 hkw HKW
      go_upto_if 40 with fail
      go_cut [7] from 34 to 40 (fun p wx => p = .string (pathB c.path) ∧ wx = w4)
      case first =>
        by_cases hpe : c.path = []
        · have hz : ((c.path.length : Int) == 0) = true := by simp [hpe]
          go_wp2
          go_meet
          case rel => exact ⟨by rw [pathB, if_pos hpe]; rfl, rfl⟩
        · have hz : ((c.path.length : Int) == 0) = false := by
            have : c.path.length ≠ 0 := fun e => hpe (List.eq_nil_of_length_eq_zero e)
            simp; omega
          go_wp2
          go_meet
          case rel => exact ⟨by rw [pathB, if_neg hpe], rfl⟩
      case rest =>
        obtain ⟨rfl, rfl⟩ := hcut
        have ho0 := OutIn.start wc
        have hO : Out w cb c (.slice pa c.path.length pc) (.slice wa c.wishes.length wcap) wc.heap.size [] (wc.alloc (.cells #[.slice none 0 0] 22)) :=
          ⟨HK4.out.alloc _, block_alloc hc4 _, ho0, lt_of_block hc4, HK4.out.size⟩
        have hsz5 : wc.heap.size < (wc.alloc (.cells #[.slice none 0 0] 22)).heap.size := by simp
        have HO := Lib.hid hO
        clear hO ho0 hcc hc4 HK4
        go_wp2_with fail
        have hsz6 : wc.heap.size + 1 = (wc.alloc (.cells #[.slice none 0 0] 22)).heap.size := by simp
        rw [hsz6]
        generalize wc.alloc (.cells #[.slice none 0 0] 22) = W5 at *
        obtain ⟨ob, hob⟩ : ∃ ob, ob = wc.heap.size := ⟨_, rfl⟩
        rw [← hob] at HO hsz5 ⊢
        clear hsz6 hob
        refine (add1 ob [] (nameOf c.kind) W5 HO.out.out (by simp)).mono ?_
        rintro e w6 ⟨rfl, ho6, k6⟩
        have HO6 := Lib.hid (HO.out.later ho6 k6)
        clear HO ho6 k6
        rw [List.nil_append] at HO6
        have hc6 := cell_of_block HO6.out.box
        simp only [cmdCells] at hc6
        go_upto_block 2 with fail
        go_cut [0, 10, 11, 13, 15] from 48 to 140 (fun _ _ _ _ _ wx => c.kind ≠ 7 ∧ Out w cb c (.slice pa c.path.length pc) (.slice wa c.wishes.length wcap) ob (nameOf c.kind :: headF c) wx)
        case first =>
          have hkk : c.kind = 2 ∨ c.kind = 3 ∨ c.kind = 10 ∨ c.kind = 12 ∨ c.kind = 14 ∨ c.kind = 9 ∨ c.kind = 11 ∨ c.kind = 13 ∨ c.kind = 6 ∨ c.kind = 4 ∨ c.kind = 5 ∨ c.kind = 7 ∨ c.kind = 8 ∨ (c.kind ≠ 2 ∧ c.kind ≠ 3 ∧ c.kind ≠ 10 ∧ c.kind ≠ 12 ∧ c.kind ≠ 14 ∧ c.kind ≠ 9 ∧ c.kind ≠ 11 ∧ c.kind ≠ 13 ∧ c.kind ≠ 6 ∧ c.kind ≠ 4 ∧ c.kind ≠ 5 ∧ c.kind ≠ 7 ∧ c.kind ≠ 8) := by omega
          rcases hkk with hk | hk | hk | hk | hk | hk | hk | hk | hk | hk | hk | hk | hk | hk
          · have e2 : (c.kind == 2) = true := by rw [hk]; rfl
            have e3 : (c.kind == 3) = false := by rw [hk]; rfl
            have e10 : (c.kind == 10) = false := by rw [hk]; rfl
            have e12 : (c.kind == 12) = false := by rw [hk]; rfl
            have e14 : (c.kind == 14) = false := by rw [hk]; rfl
            have e9 : (c.kind == 9) = false := by rw [hk]; rfl
            have e11 : (c.kind == 11) = false := by rw [hk]; rfl
            have e13 : (c.kind == 13) = false := by rw [hk]; rfl
            have e6 : (c.kind == 6) = false := by rw [hk]; rfl
            have e4 : (c.kind == 4) = false := by rw [hk]; rfl
            have e5 : (c.kind == 5) = false := by rw [hk]; rfl
            have e7 : (c.kind == 7) = false := by rw [hk]; rfl
            have e8 : (c.kind == 8) = false := by rw [hk]; rfl
            have hp : headF c = c.name :: polWords c.pol := by unfold headF; rw [if_pos hk]
            have hn7 : c.kind ≠ 7 := by omega
            have HH := Lib.hid hp
            clear hp hk
            have hcc6 := cell_of_block1 HO6.out.box
            simp only [cmdCells] at hcc6
            have hpb := block_new w6 (.cells #[.int .i64 c.pol.kind, .int .i64 c.pol.limit, .int .i64 c.pol.period, .int .i64 c.pol.burst, .int .i64 c.pol.cap, .bool c.pol.opn] 28)
            have HPB := Lib.hid hpb
            have HO6a := Lib.hid (HO6.out.stay ((Keep.refl _ w6).alloc (.cells #[.int .i64 c.pol.kind, .int .i64 c.pol.limit, .int .i64 c.pol.period, .int .i64 c.pol.burst, .int .i64 c.pol.cap, .bool c.pol.opn] 28)))
            have hpbo : w6.heap.size ≠ ob := by have := lt_of_block (Classical.choose_spec HO6.out.out.ex).1; omega
            clear hpb
            go_wp2_with fail
            have HC1 := add1 ob [nameOf c.kind] c.name _ HO6a.out.out (by simp)
            rw [World.size_alloc] at HC1
            refine HC1.mono ?_
            rintro e w7 ⟨rfl, ho7, k7⟩
            have HO7 := Lib.hid (HO6a.out.later ho7 k7)
            have hpb7 := AddS.keep k7 HPB.out hpbo (by decide)
            have hcp7 := cell_of_block hpb7
            rw [List.singleton_append] at HO7
            clear HC1 ho7 k7 hpb7 HO6a HPB hcc6
            obtain ⟨pb, hpbe⟩ : ∃ pb, pb = w6.heap.size := ⟨_, rfl⟩
            rw [← hpbe] at hcp7 ⊢
            clear hpbo hpbe
            cases hopn : c.pol.opn
            · rw [hopn] at hcp7
              have hix0 : ∀ W, (Instr.index 65 (.agg #[.int .i64 c.pol.kind, .int .i64 c.pol.limit, .int .i64 c.pol.period, .int .i64 c.pol.burst, .int .i64 c.pol.cap, .int .i64 0]) (.int .i64 0)).run Tryz.prog W = .ok (.int .i64 c.pol.kind) W := fun _ => by kernel_rfl
              have hix1 : ∀ W, (Instr.index 65 (.agg #[.int .i64 c.pol.kind, .int .i64 c.pol.limit, .int .i64 c.pol.period, .int .i64 c.pol.burst, .int .i64 c.pol.cap, .int .i64 0]) (.int .i64 1)).run Tryz.prog W = .ok (.int .i64 c.pol.limit) W := fun _ => by kernel_rfl
              have hix2 : ∀ W, (Instr.index 65 (.agg #[.int .i64 c.pol.kind, .int .i64 c.pol.limit, .int .i64 c.pol.period, .int .i64 c.pol.burst, .int .i64 c.pol.cap, .int .i64 0]) (.int .i64 2)).run Tryz.prog W = .ok (.int .i64 c.pol.period) W := fun _ => by kernel_rfl
              have hix3 : ∀ W, (Instr.index 65 (.agg #[.int .i64 c.pol.kind, .int .i64 c.pol.limit, .int .i64 c.pol.period, .int .i64 c.pol.burst, .int .i64 c.pol.cap, .int .i64 0]) (.int .i64 3)).run Tryz.prog W = .ok (.int .i64 c.pol.burst) W := fun _ => by kernel_rfl
              have hix4 : ∀ W, (Instr.index 65 (.agg #[.int .i64 c.pol.kind, .int .i64 c.pol.limit, .int .i64 c.pol.period, .int .i64 c.pol.burst, .int .i64 c.pol.cap, .int .i64 0]) (.int .i64 4)).run Tryz.prog W = .ok (.int .i64 c.pol.cap) W := fun _ => by kernel_rfl
              have hix5 : ∀ W, (Instr.index 65 (.agg #[.int .i64 c.pol.kind, .int .i64 c.pol.limit, .int .i64 c.pol.period, .int .i64 c.pol.burst, .int .i64 c.pol.cap, .int .i64 0]) (.int .i64 5)).run Tryz.prog W = .ok (.int .i64 0) W := fun _ => by kernel_rfl
              go_wp2_with fail
              go_loopw [13, 71] (fun x i wr => ∃ k : Nat, k ≤ 6 ∧ i = .int .i64 k ∧ Hid (Out w cb c (.slice pa c.path.length pc) (.slice wa c.wishes.length wcap) ob ([nameOf c.kind, c.name] ++ (polWords c.pol).take k) wr)) (fun _ i _ => 6 - (intOf i).toNat)
              case atStart => exact ⟨0, by omega, rfl, by simpa using HO7⟩
              case round =>
                obtain ⟨k, hk, rfl, HOk⟩ := hrel
                have hk6 : k = 0 ∨ k = 1 ∨ k = 2 ∨ k = 3 ∨ k = 4 ∨ k = 5 ∨ k = 6 := by omega
                rcases hk6 with rfl | rfl | rfl | rfl | rfl | rfl | rfl
                · go_wp2_with fail
                  refine (Print_any (c.pol.kind) HS.out.kind.1 HS.out.kind.2 _).mono ?_
                  rintro e w8 ⟨rfl, k8⟩
                  have HO8 := Lib.hid (HOk.out.stay k8)
                  have HC := Lib.hid (add1 ob _ (itoaB (c.pol.kind)) w8 HO8.out.out (by simp [polWords]))
                  clear k8
                  go_wp2_with fail
                  refine HC.out.mono ?_
                  rintro e w9 ⟨rfl, ho9, k9⟩
                  have HO9 := Lib.hid (HO8.out.later ho9 k9)
                  clear ho9 k9
                  go_wp2_with fail
                  go_roundw
                  case rel => exact ⟨1, by omega, by go_num, by simpa [polWords, hopn] using HO9⟩
                  case measure => simp [intOf]
                · go_wp2_with fail
                  refine (Print_any (c.pol.limit) HS.out.limit.1 HS.out.limit.2 _).mono ?_
                  rintro e w8 ⟨rfl, k8⟩
                  have HO8 := Lib.hid (HOk.out.stay k8)
                  have HC := Lib.hid (add1 ob _ (itoaB (c.pol.limit)) w8 HO8.out.out (by simp [polWords]))
                  clear k8
                  go_wp2_with fail
                  refine HC.out.mono ?_
                  rintro e w9 ⟨rfl, ho9, k9⟩
                  have HO9 := Lib.hid (HO8.out.later ho9 k9)
                  clear ho9 k9
                  go_wp2_with fail
                  go_roundw
                  case rel => exact ⟨2, by omega, by go_num, by simpa [polWords, hopn] using HO9⟩
                  case measure => simp [intOf]
                · go_wp2_with fail
                  refine (Print_any (c.pol.period) HS.out.period.1 HS.out.period.2 _).mono ?_
                  rintro e w8 ⟨rfl, k8⟩
                  have HO8 := Lib.hid (HOk.out.stay k8)
                  have HC := Lib.hid (add1 ob _ (itoaB (c.pol.period)) w8 HO8.out.out (by simp [polWords]))
                  clear k8
                  go_wp2_with fail
                  refine HC.out.mono ?_
                  rintro e w9 ⟨rfl, ho9, k9⟩
                  have HO9 := Lib.hid (HO8.out.later ho9 k9)
                  clear ho9 k9
                  go_wp2_with fail
                  go_roundw
                  case rel => exact ⟨3, by omega, by go_num, by simpa [polWords, hopn] using HO9⟩
                  case measure => simp [intOf]
                · go_wp2_with fail
                  refine (Print_any (c.pol.burst) HS.out.burst.1 HS.out.burst.2 _).mono ?_
                  rintro e w8 ⟨rfl, k8⟩
                  have HO8 := Lib.hid (HOk.out.stay k8)
                  have HC := Lib.hid (add1 ob _ (itoaB (c.pol.burst)) w8 HO8.out.out (by simp [polWords]))
                  clear k8
                  go_wp2_with fail
                  refine HC.out.mono ?_
                  rintro e w9 ⟨rfl, ho9, k9⟩
                  have HO9 := Lib.hid (HO8.out.later ho9 k9)
                  clear ho9 k9
                  go_wp2_with fail
                  go_roundw
                  case rel => exact ⟨4, by omega, by go_num, by simpa [polWords, hopn] using HO9⟩
                  case measure => simp [intOf]
                · go_wp2_with fail
                  refine (Print_any (c.pol.cap) HS.out.cap.1 HS.out.cap.2 _).mono ?_
                  rintro e w8 ⟨rfl, k8⟩
                  have HO8 := Lib.hid (HOk.out.stay k8)
                  have HC := Lib.hid (add1 ob _ (itoaB (c.pol.cap)) w8 HO8.out.out (by simp [polWords]))
                  clear k8
                  go_wp2_with fail
                  refine HC.out.mono ?_
                  rintro e w9 ⟨rfl, ho9, k9⟩
                  have HO9 := Lib.hid (HO8.out.later ho9 k9)
                  clear ho9 k9
                  go_wp2_with fail
                  go_roundw
                  case rel => exact ⟨5, by omega, by go_num, by simpa [polWords, hopn] using HO9⟩
                  case measure => simp [intOf]
                · go_wp2_with fail
                  refine (Print_any (0) (by decide) (by decide) _).mono ?_
                  rintro e w8 ⟨rfl, k8⟩
                  have HO8 := Lib.hid (HOk.out.stay k8)
                  have HC := Lib.hid (add1 ob _ (itoaB (0)) w8 HO8.out.out (by simp [polWords]))
                  clear k8
                  go_wp2_with fail
                  refine HC.out.mono ?_
                  rintro e w9 ⟨rfl, ho9, k9⟩
                  have HO9 := Lib.hid (HO8.out.later ho9 k9)
                  clear ho9 k9
                  go_wp2_with fail
                  go_roundw
                  case rel => exact ⟨6, by omega, by go_num, by simpa [polWords, hopn] using HO9⟩
                  case measure => simp [intOf]
                · go_wp2_with fail
                  go_meet
                  case rel => exact ⟨hn7, by rw [HH.out]; simpa [polWords] using HOk.out⟩
            · rw [hopn] at hcp7
              have hix0 : ∀ W, (Instr.index 65 (.agg #[.int .i64 c.pol.kind, .int .i64 c.pol.limit, .int .i64 c.pol.period, .int .i64 c.pol.burst, .int .i64 c.pol.cap, .int .i64 1]) (.int .i64 0)).run Tryz.prog W = .ok (.int .i64 c.pol.kind) W := fun _ => by kernel_rfl
              have hix1 : ∀ W, (Instr.index 65 (.agg #[.int .i64 c.pol.kind, .int .i64 c.pol.limit, .int .i64 c.pol.period, .int .i64 c.pol.burst, .int .i64 c.pol.cap, .int .i64 1]) (.int .i64 1)).run Tryz.prog W = .ok (.int .i64 c.pol.limit) W := fun _ => by kernel_rfl
              have hix2 : ∀ W, (Instr.index 65 (.agg #[.int .i64 c.pol.kind, .int .i64 c.pol.limit, .int .i64 c.pol.period, .int .i64 c.pol.burst, .int .i64 c.pol.cap, .int .i64 1]) (.int .i64 2)).run Tryz.prog W = .ok (.int .i64 c.pol.period) W := fun _ => by kernel_rfl
              have hix3 : ∀ W, (Instr.index 65 (.agg #[.int .i64 c.pol.kind, .int .i64 c.pol.limit, .int .i64 c.pol.period, .int .i64 c.pol.burst, .int .i64 c.pol.cap, .int .i64 1]) (.int .i64 3)).run Tryz.prog W = .ok (.int .i64 c.pol.burst) W := fun _ => by kernel_rfl
              have hix4 : ∀ W, (Instr.index 65 (.agg #[.int .i64 c.pol.kind, .int .i64 c.pol.limit, .int .i64 c.pol.period, .int .i64 c.pol.burst, .int .i64 c.pol.cap, .int .i64 1]) (.int .i64 4)).run Tryz.prog W = .ok (.int .i64 c.pol.cap) W := fun _ => by kernel_rfl
              have hix5 : ∀ W, (Instr.index 65 (.agg #[.int .i64 c.pol.kind, .int .i64 c.pol.limit, .int .i64 c.pol.period, .int .i64 c.pol.burst, .int .i64 c.pol.cap, .int .i64 1]) (.int .i64 5)).run Tryz.prog W = .ok (.int .i64 1) W := fun _ => by kernel_rfl
              go_wp2_with fail
              go_loopw [13, 71] (fun x i wr => ∃ k : Nat, k ≤ 6 ∧ i = .int .i64 k ∧ Hid (Out w cb c (.slice pa c.path.length pc) (.slice wa c.wishes.length wcap) ob ([nameOf c.kind, c.name] ++ (polWords c.pol).take k) wr)) (fun _ i _ => 6 - (intOf i).toNat)
              case atStart => exact ⟨0, by omega, rfl, by simpa using HO7⟩
              case round =>
                obtain ⟨k, hk, rfl, HOk⟩ := hrel
                have hk6 : k = 0 ∨ k = 1 ∨ k = 2 ∨ k = 3 ∨ k = 4 ∨ k = 5 ∨ k = 6 := by omega
                rcases hk6 with rfl | rfl | rfl | rfl | rfl | rfl | rfl
                · go_wp2_with fail
                  refine (Print_any (c.pol.kind) HS.out.kind.1 HS.out.kind.2 _).mono ?_
                  rintro e w8 ⟨rfl, k8⟩
                  have HO8 := Lib.hid (HOk.out.stay k8)
                  have HC := Lib.hid (add1 ob _ (itoaB (c.pol.kind)) w8 HO8.out.out (by simp [polWords]))
                  clear k8
                  go_wp2_with fail
                  refine HC.out.mono ?_
                  rintro e w9 ⟨rfl, ho9, k9⟩
                  have HO9 := Lib.hid (HO8.out.later ho9 k9)
                  clear ho9 k9
                  go_wp2_with fail
                  go_roundw
                  case rel => exact ⟨1, by omega, by go_num, by simpa [polWords, hopn] using HO9⟩
                  case measure => simp [intOf]
                · go_wp2_with fail
                  refine (Print_any (c.pol.limit) HS.out.limit.1 HS.out.limit.2 _).mono ?_
                  rintro e w8 ⟨rfl, k8⟩
                  have HO8 := Lib.hid (HOk.out.stay k8)
                  have HC := Lib.hid (add1 ob _ (itoaB (c.pol.limit)) w8 HO8.out.out (by simp [polWords]))
                  clear k8
                  go_wp2_with fail
                  refine HC.out.mono ?_
                  rintro e w9 ⟨rfl, ho9, k9⟩
                  have HO9 := Lib.hid (HO8.out.later ho9 k9)
                  clear ho9 k9
                  go_wp2_with fail
                  go_roundw
                  case rel => exact ⟨2, by omega, by go_num, by simpa [polWords, hopn] using HO9⟩
                  case measure => simp [intOf]
                · go_wp2_with fail
                  refine (Print_any (c.pol.period) HS.out.period.1 HS.out.period.2 _).mono ?_
                  rintro e w8 ⟨rfl, k8⟩
                  have HO8 := Lib.hid (HOk.out.stay k8)
                  have HC := Lib.hid (add1 ob _ (itoaB (c.pol.period)) w8 HO8.out.out (by simp [polWords]))
                  clear k8
                  go_wp2_with fail
                  refine HC.out.mono ?_
                  rintro e w9 ⟨rfl, ho9, k9⟩
                  have HO9 := Lib.hid (HO8.out.later ho9 k9)
                  clear ho9 k9
                  go_wp2_with fail
                  go_roundw
                  case rel => exact ⟨3, by omega, by go_num, by simpa [polWords, hopn] using HO9⟩
                  case measure => simp [intOf]
                · go_wp2_with fail
                  refine (Print_any (c.pol.burst) HS.out.burst.1 HS.out.burst.2 _).mono ?_
                  rintro e w8 ⟨rfl, k8⟩
                  have HO8 := Lib.hid (HOk.out.stay k8)
                  have HC := Lib.hid (add1 ob _ (itoaB (c.pol.burst)) w8 HO8.out.out (by simp [polWords]))
                  clear k8
                  go_wp2_with fail
                  refine HC.out.mono ?_
                  rintro e w9 ⟨rfl, ho9, k9⟩
                  have HO9 := Lib.hid (HO8.out.later ho9 k9)
                  clear ho9 k9
                  go_wp2_with fail
                  go_roundw
                  case rel => exact ⟨4, by omega, by go_num, by simpa [polWords, hopn] using HO9⟩
                  case measure => simp [intOf]
                · go_wp2_with fail
                  refine (Print_any (c.pol.cap) HS.out.cap.1 HS.out.cap.2 _).mono ?_
                  rintro e w8 ⟨rfl, k8⟩
                  have HO8 := Lib.hid (HOk.out.stay k8)
                  have HC := Lib.hid (add1 ob _ (itoaB (c.pol.cap)) w8 HO8.out.out (by simp [polWords]))
                  clear k8
                  go_wp2_with fail
                  refine HC.out.mono ?_
                  rintro e w9 ⟨rfl, ho9, k9⟩
                  have HO9 := Lib.hid (HO8.out.later ho9 k9)
                  clear ho9 k9
                  go_wp2_with fail
                  go_roundw
                  case rel => exact ⟨5, by omega, by go_num, by simpa [polWords, hopn] using HO9⟩
                  case measure => simp [intOf]
                · go_wp2_with fail
                  refine (Print_any (1) (by decide) (by decide) _).mono ?_
                  rintro e w8 ⟨rfl, k8⟩
                  have HO8 := Lib.hid (HOk.out.stay k8)
                  have HC := Lib.hid (add1 ob _ (itoaB (1)) w8 HO8.out.out (by simp [polWords]))
                  clear k8
                  go_wp2_with fail
                  refine HC.out.mono ?_
                  rintro e w9 ⟨rfl, ho9, k9⟩
                  have HO9 := Lib.hid (HO8.out.later ho9 k9)
                  clear ho9 k9
                  go_wp2_with fail
                  go_roundw
                  case rel => exact ⟨6, by omega, by go_num, by simpa [polWords, hopn] using HO9⟩
                  case measure => simp [intOf]
                · go_wp2_with fail
                  go_meet
                  case rel => exact ⟨hn7, by rw [HH.out]; simpa [polWords] using HOk.out⟩
          · have e2 : (c.kind == 2) = false := by rw [hk]; rfl
            have e3 : (c.kind == 3) = true := by rw [hk]; rfl
            have e10 : (c.kind == 10) = false := by rw [hk]; rfl
            have e12 : (c.kind == 12) = false := by rw [hk]; rfl
            have e14 : (c.kind == 14) = false := by rw [hk]; rfl
            have e9 : (c.kind == 9) = false := by rw [hk]; rfl
            have e11 : (c.kind == 11) = false := by rw [hk]; rfl
            have e13 : (c.kind == 13) = false := by rw [hk]; rfl
            have e6 : (c.kind == 6) = false := by rw [hk]; rfl
            have e4 : (c.kind == 4) = false := by rw [hk]; rfl
            have e5 : (c.kind == 5) = false := by rw [hk]; rfl
            have e7 : (c.kind == 7) = false := by rw [hk]; rfl
            have e8 : (c.kind == 8) = false := by rw [hk]; rfl
            have hh : headF c = [c.name] := by unfold headF; rw [hk]; rfl
            have HH := Lib.hid hh
            clear hh hk
            go_wp2_with fail
            refine (add1 ob [nameOf c.kind] c.name w6 HO6.out.out (by simp)).mono ?_
            rintro e w7 ⟨rfl, ho7, k7⟩
            have HO7 := Lib.hid (HO6.out.later ho7 k7)
            clear ho7 k7
            go_wp2_with fail
            go_meet
            case rel => exact ⟨(by intro e; rw [e] at e7; cases e7), (by rw [HH.out]; exact HO7.out)⟩
          · have e2 : (c.kind == 2) = false := by rw [hk]; rfl
            have e3 : (c.kind == 3) = false := by rw [hk]; rfl
            have e10 : (c.kind == 10) = true := by rw [hk]; rfl
            have e12 : (c.kind == 12) = false := by rw [hk]; rfl
            have e14 : (c.kind == 14) = false := by rw [hk]; rfl
            have e9 : (c.kind == 9) = false := by rw [hk]; rfl
            have e11 : (c.kind == 11) = false := by rw [hk]; rfl
            have e13 : (c.kind == 13) = false := by rw [hk]; rfl
            have e6 : (c.kind == 6) = false := by rw [hk]; rfl
            have e4 : (c.kind == 4) = false := by rw [hk]; rfl
            have e5 : (c.kind == 5) = false := by rw [hk]; rfl
            have e7 : (c.kind == 7) = false := by rw [hk]; rfl
            have e8 : (c.kind == 8) = false := by rw [hk]; rfl
            have hh : headF c = [c.name] := by unfold headF; rw [hk]; rfl
            have HH := Lib.hid hh
            clear hh hk
            go_wp2_with fail
            refine (add1 ob [nameOf c.kind] c.name w6 HO6.out.out (by simp)).mono ?_
            rintro e w7 ⟨rfl, ho7, k7⟩
            have HO7 := Lib.hid (HO6.out.later ho7 k7)
            clear ho7 k7
            go_wp2_with fail
            go_meet
            case rel => exact ⟨(by intro e; rw [e] at e7; cases e7), (by rw [HH.out]; exact HO7.out)⟩
          · have e2 : (c.kind == 2) = false := by rw [hk]; rfl
            have e3 : (c.kind == 3) = false := by rw [hk]; rfl
            have e10 : (c.kind == 10) = false := by rw [hk]; rfl
            have e12 : (c.kind == 12) = true := by rw [hk]; rfl
            have e14 : (c.kind == 14) = false := by rw [hk]; rfl
            have e9 : (c.kind == 9) = false := by rw [hk]; rfl
            have e11 : (c.kind == 11) = false := by rw [hk]; rfl
            have e13 : (c.kind == 13) = false := by rw [hk]; rfl
            have e6 : (c.kind == 6) = false := by rw [hk]; rfl
            have e4 : (c.kind == 4) = false := by rw [hk]; rfl
            have e5 : (c.kind == 5) = false := by rw [hk]; rfl
            have e7 : (c.kind == 7) = false := by rw [hk]; rfl
            have e8 : (c.kind == 8) = false := by rw [hk]; rfl
            have hh : headF c = [c.name] := by unfold headF; rw [hk]; rfl
            have HH := Lib.hid hh
            clear hh hk
            go_wp2_with fail
            refine (add1 ob [nameOf c.kind] c.name w6 HO6.out.out (by simp)).mono ?_
            rintro e w7 ⟨rfl, ho7, k7⟩
            have HO7 := Lib.hid (HO6.out.later ho7 k7)
            clear ho7 k7
            go_wp2_with fail
            go_meet
            case rel => exact ⟨(by intro e; rw [e] at e7; cases e7), (by rw [HH.out]; exact HO7.out)⟩
          · have e2 : (c.kind == 2) = false := by rw [hk]; rfl
            have e3 : (c.kind == 3) = false := by rw [hk]; rfl
            have e10 : (c.kind == 10) = false := by rw [hk]; rfl
            have e12 : (c.kind == 12) = false := by rw [hk]; rfl
            have e14 : (c.kind == 14) = true := by rw [hk]; rfl
            have e9 : (c.kind == 9) = false := by rw [hk]; rfl
            have e11 : (c.kind == 11) = false := by rw [hk]; rfl
            have e13 : (c.kind == 13) = false := by rw [hk]; rfl
            have e6 : (c.kind == 6) = false := by rw [hk]; rfl
            have e4 : (c.kind == 4) = false := by rw [hk]; rfl
            have e5 : (c.kind == 5) = false := by rw [hk]; rfl
            have e7 : (c.kind == 7) = false := by rw [hk]; rfl
            have e8 : (c.kind == 8) = false := by rw [hk]; rfl
            have hh : headF c = [c.name] := by unfold headF; rw [hk]; rfl
            have HH := Lib.hid hh
            clear hh hk
            go_wp2_with fail
            refine (add1 ob [nameOf c.kind] c.name w6 HO6.out.out (by simp)).mono ?_
            rintro e w7 ⟨rfl, ho7, k7⟩
            have HO7 := Lib.hid (HO6.out.later ho7 k7)
            clear ho7 k7
            go_wp2_with fail
            go_meet
            case rel => exact ⟨(by intro e; rw [e] at e7; cases e7), (by rw [HH.out]; exact HO7.out)⟩
          · have e2 : (c.kind == 2) = false := by rw [hk]; rfl
            have e3 : (c.kind == 3) = false := by rw [hk]; rfl
            have e10 : (c.kind == 10) = false := by rw [hk]; rfl
            have e12 : (c.kind == 12) = false := by rw [hk]; rfl
            have e14 : (c.kind == 14) = false := by rw [hk]; rfl
            have e9 : (c.kind == 9) = true := by rw [hk]; rfl
            have e11 : (c.kind == 11) = false := by rw [hk]; rfl
            have e13 : (c.kind == 13) = false := by rw [hk]; rfl
            have e6 : (c.kind == 6) = false := by rw [hk]; rfl
            have e4 : (c.kind == 4) = false := by rw [hk]; rfl
            have e5 : (c.kind == 5) = false := by rw [hk]; rfl
            have e7 : (c.kind == 7) = false := by rw [hk]; rfl
            have e8 : (c.kind == 8) = false := by rw [hk]; rfl
            have hh : headF c = [c.name, itoaB c.n] := by unfold headF; rw [hk]; rfl
            have HH := Lib.hid hh
            clear hh hk
            go_wp2_with fail
            refine (add2 ob [nameOf c.kind] c.name (itoaB c.n) w6 HO6.out.out (by simp)).mono ?_
            rintro e w7 ⟨rfl, ho7, k7⟩
            have HO7 := Lib.hid (HO6.out.later ho7 k7)
            clear ho7 k7
            go_wp2_with fail
            go_meet
            case rel => exact ⟨(by intro e; rw [e] at e7; cases e7), (by rw [HH.out]; exact HO7.out)⟩
          · have e2 : (c.kind == 2) = false := by rw [hk]; rfl
            have e3 : (c.kind == 3) = false := by rw [hk]; rfl
            have e10 : (c.kind == 10) = false := by rw [hk]; rfl
            have e12 : (c.kind == 12) = false := by rw [hk]; rfl
            have e14 : (c.kind == 14) = false := by rw [hk]; rfl
            have e9 : (c.kind == 9) = false := by rw [hk]; rfl
            have e11 : (c.kind == 11) = true := by rw [hk]; rfl
            have e13 : (c.kind == 13) = false := by rw [hk]; rfl
            have e6 : (c.kind == 6) = false := by rw [hk]; rfl
            have e4 : (c.kind == 4) = false := by rw [hk]; rfl
            have e5 : (c.kind == 5) = false := by rw [hk]; rfl
            have e7 : (c.kind == 7) = false := by rw [hk]; rfl
            have e8 : (c.kind == 8) = false := by rw [hk]; rfl
            have hh : headF c = [c.name, itoaB c.n] := by unfold headF; rw [hk]; rfl
            have HH := Lib.hid hh
            clear hh hk
            go_wp2_with fail
            refine (add2 ob [nameOf c.kind] c.name (itoaB c.n) w6 HO6.out.out (by simp)).mono ?_
            rintro e w7 ⟨rfl, ho7, k7⟩
            have HO7 := Lib.hid (HO6.out.later ho7 k7)
            clear ho7 k7
            go_wp2_with fail
            go_meet
            case rel => exact ⟨(by intro e; rw [e] at e7; cases e7), (by rw [HH.out]; exact HO7.out)⟩
          · have e2 : (c.kind == 2) = false := by rw [hk]; rfl
            have e3 : (c.kind == 3) = false := by rw [hk]; rfl
            have e10 : (c.kind == 10) = false := by rw [hk]; rfl
            have e12 : (c.kind == 12) = false := by rw [hk]; rfl
            have e14 : (c.kind == 14) = false := by rw [hk]; rfl
            have e9 : (c.kind == 9) = false := by rw [hk]; rfl
            have e11 : (c.kind == 11) = false := by rw [hk]; rfl
            have e13 : (c.kind == 13) = true := by rw [hk]; rfl
            have e6 : (c.kind == 6) = false := by rw [hk]; rfl
            have e4 : (c.kind == 4) = false := by rw [hk]; rfl
            have e5 : (c.kind == 5) = false := by rw [hk]; rfl
            have e7 : (c.kind == 7) = false := by rw [hk]; rfl
            have e8 : (c.kind == 8) = false := by rw [hk]; rfl
            have hh : headF c = [c.name, itoaB c.n] := by unfold headF; rw [hk]; rfl
            have HH := Lib.hid hh
            clear hh hk
            go_wp2_with fail
            refine (add2 ob [nameOf c.kind] c.name (itoaB c.n) w6 HO6.out.out (by simp)).mono ?_
            rintro e w7 ⟨rfl, ho7, k7⟩
            have HO7 := Lib.hid (HO6.out.later ho7 k7)
            clear ho7 k7
            go_wp2_with fail
            go_meet
            case rel => exact ⟨(by intro e; rw [e] at e7; cases e7), (by rw [HH.out]; exact HO7.out)⟩
          · have e2 : (c.kind == 2) = false := by rw [hk]; rfl
            have e3 : (c.kind == 3) = false := by rw [hk]; rfl
            have e10 : (c.kind == 10) = false := by rw [hk]; rfl
            have e12 : (c.kind == 12) = false := by rw [hk]; rfl
            have e14 : (c.kind == 14) = false := by rw [hk]; rfl
            have e9 : (c.kind == 9) = false := by rw [hk]; rfl
            have e11 : (c.kind == 11) = false := by rw [hk]; rfl
            have e13 : (c.kind == 13) = false := by rw [hk]; rfl
            have e6 : (c.kind == 6) = true := by rw [hk]; rfl
            have e4 : (c.kind == 4) = false := by rw [hk]; rfl
            have e5 : (c.kind == 5) = false := by rw [hk]; rfl
            have e7 : (c.kind == 7) = false := by rw [hk]; rfl
            have e8 : (c.kind == 8) = false := by rw [hk]; rfl
            have hh : headF c = [itoaB c.n, pathB c.path] := by unfold headF; rw [hk]; rfl
            have HH := Lib.hid hh
            clear hh hk
            go_wp2_with fail
            refine (add2 ob [nameOf c.kind] (itoaB c.n) (pathB c.path) w6 HO6.out.out (by simp)).mono ?_
            rintro e w7 ⟨rfl, ho7, k7⟩
            have HO7 := Lib.hid (HO6.out.later ho7 k7)
            clear ho7 k7
            go_wp2_with fail
            go_meet
            case rel => exact ⟨(by intro e; rw [e] at e7; cases e7), (by rw [HH.out]; exact HO7.out)⟩
          · have e2 : (c.kind == 2) = false := by rw [hk]; rfl
            have e3 : (c.kind == 3) = false := by rw [hk]; rfl
            have e10 : (c.kind == 10) = false := by rw [hk]; rfl
            have e12 : (c.kind == 12) = false := by rw [hk]; rfl
            have e14 : (c.kind == 14) = false := by rw [hk]; rfl
            have e9 : (c.kind == 9) = false := by rw [hk]; rfl
            have e11 : (c.kind == 11) = false := by rw [hk]; rfl
            have e13 : (c.kind == 13) = false := by rw [hk]; rfl
            have e6 : (c.kind == 6) = false := by rw [hk]; rfl
            have e4 : (c.kind == 4) = true := by rw [hk]; rfl
            have e5 : (c.kind == 5) = false := by rw [hk]; rfl
            have e7 : (c.kind == 7) = false := by rw [hk]; rfl
            have e8 : (c.kind == 8) = false := by rw [hk]; rfl
            have hh : headF c = [pathB c.path] := by unfold headF; rw [hk]; rfl
            have HH := Lib.hid hh
            clear hh hk
            go_wp2_with fail
            refine (add1 ob [nameOf c.kind] (pathB c.path) w6 HO6.out.out (by simp)).mono ?_
            rintro e w7 ⟨rfl, ho7, k7⟩
            have HO7 := Lib.hid (HO6.out.later ho7 k7)
            clear ho7 k7
            go_wp2_with fail
            go_meet
            case rel => exact ⟨(by intro e; rw [e] at e7; cases e7), (by rw [HH.out]; exact HO7.out)⟩
          · have e2 : (c.kind == 2) = false := by rw [hk]; rfl
            have e3 : (c.kind == 3) = false := by rw [hk]; rfl
            have e10 : (c.kind == 10) = false := by rw [hk]; rfl
            have e12 : (c.kind == 12) = false := by rw [hk]; rfl
            have e14 : (c.kind == 14) = false := by rw [hk]; rfl
            have e9 : (c.kind == 9) = false := by rw [hk]; rfl
            have e11 : (c.kind == 11) = false := by rw [hk]; rfl
            have e13 : (c.kind == 13) = false := by rw [hk]; rfl
            have e6 : (c.kind == 6) = false := by rw [hk]; rfl
            have e4 : (c.kind == 4) = false := by rw [hk]; rfl
            have e5 : (c.kind == 5) = true := by rw [hk]; rfl
            have e7 : (c.kind == 7) = false := by rw [hk]; rfl
            have e8 : (c.kind == 8) = false := by rw [hk]; rfl
            have hh : headF c = [pathB c.path] := by unfold headF; rw [hk]; rfl
            have HH := Lib.hid hh
            clear hh hk
            go_wp2_with fail
            refine (add1 ob [nameOf c.kind] (pathB c.path) w6 HO6.out.out (by simp)).mono ?_
            rintro e w7 ⟨rfl, ho7, k7⟩
            have HO7 := Lib.hid (HO6.out.later ho7 k7)
            clear ho7 k7
            go_wp2_with fail
            go_meet
            case rel => exact ⟨(by intro e; rw [e] at e7; cases e7), (by rw [HH.out]; exact HO7.out)⟩
          · have e2 : (c.kind == 2) = false := by rw [hk]; rfl
            have e3 : (c.kind == 3) = false := by rw [hk]; rfl
            have e10 : (c.kind == 10) = false := by rw [hk]; rfl
            have e12 : (c.kind == 12) = false := by rw [hk]; rfl
            have e14 : (c.kind == 14) = false := by rw [hk]; rfl
            have e9 : (c.kind == 9) = false := by rw [hk]; rfl
            have e11 : (c.kind == 11) = false := by rw [hk]; rfl
            have e13 : (c.kind == 13) = false := by rw [hk]; rfl
            have e6 : (c.kind == 6) = false := by rw [hk]; rfl
            have e4 : (c.kind == 4) = false := by rw [hk]; rfl
            have e5 : (c.kind == 5) = false := by rw [hk]; rfl
            have e7 : (c.kind == 7) = true := by rw [hk]; rfl
            have e8 : (c.kind == 8) = false := by rw [hk]; rfl
            have hp : wordsF c = [nameOf c.kind, itoaB c.n] ++ c.wishes.map (fun x => itoaB x.cost) := by unfold wordsF headF tailF; rw [hk]; rfl
            have HH := Lib.hid hp
            clear hp hk
            go_wp2_with fail
            refine (add1 ob [nameOf c.kind] (itoaB c.n) w6 HO6.out.out (by simp)).mono ?_
            rintro e w7 ⟨rfl, ho7, k7⟩
            have HO7 := Lib.hid (HO6.out.later ho7 k7)
            clear ho7 k7
            rw [List.singleton_append] at HO7
            have hc7 := cell_of_block HO7.out.box
            simp only [cmdCells] at hc7
            have HWI := Lib.hid HW.out.wish
            have hfew := HS.out.few
            go_wp2_with fail
            go_loopw [15, 123] (fun x i wr => ∃ k : Nat, k ≤ c.wishes.length ∧ i = .int .i64 k ∧ Hid (Out w cb c (.slice pa c.path.length pc) (.slice wa c.wishes.length wcap) ob ([nameOf c.kind, itoaB c.n] ++ (c.wishes.take k).map (fun x => itoaB x.cost)) wr)) (fun _ i _ => c.wishes.length - (intOf i).toNat)
            case atStart => exact ⟨0, Nat.zero_le _, rfl, by simpa using HO7⟩
            case round =>
              obtain ⟨k, hk, rfl, HOk⟩ := hrel
              by_cases hlt : k < c.wishes.length
              · obtain ⟨a', c', hv', -, -, hel⟩ := HWI.out
                simp only [Value.slice.injEq, true_and] at hv'
                obtain ⟨rfl, rfl⟩ := hv'
                obtain ⟨bb, o, rfl, hbb, hx⟩ := hel (by intro e; rw [e] at hlt; simp at hlt)
                have hx1 := hx k _ (List.getElem?_eq_getElem hlt)
                have t1 : c.wishes.take (k + 1) = c.wishes.take k ++ [c.wishes[k]] := List.take_succ_eq_append_getElem hlt
                have hsm := HS.out.wishes _ (List.getElem_mem hlt)
                obtain ⟨x, hxe⟩ : ∃ x, x = c.wishes[k] := ⟨_, rfl⟩
                rw [← hxe] at hx1 t1 hsm
                have hkk := HOk.out.keep
                have c0 := hkk.cell hx1.1 id
                have c1 := hkk.cell hx1.2.1 id
                have c2 := hkk.cell hx1.2.2 id
                have hlt2 : (k : Int) < (c.wishes.length : Int) := by omega
                have T1 := Lib.hid t1
                have HSM := Lib.hid hsm
                clear t1 hxe hx hx1 hel hkk hsm
                go_wp2_with fail
                have HOa := Lib.hid (HOk.out.stay ((Keep.refl _ _).alloc (Obj.cells #[.string x.name, .int .i64 x.deep, .int .i64 x.cost] 42)))
                refine (Print_any x.cost HSM.out.2.2.1 HSM.out.2.2.2 _).mono ?_
                rintro e w8 ⟨rfl, k8⟩
                have HO8 := Lib.hid (HOa.out.stay k8)
                have hll : ([nameOf c.kind, itoaB c.n] ++ (c.wishes.take k).map (fun x => itoaB x.cost)).length ≤ 900000 := by
                  have h2 : (c.wishes.take k).length ≤ k := List.length_take_le _ _
                  simp only [List.length_append, List.length_cons, List.length_nil, List.length_map]
                  omega
                have HC := Lib.hid (add1 ob ([nameOf c.kind, itoaB c.n] ++ (c.wishes.take k).map (fun x => itoaB x.cost)) (itoaB x.cost) w8 HO8.out.out hll)
                clear k8 hll c0 c1 c2
                go_wp2_with fail
                refine HC.out.mono ?_
                rintro e w9 ⟨rfl, ho9, k9⟩
                have HO9 := Lib.hid (HO8.out.later ho9 k9)
                clear ho9 k9
                go_wp2_with fail
                go_roundw
                case rel => exact ⟨k + 1, by omega, by go_num, by rw [T1.out, List.map_append, ← List.append_assoc]; exact HO9⟩
                case measure => simp [intOf]; omega
              · have hke : k = c.wishes.length := by omega
                have hlt2 : ¬ ((k : Int) < (c.wishes.length : Int)) := by omega
                rw [hke, List.take_length] at HOk
                obtain ⟨ov, hov1, hov2, hov3⟩ := HOk.out.out.ex
                have hco := cell_of_block hov1
                obtain ⟨oa, oc, rfl⟩ := owns_slice hov2
                have HOV := Lib.hid hov2
                clear hov1 hov2 hov3 hke
                go_wp2
                go_ret
                refine ⟨_, rfl, ?_, HOk.out.keep⟩
                rw [HH.out]
                have hb := HOk.out.base
                have hv := owns_base HOV.out hb
                simpa using hv
          · have e2 : (c.kind == 2) = false := by rw [hk]; rfl
            have e3 : (c.kind == 3) = false := by rw [hk]; rfl
            have e10 : (c.kind == 10) = false := by rw [hk]; rfl
            have e12 : (c.kind == 12) = false := by rw [hk]; rfl
            have e14 : (c.kind == 14) = false := by rw [hk]; rfl
            have e9 : (c.kind == 9) = false := by rw [hk]; rfl
            have e11 : (c.kind == 11) = false := by rw [hk]; rfl
            have e13 : (c.kind == 13) = false := by rw [hk]; rfl
            have e6 : (c.kind == 6) = false := by rw [hk]; rfl
            have e4 : (c.kind == 4) = false := by rw [hk]; rfl
            have e5 : (c.kind == 5) = false := by rw [hk]; rfl
            have e7 : (c.kind == 7) = false := by rw [hk]; rfl
            have e8 : (c.kind == 8) = true := by rw [hk]; rfl
            have hh : headF c = [itoaB c.n] := by unfold headF; rw [hk]; rfl
            have HH := Lib.hid hh
            clear hh hk
            go_wp2_with fail
            refine (add1 ob [nameOf c.kind] (itoaB c.n) w6 HO6.out.out (by simp)).mono ?_
            rintro e w7 ⟨rfl, ho7, k7⟩
            have HO7 := Lib.hid (HO6.out.later ho7 k7)
            clear ho7 k7
            go_wp2_with fail
            go_meet
            case rel => exact ⟨(by intro e; rw [e] at e7; cases e7), (by rw [HH.out]; exact HO7.out)⟩
          · have e2 : (c.kind == 2) = false := by simp only [beq_eq_false_iff_ne]; omega
            have e3 : (c.kind == 3) = false := by simp only [beq_eq_false_iff_ne]; omega
            have e10 : (c.kind == 10) = false := by simp only [beq_eq_false_iff_ne]; omega
            have e12 : (c.kind == 12) = false := by simp only [beq_eq_false_iff_ne]; omega
            have e14 : (c.kind == 14) = false := by simp only [beq_eq_false_iff_ne]; omega
            have e9 : (c.kind == 9) = false := by simp only [beq_eq_false_iff_ne]; omega
            have e11 : (c.kind == 11) = false := by simp only [beq_eq_false_iff_ne]; omega
            have e13 : (c.kind == 13) = false := by simp only [beq_eq_false_iff_ne]; omega
            have e6 : (c.kind == 6) = false := by simp only [beq_eq_false_iff_ne]; omega
            have e4 : (c.kind == 4) = false := by simp only [beq_eq_false_iff_ne]; omega
            have e5 : (c.kind == 5) = false := by simp only [beq_eq_false_iff_ne]; omega
            have e7 : (c.kind == 7) = false := by simp only [beq_eq_false_iff_ne]; omega
            have e8 : (c.kind == 8) = false := by simp only [beq_eq_false_iff_ne]; omega
            have hh : headF c = [] := by unfold headF; rw [if_neg (by omega), if_neg (by omega), if_neg (by omega), if_neg (by omega), if_neg (by omega), if_neg (by omega)]
            have HH := Lib.hid hh
            have hn7 : c.kind ≠ 7 := by omega
            clear hh hk
            go_wp2_with fail
            go_meet
            case rel => exact ⟨hn7, by rw [HH.out]; exact HO6.out⟩
        case rest =>
          obtain ⟨hk7, hO8⟩ := hcut
          have hc8 := cell_of_block hO8.box
          simp only [cmdCells] at hc8
          have HO8 := Lib.hid hO8
          have HWI := Lib.hid HW.out.wish
          clear hO8 HO6 hc6
          go_wp2_with fail
          go_loopw [17, 144] (fun x i wr => ∃ k : Nat, k ≤ c.wishes.length ∧ i = .int .i64 k ∧ Hid (Out w cb c (.slice pa c.path.length pc) (.slice wa c.wishes.length wcap) ob (nameOf c.kind :: headF c ++ (c.wishes.take k).map wishB) wr)) (fun _ i _ => c.wishes.length - (intOf i).toNat)
          case atStart => exact ⟨0, Nat.zero_le _, rfl, by simpa using HO8⟩
          case round =>
            obtain ⟨k, hk, rfl, HOk⟩ := hrel
            by_cases hlt : k < c.wishes.length
            · obtain ⟨a', c', hv', -, -, hel⟩ := HWI.out
              simp only [Value.slice.injEq, true_and] at hv'
              obtain ⟨rfl, rfl⟩ := hv'
              obtain ⟨bb, o, rfl, hbb, hx⟩ := hel (by intro e; rw [e] at hlt; simp at hlt)
              have hx1 := hx k _ (List.getElem?_eq_getElem hlt)
              have t1 : c.wishes.take (k + 1) = c.wishes.take k ++ [c.wishes[k]] := List.take_succ_eq_append_getElem hlt
              have hsm := HS.out.wishes _ (List.getElem_mem hlt)
              obtain ⟨x, hxe⟩ : ∃ x, x = c.wishes[k] := ⟨_, rfl⟩
              rw [← hxe] at hx1 t1 hsm
              have hkk := HOk.out.keep
              have c0 := hkk.cell hx1.1 id
              have c1 := hkk.cell hx1.2.1 id
              have c2 := hkk.cell hx1.2.2 id
              have hlt2 : (k : Int) < (c.wishes.length : Int) := by omega
              have T1 := Lib.hid t1
              have HSM := Lib.hid hsm
              clear t1 hxe hx hx1 hel hkk hsm
              go_wp2_with fail
              have hFn : ∀ o, (wr.alloc (Obj.cells #[.string x.name, .int .i64 x.deep, .int .i64 x.cost] 42)).heap[wr.heap.size]? = o → o = some (Obj.cells #[.string x.name, .int .i64 x.deep, .int .i64 x.cost] 42) := fun o h => by rw [← h]; exact block_new _ _
              have hF6 := hFn _ rfl
              clear hFn
              have HOa := Lib.hid (HOk.out.stay ((Keep.refl _ _).alloc (Obj.cells #[.string x.name, .int .i64 x.deep, .int .i64 x.cost] 42)))
              have hFob : wr.heap.size ≠ ob := by have := lt_of_block (Classical.choose_spec HOk.out.out.ex).1; omega
              obtain ⟨F, hFe⟩ : ∃ F, F = wr.heap.size := ⟨_, rfl⟩
              rw [← hFe] at hF6 hFob ⊢
              have HFE := Lib.hid hFe
              clear hFe c0 c1 c2
              have y1 := itoaB_size x.deep HSM.out.2.1.1 HSM.out.2.1.2
              have y2 := itoaB_size x.cost HSM.out.2.2.1 HSM.out.2.2.2
              have y0 := HSM.out.1
              have z0 : ¬ 9223372036854775807 < x.name.size + 1 := by omega
              have z1 : ¬ 9223372036854775807 < x.name.size + 1 + (itoaB x.deep).size := by omega
              have z2 : ¬ 9223372036854775807 < x.name.size + 1 + (itoaB x.deep).size + 1 := by omega
              have z3 : ¬ 9223372036854775807 < x.name.size + 1 + (itoaB x.deep).size + 1 + (itoaB x.cost).size := by omega
              clear y0 y1 y2
              have hlen := outLen c k (by have := HS.out.few; omega)
              have HC := Lib.hid (fun W (h : OutIn W ob ob (nameOf c.kind :: headF c ++ (c.wishes.take k).map wishB)) => add1 ob (nameOf c.kind :: headF c ++ (c.wishes.take k).map wishB) (x.name ++ ⟨#[58]⟩ ++ itoaB x.deep ++ ⟨#[58]⟩ ++ itoaB x.cost) W h hlen)
              clear hlen
              generalize wr.alloc (Obj.cells #[.string x.name, .int .i64 x.deep, .int .i64 x.cost] 42) = W6 at *
              have HOd := Lib.hid (HOa.out.stay ((Keep.refl _ W6).drew))
              have HF6 : Hid (W6.drew.heap[F]? = some (Obj.cells #[.string x.name, .int .i64 x.deep, .int .i64 x.cost] 42 (0, 0))) := hF6
              clear hF6
              refine wp_region_held_drew (S := fun w' => ∀ o, w'.cell? ⟨F, o, none⟩ = (#[.string x.name, .int .i64 x.deep, .int .i64 x.cost] : Array Value)[o]?) (by kernel_rfl) (cell_of_block HF6.out) (fun hHeld => ?_)
              refine wpAnyH_take (i := 0) (v := ?_) rfl (by kernel_rfl) (by kernel_rfl) (by kernel_rfl) (fun _ _ _ h => h) (Or.inl ⟨by rfl, ?_⟩) (by assumption) ?_
              rotate_left
              · intro w hSw; (try dsimp only at hSw); go_simp; with_reducible rfl
              try simp only [Act.put, List.setIfInBounds_toArray, List.set_cons_zero, List.set_cons_succ]
              refine wpAnyH_take (i := 1) (v := ?_) rfl (by kernel_rfl) (by kernel_rfl) (by kernel_rfl) (fun _ _ _ h => h) (Or.inl ⟨by rfl, ?_⟩) (by assumption) ?_
              rotate_left
              · intro w hSw; (try dsimp only at hSw); go_simp; with_reducible rfl
              try simp only [Act.put, List.setIfInBounds_toArray, List.set_cons_zero, List.set_cons_succ]
              refine wpAnyH_take (i := 2) (v := ?_) rfl (by kernel_rfl) (by kernel_rfl) (by kernel_rfl) (fun _ _ _ h => h) (Or.inl ⟨by rfl, ?_⟩) (by assumption) ?_
              rotate_left
              · intro w hSw; (try dsimp only at hSw); go_simp; with_reducible rfl
              try simp only [Act.put, List.setIfInBounds_toArray, List.set_cons_zero, List.set_cons_succ]
              refine wpAnyH_take (i := 3) (v := ?_) rfl (by kernel_rfl) (by kernel_rfl) (by kernel_rfl) (fun _ _ _ h => h) (Or.inl ⟨by rfl, ?_⟩) (by assumption) ?_
              rotate_left
              · intro w hSw; (try dsimp only at hSw); go_simp; with_reducible rfl
              try simp only [Act.put, List.setIfInBounds_toArray, List.set_cons_zero, List.set_cons_succ]
              refine wpAnyH_take (i := 4) (v := ?_) rfl (by kernel_rfl) (by kernel_rfl) (by kernel_rfl) (fun _ _ _ h => h) (Or.inl ⟨by rfl, ?_⟩) (by assumption) ?_
              rotate_left
              · intro w hSw; (try dsimp only at hSw); go_simp; with_reducible rfl
              try simp only [Act.put, List.setIfInBounds_toArray, List.set_cons_zero, List.set_cons_succ]
              refine wpAnyH_take (i := 5) (v := ?_) rfl (by kernel_rfl) (by kernel_rfl) (by kernel_rfl) (fun _ _ _ h => h) (Or.inl ⟨by rfl, ?_⟩) (by assumption) ?_
              rotate_left
              · intro w hSw; (try dsimp only at hSw); go_simp; with_reducible rfl
              try simp only [Act.put, List.setIfInBounds_toArray, List.set_cons_zero, List.set_cons_succ]
              refine wpAnyH_take (i := 9) (v := ?_) rfl (by kernel_rfl) (by kernel_rfl) (by kernel_rfl) (fun _ _ _ h => h) (Or.inl ⟨by rfl, ?_⟩) (by assumption) ?_
              rotate_left
              · intro w hSw; (try dsimp only at hSw); go_simp; with_reducible rfl
              try simp only [Act.put, List.setIfInBounds_toArray, List.set_cons_zero, List.set_cons_succ]
              refine wpAnyH_take (i := 10) (v := ?_) rfl (by kernel_rfl) (by kernel_rfl) (by kernel_rfl) (fun _ _ _ h => h) (Or.inl ⟨by rfl, ?_⟩) (by assumption) ?_
              rotate_left
              · intro w hSw; (try dsimp only at hSw); go_simp; with_reducible rfl
              try simp only [Act.put, List.setIfInBounds_toArray, List.set_cons_zero, List.set_cons_succ]
              refine wpAnyH_ready (rs := [6]) (by kernel_rfl) (by simp) ?_
              refine AllReadyH.cons rfl (fun K hK => ?_) ?_
              · go_simp
                refine (Print_any x.deep HSM.out.2.1.1 HSM.out.2.1.2 _).mono ?_
                rintro e w7 ⟨rfl, k7⟩
                have HO7 := Lib.hid (HOd.out.stay k7)
                have hF7 := k7.get HF6.out id
                have hcf7 := cell_of_block hF7
                have HF7 := Lib.hid hF7
                clear k7 hF7
                go_wp2_with fail
                refine hK.out _ _ ?_ (fun hHeld => ?_)
                · exact hcf7
                clear hK K
                try simp only [Act.put, List.setIfInBounds_toArray, List.set_cons_zero, List.set_cons_succ]
                refine wpAnyH_take (i := 7) (v := ?_) rfl (by kernel_rfl) (by kernel_rfl) (by kernel_rfl) (fun _ _ _ h => h) (Or.inl ⟨by rfl, ?_⟩) (by assumption) ?_
                rotate_left
                · intro w hSw; (try dsimp only at hSw); go_simp; with_reducible rfl
                try simp only [Act.put, List.setIfInBounds_toArray, List.set_cons_zero, List.set_cons_succ]
                refine wpAnyH_take (i := 8) (v := ?_) rfl (by kernel_rfl) (by kernel_rfl) (by kernel_rfl) (fun _ _ _ h => h) (Or.inl ⟨by rfl, ?_⟩) (by assumption) ?_
                rotate_left
                · intro w hSw; (try dsimp only at hSw); go_simp; with_reducible rfl
                try simp only [Act.put, List.setIfInBounds_toArray, List.set_cons_zero, List.set_cons_succ]
                refine wpAnyH_ready (rs := [11]) (by kernel_rfl) (by simp) ?_
                refine AllReadyH.cons rfl (fun K hK => ?_) ?_
                · go_simp
                  refine (Print_any x.cost HSM.out.2.2.1 HSM.out.2.2.2 _).mono ?_
                  rintro e w8 ⟨rfl, k8⟩
                  have HO8' := Lib.hid (HO7.out.stay k8)
                  have hF8 := k8.get HF7.out id
                  have hcf8 := cell_of_block hF8
                  have HF8 := Lib.hid hF8
                  clear k8 hF8
                  go_wp2_with fail
                  refine hK.out _ _ ?_ (fun hHeld => ?_)
                  · exact hcf8
                  clear hK K
                  try simp only [Act.put, List.setIfInBounds_toArray, List.set_cons_zero, List.set_cons_succ]
                  refine wpAnyH_take (i := 12) (v := ?_) rfl (by kernel_rfl) (by kernel_rfl) (by kernel_rfl) (fun _ _ _ h => h) (Or.inl ⟨by rfl, ?_⟩) (by assumption) ?_
                  rotate_left
                  · intro w hSw; (try dsimp only at hSw); go_simp; with_reducible rfl
                  try simp only [Act.put, List.setIfInBounds_toArray, List.set_cons_zero, List.set_cons_succ]
                  refine wpAnyH_ready (rs := [13]) (by kernel_rfl) (by simp) ?_
                  refine AllReadyH.cons rfl (fun K hK => ?_) ?_
                  · go_simp
                    have hcf9 := cell_of_block (block_alloc HF8.out (Obj.cells #[.string (x.name ++ ⟨#[58]⟩ ++ itoaB x.deep ++ ⟨#[58]⟩ ++ itoaB x.cost)] 9))
                    go_wp2_with fail
                    refine hK.out _ _ ?_ (fun hHeld => ?_)
                    · exact hcf9
                    clear hK K
                    try simp only [Act.put, List.setIfInBounds_toArray, List.set_cons_zero, List.set_cons_succ]
                    refine wpAnyH_ready (rs := [14]) (by kernel_rfl) (by simp) ?_
                    refine AllReadyH.cons rfl (fun K hK => ?_) ?_
                    · go_simp
                      refine (HC.out w8 HO8'.out.out).mono ?_
                      rintro e w9 ⟨rfl, ho9, k9⟩
                      have HO9 := Lib.hid (HO8'.out.later ho9 k9)
                      have hcf9 := cell_of_block (AddS.keep k9 HF8.out hFob (by decide))
                      clear ho9 k9
                      go_wp2_with fail
                      refine hK.out _ _ ?_ (fun hHeld => ?_)
                      · exact hcf9
                      clear hK K
                      try simp only [Act.put, List.setIfInBounds_toArray, List.set_cons_zero, List.set_cons_succ]
                      refine wpAnyH_done (by kernel_rfl) ?_ _
                      have hfew := HS.out.few
                      go_wp2_with fail
                      go_roundw
                      case rel => exact ⟨k + 1, by omega, by go_num, by rw [T1.out, List.map_append, ← List.append_assoc]; exact HO9⟩
                      case measure => simp [intOf]; omega
                    exact AllReadyH.nil
                  exact AllReadyH.nil
                exact AllReadyH.nil
              exact AllReadyH.nil
            · have hke : k = c.wishes.length := by omega
              have hlt2 : ¬ ((k : Int) < (c.wishes.length : Int)) := by omega
              rw [hke, List.take_length] at HOk
              obtain ⟨ov, hov1, hov2, hov3⟩ := HOk.out.out.ex
              have hco := cell_of_block hov1
              obtain ⟨oa, oc, rfl⟩ := owns_slice hov2
              have HOV := Lib.hid hov2
              clear hov1 hov2 hov3 hke
              go_wp2
              go_ret
              refine ⟨_, rfl, ?_, HOk.out.keep⟩
              have e : wordsF c = nameOf c.kind :: headF c ++ c.wishes.map wishB := by unfold wordsF tailF; rw [if_neg hk7]; rfl
              rw [e]
              have hb := HOk.out.base
              have hv := owns_base HOV.out hb
              simpa using hv
    · obtain ⟨hem, hsn2⟩ := mem_left he
      obtain ⟨i, hi, hie⟩ := List.getElem_of_mem hem
      obtain ⟨r, sv, hr, hkey, hval, hborn, fa, fn, fc, rfl⟩ := hes.2 i e (by rw [List.getElem?_eq_getElem hi, hie])
      have hw3it : it < w3.heap.size := by rcases hw3 with rfl | rfl <;> exact lt_of_block hir
      have kw3 : Keep (fun k => k = it) wr w3 := by
        rcases hw3 with rfl | rfl
        · exact Keep.refl _ _
        · exact (Keep.refl _ _).drew
      have kw4 : Keep (fun k => k = it) wr (setBlock w3 it (.mapIter (some b) 15 (seen.push e.born) 15)) := kw3.trans (keep_setBlock _ _ _ _ rfl)
      have hi4 : (setBlock w3 it (.mapIter (some b) 15 (seen.push e.born) 15)).heap[it]? = some (.mapIter (some b) 15 (seen.push e.born) 15) := setBlock_same hw3it
      have hsh := left_shrinks es seen e he
      have hseen : wr.iterSeen it = seen := by unfold World.iterSeen; rw [hir]
      have hrun2 : ∀ ty, (Instr.next (.pointer (some ⟨it, 0, none⟩)) false ty).run Tryz.prog wr = .ok (.tuple #[.bool true, e.key, e.val]) (setBlock w3 it (.mapIter (some b) 15 (seen.push e.born) 15)) := fun _ => hrun
      generalize setBlock w3 it (.mapIter (some b) 15 (seen.push e.born) 15) = w4 at *
      have hb4 := kw4.get hbr (by omega)
      have hc4 := kw4.get hcr (by omega)
      have hen := run_entry_at (P := Tryz.prog) w4 it b 15 seen es 15 e hi4 hb4 hem hes.nodup
      rw [hkey, hval] at hrun2 hen
      have hcc := cell_of_block hc4
      have hcc1 := cell_of_block1 hc4
      have k5 : Keep (fun k => k = it) W0 (w4.alloc (.cells #[.int .i64 r.kind, .int .i64 r.least, .int .i64 r.most, .slice fa fn fc] 48)) := (hkr.trans kw4).alloc _
      have hi5 : (w4.alloc (.cells #[.int .i64 r.kind, .int .i64 r.least, .int .i64 r.most, .slice fa fn fc] 48)).heap[it]? = some (.mapIter (some b) 15 (seen.push e.born) 15) := block_alloc hi4 _
      have hs5 : (w4.alloc (.cells #[.int .i64 r.kind, .int .i64 r.least, .int .i64 r.most, .slice fa fn fc] 48)).iterSeen it = seen.push e.born := by unfold World.iterSeen; rw [hi5]
      have HK5 := Lib.hid k5
      have HI5 := Lib.hid hi5
      have HS5 := Lib.hid hs5
      have HSE := Lib.hid hseen
      have HSH := Lib.hid hsh
      have HINV := Lib.hid hinv
      have HB := Lib.hid hborn
      have HR := Lib.hid hr
      clear k5 hi5 hs5 hseen hsh hinv hir hkr hbr hcr hrun kw3 kw4 hw3 hi hie hem hsn2 he hw3it hb4 hc4 hi4 hborn hr
      simp only [Form.val] at hrun2 hen
      by_cases hk : r.kind = c.kind
      · have hk1 : (r.kind == c.kind) = true := by simp [hk]
        have HN : Hid (NameInv c.kind (seen.push e.born) r.name) := NameInv.hit HR.out hk
        clear hk
        go_wp2_with fail
        go_roundw
        case rel => exact ⟨_, rfl, _, HN.out, HI5.out, HK5.out⟩
        case measure => rw [HS5.out, HSE.out]; exact HSH.out
      · have hk1 : (r.kind == c.kind) = false := by simp [hk]
        have HN : Hid (NameInv c.kind (seen.push e.born) s) := by rw [HB.out]; exact HINV.out.miss HR.out hk
        clear hk
        go_wp2_with fail
        go_roundw
        case rel => exact ⟨_, rfl, _, HN.out, HI5.out, HK5.out⟩
        case measure => rw [HS5.out, HSE.out]; exact HSH.out
end Go.Proofs.YtamjhnibenonjaaGreatDoor
