/- tapsterlaw18.CommandBack: what is parsed out of small arguments is small; the walk. -/
import Derived.Test.YtamjhnibenonjaaGreatDoorSSmall
import Derived.Test.YtamjhnibenonjaaGreatDoorPNamed12
import Derived.Test.YtamjhnibenonjaaGreatDoorPErrs2
import Derived.Deep.Cut
import Derived.Deep.CutRange
namespace Go.Proofs.YtamjhnibenonjaaGreatDoor
set_option linter.unusedVariables false
set_option linter.unusedSimpArgs false
open Go Go.RowKit
def Tiny (l : List ByteArray) : Prop := ∀ x ∈ l, x.size ≤ 100000
theorem Tiny.arg {R : Rd} (h : Tiny R.args) : R.arg.size ≤ 100000 := by
  unfold Rd.arg
  cases hr : R.args with
  | nil => show (0 : Nat) ≤ 100000; decide
  | cons a l => exact h a (by rw [hr]; exact List.mem_cons_self ..)
theorem Tiny.tail {l : List ByteArray} (h : Tiny l) : Tiny l.tail := fun x hx => h x (List.mem_of_mem_tail hx)
theorem Small.zero (k : Int) : Small { Cmd.zero with kind := k } :=
  by
  have z : (-9223372036854775808 : Int) ≤ 0 ∧ (0 : Int) ≤ 9223372036854775807 := by decide
  exact ⟨z, z, z, z, z, z, show (0 : Nat) ≤ 2000000 by decide, show (0 : Nat) ≤ 2000000 by decide, show (0 : Nat) ≤ 500000 by decide, fun x hx => by cases hx⟩
theorem Small.setName {c : Cmd} (h : Small c) {s : ByteArray} (hs : s.size ≤ 2000000) : Small { c with name := s } := ⟨h.n, h.kind, h.limit, h.period, h.burst, h.cap, hs, h.path, h.few, h.wishes⟩
theorem Small.setN {c : Cmd} (h : Small c) {n : Int} (hn : -9223372036854775808 ≤ n ∧ n ≤ 9223372036854775807) : Small { c with n := n } := ⟨hn, h.kind, h.limit, h.period, h.burst, h.cap, h.name, h.path, h.few, h.wishes⟩
theorem Small.setPath {c : Cmd} (h : Small c) {p : List ByteArray} (hp : longL p ≤ 2000000) : Small { c with path := p } := ⟨h.n, h.kind, h.limit, h.period, h.burst, h.cap, h.name, hp, h.few, h.wishes⟩
theorem Small.setWishes {c : Cmd} (h : Small c) {l : List Wish} (hf : l.length ≤ 500000) (hw : ∀ x ∈ l, x.name.size ≤ 2000000 ∧ (-9223372036854775808 ≤ x.deep ∧ x.deep ≤ 9223372036854775807) ∧ (-9223372036854775808 ≤ x.cost ∧ x.cost ≤ 9223372036854775807)) : Small { c with wishes := l } :=
  ⟨h.n, h.kind, h.limit, h.period, h.burst, h.cap, h.name, h.path, hf, hw⟩
theorem longL_split (s : ByteArray) : longL (splitAt s slashB) ≤ s.size + 1 := by
  have h := join_split s 47
  obtain ⟨a, l, e⟩ : ∃ a l, splitAt s slashB = a :: l := by
    cases hl : splitAt s slashB with
    | nil => have := splitAt_length s slashB (by decide); rw [hl] at this; simp at this
    | cons a l => exact ⟨a, l, rfl⟩
  have e' : splitAt s ⟨#[47]⟩ = a :: l := e
  rw [e', joinB, List.map_cons, Lib.join_cons] at h
  have h2 := congrArg ByteArray.size h
  have ht := joinTail_length 47 l
  have ha : a.data.toList.length = a.size := Array.length_toList
  have h3 : (a.data.toList ++ Lib.joinTail [47] (l.map (·.data.toList))).length = s.size := h2
  rw [List.length_append, ht, ha] at h3
  rw [e, longL, List.map_cons, List.sum_cons]
  rw [longL] at h3; omega
theorem small_polNum {R : Rd} {lo hi : Int} {f : Pol → Int → Pol} (h : Small R.c) (hf : ∀ p v, (-9223372036854775808 ≤ v ∧ v ≤ 9223372036854775807) → Small { R.c with pol := p } → Small { R.c with pol := f p v }) : Small (R.polNum lo hi f).c := by
  show Small { (R.rest.number R.arg lo hi).c with pol := f (R.rest.number R.arg lo hi).c.pol (uptoV R.arg lo hi) }
  rw [number_path]
  exact hf _ _ (uptoV_i64 _ _ _) h
theorem small_wishLoop : ∀ (k : Nat) (R : Rd), Tiny R.args → Small R.c → R.c.wishes.length + k ≤ 500000 → Small (R.wishLoop k).c
  | 0, R, _, h, _ => h
  | k + 1, R, ha, h, hk => by
    rw [Rd.wishLoop]
    split
    · exact h
    · split
      · rename_i f0 f1 f2 hs
        have hm : f0 ∈ splitAt R.arg colonB := by rw [hs]; exact List.mem_cons_self ..
        have h0 := splitAt_size R.arg colonB f0 hm
        have h1 := Tiny.arg ha
        refine small_wishLoop k _ ?_ ?_ ?_
        · rw [wishOf_args]; exact ha.tail
        · show Small { (((R.rest.named f0).number f1 0 8).number f2 1 1048576).c with wishes := (((R.rest.named f0).number f1 0 8).number f2 1 1048576).c.wishes ++ [⟨f0, uptoV f1 0 8, uptoV f2 1 1048576⟩] }
          rw [number_path, number_path, named_c]
          show Small { R.c with wishes := R.c.wishes ++ [⟨f0, uptoV f1 0 8, uptoV f2 1 1048576⟩] }
          refine h.setWishes (by simp; omega) (fun x hx => ?_)
          simp only [List.mem_append, List.mem_singleton] at hx
          rcases hx with hx | rfl
          · exact h.wishes x hx
          · exact ⟨by show f0.size ≤ _; omega, uptoV_i64 _ _ _, uptoV_i64 _ _ _⟩
        · rw [wishOf_wishes]; show R.c.wishes.length + 1 + k ≤ _; omega
      · rw [fail_c]; exact h
theorem small_apply (f : Nat) (R : Rd) (ha : Tiny R.args) (hp : f = 30 → R.c.path = []) (hw : f = 31 → R.c.wishes = []) (h : Small R.c) : Small (applyF f R).c := by
  have hn := ha.arg
  unfold applyF
  split
  · show Small { (R.rest.named R.arg).c with name := R.arg }
    rw [named_c]; exact h.setName (by omega)
  split
  · unfold Rd.readKey
    simp only
    split
    · rw [fail_c]; exact h.setName (s := R.arg) (by omega)
    · exact h.setName (s := R.arg) (by omega)
  split
  · show Small { (R.rest.number R.arg _ _).c with n := _ }
    rw [number_path]; exact h.setN (uptoV_i64 _ _ _)
  split
  · rename_i hf
    have hlp := longL_split R.arg
    have hs : Small (R.rest.setPath (R.c.path ++ splitAt R.arg slashB)).c := by
      rw [hp hf, List.nil_append]
      exact h.setPath (p := splitAt R.arg slashB) (by omega)
    unfold Rd.readPath
    split
    · exact h
    · unfold Rd.pathCheck
      split
      · exact hs
      · rw [fail_c]; exact hs
  split
  · rename_i hf
    unfold Rd.readWishes
    split
    · rw [fail_c]; exact h
    · exact small_wishLoop _ _ ha h (by rw [hw hf, List.length_nil]; omega)
  split
  · show Small { (R.rest.number R.arg _ _).c with n := _ }
    rw [number_path]; exact h.setN (uptoV_i64 _ _ _)
  split
  · show Small { (R.rest.number R.arg _ _).c with n := _ }
    rw [number_path]; exact h.setN (uptoV_i64 _ _ _)
  split
  · unfold Rd.readPolicy Rd.polCheck
    have key : Small ((((((R.polNum 1 4 fun p v => { p with kind := v }).polNum 0 1099511627776 fun p v => { p with limit := v }).polNum 0 1099511627776 fun p v => { p with period := v }).polNum 0 1099511627776
    fun p v => { p with burst := v }).polNum 0 1099511627776 fun p v => { p with cap := v }).polNum 0 1 fun p v => { p with opn := v == 1 }).c := by
      refine small_polNum (small_polNum (small_polNum (small_polNum (small_polNum (small_polNum h ?_) ?_) ?_) ?_) ?_) ?_
      · exact fun p v hv h => ⟨h.n, hv, h.limit, h.period, h.burst, h.cap, h.name, h.path, h.few, h.wishes⟩
      · exact fun p v hv h => ⟨h.n, h.kind, hv, h.period, h.burst, h.cap, h.name, h.path, h.few, h.wishes⟩
      · exact fun p v hv h => ⟨h.n, h.kind, h.limit, hv, h.burst, h.cap, h.name, h.path, h.few, h.wishes⟩
      · exact fun p v hv h => ⟨h.n, h.kind, h.limit, h.period, hv, h.cap, h.name, h.path, h.few, h.wishes⟩
      · exact fun p v hv h => ⟨h.n, h.kind, h.limit, h.period, h.burst, hv, h.name, h.path, h.few, h.wishes⟩
      · exact fun p v hv h => ⟨h.n, h.kind, h.limit, h.period, h.burst, h.cap, h.name, h.path, h.few, h.wishes⟩
    split
    · exact key
    · rw [fail_c]; exact key
  split
  · unfold Rd.readMost
    split
    · exact h
    · show Small { (R.rest.number R.arg _ _).c with wishes := _ }
      rw [number_path]
      exact h.setWishes (by simp) (fun x hx => by
        simp only [List.mem_singleton] at hx
        subst hx
        exact ⟨show (0 : Nat) ≤ 2000000 by decide, show (-9223372036854775808 : Int) ≤ 0 ∧ (0 : Int) ≤ 9223372036854775807 by decide, uptoV_i64 _ _ _⟩)
  · exact h
theorem small_parse (x : ByteArray) (l : List ByteArray) (h : Tiny l) : Small (parseF (x :: l)).1 := by
  unfold parseF
  simp only
  cases hf : formFor (upB x) with
  | none => exact Small.zero 0
  | some r =>
    simp only
    have hr := (formTab_find hf).1
    have ho : ArgsOk l := fun y hy => by have := h y hy; omega
    have hall : ∀ k, k ≤ r.fns.length → Small (readAll (r.fns.take k) (Rd.start r.kind l)).c ∧ Tiny (readAll (r.fns.take k) (Rd.start r.kind l)).args := by
      intro k
      induction k with
      | zero => exact fun _ => ⟨Small.zero _, h⟩
      | succ k ih =>
        intro hk
        obtain ⟨i1, i2⟩ := ih (by omega)
        have hp := (formPre r hr l ho k (by omega)).2
        rw [readAll_take r.fns k (by omega)]
        exact ⟨small_apply _ _ i2 hp.2.1 hp.2.2 i1, fun y hy => i2 y (applyF_args _ _ y hy)⟩
    have hfin := (hall r.fns.length (Nat.le_refl _)).1
    rw [List.take_length] at hfin
    unfold parseRow
    split
    · exact Small.zero 0
    · split
      · exact hfin
      · exact Small.zero 0
theorem small_parseF (l : List ByteArray) (h : Tiny l) : Small (parseF l).1 := by
  cases l with
  | nil => exact Small.zero 0
  | cons x l => exact small_parse x l (fun y hy => h y (List.mem_cons_of_mem _ hy))
def EarlyB (l : List ByteArray) (c : Cmd) : Prop := 60 < l.length ∨ 2000 < longL l ∨ 1000 < long18 c
instance (l : List ByteArray) (c : Cmd) : Decidable (EarlyB l c) := by unfold EarlyB; infer_instance
theorem StrsIn.mono {w : World} {B B' : Nat} {v : Value} {l : List ByteArray} (h : StrsIn w B v l) (hB : B ≤ B') : StrsIn w B' v l := by
  obtain ⟨a, c, h1, h2, h3, h4⟩ := h
  refine ⟨a, c, h1, h2, h3, fun hne => ?_⟩
  obtain ⟨b, o, h5, h6, h7⟩ := h4 hne
  exact ⟨b, o, h5, by omega, h7⟩
theorem print_ok {c : Cmd} (h : Small c) : ArgsOk (printF c) := by
  unfold printF
  split
  · exact words_ok h
  · intro x hx; cases hx
def lowTo (X : ByteArray) (k : Nat) : ByteArray := ⟨((X.data.toList.take k).map fun c => c + 32).toArray⟩
theorem lowTo_succ (X : ByteArray) (k : Nat) (b : UInt8) (h : X.data.toList[k]? = some b) : lowTo X (k + 1) = lowTo X k ++ ⟨#[b + 32]⟩ := by
  obtain ⟨hk, rfl⟩ := List.getElem?_eq_some_iff.1 h
  apply string_ext
  simp only [lowTo, ByteArray.data_append, Array.toList_append]
  rw [List.take_succ_eq_append_getElem hk, List.map_append]
  simp
theorem lowTo_all (X : ByteArray) : lowTo X X.size = lowB X := by
  unfold lowTo lowB
  have : X.data.toList.take X.size = X.data.toList := List.take_of_length_le (by simp)
  rw [this]
theorem lowTo_size (X : ByteArray) (k : Nat) (hk : k ≤ X.size) : (lowTo X k).size = k := by
  show (((X.data.toList.take k).map fun c => c + 32).toArray).size = k
  simp only [List.size_toArray, List.length_map, List.length_take]
  have : X.data.toList.length = X.size := Array.length_toList
  omega
theorem low_num (b : UInt8) : strOfNums [((b.toNat : Int) + 32) % 256] = ⟨#[b + 32]⟩ := by
  have h1 : (((b.toNat : Int) + 32) % 256).toNat = (b + 32).toNat := by
    rw [UInt8.toNat_add]
    have : (32 : UInt8).toNat = 32 := rfl
    rw [this]; omega
  show (⟨#[UInt8.ofNat ((((b.toNat : Int) + 32) % 256).toNat)]⟩ : ByteArray) = _
  rw [h1, UInt8.ofNat_toNat]
theorem conv1 (w : World) (n : Int) : (convert 39 9 (.slice (some ⟨w.heap.size, 0, none⟩) 1 1)).run Tryz.prog (w.alloc (.cells #[.int .u8 n] 5)) = .ok (.string (strOfNums [n])) (w.alloc (.cells #[.int .u8 n] 5)) :=
  run_convert_bytes_arg (P := Tryz.prog) _ 39 5 Tryz.underlying39 Tryz.underlying5 w.heap.size 0 1 1 [n] rfl (fun i hi => by
    obtain rfl : i = 0 := by omega
    rw [cell_of_block (block_new w _)]; rfl) 9 Tryz.underlying9
theorem CmdIn.apart {w w' : World} {B g : Nat} {v : Value} {c : Cmd} (h : CmdIn w B v c) (hk : Keep (fun j => j = g) w w') (hB : B ≤ g) : CmdIn w' B v c := by
  obtain ⟨pv, wv, h1, ⟨a, n, h2, h3, h4, h5⟩, ⟨a', n', h2', h3', h4', h5'⟩⟩ := h
  refine ⟨pv, wv, h1, ⟨a, n, h2, h3, h4, fun hne => ?_⟩, ⟨a', n', h2', h3', h4', fun hne => ?_⟩⟩
  · obtain ⟨b, o, e1, e2, e3⟩ := h5 hne
    exact ⟨b, o, e1, e2, fun j x hj => hk.cell (e3 j x hj) (by intro e; simp only at e; omega)⟩
  · obtain ⟨b, o, e1, e2, e3⟩ := h5' hne
    exact ⟨b, o, e1, e2, fun j x hj => hk.cell (e3 j x hj) (by intro e; simp only at e; omega)⟩
set_option maxHeartbeats 40000000 in
set_option maxRecDepth 100000 in
theorem CommandBack_any (v0 v1 : Value) (l : List ByteArray) (c : Cmd) (w : World) (h0 : StrsIn w w.heap.size v0 l) (hfit : longL l ≤ 4611686018427387904) (h1 : CmdIn w w.heap.size v1 c) (hs : Small c) (hg : Glob w) (hb : 9 < w.heap.size) :
    Calls Tryz.prog 5 #[v0, v1] w fun e w' => e = .returned (.bool true) ∧ Keep (fun _ => False) w w' := by
  have HC := Lib.hid h1
  have HA := Lib.hid h0
  have hpr := fun W hW => CPrint_any v1 c W hW hs
  have hlg := fun B W hW => Long18_any v1 c B W hW (long18_small hs)
  obtain ⟨pa, pc, wa, wcap, rfl⟩ := h1.slices
  obtain ⟨aa, ac, rfl, hal, ham, -⟩ := h0
  simp only [cmdCells] at hpr hlg ⊢
  have HPR := Lib.hid hpr
  have HLG := Lib.hid hlg
  clear h1 hpr hlg
  go_enter Tryz.func5, Tryz.ntmps5
  go_upto_region 1 with fail
  have k1 : Keep (fun _ => False) w (w.alloc (cmdBox c pa pc wa wcap)) := (Keep.refl _ _).alloc _
  have hb1 : (w.alloc (cmdBox c pa pc wa wcap)).heap[w.heap.size]? = some (cmdBox c pa pc wa wcap) := block_new w _
  have hcm := (HC.out.keep k1).mono k1.size
  have ha1 := HA.out.keep k1
  have hsz1 := k1.size
  obtain ⟨cb, hcb⟩ : ∃ cb, cb = w.heap.size := ⟨_, rfl⟩
  rw [← hcb] at hb1 ⊢
  clear hcb
  generalize w.alloc (cmdBox c pa pc wa wcap) = w1 at *
  have hcc := cell_of_block hb1
  have K1 := Lib.hid k1
  clear k1
  go_cut [29] from 17 to 28 (fun b wx => b = .bool (decide (EarlyB l c)) ∧ Keep (fun _ => False) w1 wx)
  case first =>
    have hL := Long03_any _ l _ w1 ha1 (by omega)
    have hL8 := HLG.out w1.heap.size w1 hcm
    clear hcm ha1
    by_cases q1 : (60 : Int) < (l.length : Int)
    · have HE : Hid (decide (EarlyB l c) = true) := decide_eq_true (.inl (by omega))
      go_wp2_with fail
      go_meet
      case rel => exact ⟨(by first | (rw [HE.out]; done) | (rw [HE.out]; congr 1; simp; omega)), Keep.refl _ _⟩
    · go_wp2_with fail
      refine hL.mono ?_
      rintro e w2 ⟨rfl, rfl⟩
      by_cases q2 : (2000 : Int) < (longL l : Int)
      · have HE : Hid (decide (EarlyB l c) = true) := decide_eq_true (.inr (.inl (by omega)))
        go_wp2_with fail
        go_meet
        case rel => exact ⟨(by first | (rw [HE.out]; done) | (rw [HE.out]; congr 1; simp; omega)), Keep.refl _ _⟩
      · go_wp2_with fail
        refine hL8.mono ?_
        rintro e w3 ⟨rfl, k3⟩
        have K3 := Lib.hid k3
        clear k3 hL hL8 hb1 hcc
        by_cases q3 : (1000 : Int) < (long18 c : Int)
        · have HE : Hid (decide (EarlyB l c) = true) := decide_eq_true (.inr (.inr (by omega)))
          go_wp2_with fail
          go_meet
          case rel => exact ⟨(by first | (rw [HE.out]; done) | (rw [HE.out]; congr 1; simp; omega)), K3.out⟩
        · have HE : Hid (decide (EarlyB l c) = false) := decide_eq_false (by unfold EarlyB; omega)
          go_wp2_with fail
          go_meet
          case rel => exact ⟨(by first | (rw [HE.out]; done) | (rw [HE.out]; congr 1; simp; omega)), K3.out⟩
  case rest =>
    obtain ⟨rfl, k3⟩ := hcut
    have K3 := Lib.hid (K1.out.trans k3)
    have hb3 := k3.get hb1 id
    have hcm3 := (hcm.keep k3).mono k3.size
    have ha3 := (HA.out.keep K3.out)
    have hsz3 : w.heap.size ≤ wc.heap.size := K3.out.size
    clear k3 hb1 hcm ha1 hcc K1 hsz1
    by_cases hE : EarlyB l c
    · have hd : decide (EarlyB l c) = true := by simpa using hE
      rw [hd]
      clear hd hE
      go_wp2_with fail
      have g8 := glob_keep hg hb K3.out
      refine (known_any _ g8.1 g8.2).mono ?_
      rintro en w9 ⟨rfl, hk9⟩
      have HK9 := Lib.hid (K3.out.trans hk9)
      clear g8 hk9
      go_wp2
      go_ret
      exact ⟨rfl, HK9.out⟩
    · have hd : decide (EarlyB l c) = false := by simpa using hE
      rw [hd]
      have e1 : ¬ 60 < l.length := fun h => hE (.inl h)
      have e2 : ¬ 2000 < longL l := fun h => hE (.inr (.inl h))
      have hcc := cell_of_block hb3
      have g3 := glob_keep hg hb K3.out
      clear hd hE
      go_wp2_with fail
      refine (HPR.out wc hcm3 g3.1 g3.2).mono ?_
      rintro e w4 ⟨rv, rfl, hown, k4⟩
      obtain ⟨ra, rc, rfl⟩ := owns_slice hown
      have hb4 := k4.get hb3 id
      have hcm4 := (hcm3.keep k4).mono k4.size
      have ha4 := ha3.keep k4
      have K4 := Lib.hid (K3.out.trans k4)
      have hrs : StrsIn w4 w4.heap.size (.slice ra (printF c).length rc) (printF c) := RowIn.strs (RowIn.of_owns hown)
      have hsz4 := Nat.le_trans hsz3 k4.size
      clear hown k4 hb3 hcm3 ha3 hcc g3 hsz3
      go_upto_if 35 with fail
      go_cut [6, 7] from 35 to 48 (fun _ _ wx => Keep (fun _ => False) w4 wx)
      case first =>
        by_cases hp : printF c = []
        · have hz : ¬ (0 : Int) < ((printF c).length : Int) := by simp [hp]
          clear hp
          go_wp2_with fail
          go_meet
          case rel => exact Keep.refl _ _
        · have hz : (0 : Int) < ((printF c).length : Int) := by
            have := List.length_pos_iff.2 hp
            omega
          obtain ⟨hpar, hpe⟩ := printF_ne hp
          have g4 := glob_keep hg hb K4.out
          have hP := CParse_any _ (printF c) w4 hrs (print_ok hs) g4.1 g4.2
          rw [hpe, hpar, ← hpe] at hP
          clear hp hpar hpe g4
          go_wp2_with fail
          refine hP.mono ?_
          rintro e w5 ⟨cv, rfl, hcv, k5⟩
          obtain ⟨pa2, pc2, wa2, wc2, rfl⟩ := hcv.slices
          simp only [cmdCells] at hcv ⊢
          have hd6 := block_new w5 (.cells #[.int .i64 c.kind, .string c.name, .int .i64 c.pol.kind, .int .i64 c.pol.limit, .int .i64 c.pol.period, .int .i64 c.pol.burst, .int .i64 c.pol.cap, .bool c.pol.opn, .slice pa2 c.path.length pc2, .slice wa2 c.wishes.length wc2, .int .i64 c.n] 31)
          have k6 : Keep (fun _ => False) w5 (w5.alloc (.cells #[.int .i64 c.kind, .string c.name, .int .i64 c.pol.kind, .int .i64 c.pol.limit, .int .i64 c.pol.period, .int .i64 c.pol.burst, .int .i64 c.pol.cap, .bool c.pol.opn, .slice pa2 c.path.length pc2, .slice wa2 c.wishes.length wc2, .int .i64 c.n] 31)) := (Keep.refl _ _).alloc _
          have hb6 := k6.get (k5.get hb4 id) id
          have hS := CSame_any _ _ c c _ _ ((hcm4.keep (k5.trans k6)).mono (k5.trans k6).size) ((hcv.keep k6).mono k6.size)
          have hdt : decide (c = c) = true := by simp
          rw [hdt] at hS
          have hcc6 := cell_of_block hb6
          have hcd6 := cell_of_block hd6
          have K6 := Lib.hid (k5.trans k6)
          clear hP hcv k5 k6 hb6 hd6 hdt hb4 hcm4 ha4 hrs
          go_wp2_with fail
          refine hS.mono ?_
          rintro e w7 ⟨rfl, k7⟩
          have K7 := Lib.hid (K6.out.trans k7)
          clear hS k7
          go_wp2_with fail
          go_meet
          case rel => exact K7.out
      case rest =>
        have K5 := Lib.hid (K4.out.trans hcut)
        have ha5 := (ha4.keep hcut)
        have hszc := hcut.size
        clear hcut hb4 hcm4 ha4 hrs
        have hto : Tiny l := fun x hx => by have := longL_mem l x hx; omega
        have hao : ArgsOk l := fun x hx => by have := hto x hx; omega
        have g5 := glob_keep hg hb K5.out
        have hP := CParse_any _ l wc (ha5.mono K5.out.size) hao g5.1 g5.2
        clear g5
        go_wp2_with fail
        refine hP.mono ?_
        rintro e w6 ⟨cv, rfl, hcv, k6⟩
        obtain ⟨T, hT⟩ : ∃ T, T = parseF l := ⟨_, rfl⟩
        rw [← hT] at hcv ⊢
        have hsd : Small T.1 := by rw [hT]; exact small_parseF l hto
        obtain ⟨pa2, pc2, wa2, wc2, rfl⟩ := hcv.slices
        have hd7 := block_new w6 (.cells (cmdCells T.1 (.slice pa2 T.1.path.length pc2) (.slice wa2 T.1.wishes.length wc2)) 31)
        have k7 : Keep (fun _ => False) w6 (w6.alloc (.cells (cmdCells T.1 (.slice pa2 T.1.path.length pc2) (.slice wa2 T.1.wishes.length wc2)) 31)) := (Keep.refl _ _).alloc _
        have hcv7 := (hcv.keep k7).mono k7.size
        have K7 := Lib.hid (K5.out.trans (k6.trans k7))
        obtain ⟨tb, htb⟩ : ∃ tb, tb = w6.heap.size := ⟨_, rfl⟩
        simp only [cmdCells] at hd7 hcv7 K7 ⊢
        have HTT := Lib.hid hT
        clear hP hcv k6 k7 hT
        go_upto_region 9 with fail
        have hT := HTT.out
        clear HTT
        by_cases hT2 : T.2 = 0
        · have hl : l ≠ [] := by rintro rfl; rw [hT] at hT2; simp [parseF] at hT2
          obtain ⟨x, l', rfl⟩ : ∃ x l', l = x :: l' := by cases l with
            | nil => exact absurd rfl hl
            | cons x l' => exact ⟨x, l', rfl⟩
          have hpar : parseF (x :: l') = (T.1, 0) := by rw [← hT, ← hT2]
          obtain ⟨hback, hprn⟩ := parse_back hpar
          have hpar2 : parseF (upB x :: l') = (T.1, 0) := by rw [parseF_up l' (upB_idem x)]; exact hpar
          obtain ⟨rr, hrm, hrn, -⟩ := parseF_ok hpar
          have hfx : ∃ r, formFor (upB x) = some r := by
            cases hf : formFor (upB x) with
            | some r => exact ⟨r, rfl⟩
            | none => exfalso; have := parseF_unknown x l'; rw [hf, hpar] at this; simp at this
          obtain ⟨fr, hfr⟩ := hfx
          have hlow := low_up hfr
          have hpar3 : parseF (lowB (upB x) :: l') = (T.1, 0) := by rw [parseF_up (y := upB x) l' (by rw [hlow, upB_idem])]; exact hpar2
          have hXs : (upB x).size ≤ 10 := by
            have h : ∀ r ∈ formTab, r.name.size ≤ 10 := by decide
            rw [hrn]; exact h rr hrm
          have hpo : ArgsOk (upB x :: l') := by rw [← hprn]; exact print_ok hsd
          have hlo : ArgsOk (lowB (upB x) :: l') := fun z hz => by
            rcases List.mem_cons.1 hz with rfl | hz
            · have := lowTo_size (upB x) (upB x).size (Nat.le_refl _); rw [lowTo_all] at this; omega
            · exact hpo z (List.mem_cons_of_mem _ hz)
          obtain ⟨X, hX⟩ : ∃ X, X = upB x := ⟨_, rfl⟩
          rw [← hX] at hprn hpar2 hpar3 hXs hpo hlo
          obtain ⟨d, hd⟩ : ∃ d, d = T.1 := ⟨_, rfl⟩
          rw [← hd] at hprn hpar2 hpar3 hsd hd7 hcv7 K7 ⊢
          obtain ⟨NL, hNL⟩ : ∃ NL, NL = l'.length + 1 := ⟨_, rfl⟩
          simp only [List.length_cons] at ha5 ⊢
          rw [← hNL]
          rw [hT2]
          have HNL := Lib.hid hNL
          have HP2 := Lib.hid hpar2
          have HP3 := Lib.hid hpar3
          have HPO := Lib.hid hpo
          have HLO := Lib.hid hlo
          have HTB := Lib.hid htb
          clear hl hT hT2 hback hrm hrn hfr hlow hX hd hpar hto hao hNL hpar2 hpar3 hpo hlo ha5 rr fr
          rw [← htb] at hd7 ⊢
          clear htb
          generalize w6.alloc (.cells #[.int .i64 d.kind, .string d.name, .int .i64 d.pol.kind, .int .i64 d.pol.limit, .int .i64 d.pol.period, .int .i64 d.pol.burst, .int .i64 d.pol.cap, .bool d.pol.opn, .slice pa2 d.path.length pc2, .slice wa2 d.wishes.length wc2, .int .i64 d.n] 31) = w7 at *
          have hcd := cell_of_block hd7
          have g7 := glob_keep hg hb K7.out
          have hPr := CPrint_any _ d w7 hcv7 hsd g7.1 g7.2
          clear g7
          go_wp2_with fail
          refine hPr.mono ?_
          rintro e w8 ⟨rv, rfl, hown, k8⟩
          rw [hprn] at hown
          simp only [List.length_cons, List.map_cons] at hown
          rw [← HNL.out] at hown
          have HPN := Lib.hid hprn
          obtain ⟨g, gc, hrv, hgl, hg0⟩ : ∃ g gc, rv = .slice (some ⟨g, 0, none⟩) NL gc ∧ w7.heap.size ≤ g ∧ NL ≤ gc := by
            rcases hown.2 with ⟨-, h0⟩ | ⟨g, cap, cur, h1, h2, -, h3, -⟩
            · exact absurd h0 (by have := HNL.out; omega)
            · exact ⟨g, cap, h1, h2, h3⟩
          subst hrv
          have hd8 := k8.get hd7 id
          have hcv8 := (hcv7.keep k8).mono k8.size
          have hvB := hcv7.keep k8
          have K8 := Lib.hid (K7.out.trans k8)
          have hgt : tb ≠ g := by have := lt_of_block hd7; omega
          have HOW := Lib.hid hown
          have hrs : StrsIn w8 w8.heap.size (.slice (some ⟨g, 0, none⟩) NL gc) (X :: l') := RowIn.strs (l := X :: l') (by have := RowIn.of_owns hown; rw [HNL.out] at this ⊢; exact this)
          have g8 := glob_keep hg hb K8.out
          have hP := CParse_any _ (X :: l') w8 hrs HPO.out g8.1 g8.2
          rw [HP2.out] at hP
          clear hPr hown k8 hd7 hcv7 hcd hrs g8 hprn
          go_wp2_with fail
          refine hP.mono ?_
          rintro e w9 ⟨cv9, rfl, hcv9, k9⟩
          obtain ⟨pa9, pc9, wa9, wc9, rfl⟩ := hcv9.slices
          simp only [cmdCells] at hcv9 ⊢
          have hf10 := block_new w9 (.cells #[.int .i64 d.kind, .string d.name, .int .i64 d.pol.kind, .int .i64 d.pol.limit, .int .i64 d.pol.period, .int .i64 d.pol.burst, .int .i64 d.pol.cap, .bool d.pol.opn, .slice pa9 d.path.length pc9, .slice wa9 d.wishes.length wc9, .int .i64 d.n] 31)
          have k10 : Keep (fun _ => False) w9 (w9.alloc (.cells #[.int .i64 d.kind, .string d.name, .int .i64 d.pol.kind, .int .i64 d.pol.limit, .int .i64 d.pol.period, .int .i64 d.pol.burst, .int .i64 d.pol.cap, .bool d.pol.opn, .slice pa9 d.path.length pc9, .slice wa9 d.wishes.length wc9, .int .i64 d.n] 31)) := (Keep.refl _ _).alloc _
          have kk := k9.trans k10
          have hd10 := kk.get hd8 id
          have hcv10 := (hcv8.keep kk).mono kk.size
          have hvB := hvB.keep kk
          have hS := CSame_any _ _ d d _ _ hcv10 ((hcv9.keep k10).mono k10.size)
          have hdt : decide (d = d) = true := by simp
          rw [hdt] at hS
          have K10 := Lib.hid (K8.out.trans kk)
          have HOW10 := Lib.hid (kk.ownsRow HOW.out (fun _ _ => id))
          have hcd := cell_of_block hd10
          have hcf := cell_of_block hf10
          have b1 : (((NL : Int)) != (NL : Int)) = false := by simp
          have b2 : (((NL : Int)) == 0) = false := by have := HNL.out; simp; omega
          clear hP hcv9 k9 k10 kk hd8 hcv8 hdt HOW K8
          go_upto_region 13 with fail
          go_cut [88] from 69 to 87 (fun b wx => b = .bool false ∧ Keep (fun _ => False) (w9.alloc (.cells #[.int .i64 d.kind, .string d.name, .int .i64 d.pol.kind, .int .i64 d.pol.limit, .int .i64 d.pol.period, .int .i64 d.pol.burst, .int .i64 d.pol.cap, .bool d.pol.opn, .slice pa9 d.path.length pc9, .slice wa9 d.wishes.length wc9, .int .i64 d.n] 31)) wx)
          case first =>
            go_wp2_with fail
            refine hS.mono ?_
            rintro e w11 ⟨rfl, k11⟩
            have K11 := Lib.hid k11
            clear hS k11
            go_wp2_with fail
            go_meet
            case rel => exact ⟨rfl, K11.out⟩
          case rest =>
            obtain ⟨rfl, k11⟩ := hcut
            have K11 := Lib.hid (K10.out.trans k11)
            have HOW11 := Lib.hid (k11.ownsRow HOW10.out (fun _ _ => id))
            have hd11 := k11.get hd10 id
            have hvB := hvB.keep k11
            clear k11 hS hcd hcf hf10 hd10 hcv10 K10 HOW10 b1 b2
            have hcg : wc.cell? ⟨g, 0, none⟩ = some (.string X) := by
              have := HOW11.out.cells (g := g) rfl 0 (.string X) rfl
              simpa [Addr.add] using this
            obtain ⟨cur, hgg, hcu, hcs, hgm⟩ : ∃ cur, wc.heap[g]? = some (.cells cur 9 (0, 0)) ∧ cur.toList.take NL = (X :: l').map .string ∧ NL ≤ cur.size ∧ gc ≤ 9223372036854775807 := by
              rcases HOW11.out.2 with ⟨hh, -⟩ | ⟨g', cap, cur, hh, -, hgg, h3, h4, h5, h6⟩
              · cases hh
              · simp only [Value.slice.injEq, Option.some.injEq, Addr.mk.injEq, and_true, true_and] at hh
                obtain ⟨rfl, rfl⟩ := hh
                exact ⟨cur, hgg, by rw [Nat.mul_one] at h6; exact h6, by omega, by unfold maxLen at h4; exact h4⟩
            have HGG := Lib.hid hgg
            have HCU := Lib.hid hcu
            have HVB := Lib.hid hvB
            have HD11 := Lib.hid hd11
            clear hgg hcu hvB hd11
            have hNL1 : 1 ≤ NL := by have := HNL.out; omega
            go_upto_region 16 with fail
            go_wp2_with fail
            go_loopw [13, 14] (fun s i wr => ∃ k : Nat, k ≤ X.size ∧ i = .int .i64 k ∧ s = .string (lowTo X k) ∧ Keep (fun _ => False) wc wr) (fun _ i _ => X.size - (intOf i).toNat)
            case atStart => exact ⟨0, Nat.zero_le _, rfl, rfl, Keep.refl _ _⟩
            case round =>
              obtain ⟨k, hk, rfl, rfl, hkr⟩ := hrel
              have hcr := hkr.cell hcg id
              by_cases hlt : k < X.size
              · have hlt2 : (k : Int) < (X.size : Int) := by omega
                obtain ⟨b, hbx⟩ : ∃ b, X.data.toList[k]? = some b := ⟨_, List.getElem?_eq_getElem (by simpa using hlt)⟩
                have hix := idx_string X k b hbx
                have hls := lowTo_size X k hk
                have hsu := lowTo_succ X k b hbx
                have HSU := Lib.hid hsu
                have hz0 : ¬ 9223372036854775807 < (lowTo X k).size + 1 := by omega
                clear hbx hsu
                have hcv := conv1 wr (((b.toNat : Int) + 32) % 256)
                rw [low_num] at hcv
                have hk2 := hkr.alloc (.cells #[.int .u8 (((b.toNat : Int) + 32) % 256)] 5)
                have HK2 := Lib.hid hk2
                have hfk : X.size ≤ 10 := hXs
                clear hk2
                go_wp2_with fail
                go_roundw
                case rel => exact ⟨k + 1, by omega, by go_num, by rw [HSU.out], HK2.out⟩
                case measure => simp [intOf]; omega
              · have hke : k = X.size := by omega
                have hlt2 : ¬ ((k : Int) < (X.size : Int)) := by omega
                subst hke
                rw [lowTo_all]
                have hgb := hkr.get HGG.out id
                have hgr := free_of_block hgb
                have hgc := cell_of_block hgb
                go_upto_region 21 with fail
                have hs12 := block_setCell hgb 0 (.string (lowB X))
                have kS : Keep (fun j => j = g) wr (wr.setCell ⟨g, 0, none⟩ (.string (lowB X))) := (Keep.refl (fun j => j = g) wr).setCell (p := ⟨g, 0, none⟩) (.inl rfl) _
                have hgw : w.heap.size ≤ g := Nat.le_trans K7.out.size hgl
                have K12 := Lib.hid ((K11.out.trans hkr).step kS (fun k hk e => by omega))
                have hd12 := kS.get (hkr.get HD11.out id) hgt
                have hvS := (HVB.out.keep hkr).apart kS hgl
                have hrs : StrsIn (wr.setCell ⟨g, 0, none⟩ (.string (lowB X))) (wr.setCell ⟨g, 0, none⟩ (.string (lowB X))).heap.size (.slice (some ⟨g, 0, none⟩) NL gc) (lowB X :: l') := by
                  refine ⟨_, gc, by rw [HNL.out]; rfl, by have := HNL.out; simp; omega, hgm, fun _ => ⟨g, 0, rfl, lt_of_block hs12, fun j z hj => ?_⟩⟩
                  rw [Nat.zero_add, cell_of_block hs12]
                  cases j with
                  | zero =>
                    simp only [List.getElem?_cons_zero, Option.some.injEq] at hj
                    subst hj
                    rw [Array.getElem?_setIfInBounds, if_pos rfl, if_pos (by omega)]
                  | succ j =>
                    rw [Array.getElem?_setIfInBounds, if_neg (by omega)]
                    have h2 : ((X :: l').map Value.string)[j + 1]? = some (.string z) := by
                      rw [List.getElem?_map]
                      simp only [List.getElem?_cons_succ] at hj ⊢
                      rw [hj]; rfl
                    rw [← HCU.out, List.getElem?_take] at h2
                    split at h2
                    · rw [← h2, Array.getElem?_toList]
                    · cases h2
                have g12 := glob_keep hg hb K12.out
                have hP := CParse_any _ (lowB X :: l') _ hrs HLO.out g12.1 g12.2
                rw [HP3.out] at hP
                have hsS : w7.heap.size ≤ (wr.setCell ⟨g, 0, none⟩ (.string (lowB X))).heap.size := by have := lt_of_block hs12; omega
                clear hrs g12 hs12 kS hgb hgr hgc hcr hkr hcg hgm hcs
                generalize wr.setCell ⟨g, 0, none⟩ (.string (lowB X)) = w12 at *
                go_wp2_with fail
                refine hP.mono ?_
                rintro e w13 ⟨cv13, rfl, hcv13, k13⟩
                obtain ⟨pa13, pc13, wa13, wc13, rfl⟩ := hcv13.slices
                simp only [cmdCells] at hcv13 ⊢
                have hf14 := block_new w13 (.cells #[.int .i64 d.kind, .string d.name, .int .i64 d.pol.kind, .int .i64 d.pol.limit, .int .i64 d.pol.period, .int .i64 d.pol.burst, .int .i64 d.pol.cap, .bool d.pol.opn, .slice pa13 d.path.length pc13, .slice wa13 d.wishes.length wc13, .int .i64 d.n] 31)
                have k14 : Keep (fun _ => False) w13 (w13.alloc (.cells #[.int .i64 d.kind, .string d.name, .int .i64 d.pol.kind, .int .i64 d.pol.limit, .int .i64 d.pol.period, .int .i64 d.pol.burst, .int .i64 d.pol.cap, .bool d.pol.opn, .slice pa13 d.path.length pc13, .slice wa13 d.wishes.length wc13, .int .i64 d.n] 31)) := (Keep.refl _ _).alloc _
                have kk := k13.trans k14
                have hd14 := kk.get hd12 id
                have hS := CSame_any _ _ d d _ _ ((hvS.keep kk).mono (Nat.le_trans hsS kk.size)) ((hcv13.keep k14).mono k14.size)
                have hdt : decide (d = d) = true := by simp
                rw [hdt] at hS
                have K14 := Lib.hid (K12.out.trans kk)
                have hcd := cell_of_block hd14
                have hcf := cell_of_block hf14
                clear hP hcv13 k13 k14 kk hdt hd12 hvS
                go_wp2_with fail
                refine hS.mono ?_
                rintro e w15 ⟨rfl, k15⟩
                have K15 := Lib.hid (K14.out.trans k15)
                clear hS k15 hcd hcf
                go_wp2_with fail
                have g8 := glob_keep hg hb K15.out
                refine (known_any _ g8.1 g8.2).mono ?_
                rintro en w16 ⟨rfl, hk9⟩
                have HK9 := Lib.hid (K15.out.trans hk9)
                clear g8 hk9
                go_wp2
                go_ret
                exact ⟨rfl, HK9.out⟩
        · have hz1 : T.1 = Cmd.zero := by rw [hT]; exact parseF_zero l (by rw [← hT]; exact hT2)
          have hb2 : (T.2 != 0) = true := by simpa using hT2
          have hcd := cell_of_block hd7
          have hS := Same18_any _ _ T.1 Cmd.zero _ _ hcv7 (CmdIn.zero _ _)
          have hdt : decide (T.1 = Cmd.zero) = true := by simpa using hz1
          rw [hdt] at hS
          clear hdt hz1 hT2 hd7 hcv7 hT
          go_wp2_with fail
          refine hS.mono ?_
          rintro e w8 ⟨rfl, k8⟩
          have K8 := Lib.hid (K7.out.trans k8)
          clear hS k8 hcd
          go_wp2_with fail
          have g8 := glob_keep hg hb K8.out
          refine (known_any _ g8.1 g8.2).mono ?_
          rintro en w9 ⟨rfl, hk9⟩
          have HK9 := Lib.hid (K8.out.trans hk9)
          clear g8 hk9
          go_wp2
          go_ret
          exact ⟨rfl, HK9.out⟩
end Go.Proofs.YtamjhnibenonjaaGreatDoor
