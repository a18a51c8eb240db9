/- tapsterlaw18.CommandWishes: the walk. -/
import Derived.Test.YtamjhnibenonjaaGreatDoorSSmall
import Derived.Test.YtamjhnibenonjaaGreatDoorPNamed12
import Derived.Test.YtamjhnibenonjaaGreatDoorPErrs2
import Derived.Deep.Cut
import Derived.Deep.CutRange
namespace Go.Proofs.YtamjhnibenonjaaGreatDoor
set_option linter.unusedVariables false
set_option linter.unusedSimpArgs false
open Go Go.RowKit
abbrev cmdBox (c : Cmd) (pa : Option Addr) (pc : Nat) (wa : Option Addr) (wcap : Nat) : Obj := .cells #[.int .i64 c.kind, .string c.name, .int .i64 c.pol.kind, .int .i64 c.pol.limit, .int .i64 c.pol.period, .int .i64 c.pol.burst, .int .i64 c.pol.cap, .bool c.pol.opn, .slice pa c.path.length pc, .slice wa c.wishes.length wcap, .int .i64 c.n] 31
abbrev wishBox (y : Wish) : Obj := .cells #[.string y.name, .int .i64 y.deep, .int .i64 y.cost] 42
def EarlyW (c : Cmd) (y : Wish) : Prop := 1000 < long18 c ∨ 60 < y.name.size ∨ printF c = [] ∨ ¬ (c.kind = 4 ∨ c.kind = 5 ∨ c.kind = 6)
instance (c : Cmd) (y : Wish) : Decidable (EarlyW c y) := by unfold EarlyW; infer_instance
instance (y : Wish) : Decidable (WishOk y) := by unfold WishOk; infer_instance
def MayW (c : Cmd) (y : Wish) : Prop := WishOk y ∧ c.wishes.length + 1 ≤ 20
instance (c : Cmd) (y : Wish) : Decidable (MayW c y) := by unfold MayW; infer_instance
theorem slice_head (g n c h : Nat) (hn : h ≤ c) (hc : 0 < c) (W : World) : (Instr.slice 22 (.slice (some ⟨g, 0, none⟩) n c) none (some (.int .i64 (h : Int))) none).run Tryz.prog W = .ok (.slice (some ⟨g, 0, none⟩) h c) W := by
  have hsz : ∀ W, (sizeOf (Tryz.prog.elem 22)).run Tryz.prog W = .ok 1 W := fun _ => by kernel_rfl
  rw [run_slice_h (w := W) 22 _ _ _ (by kernel_rfl) .i64 (h : Int) (by omega) (by omega), hsz]
  simp only [Result.andThen, sliced]
  rw [if_neg (by omega)]
  simp [Addr.add]
theorem strs_head {w : World} {base : Nat} {v : Value} {l m : List ByteArray} (h : w.ownsRow base 9 1 v (l ++ m).length ((l ++ m).map .string)) (hne : l ++ m ≠ []) :
    ∃ g c, v = .slice (some ⟨g, 0, none⟩) (l ++ m).length c ∧ (l ++ m).length ≤ c ∧ 0 < c ∧ StrsIn w w.heap.size (.slice (some ⟨g, 0, none⟩) l.length c) l := by
  have hr := RowIn.of_owns h
  rcases h.2 with ⟨-, h0⟩ | ⟨g, cap, cur, rfl, hb, hg, hn, hm, -⟩
  · exact absurd (List.eq_nil_of_length_eq_zero h0) hne
  · have hpos : 0 < (l ++ m).length := List.length_pos_iff.2 hne
    refine ⟨g, cap, rfl, hn, by omega, ?_⟩
    obtain ⟨a, c, hv, -, -, hx⟩ := hr
    simp only [Value.slice.injEq, true_and] at hv
    obtain ⟨rfl, rfl⟩ := hv
    obtain ⟨b, o, ha, hbb, hcell⟩ := hx (by omega)
    simp only [Option.some.injEq, Addr.mk.injEq, and_true] at ha
    obtain ⟨rfl, rfl⟩ := ha
    have hle : l.length ≤ (l ++ m).length := by simp
    unfold maxLen at hm
    refine ⟨_, _, rfl, by omega, by omega, fun _ => ⟨g, 0, rfl, hbb, fun j x hj => hcell j _ ?_⟩⟩
    rw [List.getElem?_map, List.getElem?_append_left (List.getElem?_eq_some_iff.1 hj).1, hj]; rfl
set_option maxHeartbeats 40000000 in
set_option maxRecDepth 100000 in
theorem CommandWishes_any (v : Value) (c : Cmd) (y : Wish) (w : World) (h : CmdIn w w.heap.size v c) (hs : Small c) (hy : y.name.size ≤ 2000000 ∧ (-9223372036854775808 ≤ y.deep ∧ y.deep ≤ 9223372036854775807) ∧ (-9223372036854775808 ≤ y.cost ∧ y.cost ≤ 9223372036854775807)) (hg : Glob w) (hb : 9 < w.heap.size) :
    Calls Tryz.prog 6 #[v, .agg #[.string y.name, .int .i64 y.deep, .int .i64 y.cost]] w fun e w' => e = .returned (.bool true) ∧ Keep (fun _ => False) w w' := by
  have HC := Lib.hid h
  have hpr := fun W hW => CPrint_any v c W hW hs
  have hlg := fun B W hW => Long18_any v c B W hW (long18_small hs)
  obtain ⟨pa, pc, wa, wcap, rfl⟩ := h.slices
  simp only [cmdCells] at hpr hlg ⊢
  have HPR := Lib.hid hpr
  have HLG := Lib.hid hlg
  clear h hpr hlg
  go_enter Tryz.func6, Tryz.ntmps6
  go_wp2_with fail
  have k1 : Keep (fun _ => False) w ((w.alloc (cmdBox c pa pc wa wcap)).alloc (wishBox y)) := ((Keep.refl _ _).alloc _).alloc _
  have hb1 : ((w.alloc (cmdBox c pa pc wa wcap)).alloc (wishBox y)).heap[w.heap.size]? = some (cmdBox c pa pc wa wcap) := block_alloc (block_new w _) _
  have hx1 := block_new (w.alloc (cmdBox c pa pc wa wcap)) (wishBox y)
  rw [World.size_alloc] at hx1
  have hcm := (HC.out.keep k1).mono k1.size
  obtain ⟨cb, hcb⟩ : ∃ cb, cb = w.heap.size := ⟨_, rfl⟩
  rw [← hcb] at hb1 hx1 ⊢
  generalize (w.alloc (cmdBox c pa pc wa wcap)).alloc (wishBox y) = w1 at *
  have hg1 := glob_keep hg hb k1
  refine (HPR.out w1 hcm hg1.1 hg1.2).mono ?_
  rintro e w2 ⟨rv, rfl, hown, k2⟩
  obtain ⟨ra, rc, rfl⟩ := owns_slice hown
  have hb2 := k2.get hb1 id
  have hx2 := k2.get hx1 id
  have hcm2 := (hcm.keep k2).mono k2.size
  have K2 := Lib.hid (k1.trans k2)
  have HOW := Lib.hid hown
  have hcc := cell_of_block hb2
  have hcx := cell_of_block hx2
  clear hown hg1 hb1 hx1 k1 k2 hcm hcb
  go_upto_region 2 with fail
  go_cut [39] from 11 to 38 (fun b wx => b = .bool (decide (EarlyW c y)) ∧ Keep (fun _ => False) w2 wx)
  case first =>
    go_wp2_with fail
    refine (HLG.out w2.heap.size w2 hcm2).mono ?_
    rintro e w3 ⟨rfl, k3⟩
    have hcc3 := cell_of_block (k3.get hb2 id)
    have hcx3 := cell_of_block (k3.get hx2 id)
    have K3 := Lib.hid k3
    clear hcc hcx k3 hb2 hx2 hcm2
    by_cases h1 : (1000 : Int) < (long18 c : Int)
    · have HE : Hid (decide (EarlyW c y) = true) := decide_eq_true (.inl (by omega))
      go_wp2_with fail
      go_meet
      case rel => exact ⟨(by first | (rw [HE.out]; done) | (rw [HE.out]; congr 1; simp; omega)), K3.out⟩
    · by_cases h2 : (60 : Int) < (y.name.size : Int)
      · have HE : Hid (decide (EarlyW c y) = true) := decide_eq_true (.inr (.inl (by omega)))
        go_wp2_with fail
        go_meet
        case rel => exact ⟨(by first | (rw [HE.out]; done) | (rw [HE.out]; congr 1; simp; omega)), K3.out⟩
      · by_cases h3 : printF c = []
        · have h3' : (((printF c).length : Int) == 0) = true := by simp [h3]
          have HE : Hid (decide (EarlyW c y) = true) := decide_eq_true (.inr (.inr (.inl h3)))
          clear h3
          go_wp2_with fail
          go_meet
          case rel => exact ⟨(by first | (rw [HE.out]; done) | (rw [HE.out]; congr 1; simp; omega)), K3.out⟩
        · have h3' : (((printF c).length : Int) == 0) = false := by
            have : (printF c).length ≠ 0 := fun e => h3 (List.eq_nil_of_length_eq_zero e)
            simp; omega
          have H3 := Lib.hid h3
          clear h3
          have hkk : c.kind = 4 ∨ c.kind = 5 ∨ c.kind = 6 ∨ (c.kind ≠ 4 ∧ c.kind ≠ 5 ∧ c.kind ≠ 6) := by omega
          rcases hkk with hk | hk | hk | ⟨n4, n5, n6⟩
          · have e4 : (c.kind != 4) = false := by rw [hk]; rfl
            have HE : Hid (decide (EarlyW c y) = false) := decide_eq_false (by unfold EarlyW; rintro (h | h | h | h); omega; omega; exact H3.out h; exact h (.inl hk))
            clear hk
            go_wp2_with fail
            go_meet
            case rel => exact ⟨(by first | (rw [HE.out]; done) | (rw [HE.out]; congr 1; simp; omega)), K3.out⟩
          · have e4 : (c.kind != 4) = true := by rw [hk]; rfl
            have e5 : (c.kind != 5) = false := by rw [hk]; rfl
            have HE : Hid (decide (EarlyW c y) = false) := decide_eq_false (by unfold EarlyW; rintro (h | h | h | h); omega; omega; exact H3.out h; exact h (.inr (.inl hk)))
            clear hk
            go_wp2_with fail
            go_meet
            case rel => exact ⟨(by first | (rw [HE.out]; done) | (rw [HE.out]; congr 1; simp; omega)), K3.out⟩
          · have e4 : (c.kind != 4) = true := by rw [hk]; rfl
            have e5 : (c.kind != 5) = true := by rw [hk]; rfl
            have e6 : (c.kind != 6) = false := by rw [hk]; rfl
            have HE : Hid (decide (EarlyW c y) = false) := decide_eq_false (by unfold EarlyW; rintro (h | h | h | h); omega; omega; exact H3.out h; exact h (.inr (.inr hk)))
            clear hk
            go_wp2_with fail
            go_meet
            case rel => exact ⟨(by first | (rw [HE.out]; done) | (rw [HE.out]; congr 1; simp; omega)), K3.out⟩
          · have e4 : (c.kind != 4) = true := by simpa using n4
            have e5 : (c.kind != 5) = true := by simpa using n5
            have e6 : (c.kind != 6) = true := by simpa using n6
            have HE : Hid (decide (EarlyW c y) = true) := decide_eq_true (.inr (.inr (.inr (by omega))))
            clear n4 n5 n6
            go_wp2_with fail
            go_meet
            case rel => exact ⟨(by first | (rw [HE.out]; done) | (rw [HE.out]; congr 1; simp; omega)), K3.out⟩
  case rest =>
    obtain ⟨rfl, k3⟩ := hcut
    have K3 := Lib.hid (K2.out.trans k3)
    by_cases hE : EarlyW c y
    · have hd : decide (EarlyW c y) = true := by simpa using hE
      rw [hd]
      clear hd hE hcc hcx
      go_wp2_with fail
      have g8 := glob_keep hg hb K3.out
      refine (known_any _ g8.1 g8.2).mono ?_
      rintro en w9 ⟨rfl, hk9⟩
      have HK9 := Lib.hid (K3.out.trans hk9)
      clear g8 hk9
      go_wp2
      go_ret
      exact ⟨rfl, HK9.out⟩
    · have hd : decide (EarlyW c y) = false := by simpa using hE
      rw [hd]
      have h1 : ¬ 1000 < long18 c := fun h => hE (.inl h)
      have h2 : ¬ 60 < y.name.size := fun h => hE (.inr (.inl h))
      have h3 : printF c ≠ [] := fun h => hE (.inr (.inr (.inl h)))
      have h4 : c.kind = 4 ∨ c.kind = 5 ∨ c.kind = 6 := by
        by_cases h : c.kind = 4 ∨ c.kind = 5 ∨ c.kind = 6
        · exact h
        · exact absurd (.inr (.inr (.inr h))) hE
      have hwp := wish_pos h4 h3
      have hb3 := k3.get hb2 id
      have hx3 := k3.get hx2 id
      have hcm3 := (hcm2.keep k3).mono k3.size
      have HOW3 := Lib.hid (k3.ownsRow HOW.out (fun _ _ => id))
      have hcc := cell_of_block hb3
      have hcx := cell_of_block hx3
      have H3 := Lib.hid h3
      have H4 := Lib.hid h4
      have HW := Lib.hid hcm3.ex
      clear hE hd HOW k3 hb2 hx2 hcm2 h3 h4
      obtain ⟨i0, hi, hz0, hz1, hz2'⟩ := info_parts infoWish
      have HI0 := Lib.hid hi
      have HZ0 := Lib.hid hz0
      have HZ1 := Lib.hid hz1
      have HZ2 := Lib.hid hz2'
      clear hi hz0 hz1 hz2'
      go_upto_region 6 with fail
      have hd5 := block_new wc (.cells #[.int .i64 c.kind, .string c.name, .int .i64 c.pol.kind, .int .i64 c.pol.limit, .int .i64 c.pol.period, .int .i64 c.pol.burst, .int .i64 c.pol.cap, .bool c.pol.opn, .slice pa c.path.length pc, .slice none 0 0, .int .i64 c.n] 31)
      have kd5 : Keep (fun _ => False) wc (wc.alloc (.cells #[.int .i64 c.kind, .string c.name, .int .i64 c.pol.kind, .int .i64 c.pol.limit, .int .i64 c.pol.period, .int .i64 c.pol.burst, .int .i64 c.pol.cap, .bool c.pol.opn, .slice pa c.path.length pc, .slice none 0 0, .int .i64 c.n] 31)) := (Keep.refl _ _).alloc _
      have hb5 := kd5.get hb3 id
      have hx5 := kd5.get hx3 id
      have hcm5 := (hcm3.keep kd5).mono kd5.size
      have hsz5 : wc.heap.size < (wc.alloc (.cells #[.int .i64 c.kind, .string c.name, .int .i64 c.pol.kind, .int .i64 c.pol.limit, .int .i64 c.pol.period, .int .i64 c.pol.burst, .int .i64 c.pol.cap, .bool c.pol.opn, .slice pa c.path.length pc, .slice none 0 0, .int .i64 c.n] 31)).heap.size := by simp
      obtain ⟨db, hdb⟩ : ∃ db, db = wc.heap.size := ⟨_, rfl⟩
      rw [← hdb] at hd5 hsz5 ⊢
      have hcd : cb ≠ db := by have := lt_of_block hb3; omega
      have hxd : cb + 1 ≠ db := by have := lt_of_block hx3; omega
      have HDB := Lib.hid hdb
      clear hcc hcx hcm3 hb3 hx3 hdb
      generalize wc.alloc (.cells #[.int .i64 c.kind, .string c.name, .int .i64 c.pol.kind, .int .i64 c.pol.limit, .int .i64 c.pol.period, .int .i64 c.pol.burst, .int .i64 c.pol.cap, .bool c.pol.opn, .slice pa c.path.length pc, .slice none 0 0, .int .i64 c.n] 31) = w5 at *
      have hcc := cell_of_block hb5
      have hcx := cell_of_block hx5
      have hcdd := cell_of_block hd5
      have hfdd := free_of_block hd5
      obtain ⟨pv', wv', hv', hp5, hw5⟩ := hcm5.ex
      simp only [cmdCells, Value.agg.injEq, Array.mk.injEq, List.cons.injEq, and_true, true_and] at hv'
      obtain ⟨rfl, rfl⟩ := hv'
      obtain ⟨wa', wc', hww, -, -, hwx⟩ := hw5
      simp only [Value.slice.injEq, true_and] at hww
      obtain ⟨rfl, rfl⟩ := hww
      obtain ⟨bb, o, rfl, hbb, hcel⟩ := hwx (by omega)
      have hnews : ∀ (j : Nat) (u : Value), (c.wishes.flatMap Wish.cells)[j]? = some u → w5.cell? ((⟨bb, o, none⟩ : Addr).add j) = some u := by
        intro j u hj
        rw [WideShapes.add_plain]
        exact hcel j u hj
      have hone : ∀ u ∈ c.wishes.flatMap Wish.cells, u.oneCell' = true := by
        intro u hu
        obtain ⟨x, hx, hu⟩ := List.mem_flatMap.1 hu
        simp only [Wish.cells, List.mem_cons, List.not_mem_nil, or_false] at hu
        rcases hu with rfl | rfl | rfl <;> rfl
      have hlenF : (c.wishes.flatMap Wish.cells).length = c.wishes.length * 3 := by
        have : ∀ l : List Wish, (l.flatMap Wish.cells).length = l.length * 3 := by
          intro l
          induction l with
          | nil => rfl
          | cons x l ih => rw [List.flatMap_cons, List.length_append, ih, List.length_cons]; simp [Wish.cells]; omega
        exact this _
      have HNW := Lib.hid hnews
      have HON := Lib.hid hone
      have HLF := Lib.hid hlenF
      have HP5 := Lib.hid hp5
      have KD5 := Lib.hid kd5
      have HD5 := Lib.hid hd5
      have HX5 := Lib.hid hx5
      have HXX := Lib.hid hx5
      clear hnews hone hlenF hcel hwx hp5 kd5 hd5 hx5 hcm5 hb5
      go_upto_region 7 with (at_builtin; refine wpList_append_own _ rfl _ _ 29 rfl w5.heap.size 42 i0 (.agg #[.string ⟨#[]⟩, .int .i64 0, .int .i64 0]) 3 32 Tryz.underlying29 HI0.out HZ0.out HZ1.out HZ2.out rfl (by decide) (.slice none 0 0) 0 [] rfl (World.ownsRow_nil _ _ _ _) ⟨bb, o, none⟩ c.wishes.length wcap (c.wishes.flatMap Wish.cells) rfl HLF.out HNW.out HON.out (by unfold maxLen; omega) (by omega) (Nat.le_refl _) ?_
                             intro v6 w6 hown6 hgrow6 hnil6
                             obtain ⟨ga, gc, rfl⟩ := owns_slice hown6
                             have hk6 : Keep (fun _ => False) w5 w6 := (Keep.refl _ w5).grown hgrow6 (fun k hk => by cases hk)
                             have HK6 := Lib.hid hk6
                             have hd6 := hk6.get HD5.out id
                             have hcd6 := cell_of_block hd6
                             have hfd6 := free_of_block hd6
                             have HD6 := Lib.hid hd6
                             have HO6 := Lib.hid hown6
                             clear hd6 hown6 hgrow6 hnil6 hk6)
      rw [Nat.zero_add, List.nil_append] at HO6
      have hd7 := block_setCell HD6.out 9 (.slice ga c.wishes.length gc)
      simp only [List.setIfInBounds_toArray, List.set_cons_zero, List.set_cons_succ] at hd7
      have k7 : Keep (fun j => j = db) w6 (w6.setCell ⟨db, 9, none⟩ (.slice ga c.wishes.length gc)) := (Keep.refl (fun j => j = db) w6).setCell (p := ⟨db, 9, none⟩) (.inl rfl) _
      have hlt6 := HO6.out.lt
      have ho7 := k7.ownsRow HO6.out (fun k hk e => by have := (hlt6 k hk).1; omega)
      have kk7 : Keep (fun _ => False) wc (w6.setCell ⟨db, 9, none⟩ (.slice ga c.wishes.length gc)) := (KD5.out.trans HK6.out).step k7 (fun k hk e => by have := HDB.out; omega)
      have hx7 := k7.get (HK6.out.get HX5.out id) hxd
      generalize w6.setCell ⟨db, 9, none⟩ (.slice ga c.wishes.length gc) = w7 at *
      have hcd7 := cell_of_block hd7
      have hfd7 := free_of_block hd7
      have hcx7 := cell_of_block hx7
      have HD7 := Lib.hid hd7
      have HO7 := Lib.hid ho7
      have HK7 := Lib.hid kk7
      have HX7 := Lib.hid hx7
      have hb7 : w5.heap.size ≤ w7.heap.size := Nat.le_trans HK6.out.size k7.size
      clear hd7 ho7 kk7 hx7 k7 HD6 HO6 HD5 HX5 HNW HON HLF hlt6 hcc hcx hcdd hfdd hcd6 hfd6 KD5 HK6
      have hpa7 := fun W (hk : Keep (fun _ => False) wc W) => HP5.out
      have hn7 := World.news_of_block (w := w7.alloc (.cells #[.string y.name, .int .i64 y.deep, .int .i64 y.cost] 42)) (cs := #[.string y.name, .int .i64 y.deep, .int .i64 y.cost]) (t := 42) (fr := (0, 0)) (block_new w7 _)
      have HN7 := Lib.hid hn7
      have HOa : Hid ((w7.alloc (.cells #[.string y.name, .int .i64 y.deep, .int .i64 y.cost] 42)).ownsRow w5.heap.size 42 3 (.slice ga c.wishes.length gc) c.wishes.length (c.wishes.flatMap Wish.cells)) := ((Keep.refl (fun _ => False) w7).alloc _).ownsRow HO7.out (fun _ _ => id)
      have HDa := Lib.hid (block_alloc HD7.out (.cells #[.string y.name, .int .i64 y.deep, .int .i64 y.cost] 42))
      have HKa := Lib.hid (HK7.out.alloc (.cells #[.string y.name, .int .i64 y.deep, .int .i64 y.cost] 42))
      have hba : w5.heap.size ≤ (w7.alloc (.cells #[.string y.name, .int .i64 y.deep, .int .i64 y.cost] 42)).heap.size := by simp; omega
      clear hn7 hpa7
      go_upto_region 8 with (at_builtin; refine wpList_append_own _ rfl _ _ 29 rfl w5.heap.size 42 i0 (.agg #[.string ⟨#[]⟩, .int .i64 0, .int .i64 0]) 3 32 Tryz.underlying29 HI0.out HZ0.out HZ1.out HZ2.out rfl (by decide) (.slice ga c.wishes.length gc) c.wishes.length (c.wishes.flatMap Wish.cells) rfl HOa.out ⟨w7.heap.size, 0, none⟩ 1 1 [.string y.name, .int .i64 y.deep, .int .i64 y.cost] rfl rfl HN7.out (by simp [Value.oneCell']) (by unfold maxLen; omega) (by omega) hba ?_
                             intro v8 w8 hown8 hgrow8 hnil8
                             obtain ⟨ga8, gc8, rfl⟩ := owns_slice hown8
                             have hlt7 := HOa.out.lt
                             have hk8 : Keep (fun k => w5.heap.size ≤ k) (w7.alloc (.cells #[.string y.name, .int .i64 y.deep, .int .i64 y.cost] 42)) w8 := (Keep.refl _ _).grown hgrow8 (fun k hk => .inl (hlt7 k hk).1)
                             have HK8 := Lib.hid hk8
                             have hd8 := hk8.get HDa.out (by omega)
                             have hcd8 := cell_of_block hd8
                             have hfd8 := free_of_block hd8
                             have HD8 := Lib.hid hd8
                             have HO8 := Lib.hid hown8
                             clear hd8 hown8 hgrow8 hnil8 hk8 hlt7)
      have hd9 := block_setCell HD8.out 9 (.slice ga8 (c.wishes.length + 1) gc8)
      simp only [List.setIfInBounds_toArray, List.set_cons_zero, List.set_cons_succ] at hd9
      have k9 : Keep (fun j => j = db) w8 (w8.setCell ⟨db, 9, none⟩ (.slice ga8 (c.wishes.length + 1) gc8)) := (Keep.refl (fun j => j = db) w8).setCell (p := ⟨db, 9, none⟩) (.inl rfl) _
      have hlt8 := HO8.out.lt
      have ho9 := k9.ownsRow HO8.out (fun k hk e => by have := (hlt8 k hk).1; omega)
      have kk9 : Keep (fun _ => False) wc (w8.setCell ⟨db, 9, none⟩ (.slice ga8 (c.wishes.length + 1) gc8)) := (HKa.out.step HK8.out (fun k hk e => by have := HDB.out; omega)).step k9 (fun k hk e => by have := HDB.out; omega)
      have hlx := lt_of_block HX7.out
      have hxlt : cb + 1 < w5.heap.size := by have := lt_of_block HXX.out; omega
      have hx9 := k9.get (HK8.out.get (block_alloc HX7.out (.cells #[.string y.name, .int .i64 y.deep, .int .i64 y.cost] 42)) (by omega)) hxd
      obtain ⟨pv0, wv0, hv0, hpr0, -⟩ := HW.out
      simp only [cmdCells, Value.agg.injEq, Array.mk.injEq, List.cons.injEq, and_true, true_and] at hv0
      obtain ⟨rfl, rfl⟩ := hv0
      have hpr9 := (hpr0.keep kk9).mono kk9.size
      generalize w8.setCell ⟨db, 9, none⟩ (.slice ga8 (c.wishes.length + 1) gc8) = w9 at *
      have hcm9 : CmdIn w9 w9.heap.size (.agg #[.int .i64 c.kind, .string c.name, .int .i64 c.pol.kind, .int .i64 c.pol.limit, .int .i64 c.pol.period, .int .i64 c.pol.burst, .int .i64 c.pol.cap, .bool c.pol.opn, .slice pa c.path.length pc, .slice ga8 (c.wishes.length + 1) gc8, .int .i64 c.n]) (c.more y) := by
        refine ⟨_, _, rfl, hpr9, ?_⟩
        have hr := RowIn.of_owns ho9
        have e1 : (c.more y).wishes.length = c.wishes.length + 1 := by simp [Cmd.more]
        have e2 : (c.more y).wishes.flatMap Wish.cells = c.wishes.flatMap Wish.cells ++ [.string y.name, .int .i64 y.deep, .int .i64 y.cost] := by
          show (c.wishes ++ [y]).flatMap Wish.cells = _
          rw [List.flatMap_append]; rfl
        rw [e1, e2]; exact hr
      have KK9 := Lib.hid (K3.out.trans kk9)
      have g9 := glob_keep hg hb KK9.out
      have hpm := CPrint_any _ (c.more y) w9 hcm9 (hs.more (by omega) hy) g9.1 g9.2
      have hmore := print_more (w := y) H4.out H3.out
      have HOW9 := Lib.hid (kk9.ownsRow HOW3.out (fun _ _ => id))
      have hcd9 := cell_of_block hd9
      have HD9 := Lib.hid hd9
      have HX9 := Lib.hid hx9
      have hlen : (printF c).length ≤ 100 := by
        have he := (printF_ne H3.out).2
        have h7 := headF_len c
        rw [he]
        simp only [wordsF, List.length_cons, List.length_append]
        have : (tailF c).length = c.wishes.length := by unfold tailF; split <;> simp
        omega
      clear hd9 hx9 k9 hlt8 ho9 kk9 hpr0 hpr9 hcm9 g9 HD8 HO8 HK8 HD7 HO7 HK7 HX7 HOa HDa HKa HN7 hcd7 hfd7 hcx7 hcd8 hfd8 hba hlx HW HOW3 HP5 HXX hb7
      go_wp2_with fail
      refine hpm.mono ?_
      rintro e w10 ⟨mv, rfl, hmo, k10⟩
      obtain ⟨ma, mc, rfl⟩ := owns_slice hmo
      have KK10 := Lib.hid (KK9.out.trans k10)
      have hd10 := k10.get HD9.out id
      have hx10 := k10.get HX9.out id
      have HOW10 := Lib.hid (k10.ownsRow HOW9.out (fun _ _ => id))
      have HMO := Lib.hid hmo
      have HMORE := Lib.hid hmore
      clear hpm k10 hcd9 HD9 HX9 HOW9 KK9 hmo hmore
      go_upto_region 9 with fail
      go_cut [8] from 57 to 85 (fun b wx => b = .bool (decide (MayW c y)) ∧ Keep (fun _ => False) w10 wx)
      case first =>
        have hcx10 := cell_of_block hx10
        go_wp2_with fail
        refine (Named12_any y.name _ (by omega)).mono ?_
        rintro e w11 ⟨rfl, k11⟩
        have hcx11 := cell_of_block (k11.get hx10 id)
        have hcd11 := cell_of_block (k11.get hd10 id)
        have K11 := Lib.hid k11
        clear k11 hcx10 hx10 hd10
        cases hnm : namedB y.name
        · have HE : Hid (decide (MayW c y) = false) := decide_eq_false (fun h => by rw [h.1.1] at hnm; cases hnm)
          clear hnm
          go_wp2_with fail
          go_meet
          case rel => exact ⟨(by rw [HE.out]), K11.out⟩
        · by_cases q1 : 0 ≤ y.deep
          · by_cases q2 : y.deep ≤ 8
            · by_cases q3 : 1 ≤ y.cost
              · by_cases q4 : y.cost ≤ 1048576
                · by_cases q5 : c.wishes.length + 1 ≤ 20
                  · have q5' : (c.wishes.length : Int) + 1 ≤ 20 := by omega
                    have HE : Hid (decide (MayW c y) = true) := decide_eq_true ⟨⟨hnm, q1, q2, q3, q4⟩, q5⟩
                    clear hnm
                    go_wp2_with fail
                    go_meet
                    case rel => exact ⟨(by first | (rw [HE.out]; done) | (rw [HE.out]; congr 1; simp; omega)), K11.out⟩
                  · have q5' : ¬ (c.wishes.length : Int) + 1 ≤ 20 := by omega
                    have HE : Hid (decide (MayW c y) = false) := decide_eq_false (fun h => q5 h.2)
                    clear hnm
                    go_wp2_with fail
                    go_meet
                    case rel => exact ⟨(by first | (rw [HE.out]; done) | (rw [HE.out]; congr 1; simp; omega)), K11.out⟩
                · have HE : Hid (decide (MayW c y) = false) := decide_eq_false (fun h => q4 h.1.2.2.2.2)
                  clear hnm
                  go_wp2_with fail
                  go_meet
                  case rel => exact ⟨(by first | (rw [HE.out]; done) | (rw [HE.out]; congr 1; simp; omega)), K11.out⟩
              · have HE : Hid (decide (MayW c y) = false) := decide_eq_false (fun h => q3 h.1.2.2.2.1)
                clear hnm
                go_wp2_with fail
                go_meet
                case rel => exact ⟨(by first | (rw [HE.out]; done) | (rw [HE.out]; congr 1; simp; omega)), K11.out⟩
            · have HE : Hid (decide (MayW c y) = false) := decide_eq_false (fun h => q2 h.1.2.2.1)
              clear hnm
              go_wp2_with fail
              go_meet
              case rel => exact ⟨(by first | (rw [HE.out]; done) | (rw [HE.out]; congr 1; simp; omega)), K11.out⟩
          · have HE : Hid (decide (MayW c y) = false) := decide_eq_false (fun h => q1 h.1.2.1)
            clear hnm
            go_wp2_with fail
            go_meet
            case rel => exact ⟨(by first | (rw [HE.out]; done) | (rw [HE.out]; congr 1; simp; omega)), K11.out⟩
      case rest =>
        obtain ⟨rfl, k11⟩ := hcut
        have K11 := Lib.hid (KK10.out.trans k11)
        have HOW11 := Lib.hid (k11.ownsRow HOW10.out (fun _ _ => id))
        have HMO11 := Lib.hid (k11.ownsRow HMO.out (fun _ _ => id))
        clear k11 HOW10 HMO KK10 hd10 hx10
        by_cases hM : MayW c y
        · have hd : decide (MayW c y) = true := by simpa using hM
          have hm := HMORE.out.1 hM
          rw [hd]
          rw [hm] at HMO11 ⊢
          obtain ⟨mg, mcap, hmv, hml, hm0, hms⟩ := strs_head HMO11.out (by simp)
          simp only [Value.slice.injEq] at hmv
          obtain ⟨rfl, -, rfl⟩ := hmv
          have hle : (printF c).length ≤ (printF c ++ [wishB y]).length := by simp
          have hsl := slice_head mg (printF c ++ [wishB y]).length mc (printF c).length (by omega) hm0
          have hlq : (((printF c ++ [wishB y]).length : Int) == ((printF c).length : Int) + 1) = true := by simp
          have hrs : StrsIn wc wc.heap.size (.slice ra (printF c).length rc) (printF c) := RowIn.strs (RowIn.of_owns HOW11.out)
          have hS := Same03_any _ _ (printF c) (printF c) _ _ wc hms hrs
          have hdt : decide (printF c = printF c) = true := by simp
          rw [hdt] at hS
          generalize (printF c ++ [wishB y]).length = NN at *
          clear hd hm hM hdt hrs hms
          go_wp2_with fail
          refine hS.mono ?_
          rintro e w12 ⟨rfl, k12⟩
          have K12 := Lib.hid (K11.out.trans k12)
          clear hS k12
          go_wp2_with fail
          have g8 := glob_keep hg hb K12.out
          refine (known_any _ g8.1 g8.2).mono ?_
          rintro en w13 ⟨rfl, hk9⟩
          have HK9 := Lib.hid (K12.out.trans hk9)
          clear g8 hk9
          go_wp2
          go_ret
          exact ⟨rfl, HK9.out⟩
        · have hd : decide (MayW c y) = false := by simpa using hM
          have hm := HMORE.out.2 hM
          have hm0 : (((printF (c.more y)).length : Int) == 0) = true := by rw [hm]; rfl
          rw [hd]
          clear hd hm hM
          go_wp2_with fail
          have g8 := glob_keep hg hb K11.out
          refine (known_any _ g8.1 g8.2).mono ?_
          rintro en w13 ⟨rfl, hk9⟩
          have HK9 := Lib.hid (K11.out.trans hk9)
          clear g8 hk9
          go_wp2
          go_ret
          exact ⟨rfl, HK9.out⟩
end Go.Proofs.YtamjhnibenonjaaGreatDoor
