/- strings.SplitSeq at a separator of one byte, as an iterator: it hands on the parts of the string, in order. -/
import Derived.Test.YtamjhnibenonjaaGreatDoorPWish
import Derived.Test.YtamjhnibenonjaaGreatDoorRSeq
namespace Go.Proofs.YtamjhnibenonjaaGreatDoor
set_option linter.unusedVariables false
set_option linter.unusedSimpArgs false
open Go Go.RowKit
theorem splitAt_miss (s sep : ByteArray) (h : Lib.indexB s sep = -1) : splitAt s sep = [s] := Lib.splitB_miss _ _ _ _ h
theorem splitAt_hit (s sep : ByteArray) (i : Nat) (h1 : 1 ≤ sep.size) (h : Lib.indexB s sep = i) : splitAt s sep = s.extract 0 i :: splitAt (s.extract (i + sep.size) s.size) sep := by
  unfold splitAt
  rw [Lib.countB_hit s sep i h1 h, Nat.add_comm 1, Lib.splitB_hit _ _ _ _ i h]
  rfl
theorem indexB_one (s : ByteArray) (c : UInt8) : Lib.indexB s ⟨#[c]⟩ = Lib.indexByte s.data.toList c := Lib.index_one _ _
theorem indexByte_lt (l : List UInt8) (c : UInt8) (i : Nat) (h : Lib.indexByte l c = i) : i < l.length := by
  induction l generalizing i with
  | nil => simp [Lib.indexByte] at h
  | cons b l ih =>
    unfold Lib.indexByte at h
    split at h
    · simp only [List.length_cons]; omega
    · split at h
      · omega
      · have h2 := Lib.indexByte_ge l c
        have := ih (i - 1) (by rename_i hne; simp only [beq_iff_eq] at hne; omega)
        simp only [List.length_cons]; omega
attribute [local go_sem] Oper.semAt_some
def seqLeft (Bs : Nat) (w : World) : Nat := match w.cell? ⟨Bs, 0, none⟩ with | some (.string c) => c.size | _ => 0
theorem seqLeft_of {w : World} {Bs : Nat} {cur : ByteArray} {t : TypeId} (h : w.heap[Bs]? = some (.cells #[.string cur] t (0, 0))) : seqLeft Bs w = cur.size := by
  simp [seqLeft, cell_of_block h]
set_option maxHeartbeats 2000000 in
theorem splitSeq_law (s : ByteArray) (c : UInt8) (hs : s.size ≤ 4194304) (Bsep Bs Bv : Nat) (w : World) (h1 : Bsep ≠ Bs) (h2 : Bv ≠ Bs)
    (hsep : w.heap[Bsep]? = some (.cells #[.string ⟨#[c]⟩] 9 (0, 0))) (hbs : w.heap[Bs]? = some (.cells #[.string s] 9 (0, 0))) (hbv : w.heap[Bv]? = some (.cells #[.int .i64 0] 3 (0, 0))) :
    SeqLaw Tryz.prog 78 #[.pointer (some ⟨Bsep, 0, none⟩), .pointer (some ⟨Bs, 0, none⟩), .pointer (some ⟨Bv, 0, none⟩)] (fun x => #[.string x]) (fun k => k = Bs) (fun k => k = Bsep ∨ k = Bv) (splitAt s ⟨#[c]⟩) w := by
  intro l J Jx W hTU hb hJ hJx hY h0
  have e1 := (hTU Bsep (.inr (.inl rfl))).trans hsep
  have e2 := (hTU Bs (.inl rfl)).trans hbs
  have e3 := (hTU Bv (.inr (.inr rfl))).trans hbv
  have hc1 := cell_of_block e1
  have hc2 := cell_of_block e2
  have hc3 := cell_of_block e3
  have hf2 := free_of_block e2
  have E1 := Lib.hid e1
  have E2 := Lib.hid e2
  have E3 := Lib.hid e3
  have HY := Lib.hid hY
  have HJ := Lib.hid hJ
  have H0 := Lib.hid h0
  clear hTU hb hsep hbs hbv e1 e2 e3 hY hJ h0 hJx
  refine callsIn_of_wp Tryz.func78 rfl trivial ?_ rfl
  simp only [Tryz.ntmps78, List.size_toArray, List.length_cons, List.length_nil, Nat.reduceAdd, Nat.reduceSub, Array.replicate_succ, Array.replicate_zero, List.push_toArray, List.append_toArray, List.nil_append, List.cons_append]
  gi_wp2
  clear hc1 hc2 hc3 hf2
  gi_loopw [7] (fun _ wr => ∃ (pre : List ByteArray) (cur : ByteArray), J pre wr ∧ pre ++ splitAt cur ⟨#[c]⟩ = splitAt s ⟨#[c]⟩ ∧ cur.size ≤ 4194304 ∧ Hid (wr.heap[Bsep]? = some (.cells #[.string ⟨#[c]⟩] 9 (0, 0))) ∧ Hid (wr.heap[Bs]? = some (.cells #[.string cur] 9 (0, 0))) ∧ Hid (wr.heap[Bv]? = some (.cells #[.int .i64 0] 3 (0, 0)))) (fun _ wr => seqLeft Bs wr)
  case atStart => exact ⟨[], s, H0.out, rfl, hs, E1, E2, E3⟩
  case round =>
    obtain ⟨pre, cur, hj, hpre, hsz, F1, F2, F3⟩ := hrel
    have hc1 := cell_of_block F1.out
    have hc2 := cell_of_block F2.out
    have hc3 := cell_of_block F3.out
    have hf2 := free_of_block F2.out
    have HPRE := Lib.hid hpre
    have HJ1 := Lib.hid hj
    clear hpre hj
    have hI := fun w => (Tryz.strings_Index_one cur c w)
    by_cases hm : Lib.indexB cur ⟨#[c]⟩ = -1
    · have hsp := splitAt_miss cur ⟨#[c]⟩ hm
      rw [indexB_one] at hm
      rw [hm] at hI
      have HSP := Lib.hid hsp
      clear hm hsp
      have hpre2 : pre ++ cur :: [] = splitAt s ⟨#[c]⟩ := by rw [← HPRE.out, HSP.out]
      obtain ⟨fn, tmps, assign, body, hy, hR⟩ := HY.out pre cur [] wr HJ1.out hpre2
      have HP2 := Lib.hid hpre2
      have HR := Lib.hid hR
      clear hpre2 hR
      gi_wp2
      refine ⟨trivial, (callsIn_wide.2 (hI _)).mono ?_⟩
      rintro e w1 ⟨rfl, rfl⟩
      gi_wp2
      refine (RoundIn.any HR.out).mono ?_
      rintro e W3 (⟨rfl, hJ3, hk3⟩ | ⟨rfl, hJx3⟩)
      · gi_wp2
        go_end0
        exact ⟨⟨_, rfl⟩, .inl (by rw [← HP2.out]; exact hJ3)⟩
      · gi_wp2
        go_end0
        exact ⟨⟨_, rfl⟩, .inr ⟨pre ++ [cur], [], by rw [List.append_nil, HP2.out], hJx3⟩⟩
    · obtain ⟨i, hi⟩ := Int.eq_ofNat_of_zero_le (show 0 ≤ Lib.indexB cur ⟨#[c]⟩ by have := indexB_ge cur ⟨#[c]⟩; omega)
      have hsp := splitAt_hit cur ⟨#[c]⟩ i (Nat.le_refl 1) hi
      rw [indexB_one] at hi
      rw [hi] at hI
      have hil : i < cur.size := by rw [Lib.size_eq]; exact indexByte_lt _ _ _ hi
      have HSP := Lib.hid hsp
      clear hm hsp hi
      have hpre2 : pre ++ cur.extract 0 i :: splitAt (cur.extract (i + 1) cur.size) ⟨#[c]⟩ = splitAt s ⟨#[c]⟩ := by rw [← HPRE.out, HSP.out]; rfl
      obtain ⟨fn, tmps, assign, body, hy, hR⟩ := HY.out pre (cur.extract 0 i) _ wr HJ1.out hpre2
      have HP2 := Lib.hid hpre2
      have HR := Lib.hid hR
      clear hpre2 hR
      have hi0 : decide ((i : Int) < 0) = false := by simp
      gi_wp2
      refine ⟨trivial, (callsIn_wide.2 (hI _)).mono ?_⟩
      rintro e w1 ⟨rfl, rfl⟩
      gi_wp2
      refine (RoundIn.any HR.out).mono ?_
      rintro e W3 (⟨rfl, hJ3, hk3⟩ | ⟨rfl, hJx3⟩)
      · have G1 := Lib.hid ((hk3.2 Bsep (.inr (.inl rfl))).trans F1.out)
        have G2 := Lib.hid ((hk3.2 Bs (.inl rfl)).trans F2.out)
        have G3 := Lib.hid ((hk3.2 Bv (.inr (.inr rfl))).trans F3.out)
        have d1 := cell_of_block G1.out
        have d2 := cell_of_block G2.out
        have d3 := cell_of_block G3.out
        have df := free_of_block G2.out
        have HJ3 := Lib.hid hJ3
        clear hk3 hJ3
        gi_wp2
        have B2 := block_setCell G2.out 0 (.string (cur.extract (i + 1) cur.size))
        refine ⟨⟨pre ++ [cur.extract 0 i], cur.extract (i + 1) cur.size, HJ.out _ _ _ HJ3.out ((Keep.refl (fun k => k = Bs) W3).setCell (p := ⟨Bs, 0, none⟩) (.inl rfl) _), by rw [← HP2.out]; simp, Nat.le_trans (extract_size_le _ _ _) hsz, block_setCell_ne G1.out (fun e => h1 e.symm) _, B2, block_setCell_ne G3.out (fun e => h2 e.symm) _⟩, ?_⟩
        rw [seqLeft_of (show _ = some (Obj.cells #[.string (cur.extract (i + 1) cur.size)] 9 (0, 0)) from B2), seqLeft_of F2.out, ByteArray.size_extract]
        omega
      · gi_wp2
        refine bodyPost_ret (results_none rfl _ _ _) rfl ?_
        exact ⟨⟨_, rfl⟩, .inr ⟨pre ++ [cur.extract 0 i], _, by rw [← HP2.out]; simp; rfl, hJx3⟩⟩
end Go.Proofs.YtamjhnibenonjaaGreatDoor
