/- tapsterlaw18.CommandErrs: the row and its card. -/
import Derived.Test.YtamjhnibenonjaaGreatDoorSGlob
import Derived.Test.YtamjhnibenonjaaGreatDoorCards
import Derived.Test.YtamjhnibenonjaaGreatDoorTie
import Derived.Test.YtamjhnibenonjaaGreatDoorChecked
import Derived.WalkKit
import Derived.ProofKit
import Derived.OpenShut
import Derived.Deep.DeepHandedRow
import Derived.Deep.Strs
import Derived.ChangeMaps5
import Derived.Lay
import Derived.SizedLaws
import Derived.SevenTiedAt
namespace Go.Proofs.YtamjhnibenonjaaGreatDoor
set_option linter.unusedVariables false
set_option linter.unusedSimpArgs false
open Go Go.ChangeShapes Go.WideShapes Go.ChangeAt Go.RowKit
theorem weightsAll_mem {H : Type} {P : Program} {e : TypeId} : ∀ {l : List (DataW H)} {d : DataW H}, d ∈ l → ∀ n ∈ d.weights P e, n ∈ DataW.weightsAll P e l
  | d' :: r, d, hd, n, hn => by
    simp only [DataW.weightsAll, List.mem_append]
    rcases List.mem_cons.1 hd with rfl | h
    · exact Or.inl hn
    · exact Or.inr (weightsAll_mem h n hn)
theorem spot_none {w : World} {a : Addr} {v : Value} (h : w.cell? a = some v) : a = ⟨a.block, a.off, none⟩ := by
  obtain ⟨b, o, sp⟩ := a
  have := Go.Proofs.cell_spot h
  subst this; rfl
set_option maxRecDepth 100000 in
/-- An argument that is a slice of strings, opened. -/
theorem open_args {H : Type} {enc : TypeId × Value → H} {W : World} {v : Value} {d : DataW H} {ps : List MemPlace} {ts : List TypeId} {ds : List (DataW H)} {j : Nat} (hd : DataW.Trod enc Tryz.prog W 0 (fun _ => true) true 22 v d ps)
    {bs : Nat} (hval : Value.okWide Tryz.prog W .any bs 22 v)
    (hsz : (DataW.weightsEach Tryz.prog ts ds).all (· ≤ reachBytes) = true) (ht : ts[j]? = some 22) (hdj : ds[j]? = some d) :
    ∃ l : List ByteArray, ArgsV W v l ∧ Fits l := by
  obtain ⟨a, len, cap, rfl⟩ := okWide_slice Tryz.underlying22 hval
  obtain ⟨fuel, hf⟩ := hd
  rcases Deep.open_strs Tryz.underlying22 Tryz.underlying9 (by kernel_rfl) hf with ⟨hcs, -⟩ | ⟨ad, len', cap', m, Sx, hcs, -, hlc, hcm, hm, hx, hcell⟩
  · simp only [Value.cells, List.cons.injEq, Value.slice.injEq, and_true] at hcs
    obtain ⟨rfl, rfl, rfl⟩ := hcs
    exact ⟨[], ⟨⟨_, _, rfl, Nat.le_refl _, by decide, fun h => absurd rfl h⟩, .inl rfl⟩, fun x hx => by cases hx⟩
  · simp only [Value.cells, List.cons.injEq, Value.slice.injEq, and_true] at hcs
    obtain ⟨rfl, rfl, rfl⟩ := hcs
    simp only [if_true] at hm
    subst hm
    have hl : ((List.range len).map Sx).length = len := by simp
    have hget : ∀ (j : Nat) (x : ByteArray), ((List.range len).map Sx)[j]? = some x → j < len ∧ x = Sx j := by
      intro j x hj
      rw [List.getElem?_map] at hj
      by_cases hjl : j < len
      · rw [List.getElem?_range hjl] at hj
        simp only [Option.map_some, Option.some.injEq] at hj
        exact ⟨hjl, hj.symm⟩
      · rw [List.getElem?_eq_none (by simpa using hjl)] at hj; cases hj
    refine ⟨(List.range len).map Sx, ⟨⟨some ad, m, by rw [hl], by rw [hl]; exact hlc, hcm, fun hne => ?_⟩, .inr ⟨ad, m, by rw [hl]⟩⟩, fun x hxm => ?_⟩
    · have h0 : 0 < len := by
        rcases Nat.eq_zero_or_pos len with h | h
        · subst h; simp at hne
        · exact h
      have hc0 := (hcell 0 (by omega)).1
      have had : ad.add 0 = ad := by unfold Addr.add; simp
      rw [had] at hc0
      have e := spot_none hc0
      refine ⟨ad.block, ad.off, by rw [← e], World.block_lt_of_cell? W ad hc0, fun j x hj => ?_⟩
      obtain ⟨hjl, rfl⟩ := hget j x hj
      have := (hcell j (by omega)).1
      rw [e, WideShapes.add_plain] at this
      exact this
    · obtain ⟨i, hi, rfl⟩ := List.mem_map.1 hxm
      have hi' := List.mem_range.1 hi
      have := List.all_eq_true.1 hsz _ (DataW.weights_mem_each ht hdj (Sx i).data.toList.length (by
        rw [(Prod.mk.inj hx).1]
        simp only [DataW.weights, Tryz.underlying22, List.mem_cons, List.mem_append]
        exact Or.inr (Or.inl (weightsAll_mem (List.mem_map.2 ⟨i, hi, rfl⟩) _ (by simp [DataW.weights])))))
      have := of_decide_eq_true this
      simp only [reachBytes] at this
      have h2 : (Sx i).data.toList.length = (Sx i).size := Array.length_toList
      omega
theorem CommandErrs_any (e f : Int) (he : (Lit.int .i64 e).wf = true) (hf : (Lit.int .i64 f).wf = true) (name : ByteArray) (v : Value) (l : List ByteArray) (w : World) (hv : ArgsV w v l) (hfit : Fits l) (hg : Glob w) :
    Calls Tryz.prog 3 #[.int .i64 e, .int .i64 f, .string name, v] w fun en w' => en = .returned (.bool true) ∧ Keep (fun _ => False) w w' := by
  have he' : -9223372036854775808 ≤ e ∧ e ≤ 9223372036854775807 := by simpa [Lit.wf, IntKind.min, IntKind.max, IntKind.signed, IntKind.bits] using he
  have hf' : -9223372036854775808 ≤ f ∧ f ≤ 9223372036854775807 := by simpa [Lit.wf, IntKind.min, IntKind.max, IntKind.signed, IntKind.bits] using hf
  by_cases hc : 50 < name.size ∨ 30 < l.length ∨ 500 < longL l
  · exact CommandErrs_early e f name v l w hv hfit hg hg.size hc
  · exact CommandErrs_main e f he'.1 he'.2 hf'.1 hf'.2 name v l w hv hg hg.size (by omega) (by omega) (by omega)
namespace CErrs
theorem own : ownKnob Tryz.prog.godebug = none := by kernel_rfl
theorem laidOut : laidOutB Tryz.prog = true := by kernel_rfl
set_option maxRecDepth 100000 in
theorem contract (H : Type) (enc : TypeId × Value → H) (W : World) (base : Nat) (args : Array Value) (ds gs : List (DataW H)) (before : List MemPlace)
    (hval : ∀ (j : Nat) t v, Tryz.f3.params[j]? = some t → args[j]? = some v → Value.okWide Tryz.prog W .any base t v)
    (hW : DataW.Whole enc Tryz.prog Tryz.f3.params.toList Rows.commandErrsSpec.vars false W args.toList ds gs before)
    (hsz : (DataW.weightsEach Tryz.prog (Tryz.f3.params.toList ++ (OpenSpec.ofChange Rows.commandErrsSpec).bare.plain.varTypes Tryz.prog) (ds ++ gs)).all (· ≤ reachBytes) = true)
    (hL : laidMetH Tryz.prog Rows.commandErrsRow.laid W) (hsh : W.ShapedOpen Tryz.prog) :
    Calls Tryz.prog 3 args W fun e W' => ∃ v, e = .returned v ∧ Rows.commandErrsSpec.post enc Tryz.prog Tryz.f3 false true false false W args v W' := by
  have hW' := hW
  have hlt := hW.lt
  obtain ⟨p, q, hA0, hV, rfl, hfz, hnd⟩ := hW
  have hA : DataW.TrodAll enc Tryz.prog W 0 (fun _ => true) true Tryz.f3.params.toList args.toList ds p := hA0
  rw [Tryz.params3] at hA hval hsz
  obtain ⟨v0, vs0, d0, ds0, p0, q0, hargs, rfl, rfl, h0, r0⟩ := trodAll_cons hA
  obtain ⟨v1, vs1, d1, ds1, p1, q1, rfl, rfl, rfl, h1, r1⟩ := trodAll_cons r0
  obtain ⟨v2, vs2, d2, ds2, p2, q2, rfl, rfl, rfl, h2, r2⟩ := trodAll_cons r1
  obtain ⟨v3, vs3, d3, ds3, p3, q3, rfl, rfl, rfl, h3, r3⟩ := trodAll_cons r2
  obtain ⟨rfl, rfl, rfl⟩ := trodAll_nil r3
  obtain rfl : args = #[v0, v1, v2, v3] := by cases args; simp_all
  obtain ⟨rfl, rfl⟩ := trodVars_none hV
  obtain ⟨e, rfl, rfl, rfl, we⟩ := open_int Tryz.underlying3 (hval 0 3 v0 rfl rfl) h0
  obtain ⟨f, rfl, rfl, rfl, wf⟩ := open_int Tryz.underlying3 (hval 1 3 v1 rfl rfl) h1
  obtain ⟨name, rfl, rfl, rfl, wn⟩ := ChangeMaps.open_string Tryz.underlying9 (hval 2 9 v2 rfl rfl) h2
  obtain ⟨l, hav, hfit⟩ := open_args (j := 3) h3 (hval 3 22 v3 rfl rfl) hsz rfl rfl
  have hg : Glob W := glob_of_laid (by kernel_rfl) hL hsh (by simp [Rows.commandErrsRow]) (by simp [Rows.commandErrsRow]) (by simp [Rows.commandErrsRow]) (by simp [Rows.commandErrsRow]) (by simp [Rows.commandErrsRow])
  refine (CommandErrs_any e f we wf name v3 l W hav hfit hg).mono fun en W' ⟨hen, hk⟩ => ?_
  subst hen
  have hb := hk.below
  have hp3 : ∀ x ∈ p3, x.block < W.heap.size := fun x hx => hlt x (by simp [hx])
  have t3 := Below.trod laidOut (by kernel_rfl) (of_decide_eq_true (by kernel_rfl)) h3 hb hp3
  refine ⟨_, rfl, _, _, _, [], [] ++ ([] ++ ([] ++ (p3 ++ []))), [], hW', trodAll_mk1 (shut_bool Tryz.underlying4 _), ?_, rfl, hb.frame _, fun h => by cases h⟩
  show DataW.TrodAll _ _ _ _ _ _ Tryz.f3.params.toList _ _ _
  rw [Tryz.params3]
  exact trodAll_cons_mk (shut_int Tryz.underlying3 we) (trodAll_cons_mk (shut_int Tryz.underlying3 wf) (trodAll_cons_mk (ChangeMaps.shut_string Tryz.underlying9 wn) (trodAll_cons_mk t3 trodAll_mk0)))
noncomputable def start (os : Os) : World := World.laidAll Tryz.prog os Rows.commandErrsRow.laid
def wargs : Array Value := #[.int .i64 0, .int .i64 0, .string ⟨#[]⟩, .slice none 0 0]
set_option maxRecDepth 100000 in
theorem reads (os : Os) {H : Type} (enc : TypeId × Value → H) : DataW.whole enc Tryz.prog ((start os).forCall (fun _ _ => 0) ⟨#[], wargs, []⟩).memory Tryz.f3.params.toList Rows.commandErrsSpec.vars false wargs.toList 8 = some ([.lit (.int .i64 0), .lit (.int .i64 0), .lit (.string []), .nil], [], []) := by kernel_rfl
set_option maxRecDepth 100000 in
theorem shaped (os : Os) : ((start os).forCall (fun _ _ => 0) ⟨#[], wargs, []⟩).Shaped Tryz.prog := World.shaped_of_ZipB (by kernel_rfl) (by kernel_rfl)
set_option maxRecDepth 100000 in
theorem okArgs (os : Os) : Input.okWideB Tryz.prog ((start os).forCall (fun _ _ => 0) ⟨#[], wargs, []⟩) 3 ⟨#[], wargs, []⟩ = true := by kernel_rfl
set_option maxRecDepth 100000 in
theorem met (os : Os) : laidMetH Tryz.prog Rows.commandErrsRow.laid ((start os).forCall (fun _ _ => 0) ⟨#[], wargs, []⟩).memory := by
  rw [MakeChecks.laidMetH_plain _ _ _ (by kernel_rfl)]
  exact laidMet_laidAll _ (by kernel_rfl) (by kernel_rfl)
set_option maxRecDepth 100000 in
theorem witness (os : Os) {H : Type} (enc : TypeId × Value → H) : ∃ (w : World) (tape : Tape) (i : Input), w.os = os ∧ (w.forCall tape i).Shaped Tryz.prog ∧ i.vars = [] ∧ Input.okWide Tryz.prog (w.forCall tape i) .any w.heap.size 3 i ∧
    (OpenSpec.ofChange Rows.commandErrsSpec).preRow enc Tryz.prog Tryz.f3 Rows.commandErrsRow.domain false Rows.commandErrsRow.laid (w.forCall tape i).memory i.args ∧ ({} : Assume).holds Tryz.prog (lone (Frame.enter Tryz.prog 3 i.args .normal) [] (w.forCall tape i)) :=
  ⟨start os, fun _ _ => 0, ⟨#[], wargs, []⟩, World.laidAll_os _ _ _, shaped os, (Input.okWide_of_okWideB (base := 0) (okArgs os)).1, (Input.okWide_of_okWideB (okArgs os)).2,
    OpenSpec.preRow_of_cond 8 (reads os enc) (by kernel_rfl) (fun k hk => by cases hk) (by kernel_rfl) (met os), by
      simp only [Assume.holds]
      exact ⟨by simp, by simp, by simp, by simp, by simp⟩⟩
set_option maxRecDepth 100000 in
theorem lifted (os : Os) (started : os.Started) (H : Type) (enc : TypeId × Value → H) (F : Stop.Interp) :
    ReturnsInHanded {} Tryz.checked os 3 .any ((OpenSpec.ofChange Rows.commandErrsSpec).preRow enc Tryz.prog Tryz.f3 Rows.commandErrsRow.domain false Rows.commandErrsRow.laid) (((OpenSpec.ofChange Rows.commandErrsSpec).at F).post enc Tryz.prog Tryz.f3 false true false false) := by
  refine returnsInHanded_of_row (C := Tryz.checked) (s := OpenSpec.ofChange Rows.commandErrsSpec) own started (by kernel_rfl) Tryz.func3 ?_ ?_
  · exact witness os enc
  · intro W base args ds gs before hval hW _ _ hsz hL hsh _
    exact contract H enc W base args ds gs before hval hW hsz hL hsh
theorem said : Rows.CommandErrsSaid :=
  OpenClaim.holds_of_cond 3 Tryz.f3 rfl rfl rfl rfl rfl rfl rfl ⟨rfl, rfl, rfl, rfl, rfl⟩ rfl rfl rfl rfl rfl (by kernel_rfl) Tryz.func3 (by kernel_rfl)
    (of_decide_eq_true (by kernel_rfl)) (by unfold Func.isWrapper; first | (rw [if_pos (by decide +kernel)]; kernel_rfl) | (rw [if_neg (by decide +kernel)]; exact ⟨rfl, rfl⟩))
    (fun os started H enc _ F => by rw [OpenClaim.pre_eq_preRow]; exact lifted os started H enc F)
theorem plain (f : FuncId) (fn : Func) (hf : Tryz.pinned.checked.prog.funcNamed "tapster/tapsterlaw18.CommandErrs" = some f) (hfn : Tryz.pinned.checked.prog.funcs[f]? = some fn) :
    true = Tryz.pinned.checked.prog.looks [] ∧ ∀ (j : Nat) t, fn.params[j]? = some t → Tryz.pinned.checked.prog.wantsStandIn t = false := by
  obtain rfl : f = 3 := Option.some.inj ((show Tryz.prog.funcNamed "tapster/tapsterlaw18.CommandErrs" = some 3 by kernel_rfl).symm.trans hf) |>.symm
  obtain rfl : fn = Tryz.f3 := (Option.some.inj (Tryz.func3.symm.trans hfn)).symm
  refine ⟨by kernel_rfl, fun j t ht => ?_⟩
  rw [Tryz.params3] at ht
  have hm : t ∈ [3, 3, 9, 22] := by simpa using Array.mem_of_getElem? ht
  have hall : ([3, 3, 9, 22].all fun u => !Tryz.prog.wantsStandIn u) = true := by kernel_rfl
  exact (show Tryz.prog.wantsStandIn t = false by simpa using List.all_eq_true.1 hall t hm)
end CErrs
theorem commandErrs_card : Rows.CommandErrsCardSaid :=
  Claim7.holds_tied_plain_at .later [] _ _ _ _ CErrs.said (fun _ h => by cases h) (by kernel_rfl) (fun _ h => by cases h) commandErrs_row_tie rfl ⟨rfl, rfl⟩ (by kernel_rfl) rfl CErrs.plain (by kernel_rfl)
#print axioms commandErrs_card
end Go.Proofs.YtamjhnibenonjaaGreatDoor
