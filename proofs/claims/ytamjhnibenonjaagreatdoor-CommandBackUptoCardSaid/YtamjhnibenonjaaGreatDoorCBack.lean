/- tapsterlaw18.CommandBack, where what it reads is of bulk at most 1048576: the row and its card. -/
import Derived.Test.YtamjhnibenonjaaGreatDoorCCmd
import Derived.Test.YtamjhnibenonjaaGreatDoorPBack
namespace Go.Proofs.YtamjhnibenonjaaGreatDoor
set_option linter.unusedVariables false
set_option linter.unusedSimpArgs false
open Go Go.ChangeShapes Go.WideShapes Go.ChangeAt Go.RowKit
namespace CBack
open CErrs (own laidOut)
set_option maxRecDepth 100000 in
theorem open_argsB {H : Type} {enc : TypeId × Value → H} {W : World} {v : Value} {d : DataW H} {ps : List MemPlace} (hd : DataW.Trod enc Tryz.prog W 0 (fun _ => true) true 22 v d ps) {bs : Nat} (hval : Value.okWide Tryz.prog W .any bs 22 v) :
    ∃ l : List ByteArray, StrsIn W W.heap.size v l ∧ longL l ≤ Rows.uptoBulk d := by
  obtain ⟨a, len, cap, rfl⟩ := okWide_slice Tryz.underlying22 hval
  obtain ⟨fuel, hf⟩ := hd
  obtain ⟨l, h1, h2⟩ := open_strsB (show DataW.trod enc Tryz.prog W 0 (fun _ => true) true fuel 22 [.slice a len cap] = some (d, ps) from hf)
  exact ⟨l, h1.strs, h2⟩
set_option maxRecDepth 100000 in
theorem contract (H : Type) (enc : TypeId × Value → H) (W : World) (base : Nat) (args : Array Value) (ds gs : List (DataW H)) (before : List MemPlace)
    (hval : ∀ (j : Nat) t v, Tryz.f5.params[j]? = some t → args[j]? = some v → Value.okWide Tryz.prog W .any base t v)
    (hW : DataW.Whole enc Tryz.prog Tryz.f5.params.toList Rows.commandBackSpec.vars false W args.toList ds gs before)
    (hbk : Rows.uptoSmall H (ds ++ gs) = true)
    (hL : laidMetH Tryz.prog Rows.commandBackUptoRow.laid W) (hsh : W.ShapedOpen Tryz.prog) :
    Calls Tryz.prog 5 args W fun e W' => ∃ v, e = .returned v ∧ Rows.commandBackSpec.post enc Tryz.prog Tryz.f5 false true false false W args v W' := by
  have hW' := hW
  have hlt := hW.lt
  obtain ⟨p, q, hA0, hV, rfl, hfz, hnd⟩ := hW
  have hA : DataW.TrodAll enc Tryz.prog W 0 (fun _ => true) true Tryz.f5.params.toList args.toList ds p := hA0
  rw [Tryz.params5] at hA hval
  obtain ⟨v0, vs0, d0, ds0, p0, q0, hargs, rfl, rfl, h0, r0⟩ := trodAll_cons hA
  obtain ⟨v1, vs1, d1, ds1, p1, q1, rfl, rfl, rfl, h1, r1⟩ := trodAll_cons r0
  obtain ⟨rfl, rfl, rfl⟩ := trodAll_nil r1
  obtain rfl : args = #[v0, v1] := by cases args; simp_all
  obtain ⟨rfl, rfl⟩ := trodVars_none hV
  have hbulk : Rows.uptoBulk d0 + (Rows.uptoBulk d1 + 0) ≤ 1048576 := by
    have := of_decide_eq_true hbk
    simpa [Rows.uptoBulkAll] using this
  obtain ⟨c, hc, hs⟩ := open_cmd h1 (hval 1 31 v1 rfl rfl) (by omega)
  obtain ⟨l, hl, hlb⟩ := open_argsB h0 (hval 0 22 v0 rfl rfl)
  have hg : Glob W := glob_of_laid (by kernel_rfl) hL hsh (by simp [Rows.commandBackUptoRow]) (by simp [Rows.commandBackUptoRow]) (by simp [Rows.commandBackUptoRow]) (by simp [Rows.commandBackUptoRow]) (by simp [Rows.commandBackUptoRow])
  refine (CommandBack_any v0 v1 l c W hl (by omega) hc hs hg hg.size).mono fun en W' ⟨hen, hk⟩ => ?_
  subst hen
  have hb := hk.below
  have hp0 : ∀ x ∈ p0, x.block < W.heap.size := fun x hx => hlt x (by simp [hx])
  have hp1 : ∀ x ∈ p1, x.block < W.heap.size := fun x hx => hlt x (by simp [hx])
  have t0 := Below.trod laidOut (by kernel_rfl) (of_decide_eq_true (by kernel_rfl)) h0 hb hp0
  have t1 := Below.trod laidOut (by kernel_rfl) (of_decide_eq_true (by kernel_rfl)) h1 hb hp1
  refine ⟨_, rfl, _, _, _, [], p0 ++ (p1 ++ []), [], hW', trodAll_mk1 (shut_bool Tryz.underlying4 _), ?_, rfl, hb.frame _, fun h => by cases h⟩
  show DataW.TrodAll _ _ _ _ _ _ Tryz.f5.params.toList _ _ _
  rw [Tryz.params5]
  exact trodAll_cons_mk t0 (trodAll_cons_mk t1 trodAll_mk0)
noncomputable def start (os : Os) : World := World.laidAll Tryz.prog os Rows.commandBackUptoRow.laid
def zeroCmd : Value := .agg #[.int .i64 0, .string ⟨#[]⟩, .int .i64 0, .int .i64 0, .int .i64 0, .int .i64 0, .int .i64 0, .bool false, .slice none 0 0, .slice none 0 0, .int .i64 0]
def wargs : Array Value := #[.slice none 0 0, zeroCmd]
set_option maxRecDepth 100000 in
theorem reads (os : Os) {H : Type} (enc : TypeId × Value → H) : DataW.whole enc Tryz.prog ((start os).forCall (fun _ _ => 0) ⟨#[], wargs, []⟩).memory Tryz.f5.params.toList Rows.commandBackSpec.vars false wargs.toList 8 = some ([.nil, .agg [.lit (.int .i64 0), .lit (.string []), .agg [.lit (.int .i64 0), .lit (.int .i64 0), .lit (.int .i64 0), .lit (.int .i64 0), .lit (.int .i64 0), .lit (.bool false)], .nil, .nil, .lit (.int .i64 0)]], [], []) := by kernel_rfl
set_option maxRecDepth 100000 in
theorem shaped (os : Os) : ((start os).forCall (fun _ _ => 0) ⟨#[], wargs, []⟩).Shaped Tryz.prog := World.shaped_of_ZipB (by kernel_rfl) (by kernel_rfl)
set_option maxRecDepth 100000 in
theorem okArgs (os : Os) : Input.okWideB Tryz.prog ((start os).forCall (fun _ _ => 0) ⟨#[], wargs, []⟩) 5 ⟨#[], wargs, []⟩ = true := by kernel_rfl
set_option maxRecDepth 100000 in
theorem met (os : Os) : laidMetH Tryz.prog Rows.commandBackUptoRow.laid ((start os).forCall (fun _ _ => 0) ⟨#[], wargs, []⟩).memory := by
  rw [MakeChecks.laidMetH_plain _ _ _ (by kernel_rfl)]
  exact laidMet_laidAll _ (by kernel_rfl) (by kernel_rfl)
set_option maxRecDepth 100000 in
theorem witness (os : Os) {H : Type} (enc : TypeId × Value → H) : ∃ (w : World) (tape : Tape) (i : Input), w.os = os ∧ (w.forCall tape i).Shaped Tryz.prog ∧ i.vars = [] ∧ Input.okWide Tryz.prog (w.forCall tape i) .any w.heap.size 5 i ∧
    (Rows.OpenSpec.upto Rows.commandBackSpec).preRow enc Tryz.prog Tryz.f5 Rows.commandBackUptoRow.domain false Rows.commandBackUptoRow.laid (w.forCall tape i).memory i.args ∧ ({} : Assume).holds Tryz.prog (lone (Frame.enter Tryz.prog 5 i.args .normal) [] (w.forCall tape i)) :=
  ⟨start os, fun _ _ => 0, ⟨#[], wargs, []⟩, World.laidAll_os _ _ _, shaped os, (Input.okWide_of_okWideB (base := 0) (okArgs os)).1, (Input.okWide_of_okWideB (okArgs os)).2,
    OpenSpec.preRow_of_cond 8 (reads os enc) (by kernel_rfl) (fun k hk => by cases hk; kernel_rfl) (by kernel_rfl) (met os), by
      simp only [Assume.holds]
      exact ⟨by simp, by simp, by simp, by simp, by simp⟩⟩
set_option maxRecDepth 100000 in
theorem lifted (os : Os) (started : os.Started) (H : Type) (enc : TypeId × Value → H) (F : Stop.Interp) :
    ReturnsInHanded {} Tryz.checked os 5 .any ((Rows.OpenSpec.upto Rows.commandBackSpec).preRow enc Tryz.prog Tryz.f5 Rows.commandBackUptoRow.domain false Rows.commandBackUptoRow.laid) (((Rows.OpenSpec.upto Rows.commandBackSpec).at F).post enc Tryz.prog Tryz.f5 false true false false) := by
  refine returnsInHanded_of_row (C := Tryz.checked) (s := Rows.OpenSpec.upto Rows.commandBackSpec) own started (by kernel_rfl) Tryz.func5 ?_ ?_
  · exact witness os enc
  · intro W base args ds gs before hval hW hc1 hc2 hsz hL hsh hc3
    exact contract H enc W base args ds gs before hval hW (hc2 _ rfl) hL hsh
theorem said : Rows.CommandBackUptoSaid :=
  OpenClaim.holds_of_cond 5 Tryz.f5 rfl rfl rfl rfl rfl rfl rfl ⟨rfl, rfl, rfl, rfl, rfl⟩ rfl rfl rfl rfl rfl (by kernel_rfl) Tryz.func5 (by kernel_rfl)
    (of_decide_eq_true (by kernel_rfl)) (by unfold Func.isWrapper; first | (rw [if_pos (by decide +kernel)]; kernel_rfl) | (rw [if_neg (by decide +kernel)]; exact ⟨rfl, rfl⟩))
    (fun os started H enc _ F => by rw [OpenClaim.pre_eq_preRow]; exact lifted os started H enc F)
theorem plain (f : FuncId) (fn : Func) (hf : Tryz.pinned.checked.prog.funcNamed "tapster/tapsterlaw18.CommandBack" = some f) (hfn : Tryz.pinned.checked.prog.funcs[f]? = some fn) :
    true = Tryz.pinned.checked.prog.looks [] ∧ ∀ (j : Nat) t, fn.params[j]? = some t → Tryz.pinned.checked.prog.wantsStandIn t = false := by
  obtain rfl : f = 5 := Option.some.inj ((show Tryz.prog.funcNamed "tapster/tapsterlaw18.CommandBack" = some 5 by kernel_rfl).symm.trans hf) |>.symm
  obtain rfl : fn = Tryz.f5 := (Option.some.inj (Tryz.func5.symm.trans hfn)).symm
  refine ⟨by kernel_rfl, fun j t ht => ?_⟩
  rw [Tryz.params5] at ht
  have hm : t ∈ [22, 31] := by simpa using Array.mem_of_getElem? ht
  have hall : ([22, 31].all fun u => !Tryz.prog.wantsStandIn u) = true := by kernel_rfl
  exact (show Tryz.prog.wantsStandIn t = false by simpa using List.all_eq_true.1 hall t hm)
end CBack
theorem commandBack_card : Rows.CommandBackUptoCardSaid :=
  Claim7.holds_tied_plain_at .later [] _ _ _ _ CBack.said (fun _ h => by cases h) (by kernel_rfl) (fun _ h => by cases h) commandBackUpto_row_tie rfl ⟨rfl, rfl⟩ (by kernel_rfl) rfl CBack.plain (by kernel_rfl)
#print axioms commandBack_card
end Go.Proofs.YtamjhnibenonjaaGreatDoor
