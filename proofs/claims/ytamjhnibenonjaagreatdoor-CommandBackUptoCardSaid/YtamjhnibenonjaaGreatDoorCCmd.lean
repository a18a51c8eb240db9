/- An argument that is a command, or a wish, opened: what it holds, and how much. -/
import Derived.Test.YtamjhnibenonjaaGreatDoorCErrs
import Derived.Test.YtamjhnibenonjaaGreatDoorSSmall
import Derived.Deep.Slices
namespace Go.Proofs.YtamjhnibenonjaaGreatDoor
set_option linter.unusedVariables false
set_option linter.unusedSimpArgs false
open Go Go.ChangeShapes Go.WideShapes Go.ChangeAt Go.RowKit
theorem bulk_one {H : Type} (d : DataW H) : 1 ≤ Rows.uptoBulk d := by
  cases d with
  | lit l => cases l <;> simp [Rows.uptoBulk]
  | nil => simp [Rows.uptoBulk]
  | ptr d => simp [Rows.uptoBulk]
  | slice elems spare => simp [Rows.uptoBulk]
  | agg parts => simp [Rows.uptoBulk]
  | iface t d => simp [Rows.uptoBulk]
  | map entries => simp [Rows.uptoBulk]
  | held h => simp [Rows.uptoBulk]
theorem bulk_append {H : Type} (l r : List (DataW H)) : Rows.uptoBulkAll (l ++ r) = Rows.uptoBulkAll l + Rows.uptoBulkAll r := by
  induction l with
  | nil => simp [Rows.uptoBulkAll]
  | cons x l ih => simp only [List.cons_append, Rows.uptoBulkAll, ih]; omega
theorem sum_bulk {H : Type} (f : Nat → Nat) (D : Nat → DataW H) : ∀ (n : Nat), (∀ i, i < n → f i ≤ Rows.uptoBulk (D i)) → ((List.range n).map f).sum ≤ Rows.uptoBulkAll ((List.range n).map D)
  | 0, _ => by simp
  | n + 1, h => by
    rw [List.range_succ, List.map_append, List.map_append, List.sum_append, bulk_append]
    have h1 := sum_bulk f D n (fun i hi => h i (by omega))
    have h2 := h n (by omega)
    simp only [List.map_cons, List.map_nil, List.sum_cons, List.sum_nil, Rows.uptoBulkAll]; omega
instance : Inhabited Wish := ⟨⟨⟨#[]⟩, 0, 0⟩⟩
def I64 (n : Int) : Prop := -9223372036854775808 ≤ n ∧ n ≤ 9223372036854775807
theorem i64_of {n : Int} (h : (Lit.int .i64 n).wf = true) : I64 n := by
  unfold I64
  simpa [Lit.wf, IntKind.min, IntKind.max, IntKind.signed, IntKind.bits] using h
theorem list3 {l : List Value} (h : l.length = 3) : ∃ a b c, l = [a, b, c] := by
  rcases l with _ | ⟨a, _ | ⟨b, _ | ⟨c, _ | ⟨d, l⟩⟩⟩⟩ <;> simp at h
  exact ⟨a, b, c, rfl⟩
theorem list6 {l : List Value} (h : l.length = 6) : ∃ a b c d e f, l = [a, b, c, d, e, f] := by
  rcases l with _ | ⟨a, _ | ⟨b, _ | ⟨c, _ | ⟨d, _ | ⟨e, _ | ⟨f, _ | ⟨g, l⟩⟩⟩⟩⟩⟩⟩ <;> simp at h
  exact ⟨a, b, c, d, e, f, rfl⟩
theorem list11 {l : List Value} (h : l.length = 11) : ∃ a b c d e f g i j k m, l = [a, b, c, d, e, f, g, i, j, k, m] := by
  rcases l with _ | ⟨a, _ | ⟨b, _ | ⟨c, _ | ⟨d, _ | ⟨e, _ | ⟨f, _ | ⟨g, _ | ⟨i, _ | ⟨j, _ | ⟨k, _ | ⟨m, _ | ⟨n, l⟩⟩⟩⟩⟩⟩⟩⟩⟩⟩⟩⟩ <;> simp at h
  exact ⟨a, b, c, d, e, f, g, i, j, k, m, rfl⟩
theorem cs_string : Tryz.prog.cellsOf 9 = 1 := by kernel_rfl
theorem cs_int : Tryz.prog.cellsOf 3 = 1 := by kernel_rfl
theorem cs_bool : Tryz.prog.cellsOf 4 = 1 := by kernel_rfl
theorem cs_pol : Tryz.prog.cellsOf 28 = 6 := by kernel_rfl
theorem cs_wish : Tryz.prog.cellsOf 42 = 3 := by kernel_rfl
theorem cs_cmd : Tryz.prog.cellsOf 31 = 11 := by kernel_rfl
theorem cs_strs : Tryz.prog.cellsOf 22 = 1 := by kernel_rfl
theorem cs_wishes : Tryz.prog.cellsOf 29 = 1 := by kernel_rfl
section
variable {H : Type} {enc : TypeId × Value → H} {W : World} {n : Nat}
theorem open_wish {cs : List Value} {x : DataW H × List MemPlace} (h : DataW.trod enc Tryz.prog W 0 (fun _ => true) true n 42 cs = some x) :
    ∃ y : Wish, cs = Wish.cells y ∧ I64 y.deep ∧ I64 y.cost ∧ y.name.size + 4 ≤ Rows.uptoBulk x.1 := by
  obtain ⟨y0, y1, y2, n', rfl, hl, h0, h1, h2⟩ := Deep.trod_struct3 Tryz.underlying42 h
  rw [cs_wish] at hl
  obtain ⟨a, b, c, rfl⟩ := list3 hl
  simp only [cs_string, cs_int, List.drop_zero, List.drop_succ_cons, List.take_succ_cons, List.take_zero] at h0 h1 h2
  obtain ⟨s, e0, rfl, -⟩ := DataW.trod_string Tryz.underlying9 h0
  obtain ⟨p, e1, rfl, w1⟩ := DataW.trod_int Tryz.underlying3 h1
  obtain ⟨q, e2, rfl, w2⟩ := DataW.trod_int Tryz.underlying3 h2
  simp only [List.cons.injEq, and_true] at e0 e1 e2
  subst e0 e1 e2
  refine ⟨⟨s, p, q⟩, rfl, i64_of w1, i64_of w2, ?_⟩
  simp only [Rows.uptoBulk, Rows.uptoBulkAll]
  have : s.data.toList.length = s.size := Array.length_toList
  omega
theorem flat_get : ∀ (l : List Wish) (j : Nat) (x : Value), (l.flatMap Wish.cells)[j]? = some x → ∃ y, l[j / 3]? = some y ∧ (Wish.cells y)[j % 3]? = some x
  | [], j, x, h => by simp at h
  | y :: l, j, x, h => by
    rw [List.flatMap_cons] at h
    have hl : (Wish.cells y).length = 3 := rfl
    by_cases hj : j < 3
    · rw [List.getElem?_append_left (by omega)] at h
      refine ⟨y, ?_, ?_⟩
      · rw [Nat.div_eq_of_lt hj]; rfl
      · rw [Nat.mod_eq_of_lt hj]; exact h
    · rw [List.getElem?_append_right (by omega), hl] at h
      obtain ⟨z, h1, h2⟩ := flat_get l (j - 3) x h
      have e1 : j / 3 = (j - 3) / 3 + 1 := by omega
      have e2 : j % 3 = (j - 3) % 3 := by omega
      exact ⟨z, by rw [e1]; exact h1, by rw [e2]; exact h2⟩
theorem open_wishes {v : Value} {x : DataW H × List MemPlace} (h : DataW.trod enc Tryz.prog W 0 (fun _ => true) true n 29 [v] = some x) :
    ∃ l : List Wish, RowIn W W.heap.size 3 v l.length (l.flatMap Wish.cells) ∧ (∀ y ∈ l, I64 y.deep ∧ I64 y.cost ∧ y.name.size ≤ Rows.uptoBulk x.1) ∧ l.length * 4 ≤ Rows.uptoBulk x.1 := by
  rcases Deep.open_slice Tryz.underlying29 h with ⟨hv, -⟩ | ⟨a, len, cap, m, n', D, Pl, hv, -, hlc, hcm, hm, rfl, hx⟩
  · simp only [List.cons.injEq, and_true] at hv
    subst hv
    exact ⟨[], RowIn.nil _ _ _ _, (fun y hy => nomatch hy), by show 0 * 4 ≤ _; omega⟩
  · simp only [List.cons.injEq, and_true] at hv
    subst hv
    simp only [if_true] at hm
    subst hm
    rw [cs_wish] at hx
    have each : ∀ i, i < len → ∃ y : Wish, (∀ r, r < 3 → W.cell? ((a.add (i * 3)).add r) = (Wish.cells y)[r]?) ∧ I64 y.deep ∧ I64 y.cost ∧ y.name.size + 4 ≤ Rows.uptoBulk (D i) := by
      intro i hi
      obtain ⟨cs', h1, h2⟩ := hx i (by omega)
      obtain ⟨y, rfl, h3, h4, h5⟩ := open_wish h2
      exact ⟨y, (World.cells?_some h1).2.2, h3, h4, h5⟩
    obtain ⟨Y, hY⟩ := Deep.choose_lt each
    have hl : ((List.range len).map Y).length = len := by simp
    have hget : ∀ (j : Nat) (y : Wish), ((List.range len).map Y)[j]? = some y → j < len ∧ y = Y j := by
      intro j y hj
      rw [List.getElem?_map] at hj
      by_cases hjl : j < len
      · rw [List.getElem?_range hjl] at hj
        simp only [Option.map_some, Option.some.injEq] at hj
        exact ⟨hjl, hj.symm⟩
      · rw [List.getElem?_eq_none (by simpa using hjl)] at hj; cases hj
    have hs4 := sum_bulk (fun i => (Y i).name.size + 4) D len (fun i hi => (hY i hi).2.2.2)
    have hbulk : Rows.uptoBulkAll ((List.range len).map D) ≤ Rows.uptoBulk (DataW.slice ((List.range len).map D) ((List.range (m - len)).map fun j => D (len + j))) := by simp only [Rows.uptoBulk]; omega
    refine ⟨(List.range len).map Y, ?_, fun y hy => ?_, ?_⟩
    · rw [hl]
      refine ⟨some a, m, rfl, hlc, hcm, fun hne => ?_⟩
      have hc0 := (hY 0 (by omega)).1 0 (by decide)
      have had : (a.add (0 * 3)).add 0 = a := by unfold Addr.add; simp
      rw [had] at hc0
      have e := spot_none hc0
      refine ⟨a.block, a.off, by rw [← e], World.block_lt_of_cell? W a hc0, fun j z hj => ?_⟩
      obtain ⟨y, h1, h2⟩ := flat_get _ j z hj
      obtain ⟨hjl, rfl⟩ := hget _ _ h1
      have h3 := (hY _ hjl).1 (j % 3) (Nat.mod_lt _ (by decide))
      rw [e, WideShapes.add_plain, WideShapes.add_plain] at h3
      rw [show a.off + j = a.off + j / 3 * 3 + j % 3 by omega, h3]
      exact h2
    · obtain ⟨i, hi, rfl⟩ := List.mem_map.1 hy
      have hi' := List.mem_range.1 hi
      have hh := hY i hi'
      have : Rows.uptoBulk (D i) ≤ Rows.uptoBulkAll ((List.range len).map D) := by
        have : ∀ (l : List (DataW H)) (d : DataW H), d ∈ l → Rows.uptoBulk d ≤ Rows.uptoBulkAll l := by
          intro l
          induction l with
          | nil => intro d hd; cases hd
          | cons x r ih =>
            intro d hd
            simp only [Rows.uptoBulkAll]
            rcases List.mem_cons.1 hd with rfl | hd
            · omega
            · have := ih d hd; omega
        exact this _ _ (List.mem_map.2 ⟨i, hi, rfl⟩)
      exact ⟨hh.2.1, hh.2.2.1, by dsimp only; omega⟩
    · rw [hl]
      have : ∀ k, k * 4 ≤ ((List.range k).map (fun i => (Y i).name.size + 4)).sum := by
        intro k
        induction k with
        | zero => simp
        | succ k ih => rw [List.range_succ, List.map_append, List.sum_append]; simp only [List.map_cons, List.map_nil, List.sum_cons, List.sum_nil]; omega
      have := this len
      dsimp only
      omega
theorem open_strsB {v : Value} {x : DataW H × List MemPlace} (h : DataW.trod enc Tryz.prog W 0 (fun _ => true) true n 22 [v] = some x) :
    ∃ l : List ByteArray, RowIn W W.heap.size 1 v l.length (l.map .string) ∧ longL l ≤ Rows.uptoBulk x.1 := by
  rcases Deep.open_strs Tryz.underlying22 Tryz.underlying9 (by kernel_rfl) h with ⟨hcs, -⟩ | ⟨ad, len, cap, m, Sx, hcs, -, hlc, hcm, hm, rfl, hcell⟩
  · simp only [List.cons.injEq, and_true] at hcs
    subst hcs
    exact ⟨[], RowIn.nil _ _ _ _, by simp [longL]⟩
  · simp only [List.cons.injEq, and_true] at hcs
    subst hcs
    simp only [if_true] at hm
    subst hm
    have hl : ((List.range len).map Sx).length = len := by simp
    refine ⟨(List.range len).map Sx, ?_, ?_⟩
    · rw [hl]
      refine ⟨some ad, m, rfl, hlc, hcm, fun hne => ?_⟩
      have hc0 := (hcell 0 (by omega)).1
      have had : ad.add 0 = ad := by unfold Addr.add; simp
      rw [had] at hc0
      have e := spot_none hc0
      refine ⟨ad.block, ad.off, by rw [← e], World.block_lt_of_cell? W ad hc0, fun j x hj => ?_⟩
      rw [List.getElem?_map, List.getElem?_map] at hj
      by_cases hjl : j < len
      · rw [List.getElem?_range hjl] at hj
        simp only [Option.map_some, Option.some.injEq] at hj
        subst hj
        have := (hcell j (by omega)).1
        rw [e, WideShapes.add_plain] at this
        exact this
      · rw [List.getElem?_eq_none (by simpa using hjl)] at hj; cases hj
    · have hs := sum_bulk (fun i => (Sx i).size + 1) (fun i => (DataW.lit (.string (Sx i).data.toList) : DataW H)) len (fun i _ => by
        simp only [Rows.uptoBulk]
        have : (Sx i).data.toList.length = (Sx i).size := Array.length_toList
        omega)
      have e : longL ((List.range len).map Sx) = ((List.range len).map (fun i => (Sx i).size + 1)).sum := by
        rw [longL, List.map_map]; rfl
      rw [e]
      simp only [Rows.uptoBulk]
      omega
theorem open_pol {cs : List Value} {x : DataW H × List MemPlace} (h : DataW.trod enc Tryz.prog W 0 (fun _ => true) true n 28 cs = some x) :
    ∃ p : Pol, cs = [.int .i64 p.kind, .int .i64 p.limit, .int .i64 p.period, .int .i64 p.burst, .int .i64 p.cap, .bool p.opn] ∧ I64 p.kind ∧ I64 p.limit ∧ I64 p.period ∧ I64 p.burst ∧ I64 p.cap := by
  obtain ⟨xs, n', -, rfl, hl, hlen, hf⟩ := DataW.trod_struct Tryz.underlying28 h
  rw [cs_pol] at hl
  obtain ⟨a0, a1, a2, a3, a4, a5, rfl⟩ := list6 hl
  match xs, hlen with
  | [y0, y1, y2, y3, y4, y5], _ =>
    have h0 : DataW.trod enc Tryz.prog W 0 (fun _ => true) true n' 3 (([a0, a1, a2, a3, a4, a5].drop 0).take (Tryz.prog.cellsOf 3)) = some y0 := hf 0 _ rfl
    have h1 : DataW.trod enc Tryz.prog W 0 (fun _ => true) true n' 3 (([a0, a1, a2, a3, a4, a5].drop 1).take (Tryz.prog.cellsOf 3)) = some y1 := hf 1 _ rfl
    have h2 : DataW.trod enc Tryz.prog W 0 (fun _ => true) true n' 3 (([a0, a1, a2, a3, a4, a5].drop 2).take (Tryz.prog.cellsOf 3)) = some y2 := hf 2 _ rfl
    have h3 : DataW.trod enc Tryz.prog W 0 (fun _ => true) true n' 3 (([a0, a1, a2, a3, a4, a5].drop 3).take (Tryz.prog.cellsOf 3)) = some y3 := hf 3 _ rfl
    have h4 : DataW.trod enc Tryz.prog W 0 (fun _ => true) true n' 3 (([a0, a1, a2, a3, a4, a5].drop 4).take (Tryz.prog.cellsOf 3)) = some y4 := hf 4 _ rfl
    have h5 : DataW.trod enc Tryz.prog W 0 (fun _ => true) true n' 4 (([a0, a1, a2, a3, a4, a5].drop 5).take (Tryz.prog.cellsOf 4)) = some y5 := hf 5 _ rfl
    simp only [cs_int, cs_bool, List.drop_zero, List.drop_succ_cons, List.take_succ_cons, List.take_zero] at h0 h1 h2 h3 h4 h5
    obtain ⟨k0, e0, -, w0⟩ := DataW.trod_int Tryz.underlying3 h0
    obtain ⟨k1, e1, -, w1⟩ := DataW.trod_int Tryz.underlying3 h1
    obtain ⟨k2, e2, -, w2⟩ := DataW.trod_int Tryz.underlying3 h2
    obtain ⟨k3, e3, -, w3⟩ := DataW.trod_int Tryz.underlying3 h3
    obtain ⟨k4, e4, -, w4⟩ := DataW.trod_int Tryz.underlying3 h4
    obtain ⟨k5, e5, -⟩ := DataW.trod_bool Tryz.underlying4 h5
    simp only [List.cons.injEq, and_true] at e0 e1 e2 e3 e4 e5
    subst e0 e1 e2 e3 e4 e5
    exact ⟨⟨k0, k1, k2, k3, k4, k5⟩, rfl, i64_of w0, i64_of w1, i64_of w2, i64_of w3, i64_of w4⟩
set_option maxRecDepth 100000 in
/-- AN ARGUMENT THAT IS A COMMAND. -/
theorem open_cmd {v : Value} {d : DataW H} {ps : List MemPlace} (hd : DataW.Trod enc Tryz.prog W 0 (fun _ => true) true 31 v d ps) {bs : Nat} (hval : Value.okWide Tryz.prog W .any bs 31 v) (hb : Rows.uptoBulk d ≤ 1048576) :
    ∃ c : Cmd, CmdIn W W.heap.size v c ∧ Small c := by
  obtain ⟨cs, rfl, -⟩ := okWide_struct Tryz.underlying31 hval
  obtain ⟨fuel, hf0⟩ := hd
  obtain ⟨xs, n', -, hx, hl, hlen, hf⟩ := DataW.trod_struct Tryz.underlying31 hf0
  rw [cs_cmd] at hl
  have hcs : (Value.cells (.agg cs)).toList = cs.toList := by simp [Value.cells]
  rw [hcs] at hl hf
  obtain ⟨a0, a1, a2, a3, a4, a5, a6, a7, a8, a9, a10, hcl⟩ := list11 hl
  obtain rfl : cs = #[a0, a1, a2, a3, a4, a5, a6, a7, a8, a9, a10] := by rw [← Array.toList_inj, hcl]
  match xs, hlen with
  | [y0, y1, y2, y3, y4, y5], _ =>
    have h0 : DataW.trod enc Tryz.prog W 0 (fun _ => true) true n' 3 (([a0, a1, a2, a3, a4, a5, a6, a7, a8, a9, a10].drop 0).take (Tryz.prog.cellsOf 3)) = some y0 := hf 0 _ rfl
    have h1 : DataW.trod enc Tryz.prog W 0 (fun _ => true) true n' 9 (([a0, a1, a2, a3, a4, a5, a6, a7, a8, a9, a10].drop 1).take (Tryz.prog.cellsOf 9)) = some y1 := hf 1 _ rfl
    have h2 : DataW.trod enc Tryz.prog W 0 (fun _ => true) true n' 28 (([a0, a1, a2, a3, a4, a5, a6, a7, a8, a9, a10].drop 2).take (Tryz.prog.cellsOf 28)) = some y2 := hf 2 _ rfl
    have h3 : DataW.trod enc Tryz.prog W 0 (fun _ => true) true n' 22 (([a0, a1, a2, a3, a4, a5, a6, a7, a8, a9, a10].drop 8).take (Tryz.prog.cellsOf 22)) = some y3 := hf 3 _ rfl
    have h4 : DataW.trod enc Tryz.prog W 0 (fun _ => true) true n' 29 (([a0, a1, a2, a3, a4, a5, a6, a7, a8, a9, a10].drop 9).take (Tryz.prog.cellsOf 29)) = some y4 := hf 4 _ rfl
    have h5 : DataW.trod enc Tryz.prog W 0 (fun _ => true) true n' 3 (([a0, a1, a2, a3, a4, a5, a6, a7, a8, a9, a10].drop 10).take (Tryz.prog.cellsOf 3)) = some y5 := hf 5 _ rfl
    simp only [cs_int, cs_string, cs_pol, cs_strs, cs_wishes, List.drop_zero, List.drop_succ_cons, List.take_succ_cons, List.take_zero] at h0 h1 h2 h3 h4 h5
    obtain ⟨k, e0, -, w0⟩ := DataW.trod_int Tryz.underlying3 h0
    obtain ⟨s, e1, r1, -⟩ := DataW.trod_string Tryz.underlying9 h1
    obtain ⟨p, e2, p1, p2, p3, p4, p5⟩ := open_pol h2
    obtain ⟨pl, hpl, hpb⟩ := open_strsB h3
    obtain ⟨wl, hwl, hwb, hwn⟩ := open_wishes h4
    obtain ⟨nn, e5, -, w5⟩ := DataW.trod_int Tryz.underlying3 h5
    simp only [List.cons.injEq, and_true] at e0 e1 e2 e5
    obtain ⟨rfl, rfl, rfl, rfl, rfl, rfl⟩ := e2
    subst e0 e1 e5
    simp only [Prod.mk.injEq] at hx
    obtain ⟨rfl, -⟩ := hx
    simp only [List.map_cons, List.map_nil, Rows.uptoBulk, Rows.uptoBulkAll, r1] at hb
    have hss : s.data.toList.length = s.size := Array.length_toList
    refine ⟨⟨k, s, p, pl, wl, nn⟩, ⟨_, _, rfl, hpl, hwl⟩, ⟨i64_of w5, p1, p2, p3, p4, p5, by show s.size ≤ _; omega, by show longL pl ≤ _; omega, by show wl.length ≤ _; omega, fun y hy => ?_⟩⟩
    have := hwb y hy
    exact ⟨by omega, this.1, this.2.1⟩
set_option maxRecDepth 100000 in
theorem open_wishArg {v : Value} {d : DataW H} {ps : List MemPlace} (hd : DataW.Trod enc Tryz.prog W 0 (fun _ => true) true 42 v d ps) {bs : Nat} (hval : Value.okWide Tryz.prog W .any bs 42 v) (hb : Rows.uptoBulk d ≤ 1048576) :
    ∃ y : Wish, v = .agg #[.string y.name, .int .i64 y.deep, .int .i64 y.cost] ∧ y.name.size ≤ 2000000 ∧ I64 y.deep ∧ I64 y.cost := by
  obtain ⟨cs, rfl, -⟩ := okWide_struct Tryz.underlying42 hval
  obtain ⟨fuel, hf0⟩ := hd
  have hcs : (Value.cells (.agg cs)).toList = cs.toList := by simp [Value.cells]
  rw [hcs] at hf0
  obtain ⟨y, h1, h2, h3, h4⟩ := open_wish hf0
  refine ⟨y, ?_, by simp only at h4; omega, h2, h3⟩
  congr 1
  rw [← Array.toList_inj, h1]; rfl
end
end Go.Proofs.YtamjhnibenonjaaGreatDoor
