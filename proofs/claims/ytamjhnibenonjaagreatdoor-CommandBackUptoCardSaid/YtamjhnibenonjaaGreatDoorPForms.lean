/- command.forms: the table of forms. -/
import Derived.Test.YtamjhnibenonjaaGreatDoorPUp
import Derived.Maps.Own
namespace Go.Proofs.YtamjhnibenonjaaGreatDoor
set_option linter.unusedVariables false
set_option linter.unusedSimpArgs false
open Go Go.RowKit
structure Form where
  name : ByteArray
  kind : Int
  least : Int
  most : Int
  fns : List Nat
def str (l : List UInt8) : ByteArray := ⟨l.toArray⟩
def formTab : List Form := [
  ⟨⟨#[80, 73, 78, 71]⟩, 1, 0, 0, []⟩, ⟨⟨#[83, 84, 65, 84, 83]⟩, 15, 0, 0, []⟩,
  ⟨⟨#[68, 82, 79, 80]⟩, 3, 1, 1, [27]⟩, ⟨⟨#[80, 79, 76, 73, 67, 89]⟩, 2, 7, 7, [27, 34]⟩,
  ⟨⟨#[71, 69, 84]⟩, 10, 1, 1, [28]⟩, ⟨⟨#[68, 69, 76]⟩, 12, 1, 1, [28]⟩, ⟨⟨#[84, 84, 76]⟩, 14, 1, 1, [28]⟩,
  ⟨⟨#[83, 69, 84]⟩, 9, 2, 2, [28, 29]⟩, ⟨⟨#[73, 78, 67, 82, 66, 89]⟩, 11, 2, 2, [28, 29]⟩, ⟨⟨#[69, 88, 80, 73, 82, 69]⟩, 13, 2, 2, [28, 32]⟩,
  ⟨⟨#[84, 65, 75, 69]⟩, 4, 2, 1073741824, [30, 31]⟩, ⟨⟨#[80, 69, 69, 75]⟩, 5, 2, 1073741824, [30, 31]⟩,
  ⟨⟨#[82, 69, 83, 69, 82, 86, 69]⟩, 6, 3, 1073741824, [32, 30, 31]⟩,
  ⟨⟨#[67, 79, 77, 77, 73, 84]⟩, 7, 1, 2, [33, 35]⟩, ⟨⟨#[67, 65, 78, 67, 69, 76]⟩, 8, 1, 1, [33]⟩]
def Form.val (r : Form) (sv : Value) : Value := .agg #[.int .i64 r.kind, .int .i64 r.least, .int .i64 r.most, sv]
def FnsIn (w : World) (B : Nat) (v : Value) (l : List Nat) : Prop :=
  ∃ a c, v = .slice a l.length c ∧ (l ≠ [] → ∃ g, a = some ⟨g, 0, none⟩ ∧ B ≤ g ∧ g < w.heap.size ∧ ∀ j f, l[j]? = some f → w.cell? ⟨g, j, none⟩ = some (.func (.func f) #[] #[]))
theorem FnsIn.keep {w w' : World} {B : Nat} {v : Value} {l : List Nat} (h : FnsIn w B v l) {S : Nat → Prop} (hk : Keep S w w') (hs : ∀ k, B ≤ k → k < w.heap.size → ¬ S k) : FnsIn w' B v l := by
  obtain ⟨a, c, rfl, hl⟩ := h
  refine ⟨a, c, rfl, fun hne => ?_⟩
  obtain ⟨g, rfl, hB, hlt, hc⟩ := hl hne
  exact ⟨g, rfl, hB, Nat.lt_of_lt_of_le hlt hk.size, fun j f hj => hk.cell (hc j f hj) (hs g hB hlt)⟩
theorem FnsIn.new (w : World) (B : Nat) (l : List Nat) (t : TypeId) (hB : B ≤ w.heap.size) : FnsIn (w.alloc (.cells (l.map fun f => Value.func (.func f) #[] #[]).toArray t)) B (.slice (some ⟨w.heap.size, 0, none⟩) l.length l.length) l := by
  refine ⟨_, _, rfl, fun _ => ⟨_, rfl, hB, by simp, fun j f hj => ?_⟩⟩
  rw [cell_of_row _ _ _ _ _ _ (block_new _ _)]
  rw [List.getElem?_toArray, List.getElem?_map, hj]; rfl
/-- Block b holds the first k forms. -/
structure FormsUpto (w : World) (b k : Nat) : Prop where
  ex : ∃ es, w.heap[b]? = some (.map es k) ∧ es.size = k ∧ ∀ i r, i < k → formTab[i]? = some r → ∃ e sv, es[i]? = some e ∧ e.key = .string r.name ∧ e.val = r.val sv ∧ FnsIn w (b + 1) sv r.fns ∧ e.born = i
theorem FormsUpto.lt {w : World} {b k : Nat} (h : FormsUpto w b k) : b < w.heap.size := by
  obtain ⟨es, hb, _⟩ := h.ex; exact lt_of_block hb
theorem FormsUpto.keep {w w' : World} {b k : Nat} (h : FormsUpto w b k) (hk : Keep (fun _ => False) w w') : FormsUpto w' b k := by
  obtain ⟨es, hb, hs, hr⟩ := h.ex
  refine ⟨es, hk.get hb id, hs, fun i r hi hr' => ?_⟩
  obtain ⟨e, sv, h1, h2, h3, h4, h5⟩ := hr i r hi hr'
  exact ⟨e, sv, h1, h2, h3, h4.keep hk (fun _ _ _ => id), h5⟩
theorem FormsUpto.start (w : World) : FormsUpto (w.alloc (.map #[] 0)) w.heap.size 0 :=
  ⟨#[], (MapKept.heap_alloc w _).1, rfl, fun i r hi => by omega⟩
theorem formTab_ne : ∀ (i j : Nat) (r q : Form), i < j → formTab[i]? = some r → formTab[j]? = some q → (q.name == r.name) = false := by
  have h : (formTab.map fun r => r.name.data.toList).Nodup := by decide
  intro i j r q hij hi hj
  rw [List.nodup_iff_pairwise_ne, List.pairwise_iff_getElem] at h
  have hi' := List.getElem?_eq_some_iff.1 hi
  have hj' := List.getElem?_eq_some_iff.1 hj
  have := h i j (by simpa using hi'.1) (by simpa using hj'.1) hij
  simp only [List.getElem_map, hi'.2, hj'.2] at this
  show (q.name.data == r.name.data) = false
  simp only [beq_eq_false_iff_ne, ne_eq]
  rintro e; exact this (by rw [e])
theorem findNow_none (s : ByteArray) : ∀ (es : List MapEntry) (i : Nat), (∀ e ∈ es, ∃ t, e.key = .string t ∧ (s == t) = false) → Instr.findNow .string (.string s) es i = some none := by
  intro es
  induction es with
  | nil => intro i _; rfl
  | cons e es ih =>
    intro i h
    obtain ⟨t, ht, hn⟩ := h e (List.mem_cons_self ..)
    simp only [Instr.findNow, ht, Instr.sameNow, hn]
    exact ih _ (fun x hx => h x (List.mem_cons_of_mem _ hx))
theorem FormsUpto.insert {w : World} {b k : Nat} {r : Form} {sv : Value} {t kt et : TypeId} (h : FormsUpto w b k) (ht : Tryz.prog.underlying t = some (.map kt et)) (hkt : Tryz.prog.underlying kt = some .string) (hr : formTab[k]? = some r)
    (hs : FnsIn w (b + 1) sv r.fns) : ∃ w', (Instr.mapUpdate t (.map (some b)) (.string r.name) (r.val sv)).run Tryz.prog w = .ok () w' ∧ FormsUpto w' b (k + 1) ∧ Keep (fun j => j = b) w w' := by
  obtain ⟨es, hb, hsz, hes⟩ := h.ex
  have hfind : Instr.findNow .string (.string r.name) es.toList 0 = some none := findNow_none _ _ _ (fun e he => by
    obtain ⟨i, hi, rfl⟩ := List.getElem_of_mem he
    have hi2 : i < k := by simpa [hsz] using hi
    obtain ⟨q, hq⟩ : ∃ q, formTab[i]? = some q := ⟨_, List.getElem?_eq_getElem (by have := (List.getElem?_eq_some_iff.1 hr).1; omega)⟩
    obtain ⟨e, sv', h1, h2, h3, h4⟩ := hes i q hi2 hq
    refine ⟨q.name, ?_, formTab_ne i k q r hi2 hq hr⟩
    have : es.toList[i] = e := by have := (Array.getElem?_eq_some_iff.1 h1).2; simpa using this
    rw [this, h2])
  have hkp : Keep (fun j => j = b) w (w.putObj b (.map (es.push ⟨.string r.name, r.val sv, k⟩) (k + 1))) := keep_putObj _ _ _ _ rfl
  refine ⟨w.putObj b (.map (es.push ⟨.string r.name, r.val sv, k⟩) (k + 1)), ?_, ⟨_, World.putObj_heap_same (lt_of_block hb), by simp [hsz], fun i q hi hq => ?_⟩, hkp⟩
  · have hc : (Instr.checkKey false 10000 kt (.string r.name)).run Tryz.prog w = .ok () w := MapKept.run_checkKey (k := .string r.name) hkt (by simp [MapKept.IsKey]) false 9999
    simp [Instr.mapUpdate, run_underlying ht, MapKept.run_getObj_map hb, hc, MapKept.run_findKey hkt hfind, MapKept.run_setObj_map _ hb, Result.andThen, World.putObj]
  · by_cases hik : i = k
    · subst hik; rw [hr] at hq; cases hq
      exact ⟨_, sv, by rw [Array.getElem?_push, if_pos hsz.symm], rfl, rfl, hs.keep hkp (fun j hj _ e => by omega), rfl⟩
    · obtain ⟨e, sv', h1, h2, h3, h4, h5⟩ := hes i q (by omega) hq
      exact ⟨e, sv', by rw [Array.getElem?_push, if_neg (by omega)]; exact h1, h2, h3, h4.keep hkp (fun j hj _ e => by omega), h5⟩
set_option maxHeartbeats 4000000 in
set_option maxRecDepth 100000 in
theorem forms_any (w : World) :
    Calls Tryz.prog 19 #[] w fun e w' => e = .returned (.map (some w.heap.size)) ∧ FormsUpto w' w.heap.size 15 ∧ Keep (fun _ => False) w w' := by
  have hmm := @run_makeMap Tryz.prog
  have HF := FormsUpto.start w
  have HS : w.heap.size < (w.alloc (.map #[] 0)).heap.size := by simp
  have KP : Keep (fun _ => False) w (w.alloc (.map #[] 0)) := (Keep.refl _ _).alloc _
  go_enter Tryz.func19, Tryz.ntmps19
  go_wp2
  clear hmm
  obtain ⟨w0, hw0⟩ : ∃ w0, w0 = w.alloc (.map #[] 0) := ⟨_, rfl⟩
  rw [← hw0] at HF HS KP ⊢
  clear hw0
  obtain ⟨w1, hr, hf', hk'⟩ : ∃ w', (Instr.mapUpdate 50 (.map (some w.heap.size)) (.string ⟨#[80, 73, 78, 71]⟩) (.agg #[.int .i64 1, .int .i64 0, .int .i64 0, (.slice none 0 0)])).run Tryz.prog w0 = .ok () w' ∧ FormsUpto w' w.heap.size 1 ∧ Keep (fun j => j = w.heap.size) w0 w' :=
    FormsUpto.insert (r := ⟨⟨#[80, 73, 78, 71]⟩, 1, 0, 0, []⟩) HF Tryz.underlying50 Tryz.underlying9 rfl ⟨_, _, rfl, fun h => absurd rfl h⟩
  have KP' : Keep (fun _ => False) w w1 := KP.step hk' (fun k hk e => by omega)
  have HS' : w.heap.size < w1.heap.size := Nat.lt_of_lt_of_le HS hk'.size
  clear HF KP HS hk'
  have HF := hf'
  have KP := KP'
  have HS := HS'
  clear hf' KP' HS'
  rw [hr]
  go_wp2
  clear hr
  obtain ⟨w2, hr, hf', hk'⟩ : ∃ w', (Instr.mapUpdate 50 (.map (some w.heap.size)) (.string ⟨#[83, 84, 65, 84, 83]⟩) (.agg #[.int .i64 15, .int .i64 0, .int .i64 0, (.slice none 0 0)])).run Tryz.prog w1 = .ok () w' ∧ FormsUpto w' w.heap.size 2 ∧ Keep (fun j => j = w.heap.size) w1 w' :=
    FormsUpto.insert (r := ⟨⟨#[83, 84, 65, 84, 83]⟩, 15, 0, 0, []⟩) HF Tryz.underlying50 Tryz.underlying9 rfl ⟨_, _, rfl, fun h => absurd rfl h⟩
  have KP' : Keep (fun _ => False) w w2 := KP.step hk' (fun k hk e => by omega)
  have HS' : w.heap.size < w2.heap.size := Nat.lt_of_lt_of_le HS hk'.size
  clear HF KP HS hk'
  have HF := hf'
  have KP := KP'
  have HS := HS'
  clear hf' KP' HS'
  rw [hr]
  go_wp2
  clear hr
  obtain ⟨w3, hr, hf', hk'⟩ : ∃ w', (Instr.mapUpdate 50 (.map (some w.heap.size)) (.string ⟨#[68, 82, 79, 80]⟩) (.agg #[.int .i64 3, .int .i64 1, .int .i64 1, (.slice (some ⟨w2.heap.size, 0, none⟩) 1 1)])).run Tryz.prog (w2.alloc (.cells #[.func (.func 27) #[] #[]] 56)) = .ok () w' ∧ FormsUpto w' w.heap.size 3 ∧ Keep (fun j => j = w.heap.size) (w2.alloc (.cells #[.func (.func 27) #[] #[]] 56)) w' :=
    FormsUpto.insert (r := ⟨⟨#[68, 82, 79, 80]⟩, 3, 1, 1, [27]⟩) (HF.keep ((Keep.refl _ _).alloc _)) Tryz.underlying50 Tryz.underlying9 rfl (FnsIn.new w2 _ [27] _ (by omega))
  have KP' : Keep (fun _ => False) w w3 := (KP.alloc (.cells #[.func (.func 27) #[] #[]] 56)).step hk' (fun k hk e => by omega)
  have HS' : w.heap.size < w3.heap.size := Nat.lt_of_lt_of_le (by simp; omega) hk'.size
  clear HF KP HS hk'
  have HF := hf'
  have KP := KP'
  have HS := HS'
  clear hf' KP' HS'
  rw [hr]
  go_wp2
  clear hr
  obtain ⟨w4, hr, hf', hk'⟩ : ∃ w', (Instr.mapUpdate 50 (.map (some w.heap.size)) (.string ⟨#[80, 79, 76, 73, 67, 89]⟩) (.agg #[.int .i64 2, .int .i64 7, .int .i64 7, (.slice (some ⟨w3.heap.size, 0, none⟩) 2 2)])).run Tryz.prog (w3.alloc (.cells #[.func (.func 27) #[] #[], .func (.func 34) #[] #[]] 56)) = .ok () w' ∧ FormsUpto w' w.heap.size 4 ∧ Keep (fun j => j = w.heap.size) (w3.alloc (.cells #[.func (.func 27) #[] #[], .func (.func 34) #[] #[]] 56)) w' :=
    FormsUpto.insert (r := ⟨⟨#[80, 79, 76, 73, 67, 89]⟩, 2, 7, 7, [27, 34]⟩) (HF.keep ((Keep.refl _ _).alloc _)) Tryz.underlying50 Tryz.underlying9 rfl (FnsIn.new w3 _ [27, 34] _ (by omega))
  have KP' : Keep (fun _ => False) w w4 := (KP.alloc (.cells #[.func (.func 27) #[] #[], .func (.func 34) #[] #[]] 56)).step hk' (fun k hk e => by omega)
  have HS' : w.heap.size < w4.heap.size := Nat.lt_of_lt_of_le (by simp; omega) hk'.size
  clear HF KP HS hk'
  have HF := hf'
  have KP := KP'
  have HS := HS'
  clear hf' KP' HS'
  rw [hr]
  go_wp2
  clear hr
  obtain ⟨w5, hr, hf', hk'⟩ : ∃ w', (Instr.mapUpdate 50 (.map (some w.heap.size)) (.string ⟨#[71, 69, 84]⟩) (.agg #[.int .i64 10, .int .i64 1, .int .i64 1, (.slice (some ⟨w4.heap.size, 0, none⟩) 1 1)])).run Tryz.prog (w4.alloc (.cells #[.func (.func 28) #[] #[]] 56)) = .ok () w' ∧ FormsUpto w' w.heap.size 5 ∧ Keep (fun j => j = w.heap.size) (w4.alloc (.cells #[.func (.func 28) #[] #[]] 56)) w' :=
    FormsUpto.insert (r := ⟨⟨#[71, 69, 84]⟩, 10, 1, 1, [28]⟩) (HF.keep ((Keep.refl _ _).alloc _)) Tryz.underlying50 Tryz.underlying9 rfl (FnsIn.new w4 _ [28] _ (by omega))
  have KP' : Keep (fun _ => False) w w5 := (KP.alloc (.cells #[.func (.func 28) #[] #[]] 56)).step hk' (fun k hk e => by omega)
  have HS' : w.heap.size < w5.heap.size := Nat.lt_of_lt_of_le (by simp; omega) hk'.size
  clear HF KP HS hk'
  have HF := hf'
  have KP := KP'
  have HS := HS'
  clear hf' KP' HS'
  rw [hr]
  go_wp2
  clear hr
  obtain ⟨w6, hr, hf', hk'⟩ : ∃ w', (Instr.mapUpdate 50 (.map (some w.heap.size)) (.string ⟨#[68, 69, 76]⟩) (.agg #[.int .i64 12, .int .i64 1, .int .i64 1, (.slice (some ⟨w5.heap.size, 0, none⟩) 1 1)])).run Tryz.prog (w5.alloc (.cells #[.func (.func 28) #[] #[]] 56)) = .ok () w' ∧ FormsUpto w' w.heap.size 6 ∧ Keep (fun j => j = w.heap.size) (w5.alloc (.cells #[.func (.func 28) #[] #[]] 56)) w' :=
    FormsUpto.insert (r := ⟨⟨#[68, 69, 76]⟩, 12, 1, 1, [28]⟩) (HF.keep ((Keep.refl _ _).alloc _)) Tryz.underlying50 Tryz.underlying9 rfl (FnsIn.new w5 _ [28] _ (by omega))
  have KP' : Keep (fun _ => False) w w6 := (KP.alloc (.cells #[.func (.func 28) #[] #[]] 56)).step hk' (fun k hk e => by omega)
  have HS' : w.heap.size < w6.heap.size := Nat.lt_of_lt_of_le (by simp; omega) hk'.size
  clear HF KP HS hk'
  have HF := hf'
  have KP := KP'
  have HS := HS'
  clear hf' KP' HS'
  rw [hr]
  go_wp2
  clear hr
  obtain ⟨w7, hr, hf', hk'⟩ : ∃ w', (Instr.mapUpdate 50 (.map (some w.heap.size)) (.string ⟨#[84, 84, 76]⟩) (.agg #[.int .i64 14, .int .i64 1, .int .i64 1, (.slice (some ⟨w6.heap.size, 0, none⟩) 1 1)])).run Tryz.prog (w6.alloc (.cells #[.func (.func 28) #[] #[]] 56)) = .ok () w' ∧ FormsUpto w' w.heap.size 7 ∧ Keep (fun j => j = w.heap.size) (w6.alloc (.cells #[.func (.func 28) #[] #[]] 56)) w' :=
    FormsUpto.insert (r := ⟨⟨#[84, 84, 76]⟩, 14, 1, 1, [28]⟩) (HF.keep ((Keep.refl _ _).alloc _)) Tryz.underlying50 Tryz.underlying9 rfl (FnsIn.new w6 _ [28] _ (by omega))
  have KP' : Keep (fun _ => False) w w7 := (KP.alloc (.cells #[.func (.func 28) #[] #[]] 56)).step hk' (fun k hk e => by omega)
  have HS' : w.heap.size < w7.heap.size := Nat.lt_of_lt_of_le (by simp; omega) hk'.size
  clear HF KP HS hk'
  have HF := hf'
  have KP := KP'
  have HS := HS'
  clear hf' KP' HS'
  rw [hr]
  go_wp2
  clear hr
  obtain ⟨w8, hr, hf', hk'⟩ : ∃ w', (Instr.mapUpdate 50 (.map (some w.heap.size)) (.string ⟨#[83, 69, 84]⟩) (.agg #[.int .i64 9, .int .i64 2, .int .i64 2, (.slice (some ⟨w7.heap.size, 0, none⟩) 2 2)])).run Tryz.prog (w7.alloc (.cells #[.func (.func 28) #[] #[], .func (.func 29) #[] #[]] 56)) = .ok () w' ∧ FormsUpto w' w.heap.size 8 ∧ Keep (fun j => j = w.heap.size) (w7.alloc (.cells #[.func (.func 28) #[] #[], .func (.func 29) #[] #[]] 56)) w' :=
    FormsUpto.insert (r := ⟨⟨#[83, 69, 84]⟩, 9, 2, 2, [28, 29]⟩) (HF.keep ((Keep.refl _ _).alloc _)) Tryz.underlying50 Tryz.underlying9 rfl (FnsIn.new w7 _ [28, 29] _ (by omega))
  have KP' : Keep (fun _ => False) w w8 := (KP.alloc (.cells #[.func (.func 28) #[] #[], .func (.func 29) #[] #[]] 56)).step hk' (fun k hk e => by omega)
  have HS' : w.heap.size < w8.heap.size := Nat.lt_of_lt_of_le (by simp; omega) hk'.size
  clear HF KP HS hk'
  have HF := hf'
  have KP := KP'
  have HS := HS'
  clear hf' KP' HS'
  rw [hr]
  go_wp2
  clear hr
  obtain ⟨w9, hr, hf', hk'⟩ : ∃ w', (Instr.mapUpdate 50 (.map (some w.heap.size)) (.string ⟨#[73, 78, 67, 82, 66, 89]⟩) (.agg #[.int .i64 11, .int .i64 2, .int .i64 2, (.slice (some ⟨w8.heap.size, 0, none⟩) 2 2)])).run Tryz.prog (w8.alloc (.cells #[.func (.func 28) #[] #[], .func (.func 29) #[] #[]] 56)) = .ok () w' ∧ FormsUpto w' w.heap.size 9 ∧ Keep (fun j => j = w.heap.size) (w8.alloc (.cells #[.func (.func 28) #[] #[], .func (.func 29) #[] #[]] 56)) w' :=
    FormsUpto.insert (r := ⟨⟨#[73, 78, 67, 82, 66, 89]⟩, 11, 2, 2, [28, 29]⟩) (HF.keep ((Keep.refl _ _).alloc _)) Tryz.underlying50 Tryz.underlying9 rfl (FnsIn.new w8 _ [28, 29] _ (by omega))
  have KP' : Keep (fun _ => False) w w9 := (KP.alloc (.cells #[.func (.func 28) #[] #[], .func (.func 29) #[] #[]] 56)).step hk' (fun k hk e => by omega)
  have HS' : w.heap.size < w9.heap.size := Nat.lt_of_lt_of_le (by simp; omega) hk'.size
  clear HF KP HS hk'
  have HF := hf'
  have KP := KP'
  have HS := HS'
  clear hf' KP' HS'
  rw [hr]
  go_wp2
  clear hr
  obtain ⟨w10, hr, hf', hk'⟩ : ∃ w', (Instr.mapUpdate 50 (.map (some w.heap.size)) (.string ⟨#[69, 88, 80, 73, 82, 69]⟩) (.agg #[.int .i64 13, .int .i64 2, .int .i64 2, (.slice (some ⟨w9.heap.size, 0, none⟩) 2 2)])).run Tryz.prog (w9.alloc (.cells #[.func (.func 28) #[] #[], .func (.func 32) #[] #[]] 56)) = .ok () w' ∧ FormsUpto w' w.heap.size 10 ∧ Keep (fun j => j = w.heap.size) (w9.alloc (.cells #[.func (.func 28) #[] #[], .func (.func 32) #[] #[]] 56)) w' :=
    FormsUpto.insert (r := ⟨⟨#[69, 88, 80, 73, 82, 69]⟩, 13, 2, 2, [28, 32]⟩) (HF.keep ((Keep.refl _ _).alloc _)) Tryz.underlying50 Tryz.underlying9 rfl (FnsIn.new w9 _ [28, 32] _ (by omega))
  have KP' : Keep (fun _ => False) w w10 := (KP.alloc (.cells #[.func (.func 28) #[] #[], .func (.func 32) #[] #[]] 56)).step hk' (fun k hk e => by omega)
  have HS' : w.heap.size < w10.heap.size := Nat.lt_of_lt_of_le (by simp; omega) hk'.size
  clear HF KP HS hk'
  have HF := hf'
  have KP := KP'
  have HS := HS'
  clear hf' KP' HS'
  rw [hr]
  go_wp2
  clear hr
  obtain ⟨w11, hr, hf', hk'⟩ : ∃ w', (Instr.mapUpdate 50 (.map (some w.heap.size)) (.string ⟨#[84, 65, 75, 69]⟩) (.agg #[.int .i64 4, .int .i64 2, .int .i64 1073741824, (.slice (some ⟨w10.heap.size, 0, none⟩) 2 2)])).run Tryz.prog (w10.alloc (.cells #[.func (.func 30) #[] #[], .func (.func 31) #[] #[]] 56)) = .ok () w' ∧ FormsUpto w' w.heap.size 11 ∧ Keep (fun j => j = w.heap.size) (w10.alloc (.cells #[.func (.func 30) #[] #[], .func (.func 31) #[] #[]] 56)) w' :=
    FormsUpto.insert (r := ⟨⟨#[84, 65, 75, 69]⟩, 4, 2, 1073741824, [30, 31]⟩) (HF.keep ((Keep.refl _ _).alloc _)) Tryz.underlying50 Tryz.underlying9 rfl (FnsIn.new w10 _ [30, 31] _ (by omega))
  have KP' : Keep (fun _ => False) w w11 := (KP.alloc (.cells #[.func (.func 30) #[] #[], .func (.func 31) #[] #[]] 56)).step hk' (fun k hk e => by omega)
  have HS' : w.heap.size < w11.heap.size := Nat.lt_of_lt_of_le (by simp; omega) hk'.size
  clear HF KP HS hk'
  have HF := hf'
  have KP := KP'
  have HS := HS'
  clear hf' KP' HS'
  rw [hr]
  go_wp2
  clear hr
  obtain ⟨w12, hr, hf', hk'⟩ : ∃ w', (Instr.mapUpdate 50 (.map (some w.heap.size)) (.string ⟨#[80, 69, 69, 75]⟩) (.agg #[.int .i64 5, .int .i64 2, .int .i64 1073741824, (.slice (some ⟨w11.heap.size, 0, none⟩) 2 2)])).run Tryz.prog (w11.alloc (.cells #[.func (.func 30) #[] #[], .func (.func 31) #[] #[]] 56)) = .ok () w' ∧ FormsUpto w' w.heap.size 12 ∧ Keep (fun j => j = w.heap.size) (w11.alloc (.cells #[.func (.func 30) #[] #[], .func (.func 31) #[] #[]] 56)) w' :=
    FormsUpto.insert (r := ⟨⟨#[80, 69, 69, 75]⟩, 5, 2, 1073741824, [30, 31]⟩) (HF.keep ((Keep.refl _ _).alloc _)) Tryz.underlying50 Tryz.underlying9 rfl (FnsIn.new w11 _ [30, 31] _ (by omega))
  have KP' : Keep (fun _ => False) w w12 := (KP.alloc (.cells #[.func (.func 30) #[] #[], .func (.func 31) #[] #[]] 56)).step hk' (fun k hk e => by omega)
  have HS' : w.heap.size < w12.heap.size := Nat.lt_of_lt_of_le (by simp; omega) hk'.size
  clear HF KP HS hk'
  have HF := hf'
  have KP := KP'
  have HS := HS'
  clear hf' KP' HS'
  rw [hr]
  go_wp2
  clear hr
  obtain ⟨w13, hr, hf', hk'⟩ : ∃ w', (Instr.mapUpdate 50 (.map (some w.heap.size)) (.string ⟨#[82, 69, 83, 69, 82, 86, 69]⟩) (.agg #[.int .i64 6, .int .i64 3, .int .i64 1073741824, (.slice (some ⟨w12.heap.size, 0, none⟩) 3 3)])).run Tryz.prog (w12.alloc (.cells #[.func (.func 32) #[] #[], .func (.func 30) #[] #[], .func (.func 31) #[] #[]] 56)) = .ok () w' ∧ FormsUpto w' w.heap.size 13 ∧ Keep (fun j => j = w.heap.size) (w12.alloc (.cells #[.func (.func 32) #[] #[], .func (.func 30) #[] #[], .func (.func 31) #[] #[]] 56)) w' :=
    FormsUpto.insert (r := ⟨⟨#[82, 69, 83, 69, 82, 86, 69]⟩, 6, 3, 1073741824, [32, 30, 31]⟩) (HF.keep ((Keep.refl _ _).alloc _)) Tryz.underlying50 Tryz.underlying9 rfl (FnsIn.new w12 _ [32, 30, 31] _ (by omega))
  have KP' : Keep (fun _ => False) w w13 := (KP.alloc (.cells #[.func (.func 32) #[] #[], .func (.func 30) #[] #[], .func (.func 31) #[] #[]] 56)).step hk' (fun k hk e => by omega)
  have HS' : w.heap.size < w13.heap.size := Nat.lt_of_lt_of_le (by simp; omega) hk'.size
  clear HF KP HS hk'
  have HF := hf'
  have KP := KP'
  have HS := HS'
  clear hf' KP' HS'
  rw [hr]
  go_wp2
  clear hr
  obtain ⟨w14, hr, hf', hk'⟩ : ∃ w', (Instr.mapUpdate 50 (.map (some w.heap.size)) (.string ⟨#[67, 79, 77, 77, 73, 84]⟩) (.agg #[.int .i64 7, .int .i64 1, .int .i64 2, (.slice (some ⟨w13.heap.size, 0, none⟩) 2 2)])).run Tryz.prog (w13.alloc (.cells #[.func (.func 33) #[] #[], .func (.func 35) #[] #[]] 56)) = .ok () w' ∧ FormsUpto w' w.heap.size 14 ∧ Keep (fun j => j = w.heap.size) (w13.alloc (.cells #[.func (.func 33) #[] #[], .func (.func 35) #[] #[]] 56)) w' :=
    FormsUpto.insert (r := ⟨⟨#[67, 79, 77, 77, 73, 84]⟩, 7, 1, 2, [33, 35]⟩) (HF.keep ((Keep.refl _ _).alloc _)) Tryz.underlying50 Tryz.underlying9 rfl (FnsIn.new w13 _ [33, 35] _ (by omega))
  have KP' : Keep (fun _ => False) w w14 := (KP.alloc (.cells #[.func (.func 33) #[] #[], .func (.func 35) #[] #[]] 56)).step hk' (fun k hk e => by omega)
  have HS' : w.heap.size < w14.heap.size := Nat.lt_of_lt_of_le (by simp; omega) hk'.size
  clear HF KP HS hk'
  have HF := hf'
  have KP := KP'
  have HS := HS'
  clear hf' KP' HS'
  rw [hr]
  go_wp2
  clear hr
  obtain ⟨w15, hr, hf', hk'⟩ : ∃ w', (Instr.mapUpdate 50 (.map (some w.heap.size)) (.string ⟨#[67, 65, 78, 67, 69, 76]⟩) (.agg #[.int .i64 8, .int .i64 1, .int .i64 1, (.slice (some ⟨w14.heap.size, 0, none⟩) 1 1)])).run Tryz.prog (w14.alloc (.cells #[.func (.func 33) #[] #[]] 56)) = .ok () w' ∧ FormsUpto w' w.heap.size 15 ∧ Keep (fun j => j = w.heap.size) (w14.alloc (.cells #[.func (.func 33) #[] #[]] 56)) w' :=
    FormsUpto.insert (r := ⟨⟨#[67, 65, 78, 67, 69, 76]⟩, 8, 1, 1, [33]⟩) (HF.keep ((Keep.refl _ _).alloc _)) Tryz.underlying50 Tryz.underlying9 rfl (FnsIn.new w14 _ [33] _ (by omega))
  have KP' : Keep (fun _ => False) w w15 := (KP.alloc (.cells #[.func (.func 33) #[] #[]] 56)).step hk' (fun k hk e => by omega)
  have HS' : w.heap.size < w15.heap.size := Nat.lt_of_lt_of_le (by simp; omega) hk'.size
  clear HF KP HS hk'
  have HF := hf'
  have KP := KP'
  have HS := HS'
  clear hf' KP' HS'
  rw [hr]
  go_wp2
  clear hr
  go_ret
  exact ⟨rfl, HF, KP⟩
end Go.Proofs.YtamjhnibenonjaaGreatDoor
