/- From arguments as they are read to open values; from an answer to a law's statement. -/
import Derived.Test.YtgjpdjihjphbdaaTa
import Derived.Test.YtgjpdjihjphbdaaRows
import Derived.ProofKit
namespace Go.Proofs.Ytgjpdjihjphbdaa
open Go.RowKit Go.ChangeShapes Go.WideShapes Go.ChangeAt
set_option linter.unusedVariables false

/-- Shapes of plain data. -/
inductive Sh where
  | int (k : IntKind)
  | bool
  | str
  | agg (fs : List Sh)
  | slice (e : Sh)

mutual
def Sh.size : Sh → Nat
  | .int _ | .bool | .str | .slice _ => 1
  | .agg fs => sizeL fs
def sizeL : List Sh → Nat
  | [] => 0
  | s :: ss => s.size + sizeL ss
end
mutual
/-- A type has a shape. -/
def Sh.has (P : Program) : Sh → TypeId → Bool
  | .int k, t => (match P.underlying t with | some (.int k') => k' == k | _ => false)
  | .bool, t => (match P.underlying t with | some .bool => true | _ => false)
  | .str, t => (match P.underlying t with | some .string => true | _ => false)
  | .agg ss, t => (match P.underlying t with | some (.struct fs) => P.cellsOf t == sizeL ss && hasL P ss 0 fs.toList | _ => false)
  | .slice s, t => (match P.underlying t with | some (.slice e) => P.cellsOf e == s.size && Nat.blt 0 s.size && s.has P e | _ => false)
def hasL (P : Program) : List Sh → Nat → List Field → Bool
  | [], _, [] => true
  | s :: ss, off, f :: fs => f.offset == off && P.cellsOf f.type == s.size && s.has P f.type && hasL P ss (off + s.size) fs
  | _, _, _ => false
end
mutual
/-- An open value of a shape. -/
def Fits : Sh → MV → Prop
  | .int k, m => ∃ n, m = .lit (.int k n) ∧ (Lit.int k n).wf = true
  | .bool, m => ∃ b, m = .lit (.bool b)
  | .str, m => ∃ s : ByteArray, m = .lit (.string s) ∧ s.size ≤ maxLen
  | .agg ss, m => ∃ ms, FitsL ss ms ∧ m = .agg (ms.flatMap MV.cells)
  | .slice s, m => ∃ es, m = .sl es ∧ es.length ≤ maxLen ∧ ∀ e ∈ es, Fits s e
def FitsL : List Sh → List MV → Prop
  | [], ms => ms = []
  | s :: ss, ms => ∃ m r, ms = m :: r ∧ Fits s m ∧ FitsL ss r
end

/-- All memory may be read. -/
def baseE (w : World) : Env := { S := fun b => b < w.heap.size, K := fun _ => False, ρ := fun _ => 0, bo := fun _ => 0, cp := fun _ => 0, sz := fun _ => 0, gn := fun _ => 0, ln := fun _ => 0, nl := fun _ => false, top := 0, yl := 0 }
theorem baseE_rel (w : World) : HRel (baseE w) [] w := ⟨fun _ h => h.elim, Nat.le_refl _, fun _ h => h.elim, fun _ _ h => h.elim, fun _ h => h.elim, fun _ h => h⟩

mutual
theorem fits_lt : ∀ (s : Sh) (m : MV), Fits s m → m.lt 0 = true
  | .int k, m, h => by simp only [Fits] at h; obtain ⟨n, rfl, _⟩ := h; rfl
  | .bool, m, h => by simp only [Fits] at h; obtain ⟨n, rfl⟩ := h; rfl
  | .str, m, h => by simp only [Fits] at h; obtain ⟨n, rfl, _⟩ := h; rfl
  | .agg ss, m, h => by
    simp only [Fits] at h
    obtain ⟨ms, h1, rfl⟩ := h
    simp only [MV.lt]
    refine ltL_iff'.2 fun c hc => ?_
    obtain ⟨x, hx, hcx⟩ := List.mem_flatMap.1 hc
    obtain ⟨i, hi⟩ := List.getElem?_of_mem hcx
    exact lt_cells (fitsL_lt ss ms h1 x hx) i c hi
  | .slice s, m, h => by
    simp only [Fits] at h
    obtain ⟨es, rfl, _, h1⟩ := h
    simp only [MV.lt]
    exact ltL_iff'.2 fun c hc => fits_lt s c (h1 c hc)
theorem fitsL_lt : ∀ (ss : List Sh) (ms : List MV), FitsL ss ms → ∀ m ∈ ms, m.lt 0 = true
  | [], ms, h => by simp only [FitsL] at h; subst h; intro m hm; cases hm
  | s :: ss, ms, h => by
    simp only [FitsL] at h
    obtain ⟨m, r, rfl, h1, h2⟩ := h
    intro x hx
    rcases List.mem_cons.1 hx with rfl | hx
    · exact fits_lt s _ h1
    · exact fitsL_lt ss r h2 x hx
end

section
variable {H : Type} {enc : TypeId × Value → H} {P : Program} {w : World} {spare : Nat → Bool} {held : Bool}

theorem vs_one {E : Env} {w : World} {m : MV} {v : Value} (h : V E w m v) : Vs E w [m] [v] := Vs.cons h ⟨rfl, fun i c v hc => by simp at hc⟩
theorem cells_one {m : MV} (h : ∀ cs, m ≠ .agg cs) : m.cells = [m] := by cases m <;> first | rfl | exact absurd rfl (h _)

mutual
theorem lift_ok : ∀ (s : Sh) (t : TypeId) (fuel : Nat) (cs : List Value) (x : DataW H × List MemPlace), s.has P t = true → DataW.trod enc P w 0 spare held fuel t cs = some x →
    ∃ m, Fits s m ∧ Vs (baseE w) w m.cells cs ∧ m.cells.length = s.size
  | .int k, t, fuel, cs, x, hs, h => by
    simp only [Sh.has] at hs
    split at hs
    case h_2 => cases hs
    rename_i k' ht
    have : k' = k := by simpa using hs
    subst this
    obtain ⟨n, rfl, -, hw⟩ := DataW.trod_int ht h
    exact ⟨.lit (.int k' n), ⟨n, rfl, hw⟩, vs_one (.lit _), rfl⟩
  | .bool, t, fuel, cs, x, hs, h => by
    simp only [Sh.has] at hs
    split at hs
    case h_2 => cases hs
    rename_i ht
    obtain ⟨b, rfl, -⟩ := DataW.trod_bool ht h
    exact ⟨.lit (.bool b), ⟨b, rfl⟩, vs_one (.lit _), rfl⟩
  | .str, t, fuel, cs, x, hs, h => by
    simp only [Sh.has] at hs
    split at hs
    case h_2 => cases hs
    rename_i ht
    obtain ⟨b, rfl, -, hb⟩ := DataW.trod_string ht h
    exact ⟨.lit (.string b), ⟨b, rfl, hb⟩, vs_one (.lit _), rfl⟩
  | .agg ss, t, fuel, cs, x, hs, h => by
    simp only [Sh.has] at hs
    split at hs
    case h_2 => cases hs
    rename_i fs ht
    simp only [Bool.and_eq_true, beq_iff_eq] at hs
    obtain ⟨xs, n, -, -, hl, hlen, hf⟩ := DataW.trod_struct ht h
    obtain ⟨ms, h1, h2, h3⟩ := liftL_ok ss 0 fs.toList n cs hs.2 (by rw [hl, hs.1]; omega) fun i f hi => by
      have := hf i f (by simpa using hi)
      have hix : i < xs.length := by rw [hlen]; have := (List.getElem?_eq_some_iff.1 hi).1; simpa using this
      exact ⟨xs[i], by rw [this]; simp [hix]⟩
    exact ⟨.agg (ms.flatMap MV.cells), ⟨ms, h1, rfl⟩, by simpa [MV.cells] using h2, by simp only [MV.cells]; exact h3⟩
  | .slice s, t, fuel, cs, x, hs, h => by
    simp only [Sh.has] at hs
    split at hs
    case h_2 => cases hs
    rename_i e ht
    simp only [Bool.and_eq_true, beq_iff_eq] at hs
    obtain ⟨⟨hc, hpos⟩, hse⟩ := hs
    have hpos' : 0 < s.size := by simpa [Nat.blt_eq] using hpos
    rcases DataW.trod_slice ht h with ⟨rfl, -⟩ | ⟨a, len, cap, elems, rest, n, -, rfl, -, -, hle, hmx, hel, hE, -, -⟩
    · exact ⟨.sl [], ⟨[], rfl, by simp, fun e he => by cases he⟩, vs_one (.sl [] [] none 0 s.size (Nat.le_refl _) (fun e he => by cases he) rfl (fun i c v hc => by simp [flat] at hc) (fun h0 => absurd h0 (by simp))), rfl⟩
    · have key : ∀ i, i < len → ∃ m cs', Fits s m ∧ Vs (baseE w) w m.cells cs' ∧ m.cells.length = s.size ∧ cs'.length = s.size ∧ ∀ j, j < s.size → w.cell? ((a.add (i * s.size)).add j) = cs'[j]? := fun i hi => by
        have h1 := hE i hi
        have h2 : elems[i]? = some (elems[i]'(by rw [hel]; exact hi)) := by simp [hel, hi]
        rw [h2, Option.bind_eq_some_iff, hc] at h1
        obtain ⟨cs', h3, h4⟩ := h1
        obtain ⟨-, h5, h6⟩ := World.cells?_some h3
        obtain ⟨m, k1, k2, k3⟩ := lift_ok s e n cs' _ hse h4
        exact ⟨m, cs', k1, k2, k3, h5, h6⟩
      obtain ⟨F, hF⟩ : ∃ F : Nat → MV × List Value, ∀ i, i < len → Fits s (F i).1 ∧ Vs (baseE w) w (F i).1.cells (F i).2 ∧ (F i).1.cells.length = s.size ∧ (F i).2.length = s.size ∧ ∀ j, j < s.size → w.cell? ((a.add (i * s.size)).add j) = (F i).2[j]? :=
        ⟨fun i => if hi : i < len then ((key i hi).choose, (key i hi).choose_spec.choose) else default, fun i hi => by simp only [dif_pos hi]; exact (key i hi).choose_spec.choose_spec⟩
      have hmem : ∀ e ∈ (List.range len).map fun i => (F i).1, Fits s e ∧ e.cells.length = s.size := fun e he => by
        obtain ⟨i, hi, rfl⟩ := List.mem_map.1 he
        have hi' := List.mem_range.1 hi
        exact ⟨(hF i hi').1, (hF i hi').2.2.1⟩
      refine ⟨.sl ((List.range len).map fun i => (F i).1), ⟨_, rfl, by simp; omega, fun e he => (hmem e he).1⟩, vs_one ?_, rfl⟩
      have hflen : (flat ((List.range len).map fun i => (F i).1)).length = len * s.size := by rw [flat_len fun e he => (hmem e he).2]; simp
      have hcell : ∀ k, k < len * s.size → ∃ i j, i < len ∧ j < s.size ∧ k = i * s.size + j := fun k hk => ⟨k / s.size, k % s.size, Nat.div_lt_of_lt_mul (by rw [Nat.mul_comm]; exact hk), Nat.mod_lt _ hpos', (Nat.div_add_mod' k s.size).symm⟩
      have hspot : 0 < len → ∃ b off, a = ⟨b, off, none⟩ := fun h0 => by
        obtain ⟨b, off, spot⟩ := a
        have h1 := (hF 0 h0).2.2.2.2 0 hpos'
        rw [List.getElem?_eq_getElem (by rw [(hF 0 h0).2.2.2.1]; exact hpos')] at h1
        have hsp : spot = none := by simpa [Addr.add] using World.cell?_spot h1
        exact ⟨b, off, by rw [hsp]⟩
      by_cases h0 : 0 < len
      · obtain ⟨b, off, rfl⟩ := hspot h0
        have hb : b < w.heap.size := by
          have h1 := (hF 0 h0).2.2.2.2 0 hpos'
          rw [List.getElem?_eq_getElem (by rw [(hF 0 h0).2.2.2.1]; exact hpos')] at h1
          have := cell_lt h1
          simpa [Addr.add] using this
        have hval : ∀ i j, i < len → j < s.size → w.cell? ⟨b, off + (i * s.size + j), none⟩ = (F i).2[j]? := fun i j hi hj => by
          rw [← (hF i hi).2.2.2.2 j hj]
          simp [Go.WideShapes.add_plain, Nat.add_assoc]
        have hl2 : ((List.range len).map fun i => (F i).1).length = len := by simp
        have := V.sl (E := baseE w) (w := w) ((List.range len).map fun i => (F i).1) ((List.range (len * s.size)).map fun k => (w.cell? ⟨b, off + k, none⟩).getD undef) (some ⟨b, off, none⟩) cap s.size (by rw [hl2]; exact hle) (fun e he => (hmem e he).2) (by rw [hflen]; simp)
          (fun k c v hk hv => by
            obtain ⟨i, j, e, rfl, hj, he, hcj⟩ := (flat_iff fun e he => (hmem e he).2).1 hk
            have hi : i < len := by have := (List.getElem?_eq_some_iff.1 he).1; simpa using this
            have he' : (F i).1 = e := by simpa [hi] using he
            subst he'
            have hlt : i * s.size + j < len * s.size := by
              have := Nat.mul_le_mul_right s.size (show i + 1 ≤ len from hi)
              rw [Nat.add_mul, Nat.one_mul] at this
              omega
            rw [List.getElem?_map, List.getElem?_range hlt, Option.map_some, hval i j hi hj] at hv
            have hj2 : j < (F i).2.length := by rw [(hF i hi).2.2.2.1]; exact hj
            rw [List.getElem?_eq_getElem hj2, Option.getD_some, Option.some.injEq] at hv
            exact (hF i hi).2.1.2 j c v hcj (by rw [List.getElem?_eq_getElem hj2, hv]))
          (fun _ => ⟨b, off, rfl, hb, fun k v hk => by
            have hlt : k < len * s.size := by have := (List.getElem?_eq_some_iff.1 hk).1; simpa using this
            obtain ⟨i, j, hi, hj, rfl⟩ := hcell k hlt
            rw [List.getElem?_map, List.getElem?_range hlt, Option.map_some] at hk
            have hj2 : j < (F i).2.length := by rw [(hF i hi).2.2.2.1]; exact hj
            have h9 := hval i j hi hj
            rw [List.getElem?_eq_getElem hj2] at h9
            rw [h9, Option.getD_some, Option.some.injEq] at hk
            rw [h9, hk]⟩)
        rw [hl2] at this
        exact this
      · have hl0 : len = 0 := by omega
        subst hl0
        exact .sl [] [] (some a) cap s.size (by simp) (fun e he => by cases he) rfl (fun i c v hc => by simp [flat] at hc) (fun h0 => absurd h0 (by simp))
theorem liftL_ok : ∀ (ss : List Sh) (off : Nat) (fs : List Field) (n : Nat) (cs : List Value), hasL P ss off fs = true → cs.length = off + sizeL ss → (∀ (i : Nat) (f : Field), fs[i]? = some f → ∃ x, DataW.trod enc P w 0 spare held n f.type ((cs.drop f.offset).take (P.cellsOf f.type)) = some x) →
    ∃ ms, FitsL ss ms ∧ Vs (baseE w) w (ms.flatMap MV.cells) (cs.drop off) ∧ (ms.flatMap MV.cells).length = sizeL ss
  | [], off, fs, n, cs, hs, hl, hf => ⟨[], rfl, by
      have : cs.drop off = [] := List.drop_eq_nil_of_le (by simp [sizeL] at hl; omega)
      rw [this]; exact ⟨rfl, fun i c v hc => by simp at hc⟩, rfl⟩
  | s :: ss, off, [], n, cs, hs, hl, hf => by simp [hasL] at hs
  | s :: ss, off, f :: fs, n, cs, hs, hl, hf => by
    simp only [hasL, Bool.and_eq_true, beq_iff_eq] at hs
    obtain ⟨⟨⟨h1, h2⟩, h3⟩, h4⟩ := hs
    obtain ⟨x, hx⟩ := hf 0 f rfl
    rw [h1, h2] at hx
    obtain ⟨m, k1, k2, k3⟩ := lift_ok s f.type n _ x h3 hx
    obtain ⟨ms, j1, j2, j3⟩ := liftL_ok ss (off + s.size) fs n cs h4 (by simp only [sizeL] at hl; omega) fun i f' hi => hf (i + 1) f' (by simpa using hi)
    refine ⟨m :: ms, ⟨m, ms, rfl, k1, j1⟩, ?_, by simp only [List.flatMap_cons, List.length_append, sizeL, k3, j3]⟩
    have e : cs.drop off = (cs.drop off).take s.size ++ cs.drop (off + s.size) := by
      rw [← List.drop_drop]; exact (List.take_append_drop _ _).symm
    rw [e, List.flatMap_cons]
    exact k2.append j2
end
end

end Go.Proofs.Ytgjpdjihjphbdaa
