/- Contracts of polygons: inside, by the reference. -/
import Derived.Test.YtgjpdjihjphbdaaRows
import Derived.ProofKit
import Derived.Test.YtgjpdjihjphbdaaPolygonsProofsPc
/- Contracts as answers: polygons; the table. -/
namespace Go.Proofs.Ytgjpdjihjphbdaa
open Go.RowKit
set_option linter.unusedVariables false

def tPoly (f : Nat) (args : List MV) (h : MHeap) : Option (MV × MHeap) :=
  match args with
  | [.agg [v]] => match v.elems h with
    | some es => match es.mapM decR with
      | some cs => if cs.length ≤ 9223372036854775807 then
          if f = 27 then some (.tup [I64 (areaRes cs).1, I64 (areaRes cs).2], h)
          else if f = 25 then some (.tup [I64 (polyCheck cs).1, I64 (polyCheck cs).2], h)
          else if f = 99 then some (I64 (polyCheck cs).2, h)
          else none
        else none
      | none => none
    | none => none
  | _ => none

theorem post_ret {E : Env} {h : MHeap} {w : World} {m : MV} {v : Value} (hr : HRel E h w) (hv : ∀ E w, V E w m v) {e : Ending} {w' : World} (hR : Ret w v e w') : Post E w m h e w' := by
  obtain ⟨rfl, hb⟩ := hR
  obtain ⟨g1, g2⟩ := grow_ok hr hb
  exact ⟨_, _, rfl, hv _ _, g1, g2⟩
theorem v_tup {E : Env} {w : World} (us : List Value) : V E w (.tup (us.map .lit)) (.tuple us.toArray) :=
  .tup _ us (by simp) fun i c x hc hx => by
    rw [List.getElem?_map, hx] at hc
    cases hc; exact .lit _

theorem tPoly_ok : SoundO Try.prog tPoly := by
  intro f args h m h' he
  unfold tPoly at he
  split at he
  case h_2 => cases he
  rename_i v
  split at he
  case h_2 => cases he
  rename_i es hes
  split at he
  case h_2 => cases he
  rename_i cs hcs
  have hcs' := decR_all hcs
  subst hcs'
  split at he
  case isFalse => cases he
  rename_i hlen
  have key : ∀ E w vs, HRel E h w → Vs E w [.agg [v]] vs → ∃ A cap, vs = [.agg #[.slice A cs.length cap]] ∧ Rd w 2 A cs.length (enc2 cs) := fun E w vs hr hv => by
    obtain ⟨x, us, rfl, h1, h2⟩ := hv.uncons
    obtain rfl : us = [] := List.length_eq_zero_iff.1 h2.1.symm
    cases h1 with
    | agg _ vs hl hc =>
      obtain ⟨y, us, rfl, h3, h4⟩ := Vs.uncons (E := E) (w := w) (m := v) (ms := []) (vs := vs) ⟨hl, hc⟩
      obtain rfl : us = [] := List.length_eq_zero_iff.1 h4.1.symm
      obtain ⟨A, cap, rfl, hcap, hrd⟩ := rd_of hr h3 hes
      exact ⟨A, cap, rfl, hrd⟩
  split at he
  · rename_i hf
    subst hf
    cases he
    refine ⟨by kernel_rfl, fun E w vs hr hv => ?_⟩
    obtain ⟨A, cap, rfl, hrd⟩ := key E w vs hr hv
    exact (AreaOf_any A cap cs w hrd).mono fun e w' hR => post_ret hr (fun E w => v_tup [.int .i64 (areaRes cs).1, .int .i64 (areaRes cs).2]) hR
  · split at he
    · rename_i hf
      subst hf
      cases he
      refine ⟨by kernel_rfl, fun E w vs hr hv => ?_⟩
      obtain ⟨A, cap, rfl, hrd⟩ := key E w vs hr hv
      exact (CheckPolygon_any A cap cs w hrd).mono fun e w' hR => post_ret hr (fun E w => v_tup [.int .i64 (polyCheck cs).1, .int .i64 (polyCheck cs).2]) hR
    · split at he
      case isFalse => cases he
      rename_i hf
      subst hf
      cases he
      refine ⟨by kernel_rfl, fun E w vs hr hv => ?_⟩
      obtain ⟨A, cap, rfl, hrd⟩ := key E w vs hr hv
      exact (polygonErr_any A cap cs w hrd).mono fun e w' hR => post_ret hr (fun E w => .lit _) hR

/-- The table. -/
def tA (f : Nat) (args : List MV) (h : MHeap) : Option (MV × MHeap) :=
  if f = 16 then tGroups f args h else if f = 20 then tGroups f args h
  else if f = 27 then tPoly f args h else if f = 25 then tPoly f args h else if f = 99 then tPoly f args h else if f = 169 then tGrow f args h else none
theorem tA_ok : SoundO Try.prog tA := by
  intro f args h m h' he
  unfold tA at he
  repeat' (split at he)
  · exact tGroups_ok f args h m h' he
  · exact tGroups_ok f args h m h' he
  · exact tPoly_ok f args h m h' he
  · exact tPoly_ok f args h m h' he
  · exact tPoly_ok f args h m h' he
  · exact tGrow_ok f args h m h' he
  · cases he

/-- The program's answers. -/
noncomputable abbrev MT : Tab := tabOf Try.prog
noncomputable abbrev orA (k : Nat) : Oracle := orZ MT tA tI 4000000 k
noncomputable abbrev itA (k : Nat) : Iter := orI MT tI (orA k) 4000000
theorem orA_ok (k : Nat) : SoundO Try.prog (orA k) := (orZ_ok (by kernel_rfl) (tabOf_ok Try.prog) tA_ok (tI_ok) k).1
/-- A call of a function that is not in the table. -/
theorem callA {k f : Nat} {args args' : List MV} {h : MHeap} {m : MV} {news : MHeap} (h1 : args.mapM (frz 0 [] h 8) = some args') (hT : tA f args' [] = none) (h2 : runZ MT (orA k) (itA k) 4000000 f args' [] = some (m, news))
    (h3 : okV (ltL 0 args) m = true) (h4 : okH (ltL 0 args) news = true) : orA (k + 1) f args h = some (shV h.length m, h ++ news) :=
  orZ_call h1 (by unfold tabZ; rw [hT]; exact h2) h3 h4
theorem callT {k f : Nat} {args args' : List MV} {h : MHeap} {m : MV} {news : MHeap} (h1 : args.mapM (frz 0 [] h 8) = some args') (hT : tA f args' [] = some (m, news))
    (h3 : okV (ltL 0 args) m = true) (h4 : okH (ltL 0 args) news = true) : orA (k + 1) f args h = some (shV h.length m, h ++ news) :=
  orZ_call h1 (by unfold tabZ; rw [hT]) h3 h4

end Go.Proofs.Ytgjpdjihjphbdaa

/- From arguments as they are read to open values; from an answer to a law's statement. -/
namespace Go.Proofs.Ytgjpdjihjphbdaa
open Go.RowKit Go.ChangeShapes Go.WideShapes Go.ChangeAt
set_option linter.unusedVariables false

/-- Shapes of plain data. -/
inductive Sh where
  | int (k : IntKind)
  | bool
  | str
  | agg (fs : List Sh)
  | slice (e : Sh)

mutual
def Sh.size : Sh → Nat
  | .int _ | .bool | .str | .slice _ => 1
  | .agg fs => sizeL fs
def sizeL : List Sh → Nat
  | [] => 0
  | s :: ss => s.size + sizeL ss
end
mutual
/-- A type has a shape. -/
def Sh.has (P : Program) : Sh → TypeId → Bool
  | .int k, t => (match P.underlying t with | some (.int k') => k' == k | _ => false)
  | .bool, t => (match P.underlying t with | some .bool => true | _ => false)
  | .str, t => (match P.underlying t with | some .string => true | _ => false)
  | .agg ss, t => (match P.underlying t with | some (.struct fs) => P.cellsOf t == sizeL ss && hasL P ss 0 fs.toList | _ => false)
  | .slice s, t => (match P.underlying t with | some (.slice e) => P.cellsOf e == s.size && Nat.blt 0 s.size && s.has P e | _ => false)
def hasL (P : Program) : List Sh → Nat → List Field → Bool
  | [], _, [] => true
  | s :: ss, off, f :: fs => f.offset == off && P.cellsOf f.type == s.size && s.has P f.type && hasL P ss (off + s.size) fs
  | _, _, _ => false
end
mutual
/-- An open value of a shape. -/
def Fits : Sh → MV → Prop
  | .int k, m => ∃ n, m = .lit (.int k n) ∧ (Lit.int k n).wf = true
  | .bool, m => ∃ b, m = .lit (.bool b)
  | .str, m => ∃ s : ByteArray, m = .lit (.string s) ∧ s.size ≤ maxLen
  | .agg ss, m => ∃ ms, FitsL ss ms ∧ m = .agg (ms.flatMap MV.cells)
  | .slice s, m => ∃ es, m = .sl es ∧ es.length ≤ maxLen ∧ ∀ e ∈ es, Fits s e
def FitsL : List Sh → List MV → Prop
  | [], ms => ms = []
  | s :: ss, ms => ∃ m r, ms = m :: r ∧ Fits s m ∧ FitsL ss r
end

/-- All memory may be read. -/
def baseE (w : World) : Env := { S := fun b => b < w.heap.size, K := fun _ => False, ρ := fun _ => 0, bo := fun _ => 0, cp := fun _ => 0, sz := fun _ => 0, gn := fun _ => 0, ln := fun _ => 0, nl := fun _ => false, top := 0, yl := 0 }
theorem baseE_rel (w : World) : HRel (baseE w) [] w := ⟨fun _ h => h.elim, Nat.le_refl _, fun _ h => h.elim, fun _ _ h => h.elim, fun _ h => h.elim, fun _ h => h⟩


section
variable {H : Type} {enc : TypeId × Value → H} {P : Program} {w : World} {spare : Nat → Bool} {held : Bool}

theorem vs_one {E : Env} {w : World} {m : MV} {v : Value} (h : V E w m v) : Vs E w [m] [v] := Vs.cons h ⟨rfl, fun i c v hc => by simp at hc⟩
mutual
theorem lift_ok : ∀ (s : Sh) (t : TypeId) (fuel : Nat) (cs : List Value) (x : DataW H × List MemPlace), s.has P t = true → DataW.trod enc P w 0 spare held fuel t cs = some x →
    ∃ m, Fits s m ∧ Vs (baseE w) w m.cells cs ∧ m.cells.length = s.size
  | .int k, t, fuel, cs, x, hs, h => by
    simp only [Sh.has] at hs
    split at hs
    case h_2 => cases hs
    rename_i k' ht
    have : k' = k := by simpa using hs
    subst this
    obtain ⟨n, rfl, -, hw⟩ := DataW.trod_int ht h
    exact ⟨.lit (.int k' n), ⟨n, rfl, hw⟩, vs_one (.lit _), rfl⟩
  | .bool, t, fuel, cs, x, hs, h => by
    simp only [Sh.has] at hs
    split at hs
    case h_2 => cases hs
    rename_i ht
    obtain ⟨b, rfl, -⟩ := DataW.trod_bool ht h
    exact ⟨.lit (.bool b), ⟨b, rfl⟩, vs_one (.lit _), rfl⟩
  | .str, t, fuel, cs, x, hs, h => by
    simp only [Sh.has] at hs
    split at hs
    case h_2 => cases hs
    rename_i ht
    obtain ⟨b, rfl, -, hb⟩ := DataW.trod_string ht h
    exact ⟨.lit (.string b), ⟨b, rfl, hb⟩, vs_one (.lit _), rfl⟩
  | .agg ss, t, fuel, cs, x, hs, h => by
    simp only [Sh.has] at hs
    split at hs
    case h_2 => cases hs
    rename_i fs ht
    simp only [Bool.and_eq_true, beq_iff_eq] at hs
    obtain ⟨xs, n, -, -, hl, hlen, hf⟩ := DataW.trod_struct ht h
    obtain ⟨ms, h1, h2, h3⟩ := liftL_ok ss 0 fs.toList n cs hs.2 (by rw [hl, hs.1]; omega) fun i f hi => by
      have := hf i f (by simpa using hi)
      have hix : i < xs.length := by rw [hlen]; have := (List.getElem?_eq_some_iff.1 hi).1; simpa using this
      exact ⟨xs[i], by rw [this]; simp [hix]⟩
    exact ⟨.agg (ms.flatMap MV.cells), ⟨ms, h1, rfl⟩, by simpa [MV.cells] using h2, by simp only [MV.cells]; exact h3⟩
  | .slice s, t, fuel, cs, x, hs, h => by
    simp only [Sh.has] at hs
    split at hs
    case h_2 => cases hs
    rename_i e ht
    simp only [Bool.and_eq_true, beq_iff_eq] at hs
    obtain ⟨⟨hc, hpos⟩, hse⟩ := hs
    have hpos' : 0 < s.size := by simpa [Nat.blt_eq] using hpos
    rcases DataW.trod_slice ht h with ⟨rfl, -⟩ | ⟨a, len, cap, elems, rest, n, -, rfl, -, -, hle, hmx, hel, hE, -, -⟩
    · exact ⟨.sl [], ⟨[], rfl, by simp, fun e he => by cases he⟩, vs_one (.sl [] [] none 0 s.size (Nat.le_refl _) (fun e he => by cases he) rfl (fun i c v hc => by simp [flat] at hc) (fun h0 => absurd h0 (by simp))), rfl⟩
    · have key : ∀ i, i < len → ∃ m cs', Fits s m ∧ Vs (baseE w) w m.cells cs' ∧ m.cells.length = s.size ∧ cs'.length = s.size ∧ ∀ j, j < s.size → w.cell? ((a.add (i * s.size)).add j) = cs'[j]? := fun i hi => by
        have h1 := hE i hi
        have h2 : elems[i]? = some (elems[i]'(by rw [hel]; exact hi)) := by simp [hel, hi]
        rw [h2, Option.bind_eq_some_iff, hc] at h1
        obtain ⟨cs', h3, h4⟩ := h1
        obtain ⟨-, h5, h6⟩ := World.cells?_some h3
        obtain ⟨m, k1, k2, k3⟩ := lift_ok s e n cs' _ hse h4
        exact ⟨m, cs', k1, k2, k3, h5, h6⟩
      obtain ⟨F, hF⟩ : ∃ F : Nat → MV × List Value, ∀ i, i < len → Fits s (F i).1 ∧ Vs (baseE w) w (F i).1.cells (F i).2 ∧ (F i).1.cells.length = s.size ∧ (F i).2.length = s.size ∧ ∀ j, j < s.size → w.cell? ((a.add (i * s.size)).add j) = (F i).2[j]? :=
        ⟨fun i => if hi : i < len then ((key i hi).choose, (key i hi).choose_spec.choose) else default, fun i hi => by simp only [dif_pos hi]; exact (key i hi).choose_spec.choose_spec⟩
      have hmem : ∀ e ∈ (List.range len).map fun i => (F i).1, Fits s e ∧ e.cells.length = s.size := fun e he => by
        obtain ⟨i, hi, rfl⟩ := List.mem_map.1 he
        have hi' := List.mem_range.1 hi
        exact ⟨(hF i hi').1, (hF i hi').2.2.1⟩
      refine ⟨.sl ((List.range len).map fun i => (F i).1), ⟨_, rfl, by simp; omega, fun e he => (hmem e he).1⟩, vs_one ?_, rfl⟩
      have hflen : (flat ((List.range len).map fun i => (F i).1)).length = len * s.size := by rw [flat_len fun e he => (hmem e he).2]; simp
      have hcell : ∀ k, k < len * s.size → ∃ i j, i < len ∧ j < s.size ∧ k = i * s.size + j := fun k hk => ⟨k / s.size, k % s.size, Nat.div_lt_of_lt_mul (by rw [Nat.mul_comm]; exact hk), Nat.mod_lt _ hpos', (Nat.div_add_mod' k s.size).symm⟩
      have hspot : 0 < len → ∃ b off, a = ⟨b, off, none⟩ := fun h0 => by
        obtain ⟨b, off, spot⟩ := a
        have h1 := (hF 0 h0).2.2.2.2 0 hpos'
        rw [List.getElem?_eq_getElem (by rw [(hF 0 h0).2.2.2.1]; exact hpos')] at h1
        have hsp : spot = none := by simpa [Addr.add] using World.cell?_spot h1
        exact ⟨b, off, by rw [hsp]⟩
      by_cases h0 : 0 < len
      · obtain ⟨b, off, rfl⟩ := hspot h0
        have hb : b < w.heap.size := by
          have h1 := (hF 0 h0).2.2.2.2 0 hpos'
          rw [List.getElem?_eq_getElem (by rw [(hF 0 h0).2.2.2.1]; exact hpos')] at h1
          have := cell_lt h1
          simpa [Addr.add] using this
        have hval : ∀ i j, i < len → j < s.size → w.cell? ⟨b, off + (i * s.size + j), none⟩ = (F i).2[j]? := fun i j hi hj => by
          rw [← (hF i hi).2.2.2.2 j hj]
          simp [Go.WideShapes.add_plain, Nat.add_assoc]
        have hl2 : ((List.range len).map fun i => (F i).1).length = len := by simp
        have := V.sl (E := baseE w) (w := w) ((List.range len).map fun i => (F i).1) ((List.range (len * s.size)).map fun k => (w.cell? ⟨b, off + k, none⟩).getD undef) (some ⟨b, off, none⟩) cap s.size (by rw [hl2]; exact hle) (fun e he => (hmem e he).2) (by rw [hflen]; simp)
          (fun k c v hk hv => by
            obtain ⟨i, j, e, rfl, hj, he, hcj⟩ := (flat_iff fun e he => (hmem e he).2).1 hk
            have hi : i < len := by have := (List.getElem?_eq_some_iff.1 he).1; simpa using this
            have he' : (F i).1 = e := by simpa [hi] using he
            subst he'
            have hlt : i * s.size + j < len * s.size := by
              have := Nat.mul_le_mul_right s.size (show i + 1 ≤ len from hi)
              rw [Nat.add_mul, Nat.one_mul] at this
              omega
            rw [List.getElem?_map, List.getElem?_range hlt, Option.map_some, hval i j hi hj] at hv
            have hj2 : j < (F i).2.length := by rw [(hF i hi).2.2.2.1]; exact hj
            rw [List.getElem?_eq_getElem hj2, Option.getD_some, Option.some.injEq] at hv
            exact (hF i hi).2.1.2 j c v hcj (by rw [List.getElem?_eq_getElem hj2, hv]))
          (fun _ => ⟨b, off, rfl, hb, fun k v hk => by
            have hlt : k < len * s.size := by have := (List.getElem?_eq_some_iff.1 hk).1; simpa using this
            obtain ⟨i, j, hi, hj, rfl⟩ := hcell k hlt
            rw [List.getElem?_map, List.getElem?_range hlt, Option.map_some] at hk
            have hj2 : j < (F i).2.length := by rw [(hF i hi).2.2.2.1]; exact hj
            have h9 := hval i j hi hj
            rw [List.getElem?_eq_getElem hj2] at h9
            rw [h9, Option.getD_some, Option.some.injEq] at hk
            rw [h9, hk]⟩)
        rw [hl2] at this
        exact this
      · have hl0 : len = 0 := by omega
        subst hl0
        exact .sl [] [] (some a) cap s.size (by simp) (fun e he => by cases he) rfl (fun i c v hc => by simp [flat] at hc) (fun h0 => absurd h0 (by simp))
theorem liftL_ok : ∀ (ss : List Sh) (off : Nat) (fs : List Field) (n : Nat) (cs : List Value), hasL P ss off fs = true → cs.length = off + sizeL ss → (∀ (i : Nat) (f : Field), fs[i]? = some f → ∃ x, DataW.trod enc P w 0 spare held n f.type ((cs.drop f.offset).take (P.cellsOf f.type)) = some x) →
    ∃ ms, FitsL ss ms ∧ Vs (baseE w) w (ms.flatMap MV.cells) (cs.drop off) ∧ (ms.flatMap MV.cells).length = sizeL ss
  | [], off, fs, n, cs, hs, hl, hf => ⟨[], rfl, by
      have : cs.drop off = [] := List.drop_eq_nil_of_le (by simp [sizeL] at hl; omega)
      rw [this]; exact ⟨rfl, fun i c v hc => by simp at hc⟩, rfl⟩
  | s :: ss, off, [], n, cs, hs, hl, hf => by simp [hasL] at hs
  | s :: ss, off, f :: fs, n, cs, hs, hl, hf => by
    simp only [hasL, Bool.and_eq_true, beq_iff_eq] at hs
    obtain ⟨⟨⟨h1, h2⟩, h3⟩, h4⟩ := hs
    obtain ⟨x, hx⟩ := hf 0 f rfl
    rw [h1, h2] at hx
    obtain ⟨m, k1, k2, k3⟩ := lift_ok s f.type n _ x h3 hx
    obtain ⟨ms, j1, j2, j3⟩ := liftL_ok ss (off + s.size) fs n cs h4 (by simp only [sizeL] at hl; omega) fun i f' hi => hf (i + 1) f' (by simpa using hi)
    refine ⟨m :: ms, ⟨m, ms, rfl, k1, j1⟩, ?_, by simp only [List.flatMap_cons, List.length_append, sizeL, k3, j3]⟩
    have e : cs.drop off = (cs.drop off).take s.size ++ cs.drop (off + s.size) := by
      rw [← List.drop_drop]; exact (List.take_append_drop _ _).symm
    rw [e, List.flatMap_cons]
    exact k2.append j2
end
end

end Go.Proofs.Ytgjpdjihjphbdaa

/- From an answer to a law's statement. -/
namespace Go.Proofs.Ytgjpdjihjphbdaa
open Go.RowKit Go.ChangeShapes Go.WideShapes Go.ChangeAt
set_option linter.unusedVariables false

theorem Try.own : ownKnob Try.prog.godebug = none := by kernel_rfl
theorem Try.laidOut : laidOutB Try.prog = true := by kernel_rfl

section
variable {H : Type} {enc : TypeId × Value → H} {P : Program} {w : World} {spare : Nat → Bool} {held : Bool}

theorem lift_val {s : Sh} {t : TypeId} {v : Value} {d : DataW H} {p : List MemPlace} {r : Reach} {b : Nat} (hs : s.has P t = true) (hv : Value.okWide P w r b t v) (h : DataW.Trod enc P w 0 spare held t v d p) : ∃ m, Fits s m ∧ V (baseE w) w m v := by
  obtain ⟨fuel, h⟩ := h
  obtain ⟨m, h1, h2, h3⟩ := lift_ok s t fuel _ _ hs h
  refine ⟨m, h1, ?_⟩
  have one : m.cells = [m] → v.cells = #[v] → V (baseE w) w m v := fun e1 e2 => by
    rw [e1, e2] at h2
    exact h2.2 0 m v rfl rfl
  cases s with
  | int k =>
    simp only [Fits] at h1
    obtain ⟨n, rfl, -⟩ := h1
    simp only [Sh.has] at hs
    split at hs
    case h_2 => cases hs
    rename_i k' ht
    obtain ⟨n', rfl⟩ := okWide_int ht hv
    exact one rfl rfl
  | bool =>
    simp only [Fits] at h1
    obtain ⟨n, rfl⟩ := h1
    simp only [Sh.has] at hs
    split at hs
    case h_2 => cases hs
    rename_i ht
    obtain ⟨n', rfl⟩ := okWide_bool ht hv
    exact one rfl rfl
  | str =>
    simp only [Fits] at h1
    obtain ⟨n, rfl, -⟩ := h1
    simp only [Sh.has] at hs
    split at hs
    case h_2 => cases hs
    rename_i ht
    obtain ⟨n', rfl⟩ := okWide_string ht hv
    exact one rfl rfl
  | slice s =>
    simp only [Fits] at h1
    obtain ⟨es, rfl, -⟩ := h1
    simp only [Sh.has] at hs
    split at hs
    case h_2 => cases hs
    rename_i e ht
    obtain ⟨a, len, cap, rfl⟩ := okWide_slice ht hv
    exact one rfl rfl
  | agg ss =>
    simp only [Fits] at h1
    obtain ⟨ms, -, rfl⟩ := h1
    simp only [Sh.has] at hs
    split at hs
    case h_2 => cases hs
    rename_i fs ht
    obtain ⟨cs, rfl, -⟩ := okWide_struct ht hv
    have h4 : Vs (baseE w) w (ms.flatMap MV.cells) cs.toList := by simpa [MV.cells, Value.cells] using h2
    have := V.agg (E := baseE w) (w := w) _ _ h4.1 h4.2
    simpa using this

def hasAll (P : Program) : List Sh → List TypeId → Bool
  | [], [] => true
  | s :: ss, t :: ts => s.has P t && hasAll P ss ts
  | _, _ => false
theorem lift_all {r : Reach} {b : Nat} : ∀ (ss : List Sh) (ts : List TypeId) (vs : List Value) (ds : List (DataW H)) (ps : List MemPlace), hasAll P ss ts = true → DataW.TrodAll enc P w 0 spare held ts vs ds ps →
    (∀ (j : Nat) t v, ts[j]? = some t → vs[j]? = some v → Value.okWide P w r b t v) → ∃ ms, FitsL ss ms ∧ Vs (baseE w) w ms vs ∧ ds.length = ss.length
  | [], [], [], [], ps, _, _, _ => ⟨[], rfl, ⟨rfl, fun i c v hc => by simp at hc⟩, rfl⟩
  | [], [], [], _ :: _, ps, _, h, _ => by simp [DataW.TrodAll] at h
  | [], [], _ :: _, _, ps, _, h, _ => by simp [DataW.TrodAll] at h
  | s :: ss, t :: ts, [], _, ps, _, h, _ => by simp [DataW.TrodAll] at h
  | s :: ss, t :: ts, _ :: _, [], ps, _, h, _ => by simp [DataW.TrodAll] at h
  | s :: ss, t :: ts, v :: vs, d :: ds, ps, hs, h, hv => by
    simp only [hasAll, Bool.and_eq_true] at hs
    obtain ⟨p, q, h1, h2, -⟩ := h
    obtain ⟨m, k1, k2⟩ := lift_val hs.1 (hv 0 t v rfl rfl) h1
    obtain ⟨ms, j1, j2, j3⟩ := lift_all ss ts vs ds q hs.2 h2 fun j t' v' ht hv' => hv (j + 1) t' v' (by simpa using ht) (by simpa using hv')
    exact ⟨m :: ms, ⟨m, ms, rfl, k1, j1⟩, Vs.cons k2 j2, by simp [j3]⟩
  | [], _ :: _, _, _, _, hs, _, _ => by simp [hasAll] at hs
  | _ :: _, [], _, _, _, hs, _, _ => by simp [hasAll] at hs

theorem stay_all (hl : laidOutB P = true) {W' : World} (hb : Below w.heap.size w W') : ∀ (ts : List TypeId) (vs : List Value) (ds : List (DataW H)) (ps : List MemPlace), DataW.TrodAll enc P w 0 (fun _ => true) true ts vs ds ps → (ts.all fun t => P.readableRec t && decide (t < P.types.size)) = true → (∀ x ∈ ps, x.block < w.heap.size) →
    DataW.TrodAll enc P W' 0 (fun b => decide (b < w.heap.size)) true ts vs ds ps
  | [], [], [], ps, h, _, _ => h
  | [], [], _ :: _, ps, h, _, _ => by simp [DataW.TrodAll] at h
  | [], _ :: _, _, ps, h, _, _ => by simp [DataW.TrodAll] at h
  | t :: ts, [], _, ps, h, _, _ => by simp [DataW.TrodAll] at h
  | t :: ts, _ :: _, [], ps, h, _, _ => by simp [DataW.TrodAll] at h
  | t :: ts, v :: vs, d :: ds, ps, h, hr, hlt => by
    obtain ⟨p, q, h1, h2, rfl⟩ := h
    simp only [List.all_cons, Bool.and_eq_true, decide_eq_true_eq] at hr
    exact ⟨p, q, Below.trod hl hr.1.1 hr.1.2 h1 hb (fun x hx => hlt x (List.mem_append_left _ hx)), stay_all hl hb ts vs ds q h2 (by simpa using hr.2) (fun x hx => hlt x (List.mem_append_right _ hx)), rfl⟩
end

theorem below_ext {w w' : World} {E E' : Env} (hK : ∀ id, ¬ E.K id) (hx : Ext (fun _ => true) E w E' w') : Below w.heap.size w w' :=
  ext_below (n := 0) (hx.mono fun id hk _ => rfl) (fun id hk => absurd hk (hK id))

theorem law_calls {f : Nat} {args : List MV} {vs : List Value} {w : World} (hz : runZ MT (orA 12) (itA 12) 4000000 f args [] = some (.lit (.bool true), [])) (hv : Vs (baseE w) w args vs) :
    Calls Try.prog f vs.toArray w fun e w' => e = .returned (.bool true) ∧ Below w.heap.size w w' := by
  have hI : SoundI Try.prog (itA 12) := orI_ok (by kernel_rfl) (tabOf_ok Try.prog) tI_ok (orA_ok 12) (orZ_ok (by kernel_rfl) (tabOf_ok Try.prog) tA_ok tI_ok 12).2
  refine ((runZ_ok (by kernel_rfl) (tabOf_ok Try.prog) (orA_ok 12) (orZ_ok (by kernel_rfl) (tabOf_ok Try.prog) tA_ok tI_ok 12).2 hI hz).2 (baseE w) w vs (baseE_rel w) hv).mono ?_
  rintro e w' ⟨v, E', rfl, h1, -, h3⟩
  exact ⟨by rw [h1.lit_eq], below_ext (fun id hk => hk) h3⟩


set_option maxRecDepth 100000 in
theorem law_contract {H : Type} {enc : TypeId × Value → H} {f : Nat} {fn : Func} {s : ChangeSpec} (shs : List Sh) (hp : hasAll Try.prog shs fn.params.toList = true) (hrd : (fn.params.toList.all fun t => Try.prog.readableRec t && decide (t < Try.prog.types.size)) = true) (hr : fn.resultTypes = #[4])
    (hsv : s.vars = []) (hspec : ∀ ds : List (DataW H), ds.length = shs.length → (s.fn H (ds ++ [])).results = [.lit (.bool true)] ∧ (s.fn H (ds ++ [])).args = ds ∧ (s.fn H (ds ++ [])).vars = [])
    (hz : ∀ ms, FitsL shs ms → runZ MT (orA 12) (itA 12) 4000000 f ms [] = some (.lit (.bool true), []))
    (W : World) (base : Nat) (args : Array Value) (ds gs : List (DataW H)) (before : List MemPlace) (hval : ∀ (j : Nat) t v, fn.params[j]? = some t → args[j]? = some v → Value.okWide Try.prog W .any base t v)
    (hW : DataW.Whole enc Try.prog fn.params.toList s.vars false W args.toList ds gs before) :
    Calls Try.prog f args W fun e W' => ∃ v, e = .returned v ∧ s.post enc Try.prog fn false true false false W args v W' := by
  have hW' := hW
  obtain ⟨p, q, hA, hV, rfl, hfz, hnd⟩ := hW
  rw [hsv] at hV
  obtain ⟨rfl, rfl⟩ := trodVars_none hV
  have hv2 : ∀ (j : Nat) (t : TypeId) (v : Value), fn.params.toList[j]? = some t → args.toList[j]? = some v → Value.okWide Try.prog W .any base t v := fun j t v ht hv => hval j t v (by rw [Array.getElem?_toList] at ht; exact ht) (by rw [Array.getElem?_toList] at hv; exact hv)
  obtain ⟨ms, h1, h2, h3⟩ := lift_all (P := Try.prog) (w := W) shs fn.params.toList args.toList ds p hp hA hv2
  have hc := law_calls (hz ms h1) h2
  rw [Array.toArray_toList] at hc
  refine hc.mono ?_
  rintro e W' ⟨rfl, hb⟩
  obtain ⟨e1, e2, e3⟩ := hspec ds h3
  have hlt : ∀ x ∈ p ++ [], x.block < W.heap.size := fun x hx => by simpa using hW'.lt x hx
  refine ⟨_, rfl, ds, [], p ++ [], [], p, [], hW', ?_, ?_, ?_, hb.frame _, fun h => by cases h⟩
  · rw [e1, hr]
    exact trodAll_mk1 (shut_bool Try.underlying4 true)
  · rw [e2]
    exact stay_all Try.laidOut hb _ _ _ _ hA hrd fun x hx => hlt x (by simpa using hx)
  · rw [e3, hsv]; rfl
end Go.Proofs.Ytgjpdjihjphbdaa

/- Open values of common shapes. -/
namespace Go.Proofs.Ytgjpdjihjphbdaa
open Go.ChangeShapes Go.WideShapes Go.ChangeAt Go.RowKit

theorem fits_pair {m : MV} (h : Fits (.agg [.int .i64, .int .i64]) m) : ∃ a b, m = .agg [I64 a, I64 b] ∧ (Lit.int .i64 a).wf = true ∧ (Lit.int .i64 b).wf = true := by
  simp only [Fits, FitsL] at h
  obtain ⟨ms, ⟨m1, r1, rfl, ⟨a, rfl, ha⟩, m2, r2, rfl, ⟨b, rfl, hb⟩, rfl⟩, rfl⟩ := h
  exact ⟨a, b, rfl, ha, hb⟩
theorem fits_pairs {m : MV} (h : Fits (.slice (.agg [.int .i64, .int .i64])) m) : ∃ xs : List (Int × Int), m = .sl (xs.map encR) ∧ xs.length ≤ maxLen ∧ ∀ p ∈ xs, (Lit.int .i64 p.1).wf = true ∧ (Lit.int .i64 p.2).wf = true := by
  rw [Fits] at h
  obtain ⟨es, rfl, hl, he⟩ := h
  induction es with
  | nil => exact ⟨[], rfl, by simp, fun n hn => by cases hn⟩
  | cons e es ih =>
    obtain ⟨a, b, rfl, ha, hb⟩ := fits_pair (he e List.mem_cons_self)
    obtain ⟨xs, h1, h2, h3⟩ := ih (by simp at hl; omega) fun e h => he e (List.mem_cons_of_mem _ h)
    have e1 : es = xs.map encR := by simpa using h1
    subst e1
    refine ⟨(a, b) :: xs, rfl, by simpa using hl, fun k hk => ?_⟩
    rcases List.mem_cons.1 hk with rfl | hk
    · exact ⟨ha, hb⟩
    · exact h3 k hk
theorem fits_agg {ss : List Sh} {m : MV} (h : Fits (.agg ss) m) : ∃ ms, FitsL ss ms ∧ m = .agg (ms.flatMap MV.cells) := by
  simp only [Fits] at h; exact h
theorem fitsL_cons {s : Sh} {ss : List Sh} {ms : List MV} (h : FitsL (s :: ss) ms) : ∃ m r, ms = m :: r ∧ Fits s m ∧ FitsL ss r := by
  simp only [FitsL] at h; exact h
theorem fitsL_nil {ms : List MV} (h : FitsL [] ms) : ms = [] := by
  simp only [FitsL] at h; exact h
end Go.Proofs.Ytgjpdjihjphbdaa

/- Contracts of the reference, of groups: by open evaluation. -/
namespace Go.Proofs.Ytgjpdjihjphbdaa
open Go.RowKit

theorem callL {k f : Nat} {args args' : List MV} {h : MHeap} {v : Value} (h1 : args.mapM (frz 0 [] h 8) = some args') (hT : tA f args' [] = none) (h2 : runZ MT (orA k) (itA k) 4000000 f args' [] = some (.lit v, [])) : orA (k + 1) f args h = some (.lit v, h) := by
  have := callA h1 hT h2 (by simp [okV, ok1, MV.lt, MV.pure]) rfl
  simpa [shV, sh1] using this
theorem frz_lits {h : MHeap} : ∀ vs : List Value, (vs.map MV.lit).mapM (frz 0 [] h 8) = some (vs.map .lit)
  | [] => rfl
  | v :: vs => by
    rw [List.map_cons, List.mapM_cons, frz_lits vs]
    simp [frz, MV.lt]

theorem at_map {α β : Type} (f : α → β) (xs : List α) (i : Nat) (h : i < xs.length) : (xs.map f)[((i : Nat) : Int).toNat]? = some (f xs[i]) := by
  rw [Int.toNat_natCast, List.getElem?_map, List.getElem?_eq_getElem h]; rfl

theorem mf_Within : MT.mf 22 = some ⟨15, [(.tmp 6)], (.seq (.reg [⟨none, (some 6), (.mv (.c (.lit (.bool false))))⟩]) (.seq (.reg [⟨none, (some 7), (.mv (.s 1))⟩, ⟨none, (some 8), (.mv (.s 0))⟩, ⟨none, (some 9), (.bin .leq (.s 7) (.s 8))⟩, ⟨none, (some 10), (.mv (.s 9))⟩, ⟨(some (10, true)), (some 11), (.mv (.s 0))⟩, ⟨(some (10, true)), (some 12), (.mv (.s 2))⟩, ⟨(some (10, true)), (some 13), (.bin .leq (.s 11) (.s 12))⟩, ⟨none, (some 14), (.pick (.s 10) (.s 13) (.c (.lit (.bool false))))⟩, ⟨none, (some 6), (.mv (.s 14))⟩]) .ret))⟩ := by kernel_rfl
theorem Within_c (k : Nat) (a b c : Int) (h : MHeap) {t : Bool} (ht : inB a b c = t) : orA (k + 1) 22 [I64 a, I64 b, I64 c] h = some (Bo t, h) := by
  refine callL (frz_lits [.int .i64 a, .int .i64 b, .int .i64 c]) rfl (runZ_of mf_Within (by simp) ?_)
  simp only [argsL, List.map_cons, List.map_nil]
  repeat (first | apply ef_seq | (apply ef_mv; exact rfl; exact rfl) | (apply ef_bin; exact rfl; exact rfl; exact rfl; (exact rfl)) | apply ef_nil | apply seqQ.normal)
  cases h1 : decide (b ≤ a)
  all_goals repeat (first | (apply ef_mv; exact rfl; exact rfl) | (apply ef_bin; exact rfl; exact rfl; exact rfl; (exact rfl)) | (apply ef_gy; exact rfl; (exact (rfl : true = true))) | (apply ef_gn; exact rfl; (exact (rfl : false = false)); exact rfl) | (apply ef_pick; exact rfl; exact rfl; exact rfl) | apply ef_nil | apply seqQ.normal | apply ef_ret)
  · (refine fin1 rfl (by exact rfl) rfl ?_)
    simp at h1; simp [inB] at ht; simp; rw [← ht]; simp; omega
  · (refine fin1 rfl (by exact rfl) rfl ?_)
    simp at h1; simp [inB, h1] at ht; simp [← ht]

end Go.Proofs.Ytgjpdjihjphbdaa

/- Contracts of the reference, of groups: more. -/
namespace Go.Proofs.Ytgjpdjihjphbdaa
open Go.RowKit

theorem ltL_lits {n : Nat} {α : Type} {f : α → MV} (hf : ∀ a, (f a).lt n = true) : ∀ xs : List α, ltL n (xs.map f) = true
  | [] => rfl
  | x :: xs => by simp [ltL, hf x, ltL_lits hf xs]
theorem ltL_I (n : Nat) (xs : List Int) : ltL n (xs.map I64) = true := ltL_lits (fun _ => rfl) xs
theorem frz_arr {h : MHeap} {id i k g : Nat} {o : MObj} {es : List MV} (ho : h[id]? = some o) (hg : o.g = g) (hk : i + k ≤ o.es.length) (hl : ltL 0 o.es = true) (he : (o.es.drop i).take k = es) : frz 0 [] h 8 (.arr id i k g) = some (.sl es) := by
  simp [frz, MV.lt, ho, hg, hk, hl, he]
/-- A slice that may be read, now and later. -/
def FzS (H : MHeap) (v : MV) (es : List MV) : Prop := v.slen = some es.length ∧ ∀ t, frz 0 [] (H ++ t) 8 v = some (.sl es)
theorem FzS.now {H : MHeap} {v : MV} {es : List MV} (h : FzS H v es) : frz 0 [] H 8 v = some (.sl es) := by have := h.2 []; rwa [List.append_nil] at this
theorem fz_arr {h : MHeap} {id k : Nat} {o : MObj} {es : List MV} (ho : h[id]? = some o) (hg : o.g = 0) (hk : k = es.length) (hl : ltL 0 es = true) (he : o.es = es) : FzS h (.arr id 0 k 0) es := by
  subst he hk
  refine ⟨rfl, fun t => frz_arr (o := o) ?_ hg (by simp) hl (by simp)⟩
  rw [List.getElem?_append_left (List.getElem?_eq_some_iff.1 ho).1]; exact ho
end Go.Proofs.Ytgjpdjihjphbdaa

/- Contracts of the program: the words of chapter 1. -/
namespace Go.Proofs.Ytgjpdjihjphbdaa
open Go.RowKit

theorem mf_pwithin : MT.mf 129 = some ⟨15, [(.tmp 6)], (.seq (.reg [⟨none, (some 6), (.mv (.c (.lit (.bool false))))⟩]) (.seq (.reg [⟨none, (some 7), (.mv (.s 1))⟩, ⟨none, (some 8), (.mv (.s 0))⟩, ⟨none, (some 9), (.bin .leq (.s 7) (.s 8))⟩, ⟨none, (some 10), (.mv (.s 9))⟩, ⟨(some (10, true)), (some 11), (.mv (.s 0))⟩, ⟨(some (10, true)), (some 12), (.mv (.s 2))⟩, ⟨(some (10, true)), (some 13), (.bin .leq (.s 11) (.s 12))⟩, ⟨none, (some 14), (.pick (.s 10) (.s 13) (.c (.lit (.bool false))))⟩, ⟨none, (some 6), (.mv (.s 14))⟩]) .ret))⟩ := by kernel_rfl
theorem within_c (k : Nat) (a b c : Int) (h : MHeap) {t : Bool} (ht : inB a b c = t) : orA (k + 1) 129 [I64 a, I64 b, I64 c] h = some (Bo t, h) := by
  refine callL (frz_lits [.int .i64 a, .int .i64 b, .int .i64 c]) rfl (runZ_of mf_pwithin (by simp) ?_)
  simp only [argsL, List.map_cons, List.map_nil]
  by_cases h1 : b ≤ a
  all_goals repeat (first | apply ef_seq | (apply ef_mv; exact rfl; exact rfl) | (apply ef_bin; exact rfl; exact rfl; exact rfl; (first | exact cmp_t rfl (by first | exact rfl | (simp only [cmpP]; omega)) | exact cmp_f rfl (by simp only [cmpP]; omega) | exact rfl)) | (apply ef_gy; exact rfl; (exact (rfl : true = true))) | (apply ef_gn; exact rfl; (exact (rfl : false = false)); exact rfl) | (apply ef_pick; exact rfl; exact rfl; exact rfl) | apply ef_nil | apply seqQ.normal | apply ef_ret)
  · (refine fin1 rfl (by exact rfl) rfl ?_)
    simp [inB, h1] at ht; simp [← ht]
  · (refine fin1 rfl (by exact rfl) rfl ?_)
    simp [inB, h1] at ht; simp [← ht]

theorem mf_unless : MT.mf 93 = some ⟨7, [(.tmp 4)], (.seq (.reg [⟨none, (some 4), (.mv (.c (.lit (.int .i64 0))))⟩]) (.seq (.seq (.reg [⟨none, (some 5), (.mv (.s 0))⟩]) (.cond (.s 5) (.seq (.reg [⟨none, (some 4), (.mv (.c (.lit (.int .i64 0))))⟩]) .ret) .skip)) (.seq (.reg [⟨none, (some 6), (.mv (.s 1))⟩, ⟨none, (some 4), (.mv (.s 6))⟩]) .ret)))⟩ := by kernel_rfl
theorem unless_c (k : Nat) (b : Bool) (n : Int) (h : MHeap) {e : Int} (he : unl b n = e) : orA (k + 1) 93 [Bo b, I64 n] h = some (I64 e, h) := by
  subst he
  refine callL (frz_lits [.bool b, .int .i64 n]) rfl (runZ_of mf_unless (by simp) ?_)
  simp only [argsL, List.map_cons, List.map_nil]
  cases b
  all_goals repeat (first | apply ef_seq | (apply ef_mv; exact rfl; exact rfl) | apply ef_nil | apply seqQ.normal | apply ef_ret | apply seqQ.ret | apply ef_skip | (apply ef_condt; exact rfl; (exact (rfl : true = true))) | (apply ef_condf; exact rfl; (exact (rfl : false = false))))
  all_goals (refine fin1 rfl (by exact rfl) rfl ?_)
  all_goals rfl

theorem mf_first : MT.mf 92 = some ⟨15, [(.tmp 2)], (.seq (.reg [⟨none, (some 2), (.mv (.c (.lit (.int .i64 0))))⟩]) (.seq (.seq (.reg [⟨none, (some 5), (.mv (.s 0))⟩, ⟨none, (some 6), (.len (.s 5))⟩, ⟨none, (some 7), (.mv (.c (.lit (.int .i64 0))))⟩]) (.block 0 (.loop [7, 6, 5] (.seq (.reg [⟨none, (some 8), (.bin .lss (.s 7) (.s 6))⟩]) (.seq (.cond (.s 8) .skip (.exit 0)) (.seq (.block 1 (.seq (.reg [⟨none, (some 9), (.ia 1 (.s 5) (.s 7))⟩, ⟨none, (some 10), (.ld none (.s 9))⟩, ⟨none, (some 4), (.mv (.s 10))⟩]) (.seq (.reg [⟨none, (some 11), (.mv (.s 4))⟩, ⟨none, (some 12), (.bin .neq (.s 11) (.c (.lit (.int .i64 0))))⟩]) (.cond (.s 12) (.seq (.reg [⟨none, (some 13), (.mv (.s 4))⟩, ⟨none, (some 2), (.mv (.s 13))⟩]) .ret) .skip)))) (.reg [⟨none, (some 14), (.bin .add (.s 7) (.c (.lit (.int .i64 1))))⟩, ⟨none, (some 7), (.mv (.s 14))⟩]))))))) (.seq (.reg [⟨none, (some 2), (.mv (.c (.lit (.int .i64 0))))⟩]) .ret)))⟩ := by kernel_rfl
theorem first_z (k : Nat) (xs : List Int) (hx : xs.length ≤ 1000) : runZ MT (orA k) (itA k) 4000000 92 [.sl (xs.map I64)] [] = some (I64 (firstE xs), []) := by
  have hl : (MV.sl (xs.map I64)).slen = some xs.length := by simp [MV.slen]
  refine runZ_of mf_first (by simp) ?_
  simp only [argsL]
  repeat (first | apply ef_seq | (apply ef_mv; exact rfl; exact rfl) | (apply ef_len; exact rfl; exact rfl; (assumption)) | apply ef_nil | apply seqQ.normal | apply ef_block)
  refine ef_loop (α := Nat) (fun i => i ≤ xs.length ∧ firstE xs = firstE (xs.drop i)) (fun i => [(7, I64 (i : Int)), (6, I64 (xs.length : Int)), (5, .sl (xs.map I64))]) (fun _ => []) (fun i => xs.length - i) 0 [7, 6, 5] (fun _ => rfl) rfl ⟨by omega, rfl⟩ (by simp; omega) (by ((repeat (refine Hold.cons (by exact rfl) ?_)); exact Hold.nil)) rfl ?_
  rintro i ⟨hi, hz⟩
  by_cases hlt : i < xs.length
  · have e1 := at_map I64 xs i hlt
    have HD := Lib.hid (drop_at xs i hlt)
    have HZ := Lib.hid hz
    clear hz
    generalize xs[i] = x at e1 HD
    by_cases h0 : x = 0
    · subst h0
      repeat (first | apply ef_seq | (apply ef_mv; exact rfl; exact rfl) | (apply ef_bin; exact rfl; exact rfl; exact rfl; (first | exact cmp_t rfl (by first | exact rfl | (simp only [cmpP]; omega)) | exact cmp_f rfl (by simp only [cmpP]; omega) | ((with_reducible refine bin_add (wrap_of ?_ ?_)) <;> omega))) | (apply ef_ldr; exact rfl; exact rfl; (exact rfl)) | (apply ef_ias; exact rfl; exact rfl; exact rfl; (omega); assumption; exact rfl) | apply ef_nil | apply seqQ.normal | apply blockQ.normal | apply ef_block | apply ef_skip | (apply ef_condt; exact rfl; (exact (rfl : true = true))) | (apply ef_condf; exact rfl; (exact (rfl : false = false))))
      (refine loopQ.normal _ _ ⟨i + 1, ⟨hlt, by rw [HZ.out, HD.out]; simp [firstE]⟩, (by first | (simp only; omega) | omega), by ((repeat (refine Hold.cons (by exact rfl) ?_)); exact Hold.nil), .inl (Nat.le_refl _), (by first | exact List.take_length | exact rfl)⟩)
    · repeat (first | apply ef_seq | (apply ef_mv; exact rfl; exact rfl) | (apply ef_bin; exact rfl; exact rfl; exact rfl; (exact cmp_t rfl (by first | exact rfl | (simp only [cmpP]; omega)))) | (apply ef_ldr; exact rfl; exact rfl; (exact rfl)) | (apply ef_ias; exact rfl; exact rfl; exact rfl; (omega); assumption; exact rfl) | apply ef_nil | apply seqQ.normal | apply loopQ.ret | apply ef_ret | apply seqQ.ret | apply blockQ.ret | apply ef_block | apply ef_skip | (apply ef_condt; exact rfl; (exact (rfl : true = true))))
      (refine fin1 rfl (by exact rfl) rfl ?_)
      rw [HZ.out, HD.out]; simp [firstE, h0]
  · repeat (first | apply ef_seq | (apply ef_mv; exact rfl; exact rfl) | (apply ef_bin; exact rfl; exact rfl; exact rfl; (exact cmp_f rfl (by simp only [cmpP]; omega))) | apply ef_nil | apply seqQ.normal | apply loopQ.exit | apply ef_ret | apply ef_exit | apply seqQ.exit | apply blockQ.here | (apply ef_condf; exact rfl; (exact (rfl : false = false))))
    (refine fin1 rfl (by exact rfl) rfl ?_)
    rw [hz, List.drop_eq_nil_of_le (by omega)]; rfl
theorem first_c (k : Nat) (xs : List Int) (h : MHeap) {v : MV} {e : Int} (hv : frz 0 [] h 8 v = some (.sl (xs.map I64))) (he : firstE xs = e) (hx : xs.length ≤ 1000 := by simp) : orA (k + 1) 92 [v] h = some (I64 e, h) :=
  callL (args' := [.sl (xs.map I64)]) (by simp [List.mapM_cons, hv]) rfl (by rw [← he]; exact first_z k xs hx)

theorem first2_c {k id : Nat} {a0 a1 e : Int} {h : MHeap} {o : MObj} (ho : h[id]? = some o) (hg : o.g = 0) (hes : o.es = [I64 a0, I64 a1]) (he : firstE [a0, a1] = e) : orA (k + 1) 92 [.arr id 0 2 0] h = some (I64 e, h) :=
  first_c k [a0, a1] h (fz_arr ho hg rfl rfl hes).now he
theorem mf_isPosition : MT.mf 128 = some ⟨5, [(.tmp 2)], (.seq (.reg [⟨none, (some 2), (.mv (.c (.lit (.bool false))))⟩]) (.seq (.reg [⟨none, (some 3), (.mv (.s 0))⟩, ⟨none, (some 4), (.call 129 [(.s 3), (.c (.lit (.int .i64 0))), (.c (.lit (.int .i64 1000)))])⟩, ⟨none, (some 2), (.mv (.s 4))⟩]) .ret))⟩ := by kernel_rfl
theorem isPosition_c (k : Nat) (a : Int) (h : MHeap) {t : Bool} (ht : inB a 0 1000 = t) : orA (k + 2) 128 [I64 a] h = some (Bo t, h) := by
  refine callL (frz_lits [.int .i64 a]) rfl (runZ_of mf_isPosition (by simp) ?_)
  simp only [argsL, List.map_cons, List.map_nil]
  repeat (first | apply ef_seq | (apply ef_mv; exact rfl; exact rfl) | apply ef_nil | apply seqQ.normal | apply ef_ret | (apply ef_call; exact rfl; ((repeat (apply XVs.cons; exact rfl)); exact XVs.nil); (with_reducible exact within_c _ _ _ _ _ rfl)))
  (refine fin1 rfl (by exact rfl) rfl ?_)
  rw [ht]
theorem mf_positionErr : MT.mf 96 = some ⟨12, [(.tmp 2)], (.seq (.reg [⟨none, (some 1), (.box 2 (.s 0))⟩, ⟨none, (some 2), (.mv (.c (.lit (.int .i64 0))))⟩]) (.seq (.reg [⟨none, (some 3), (.fa 0 (.s 1))⟩, ⟨none, (some 4), (.ld none (.s 3))⟩, ⟨none, (some 5), (.call 128 [(.s 4)])⟩, ⟨none, (some 6), (.mv (.s 5))⟩, ⟨(some (6, true)), (some 7), (.fa 1 (.s 1))⟩, ⟨(some (6, true)), (some 8), (.ld none (.s 7))⟩, ⟨(some (6, true)), (some 9), (.call 128 [(.s 8)])⟩, ⟨none, (some 10), (.pick (.s 6) (.s 9) (.c (.lit (.bool false))))⟩, ⟨none, (some 11), (.call 93 [(.s 10), (.c (.lit (.int .i64 2)))])⟩, ⟨none, (some 2), (.mv (.s 11))⟩]) .ret))⟩ := by kernel_rfl
def posE2 (a b : Int) : Int := unl (inB a 0 1000 && inB b 0 1000) 2
theorem positionErr_c (k : Nat) (a b : Int) (h : MHeap) {e : Int} (he : posE2 a b = e) : orA (k + 3) 96 [.agg [I64 a, I64 b]] h = some (I64 e, h) := by
  refine callL (args' := [.agg [I64 a, I64 b]]) rfl rfl (runZ_of mf_positionErr (by simp) ?_)
  simp only [argsL]
  cases h1 : inB a 0 1000
  · repeat (first | apply ef_seq | (apply ef_mv; exact rfl; exact rfl) | (apply ef_gn; exact rfl; (exact (rfl : false = false)); exact rfl) | (apply ef_pick; exact rfl; exact rfl; exact rfl) | (apply ef_ldp; exact rfl; exact rfl; exact rfl; exact rfl; (exact rfl); (exact rfl)) | (apply ef_fap; exact rfl; exact rfl) | (apply ef_box; exact rfl; exact rfl; exact rfl; exact rfl) | apply ef_nil | apply seqQ.normal | apply ef_ret | (apply ef_call; exact rfl; ((repeat (apply XVs.cons; exact rfl)); exact XVs.nil); (with_reducible first | exact isPosition_c _ _ _ (by assumption) | exact unless_c _ _ _ _ rfl)))
    (refine fin1 rfl (by exact rfl) rfl ?_)
    rw [← he]; simp [posE2, h1]
  · repeat (first | apply ef_seq | (apply ef_mv; exact rfl; exact rfl) | (apply ef_gy; exact rfl; (exact (rfl : true = true))) | (apply ef_pick; exact rfl; exact rfl; exact rfl) | (apply ef_ldp; exact rfl; exact rfl; exact rfl; exact rfl; (exact rfl); (exact rfl)) | (apply ef_fap; exact rfl; exact rfl) | (apply ef_box; exact rfl; exact rfl; exact rfl; exact rfl) | apply ef_nil | apply seqQ.normal | apply ef_ret | (apply ef_call; exact rfl; ((repeat (apply XVs.cons; exact rfl)); exact XVs.nil); (with_reducible first | exact isPosition_c _ _ _ (by assumption) | exact isPosition_c _ _ _ rfl | exact unless_c _ _ _ _ rfl)))
    (refine fin1 rfl (by exact rfl) rfl ?_)
    rw [← he]; simp [posE2, h1]
theorem mf_rPositionErr : MT.mf 31 = some ⟨13, [(.tmp 2)], (.seq (.reg [⟨none, (some 1), (.box 2 (.s 0))⟩, ⟨none, (some 2), (.mv (.c (.lit (.int .i64 0))))⟩]) (.seq (.seq (.reg [⟨none, (some 3), (.fa 0 (.s 1))⟩, ⟨none, (some 4), (.ld none (.s 3))⟩, ⟨none, (some 5), (.call 22 [(.s 4), (.c (.lit (.int .i64 0))), (.c (.lit (.int .i64 1000)))])⟩, ⟨none, (some 6), (.un .not (.s 5))⟩, ⟨none, (some 7), (.mv (.s 6))⟩, ⟨(some (7, false)), (some 8), (.fa 1 (.s 1))⟩, ⟨(some (7, false)), (some 9), (.ld none (.s 8))⟩, ⟨(some (7, false)), (some 10), (.call 22 [(.s 9), (.c (.lit (.int .i64 0))), (.c (.lit (.int .i64 1000)))])⟩, ⟨(some (7, false)), (some 11), (.un .not (.s 10))⟩, ⟨none, (some 12), (.pick (.s 7) (.c (.lit (.bool true))) (.s 11))⟩]) (.cond (.s 12) (.seq (.reg [⟨none, (some 2), (.mv (.c (.lit (.int .i64 2))))⟩]) .ret) .skip)) (.seq (.reg [⟨none, (some 2), (.mv (.c (.lit (.int .i64 0))))⟩]) .ret)))⟩ := by kernel_rfl
theorem rPositionErr_c (k : Nat) (a b : Int) (h : MHeap) {e : Int} (he : posE2 a b = e) : orA (k + 2) 31 [.agg [I64 a, I64 b]] h = some (I64 e, h) := by
  refine callL (args' := [.agg [I64 a, I64 b]]) rfl rfl (runZ_of mf_rPositionErr (by simp) ?_)
  simp only [argsL]
  cases h1 : inB a 0 1000
  · repeat (first | apply ef_seq | (apply ef_mv; exact rfl; exact rfl) | (apply ef_gn; exact rfl; (exact (rfl : true = true)); exact rfl) | (apply ef_pick; exact rfl; exact rfl; exact rfl) | (apply ef_ldp; exact rfl; exact rfl; exact rfl; exact rfl; (exact rfl); (exact rfl)) | (apply ef_fap; exact rfl; exact rfl) | (apply ef_notF; exact rfl; exact rfl) | (apply ef_box; exact rfl; exact rfl; exact rfl; exact rfl) | apply ef_nil | apply seqQ.normal | apply ef_ret | apply seqQ.ret | (apply ef_condt; exact rfl; (exact (rfl : true = true))) | (apply ef_call; exact rfl; ((repeat (apply XVs.cons; exact rfl)); exact XVs.nil); (with_reducible exact Within_c _ _ _ _ _ (by assumption))))
    (refine fin1 rfl (by exact rfl) rfl ?_)
    rw [← he]; simp [posE2, h1, unl]
  · cases h2 : inB b 0 1000
    all_goals repeat (first | apply ef_seq | (apply ef_mv; exact rfl; exact rfl) | (apply ef_gy; exact rfl; (exact (rfl : false = false))) | (apply ef_pick; exact rfl; exact rfl; exact rfl) | (apply ef_ldp; exact rfl; exact rfl; exact rfl; exact rfl; (exact rfl); (exact rfl)) | (apply ef_fap; exact rfl; exact rfl) | (apply ef_notT; exact rfl; exact rfl) | (apply ef_notF; exact rfl; exact rfl) | (apply ef_box; exact rfl; exact rfl; exact rfl; exact rfl) | apply ef_nil | apply seqQ.normal | apply ef_ret | apply seqQ.ret | apply ef_skip | (apply ef_condt; exact rfl; (exact (rfl : true = true))) | (apply ef_condf; exact rfl; (exact (rfl : false = false))) | (apply ef_call; exact rfl; ((repeat (apply XVs.cons; exact rfl)); exact XVs.nil); (with_reducible exact Within_c _ _ _ _ _ (by assumption))))
    all_goals (refine fin1 rfl (by exact rfl) rfl ?_)
    all_goals (rw [← he]; simp [posE2, h1, h2, unl])
end Go.Proofs.Ytgjpdjihjphbdaa

/- More rules of evaluation: cuts with a state, rows of integers. -/
namespace Go.Proofs.Ytgjpdjihjphbdaa
open Go.RowKit

section
variable {O : Oracle} {I : Iter} {N n : Nat} {lk : Nat → Bool} {A : Sl} {h : MHeap} {Q : MX2 → Sl → MHeap → Prop}
end

end Go.Proofs.Ytgjpdjihjphbdaa

/- Iterators with open values: rules; ranges over them. -/
namespace Go.Proofs.Ytgjpdjihjphbdaa
open Go.RowKit
set_option linter.unusedVariables false

abbrev QI := MX2 → Sl → MHeap → Nat → List (List MV) → Bool → Prop
/-- How an iterator's code goes on. -/
structure EfI (O : Oracle) (N n : Nat) (mc : MC) (A : Sl) (h : MHeap) (ln : Nat) (xs : List (List MV)) (stop : Bool) (Q : QI) : Prop where
  run : ∀ s, SRel n A s → ∃ outs, evI O N mc ⟨s, h, ln, xs, stop⟩ = some outs ∧ ∀ o ∈ outs, ∃ A', SRel n A' o.2.s ∧ Q o.1 A' o.2.h o.2.ln o.2.xs o.2.stop
/-- How a region of it with a yield goes on. -/
structure EfY (O : Oracle) (N n : Nat) (gl : List GO) (A : Sl) (h : MHeap) (ln : Nat) (xs : List (List MV)) (stop : Bool) (Q : Sl → MHeap → Nat → List (List MV) → Bool → Prop) : Prop where
  run : ∀ s, SRel n A s → ∃ l, evRI O gl ⟨s, h, ln, xs, stop⟩ = some l ∧ ∀ o ∈ l, ∃ A', SRel n A' o.s ∧ Q A' o.h o.ln o.xs o.stop

section
variable {O : Oracle} {N n : Nat} {A : Sl} {h : MHeap} {ln : Nat} {xs : List (List MV)} {stop : Bool} {Q : QI}

inductive seqI (O : Oracle) (N n : Nat) (b : MC) (Q : QI) : QI
  | normal (A : Sl) (h : MHeap) (ln : Nat) (xs : List (List MV)) (stop : Bool) : EfI O N n b A h ln xs stop Q → seqI O N n b Q .normal A h ln xs stop
  | ret (A : Sl) (h : MHeap) (ln : Nat) (xs : List (List MV)) (stop : Bool) : Q .ret A h ln xs stop → seqI O N n b Q .ret A h ln xs stop
  | exit (id : Nat) (A : Sl) (h : MHeap) (ln : Nat) (xs : List (List MV)) (stop : Bool) : Q (.exit id) A h ln xs stop → seqI O N n b Q (.exit id) A h ln xs stop
inductive blockI (id : Nat) (Q : QI) : QI
  | normal (A : Sl) (h : MHeap) (ln : Nat) (xs : List (List MV)) (stop : Bool) : Q .normal A h ln xs stop → blockI id Q .normal A h ln xs stop
  | ret (A : Sl) (h : MHeap) (ln : Nat) (xs : List (List MV)) (stop : Bool) : Q .ret A h ln xs stop → blockI id Q .ret A h ln xs stop
  | here (A : Sl) (h : MHeap) (ln : Nat) (xs : List (List MV)) (stop : Bool) : Q .normal A h ln xs stop → blockI id Q (.exit id) A h ln xs stop
  | there (k : Nat) (A : Sl) (h : MHeap) (ln : Nat) (xs : List (List MV)) (stop : Bool) : k ≠ id → Q (.exit k) A h ln xs stop → blockI id Q (.exit k) A h ln xs stop
inductive loopI (R : Sl → MHeap → Nat → List (List MV) → Bool → Prop) (Q : QI) : QI
  | normal (A : Sl) (h : MHeap) (ln : Nat) (xs : List (List MV)) (stop : Bool) : R A h ln xs stop → loopI R Q .normal A h ln xs stop
  | ret (A : Sl) (h : MHeap) (ln : Nat) (xs : List (List MV)) (stop : Bool) : Q .ret A h ln xs stop → loopI R Q .ret A h ln xs stop
  | exit (id : Nat) (A : Sl) (h : MHeap) (ln : Nat) (xs : List (List MV)) (stop : Bool) : Q (.exit id) A h ln xs stop → loopI R Q (.exit id) A h ln xs stop
variable {QY : Sl → MHeap → Nat → List (List MV) → Bool → Prop}
/-- Slots that a round sets. -/
def putA : Sl → List Nat → List MV → Sl
  | A, p :: ps, v :: vs => putA ((p, v) :: A) ps vs
  | A, _, _ => A
theorem SRel.putsA : ∀ {ps : List Nat} {vs : List MV} {A : Sl} {s : List MV}, SRel n A s → (ps.all fun p => Nat.blt p n) = true → SRel n (putA A ps vs) (putAll s ps vs)
  | [], vs, A, s, hs, _ => by cases vs <;> exact hs
  | p :: ps, [], A, s, hs, _ => hs
  | p :: ps, v :: vs, A, s, hs, hp => by
    simp only [List.all_cons, Bool.and_eq_true] at hp
    show SRel n (putA ((p, v) :: A) ps vs) (Go.Proofs.Ytgjpdjihjphbdaa.putAll (s.set p v) ps vs)
    exact SRel.putsA (hs.put (by simpa [Nat.blt_eq] using hp.1) v) hp.2
end

section
variable {O : Oracle} {I : Iter} {N n : Nat} {lk : Nat → Bool} {A : Sl} {h : MHeap} {Q : MX2 → Sl → MHeap → Prop}
inductive preQ (O : Oracle) (I : Iter) (N n : Nat) (lk : Nat → Bool) (b : MC) (R : MX2 → Sl → MHeap → Prop) : MX2 → Sl → MHeap → Prop
  | normal (A : Sl) (h : MHeap) : Ef O I N n lk b A h R → preQ O I N n lk b R .normal A h
inductive rfQ (A0 : Sl) (R : MHeap → Prop) (Q : MX2 → Sl → MHeap → Prop) : MX2 → Sl → MHeap → Prop
  | normal (A : Sl) (h : MHeap) : R h → rfQ A0 R Q .normal A h
  | ret (A : Sl) (h : MHeap) : Q .ret A0 h → rfQ A0 R Q .ret A h
  | exit (id : Nat) (A : Sl) (h : MHeap) : Q (.exit id) A0 h → rfQ A0 R Q (.exit id) A h
/-- What the head of a loop leaves of memory: all of it, a part, all of it as something speaks of what is beyond. -/
inductive HeadIs (keep : List Nat) (m : Nat) (A : Sl) (h : MHeap) : MHeap → Prop
  | all : h.length ≤ m → HeadIs keep m A h h
  | cut : (∀ t ∈ keep, ∃ v, look A t = some v ∧ v.lt m = true) → hltL m (h.take m) = true → HeadIs keep m A h (h.take m)
  | slot (t : Nat) (v : MV) : t ∈ keep → look A t = some v → v.lt m = false → HeadIs keep m A h h
  | cell : hltL m (h.take m) = false → HeadIs keep m A h h
theorem headM_is {keep : List Nat} {m : Nat} {s : List MV} {h1 : MHeap} (hs : SRel n A s) (hn : keep.all (fun t => Nat.blt t n) = true) (hh : HeadIs keep m A h h1) : headM keep m ⟨s, h⟩ = ⟨keepS keep 0 s, h1⟩ := by
  cases hh with
  | all hl => unfold headM; dsimp only; rw [if_pos hl]
  | cut h1 h2 => exact headM_take hs (.inr ⟨h1, h2⟩)
  | slot t v ht hv hl =>
    unfold headM
    dsimp only
    split
    · rfl
    · rw [if_neg]
      intro hc
      rw [Bool.and_eq_true] at hc
      have htn : t < n := by have := List.all_eq_true.1 hn t ht; simpa [Nat.blt_eq] using this
      have hl1 : t < s.length := by rw [hs.len]; exact htn
      have e1 := hs.get t v hv
      have h3 : (keepS keep 0 s)[t]? = some v := by
        rw [keepS_get', List.getElem?_eq_getElem hl1]
        rw [List.getD_eq_getElem?_getD, List.getElem?_eq_getElem hl1] at e1
        simp only [Option.getD_some] at e1
        simp [ht, e1]
      have := ltL_iff'.1 hc.1 v (List.mem_of_getElem? h3)
      rw [hl] at this
      cases this
  | cell h2 =>
    unfold headM
    dsimp only
    split
    · rfl
    · rw [if_neg]
      rw [h2]
      simp
/-- A range over an iterator: hp tells memory behind i rounds, hq memory at the head of a round; slots are as before. -/
theorem ef_rf {α : Type} {keep : List Nat} {f : MX} {ps : List Nat} {pa b : MC} {g k : Nat} {caps : List MV} {xs : List (List MV)} {ids : List Nat} (Inv : Nat → α → Prop) (B : Sl) (hp hq : α → MHeap) (a0 : α)
    (hf : XV A f (.fn g k caps)) (hI : I g k caps h = some xs) (hl : (xs.all fun x => x.length == ps.length) = true) (hids : caps.flatMap (MV.ids h 6) = ids) (hB : Hold A B) (hk : (B.map (·.1)).all (fun t => keep.contains t) = true) (hps : (ps.all fun p => Nat.blt p n) = true)
    (hkn : keep.all (fun t => Nat.blt t n) = true) (h0 : Inv 0 a0) (hH : hp a0 = h) (hh : ∀ i a, Inv i a → HeadIs keep h.length A (hp a) (hq a))
    (hb : ∀ i a x, xs[i]? = some x → Inv i a → Ef O I N n (fun id => lk id || ids.contains id) pa (putA B ps x) (hq a) (preQ O I N n (fun id => lk id || ids.contains id) b (rfQ A (fun h' => ∃ a', Inv (i + 1) a' ∧ h' = hp a') Q)))
    (hQ : ∀ a, Inv xs.length a → Q .normal A (hp a)) : Ef O I N n lk (.rf keep f ps pa b) A h Q := .mk fun s hs => by
  subst hids
  obtain ⟨F, hF⟩ : ∃ F : List MV → MHeap → Option (MX2 × MHeap), F = (fun x h' => match evC O I N pa (fun id => lk id || (caps.flatMap (MV.ids h 6)).contains id) ⟨putAll (headM keep h.length ⟨s, h'⟩).s ps x, (headM keep h.length ⟨s, h'⟩).h⟩ with
          | some (.normal, st2) => match evC O I N b (fun id => lk id || (caps.flatMap (MV.ids h 6)).contains id) st2 with
            | some (y, st3) => some (y, st3.h)
            | none => none
          | _ => none) := ⟨_, rfl⟩
  have key : ∀ (ys : List (List MV)) (i : Nat) (a : α), xs.drop i = ys → i ≤ xs.length → Inv i a → ∃ x h', overH F ys (hp a) = some (x, h') ∧ Q x A h' := by
    intro ys
    induction ys with
    | nil =>
      intro i a hd hi hI
      have : i = xs.length := by
        have := congrArg List.length hd
        simp at this
        omega
      subst this
      exact ⟨_, _, rfl, hQ a hI⟩
    | cons y ys ih =>
      intro i a hd hi hIa
      have hy : xs[i]? = some y := by
        have : (xs.drop i)[0]? = some y := by rw [hd]; rfl
        rw [List.getElem?_drop] at this
        simpa using this
      have hd' : xs.drop (i + 1) = ys := by
        rw [← List.tail_drop, hd]; rfl
      have hlt := (List.getElem?_eq_some_iff.1 hy).1
      have e1 := headM_is hs hkn (hh i a hIa)
      have hsB : SRel n B (keepS keep 0 s) := ⟨by rw [keepS_len', hs.len], fun t v ht => by
        have hmem : t ∈ keep := by
          have := look_mem ht
          simpa using List.all_eq_true.1 hk t this
        rw [keepS_getD hmem]
        exact hs.get t v (hB.sub t v ht)⟩
      obtain ⟨x1, s1, h1, j1, A1, j2, j3⟩ := (hb i a y hy hIa).run _ (hsB.putsA (vs := y) hps)
      cases j3 with
      | normal _ _ j3 =>
        obtain ⟨x2, s2, h2, m1, A2, m2, m3⟩ := j3.run s1 j2
        have e2 : F y (hp a) = some (x2, h2) := by
          rw [hF]
          dsimp only
          rw [e1]
          simp only [j1, m1]
        cases m3 with
        | normal _ _ m3 =>
          obtain ⟨a', n1, rfl⟩ := m3
          obtain ⟨x, h', o1, o2⟩ := ih (i + 1) a' hd' (by omega) n1
          exact ⟨x, h', by simp only [overH, e2]; exact o1, o2⟩
        | ret _ _ m3 => exact ⟨_, _, by simp only [overH, e2], m3⟩
        | exit id _ _ m3 => exact ⟨_, _, by simp only [overH, e2], m3⟩
  obtain ⟨x, h', k1, k2⟩ := key xs 0 a0 rfl (by omega) h0
  rw [hH] at k1
  refine ⟨x, s, h', ?_, A, hs, k2⟩
  simp only [evC, hs.x hf, hI, hl, if_true]
  rw [hF] at k1
  exact congrArg (Option.map fun r => (r.1, (⟨s, r.2⟩ : MSt))) k1
theorem ids_lt0 {h : MHeap} : ∀ (f : Nat) (v : MV), v.lt 0 = true → MV.ids h f v = []
  | 0, v, _ => rfl
  | f + 1, v, hv => by
    have key : ∀ cs : List MV, ltL 0 cs = true → cs.flatMap (MV.ids h f) = [] := fun cs hc => by
      rw [List.flatMap_eq_nil_iff]
      intro c hcm
      exact ids_lt0 f c (ltL_iff'.1 hc c hcm)
    cases v <;> simp only [MV.ids, MV.lt] at hv ⊢
    case agg cs => exact key cs hv
    case tup cs => exact key cs hv
    case sl cs => exact key cs hv
    case fn _ _ cs => exact key cs hv
    case rp e _ => exact ids_lt0 f e hv
    all_goals simp at hv
theorem idsL_lt0 {h : MHeap} {f : Nat} {vs : List MV} (hv : ltL 0 vs = true) : vs.flatMap (MV.ids h f) = [] := by
  rw [List.flatMap_eq_nil_iff]
  intro c hcm
  exact ids_lt0 f c (ltL_iff'.1 hv c hcm)
end
end Go.Proofs.Ytgjpdjihjphbdaa

/- Further rules of evaluation with open values: cases on what is undecided, loops with slots that stay. -/
namespace Go.Proofs.Ytgjpdjihjphbdaa
open Go.RowKit
set_option linter.unusedVariables false

section
variable {O : Oracle} {I : Iter} {N n : Nat} {lk : Nat → Bool} {A : Sl} {h : MHeap} {Q : MX2 → Sl → MHeap → Prop} {t : Nat} {os : List GO}
/-- A loop: hd tells the slots that change, fx those that stay. -/
theorem ef_loopf {α : Type} {keep : List Nat} {b : MC} (Inv : α → Prop) (hd : α → Sl) (fx : Sl) (hp : α → MHeap) (ms : α → Nat) (a0 : α) (ks : List Nat) (hks : ∀ a, (hd a).map (·.1) = ks) (hA : Hold A (hd a0)) (hF : Hold A fx) (hk : (ks ++ fx.map (·.1)).all (fun t => keep.contains t) = true) (hH : hp a0 = h) (h0 : Inv a0) (hN : ms a0 < N)
    (hb : ∀ a, Inv a → Ef O I N n lk b (hd a ++ fx) (hp a) (loopQ (fun A' h' => ∃ a', Inv a' ∧ ms a' < ms a ∧ (Hold A' (hd a') ∧ Hold A' fx) ∧ headH keep h.length A' h' ∧ h'.take h.length = hp a') Q)) : Ef O I N n lk (.loop keep b) A h Q := by
  have happ : ∀ (A : Sl) (X Y : Sl), Hold A X → Hold A Y → Hold A (X ++ Y) := fun A X Y h1 h2 p hp => by
    rcases List.mem_append.1 hp with hp | hp
    · exact h1 p hp
    · exact h2 p hp
  refine ef_loop Inv (fun a => hd a ++ fx) hp ms a0 (ks ++ fx.map (·.1)) (fun a => by rw [List.map_append, hks a]) hk h0 hN (happ _ _ _ hA hF) hH fun a ha => ?_
  refine (hb a ha).mono fun x A1 h1 hq => ?_
  cases hq with
  | normal _ _ hq =>
    obtain ⟨a', j1, j2, ⟨j3, j4⟩, j5, j6⟩ := hq
    exact .normal _ _ ⟨a', j1, j2, happ _ _ _ j3 j4, j5, j6⟩
  | ret _ _ hq => exact .ret _ _ hq
  | exit id _ _ hq => exact .exit id _ _ hq
end
section
variable {O : Oracle} {N n : Nat} {A : Sl} {h : MHeap} {ln : Nat} {xs : List (List MV)} {stop : Bool} {Q : QI}
end
theorem takeF {l r : MHeap} {n : Nat} (hl : n = l.length) (h : l = r) : l.take n = r := by subst hl h; exact List.take_length
end Go.Proofs.Ytgjpdjihjphbdaa

namespace Go.Proofs.Ytgjpdjihjphbdaa
open Go.RowKit
theorem fin_cells0 {x : MX2} {A : Sl} {h : MHeap} {t u it iu : Nat} {ot ou : MObj} {v w : Value} {r1 r2 : List MV} {m : MV} (hx : outX x = true) (ht : look A t = some (.ptr it 0 0 0)) (hot : h[it]? = some ot) (h1 : ot.g = 0) (h2 : ot.es = .lit w :: r1) (hu : look A u = some (.ptr iu 0 0 0)) (hou : h[iu]? = some ou) (h3 : ou.g = 0) (h4 : ou.es = .lit v :: r2) (hm : MV.tup [.lit w, .lit v] = m) :
    FinF [.cell t none, .cell u none] m [] x A h := by
  subst hm
  refine ⟨hx, [.lit w, .lit v], [.lit w, .lit v], ⟨_, _, rfl, ⟨it, 0, 0, 0, ot, _, ht, hot, h1, by rw [h2]; rfl, rfl⟩, _, [], rfl, ⟨iu, 0, 0, 0, ou, _, hu, hou, h3, by rw [h4]; rfl, rfl⟩, rfl⟩, ?_, ?_, rfl⟩
  · simp [impIds]
  · simp [impIds, expL, frz, MV.lt]
end Go.Proofs.Ytgjpdjihjphbdaa

/- The plain law of strips: sweeps, infills, packings (no program). -/
namespace Go.Proofs.Ytgjpdjihjphbdaa

structure Stp where
  fr : Int
  up : Int
  gap : Int
  fl : List Int
  lo : List Int
end Go.Proofs.Ytgjpdjihjphbdaa

/- The plain law of strips: as many windows as lines (no program). -/
namespace Go.Proofs.Ytgjpdjihjphbdaa

end Go.Proofs.Ytgjpdjihjphbdaa

/- Contracts of the program: words of strips; windows. -/
namespace Go.Proofs.Ytgjpdjihjphbdaa
open Go.RowKit

theorem frz_lt {h : MHeap} {m : MV} (hl : m.lt 0 = true) : frz 0 [] h 8 m = some m := by simp [frz, hl]
theorem frzL_lt {h : MHeap} : ∀ {ms : List MV}, ltL 0 ms = true → ms.mapM (frz 0 [] h 8) = some ms
  | [], _ => rfl
  | m :: ms, hl => by
    simp only [ltL, Bool.and_eq_true] at hl
    rw [List.mapM_cons, frz_lt hl.1, frzL_lt hl.2]; rfl
/-- A result that speaks of no memory when it is handed back. -/
theorem fin_frz {x : MX2} {A : Sl} {h : MHeap} {t : Nat} {v v' : MV} (hx : outX x = true) (hv : look A t = some v) (hi : impIds 0 [v] = []) (hn : ∀ id i k g, v ≠ .arr id i k g) (hf : frz 0 [] h 8 v = some v') : FinF [.tmp t] v' [] x A h := by
  refine ⟨hx, [v], [v'], ⟨v, [], rfl, hv, rfl⟩, by rw [hi]; simp, ?_, rfl⟩
  rw [hi]
  cases v with
  | arr id i k g => exact absurd rfl (hn id i k g)
  | _ => simp [expL, hf]
/-- A row of integers that is read only: with elements, or the nil slice. -/
inductive SlI : MV → List Int → Prop
  | sl (l : List Int) : SlI (.sl (l.map I64)) l
  | nil : SlI (.lit (.slice none 0 0)) []
theorem SlI.lt {v : MV} {l : List Int} (h : SlI v l) : v.lt 0 = true := by
  cases h with
  | sl l => simp [MV.lt, ltL_I]
  | nil => rfl
theorem SlI.frz {v : MV} {l : List Int} (h : SlI v l) (H : MHeap) : Go.Proofs.Ytgjpdjihjphbdaa.frz 0 [] H 8 v = some v := frz_lt h.lt
theorem SlI.slen {v : MV} {l : List Int} (h : SlI v l) : v.slen = some l.length := by
  cases h with
  | sl l => simp [MV.slen]
  | nil => rfl
theorem SlI.pos {v : MV} {l : List Int} (h : SlI v l) (hp : 0 < l.length) : v = .sl (l.map I64) := by
  cases h with
  | sl l => rfl
  | nil => simp at hp
theorem SlI.cell {v : MV} {l : List Int} (h : SlI v l) : rdCells v.cells 0 none = some v := by cases h <;> rfl
end Go.Proofs.Ytgjpdjihjphbdaa

/- Calls that hand back plain values. -/
namespace Go.Proofs.Ytgjpdjihjphbdaa
open Go.RowKit
set_option linter.unusedVariables false

/-- A value that speaks of no memory at all. -/
def MV.pl (m : MV) : Bool := m.lt 0 && m.pure
theorem pl_sh1 {n : Nat} {m : MV} (h : m.lt 0 = true) : sh1 n m = m := by
  cases m <;> first | rfl | (simp [MV.lt] at h)
theorem pl_ok1 {p : Bool} {m : MV} (h : m.pl = true) : ok1 p m = true := by
  simp only [MV.pl, Bool.and_eq_true] at h
  cases m <;> simp_all [ok1]
theorem callP {k f : Nat} {args args' : List MV} {h : MHeap} {ms : List MV} (h1 : args.mapM (frz 0 [] h 8) = some args') (hT : tA f args' [] = none) (h2 : runZ MT (orA k) (itA k) 4000000 f args' [] = some (.tup ms, [])) (hp : ms.all MV.pl = true) : orA (k + 1) f args h = some (.tup ms, h) := by
  have hp' := List.all_eq_true.1 hp
  have := callA h1 hT h2 (by simp only [okV]; exact List.all_eq_true.2 fun m hm => pl_ok1 (hp' m hm)) rfl
  rw [this]
  simp only [shV, List.append_nil]
  rw [show ms.map (sh1 h.length) = ms from by
    rw [List.map_congr_left (g := id) fun m hm => ?_, List.map_id]
    have := hp' m hm
    simp only [MV.pl, Bool.and_eq_true] at this
    exact pl_sh1 this.1]
theorem callG {k f : Nat} {args args' : List MV} {h : MHeap} {cs : List MV} (h1 : args.mapM (frz 0 [] h 8) = some args') (hT : tA f args' [] = none) (h2 : runZ MT (orA k) (itA k) 4000000 f args' [] = some (.agg cs, [])) (hp : (MV.agg cs).pl = true) : orA (k + 1) f args h = some (.agg cs, h) := by
  have := callA h1 hT h2 (by simp only [okV]; exact pl_ok1 hp) rfl
  rw [this]
  simp [shV, sh1]
theorem impR_lt0 : ∀ {v w : MV}, v.lt 0 = true → w.lt 0 = true → impIds 0 [v, w] = [] := fun {v w} h1 h2 => by
  cases v <;> first | (simp [MV.lt] at h1; done) | (cases w <;> first | (simp [MV.lt] at h2; done) | simp [impIds])
theorem finR2 {x : MX2} {A : Sl} {h : MHeap} {r1 r2 : MRes} {v w m : MV} (hx : outX x = true) (h1 : ResV A h r1 v) (h2 : ResV A h r2 w) (l1 : v.lt 0 = true) (l2 : w.lt 0 = true) (hm : MV.tup [v, w] = m) : FinF [r1, r2] m [] x A h := by
  subst hm
  have hi := impR_lt0 l1 l2
  refine ⟨hx, [v, w], [v, w], ⟨v, [w], rfl, h1, w, [], rfl, h2, rfl⟩, by rw [hi]; simp, ?_, rfl⟩
  rw [hi]
  cases v <;> first | (simp [MV.lt] at l1; done) | (cases w <;> first | (simp [MV.lt] at l2; done) | simp [expL, frz, l1, l2])
theorem finR1 {x : MX2} {A : Sl} {h : MHeap} {r1 : MRes} {v m : MV} (hx : outX x = true) (h1 : ResV A h r1 v) (l1 : v.lt 0 = true) (hm : v = m) : FinF [r1] m [] x A h := by
  subst hm
  have hi : impIds 0 [v] = [] := by cases v <;> first | (simp [MV.lt] at l1; done) | simp [impIds]
  refine ⟨hx, [v], [v], ⟨v, [], rfl, h1, rfl⟩, by rw [hi]; simp, ?_, rfl⟩
  rw [hi]
  cases v <;> first | (simp [MV.lt] at l1; done) | simp [expL, frz, l1]
theorem resC {A : Sl} {h : MHeap} {t id i off g : Nat} {ag : Option Nat} {o : MObj} {e v : MV} (h1 : look A t = some (.ptr id i off g)) (h2 : h[id]? = some o) (h3 : o.g = g) (h4 : o.es[i]? = some e) (h5 : rdCells e.cells off ag = some v) : ResV A h (.cell t ag) v := ⟨id, i, off, g, o, e, h1, h2, h3, h4, h5⟩
end Go.Proofs.Ytgjpdjihjphbdaa

/- Fractions in lowest terms, comparisons (no program). -/
namespace Go.Proofs.Ytgjpdjihjphbdaa
open Go.RowKit
set_option linter.unusedVariables false

/-- A fraction in lowest terms with a denominator above 0. -/
def lowG (n d : Int) : Int := if d < 0 then -(Int.gcd n d : Int) else (Int.gcd n d : Int)
def lowF (n d : Int) : Int × Int := (n.tdiv (lowG n d), d.tdiv (lowG n d))
theorem lowG_ok {n d : Int} (hd : d ≠ 0) : lowG n d ≠ 0 ∧ lowG n d ∣ n ∧ lowG n d ∣ d ∧ (0 < d → 0 < lowG n d) ∧ (d < 0 → lowG n d < 0) := by
  have h0 : (Int.gcd n d : Int) ≠ 0 := by
    intro h
    have : Int.gcd n d = 0 := by omega
    rw [Int.gcd_eq_zero_iff] at this
    exact hd this.2
  have h1 : (Int.gcd n d : Int) ∣ n := Int.gcd_dvd_left ..
  have h2 : (Int.gcd n d : Int) ∣ d := Int.gcd_dvd_right ..
  unfold lowG
  split
  · exact ⟨by omega, Int.neg_dvd.2 h1, Int.neg_dvd.2 h2, by omega, by omega⟩
  · exact ⟨by omega, h1, h2, by omega, by omega⟩
theorem lowF_ok {n d : Int} (hd : d ≠ 0) : n = lowG n d * (lowF n d).1 ∧ d = lowG n d * (lowF n d).2 ∧ 0 < (lowF n d).2 := by
  obtain ⟨h0, h1, h2, h3, h4⟩ := lowG_ok (n := n) hd
  have e1 : n = lowG n d * (lowF n d).1 := (Int.mul_tdiv_cancel' h1).symm
  have e2 : d = lowG n d * (lowF n d).2 := (Int.mul_tdiv_cancel' h2).symm
  refine ⟨e1, e2, ?_⟩
  by_cases hp : 0 < d
  · have hg := h3 hp
    rw [e2] at hp
    rcases Int.lt_trichotomy 0 (lowF n d).2 with h | h | h
    · exact h
    · rw [← h] at hp; omega
    · have := Int.mul_neg_of_pos_of_neg hg h
      omega
  · have hn : d < 0 := by omega
    have hg := h4 hn
    rcases Int.lt_trichotomy 0 (lowF n d).2 with h | h | h
    · exact h
    · rw [← h] at e2; omega
    · have := Int.mul_pos_of_neg_of_neg hg h
      omega
theorem tdiv_bd (n g : Int) : (n.tdiv g).natAbs ≤ n.natAbs := by
  rw [Int.natAbs_tdiv]; exact Nat.div_le_self ..
def cmpI (x y : Int) : Int := if x < y then -1 else if y < x then 1 else 0
theorem cmpI_pos {x y : Int} : 0 < cmpI x y ↔ y < x := by
  unfold cmpI
  split
  · omega
  · split <;> omega

theorem gcd_step (a b : Int) (hb : b ≠ 0) : Int.gcd b (a.tmod b) = Int.gcd a b := by
  have h : (a.tmod b).natAbs = a.natAbs % b.natAbs := Int.natAbs_tmod a b
  unfold Int.gcd
  rw [h, Nat.gcd_comm a.natAbs, Nat.gcd_rec b.natAbs a.natAbs, Nat.gcd_comm]
/-- Both parts of a fraction in lowest terms are no larger. -/
theorem lowF_bd (n d : Int) : (lowF n d).1.natAbs ≤ n.natAbs ∧ (lowF n d).2.natAbs ≤ d.natAbs := ⟨tdiv_bd n _, tdiv_bd d _⟩
/-- The rounds of Euclid's loop. -/
def eu (a b : Nat) : Nat := if h : b = 0 then 0 else 1 + eu b (a % b)
termination_by b
decreasing_by exact Nat.mod_lt _ (by omega)
theorem eu_le : ∀ (n a b : Nat), b < 2 ^ n → eu a b ≤ 2 * n
  | 0, a, b, h => by
    have : b = 0 := by simpa using h
    subst this
    rw [eu]; simp
  | n + 1, a, b, h => by
    rw [eu]
    split
    · omega
    · rename_i hb
      rw [eu]
      split
      · omega
      · rename_i hr
        have h1 : a % b < b := Nat.mod_lt _ (by omega)
        have h2 : b % (a % b) < a % b := Nat.mod_lt _ (by omega)
        have h3 : a % b + b % (a % b) ≤ b := by
          have h4 := Nat.div_add_mod b (a % b)
          have hq : 1 ≤ b / (a % b) := Nat.div_pos (by omega) (by omega)
          have h5 : (a % b) * 1 ≤ (a % b) * (b / (a % b)) := Nat.mul_le_mul_left _ hq
          omega
        have := eu_le n (a % b) (b % (a % b)) (by rw [Nat.pow_succ] at h; omega)
        omega
theorem eu_step {x y : Int} (hy : y ≠ 0) : eu y.natAbs (x.tmod y).natAbs < eu x.natAbs y.natAbs := by
  have e : eu x.natAbs y.natAbs = 1 + eu y.natAbs (x.natAbs % y.natAbs) := by
    conv => lhs; rw [eu]
    rw [dif_neg (by omega)]
  rw [e, Int.natAbs_tmod]; omega
theorem eu_int (x y : Int) (h1 : -9223372036854775807 ≤ y) (h2 : y ≤ 9223372036854775807) : eu x.natAbs y.natAbs < 4000000 := by
  have := eu_le 63 x.natAbs y.natAbs (by omega)
  omega
end Go.Proofs.Ytgjpdjihjphbdaa

/- Polygons, plain laws: fractions in lowest terms, crossings to the right, inside. -/
namespace Go.Proofs.Ytgjpdjihjphbdaa
open Go.RowKit
set_option linter.unusedVariables false

/-- The side crosses the height of a position to its right. -/
def rightS (s t x : Pt) : Bool := crossS s t x.2 && decide (x.1 * atD s t < atN s t x.2)
def atNr (s t : Pt) (y : Int) : Int := s.1 * (t.2 - s.2) + (t.1 - s.1) * (y - s.2)
theorem cross_ne {s t : Pt} {y : Int} (h : crossS s t y = true) : t.2 - s.2 ≠ 0 := by
  unfold crossS at h
  intro e
  rw [show t.2 = s.2 by omega] at h
  simp at h
theorem right_ref {s t x : Pt} (h : crossS s t x.2 = true) : decide (0 < cmpI ((lowF (atNr s t x.2) (t.2 - s.2)).1 * 1) (x.1 * (lowF (atNr s t x.2) (t.2 - s.2)).2)) = decide (x.1 * atD s t < atN s t x.2) := by
  have hd := cross_ne h
  rw [decide_eq_decide, cmpI_pos]
  obtain ⟨e1, e2, e3⟩ := lowF_ok (n := atNr s t x.2) hd
  obtain ⟨g0, _, _, g1, g2⟩ := lowG_ok (n := atNr s t x.2) hd
  have hN : s.1 * (t.2 - s.2) + (x.2 - s.2) * (t.1 - s.1) = atNr s t x.2 := by unfold atNr; rw [Int.mul_comm (x.2 - s.2)]
  generalize lowF (atNr s t x.2) (t.2 - s.2) = f at *
  generalize lowG (atNr s t x.2) (t.2 - s.2) = g at *
  obtain ⟨p, q⟩ := f
  simp only at *
  rw [Int.mul_one]
  by_cases hn : t.2 - s.2 < 0
  · have hg := g2 hn
    have ha : atN s t x.2 = -(g * p) := by unfold atN; rw [if_pos hn, hN, ← e1]
    have hb : atD s t = -(g * q) := by unfold atD; rw [if_pos hn, ← e2]
    rw [ha, hb, show x.1 * -(g * q) = (-g) * (x.1 * q) by rw [Int.mul_neg, Int.neg_mul, Int.mul_left_comm], show -(g * p) = (-g) * p by rw [Int.neg_mul]]
    exact (Int.mul_lt_mul_left (by omega)).symm
  · have hg := g1 (by omega)
    have ha : atN s t x.2 = g * p := by unfold atN; rw [if_neg hn, hN, ← e1]
    have hb : atD s t = g * q := by unfold atD; rw [if_neg hn, ← e2]
    rw [ha, hb, Int.mul_left_comm]
    exact (Int.mul_lt_mul_left hg).symm

/-- How many of the first i sides cross to the right; whether one of them has the position. -/
def cntR (cs : List Pt) (x : Pt) : Nat → Nat
  | 0 => 0
  | i + 1 => cntR cs x i + if rightS (corner cs i) (nextC cs i) x then 1 else 0
def onAny (cs : List Pt) (x : Pt) : Nat → Bool
  | 0 => false
  | i + 1 => onAny cs x i || onS (corner cs i) (nextC cs i) x
def insI (cs : List Pt) (x : Pt) : Int := if onAny cs x cs.length then 1 else if cntR cs x cs.length % 2 = 1 then 2 else 0
theorem onAny_le {cs : List Pt} {x : Pt} {i : Nat} : ∀ {n : Nat}, i ≤ n → onAny cs x i = true → onAny cs x n = true
  | 0, h, ho => by rw [show i = 0 by omega] at ho; exact ho
  | n + 1, h, ho => by
    by_cases e : i = n + 1
    · rw [← e]; exact ho
    · rw [onAny, onAny_le (n := n) (by omega) ho, Bool.true_or]
theorem ins_on {cs : List Pt} {x : Pt} {i : Nat} (hi : i < cs.length) (h : onS (corner cs i) (nextC cs i) x = true) : insI cs x = 1 := by
  have : onAny cs x cs.length = true := onAny_le (i := i + 1) hi (by rw [onAny, h, Bool.or_true])
  unfold insI; rw [this]; rfl
/-- The answer while the sides are gone through. -/
def ansI (n : Nat) : Int := if n % 2 = 1 then 2 else 0
theorem ans_step (n : Nat) : 2 - ansI n = ansI (n + 1) := by unfold ansI; split <;> split <;> omega
theorem ins_end {cs : List Pt} {x : Pt} (h : onAny cs x cs.length = false) : insI cs x = ansI (cntR cs x cs.length) := by
  unfold insI; rw [h]; rfl
end Go.Proofs.Ytgjpdjihjphbdaa

/- Contracts of polygons: positions, turns, sides. -/
namespace Go.Proofs.Ytgjpdjihjphbdaa
open Go.RowKit
set_option linter.unusedVariables false

abbrev encPt (p : Pt) : MV := .agg [I64 p.1, I64 p.2]
abbrev encSd (s t : Pt) : MV := .agg [I64 s.1, I64 s.2, I64 t.1, I64 t.2]
def sgn (v : Int) : Int := if v > 0 then 1 else if v < 0 then -1 else 0
theorem crs_bd {s t x : Pt} (hs : InP s) (ht : InP t) (hx : InP x) : (-1000000 ≤ (t.1 - s.1) * (x.2 - s.2) ∧ (t.1 - s.1) * (x.2 - s.2) ≤ 1000000) ∧ (-1000000 ≤ (t.2 - s.2) * (x.1 - s.1) ∧ (t.2 - s.2) * (x.1 - s.1) ≤ 1000000) := by
  obtain ⟨p1, p2, p3, p4⟩ := hs
  obtain ⟨p5, p6, p7, p8⟩ := ht
  obtain ⟨q1, q2, q3, q4⟩ := hx
  have m1 := mul_bd (a := t.1 - s.1) (b := x.2 - s.2) (A := 1000) (B := 1000) (by omega) (by omega) (by omega) (by omega)
  have m2 := mul_bd (a := t.2 - s.2) (b := x.1 - s.1) (A := 1000) (B := 1000) (by omega) (by omega) (by omega) (by omega)
  omega
theorem mf_rturn : MT.mf 151 = some ⟨35, [(.tmp 6)], (.seq (.reg [⟨none, (some 3), (.box 2 (.s 0))⟩, ⟨none, (some 4), (.box 2 (.s 1))⟩, ⟨none, (some 5), (.box 2 (.s 2))⟩, ⟨none, (some 6), (.mv (.c (.lit (.int .i64 0))))⟩]) (.seq (.reg [⟨none, (some 8), (.fa 0 (.s 4))⟩, ⟨none, (some 9), (.ld none (.s 8))⟩, ⟨none, (some 10), (.fa 0 (.s 3))⟩, ⟨none, (some 11), (.ld none (.s 10))⟩, ⟨none, (some 12), (.bin .sub (.s 9) (.s 11))⟩, ⟨none, (some 13), (.fa 1 (.s 5))⟩, ⟨none, (some 14), (.ld none (.s 13))⟩, ⟨none, (some 15), (.fa 1 (.s 3))⟩, ⟨none, (some 16), (.ld none (.s 15))⟩, ⟨none, (some 17), (.bin .sub (.s 14) (.s 16))⟩, ⟨none, (some 18), (.bin .mul (.s 12) (.s 17))⟩, ⟨none, (some 19), (.fa 1 (.s 4))⟩, ⟨none, (some 20), (.ld none (.s 19))⟩, ⟨none, (some 21), (.fa 1 (.s 3))⟩, ⟨none, (some 22), (.ld none (.s 21))⟩, ⟨none, (some 23), (.bin .sub (.s 20) (.s 22))⟩, ⟨none, (some 24), (.fa 0 (.s 5))⟩, ⟨none, (some 25), (.ld none (.s 24))⟩, ⟨none, (some 26), (.fa 0 (.s 3))⟩, ⟨none, (some 27), (.ld none (.s 26))⟩, ⟨none, (some 28), (.bin .sub (.s 25) (.s 27))⟩, ⟨none, (some 29), (.bin .mul (.s 23) (.s 28))⟩, ⟨none, (some 30), (.bin .sub (.s 18) (.s 29))⟩, ⟨none, (some 7), (.mv (.s 30))⟩]) (.seq (.seq (.reg [⟨none, (some 31), (.mv (.s 7))⟩, ⟨none, (some 32), (.bin .gtr (.s 31) (.c (.lit (.int .i64 0))))⟩]) (.cond (.s 32) (.seq (.reg [⟨none, (some 6), (.mv (.c (.lit (.int .i64 1))))⟩]) .ret) .skip)) (.seq (.seq (.reg [⟨none, (some 33), (.mv (.s 7))⟩, ⟨none, (some 34), (.bin .lss (.s 33) (.c (.lit (.int .i64 0))))⟩]) (.cond (.s 34) (.seq (.reg [⟨none, (some 6), (.mv (.c (.lit (.int .i64 (-1)))))⟩]) .ret) .skip)) (.seq (.reg [⟨none, (some 6), (.mv (.c (.lit (.int .i64 0))))⟩]) .ret)))))⟩ := by kernel_rfl
theorem rturn_c (k : Nat) (s t x : Pt) (hs : InP s) (ht : InP t) (hx : InP x) (h : MHeap) {v : Int} (hv : sgn (crs s t x) = v) : orA (k + 1) 151 [encPt s, encPt t, encPt x] h = some (I64 v, h) := by
  refine callL (args' := [encPt s, encPt t, encPt x]) (frzL_lt (by simp [ltL, MV.lt])) rfl (runZ_of mf_rturn (by simp) ?_)
  obtain ⟨⟨a1, a2⟩, a3, a4⟩ := crs_bd hs ht hx
  have hc : crs s t x = (t.1 - s.1) * (x.2 - s.2) - (t.2 - s.2) * (x.1 - s.1) := by unfold crs; rw [Int.mul_comm (x.1 - s.1)]
  obtain ⟨a, b⟩ := s
  obtain ⟨c, d⟩ := t
  obtain ⟨e, f⟩ := x
  obtain ⟨p1, p2, p3, p4⟩ := hs
  obtain ⟨p5, p6, p7, p8⟩ := ht
  obtain ⟨q1, q2, q3, q4⟩ := hx
  simp only [argsL] at *
  generalize hP : (c - a) * (f - b) = P at *
  generalize hQ : (d - b) * (e - a) = Q at *
  have w1 : IntKind.i64.wrap ((c - a) * (f - b)) = P := by rw [hP]; exact wrap_of (by omega) (by omega)
  have w2 : IntKind.i64.wrap ((d - b) * (e - a)) = Q := by rw [hQ]; exact wrap_of (by omega) (by omega)
  subst hv
  rw [hc]
  by_cases h1 : P - Q > 0
  · repeat (first | apply ef_seq | (apply ef_mv; exact rfl; exact rfl) | (apply ef_bin; exact rfl; exact rfl; exact rfl; (first | exact cmp_t rfl (by first | exact rfl | (simp only [cmpP]; omega)) | exact cmp_f rfl (by simp only [cmpP]; omega) | ((with_reducible refine bin_sub (wrap_of ?_ ?_)) <;> omega) | ((with_reducible refine bin_mul (wrap_of ?_ ?_)) <;> omega) | with_reducible exact bin_sub (by assumption) | with_reducible exact bin_mul (by assumption) | exact rfl)) | (apply ef_ldr; exact rfl; exact rfl; (first | exact rfl)) | (apply ef_ldp; exact rfl; exact rfl; exact rfl; exact rfl; (first | exact rfl | assumption); (first | exact rfl)) | (apply ef_fap; exact rfl; exact rfl) | (apply ef_far; exact rfl; exact rfl) | (apply ef_box; exact rfl; exact rfl; exact rfl; exact rfl) | apply ef_nil | apply seqQ.normal | apply ef_ret | apply seqQ.ret | apply ef_skip | (apply ef_condt; exact rfl; (first | exact (rfl : true = true) | assumption | exact decide_eq_true (by omega))) | (apply ef_condf; exact rfl; (first | exact (rfl : false = false) | assumption | exact decide_eq_false (by omega))))
    (refine fin1 rfl (by exact rfl) rfl ?_)
    rw [show sgn (P - Q) = 1 by unfold sgn; rw [if_pos h1]]
  · by_cases h2 : P - Q < 0
    · repeat (first | apply ef_seq | (apply ef_mv; exact rfl; exact rfl) | (apply ef_bin; exact rfl; exact rfl; exact rfl; (first | exact cmp_t rfl (by first | exact rfl | (simp only [cmpP]; omega)) | exact cmp_f rfl (by simp only [cmpP]; omega) | ((with_reducible refine bin_sub (wrap_of ?_ ?_)) <;> omega) | ((with_reducible refine bin_mul (wrap_of ?_ ?_)) <;> omega) | with_reducible exact bin_sub (by assumption) | with_reducible exact bin_mul (by assumption) | exact rfl)) | (apply ef_ldr; exact rfl; exact rfl; (first | exact rfl)) | (apply ef_ldp; exact rfl; exact rfl; exact rfl; exact rfl; (first | exact rfl | assumption); (first | exact rfl)) | (apply ef_fap; exact rfl; exact rfl) | (apply ef_far; exact rfl; exact rfl) | (apply ef_box; exact rfl; exact rfl; exact rfl; exact rfl) | apply ef_nil | apply seqQ.normal | apply ef_ret | apply seqQ.ret | apply ef_skip | (apply ef_condt; exact rfl; (first | exact (rfl : true = true) | assumption | exact decide_eq_true (by omega))) | (apply ef_condf; exact rfl; (first | exact (rfl : false = false) | assumption | exact decide_eq_false (by omega))))
      (refine fin1 rfl (by exact rfl) rfl ?_)
      rw [show sgn (P - Q) = -1 by unfold sgn; rw [if_neg h1, if_pos h2]]
    · repeat (first | apply ef_seq | (apply ef_mv; exact rfl; exact rfl) | (apply ef_bin; exact rfl; exact rfl; exact rfl; (first | exact cmp_t rfl (by first | exact rfl | (simp only [cmpP]; omega)) | exact cmp_f rfl (by simp only [cmpP]; omega) | ((with_reducible refine bin_sub (wrap_of ?_ ?_)) <;> omega) | ((with_reducible refine bin_mul (wrap_of ?_ ?_)) <;> omega) | with_reducible exact bin_sub (by assumption) | with_reducible exact bin_mul (by assumption) | exact rfl)) | (apply ef_ldr; exact rfl; exact rfl; (first | exact rfl)) | (apply ef_ldp; exact rfl; exact rfl; exact rfl; exact rfl; (first | exact rfl | assumption); (first | exact rfl)) | (apply ef_fap; exact rfl; exact rfl) | (apply ef_far; exact rfl; exact rfl) | (apply ef_box; exact rfl; exact rfl; exact rfl; exact rfl) | apply ef_nil | apply seqQ.normal | apply ef_ret | apply seqQ.ret | apply ef_skip | (apply ef_condt; exact rfl; (first | exact (rfl : true = true) | assumption | exact decide_eq_true (by omega))) | (apply ef_condf; exact rfl; (first | exact (rfl : false = false) | assumption | exact decide_eq_false (by omega))))
      (refine fin1 rfl (by exact rfl) rfl ?_)
      rw [show sgn (P - Q) = 0 by unfold sgn; rw [if_neg h1, if_neg h2]]
theorem sgn_zero {v : Int} : sgn v = 0 ↔ v = 0 := by
  unfold sgn
  split
  · omega
  · split <;> omega
theorem sgn_opp {a b : Int} : decide (sgn a * sgn b < 0) = opp a b := by
  unfold opp
  rw [decide_eq_decide]
  unfold sgn
  by_cases h1 : a > 0
  · rw [if_pos h1]
    by_cases h2 : b > 0
    · rw [if_pos h2]; omega
    · rw [if_neg h2]; split <;> omega
  · rw [if_neg h1]
    by_cases h3 : a < 0
    · rw [if_pos h3]
      by_cases h2 : b > 0
      · rw [if_pos h2]; omega
      · rw [if_neg h2]; split <;> omega
    · rw [if_neg h3]; omega
theorem mf_bSizeP : MT.mf 88 = some ⟨7, [(.tmp 2)], (.seq (.reg [⟨none, (some 2), (.mv (.c (.lit (.int .i64 0))))⟩]) (.seq (.reg [⟨none, (some 3), (.mv (.s 0))⟩, ⟨none, (some 4), (.mv (.s 0))⟩, ⟨none, (some 5), (.un .neg (.s 4))⟩, ⟨none, (some 6), (.mx (.s 3) (.s 5))⟩, ⟨none, (some 2), (.mv (.s 6))⟩]) .ret))⟩ := by kernel_rfl
theorem bSizeP_c (k : Nat) (a : Int) (h : MHeap) (h1 : -9223372036854775807 ≤ a) (h2 : a ≤ 9223372036854775807) : orA (k + 1) 88 [I64 a] h = some (I64 (mx a (0 - a)), h) := by
  refine callL (frz_lits [.int .i64 a]) rfl (runZ_of mf_bSizeP (by simp) ?_)
  simp only [argsL, List.map_cons, List.map_nil]
  repeat (first | apply ef_seq | (apply ef_mv; exact rfl; exact rfl) | (apply ef_neg; exact rfl; exact rfl; exact wrap_of (by omega) (by omega)) | (apply ef_mx; exact rfl; exact rfl; exact rfl) | apply ef_nil | apply seqQ.normal | apply ef_ret | apply seqQ.ret)
  (refine fin1 rfl (by exact rfl) rfl ?_)
  rfl
theorem mf_rOn : MT.mf 105 = some ⟨42, [(.tmp 6)], (.seq (.reg [⟨none, (some 3), (.box 2 (.s 0))⟩, ⟨none, (some 4), (.box 2 (.s 1))⟩, ⟨none, (some 5), (.box 2 (.s 2))⟩, ⟨none, (some 6), (.mv (.c (.lit (.bool false))))⟩]) (.seq (.reg [⟨none, (some 7), (.ld (some 2) (.s 3))⟩, ⟨none, (some 8), (.ld (some 2) (.s 4))⟩, ⟨none, (some 9), (.ld (some 2) (.s 5))⟩, ⟨none, (some 10), (.call 151 [(.s 7), (.s 8), (.s 9)])⟩, ⟨none, (some 11), (.bin .eql (.s 10) (.c (.lit (.int .i64 0))))⟩, ⟨none, (some 12), (.mv (.s 11))⟩, ⟨(some (12, true)), (some 13), (.fa 0 (.s 5))⟩, ⟨(some (12, true)), (some 14), (.ld none (.s 13))⟩, ⟨(some (12, true)), (some 15), (.fa 0 (.s 3))⟩, ⟨(some (12, true)), (some 16), (.ld none (.s 15))⟩, ⟨(some (12, true)), (some 17), (.fa 0 (.s 4))⟩, ⟨(some (12, true)), (some 18), (.ld none (.s 17))⟩, ⟨(some (12, true)), (some 19), (.mn (.s 16) (.s 18))⟩, ⟨(some (12, true)), (some 20), (.fa 0 (.s 3))⟩, ⟨(some (12, true)), (some 21), (.ld none (.s 20))⟩, ⟨(some (12, true)), (some 22), (.fa 0 (.s 4))⟩, ⟨(some (12, true)), (some 23), (.ld none (.s 22))⟩, ⟨(some (12, true)), (some 24), (.mx (.s 21) (.s 23))⟩, ⟨(some (12, true)), (some 25), (.call 22 [(.s 14), (.s 19), (.s 24)])⟩, ⟨none, (some 26), (.pick (.s 12) (.s 25) (.c (.lit (.bool false))))⟩, ⟨none, (some 27), (.mv (.s 26))⟩, ⟨(some (27, true)), (some 28), (.fa 1 (.s 5))⟩, ⟨(some (27, true)), (some 29), (.ld none (.s 28))⟩, ⟨(some (27, true)), (some 30), (.fa 1 (.s 3))⟩, ⟨(some (27, true)), (some 31), (.ld none (.s 30))⟩, ⟨(some (27, true)), (some 32), (.fa 1 (.s 4))⟩, ⟨(some (27, true)), (some 33), (.ld none (.s 32))⟩, ⟨(some (27, true)), (some 34), (.mn (.s 31) (.s 33))⟩, ⟨(some (27, true)), (some 35), (.fa 1 (.s 3))⟩, ⟨(some (27, true)), (some 36), (.ld none (.s 35))⟩, ⟨(some (27, true)), (some 37), (.fa 1 (.s 4))⟩, ⟨(some (27, true)), (some 38), (.ld none (.s 37))⟩, ⟨(some (27, true)), (some 39), (.mx (.s 36) (.s 38))⟩, ⟨(some (27, true)), (some 40), (.call 22 [(.s 29), (.s 34), (.s 39)])⟩, ⟨none, (some 41), (.pick (.s 27) (.s 40) (.c (.lit (.bool false))))⟩, ⟨none, (some 6), (.mv (.s 41))⟩]) .ret))⟩ := by kernel_rfl
theorem rOn_c (k : Nat) (s t x : Pt) (hs : InP s) (ht : InP t) (hx : InP x) (h : MHeap) {b : Bool} (hb : onS s t x = b) : orA (k + 2) 105 [encPt s, encPt t, encPt x] h = some (Bo b, h) := by
  refine callL (args' := [encPt s, encPt t, encPt x]) (frzL_lt (by simp [ltL, MV.lt])) rfl (runZ_of mf_rOn (by simp) ?_)
  have htu := fun h => rturn_c k s t x hs ht hx h rfl
  simp only [argsL]
  unfold onS at hb
  by_cases h0 : crs s t x = 0
  · rw [sgn_zero.2 h0] at htu
    rw [h0] at hb
    cases h1 : inB x.1 (mn s.1 t.1) (mx s.1 t.1)
    · rw [h1] at hb
      repeat (first | first | apply ef_seq | (apply ef_mv; exact rfl; exact rfl) | (apply ef_bin; exact rfl; exact rfl; exact rfl; (first | exact cmp_t rfl (by first | exact rfl | (simp only [cmpP]; omega)) | exact cmp_f rfl (by simp only [cmpP]; omega) | exact rfl)) | (apply ef_gy; exact rfl; (first | exact (rfl : true = true) | exact (rfl : false = false) | exact (rfl : true = !false) | exact (rfl : false = !true) | assumption | exact decide_eq_true (by omega) | exact decide_eq_false (by omega))) | (apply ef_gn; exact rfl; (first | exact (rfl : true = true) | exact (rfl : false = false) | exact (rfl : true = !false) | exact (rfl : false = !true) | assumption | exact decide_eq_true (by omega) | exact decide_eq_false (by omega)); exact rfl) | (apply ef_gu; exact rfl; exact rfl) | (apply ef_pick; exact rfl; exact rfl; exact rfl) | (apply ef_pickb; exact rfl; exact rfl; exact rfl; exact rfl) | (apply ef_ldr; exact rfl; exact rfl; (first | exact rd_2 rfl rfl | exact rfl)) | (apply ef_ldp; exact rfl; exact rfl; exact rfl; exact rfl; (first | exact rfl | assumption); (first | exact rd_2 rfl rfl | exact rfl)) | (apply ef_fap; exact rfl; exact rfl) | (apply ef_far; exact rfl; exact rfl) | (apply ef_mx; exact rfl; exact rfl; exact rfl) | (apply ef_mn; exact rfl; exact rfl; exact rfl) | (apply ef_box; exact rfl; exact rfl; exact rfl; exact rfl) | apply ef_nil | apply seqQ.normal | apply ef_ret | apply seqQ.ret | (apply ef_call; exact rfl; ((repeat (apply XVs.cons; exact rfl)); exact XVs.nil); (with_reducible first | exact htu _ | exact Within_c _ _ _ _ _ (by assumption))))
      (refine fin1 rfl (by exact rfl) rfl ?_)
      rw [← hb]; rfl
    · cases h2 : inB x.2 (mn s.2 t.2) (mx s.2 t.2)
      · rw [h1, h2] at hb
        repeat (first | first | apply ef_seq | (apply ef_mv; exact rfl; exact rfl) | (apply ef_bin; exact rfl; exact rfl; exact rfl; (first | exact cmp_t rfl (by first | exact rfl | (simp only [cmpP]; omega)) | exact cmp_f rfl (by simp only [cmpP]; omega) | exact rfl)) | (apply ef_gy; exact rfl; (first | exact (rfl : true = true) | exact (rfl : false = false) | exact (rfl : true = !false) | exact (rfl : false = !true) | assumption | exact decide_eq_true (by omega) | exact decide_eq_false (by omega))) | (apply ef_gn; exact rfl; (first | exact (rfl : true = true) | exact (rfl : false = false) | exact (rfl : true = !false) | exact (rfl : false = !true) | assumption | exact decide_eq_true (by omega) | exact decide_eq_false (by omega)); exact rfl) | (apply ef_gu; exact rfl; exact rfl) | (apply ef_pick; exact rfl; exact rfl; exact rfl) | (apply ef_pickb; exact rfl; exact rfl; exact rfl; exact rfl) | (apply ef_ldr; exact rfl; exact rfl; (first | exact rd_2 rfl rfl | exact rfl)) | (apply ef_ldp; exact rfl; exact rfl; exact rfl; exact rfl; (first | exact rfl | assumption); (first | exact rd_2 rfl rfl | exact rfl)) | (apply ef_fap; exact rfl; exact rfl) | (apply ef_far; exact rfl; exact rfl) | (apply ef_mx; exact rfl; exact rfl; exact rfl) | (apply ef_mn; exact rfl; exact rfl; exact rfl) | (apply ef_box; exact rfl; exact rfl; exact rfl; exact rfl) | apply ef_nil | apply seqQ.normal | apply ef_ret | apply seqQ.ret | (apply ef_call; exact rfl; ((repeat (apply XVs.cons; exact rfl)); exact XVs.nil); (with_reducible first | exact htu _ | exact Within_c _ _ _ _ _ (by assumption))))
        (refine fin1 rfl (by exact rfl) rfl ?_)
        rw [← hb]; rfl
      · rw [h1, h2] at hb
        repeat (first | first | apply ef_seq | (apply ef_mv; exact rfl; exact rfl) | (apply ef_bin; exact rfl; exact rfl; exact rfl; (first | exact cmp_t rfl (by first | exact rfl | (simp only [cmpP]; omega)) | exact cmp_f rfl (by simp only [cmpP]; omega) | exact rfl)) | (apply ef_gy; exact rfl; (first | exact (rfl : true = true) | exact (rfl : false = false) | exact (rfl : true = !false) | exact (rfl : false = !true) | assumption | exact decide_eq_true (by omega) | exact decide_eq_false (by omega))) | (apply ef_gn; exact rfl; (first | exact (rfl : true = true) | exact (rfl : false = false) | exact (rfl : true = !false) | exact (rfl : false = !true) | assumption | exact decide_eq_true (by omega) | exact decide_eq_false (by omega)); exact rfl) | (apply ef_gu; exact rfl; exact rfl) | (apply ef_pick; exact rfl; exact rfl; exact rfl) | (apply ef_pickb; exact rfl; exact rfl; exact rfl; exact rfl) | (apply ef_ldr; exact rfl; exact rfl; (first | exact rd_2 rfl rfl | exact rfl)) | (apply ef_ldp; exact rfl; exact rfl; exact rfl; exact rfl; (first | exact rfl | assumption); (first | exact rd_2 rfl rfl | exact rfl)) | (apply ef_fap; exact rfl; exact rfl) | (apply ef_far; exact rfl; exact rfl) | (apply ef_mx; exact rfl; exact rfl; exact rfl) | (apply ef_mn; exact rfl; exact rfl; exact rfl) | (apply ef_box; exact rfl; exact rfl; exact rfl; exact rfl) | apply ef_nil | apply seqQ.normal | apply ef_ret | apply seqQ.ret | (apply ef_call; exact rfl; ((repeat (apply XVs.cons; exact rfl)); exact XVs.nil); (with_reducible first | exact htu _ | exact Within_c _ _ _ _ _ (by assumption))))
        (refine fin1 rfl (by exact rfl) rfl ?_)
        rw [← hb]; rfl
  · have h3 : ¬ sgn (crs s t x) = 0 := fun h => h0 (sgn_zero.1 h)
    generalize sgn (crs s t x) = v at *
    repeat (first | first | apply ef_seq | (apply ef_mv; exact rfl; exact rfl) | (apply ef_bin; exact rfl; exact rfl; exact rfl; (first | exact cmp_t rfl (by first | exact rfl | (simp only [cmpP]; omega)) | exact cmp_f rfl (by simp only [cmpP]; omega) | exact rfl)) | (apply ef_gy; exact rfl; (first | exact (rfl : true = true) | exact (rfl : false = false) | exact (rfl : true = !false) | exact (rfl : false = !true) | assumption | exact decide_eq_true (by omega) | exact decide_eq_false (by omega))) | (apply ef_gn; exact rfl; (first | exact (rfl : true = true) | exact (rfl : false = false) | exact (rfl : true = !false) | exact (rfl : false = !true) | assumption | exact decide_eq_true (by omega) | exact decide_eq_false (by omega)); exact rfl) | (apply ef_gu; exact rfl; exact rfl) | (apply ef_pick; exact rfl; exact rfl; exact rfl) | (apply ef_pickb; exact rfl; exact rfl; exact rfl; exact rfl) | (apply ef_ldr; exact rfl; exact rfl; (first | exact rd_2 rfl rfl | exact rfl)) | (apply ef_ldp; exact rfl; exact rfl; exact rfl; exact rfl; (first | exact rfl | assumption); (first | exact rd_2 rfl rfl | exact rfl)) | (apply ef_fap; exact rfl; exact rfl) | (apply ef_far; exact rfl; exact rfl) | (apply ef_mx; exact rfl; exact rfl; exact rfl) | (apply ef_mn; exact rfl; exact rfl; exact rfl) | (apply ef_box; exact rfl; exact rfl; exact rfl; exact rfl) | apply ef_nil | apply seqQ.normal | apply ef_ret | apply seqQ.ret | (apply ef_call; exact rfl; ((repeat (apply XVs.cons; exact rfl)); exact XVs.nil); (with_reducible first | exact htu _)))
    (refine fin1 rfl (by exact rfl) rfl ?_)
    rw [← hb, show (crs s t x == 0) = false by simpa using h0]; rfl
end Go.Proofs.Ytgjpdjihjphbdaa

/- Contracts of polygons: the program's sides. -/
namespace Go.Proofs.Ytgjpdjihjphbdaa
open Go.RowKit
set_option linter.unusedVariables false

theorem mf_sdCross : MT.mf 149 = some ⟨34, [(.tmp 4)], (.seq (.reg [⟨none, (some 2), (.box 4 (.s 0))⟩, ⟨none, (some 3), (.box 2 (.s 1))⟩, ⟨none, (some 4), (.mv (.c (.lit (.int .i64 0))))⟩]) (.seq (.reg [⟨none, (some 5), (.iaa 2 2 (.s 2) (.c (.lit (.int .i64 1))))⟩, ⟨none, (some 6), (.fa 0 (.s 5))⟩, ⟨none, (some 7), (.ld none (.s 6))⟩, ⟨none, (some 8), (.iaa 2 2 (.s 2) (.c (.lit (.int .i64 0))))⟩, ⟨none, (some 9), (.fa 0 (.s 8))⟩, ⟨none, (some 10), (.ld none (.s 9))⟩, ⟨none, (some 11), (.bin .sub (.s 7) (.s 10))⟩, ⟨none, (some 12), (.fa 1 (.s 3))⟩, ⟨none, (some 13), (.ld none (.s 12))⟩, ⟨none, (some 14), (.iaa 2 2 (.s 2) (.c (.lit (.int .i64 0))))⟩, ⟨none, (some 15), (.fa 1 (.s 14))⟩, ⟨none, (some 16), (.ld none (.s 15))⟩, ⟨none, (some 17), (.bin .sub (.s 13) (.s 16))⟩, ⟨none, (some 18), (.bin .mul (.s 11) (.s 17))⟩, ⟨none, (some 19), (.fa 0 (.s 3))⟩, ⟨none, (some 20), (.ld none (.s 19))⟩, ⟨none, (some 21), (.iaa 2 2 (.s 2) (.c (.lit (.int .i64 0))))⟩, ⟨none, (some 22), (.fa 0 (.s 21))⟩, ⟨none, (some 23), (.ld none (.s 22))⟩, ⟨none, (some 24), (.bin .sub (.s 20) (.s 23))⟩, ⟨none, (some 25), (.iaa 2 2 (.s 2) (.c (.lit (.int .i64 1))))⟩, ⟨none, (some 26), (.fa 1 (.s 25))⟩, ⟨none, (some 27), (.ld none (.s 26))⟩, ⟨none, (some 28), (.iaa 2 2 (.s 2) (.c (.lit (.int .i64 0))))⟩, ⟨none, (some 29), (.fa 1 (.s 28))⟩, ⟨none, (some 30), (.ld none (.s 29))⟩, ⟨none, (some 31), (.bin .sub (.s 27) (.s 30))⟩, ⟨none, (some 32), (.bin .mul (.s 24) (.s 31))⟩, ⟨none, (some 33), (.bin .sub (.s 18) (.s 32))⟩, ⟨none, (some 4), (.mv (.s 33))⟩]) .ret))⟩ := by kernel_rfl
theorem sdCross_c (k : Nat) (s t x : Pt) (hs : InP s) (ht : InP t) (hx : InP x) (h : MHeap) : orA (k + 1) 149 [encSd s t, encPt x] h = some (I64 (crs s t x), h) := by
  refine callL (args' := [encSd s t, encPt x]) (frzL_lt (by simp [ltL, MV.lt])) rfl (runZ_of mf_sdCross (by simp) ?_)
  obtain ⟨⟨a1, a2⟩, a3, a4⟩ := crs_bd hs ht hx
  have hc : crs s t x = (t.1 - s.1) * (x.2 - s.2) - (x.1 - s.1) * (t.2 - s.2) := rfl
  rw [Int.mul_comm] at a3 a4
  obtain ⟨a, b⟩ := s
  obtain ⟨c, d⟩ := t
  obtain ⟨e, f⟩ := x
  obtain ⟨p1, p2, p3, p4⟩ := hs
  obtain ⟨p5, p6, p7, p8⟩ := ht
  obtain ⟨q1, q2, q3, q4⟩ := hx
  simp only [argsL] at *
  generalize hP : (c - a) * (f - b) = P at *
  generalize hQ : (e - a) * (d - b) = Q at *
  have w1 : IntKind.i64.wrap ((c - a) * (f - b)) = P := by rw [hP]; exact wrap_of (by omega) (by omega)
  have w2 : IntKind.i64.wrap ((e - a) * (d - b)) = Q := by rw [hQ]; exact wrap_of (by omega) (by omega)
  rw [hc]
  repeat (first | apply ef_seq | (apply ef_mv; exact rfl; exact rfl) | (apply ef_bin; exact rfl; exact rfl; exact rfl; (first | ((with_reducible refine bin_sub (wrap_of ?_ ?_)) <;> omega) | ((with_reducible refine bin_mul (wrap_of ?_ ?_)) <;> omega) | with_reducible exact bin_sub (by assumption) | with_reducible exact bin_mul (by assumption) | exact rfl)) | (apply ef_ldr; exact rfl; exact rfl; (first | exact rfl)) | (apply ef_ldp; exact rfl; exact rfl; exact rfl; exact rfl; (first | exact rfl | assumption); (first | exact rfl)) | (apply ef_iaap; exact rfl; exact rfl; exact rfl; (first | omega | assumption); (first | omega | assumption)) | (apply ef_iaar; exact rfl; exact rfl; exact rfl; (first | omega | assumption); (first | omega | assumption)) | (apply ef_fap; exact rfl; exact rfl) | (apply ef_far; exact rfl; exact rfl) | (apply ef_box; exact rfl; exact rfl; exact rfl; exact rfl) | apply ef_nil | apply seqQ.normal | apply ef_ret | apply seqQ.ret)
  (refine fin1 rfl (by exact rfl) rfl ?_)
  rfl
theorem mf_sdHas : MT.mf 100 = some ⟨47, [(.tmp 4)], (.seq (.reg [⟨none, (some 2), (.box 4 (.s 0))⟩, ⟨none, (some 3), (.box 2 (.s 1))⟩, ⟨none, (some 4), (.mv (.c (.lit (.bool false))))⟩]) (.seq (.reg [⟨none, (some 5), (.ld (some 4) (.s 2))⟩, ⟨none, (some 6), (.ld (some 2) (.s 3))⟩, ⟨none, (some 7), (.call 149 [(.s 5), (.s 6)])⟩, ⟨none, (some 8), (.bin .eql (.s 7) (.c (.lit (.int .i64 0))))⟩, ⟨none, (some 9), (.mv (.s 8))⟩, ⟨(some (9, true)), (some 10), (.fa 0 (.s 3))⟩, ⟨(some (9, true)), (some 11), (.ld none (.s 10))⟩, ⟨(some (9, true)), (some 12), (.iaa 2 2 (.s 2) (.c (.lit (.int .i64 0))))⟩, ⟨(some (9, true)), (some 13), (.fa 0 (.s 12))⟩, ⟨(some (9, true)), (some 14), (.ld none (.s 13))⟩, ⟨(some (9, true)), (some 15), (.iaa 2 2 (.s 2) (.c (.lit (.int .i64 1))))⟩, ⟨(some (9, true)), (some 16), (.fa 0 (.s 15))⟩, ⟨(some (9, true)), (some 17), (.ld none (.s 16))⟩, ⟨(some (9, true)), (some 18), (.mn (.s 14) (.s 17))⟩, ⟨(some (9, true)), (some 19), (.iaa 2 2 (.s 2) (.c (.lit (.int .i64 0))))⟩, ⟨(some (9, true)), (some 20), (.fa 0 (.s 19))⟩, ⟨(some (9, true)), (some 21), (.ld none (.s 20))⟩, ⟨(some (9, true)), (some 22), (.iaa 2 2 (.s 2) (.c (.lit (.int .i64 1))))⟩, ⟨(some (9, true)), (some 23), (.fa 0 (.s 22))⟩, ⟨(some (9, true)), (some 24), (.ld none (.s 23))⟩, ⟨(some (9, true)), (some 25), (.mx (.s 21) (.s 24))⟩, ⟨(some (9, true)), (some 26), (.call 129 [(.s 11), (.s 18), (.s 25)])⟩, ⟨none, (some 27), (.pick (.s 9) (.s 26) (.c (.lit (.bool false))))⟩, ⟨none, (some 28), (.mv (.s 27))⟩, ⟨(some (28, true)), (some 29), (.fa 1 (.s 3))⟩, ⟨(some (28, true)), (some 30), (.ld none (.s 29))⟩, ⟨(some (28, true)), (some 31), (.iaa 2 2 (.s 2) (.c (.lit (.int .i64 0))))⟩, ⟨(some (28, true)), (some 32), (.fa 1 (.s 31))⟩, ⟨(some (28, true)), (some 33), (.ld none (.s 32))⟩, ⟨(some (28, true)), (some 34), (.iaa 2 2 (.s 2) (.c (.lit (.int .i64 1))))⟩, ⟨(some (28, true)), (some 35), (.fa 1 (.s 34))⟩, ⟨(some (28, true)), (some 36), (.ld none (.s 35))⟩, ⟨(some (28, true)), (some 37), (.mn (.s 33) (.s 36))⟩, ⟨(some (28, true)), (some 38), (.iaa 2 2 (.s 2) (.c (.lit (.int .i64 0))))⟩, ⟨(some (28, true)), (some 39), (.fa 1 (.s 38))⟩, ⟨(some (28, true)), (some 40), (.ld none (.s 39))⟩, ⟨(some (28, true)), (some 41), (.iaa 2 2 (.s 2) (.c (.lit (.int .i64 1))))⟩, ⟨(some (28, true)), (some 42), (.fa 1 (.s 41))⟩, ⟨(some (28, true)), (some 43), (.ld none (.s 42))⟩, ⟨(some (28, true)), (some 44), (.mx (.s 40) (.s 43))⟩, ⟨(some (28, true)), (some 45), (.call 129 [(.s 30), (.s 37), (.s 44)])⟩, ⟨none, (some 46), (.pick (.s 28) (.s 45) (.c (.lit (.bool false))))⟩, ⟨none, (some 4), (.mv (.s 46))⟩]) .ret))⟩ := by kernel_rfl
theorem sdHas_c (k : Nat) (s t x : Pt) (hs : InP s) (ht : InP t) (hx : InP x) (h : MHeap) {b : Bool} (hb : onS s t x = b) : orA (k + 2) 100 [encSd s t, encPt x] h = some (Bo b, h) := by
  refine callL (args' := [encSd s t, encPt x]) (frzL_lt (by simp [ltL, MV.lt])) rfl (runZ_of mf_sdHas (by simp) ?_)
  have htu := fun h => sdCross_c k s t x hs ht hx h
  simp only [argsL]
  unfold onS at hb
  by_cases h0 : crs s t x = 0
  · rw [h0] at htu hb
    cases h1 : inB x.1 (mn s.1 t.1) (mx s.1 t.1)
    · rw [h1] at hb
      repeat (first | first | apply ef_seq | (apply ef_mv; exact rfl; exact rfl) | (apply ef_bin; exact rfl; exact rfl; exact rfl; (first | exact cmp_t rfl (by first | exact rfl | (simp only [cmpP]; omega)) | exact cmp_f rfl (by simp only [cmpP]; omega) | exact rfl)) | (apply ef_gy; exact rfl; (first | exact (rfl : true = true) | exact (rfl : false = false) | exact (rfl : true = !false) | exact (rfl : false = !true) | assumption | exact decide_eq_true (by omega) | exact decide_eq_false (by omega))) | (apply ef_gn; exact rfl; (first | exact (rfl : true = true) | exact (rfl : false = false) | exact (rfl : true = !false) | exact (rfl : false = !true) | assumption | exact decide_eq_true (by omega) | exact decide_eq_false (by omega)); exact rfl) | (apply ef_gu; exact rfl; exact rfl) | (apply ef_pick; exact rfl; exact rfl; exact rfl) | (apply ef_pickb; exact rfl; exact rfl; exact rfl; exact rfl) | (apply ef_ldr; exact rfl; exact rfl; (first | exact rd_2 rfl rfl | exact rd_4 rfl rfl rfl rfl | exact rfl)) | (apply ef_ldp; exact rfl; exact rfl; exact rfl; exact rfl; (first | exact rfl | assumption); (first | exact rd_2 rfl rfl | exact rd_4 rfl rfl rfl rfl | exact rfl)) | (apply ef_iaap; exact rfl; exact rfl; exact rfl; (first | omega | assumption); (first | omega | assumption)) | (apply ef_iaar; exact rfl; exact rfl; exact rfl; (first | omega | assumption); (first | omega | assumption)) | (apply ef_fap; exact rfl; exact rfl) | (apply ef_far; exact rfl; exact rfl) | (apply ef_mx; exact rfl; exact rfl; exact rfl) | (apply ef_mn; exact rfl; exact rfl; exact rfl) | (apply ef_box; exact rfl; exact rfl; exact rfl; exact rfl) | apply ef_nil | apply seqQ.normal | apply ef_ret | apply seqQ.ret | (apply ef_call; exact rfl; ((repeat (apply XVs.cons; exact rfl)); exact XVs.nil); (with_reducible first | exact htu _ | exact within_c _ _ _ _ _ (by assumption))))
      (refine fin1 rfl (by exact rfl) rfl ?_)
      rw [← hb]; rfl
    · cases h2 : inB x.2 (mn s.2 t.2) (mx s.2 t.2)
      · rw [h1, h2] at hb
        repeat (first | first | apply ef_seq | (apply ef_mv; exact rfl; exact rfl) | (apply ef_bin; exact rfl; exact rfl; exact rfl; (first | exact cmp_t rfl (by first | exact rfl | (simp only [cmpP]; omega)) | exact cmp_f rfl (by simp only [cmpP]; omega) | exact rfl)) | (apply ef_gy; exact rfl; (first | exact (rfl : true = true) | exact (rfl : false = false) | exact (rfl : true = !false) | exact (rfl : false = !true) | assumption | exact decide_eq_true (by omega) | exact decide_eq_false (by omega))) | (apply ef_gn; exact rfl; (first | exact (rfl : true = true) | exact (rfl : false = false) | exact (rfl : true = !false) | exact (rfl : false = !true) | assumption | exact decide_eq_true (by omega) | exact decide_eq_false (by omega)); exact rfl) | (apply ef_gu; exact rfl; exact rfl) | (apply ef_pick; exact rfl; exact rfl; exact rfl) | (apply ef_pickb; exact rfl; exact rfl; exact rfl; exact rfl) | (apply ef_ldr; exact rfl; exact rfl; (first | exact rd_2 rfl rfl | exact rd_4 rfl rfl rfl rfl | exact rfl)) | (apply ef_ldp; exact rfl; exact rfl; exact rfl; exact rfl; (first | exact rfl | assumption); (first | exact rd_2 rfl rfl | exact rd_4 rfl rfl rfl rfl | exact rfl)) | (apply ef_iaap; exact rfl; exact rfl; exact rfl; (first | omega | assumption); (first | omega | assumption)) | (apply ef_iaar; exact rfl; exact rfl; exact rfl; (first | omega | assumption); (first | omega | assumption)) | (apply ef_fap; exact rfl; exact rfl) | (apply ef_far; exact rfl; exact rfl) | (apply ef_mx; exact rfl; exact rfl; exact rfl) | (apply ef_mn; exact rfl; exact rfl; exact rfl) | (apply ef_box; exact rfl; exact rfl; exact rfl; exact rfl) | apply ef_nil | apply seqQ.normal | apply ef_ret | apply seqQ.ret | (apply ef_call; exact rfl; ((repeat (apply XVs.cons; exact rfl)); exact XVs.nil); (with_reducible first | exact htu _ | exact within_c _ _ _ _ _ (by assumption))))
        (refine fin1 rfl (by exact rfl) rfl ?_)
        rw [← hb]; rfl
      · rw [h1, h2] at hb
        repeat (first | first | apply ef_seq | (apply ef_mv; exact rfl; exact rfl) | (apply ef_bin; exact rfl; exact rfl; exact rfl; (first | exact cmp_t rfl (by first | exact rfl | (simp only [cmpP]; omega)) | exact cmp_f rfl (by simp only [cmpP]; omega) | exact rfl)) | (apply ef_gy; exact rfl; (first | exact (rfl : true = true) | exact (rfl : false = false) | exact (rfl : true = !false) | exact (rfl : false = !true) | assumption | exact decide_eq_true (by omega) | exact decide_eq_false (by omega))) | (apply ef_gn; exact rfl; (first | exact (rfl : true = true) | exact (rfl : false = false) | exact (rfl : true = !false) | exact (rfl : false = !true) | assumption | exact decide_eq_true (by omega) | exact decide_eq_false (by omega)); exact rfl) | (apply ef_gu; exact rfl; exact rfl) | (apply ef_pick; exact rfl; exact rfl; exact rfl) | (apply ef_pickb; exact rfl; exact rfl; exact rfl; exact rfl) | (apply ef_ldr; exact rfl; exact rfl; (first | exact rd_2 rfl rfl | exact rd_4 rfl rfl rfl rfl | exact rfl)) | (apply ef_ldp; exact rfl; exact rfl; exact rfl; exact rfl; (first | exact rfl | assumption); (first | exact rd_2 rfl rfl | exact rd_4 rfl rfl rfl rfl | exact rfl)) | (apply ef_iaap; exact rfl; exact rfl; exact rfl; (first | omega | assumption); (first | omega | assumption)) | (apply ef_iaar; exact rfl; exact rfl; exact rfl; (first | omega | assumption); (first | omega | assumption)) | (apply ef_fap; exact rfl; exact rfl) | (apply ef_far; exact rfl; exact rfl) | (apply ef_mx; exact rfl; exact rfl; exact rfl) | (apply ef_mn; exact rfl; exact rfl; exact rfl) | (apply ef_box; exact rfl; exact rfl; exact rfl; exact rfl) | apply ef_nil | apply seqQ.normal | apply ef_ret | apply seqQ.ret | (apply ef_call; exact rfl; ((repeat (apply XVs.cons; exact rfl)); exact XVs.nil); (with_reducible first | exact htu _ | exact within_c _ _ _ _ _ (by assumption))))
        (refine fin1 rfl (by exact rfl) rfl ?_)
        rw [← hb]; rfl
  · generalize hcr : crs s t x = v at *
    repeat (first | first | apply ef_seq | (apply ef_mv; exact rfl; exact rfl) | (apply ef_bin; exact rfl; exact rfl; exact rfl; (first | exact cmp_t rfl (by first | exact rfl | (simp only [cmpP]; omega)) | exact cmp_f rfl (by simp only [cmpP]; omega) | exact rfl)) | (apply ef_gy; exact rfl; (first | exact (rfl : true = true) | exact (rfl : false = false) | exact (rfl : true = !false) | exact (rfl : false = !true) | assumption | exact decide_eq_true (by omega) | exact decide_eq_false (by omega))) | (apply ef_gn; exact rfl; (first | exact (rfl : true = true) | exact (rfl : false = false) | exact (rfl : true = !false) | exact (rfl : false = !true) | assumption | exact decide_eq_true (by omega) | exact decide_eq_false (by omega)); exact rfl) | (apply ef_gu; exact rfl; exact rfl) | (apply ef_pick; exact rfl; exact rfl; exact rfl) | (apply ef_pickb; exact rfl; exact rfl; exact rfl; exact rfl) | (apply ef_ldr; exact rfl; exact rfl; (first | exact rd_2 rfl rfl | exact rd_4 rfl rfl rfl rfl | exact rfl)) | (apply ef_ldp; exact rfl; exact rfl; exact rfl; exact rfl; (first | exact rfl | assumption); (first | exact rd_2 rfl rfl | exact rd_4 rfl rfl rfl rfl | exact rfl)) | (apply ef_iaap; exact rfl; exact rfl; exact rfl; (first | omega | assumption); (first | omega | assumption)) | (apply ef_iaar; exact rfl; exact rfl; exact rfl; (first | omega | assumption); (first | omega | assumption)) | (apply ef_fap; exact rfl; exact rfl) | (apply ef_far; exact rfl; exact rfl) | (apply ef_mx; exact rfl; exact rfl; exact rfl) | (apply ef_mn; exact rfl; exact rfl; exact rfl) | (apply ef_box; exact rfl; exact rfl; exact rfl; exact rfl) | apply ef_nil | apply seqQ.normal | apply ef_ret | apply seqQ.ret | (apply ef_call; exact rfl; ((repeat (apply XVs.cons; exact rfl)); exact XVs.nil); (with_reducible first | exact htu _)))
    (refine fin1 rfl (by exact rfl) rfl ?_)
    rw [← hb, show (v == 0) = false by simpa using h0]; rfl
theorem mf_sdCrosses : MT.mf 101 = some ⟨16, [(.tmp 4)], (.seq (.reg [⟨none, (some 2), (.box 4 (.s 0))⟩, ⟨none, (some 4), (.mv (.c (.lit (.bool false))))⟩]) (.seq (.reg [⟨none, (some 5), (.iaa 2 2 (.s 2) (.c (.lit (.int .i64 0))))⟩, ⟨none, (some 6), (.fa 1 (.s 5))⟩, ⟨none, (some 7), (.ld none (.s 6))⟩, ⟨none, (some 8), (.mv (.s 1))⟩, ⟨none, (some 9), (.bin .gtr (.s 7) (.s 8))⟩, ⟨none, (some 10), (.iaa 2 2 (.s 2) (.c (.lit (.int .i64 1))))⟩, ⟨none, (some 11), (.fa 1 (.s 10))⟩, ⟨none, (some 12), (.ld none (.s 11))⟩, ⟨none, (some 13), (.mv (.s 1))⟩, ⟨none, (some 14), (.bin .gtr (.s 12) (.s 13))⟩, ⟨none, (some 15), (.beq true (.s 9) (.s 14))⟩, ⟨none, (some 4), (.mv (.s 15))⟩]) .ret))⟩ := by kernel_rfl
theorem sdCrosses_c (k : Nat) (s t : Pt) (y : Int) (h : MHeap) {b : Bool} (hb : crossS s t y = b) : orA (k + 1) 101 [encSd s t, I64 y] h = some (Bo b, h) := by
  refine callL (args' := [encSd s t, I64 y]) (frzL_lt (by simp [ltL, MV.lt])) rfl (runZ_of mf_sdCrosses (by simp) ?_)
  simp only [argsL]
  unfold crossS at hb
  subst hb
  by_cases h1 : y < s.2
  · by_cases h2 : y < t.2
    · repeat (first | apply ef_seq | (apply ef_mv; exact rfl; exact rfl) | (apply ef_bin; exact rfl; exact rfl; exact rfl; (first | exact cmp_t rfl (by first | exact rfl | (simp only [cmpP]; omega)) | exact cmp_f rfl (by simp only [cmpP]; omega) | exact rfl)) | (apply ef_ldr; exact rfl; exact rfl; (first | exact rfl)) | (apply ef_ldp; exact rfl; exact rfl; exact rfl; exact rfl; (first | exact rfl | assumption); (first | exact rfl)) | (apply ef_iaap; exact rfl; exact rfl; exact rfl; (first | omega | assumption); (first | omega | assumption)) | (apply ef_iaar; exact rfl; exact rfl; exact rfl; (first | omega | assumption); (first | omega | assumption)) | (apply ef_fap; exact rfl; exact rfl) | (apply ef_far; exact rfl; exact rfl) | (apply ef_box; exact rfl; exact rfl; exact rfl; exact rfl) | (apply ef_beq; exact rfl; exact rfl; exact rfl) | apply ef_nil | apply seqQ.normal | apply ef_ret | apply seqQ.ret)
      (refine fin1 rfl (by exact rfl) rfl ?_)
      simp [h1, h2, negIf]
    · repeat (first | apply ef_seq | (apply ef_mv; exact rfl; exact rfl) | (apply ef_bin; exact rfl; exact rfl; exact rfl; (first | exact cmp_t rfl (by first | exact rfl | (simp only [cmpP]; omega)) | exact cmp_f rfl (by simp only [cmpP]; omega) | exact rfl)) | (apply ef_ldr; exact rfl; exact rfl; (first | exact rfl)) | (apply ef_ldp; exact rfl; exact rfl; exact rfl; exact rfl; (first | exact rfl | assumption); (first | exact rfl)) | (apply ef_iaap; exact rfl; exact rfl; exact rfl; (first | omega | assumption); (first | omega | assumption)) | (apply ef_iaar; exact rfl; exact rfl; exact rfl; (first | omega | assumption); (first | omega | assumption)) | (apply ef_fap; exact rfl; exact rfl) | (apply ef_far; exact rfl; exact rfl) | (apply ef_box; exact rfl; exact rfl; exact rfl; exact rfl) | (apply ef_beq; exact rfl; exact rfl; exact rfl) | apply ef_nil | apply seqQ.normal | apply ef_ret | apply seqQ.ret)
      (refine fin1 rfl (by exact rfl) rfl ?_)
      simp [h1, h2, negIf]
  · by_cases h2 : y < t.2
    · repeat (first | apply ef_seq | (apply ef_mv; exact rfl; exact rfl) | (apply ef_bin; exact rfl; exact rfl; exact rfl; (first | exact cmp_t rfl (by first | exact rfl | (simp only [cmpP]; omega)) | exact cmp_f rfl (by simp only [cmpP]; omega) | exact rfl)) | (apply ef_ldr; exact rfl; exact rfl; (first | exact rfl)) | (apply ef_ldp; exact rfl; exact rfl; exact rfl; exact rfl; (first | exact rfl | assumption); (first | exact rfl)) | (apply ef_iaap; exact rfl; exact rfl; exact rfl; (first | omega | assumption); (first | omega | assumption)) | (apply ef_iaar; exact rfl; exact rfl; exact rfl; (first | omega | assumption); (first | omega | assumption)) | (apply ef_fap; exact rfl; exact rfl) | (apply ef_far; exact rfl; exact rfl) | (apply ef_box; exact rfl; exact rfl; exact rfl; exact rfl) | (apply ef_beq; exact rfl; exact rfl; exact rfl) | apply ef_nil | apply seqQ.normal | apply ef_ret | apply seqQ.ret)
      (refine fin1 rfl (by exact rfl) rfl ?_)
      simp [h1, h2, negIf]
    · repeat (first | apply ef_seq | (apply ef_mv; exact rfl; exact rfl) | (apply ef_bin; exact rfl; exact rfl; exact rfl; (first | exact cmp_t rfl (by first | exact rfl | (simp only [cmpP]; omega)) | exact cmp_f rfl (by simp only [cmpP]; omega) | exact rfl)) | (apply ef_ldr; exact rfl; exact rfl; (first | exact rfl)) | (apply ef_ldp; exact rfl; exact rfl; exact rfl; exact rfl; (first | exact rfl | assumption); (first | exact rfl)) | (apply ef_iaap; exact rfl; exact rfl; exact rfl; (first | omega | assumption); (first | omega | assumption)) | (apply ef_iaar; exact rfl; exact rfl; exact rfl; (first | omega | assumption); (first | omega | assumption)) | (apply ef_fap; exact rfl; exact rfl) | (apply ef_far; exact rfl; exact rfl) | (apply ef_box; exact rfl; exact rfl; exact rfl; exact rfl) | (apply ef_beq; exact rfl; exact rfl; exact rfl) | apply ef_nil | apply seqQ.normal | apply ef_ret | apply seqQ.ret)
      (refine fin1 rfl (by exact rfl) rfl ?_)
      simp [h1, h2, negIf]
theorem mf_rCrosses : MT.mf 106 = some ⟨16, [(.tmp 6)], (.seq (.reg [⟨none, (some 3), (.box 2 (.s 0))⟩, ⟨none, (some 4), (.box 2 (.s 1))⟩, ⟨none, (some 6), (.mv (.c (.lit (.bool false))))⟩]) (.seq (.reg [⟨none, (some 7), (.fa 1 (.s 3))⟩, ⟨none, (some 8), (.ld none (.s 7))⟩, ⟨none, (some 9), (.mv (.s 2))⟩, ⟨none, (some 10), (.bin .gtr (.s 8) (.s 9))⟩, ⟨none, (some 11), (.fa 1 (.s 4))⟩, ⟨none, (some 12), (.ld none (.s 11))⟩, ⟨none, (some 13), (.mv (.s 2))⟩, ⟨none, (some 14), (.bin .gtr (.s 12) (.s 13))⟩, ⟨none, (some 15), (.beq true (.s 10) (.s 14))⟩, ⟨none, (some 6), (.mv (.s 15))⟩]) .ret))⟩ := by kernel_rfl
theorem rCrosses_c (k : Nat) (s t : Pt) (y : Int) (h : MHeap) {b : Bool} (hb : crossS s t y = b) : orA (k + 1) 106 [encPt s, encPt t, I64 y] h = some (Bo b, h) := by
  refine callL (args' := [encPt s, encPt t, I64 y]) (frzL_lt (by simp [ltL, MV.lt])) rfl (runZ_of mf_rCrosses (by simp) ?_)
  simp only [argsL]
  unfold crossS at hb
  subst hb
  by_cases h1 : y < s.2
  · by_cases h2 : y < t.2
    · repeat (first | apply ef_seq | (apply ef_mv; exact rfl; exact rfl) | (apply ef_bin; exact rfl; exact rfl; exact rfl; (first | exact cmp_t rfl (by first | exact rfl | (simp only [cmpP]; omega)) | exact cmp_f rfl (by simp only [cmpP]; omega) | exact rfl)) | (apply ef_ldr; exact rfl; exact rfl; (first | exact rfl)) | (apply ef_ldp; exact rfl; exact rfl; exact rfl; exact rfl; (first | exact rfl | assumption); (first | exact rfl)) | (apply ef_fap; exact rfl; exact rfl) | (apply ef_far; exact rfl; exact rfl) | (apply ef_box; exact rfl; exact rfl; exact rfl; exact rfl) | (apply ef_beq; exact rfl; exact rfl; exact rfl) | apply ef_nil | apply seqQ.normal | apply ef_ret | apply seqQ.ret)
      (refine fin1 rfl (by exact rfl) rfl ?_)
      simp [h1, h2, negIf]
    · repeat (first | apply ef_seq | (apply ef_mv; exact rfl; exact rfl) | (apply ef_bin; exact rfl; exact rfl; exact rfl; (first | exact cmp_t rfl (by first | exact rfl | (simp only [cmpP]; omega)) | exact cmp_f rfl (by simp only [cmpP]; omega) | exact rfl)) | (apply ef_ldr; exact rfl; exact rfl; (first | exact rfl)) | (apply ef_ldp; exact rfl; exact rfl; exact rfl; exact rfl; (first | exact rfl | assumption); (first | exact rfl)) | (apply ef_fap; exact rfl; exact rfl) | (apply ef_far; exact rfl; exact rfl) | (apply ef_box; exact rfl; exact rfl; exact rfl; exact rfl) | (apply ef_beq; exact rfl; exact rfl; exact rfl) | apply ef_nil | apply seqQ.normal | apply ef_ret | apply seqQ.ret)
      (refine fin1 rfl (by exact rfl) rfl ?_)
      simp [h1, h2, negIf]
  · by_cases h2 : y < t.2
    · repeat (first | apply ef_seq | (apply ef_mv; exact rfl; exact rfl) | (apply ef_bin; exact rfl; exact rfl; exact rfl; (first | exact cmp_t rfl (by first | exact rfl | (simp only [cmpP]; omega)) | exact cmp_f rfl (by simp only [cmpP]; omega) | exact rfl)) | (apply ef_ldr; exact rfl; exact rfl; (first | exact rfl)) | (apply ef_ldp; exact rfl; exact rfl; exact rfl; exact rfl; (first | exact rfl | assumption); (first | exact rfl)) | (apply ef_fap; exact rfl; exact rfl) | (apply ef_far; exact rfl; exact rfl) | (apply ef_box; exact rfl; exact rfl; exact rfl; exact rfl) | (apply ef_beq; exact rfl; exact rfl; exact rfl) | apply ef_nil | apply seqQ.normal | apply ef_ret | apply seqQ.ret)
      (refine fin1 rfl (by exact rfl) rfl ?_)
      simp [h1, h2, negIf]
    · repeat (first | apply ef_seq | (apply ef_mv; exact rfl; exact rfl) | (apply ef_bin; exact rfl; exact rfl; exact rfl; (first | exact cmp_t rfl (by first | exact rfl | (simp only [cmpP]; omega)) | exact cmp_f rfl (by simp only [cmpP]; omega) | exact rfl)) | (apply ef_ldr; exact rfl; exact rfl; (first | exact rfl)) | (apply ef_ldp; exact rfl; exact rfl; exact rfl; exact rfl; (first | exact rfl | assumption); (first | exact rfl)) | (apply ef_fap; exact rfl; exact rfl) | (apply ef_far; exact rfl; exact rfl) | (apply ef_box; exact rfl; exact rfl; exact rfl; exact rfl) | (apply ef_beq; exact rfl; exact rfl; exact rfl) | apply ef_nil | apply seqQ.normal | apply ef_ret | apply seqQ.ret)
      (refine fin1 rfl (by exact rfl) rfl ?_)
      simp [h1, h2, negIf]
end Go.Proofs.Ytgjpdjihjphbdaa

/- Contracts of polygons: fractions. -/
namespace Go.Proofs.Ytgjpdjihjphbdaa
open Go.RowKit
set_option linter.unusedVariables false

theorem mf_bGcd : MT.mf 166 = some ⟨13, [(.tmp 4)], (.seq (.reg [⟨none, (some 4), (.mv (.c (.lit (.int .i64 0))))⟩]) (.seq (.block 0 (.loop [1, 0] (.seq (.seq (.reg [⟨none, (some 5), (.mv (.s 1))⟩, ⟨none, (some 6), (.bin .neq (.s 5) (.c (.lit (.int .i64 0))))⟩]) (.cond (.s 6) .skip (.exit 0))) (.block 1 (.reg [⟨none, (some 7), (.mv (.s 1))⟩, ⟨none, (some 8), (.mv (.s 0))⟩, ⟨none, (some 9), (.mv (.s 1))⟩, ⟨none, (some 10), (.bin .rem (.s 8) (.s 9))⟩, ⟨none, (some 0), (.mv (.s 7))⟩, ⟨none, (some 1), (.mv (.s 10))⟩]))))) (.seq (.reg [⟨none, (some 11), (.mv (.s 0))⟩, ⟨none, (some 12), (.call 88 [(.s 11)])⟩, ⟨none, (some 4), (.mv (.s 12))⟩]) .ret)))⟩ := by kernel_rfl
theorem bGcd_c (k : Nat) (a b : Int) (h : MHeap) (h1 : -9223372036854775807 ≤ a) (h2 : a ≤ 9223372036854775807) (h3 : -9223372036854775807 ≤ b) (h4 : b ≤ 9223372036854775807) : orA (k + 2) 166 [I64 a, I64 b] h = some (I64 (Int.gcd a b : Int), h) := by
  refine callL (frz_lits [.int .i64 a, .int .i64 b]) rfl (runZ_of mf_bGcd (by simp) ?_)
  simp only [argsL, List.map_cons, List.map_nil]
  repeat (first | apply ef_seq | (apply ef_mv; exact rfl; exact rfl) | (apply ef_bin; exact rfl; exact rfl; exact rfl; (first | exact cmp_t rfl (by first | exact rfl | (simp only [cmpP]; omega)) | exact cmp_f rfl (by simp only [cmpP]; omega) | exact rfl)) | apply ef_nil | apply seqQ.normal | apply loopQ.ret | apply loopQ.exit | apply ef_ret | apply seqQ.ret | apply ef_exit | apply seqQ.exit | apply blockQ.normal | apply blockQ.ret | apply blockQ.here | (apply blockQ_there; exact rfl) | apply ef_block | apply ef_skip | (apply ef_condt; exact rfl; (first | exact (rfl : true = true) | assumption | exact decide_eq_true (by omega))) | (apply ef_condf; exact rfl; (first | exact (rfl : false = false) | assumption | exact decide_eq_false (by omega))))
  refine ef_loopf (α := Int × Int) (fun s => Int.gcd s.1 s.2 = Int.gcd a b ∧ (-9223372036854775807 ≤ s.1 ∧ s.1 ≤ 9223372036854775807) ∧ (-9223372036854775807 ≤ s.2 ∧ s.2 ≤ 9223372036854775807)) (fun s => [(0, I64 s.1), (1, I64 s.2)]) [] (fun _ => []) (fun s => eu s.1.natAbs s.2.natAbs) (a, b) [0, 1] (fun _ => rfl) (by ((repeat (refine Hold.cons (by exact rfl) ?_)); exact Hold.nil)) (by ((repeat (refine Hold.cons (by exact rfl) ?_)); exact Hold.nil)) rfl rfl ⟨rfl, ⟨h1, h2⟩, h3, h4⟩ (eu_int a b h3 h4) ?_
  rintro ⟨x, y⟩ ⟨hg, ⟨x1, x2⟩, y1, y2⟩
  try simp only at hg x1 x2 y1 y2 ⊢
  by_cases hy : y = 0
  · have hs := fun h => bSizeP_c k x h (by omega) (by omega)
    have hx : mx x (0 - x) = (Int.gcd a b : Int) := by
      rw [← hg, hy, Int.gcd_zero_right]
      unfold mx; split <;> omega
    rw [hx] at hs
    repeat (first | first | apply ef_seq | (apply ef_mv; exact rfl; exact rfl) | (apply ef_bin; exact rfl; exact rfl; exact rfl; (first | exact cmp_t rfl (by first | exact rfl | (simp only [cmpP]; omega)) | exact cmp_f rfl (by simp only [cmpP]; omega) | exact rfl)) | apply ef_nil | apply seqQ.normal | apply loopQ.ret | apply loopQ.exit | apply ef_ret | apply seqQ.ret | apply ef_exit | apply seqQ.exit | apply blockQ.normal | apply blockQ.ret | apply blockQ.here | (apply blockQ_there; exact rfl) | apply ef_block | apply ef_skip | (apply ef_condt; exact rfl; (first | exact (rfl : true = true) | assumption | exact decide_eq_true (by omega))) | (apply ef_condf; exact rfl; (first | exact (rfl : false = false) | assumption | exact decide_eq_false (by omega))) | (apply ef_call; exact rfl; ((repeat (apply XVs.cons; exact rfl)); exact XVs.nil); (with_reducible first | exact hs _)))
    (refine fin1 rfl (by exact rfl) rfl ?_)
    rfl
  · have hr : binI .rem .i64 x y = some (.int .i64 (x.tmod y)) := by
      simp only [binI]
      rw [if_neg hy]
    have hn : (x.tmod y).natAbs < y.natAbs := by
      rw [Int.natAbs_tmod]
      exact Nat.mod_lt _ (by omega)
    have hst := gcd_step x y hy
    have heu := eu_step (x := x) hy
    generalize x.tmod y = v at *
    repeat (first | apply ef_seq | (apply ef_mv; exact rfl; exact rfl) | (apply ef_bin; exact rfl; exact rfl; exact rfl; (first | exact cmp_t rfl (by first | exact rfl | (simp only [cmpP]; omega)) | exact cmp_f rfl (by simp only [cmpP]; omega) | exact rfl)) | apply ef_nil | apply seqQ.normal | apply loopQ.ret | apply loopQ.exit | apply ef_ret | apply seqQ.ret | apply ef_exit | apply seqQ.exit | apply blockQ.normal | apply blockQ.ret | apply blockQ.here | (apply blockQ_there; exact rfl) | apply ef_block | apply ef_skip | (apply ef_condt; exact rfl; (first | exact (rfl : true = true) | assumption | exact decide_eq_true (by omega))) | (apply ef_condf; exact rfl; (first | exact (rfl : false = false) | assumption | exact decide_eq_false (by omega))))
    (apply ef_bin; (· exact rfl); (· exact rfl); (· exact rfl); (· exact hr))
    repeat (first | apply ef_seq | (apply ef_mv; exact rfl; exact rfl) | (apply ef_bin; exact rfl; exact rfl; exact rfl; (first | exact cmp_t rfl (by first | exact rfl | (simp only [cmpP]; omega)) | exact cmp_f rfl (by simp only [cmpP]; omega) | exact rfl)) | apply ef_nil | apply seqQ.normal | apply loopQ.ret | apply loopQ.exit | apply ef_ret | apply seqQ.ret | apply ef_exit | apply seqQ.exit | apply blockQ.normal | apply blockQ.ret | apply blockQ.here | (apply blockQ_there; exact rfl) | apply ef_block | apply ef_skip | (apply ef_condt; exact rfl; (first | exact (rfl : true = true) | assumption | exact decide_eq_true (by omega))) | (apply ef_condf; exact rfl; (first | exact (rfl : false = false) | assumption | exact decide_eq_false (by omega))))
    (refine loopQ.normal _ _ ⟨(y, v), ⟨by simp only; rw [hst]; exact hg, ⟨by simp only; omega, by simp only; omega⟩, by simp only; omega, by simp only; omega⟩, heu, ⟨by ((repeat (refine Hold.cons (by exact rfl) ?_)); exact Hold.nil), by ((repeat (refine Hold.cons (by exact rfl) ?_)); exact Hold.nil)⟩, .inl (Nat.le_refl _), (by first | exact List.take_length | exact rfl | exact takeF rfl rfl)⟩)
end Go.Proofs.Ytgjpdjihjphbdaa

/- Contracts of polygons: sides of the reference, clashes. -/
namespace Go.Proofs.Ytgjpdjihjphbdaa
open Go.RowKit
set_option linter.unusedVariables false

abbrev encPg (cs : List Pt) : MV := .agg [.sl (cs.map encPt)]
theorem ltL_Pt (n : Nat) (cs : List Pt) : ltL n (cs.map encPt) = true := ltL_lits (fun _ => rfl) cs
theorem corner_at {cs : List Pt} {i : Nat} (hi : i < cs.length) : (cs.map encPt)[((i : Nat) : Int).toNat]? = some (encPt (corner cs i)) := by
  rw [Int.toNat_natCast, List.getElem?_map]
  unfold corner
  rw [List.getD_eq_getElem?_getD, List.getElem?_eq_getElem hi]; rfl
theorem next_at {cs : List Pt} {i : Nat} (hi : i < cs.length) : (cs.map encPt)[(((i + 1) % cs.length : Nat) : Int).toNat]? = some (encPt (nextC cs i)) := by
  have h : (i + 1) % cs.length < cs.length := Nat.mod_lt _ (by omega)
  rw [Int.toNat_natCast, List.getElem?_map]
  unfold nextC
  rw [List.getD_eq_getElem?_getD, List.getElem?_eq_getElem h]; rfl
theorem rem_nat {a b : Nat} (hb : 0 < b) : binI .rem .i64 (a : Int) (b : Int) = some (.int .i64 ((a % b : Nat) : Int)) := by
  simp only [binI]
  rw [if_neg (by omega)]
  rfl
theorem rem_next {i n : Nat} (hi : i < n) : binI .rem .i64 ((i : Int) + 1) (n : Int) = some (.int .i64 (((i + 1) % n : Nat) : Int)) := rem_nat (a := i + 1) (by omega)
theorem mf_rside : MT.mf 103 = some ⟨21, [(.cell 4 (some 2)), (.cell 5 (some 2))], (.seq (.reg [⟨none, (some 2), (.box 1 (.s 0))⟩, ⟨none, (some 4), (.new (.agg [(.lit (.int .i64 0)), (.lit (.int .i64 0))]))⟩, ⟨none, (some 5), (.new (.agg [(.lit (.int .i64 0)), (.lit (.int .i64 0))]))⟩]) (.seq (.reg [⟨none, (some 6), (.fa 0 (.s 2))⟩, ⟨none, (some 7), (.ld none (.s 6))⟩, ⟨none, (some 8), (.mv (.s 1))⟩, ⟨none, (some 9), (.ia 2 (.s 7) (.s 8))⟩, ⟨none, (some 10), (.ld (some 2) (.s 9))⟩, ⟨none, (some 11), (.fa 0 (.s 2))⟩, ⟨none, (some 12), (.ld none (.s 11))⟩, ⟨none, (some 13), (.mv (.s 1))⟩, ⟨none, (some 14), (.bin .add (.s 13) (.c (.lit (.int .i64 1))))⟩, ⟨none, (some 15), (.fa 0 (.s 2))⟩, ⟨none, (some 16), (.ld none (.s 15))⟩, ⟨none, (some 17), (.len (.s 16))⟩, ⟨none, (some 18), (.bin .rem (.s 14) (.s 17))⟩, ⟨none, (some 19), (.ia 2 (.s 12) (.s 18))⟩, ⟨none, (some 20), (.ld (some 2) (.s 19))⟩, ⟨none, none, (.st 2 (.s 4) (.s 10))⟩, ⟨none, none, (.st 2 (.s 5) (.s 20))⟩, ⟨none, none, (.ne (.s 11) (.s 4))⟩, ⟨none, none, (.ne (.s 15) (.s 4))⟩, ⟨none, none, (.ne (.s 19) (.s 4))⟩]) .ret))⟩ := by kernel_rfl
theorem rside_c (k : Nat) (cs : List Pt) (hl : cs.length ≤ 1000) {i : Nat} (hi : i < cs.length) (h : MHeap) : orA (k + 1) 103 [encPg cs, I64 (i : Int)] h = some (.tup [encPt (corner cs i), encPt (nextC cs i)], h) := by
  refine callP (args' := [encPg cs, I64 (i : Int)]) (frzL_lt (by simp [ltL, MV.lt, ltL_Pt])) rfl (runZ_of mf_rside (by simp) ?_) rfl
  have hs : (MV.sl (cs.map encPt)).slen = some cs.length := by simp [MV.slen]
  have e1 := corner_at hi
  have e2 := next_at hi
  have hr := rem_next hi
  simp only [argsL]
  generalize corner cs i = p at *
  generalize nextC cs i = q at *
  generalize (i + 1) % cs.length = m at *
  repeat (first | apply ef_seq | (apply ef_mv; exact rfl; exact rfl) | (apply ef_bin; exact rfl; exact rfl; exact rfl; (first | ((with_reducible refine bin_add (wrap_of ?_ ?_)) <;> omega) | with_reducible exact bin_add (by assumption) | exact rfl)) | (apply ef_len; exact rfl; exact rfl; (first | assumption | exact rfl)) | (apply ef_ldr; exact rfl; exact rfl; (first | exact rd_2 rfl rfl | exact rfl)) | (apply ef_ldp; exact rfl; exact rfl; exact rfl; exact rfl; (first | exact rfl | assumption); (first | exact rd_2 rfl rfl | exact rfl)) | (apply ef_ias; exact rfl; exact rfl; exact rfl; (first | omega | assumption); assumption; exact rfl) | (apply ef_iaa; exact rfl; exact rfl; exact rfl; (first | omega | assumption); (first | omega | assumption); exact rfl) | (apply ef_fap; exact rfl; exact rfl) | (apply ef_far; exact rfl; exact rfl) | (apply ef_box; exact rfl; exact rfl; exact rfl; exact rfl) | (apply ef_new; exact rfl) | (apply ef_ne; exact rfl; exact rfl; (first | exact rfl | exact ne_of (by omega))) | (apply ef_st; exact rfl; exact rfl; exact rfl; exact rfl; exact rfl; exact rfl; (first | exact rfl | assumption); exact rfl) | apply ef_nil | apply seqQ.normal | apply ef_ret | apply seqQ.ret)
  (apply ef_bin; (· exact rfl); (· exact rfl); (· exact rfl); (· exact hr))
  repeat (first | apply ef_seq | (apply ef_mv; exact rfl; exact rfl) | (apply ef_bin; exact rfl; exact rfl; exact rfl; (first | ((with_reducible refine bin_add (wrap_of ?_ ?_)) <;> omega) | with_reducible exact bin_add (by assumption) | exact rfl)) | (apply ef_len; exact rfl; exact rfl; (first | assumption | exact rfl)) | (apply ef_ldr; exact rfl; exact rfl; (first | exact rd_2 rfl rfl | exact rfl)) | (apply ef_ldp; exact rfl; exact rfl; exact rfl; exact rfl; (first | exact rfl | assumption); (first | exact rd_2 rfl rfl | exact rfl)) | (apply ef_ias; exact rfl; exact rfl; exact rfl; (first | omega | assumption); assumption; exact rfl) | (apply ef_iaa; exact rfl; exact rfl; exact rfl; (first | omega | assumption); (first | omega | assumption); exact rfl) | (apply ef_fap; exact rfl; exact rfl) | (apply ef_far; exact rfl; exact rfl) | (apply ef_box; exact rfl; exact rfl; exact rfl; exact rfl) | (apply ef_new; exact rfl) | (apply ef_ne; exact rfl; exact rfl; (first | exact rfl | exact ne_of (by omega))) | (apply ef_st; exact rfl; exact rfl; exact rfl; exact rfl; exact rfl; exact rfl; (first | exact rfl | assumption); exact rfl) | apply ef_nil | apply seqQ.normal | apply ef_ret | apply seqQ.ret)
  (apply finR2; (· exact rfl); (· apply resC; exact rfl; exact rfl; exact rfl; exact rfl; exact rd_2 rfl rfl); (· apply resC; exact rfl; exact rfl; exact rfl; exact rfl; exact rd_2 rfl rfl); (· exact rfl); (· exact rfl); (· exact rfl))
theorem mf_rtouch : MT.mf 150 = some ⟨53, [(.tmp 8)], (.seq (.reg [⟨none, (some 4), (.box 2 (.s 0))⟩, ⟨none, (some 5), (.box 2 (.s 1))⟩, ⟨none, (some 6), (.box 2 (.s 2))⟩, ⟨none, (some 7), (.box 2 (.s 3))⟩, ⟨none, (some 8), (.mv (.c (.lit (.bool false))))⟩]) (.seq (.seq (.reg [⟨none, (some 9), (.ld (some 2) (.s 4))⟩, ⟨none, (some 10), (.ld (some 2) (.s 5))⟩, ⟨none, (some 11), (.ld (some 2) (.s 6))⟩, ⟨none, (some 12), (.call 105 [(.s 9), (.s 10), (.s 11)])⟩, ⟨none, (some 13), (.mv (.s 12))⟩, ⟨(some (13, false)), (some 14), (.ld (some 2) (.s 4))⟩, ⟨(some (13, false)), (some 15), (.ld (some 2) (.s 5))⟩, ⟨(some (13, false)), (some 16), (.ld (some 2) (.s 7))⟩, ⟨(some (13, false)), (some 17), (.call 105 [(.s 14), (.s 15), (.s 16)])⟩, ⟨none, (some 18), (.pick (.s 13) (.c (.lit (.bool true))) (.s 17))⟩, ⟨none, (some 19), (.mv (.s 18))⟩, ⟨(some (19, false)), (some 20), (.ld (some 2) (.s 6))⟩, ⟨(some (19, false)), (some 21), (.ld (some 2) (.s 7))⟩, ⟨(some (19, false)), (some 22), (.ld (some 2) (.s 4))⟩, ⟨(some (19, false)), (some 23), (.call 105 [(.s 20), (.s 21), (.s 22)])⟩, ⟨none, (some 24), (.pick (.s 19) (.c (.lit (.bool true))) (.s 23))⟩, ⟨none, (some 25), (.mv (.s 24))⟩, ⟨(some (25, false)), (some 26), (.ld (some 2) (.s 6))⟩, ⟨(some (25, false)), (some 27), (.ld (some 2) (.s 7))⟩, ⟨(some (25, false)), (some 28), (.ld (some 2) (.s 5))⟩, ⟨(some (25, false)), (some 29), (.call 105 [(.s 26), (.s 27), (.s 28)])⟩, ⟨none, (some 30), (.pick (.s 25) (.c (.lit (.bool true))) (.s 29))⟩]) (.cond (.s 30) (.seq (.reg [⟨none, (some 8), (.mv (.c (.lit (.bool true))))⟩]) .ret) .skip)) (.seq (.reg [⟨none, (some 31), (.ld (some 2) (.s 4))⟩, ⟨none, (some 32), (.ld (some 2) (.s 5))⟩, ⟨none, (some 33), (.ld (some 2) (.s 6))⟩, ⟨none, (some 34), (.call 151 [(.s 31), (.s 32), (.s 33)])⟩, ⟨none, (some 35), (.ld (some 2) (.s 4))⟩, ⟨none, (some 36), (.ld (some 2) (.s 5))⟩, ⟨none, (some 37), (.ld (some 2) (.s 7))⟩, ⟨none, (some 38), (.call 151 [(.s 35), (.s 36), (.s 37)])⟩, ⟨none, (some 39), (.bin .mul (.s 34) (.s 38))⟩, ⟨none, (some 40), (.bin .lss (.s 39) (.c (.lit (.int .i64 0))))⟩, ⟨none, (some 41), (.mv (.s 40))⟩, ⟨(some (41, true)), (some 42), (.ld (some 2) (.s 6))⟩, ⟨(some (41, true)), (some 43), (.ld (some 2) (.s 7))⟩, ⟨(some (41, true)), (some 44), (.ld (some 2) (.s 4))⟩, ⟨(some (41, true)), (some 45), (.call 151 [(.s 42), (.s 43), (.s 44)])⟩, ⟨(some (41, true)), (some 46), (.ld (some 2) (.s 6))⟩, ⟨(some (41, true)), (some 47), (.ld (some 2) (.s 7))⟩, ⟨(some (41, true)), (some 48), (.ld (some 2) (.s 5))⟩, ⟨(some (41, true)), (some 49), (.call 151 [(.s 46), (.s 47), (.s 48)])⟩, ⟨(some (41, true)), (some 50), (.bin .mul (.s 45) (.s 49))⟩, ⟨(some (41, true)), (some 51), (.bin .lss (.s 50) (.c (.lit (.int .i64 0))))⟩, ⟨none, (some 52), (.pick (.s 41) (.s 51) (.c (.lit (.bool false))))⟩, ⟨none, (some 8), (.mv (.s 52))⟩]) .ret)))⟩ := by kernel_rfl
theorem sgn_bd (v : Int) : -1 ≤ sgn v ∧ sgn v ≤ 1 := by
  unfold sgn
  split
  · omega
  · split <;> omega
set_option maxHeartbeats 1000000 in
theorem rtouch_c (k : Nat) (s t o p : Pt) (hs : InP s) (ht : InP t) (ho : InP o) (hp : InP p) (h : MHeap) {b : Bool} (hb : meetS s t o p = b) : orA (k + 3) 150 [encPt s, encPt t, encPt o, encPt p] h = some (Bo b, h) := by
  refine callL (args' := [encPt s, encPt t, encPt o, encPt p]) (frzL_lt (by simp [ltL, MV.lt])) rfl (runZ_of mf_rtouch (by simp) ?_)
  have c1 := fun {b} (hb : onS s t o = b) h => rOn_c k s t o hs ht ho h hb
  have c2 := fun {b} (hb : onS s t p = b) h => rOn_c k s t p hs ht hp h hb
  have c3 := fun {b} (hb : onS o p s = b) h => rOn_c k o p s ho hp hs h hb
  have c4 := fun {b} (hb : onS o p t = b) h => rOn_c k o p t ho hp ht h hb
  have t1 := fun h => rturn_c (k + 1) s t o hs ht ho h rfl
  have t2 := fun h => rturn_c (k + 1) s t p hs ht hp h rfl
  have t3 := fun h => rturn_c (k + 1) o p s ho hp hs h rfl
  have t4 := fun h => rturn_c (k + 1) o p t ho hp ht h rfl
  have m1 : decide (sgn (crs s t o) * sgn (crs s t p) < 0) = opp (crs s t o) (crs s t p) := sgn_opp
  have m2 : decide (sgn (crs o p s) * sgn (crs o p t) < 0) = opp (crs o p s) (crs o p t) := sgn_opp
  have b1 := mul_bd (sgn_bd (crs s t o)).1 (sgn_bd (crs s t o)).2 (sgn_bd (crs s t p)).1 (sgn_bd (crs s t p)).2
  have b2 := mul_bd (sgn_bd (crs o p s)).1 (sgn_bd (crs o p s)).2 (sgn_bd (crs o p t)).1 (sgn_bd (crs o p t)).2
  simp only [argsL]
  unfold meetS touchS at hb
  rw [← m1, ← m2] at hb
  clear m1 m2
  generalize sgn (crs s t o) = a1 at *
  generalize sgn (crs s t p) = a2 at *
  generalize sgn (crs o p s) = a3 at *
  generalize sgn (crs o p t) = a4 at *
  generalize hp1 : a1 * a2 = p1 at *
  generalize hp2 : a3 * a4 = p2 at *
  have w1 : IntKind.i64.wrap (a1 * a2) = p1 := by rw [hp1]; exact wrap_of (by omega) (by omega)
  have w2 : IntKind.i64.wrap (a3 * a4) = p2 := by rw [hp2]; exact wrap_of (by omega) (by omega)
  clear hp1 hp2
  cases h1 : onS s t o
  · have c1 := c1 h1
    cases h2 : onS s t p
    · have c2 := c2 h2
      cases h3 : onS o p s
      · have c3 := c3 h3
        cases h4 : onS o p t
        · have c4 := c4 h4
          rw [h1, h2, h3, h4] at hb
          by_cases h5 : p1 < 0
          · by_cases h6 : p2 < 0
            · repeat (first | first | apply ef_seq | (apply ef_mv; exact rfl; exact rfl) | (apply ef_bin; exact rfl; exact rfl; exact rfl; (first | exact cmp_t rfl (by first | exact rfl | (simp only [cmpP]; omega)) | exact cmp_f rfl (by simp only [cmpP]; omega) | ((with_reducible refine bin_mul (wrap_of ?_ ?_)) <;> omega) | with_reducible exact bin_mul (by assumption) | exact rfl)) | (apply ef_gy; exact rfl; (first | exact (rfl : true = true) | exact (rfl : false = false) | exact (rfl : true = !false) | exact (rfl : false = !true) | assumption | exact decide_eq_true (by omega) | exact decide_eq_false (by omega))) | (apply ef_gn; exact rfl; (first | exact (rfl : true = true) | exact (rfl : false = false) | exact (rfl : true = !false) | exact (rfl : false = !true) | assumption | exact decide_eq_true (by omega) | exact decide_eq_false (by omega)); exact rfl) | (apply ef_gu; exact rfl; exact rfl) | (apply ef_pick; exact rfl; exact rfl; exact rfl) | (apply ef_pickb; exact rfl; exact rfl; exact rfl; exact rfl) | (apply ef_ldr; exact rfl; exact rfl; (first | exact rd_2 rfl rfl | exact rfl)) | (apply ef_ldp; exact rfl; exact rfl; exact rfl; exact rfl; (first | exact rfl | assumption); (first | exact rd_2 rfl rfl | exact rfl)) | (apply ef_box; exact rfl; exact rfl; exact rfl; exact rfl) | apply ef_nil | apply seqQ.normal | apply ef_ret | apply seqQ.ret | apply ef_skip | (apply ef_condt; exact rfl; (first | exact (rfl : true = true) | assumption | exact decide_eq_true (by omega))) | (apply ef_condf; exact rfl; (first | exact (rfl : false = false) | assumption | exact decide_eq_false (by omega))) | (apply ef_call; exact rfl; ((repeat (apply XVs.cons; exact rfl)); exact XVs.nil); (with_reducible first | exact c1 _ | exact c2 _ | exact c3 _ | exact c4 _ | exact t1 _ | exact t2 _ | exact t3 _ | exact t4 _)))
              (refine fin1 rfl (by exact rfl) rfl ?_)
              rw [← hb]; simp [h5, h6]
            · repeat (first | first | apply ef_seq | (apply ef_mv; exact rfl; exact rfl) | (apply ef_bin; exact rfl; exact rfl; exact rfl; (first | exact cmp_t rfl (by first | exact rfl | (simp only [cmpP]; omega)) | exact cmp_f rfl (by simp only [cmpP]; omega) | ((with_reducible refine bin_mul (wrap_of ?_ ?_)) <;> omega) | with_reducible exact bin_mul (by assumption) | exact rfl)) | (apply ef_gy; exact rfl; (first | exact (rfl : true = true) | exact (rfl : false = false) | exact (rfl : true = !false) | exact (rfl : false = !true) | assumption | exact decide_eq_true (by omega) | exact decide_eq_false (by omega))) | (apply ef_gn; exact rfl; (first | exact (rfl : true = true) | exact (rfl : false = false) | exact (rfl : true = !false) | exact (rfl : false = !true) | assumption | exact decide_eq_true (by omega) | exact decide_eq_false (by omega)); exact rfl) | (apply ef_gu; exact rfl; exact rfl) | (apply ef_pick; exact rfl; exact rfl; exact rfl) | (apply ef_pickb; exact rfl; exact rfl; exact rfl; exact rfl) | (apply ef_ldr; exact rfl; exact rfl; (first | exact rd_2 rfl rfl | exact rfl)) | (apply ef_ldp; exact rfl; exact rfl; exact rfl; exact rfl; (first | exact rfl | assumption); (first | exact rd_2 rfl rfl | exact rfl)) | (apply ef_box; exact rfl; exact rfl; exact rfl; exact rfl) | apply ef_nil | apply seqQ.normal | apply ef_ret | apply seqQ.ret | apply ef_skip | (apply ef_condt; exact rfl; (first | exact (rfl : true = true) | assumption | exact decide_eq_true (by omega))) | (apply ef_condf; exact rfl; (first | exact (rfl : false = false) | assumption | exact decide_eq_false (by omega))) | (apply ef_call; exact rfl; ((repeat (apply XVs.cons; exact rfl)); exact XVs.nil); (with_reducible first | exact c1 _ | exact c2 _ | exact c3 _ | exact c4 _ | exact t1 _ | exact t2 _ | exact t3 _ | exact t4 _)))
              (refine fin1 rfl (by exact rfl) rfl ?_)
              rw [← hb]; simp [h5, h6]
          · repeat (first | first | apply ef_seq | (apply ef_mv; exact rfl; exact rfl) | (apply ef_bin; exact rfl; exact rfl; exact rfl; (first | exact cmp_t rfl (by first | exact rfl | (simp only [cmpP]; omega)) | exact cmp_f rfl (by simp only [cmpP]; omega) | ((with_reducible refine bin_mul (wrap_of ?_ ?_)) <;> omega) | with_reducible exact bin_mul (by assumption) | exact rfl)) | (apply ef_gy; exact rfl; (first | exact (rfl : true = true) | exact (rfl : false = false) | exact (rfl : true = !false) | exact (rfl : false = !true) | assumption | exact decide_eq_true (by omega) | exact decide_eq_false (by omega))) | (apply ef_gn; exact rfl; (first | exact (rfl : true = true) | exact (rfl : false = false) | exact (rfl : true = !false) | exact (rfl : false = !true) | assumption | exact decide_eq_true (by omega) | exact decide_eq_false (by omega)); exact rfl) | (apply ef_gu; exact rfl; exact rfl) | (apply ef_pick; exact rfl; exact rfl; exact rfl) | (apply ef_pickb; exact rfl; exact rfl; exact rfl; exact rfl) | (apply ef_ldr; exact rfl; exact rfl; (first | exact rd_2 rfl rfl | exact rfl)) | (apply ef_ldp; exact rfl; exact rfl; exact rfl; exact rfl; (first | exact rfl | assumption); (first | exact rd_2 rfl rfl | exact rfl)) | (apply ef_box; exact rfl; exact rfl; exact rfl; exact rfl) | apply ef_nil | apply seqQ.normal | apply ef_ret | apply seqQ.ret | apply ef_skip | (apply ef_condt; exact rfl; (first | exact (rfl : true = true) | assumption | exact decide_eq_true (by omega))) | (apply ef_condf; exact rfl; (first | exact (rfl : false = false) | assumption | exact decide_eq_false (by omega))) | (apply ef_call; exact rfl; ((repeat (apply XVs.cons; exact rfl)); exact XVs.nil); (with_reducible first | exact c1 _ | exact c2 _ | exact c3 _ | exact c4 _ | exact t1 _ | exact t2 _)))
            (refine fin1 rfl (by exact rfl) rfl ?_)
            rw [← hb]; simp [h5]
        · have c4 := c4 h4
          rw [h1, h2, h3, h4] at hb
          repeat (first | first | apply ef_seq | (apply ef_mv; exact rfl; exact rfl) | (apply ef_bin; exact rfl; exact rfl; exact rfl; (first | exact cmp_t rfl (by first | exact rfl | (simp only [cmpP]; omega)) | exact cmp_f rfl (by simp only [cmpP]; omega) | ((with_reducible refine bin_mul (wrap_of ?_ ?_)) <;> omega) | with_reducible exact bin_mul (by assumption) | exact rfl)) | (apply ef_gy; exact rfl; (first | exact (rfl : true = true) | exact (rfl : false = false) | exact (rfl : true = !false) | exact (rfl : false = !true) | assumption | exact decide_eq_true (by omega) | exact decide_eq_false (by omega))) | (apply ef_gn; exact rfl; (first | exact (rfl : true = true) | exact (rfl : false = false) | exact (rfl : true = !false) | exact (rfl : false = !true) | assumption | exact decide_eq_true (by omega) | exact decide_eq_false (by omega)); exact rfl) | (apply ef_gu; exact rfl; exact rfl) | (apply ef_pick; exact rfl; exact rfl; exact rfl) | (apply ef_pickb; exact rfl; exact rfl; exact rfl; exact rfl) | (apply ef_ldr; exact rfl; exact rfl; (first | exact rd_2 rfl rfl | exact rfl)) | (apply ef_ldp; exact rfl; exact rfl; exact rfl; exact rfl; (first | exact rfl | assumption); (first | exact rd_2 rfl rfl | exact rfl)) | (apply ef_box; exact rfl; exact rfl; exact rfl; exact rfl) | apply ef_nil | apply seqQ.normal | apply ef_ret | apply seqQ.ret | apply ef_skip | (apply ef_condt; exact rfl; (first | exact (rfl : true = true) | assumption | exact decide_eq_true (by omega))) | (apply ef_condf; exact rfl; (first | exact (rfl : false = false) | assumption | exact decide_eq_false (by omega))) | (apply ef_call; exact rfl; ((repeat (apply XVs.cons; exact rfl)); exact XVs.nil); (with_reducible first | exact c1 _ | exact c2 _ | exact c3 _ | exact c4 _)))
          (refine fin1 rfl (by exact rfl) rfl ?_)
          rw [← hb]; rfl
      · have c3 := c3 h3
        rw [h1, h2, h3] at hb
        repeat (first | first | apply ef_seq | (apply ef_mv; exact rfl; exact rfl) | (apply ef_bin; exact rfl; exact rfl; exact rfl; (first | exact cmp_t rfl (by first | exact rfl | (simp only [cmpP]; omega)) | exact cmp_f rfl (by simp only [cmpP]; omega) | ((with_reducible refine bin_mul (wrap_of ?_ ?_)) <;> omega) | with_reducible exact bin_mul (by assumption) | exact rfl)) | (apply ef_gy; exact rfl; (first | exact (rfl : true = true) | exact (rfl : false = false) | exact (rfl : true = !false) | exact (rfl : false = !true) | assumption | exact decide_eq_true (by omega) | exact decide_eq_false (by omega))) | (apply ef_gn; exact rfl; (first | exact (rfl : true = true) | exact (rfl : false = false) | exact (rfl : true = !false) | exact (rfl : false = !true) | assumption | exact decide_eq_true (by omega) | exact decide_eq_false (by omega)); exact rfl) | (apply ef_gu; exact rfl; exact rfl) | (apply ef_pick; exact rfl; exact rfl; exact rfl) | (apply ef_pickb; exact rfl; exact rfl; exact rfl; exact rfl) | (apply ef_ldr; exact rfl; exact rfl; (first | exact rd_2 rfl rfl | exact rfl)) | (apply ef_ldp; exact rfl; exact rfl; exact rfl; exact rfl; (first | exact rfl | assumption); (first | exact rd_2 rfl rfl | exact rfl)) | (apply ef_box; exact rfl; exact rfl; exact rfl; exact rfl) | apply ef_nil | apply seqQ.normal | apply ef_ret | apply seqQ.ret | apply ef_skip | (apply ef_condt; exact rfl; (first | exact (rfl : true = true) | assumption | exact decide_eq_true (by omega))) | (apply ef_condf; exact rfl; (first | exact (rfl : false = false) | assumption | exact decide_eq_false (by omega))) | (apply ef_call; exact rfl; ((repeat (apply XVs.cons; exact rfl)); exact XVs.nil); (with_reducible first | exact c1 _ | exact c2 _ | exact c3 _)))
        (refine fin1 rfl (by exact rfl) rfl ?_)
        rw [← hb]; rfl
    · have c2 := c2 h2
      rw [h1, h2] at hb
      repeat (first | first | apply ef_seq | (apply ef_mv; exact rfl; exact rfl) | (apply ef_bin; exact rfl; exact rfl; exact rfl; (first | exact cmp_t rfl (by first | exact rfl | (simp only [cmpP]; omega)) | exact cmp_f rfl (by simp only [cmpP]; omega) | ((with_reducible refine bin_mul (wrap_of ?_ ?_)) <;> omega) | with_reducible exact bin_mul (by assumption) | exact rfl)) | (apply ef_gy; exact rfl; (first | exact (rfl : true = true) | exact (rfl : false = false) | exact (rfl : true = !false) | exact (rfl : false = !true) | assumption | exact decide_eq_true (by omega) | exact decide_eq_false (by omega))) | (apply ef_gn; exact rfl; (first | exact (rfl : true = true) | exact (rfl : false = false) | exact (rfl : true = !false) | exact (rfl : false = !true) | assumption | exact decide_eq_true (by omega) | exact decide_eq_false (by omega)); exact rfl) | (apply ef_gu; exact rfl; exact rfl) | (apply ef_pick; exact rfl; exact rfl; exact rfl) | (apply ef_pickb; exact rfl; exact rfl; exact rfl; exact rfl) | (apply ef_ldr; exact rfl; exact rfl; (first | exact rd_2 rfl rfl | exact rfl)) | (apply ef_ldp; exact rfl; exact rfl; exact rfl; exact rfl; (first | exact rfl | assumption); (first | exact rd_2 rfl rfl | exact rfl)) | (apply ef_box; exact rfl; exact rfl; exact rfl; exact rfl) | apply ef_nil | apply seqQ.normal | apply ef_ret | apply seqQ.ret | apply ef_skip | (apply ef_condt; exact rfl; (first | exact (rfl : true = true) | assumption | exact decide_eq_true (by omega))) | (apply ef_condf; exact rfl; (first | exact (rfl : false = false) | assumption | exact decide_eq_false (by omega))) | (apply ef_call; exact rfl; ((repeat (apply XVs.cons; exact rfl)); exact XVs.nil); (with_reducible first | exact c1 _ | exact c2 _)))
      (refine fin1 rfl (by exact rfl) rfl ?_)
      rw [← hb]; rfl
  · have c1 := c1 h1
    rw [h1] at hb
    repeat (first | first | apply ef_seq | (apply ef_mv; exact rfl; exact rfl) | (apply ef_bin; exact rfl; exact rfl; exact rfl; (first | exact cmp_t rfl (by first | exact rfl | (simp only [cmpP]; omega)) | exact cmp_f rfl (by simp only [cmpP]; omega) | ((with_reducible refine bin_mul (wrap_of ?_ ?_)) <;> omega) | with_reducible exact bin_mul (by assumption) | exact rfl)) | (apply ef_gy; exact rfl; (first | exact (rfl : true = true) | exact (rfl : false = false) | exact (rfl : true = !false) | exact (rfl : false = !true) | assumption | exact decide_eq_true (by omega) | exact decide_eq_false (by omega))) | (apply ef_gn; exact rfl; (first | exact (rfl : true = true) | exact (rfl : false = false) | exact (rfl : true = !false) | exact (rfl : false = !true) | assumption | exact decide_eq_true (by omega) | exact decide_eq_false (by omega)); exact rfl) | (apply ef_gu; exact rfl; exact rfl) | (apply ef_pick; exact rfl; exact rfl; exact rfl) | (apply ef_pickb; exact rfl; exact rfl; exact rfl; exact rfl) | (apply ef_ldr; exact rfl; exact rfl; (first | exact rd_2 rfl rfl | exact rfl)) | (apply ef_ldp; exact rfl; exact rfl; exact rfl; exact rfl; (first | exact rfl | assumption); (first | exact rd_2 rfl rfl | exact rfl)) | (apply ef_box; exact rfl; exact rfl; exact rfl; exact rfl) | apply ef_nil | apply seqQ.normal | apply ef_ret | apply seqQ.ret | apply ef_skip | (apply ef_condt; exact rfl; (first | exact (rfl : true = true) | assumption | exact decide_eq_true (by omega))) | (apply ef_condf; exact rfl; (first | exact (rfl : false = false) | assumption | exact decide_eq_false (by omega))) | (apply ef_call; exact rfl; ((repeat (apply XVs.cons; exact rfl)); exact XVs.nil); (with_reducible first | exact c1 _)))
    (refine fin1 rfl (by exact rfl) rfl ?_)
    rw [← hb]; rfl
theorem mf_rclash : MT.mf 104 = some ⟨62, [(.tmp 6)], (.seq (.reg [⟨none, (some 3), (.box 1 (.s 0))⟩, ⟨none, (some 6), (.mv (.c (.lit (.bool false))))⟩]) (.seq (.reg [⟨none, (some 13), (.ld (some 1) (.s 3))⟩, ⟨none, (some 14), (.mv (.s 1))⟩, ⟨none, (some 15), (.call 103 [(.s 13), (.s 14)])⟩, ⟨none, (some 12), (.mv (.s 15))⟩, ⟨none, (some 16), (.ext (.s 12) 0)⟩, ⟨none, (some 17), (.ext (.s 12) 1)⟩, ⟨none, (some 7), (.new (.agg [(.lit (.int .i64 0)), (.lit (.int .i64 0))]))⟩, ⟨none, (some 8), (.new (.agg [(.lit (.int .i64 0)), (.lit (.int .i64 0))]))⟩, ⟨none, none, (.st 2 (.s 7) (.s 16))⟩, ⟨none, none, (.st 2 (.s 8) (.s 17))⟩]) (.seq (.reg [⟨none, (some 19), (.ld (some 1) (.s 3))⟩, ⟨none, (some 20), (.mv (.s 2))⟩, ⟨none, (some 21), (.call 103 [(.s 19), (.s 20)])⟩, ⟨none, (some 18), (.mv (.s 21))⟩, ⟨none, (some 22), (.ext (.s 18) 0)⟩, ⟨none, (some 23), (.ext (.s 18) 1)⟩, ⟨none, (some 9), (.new (.agg [(.lit (.int .i64 0)), (.lit (.int .i64 0))]))⟩, ⟨none, (some 10), (.new (.agg [(.lit (.int .i64 0)), (.lit (.int .i64 0))]))⟩, ⟨none, none, (.st 2 (.s 9) (.s 22))⟩, ⟨none, none, (.st 2 (.s 10) (.s 23))⟩]) (.seq (.reg [⟨none, (some 24), (.fa 0 (.s 3))⟩, ⟨none, (some 25), (.ld none (.s 24))⟩, ⟨none, (some 26), (.len (.s 25))⟩, ⟨none, (some 11), (.mv (.s 26))⟩]) (.seq (.seq (.reg [⟨none, (some 27), (.mv (.s 2))⟩, ⟨none, (some 28), (.mv (.s 1))⟩, ⟨none, (some 29), (.bin .add (.s 28) (.c (.lit (.int .i64 1))))⟩, ⟨none, (some 30), (.bin .eql (.s 27) (.s 29))⟩]) (.cond (.s 30) (.seq (.reg [⟨none, (some 31), (.ld (some 2) (.s 7))⟩, ⟨none, (some 32), (.ld (some 2) (.s 8))⟩, ⟨none, (some 33), (.ld (some 2) (.s 10))⟩, ⟨none, (some 34), (.call 105 [(.s 31), (.s 32), (.s 33)])⟩, ⟨none, (some 35), (.mv (.s 34))⟩, ⟨(some (35, false)), (some 36), (.ld (some 2) (.s 9))⟩, ⟨(some (35, false)), (some 37), (.ld (some 2) (.s 10))⟩, ⟨(some (35, false)), (some 38), (.ld (some 2) (.s 7))⟩, ⟨(some (35, false)), (some 39), (.call 105 [(.s 36), (.s 37), (.s 38)])⟩, ⟨none, (some 40), (.pick (.s 35) (.c (.lit (.bool true))) (.s 39))⟩, ⟨none, (some 6), (.mv (.s 40))⟩]) .ret) .skip)) (.seq (.seq (.reg [⟨none, (some 41), (.mv (.s 2))⟩, ⟨none, (some 42), (.bin .add (.s 41) (.c (.lit (.int .i64 1))))⟩, ⟨none, (some 43), (.mv (.s 11))⟩, ⟨none, (some 44), (.bin .rem (.s 42) (.s 43))⟩, ⟨none, (some 45), (.mv (.s 1))⟩, ⟨none, (some 46), (.bin .eql (.s 44) (.s 45))⟩]) (.cond (.s 46) (.seq (.reg [⟨none, (some 47), (.ld (some 2) (.s 7))⟩, ⟨none, (some 48), (.ld (some 2) (.s 8))⟩, ⟨none, (some 49), (.ld (some 2) (.s 9))⟩, ⟨none, (some 50), (.call 105 [(.s 47), (.s 48), (.s 49)])⟩, ⟨none, (some 51), (.mv (.s 50))⟩, ⟨(some (51, false)), (some 52), (.ld (some 2) (.s 9))⟩, ⟨(some (51, false)), (some 53), (.ld (some 2) (.s 10))⟩, ⟨(some (51, false)), (some 54), (.ld (some 2) (.s 8))⟩, ⟨(some (51, false)), (some 55), (.call 105 [(.s 52), (.s 53), (.s 54)])⟩, ⟨none, (some 56), (.pick (.s 51) (.c (.lit (.bool true))) (.s 55))⟩, ⟨none, (some 6), (.mv (.s 56))⟩]) .ret) .skip)) (.seq (.reg [⟨none, (some 57), (.ld (some 2) (.s 7))⟩, ⟨none, (some 58), (.ld (some 2) (.s 8))⟩, ⟨none, (some 59), (.ld (some 2) (.s 9))⟩, ⟨none, (some 60), (.ld (some 2) (.s 10))⟩, ⟨none, (some 61), (.call 150 [(.s 57), (.s 58), (.s 59), (.s 60)])⟩, ⟨none, (some 6), (.mv (.s 61))⟩]) .ret)))))))⟩ := by kernel_rfl
set_option maxHeartbeats 1000000 in
theorem rclash_c (k : Nat) (cs : List Pt) (hl : cs.length ≤ 1000) (hin : ∀ p ∈ cs, InP p) {i j : Nat} (hij : i < j) (hj : j < cs.length) (h : MHeap) {b : Bool} (hb : clashS i (corner cs i) (nextC cs i) j (corner cs j) (nextC cs j) cs.length = b) :
    orA (k + 4) 104 [encPg cs, I64 (i : Int), I64 (j : Int)] h = some (Bo b, h) := by
  refine callL (args' := [encPg cs, I64 (i : Int), I64 (j : Int)]) (frzL_lt (by simp [ltL, MV.lt, ltL_Pt])) rfl (runZ_of mf_rclash (by simp) ?_)
  have hs : (MV.sl (cs.map encPt)).slen = some cs.length := by simp [MV.slen]
  have s1 := fun h => rside_c (k + 2) cs hl (show i < cs.length by omega) h
  have s2 := fun h => rside_c (k + 2) cs hl hj h
  have q1 := corner_inP hin i
  have q2 := nextC_inP hin i
  have q3 := corner_inP hin j
  have q4 := nextC_inP hin j
  have hr := rem_next hj
  have hmod : (j + 1) % cs.length = i ↔ (i = 0 ∧ j = cs.length - 1) := by
    by_cases hjl : j + 1 = cs.length
    · rw [hjl, Nat.mod_self]; omega
    · rw [Nat.mod_eq_of_lt (by omega)]; omega
  have hml : (j + 1) % cs.length < cs.length := Nat.mod_lt _ (by omega)
  have hc : (((i : Int) = 0 ∧ (j : Int) = (cs.length : Int) - 1)) ↔ (j + 1) % cs.length = i := by rw [hmod]; omega
  unfold clashS at hb
  simp only [hc] at hb
  clear hc hmod
  simp only [argsL]
  generalize corner cs i = s at *
  generalize nextC cs i = t at *
  generalize corner cs j = o at *
  generalize nextC cs j = p at *
  generalize (j + 1) % cs.length = m at *
  have c1 := fun {b} (hb : onS s t p = b) h => rOn_c (k + 1) s t p q1 q2 q4 h hb
  have c2 := fun {b} (hb : onS o p s = b) h => rOn_c (k + 1) o p s q3 q4 q1 h hb
  have c3 := fun {b} (hb : onS s t o = b) h => rOn_c (k + 1) s t o q1 q2 q3 h hb
  have c4 := fun {b} (hb : onS o p t = b) h => rOn_c (k + 1) o p t q3 q4 q2 h hb
  by_cases h1 : (j : Int) = (i : Int) + 1
  · rw [if_pos h1] at hb
    cases h2 : onS s t p
    · have c1 := c1 h2
      have c2 := fun h => c2 rfl h
      rw [h2, Bool.false_or] at hb
      rw [hb] at c2
      repeat (first | first | apply ef_seq | (apply ef_mv; exact rfl; exact rfl) | (apply ef_bin; exact rfl; exact rfl; exact rfl; (first | exact cmp_t rfl (by first | exact rfl | (simp only [cmpP]; omega)) | exact cmp_f rfl (by simp only [cmpP]; omega) | ((with_reducible refine bin_add (wrap_of ?_ ?_)) <;> omega) | with_reducible exact bin_add (by assumption) | exact rfl)) | (apply ef_gy; exact rfl; (first | exact (rfl : true = true) | exact (rfl : false = false) | exact (rfl : true = !false) | exact (rfl : false = !true) | assumption | exact decide_eq_true (by omega) | exact decide_eq_false (by omega))) | (apply ef_gn; exact rfl; (first | exact (rfl : true = true) | exact (rfl : false = false) | exact (rfl : true = !false) | exact (rfl : false = !true) | assumption | exact decide_eq_true (by omega) | exact decide_eq_false (by omega)); exact rfl) | (apply ef_gu; exact rfl; exact rfl) | (apply ef_pick; exact rfl; exact rfl; exact rfl) | (apply ef_pickb; exact rfl; exact rfl; exact rfl; exact rfl) | (apply ef_len; exact rfl; exact rfl; (first | assumption | exact rfl)) | (apply ef_ldr; exact rfl; exact rfl; (first | exact rd_1 rfl | exact rd_2 rfl rfl | exact rfl)) | (apply ef_ldp; exact rfl; exact rfl; exact rfl; exact rfl; (first | exact rfl | assumption); (first | exact rd_1 rfl | exact rd_2 rfl rfl | exact rfl)) | (apply ef_fap; exact rfl; exact rfl) | (apply ef_far; exact rfl; exact rfl) | (apply ef_ext; exact rfl; exact rfl; exact rfl) | (apply ef_box; exact rfl; exact rfl; exact rfl; exact rfl) | (apply ef_new; exact rfl) | (apply ef_st; exact rfl; exact rfl; exact rfl; exact rfl; exact rfl; exact rfl; (first | exact rfl | assumption); exact rfl) | apply ef_nil | apply seqQ.normal | apply ef_ret | apply seqQ.ret | apply ef_skip | (apply ef_condt; exact rfl; (first | exact (rfl : true = true) | assumption | exact decide_eq_true (by omega))) | (apply ef_condf; exact rfl; (first | exact (rfl : false = false) | assumption | exact decide_eq_false (by omega))) | (apply ef_call; exact rfl; ((repeat (apply XVs.cons; exact rfl)); exact XVs.nil); (with_reducible first | exact s1 _ | exact s2 _ | exact c1 _ | exact c2 _)))
      (refine fin1 rfl (by exact rfl) rfl ?_)
      rfl
    · have c1 := c1 h2
      rw [h2, Bool.true_or] at hb
      repeat (first | first | apply ef_seq | (apply ef_mv; exact rfl; exact rfl) | (apply ef_bin; exact rfl; exact rfl; exact rfl; (first | exact cmp_t rfl (by first | exact rfl | (simp only [cmpP]; omega)) | exact cmp_f rfl (by simp only [cmpP]; omega) | ((with_reducible refine bin_add (wrap_of ?_ ?_)) <;> omega) | with_reducible exact bin_add (by assumption) | exact rfl)) | (apply ef_gy; exact rfl; (first | exact (rfl : true = true) | exact (rfl : false = false) | exact (rfl : true = !false) | exact (rfl : false = !true) | assumption | exact decide_eq_true (by omega) | exact decide_eq_false (by omega))) | (apply ef_gn; exact rfl; (first | exact (rfl : true = true) | exact (rfl : false = false) | exact (rfl : true = !false) | exact (rfl : false = !true) | assumption | exact decide_eq_true (by omega) | exact decide_eq_false (by omega)); exact rfl) | (apply ef_gu; exact rfl; exact rfl) | (apply ef_pick; exact rfl; exact rfl; exact rfl) | (apply ef_pickb; exact rfl; exact rfl; exact rfl; exact rfl) | (apply ef_len; exact rfl; exact rfl; (first | assumption | exact rfl)) | (apply ef_ldr; exact rfl; exact rfl; (first | exact rd_1 rfl | exact rd_2 rfl rfl | exact rfl)) | (apply ef_ldp; exact rfl; exact rfl; exact rfl; exact rfl; (first | exact rfl | assumption); (first | exact rd_1 rfl | exact rd_2 rfl rfl | exact rfl)) | (apply ef_fap; exact rfl; exact rfl) | (apply ef_far; exact rfl; exact rfl) | (apply ef_ext; exact rfl; exact rfl; exact rfl) | (apply ef_box; exact rfl; exact rfl; exact rfl; exact rfl) | (apply ef_new; exact rfl) | (apply ef_st; exact rfl; exact rfl; exact rfl; exact rfl; exact rfl; exact rfl; (first | exact rfl | assumption); exact rfl) | apply ef_nil | apply seqQ.normal | apply ef_ret | apply seqQ.ret | apply ef_skip | (apply ef_condt; exact rfl; (first | exact (rfl : true = true) | assumption | exact decide_eq_true (by omega))) | (apply ef_condf; exact rfl; (first | exact (rfl : false = false) | assumption | exact decide_eq_false (by omega))) | (apply ef_call; exact rfl; ((repeat (apply XVs.cons; exact rfl)); exact XVs.nil); (with_reducible first | exact s1 _ | exact s2 _ | exact c1 _)))
      (refine fin1 rfl (by exact rfl) rfl ?_)
      rw [← hb]
  · rw [if_neg h1] at hb
    by_cases h3 : m = i
    · rw [if_pos h3] at hb
      cases h2 : onS s t o
      · have c3 := c3 h2
        have c4 := fun h => c4 rfl h
        rw [h2, Bool.false_or] at hb
        rw [hb] at c4
        repeat (first | first | apply ef_seq | (apply ef_mv; exact rfl; exact rfl) | (apply ef_bin; exact rfl; exact rfl; exact rfl; (first | exact cmp_t rfl (by first | exact rfl | (simp only [cmpP]; omega)) | exact cmp_f rfl (by simp only [cmpP]; omega) | ((with_reducible refine bin_add (wrap_of ?_ ?_)) <;> omega) | with_reducible exact bin_add (by assumption) | exact rfl)) | (apply ef_gy; exact rfl; (first | exact (rfl : true = true) | exact (rfl : false = false) | exact (rfl : true = !false) | exact (rfl : false = !true) | assumption | exact decide_eq_true (by omega) | exact decide_eq_false (by omega))) | (apply ef_gn; exact rfl; (first | exact (rfl : true = true) | exact (rfl : false = false) | exact (rfl : true = !false) | exact (rfl : false = !true) | assumption | exact decide_eq_true (by omega) | exact decide_eq_false (by omega)); exact rfl) | (apply ef_gu; exact rfl; exact rfl) | (apply ef_pick; exact rfl; exact rfl; exact rfl) | (apply ef_pickb; exact rfl; exact rfl; exact rfl; exact rfl) | (apply ef_len; exact rfl; exact rfl; (first | assumption | exact rfl)) | (apply ef_ldr; exact rfl; exact rfl; (first | exact rd_1 rfl | exact rd_2 rfl rfl | exact rfl)) | (apply ef_ldp; exact rfl; exact rfl; exact rfl; exact rfl; (first | exact rfl | assumption); (first | exact rd_1 rfl | exact rd_2 rfl rfl | exact rfl)) | (apply ef_fap; exact rfl; exact rfl) | (apply ef_far; exact rfl; exact rfl) | (apply ef_ext; exact rfl; exact rfl; exact rfl) | (apply ef_box; exact rfl; exact rfl; exact rfl; exact rfl) | (apply ef_new; exact rfl) | (apply ef_st; exact rfl; exact rfl; exact rfl; exact rfl; exact rfl; exact rfl; (first | exact rfl | assumption); exact rfl) | apply ef_nil | apply seqQ.normal | apply ef_ret | apply seqQ.ret | apply ef_skip | (apply ef_condt; exact rfl; (first | exact (rfl : true = true) | assumption | exact decide_eq_true (by omega))) | (apply ef_condf; exact rfl; (first | exact (rfl : false = false) | assumption | exact decide_eq_false (by omega))) | (apply ef_call; exact rfl; ((repeat (apply XVs.cons; exact rfl)); exact XVs.nil); (with_reducible first | exact s1 _ | exact s2 _)))
        (apply ef_bin; (· exact rfl); (· exact rfl); (· exact rfl); (· exact hr))
        repeat (first | first | apply ef_seq | (apply ef_mv; exact rfl; exact rfl) | (apply ef_bin; exact rfl; exact rfl; exact rfl; (first | exact cmp_t rfl (by first | exact rfl | (simp only [cmpP]; omega)) | exact cmp_f rfl (by simp only [cmpP]; omega) | ((with_reducible refine bin_add (wrap_of ?_ ?_)) <;> omega) | with_reducible exact bin_add (by assumption) | exact rfl)) | (apply ef_gy; exact rfl; (first | exact (rfl : true = true) | exact (rfl : false = false) | exact (rfl : true = !false) | exact (rfl : false = !true) | assumption | exact decide_eq_true (by omega) | exact decide_eq_false (by omega))) | (apply ef_gn; exact rfl; (first | exact (rfl : true = true) | exact (rfl : false = false) | exact (rfl : true = !false) | exact (rfl : false = !true) | assumption | exact decide_eq_true (by omega) | exact decide_eq_false (by omega)); exact rfl) | (apply ef_gu; exact rfl; exact rfl) | (apply ef_pick; exact rfl; exact rfl; exact rfl) | (apply ef_pickb; exact rfl; exact rfl; exact rfl; exact rfl) | (apply ef_len; exact rfl; exact rfl; (first | assumption | exact rfl)) | (apply ef_ldr; exact rfl; exact rfl; (first | exact rd_1 rfl | exact rd_2 rfl rfl | exact rfl)) | (apply ef_ldp; exact rfl; exact rfl; exact rfl; exact rfl; (first | exact rfl | assumption); (first | exact rd_1 rfl | exact rd_2 rfl rfl | exact rfl)) | (apply ef_fap; exact rfl; exact rfl) | (apply ef_far; exact rfl; exact rfl) | (apply ef_ext; exact rfl; exact rfl; exact rfl) | (apply ef_box; exact rfl; exact rfl; exact rfl; exact rfl) | (apply ef_new; exact rfl) | (apply ef_st; exact rfl; exact rfl; exact rfl; exact rfl; exact rfl; exact rfl; (first | exact rfl | assumption); exact rfl) | apply ef_nil | apply seqQ.normal | apply ef_ret | apply seqQ.ret | apply ef_skip | (apply ef_condt; exact rfl; (first | exact (rfl : true = true) | assumption | exact decide_eq_true (by omega))) | (apply ef_condf; exact rfl; (first | exact (rfl : false = false) | assumption | exact decide_eq_false (by omega))) | (apply ef_call; exact rfl; ((repeat (apply XVs.cons; exact rfl)); exact XVs.nil); (with_reducible first | exact c3 _ | exact c4 _)))
        (refine fin1 rfl (by exact rfl) rfl ?_)
        rfl
      · have c3 := c3 h2
        rw [h2, Bool.true_or] at hb
        repeat (first | first | apply ef_seq | (apply ef_mv; exact rfl; exact rfl) | (apply ef_bin; exact rfl; exact rfl; exact rfl; (first | exact cmp_t rfl (by first | exact rfl | (simp only [cmpP]; omega)) | exact cmp_f rfl (by simp only [cmpP]; omega) | ((with_reducible refine bin_add (wrap_of ?_ ?_)) <;> omega) | with_reducible exact bin_add (by assumption) | exact rfl)) | (apply ef_gy; exact rfl; (first | exact (rfl : true = true) | exact (rfl : false = false) | exact (rfl : true = !false) | exact (rfl : false = !true) | assumption | exact decide_eq_true (by omega) | exact decide_eq_false (by omega))) | (apply ef_gn; exact rfl; (first | exact (rfl : true = true) | exact (rfl : false = false) | exact (rfl : true = !false) | exact (rfl : false = !true) | assumption | exact decide_eq_true (by omega) | exact decide_eq_false (by omega)); exact rfl) | (apply ef_gu; exact rfl; exact rfl) | (apply ef_pick; exact rfl; exact rfl; exact rfl) | (apply ef_pickb; exact rfl; exact rfl; exact rfl; exact rfl) | (apply ef_len; exact rfl; exact rfl; (first | assumption | exact rfl)) | (apply ef_ldr; exact rfl; exact rfl; (first | exact rd_1 rfl | exact rd_2 rfl rfl | exact rfl)) | (apply ef_ldp; exact rfl; exact rfl; exact rfl; exact rfl; (first | exact rfl | assumption); (first | exact rd_1 rfl | exact rd_2 rfl rfl | exact rfl)) | (apply ef_fap; exact rfl; exact rfl) | (apply ef_far; exact rfl; exact rfl) | (apply ef_ext; exact rfl; exact rfl; exact rfl) | (apply ef_box; exact rfl; exact rfl; exact rfl; exact rfl) | (apply ef_new; exact rfl) | (apply ef_st; exact rfl; exact rfl; exact rfl; exact rfl; exact rfl; exact rfl; (first | exact rfl | assumption); exact rfl) | apply ef_nil | apply seqQ.normal | apply ef_ret | apply seqQ.ret | apply ef_skip | (apply ef_condt; exact rfl; (first | exact (rfl : true = true) | assumption | exact decide_eq_true (by omega))) | (apply ef_condf; exact rfl; (first | exact (rfl : false = false) | assumption | exact decide_eq_false (by omega))) | (apply ef_call; exact rfl; ((repeat (apply XVs.cons; exact rfl)); exact XVs.nil); (with_reducible first | exact s1 _ | exact s2 _)))
        (apply ef_bin; (· exact rfl); (· exact rfl); (· exact rfl); (· exact hr))
        repeat (first | first | apply ef_seq | (apply ef_mv; exact rfl; exact rfl) | (apply ef_bin; exact rfl; exact rfl; exact rfl; (first | exact cmp_t rfl (by first | exact rfl | (simp only [cmpP]; omega)) | exact cmp_f rfl (by simp only [cmpP]; omega) | ((with_reducible refine bin_add (wrap_of ?_ ?_)) <;> omega) | with_reducible exact bin_add (by assumption) | exact rfl)) | (apply ef_gy; exact rfl; (first | exact (rfl : true = true) | exact (rfl : false = false) | exact (rfl : true = !false) | exact (rfl : false = !true) | assumption | exact decide_eq_true (by omega) | exact decide_eq_false (by omega))) | (apply ef_gn; exact rfl; (first | exact (rfl : true = true) | exact (rfl : false = false) | exact (rfl : true = !false) | exact (rfl : false = !true) | assumption | exact decide_eq_true (by omega) | exact decide_eq_false (by omega)); exact rfl) | (apply ef_gu; exact rfl; exact rfl) | (apply ef_pick; exact rfl; exact rfl; exact rfl) | (apply ef_pickb; exact rfl; exact rfl; exact rfl; exact rfl) | (apply ef_len; exact rfl; exact rfl; (first | assumption | exact rfl)) | (apply ef_ldr; exact rfl; exact rfl; (first | exact rd_1 rfl | exact rd_2 rfl rfl | exact rfl)) | (apply ef_ldp; exact rfl; exact rfl; exact rfl; exact rfl; (first | exact rfl | assumption); (first | exact rd_1 rfl | exact rd_2 rfl rfl | exact rfl)) | (apply ef_fap; exact rfl; exact rfl) | (apply ef_far; exact rfl; exact rfl) | (apply ef_ext; exact rfl; exact rfl; exact rfl) | (apply ef_box; exact rfl; exact rfl; exact rfl; exact rfl) | (apply ef_new; exact rfl) | (apply ef_st; exact rfl; exact rfl; exact rfl; exact rfl; exact rfl; exact rfl; (first | exact rfl | assumption); exact rfl) | apply ef_nil | apply seqQ.normal | apply ef_ret | apply seqQ.ret | apply ef_skip | (apply ef_condt; exact rfl; (first | exact (rfl : true = true) | assumption | exact decide_eq_true (by omega))) | (apply ef_condf; exact rfl; (first | exact (rfl : false = false) | assumption | exact decide_eq_false (by omega))) | (apply ef_call; exact rfl; ((repeat (apply XVs.cons; exact rfl)); exact XVs.nil); (with_reducible first | exact c3 _)))
        (refine fin1 rfl (by exact rfl) rfl ?_)
        rw [← hb]
    · rw [if_neg h3] at hb
      have ct := fun h => rtouch_c k s t o p q1 q2 q3 q4 h hb
      repeat (first | first | apply ef_seq | (apply ef_mv; exact rfl; exact rfl) | (apply ef_bin; exact rfl; exact rfl; exact rfl; (first | exact cmp_t rfl (by first | exact rfl | (simp only [cmpP]; omega)) | exact cmp_f rfl (by simp only [cmpP]; omega) | ((with_reducible refine bin_add (wrap_of ?_ ?_)) <;> omega) | with_reducible exact bin_add (by assumption) | exact rfl)) | (apply ef_gy; exact rfl; (first | exact (rfl : true = true) | exact (rfl : false = false) | exact (rfl : true = !false) | exact (rfl : false = !true) | assumption | exact decide_eq_true (by omega) | exact decide_eq_false (by omega))) | (apply ef_gn; exact rfl; (first | exact (rfl : true = true) | exact (rfl : false = false) | exact (rfl : true = !false) | exact (rfl : false = !true) | assumption | exact decide_eq_true (by omega) | exact decide_eq_false (by omega)); exact rfl) | (apply ef_gu; exact rfl; exact rfl) | (apply ef_pick; exact rfl; exact rfl; exact rfl) | (apply ef_pickb; exact rfl; exact rfl; exact rfl; exact rfl) | (apply ef_len; exact rfl; exact rfl; (first | assumption | exact rfl)) | (apply ef_ldr; exact rfl; exact rfl; (first | exact rd_1 rfl | exact rd_2 rfl rfl | exact rfl)) | (apply ef_ldp; exact rfl; exact rfl; exact rfl; exact rfl; (first | exact rfl | assumption); (first | exact rd_1 rfl | exact rd_2 rfl rfl | exact rfl)) | (apply ef_fap; exact rfl; exact rfl) | (apply ef_far; exact rfl; exact rfl) | (apply ef_ext; exact rfl; exact rfl; exact rfl) | (apply ef_box; exact rfl; exact rfl; exact rfl; exact rfl) | (apply ef_new; exact rfl) | (apply ef_st; exact rfl; exact rfl; exact rfl; exact rfl; exact rfl; exact rfl; (first | exact rfl | assumption); exact rfl) | apply ef_nil | apply seqQ.normal | apply ef_ret | apply seqQ.ret | apply ef_skip | (apply ef_condt; exact rfl; (first | exact (rfl : true = true) | assumption | exact decide_eq_true (by omega))) | (apply ef_condf; exact rfl; (first | exact (rfl : false = false) | assumption | exact decide_eq_false (by omega))) | (apply ef_call; exact rfl; ((repeat (apply XVs.cons; exact rfl)); exact XVs.nil); (with_reducible first | exact s1 _ | exact s2 _)))
      (apply ef_bin; (· exact rfl); (· exact rfl); (· exact rfl); (· exact hr))
      repeat (first | first | apply ef_seq | (apply ef_mv; exact rfl; exact rfl) | (apply ef_bin; exact rfl; exact rfl; exact rfl; (first | exact cmp_t rfl (by first | exact rfl | (simp only [cmpP]; omega)) | exact cmp_f rfl (by simp only [cmpP]; omega) | ((with_reducible refine bin_add (wrap_of ?_ ?_)) <;> omega) | with_reducible exact bin_add (by assumption) | exact rfl)) | (apply ef_gy; exact rfl; (first | exact (rfl : true = true) | exact (rfl : false = false) | exact (rfl : true = !false) | exact (rfl : false = !true) | assumption | exact decide_eq_true (by omega) | exact decide_eq_false (by omega))) | (apply ef_gn; exact rfl; (first | exact (rfl : true = true) | exact (rfl : false = false) | exact (rfl : true = !false) | exact (rfl : false = !true) | assumption | exact decide_eq_true (by omega) | exact decide_eq_false (by omega)); exact rfl) | (apply ef_gu; exact rfl; exact rfl) | (apply ef_pick; exact rfl; exact rfl; exact rfl) | (apply ef_pickb; exact rfl; exact rfl; exact rfl; exact rfl) | (apply ef_len; exact rfl; exact rfl; (first | assumption | exact rfl)) | (apply ef_ldr; exact rfl; exact rfl; (first | exact rd_1 rfl | exact rd_2 rfl rfl | exact rfl)) | (apply ef_ldp; exact rfl; exact rfl; exact rfl; exact rfl; (first | exact rfl | assumption); (first | exact rd_1 rfl | exact rd_2 rfl rfl | exact rfl)) | (apply ef_fap; exact rfl; exact rfl) | (apply ef_far; exact rfl; exact rfl) | (apply ef_ext; exact rfl; exact rfl; exact rfl) | (apply ef_box; exact rfl; exact rfl; exact rfl; exact rfl) | (apply ef_new; exact rfl) | (apply ef_st; exact rfl; exact rfl; exact rfl; exact rfl; exact rfl; exact rfl; (first | exact rfl | assumption); exact rfl) | apply ef_nil | apply seqQ.normal | apply ef_ret | apply seqQ.ret | apply ef_skip | (apply ef_condt; exact rfl; (first | exact (rfl : true = true) | assumption | exact decide_eq_true (by omega))) | (apply ef_condf; exact rfl; (first | exact (rfl : false = false) | assumption | exact decide_eq_false (by omega))) | (apply ef_call; exact rfl; ((repeat (apply XVs.cons; exact rfl)); exact XVs.nil); (with_reducible first | exact ct _)))
      (refine fin1 rfl (by exact rfl) rfl ?_)
      rfl
end Go.Proofs.Ytgjpdjihjphbdaa

/- Contracts of polygons: the reference's check, its area. -/
namespace Go.Proofs.Ytgjpdjihjphbdaa
open Go.RowKit
set_option linter.unusedVariables false

theorem posE2_eq (p : Pt) : posE2 p.1 p.2 = posE p := rfl
abbrev pcM (r : Int × Int) : MV := .tup [I64 r.1, I64 r.2]
theorem shapeE_lt {n : Nat} (h : n < 3) : shapeE n = 10 := by
  unfold shapeE
  rw [show decide ((3 : Int) ≤ n) = false by simp; omega]; rfl
theorem shapeE_gt {n : Nat} (h : 12 < n) : shapeE n = 8 := by
  unfold shapeE
  rw [show decide ((3 : Int) ≤ n) = true by simp; omega, show decide ((n : Int) ≤ 12) = false by simp; omega]; rfl
theorem shapeE_in {n : Nat} (h : 3 ≤ n) (h2 : n ≤ 12) : shapeE n = 0 := by
  unfold shapeE
  rw [show decide ((3 : Int) ≤ n) = true by simp; omega, show decide ((n : Int) ≤ 12) = true by simp; omega]; rfl
/-- One side: bad by itself or by the later ones up to j. -/
def badU (cs : List Pt) (i j : Nat) : Bool := (corner cs i == nextC cs i) || (List.range j).any (clashB cs i)
theorem badU_start (cs : List Pt) (i : Nat) : badU cs i (i + 1) = (corner cs i == nextC cs i) := by
  unfold badU
  have : (List.range (i + 1)).any (clashB cs i) = false := by
    rw [List.any_eq_false]
    intro k hk
    have := List.mem_range.1 hk
    unfold clashB
    simp; omega
  rw [this, Bool.or_false]
theorem badU_step (cs : List Pt) {i j : Nat} (h : i < j) : badU cs i (j + 1) = (badU cs i j || clashS i (corner cs i) (nextC cs i) j (corner cs j) (nextC cs j) cs.length) := by
  unfold badU
  rw [List.range_succ, List.any_append, List.any_cons, List.any_nil, Bool.or_false, ← Bool.or_assoc]
  congr 1
  unfold clashB
  simp [h]
theorem mf_rCheckPolygon : MT.mf 29 = some ⟨64, [(.tmp 2), (.tmp 3)], (.seq (.reg [⟨none, (some 1), (.box 1 (.s 0))⟩, ⟨none, (some 2), (.mv (.c (.lit (.int .i64 0))))⟩, ⟨none, (some 3), (.mv (.c (.lit (.int .i64 0))))⟩]) (.seq (.reg [⟨none, (some 12), (.fa 0 (.s 1))⟩, ⟨none, (some 13), (.ld none (.s 12))⟩, ⟨none, (some 14), (.len (.s 13))⟩, ⟨none, (some 4), (.mv (.s 14))⟩]) (.seq (.seq (.reg [⟨none, (some 15), (.mv (.s 4))⟩, ⟨none, (some 16), (.bin .lss (.s 15) (.c (.lit (.int .i64 3))))⟩]) (.cond (.s 16) (.seq (.reg [⟨none, (some 2), (.mv (.c (.lit (.int .i64 0))))⟩, ⟨none, (some 3), (.mv (.c (.lit (.int .i64 10))))⟩]) .ret) .skip)) (.seq (.seq (.reg [⟨none, (some 17), (.mv (.s 4))⟩, ⟨none, (some 18), (.bin .gtr (.s 17) (.c (.lit (.int .i64 12))))⟩]) (.cond (.s 18) (.seq (.reg [⟨none, (some 2), (.mv (.c (.lit (.int .i64 0))))⟩, ⟨none, (some 3), (.mv (.c (.lit (.int .i64 8))))⟩]) .ret) .skip)) (.seq (.seq (.reg [⟨none, (some 5), (.mv (.c (.lit (.int .i64 0))))⟩]) (.block 0 (.loop [5, 4, 1] (.seq (.seq (.reg [⟨none, (some 19), (.mv (.s 5))⟩, ⟨none, (some 20), (.mv (.s 4))⟩, ⟨none, (some 21), (.bin .lss (.s 19) (.s 20))⟩]) (.cond (.s 21) .skip (.exit 0))) (.seq (.block 1 (.seq (.reg [⟨none, (some 24), (.fa 0 (.s 1))⟩, ⟨none, (some 25), (.ld none (.s 24))⟩, ⟨none, (some 26), (.mv (.s 5))⟩, ⟨none, (some 27), (.ia 2 (.s 25) (.s 26))⟩, ⟨none, (some 28), (.ld (some 2) (.s 27))⟩, ⟨none, (some 29), (.call 31 [(.s 28)])⟩, ⟨none, (some 6), (.mv (.s 29))⟩]) (.seq (.reg [⟨none, (some 30), (.mv (.s 6))⟩, ⟨none, (some 31), (.bin .neq (.s 30) (.c (.lit (.int .i64 0))))⟩]) (.cond (.s 31) (.seq (.reg [⟨none, (some 32), (.mv (.s 5))⟩, ⟨none, (some 33), (.mv (.s 6))⟩, ⟨none, (some 2), (.mv (.s 32))⟩, ⟨none, (some 3), (.mv (.s 33))⟩]) .ret) .skip)))) (.reg [⟨none, (some 22), (.mv (.s 5))⟩, ⟨none, (some 23), (.bin .add (.s 22) (.c (.lit (.int .i64 1))))⟩, ⟨none, (some 5), (.mv (.s 23))⟩])))))) (.seq (.seq (.reg [⟨none, (some 7), (.mv (.c (.lit (.int .i64 0))))⟩]) (.block 2 (.loop [7, 4, 1] (.seq (.seq (.reg [⟨none, (some 34), (.mv (.s 7))⟩, ⟨none, (some 35), (.mv (.s 4))⟩, ⟨none, (some 36), (.bin .lss (.s 34) (.s 35))⟩]) (.cond (.s 36) .skip (.exit 2))) (.seq (.block 3 (.seq (.reg [⟨none, (some 40), (.ld (some 1) (.s 1))⟩, ⟨none, (some 41), (.mv (.s 7))⟩, ⟨none, (some 42), (.call 103 [(.s 40), (.s 41)])⟩, ⟨none, (some 39), (.mv (.s 42))⟩, ⟨none, (some 43), (.ext (.s 39) 0)⟩, ⟨none, (some 44), (.ext (.s 39) 1)⟩, ⟨none, (some 8), (.new (.agg [(.lit (.int .i64 0)), (.lit (.int .i64 0))]))⟩, ⟨none, (some 9), (.new (.agg [(.lit (.int .i64 0)), (.lit (.int .i64 0))]))⟩, ⟨none, none, (.st 2 (.s 8) (.s 43))⟩, ⟨none, none, (.st 2 (.s 9) (.s 44))⟩]) (.seq (.reg [⟨none, (some 45), (.ld (some 2) (.s 8))⟩, ⟨none, (some 46), (.ld (some 2) (.s 9))⟩, ⟨none, (some 47), (.eqa 2 false (.s 45) (.s 46))⟩, ⟨none, (some 10), (.mv (.s 47))⟩]) (.seq (.seq (.reg [⟨none, (some 48), (.mv (.s 7))⟩, ⟨none, (some 49), (.bin .add (.s 48) (.c (.lit (.int .i64 1))))⟩, ⟨none, (some 11), (.mv (.s 49))⟩]) (.block 4 (.loop [11, 4, 10, 1, 7] (.seq (.seq (.reg [⟨none, (some 50), (.mv (.s 11))⟩, ⟨none, (some 51), (.mv (.s 4))⟩, ⟨none, (some 52), (.bin .lss (.s 50) (.s 51))⟩]) (.cond (.s 52) .skip (.exit 4))) (.seq (.block 5 (.reg [⟨none, (some 55), (.mv (.s 10))⟩, ⟨none, (some 56), (.mv (.s 55))⟩, ⟨(some (56, false)), (some 57), (.ld (some 1) (.s 1))⟩, ⟨(some (56, false)), (some 58), (.mv (.s 7))⟩, ⟨(some (56, false)), (some 59), (.mv (.s 11))⟩, ⟨(some (56, false)), (some 60), (.call 104 [(.s 57), (.s 58), (.s 59)])⟩, ⟨none, (some 61), (.pick (.s 56) (.c (.lit (.bool true))) (.s 60))⟩, ⟨none, (some 10), (.mv (.s 61))⟩])) (.reg [⟨none, (some 53), (.mv (.s 11))⟩, ⟨none, (some 54), (.bin .add (.s 53) (.c (.lit (.int .i64 1))))⟩, ⟨none, (some 11), (.mv (.s 54))⟩])))))) (.seq (.reg [⟨none, (some 62), (.mv (.s 10))⟩]) (.cond (.s 62) (.seq (.reg [⟨none, (some 63), (.mv (.s 7))⟩, ⟨none, (some 2), (.mv (.s 63))⟩, ⟨none, (some 3), (.mv (.c (.lit (.int .i64 13))))⟩]) .ret) .skip)))))) (.reg [⟨none, (some 37), (.mv (.s 7))⟩, ⟨none, (some 38), (.bin .add (.s 37) (.c (.lit (.int .i64 1))))⟩, ⟨none, (some 7), (.mv (.s 38))⟩])))))) (.seq (.reg [⟨none, (some 2), (.mv (.c (.lit (.int .i64 0))))⟩, ⟨none, (some 3), (.mv (.c (.lit (.int .i64 0))))⟩]) .ret)))))))⟩ := by kernel_rfl
set_option maxHeartbeats 2000000 in
theorem rCheckPolygon_c (k : Nat) (cs : List Pt) (hl : cs.length ≤ 1000) (h : MHeap) {r : Int × Int} (hr : polyCheck cs = r) : orA (k + 5) 29 [encPg cs] h = some (pcM r, h) := by
  subst hr
  refine callP (args' := [encPg cs]) (frzL_lt (by simp [ltL, MV.lt, ltL_Pt])) rfl (runZ_of mf_rCheckPolygon (by simp) ?_) rfl
  have hs : (MV.sl (cs.map encPt)).slen = some cs.length := by simp [MV.slen]
  simp only [argsL]
  by_cases n1 : cs.length < 3
  · repeat (first | apply ef_seq | (apply ef_mv; exact rfl; exact rfl) | (apply ef_bin; exact rfl; exact rfl; exact rfl; (first | exact cmp_t rfl (by first | exact rfl | (simp only [cmpP]; omega)) | exact cmp_f rfl (by simp only [cmpP]; omega) | ((with_reducible refine bin_add (wrap_of ?_ ?_)) <;> omega) | with_reducible exact bin_add (by assumption) | exact rfl)) | (apply ef_gy; exact rfl; (first | exact (rfl : true = true) | exact (rfl : false = false) | exact (rfl : true = !false) | exact (rfl : false = !true) | assumption | exact decide_eq_true (by omega) | exact decide_eq_false (by omega))) | (apply ef_gn; exact rfl; (first | exact (rfl : true = true) | exact (rfl : false = false) | exact (rfl : true = !false) | exact (rfl : false = !true) | assumption | exact decide_eq_true (by omega) | exact decide_eq_false (by omega)); exact rfl) | (apply ef_gu; exact rfl; exact rfl) | (apply ef_pick; exact rfl; exact rfl; exact rfl) | (apply ef_pickb; exact rfl; exact rfl; exact rfl; exact rfl) | (apply ef_len; exact rfl; exact rfl; (first | assumption | exact rfl)) | (apply ef_ldr; exact rfl; exact rfl; (first | exact rd_1 rfl | exact rd_2 rfl rfl | exact rfl)) | (apply ef_ldp; exact rfl; exact rfl; exact rfl; exact rfl; (first | exact rfl | assumption); (first | exact rd_1 rfl | exact rd_2 rfl rfl | exact rfl)) | (apply ef_ias; exact rfl; exact rfl; exact rfl; (first | omega | assumption); assumption; exact rfl) | (apply ef_iaa; exact rfl; exact rfl; exact rfl; (first | omega | assumption); (first | omega | assumption); exact rfl) | (apply ef_fap; exact rfl; exact rfl) | (apply ef_far; exact rfl; exact rfl) | (apply ef_ext; exact rfl; exact rfl; exact rfl) | (apply ef_box; exact rfl; exact rfl; exact rfl; exact rfl) | (apply ef_new; exact rfl) | (apply ef_eqa; exact rfl; exact rfl; exact rfl; exact rfl; exact rfl; exact rfl) | (apply ef_st; exact rfl; exact rfl; exact rfl; exact rfl; exact rfl; exact rfl; (first | exact rfl | assumption); exact rfl) | apply ef_nil | apply seqQ.normal | apply loopQ.ret | apply loopQ.exit | apply ef_ret | apply seqQ.ret | apply ef_exit | apply seqQ.exit | apply blockQ.normal | apply blockQ.ret | apply blockQ.here | (apply blockQ_there; exact rfl) | apply ef_block | apply ef_skip | (apply ef_condt; exact rfl; (first | exact (rfl : true = true) | assumption | exact decide_eq_true (by omega))) | (apply ef_condf; exact rfl; (first | exact (rfl : false = false) | assumption | exact decide_eq_false (by omega))))
    (refine fin2 rfl (by exact rfl) (by exact rfl) ?_)
    unfold polyCheck
    rw [shapeE_lt n1]; rfl
  · by_cases n2 : 12 < cs.length
    · repeat (first | apply ef_seq | (apply ef_mv; exact rfl; exact rfl) | (apply ef_bin; exact rfl; exact rfl; exact rfl; (first | exact cmp_t rfl (by first | exact rfl | (simp only [cmpP]; omega)) | exact cmp_f rfl (by simp only [cmpP]; omega) | ((with_reducible refine bin_add (wrap_of ?_ ?_)) <;> omega) | with_reducible exact bin_add (by assumption) | exact rfl)) | (apply ef_gy; exact rfl; (first | exact (rfl : true = true) | exact (rfl : false = false) | exact (rfl : true = !false) | exact (rfl : false = !true) | assumption | exact decide_eq_true (by omega) | exact decide_eq_false (by omega))) | (apply ef_gn; exact rfl; (first | exact (rfl : true = true) | exact (rfl : false = false) | exact (rfl : true = !false) | exact (rfl : false = !true) | assumption | exact decide_eq_true (by omega) | exact decide_eq_false (by omega)); exact rfl) | (apply ef_gu; exact rfl; exact rfl) | (apply ef_pick; exact rfl; exact rfl; exact rfl) | (apply ef_pickb; exact rfl; exact rfl; exact rfl; exact rfl) | (apply ef_len; exact rfl; exact rfl; (first | assumption | exact rfl)) | (apply ef_ldr; exact rfl; exact rfl; (first | exact rd_1 rfl | exact rd_2 rfl rfl | exact rfl)) | (apply ef_ldp; exact rfl; exact rfl; exact rfl; exact rfl; (first | exact rfl | assumption); (first | exact rd_1 rfl | exact rd_2 rfl rfl | exact rfl)) | (apply ef_ias; exact rfl; exact rfl; exact rfl; (first | omega | assumption); assumption; exact rfl) | (apply ef_iaa; exact rfl; exact rfl; exact rfl; (first | omega | assumption); (first | omega | assumption); exact rfl) | (apply ef_fap; exact rfl; exact rfl) | (apply ef_far; exact rfl; exact rfl) | (apply ef_ext; exact rfl; exact rfl; exact rfl) | (apply ef_box; exact rfl; exact rfl; exact rfl; exact rfl) | (apply ef_new; exact rfl) | (apply ef_eqa; exact rfl; exact rfl; exact rfl; exact rfl; exact rfl; exact rfl) | (apply ef_st; exact rfl; exact rfl; exact rfl; exact rfl; exact rfl; exact rfl; (first | exact rfl | assumption); exact rfl) | apply ef_nil | apply seqQ.normal | apply loopQ.ret | apply loopQ.exit | apply ef_ret | apply seqQ.ret | apply ef_exit | apply seqQ.exit | apply blockQ.normal | apply blockQ.ret | apply blockQ.here | (apply blockQ_there; exact rfl) | apply ef_block | apply ef_skip | (apply ef_condt; exact rfl; (first | exact (rfl : true = true) | assumption | exact decide_eq_true (by omega))) | (apply ef_condf; exact rfl; (first | exact (rfl : false = false) | assumption | exact decide_eq_false (by omega))))
      (refine fin2 rfl (by exact rfl) (by exact rfl) ?_)
      unfold polyCheck
      rw [shapeE_gt n2]; rfl
    · have h0 := shapeE_in (show 3 ≤ cs.length by omega) (show cs.length ≤ 12 by omega)
      repeat (first | apply ef_seq | (apply ef_mv; exact rfl; exact rfl) | (apply ef_bin; exact rfl; exact rfl; exact rfl; (first | exact cmp_t rfl (by first | exact rfl | (simp only [cmpP]; omega)) | exact cmp_f rfl (by simp only [cmpP]; omega) | ((with_reducible refine bin_add (wrap_of ?_ ?_)) <;> omega) | with_reducible exact bin_add (by assumption) | exact rfl)) | (apply ef_gy; exact rfl; (first | exact (rfl : true = true) | exact (rfl : false = false) | exact (rfl : true = !false) | exact (rfl : false = !true) | assumption | exact decide_eq_true (by omega) | exact decide_eq_false (by omega))) | (apply ef_gn; exact rfl; (first | exact (rfl : true = true) | exact (rfl : false = false) | exact (rfl : true = !false) | exact (rfl : false = !true) | assumption | exact decide_eq_true (by omega) | exact decide_eq_false (by omega)); exact rfl) | (apply ef_gu; exact rfl; exact rfl) | (apply ef_pick; exact rfl; exact rfl; exact rfl) | (apply ef_pickb; exact rfl; exact rfl; exact rfl; exact rfl) | (apply ef_len; exact rfl; exact rfl; (first | assumption | exact rfl)) | (apply ef_ldr; exact rfl; exact rfl; (first | exact rd_1 rfl | exact rd_2 rfl rfl | exact rfl)) | (apply ef_ldp; exact rfl; exact rfl; exact rfl; exact rfl; (first | exact rfl | assumption); (first | exact rd_1 rfl | exact rd_2 rfl rfl | exact rfl)) | (apply ef_ias; exact rfl; exact rfl; exact rfl; (first | omega | assumption); assumption; exact rfl) | (apply ef_iaa; exact rfl; exact rfl; exact rfl; (first | omega | assumption); (first | omega | assumption); exact rfl) | (apply ef_fap; exact rfl; exact rfl) | (apply ef_far; exact rfl; exact rfl) | (apply ef_ext; exact rfl; exact rfl; exact rfl) | (apply ef_box; exact rfl; exact rfl; exact rfl; exact rfl) | (apply ef_new; exact rfl) | (apply ef_eqa; exact rfl; exact rfl; exact rfl; exact rfl; exact rfl; exact rfl) | (apply ef_st; exact rfl; exact rfl; exact rfl; exact rfl; exact rfl; exact rfl; (first | exact rfl | assumption); exact rfl) | apply ef_nil | apply seqQ.normal | apply loopQ.ret | apply loopQ.exit | apply ef_ret | apply seqQ.ret | apply ef_exit | apply seqQ.exit | apply blockQ.normal | apply blockQ.ret | apply blockQ.here | (apply blockQ_there; exact rfl) | apply ef_block | apply ef_skip | (apply ef_condt; exact rfl; (first | exact (rfl : true = true) | assumption | exact decide_eq_true (by omega))) | (apply ef_condf; exact rfl; (first | exact (rfl : false = false) | assumption | exact decide_eq_false (by omega))))
      refine ef_loopf (α := Nat) (fun i => i ≤ cs.length ∧ ∀ j, j < i → posE (corner cs j) = 0) (fun i => [(5, I64 (i : Int))]) [(4, I64 (cs.length : Int)), (1, .ptr 0 0 0 0)] (fun _ => _) (fun i => cs.length - i) 0 [5] (fun _ => rfl) (by ((repeat (refine Hold.cons (by exact rfl) ?_)); exact Hold.nil)) (by ((repeat (refine Hold.cons (by exact rfl) ?_)); exact Hold.nil)) rfl rfl ⟨by omega, fun j hj => by omega⟩ (by simp; omega) ?_
      rintro i ⟨hi, hz⟩
      try simp only at hi hz ⊢
      by_cases hlt : i < cs.length
      · have e1 := corner_at hlt
        have HZ := Lib.hid hz
        have HP : posE (corner cs i) = 0 ∨ posE (corner cs i) ≠ 0 := by omega
        have HB := Lib.hid (fun hp => polyCheck_pos h0 hlt hz hp)
        have hpe := fun h => rPositionErr_c (k + 2) (corner cs i).1 (corner cs i).2 h (posE2_eq (corner cs i))
        clear hz
        have HC := Lib.hid (show posE (corner cs i) = posE (corner cs i) from rfl)
        generalize hce : posE (corner cs i) = e at *
        generalize hcp : corner cs i = p at *
        rcases HP with rfl | HP
        · repeat (first | first | apply ef_seq | (apply ef_mv; exact rfl; exact rfl) | (apply ef_bin; exact rfl; exact rfl; exact rfl; (first | exact cmp_t rfl (by first | exact rfl | (simp only [cmpP]; omega)) | exact cmp_f rfl (by simp only [cmpP]; omega) | ((with_reducible refine bin_add (wrap_of ?_ ?_)) <;> omega) | with_reducible exact bin_add (by assumption) | exact rfl)) | (apply ef_gy; exact rfl; (first | exact (rfl : true = true) | exact (rfl : false = false) | exact (rfl : true = !false) | exact (rfl : false = !true) | assumption | exact decide_eq_true (by omega) | exact decide_eq_false (by omega))) | (apply ef_gn; exact rfl; (first | exact (rfl : true = true) | exact (rfl : false = false) | exact (rfl : true = !false) | exact (rfl : false = !true) | assumption | exact decide_eq_true (by omega) | exact decide_eq_false (by omega)); exact rfl) | (apply ef_gu; exact rfl; exact rfl) | (apply ef_pick; exact rfl; exact rfl; exact rfl) | (apply ef_pickb; exact rfl; exact rfl; exact rfl; exact rfl) | (apply ef_len; exact rfl; exact rfl; (first | assumption | exact rfl)) | (apply ef_ldr; exact rfl; exact rfl; (first | exact rd_1 rfl | exact rd_2 rfl rfl | exact rfl)) | (apply ef_ldp; exact rfl; exact rfl; exact rfl; exact rfl; (first | exact rfl | assumption); (first | exact rd_1 rfl | exact rd_2 rfl rfl | exact rfl)) | (apply ef_ias; exact rfl; exact rfl; exact rfl; (first | omega | assumption); assumption; exact rfl) | (apply ef_iaa; exact rfl; exact rfl; exact rfl; (first | omega | assumption); (first | omega | assumption); exact rfl) | (apply ef_fap; exact rfl; exact rfl) | (apply ef_far; exact rfl; exact rfl) | (apply ef_ext; exact rfl; exact rfl; exact rfl) | (apply ef_box; exact rfl; exact rfl; exact rfl; exact rfl) | (apply ef_new; exact rfl) | (apply ef_eqa; exact rfl; exact rfl; exact rfl; exact rfl; exact rfl; exact rfl) | (apply ef_st; exact rfl; exact rfl; exact rfl; exact rfl; exact rfl; exact rfl; (first | exact rfl | assumption); exact rfl) | apply ef_nil | apply seqQ.normal | apply loopQ.ret | apply loopQ.exit | apply ef_ret | apply seqQ.ret | apply ef_exit | apply seqQ.exit | apply blockQ.normal | apply blockQ.ret | apply blockQ.here | (apply blockQ_there; exact rfl) | apply ef_block | apply ef_skip | (apply ef_condt; exact rfl; (first | exact (rfl : true = true) | assumption | exact decide_eq_true (by omega))) | (apply ef_condf; exact rfl; (first | exact (rfl : false = false) | assumption | exact decide_eq_false (by omega))) | (apply ef_call; exact rfl; ((repeat (apply XVs.cons; exact rfl)); exact XVs.nil); (with_reducible first | exact hpe _)))
          (refine loopQ.normal _ _ ⟨i + 1, ⟨hlt, fun j hj => by
            by_cases e : j = i
            · rw [e, hcp]; exact hce
            · exact HZ.out j (by omega)⟩, (by first | (simp only; omega) | omega), ⟨by ((repeat (refine Hold.cons (by exact rfl) ?_)); exact Hold.nil), by ((repeat (refine Hold.cons (by exact rfl) ?_)); exact Hold.nil)⟩, .inl (Nat.le_refl _), (by first | exact List.take_length | exact rfl | exact takeF rfl rfl)⟩)
        · repeat (first | first | apply ef_seq | (apply ef_mv; exact rfl; exact rfl) | (apply ef_bin; exact rfl; exact rfl; exact rfl; (first | exact cmp_t rfl (by first | exact rfl | (simp only [cmpP]; omega)) | exact cmp_f rfl (by simp only [cmpP]; omega) | ((with_reducible refine bin_add (wrap_of ?_ ?_)) <;> omega) | with_reducible exact bin_add (by assumption) | exact rfl)) | (apply ef_gy; exact rfl; (first | exact (rfl : true = true) | exact (rfl : false = false) | exact (rfl : true = !false) | exact (rfl : false = !true) | assumption | exact decide_eq_true (by omega) | exact decide_eq_false (by omega))) | (apply ef_gn; exact rfl; (first | exact (rfl : true = true) | exact (rfl : false = false) | exact (rfl : true = !false) | exact (rfl : false = !true) | assumption | exact decide_eq_true (by omega) | exact decide_eq_false (by omega)); exact rfl) | (apply ef_gu; exact rfl; exact rfl) | (apply ef_pick; exact rfl; exact rfl; exact rfl) | (apply ef_pickb; exact rfl; exact rfl; exact rfl; exact rfl) | (apply ef_len; exact rfl; exact rfl; (first | assumption | exact rfl)) | (apply ef_ldr; exact rfl; exact rfl; (first | exact rd_1 rfl | exact rd_2 rfl rfl | exact rfl)) | (apply ef_ldp; exact rfl; exact rfl; exact rfl; exact rfl; (first | exact rfl | assumption); (first | exact rd_1 rfl | exact rd_2 rfl rfl | exact rfl)) | (apply ef_ias; exact rfl; exact rfl; exact rfl; (first | omega | assumption); assumption; exact rfl) | (apply ef_iaa; exact rfl; exact rfl; exact rfl; (first | omega | assumption); (first | omega | assumption); exact rfl) | (apply ef_fap; exact rfl; exact rfl) | (apply ef_far; exact rfl; exact rfl) | (apply ef_ext; exact rfl; exact rfl; exact rfl) | (apply ef_box; exact rfl; exact rfl; exact rfl; exact rfl) | (apply ef_new; exact rfl) | (apply ef_eqa; exact rfl; exact rfl; exact rfl; exact rfl; exact rfl; exact rfl) | (apply ef_st; exact rfl; exact rfl; exact rfl; exact rfl; exact rfl; exact rfl; (first | exact rfl | assumption); exact rfl) | apply ef_nil | apply seqQ.normal | apply loopQ.ret | apply loopQ.exit | apply ef_ret | apply seqQ.ret | apply ef_exit | apply seqQ.exit | apply blockQ.normal | apply blockQ.ret | apply blockQ.here | (apply blockQ_there; exact rfl) | apply ef_block | apply ef_skip | (apply ef_condt; exact rfl; (first | exact (rfl : true = true) | assumption | exact decide_eq_true (by omega))) | (apply ef_condf; exact rfl; (first | exact (rfl : false = false) | assumption | exact decide_eq_false (by omega))) | (apply ef_call; exact rfl; ((repeat (apply XVs.cons; exact rfl)); exact XVs.nil); (with_reducible first | exact hpe _)))
          (refine fin2 rfl (by exact rfl) (by exact rfl) ?_)
          rw [HB.out HP]
      · have hz' : ∀ j, j < cs.length → posE (corner cs j) = 0 := fun j hj => hz j (by omega)
        have HZ := Lib.hid hz'
        clear hz hz'
        repeat (first | apply ef_seq | (apply ef_mv; exact rfl; exact rfl) | (apply ef_bin; exact rfl; exact rfl; exact rfl; (first | exact cmp_t rfl (by first | exact rfl | (simp only [cmpP]; omega)) | exact cmp_f rfl (by simp only [cmpP]; omega) | ((with_reducible refine bin_add (wrap_of ?_ ?_)) <;> omega) | with_reducible exact bin_add (by assumption) | exact rfl)) | (apply ef_gy; exact rfl; (first | exact (rfl : true = true) | exact (rfl : false = false) | exact (rfl : true = !false) | exact (rfl : false = !true) | assumption | exact decide_eq_true (by omega) | exact decide_eq_false (by omega))) | (apply ef_gn; exact rfl; (first | exact (rfl : true = true) | exact (rfl : false = false) | exact (rfl : true = !false) | exact (rfl : false = !true) | assumption | exact decide_eq_true (by omega) | exact decide_eq_false (by omega)); exact rfl) | (apply ef_gu; exact rfl; exact rfl) | (apply ef_pick; exact rfl; exact rfl; exact rfl) | (apply ef_pickb; exact rfl; exact rfl; exact rfl; exact rfl) | (apply ef_len; exact rfl; exact rfl; (first | assumption | exact rfl)) | (apply ef_ldr; exact rfl; exact rfl; (first | exact rd_1 rfl | exact rd_2 rfl rfl | exact rfl)) | (apply ef_ldp; exact rfl; exact rfl; exact rfl; exact rfl; (first | exact rfl | assumption); (first | exact rd_1 rfl | exact rd_2 rfl rfl | exact rfl)) | (apply ef_ias; exact rfl; exact rfl; exact rfl; (first | omega | assumption); assumption; exact rfl) | (apply ef_iaa; exact rfl; exact rfl; exact rfl; (first | omega | assumption); (first | omega | assumption); exact rfl) | (apply ef_fap; exact rfl; exact rfl) | (apply ef_far; exact rfl; exact rfl) | (apply ef_ext; exact rfl; exact rfl; exact rfl) | (apply ef_box; exact rfl; exact rfl; exact rfl; exact rfl) | (apply ef_new; exact rfl) | (apply ef_eqa; exact rfl; exact rfl; exact rfl; exact rfl; exact rfl; exact rfl) | (apply ef_st; exact rfl; exact rfl; exact rfl; exact rfl; exact rfl; exact rfl; (first | exact rfl | assumption); exact rfl) | apply ef_nil | apply seqQ.normal | apply loopQ.ret | apply loopQ.exit | apply ef_ret | apply seqQ.ret | apply ef_exit | apply seqQ.exit | apply blockQ.normal | apply blockQ.ret | apply blockQ.here | (apply blockQ_there; exact rfl) | apply ef_block | apply ef_skip | (apply ef_condt; exact rfl; (first | exact (rfl : true = true) | assumption | exact decide_eq_true (by omega))) | (apply ef_condf; exact rfl; (first | exact (rfl : false = false) | assumption | exact decide_eq_false (by omega))))
        refine ef_loopf (α := Nat) (fun i => i ≤ cs.length ∧ ∀ j, j < i → badS cs j = false) (fun i => [(7, I64 (i : Int))]) [(4, I64 (cs.length : Int)), (1, .ptr 0 0 0 0)] (fun _ => _) (fun i => cs.length - i) 0 [7] (fun _ => rfl) (by ((repeat (refine Hold.cons (by exact rfl) ?_)); exact Hold.nil)) (by ((repeat (refine Hold.cons (by exact rfl) ?_)); exact Hold.nil)) rfl rfl ⟨by omega, fun j hj => by omega⟩ (by simp; omega) ?_
        rintro i ⟨hi, hy⟩
        try simp only at hi hy ⊢
        by_cases hlt : i < cs.length
        · have HY := Lib.hid hy
          clear hy
          have hsd := fun h => rside_c (k + 3) cs hl hlt h
          have hbs := Lib.hid (badU_start cs i)
          have heq := Lib.hid (show badU cs i (i + 1) = ((corner cs i).1 == (nextC cs i).1 && ((corner cs i).2 == (nextC cs i).2 && true)) by
            rw [hbs.out, Bool.eq_iff_iff]; simp [Prod.ext_iff])
          repeat (first | first | apply ef_seq | (apply ef_mv; exact rfl; exact rfl) | (apply ef_bin; exact rfl; exact rfl; exact rfl; (first | exact cmp_t rfl (by first | exact rfl | (simp only [cmpP]; omega)) | exact cmp_f rfl (by simp only [cmpP]; omega) | ((with_reducible refine bin_add (wrap_of ?_ ?_)) <;> omega) | with_reducible exact bin_add (by assumption) | exact rfl)) | (apply ef_gy; exact rfl; (first | exact (rfl : true = true) | exact (rfl : false = false) | exact (rfl : true = !false) | exact (rfl : false = !true) | assumption | exact decide_eq_true (by omega) | exact decide_eq_false (by omega))) | (apply ef_gn; exact rfl; (first | exact (rfl : true = true) | exact (rfl : false = false) | exact (rfl : true = !false) | exact (rfl : false = !true) | assumption | exact decide_eq_true (by omega) | exact decide_eq_false (by omega)); exact rfl) | (apply ef_gu; exact rfl; exact rfl) | (apply ef_pick; exact rfl; exact rfl; exact rfl) | (apply ef_pickb; exact rfl; exact rfl; exact rfl; exact rfl) | (apply ef_len; exact rfl; exact rfl; (first | assumption | exact rfl)) | (apply ef_ldr; exact rfl; exact rfl; (first | exact rd_1 rfl | exact rd_2 rfl rfl | exact rfl)) | (apply ef_ldp; exact rfl; exact rfl; exact rfl; exact rfl; (first | exact rfl | assumption); (first | exact rd_1 rfl | exact rd_2 rfl rfl | exact rfl)) | (apply ef_ias; exact rfl; exact rfl; exact rfl; (first | omega | assumption); assumption; exact rfl) | (apply ef_iaa; exact rfl; exact rfl; exact rfl; (first | omega | assumption); (first | omega | assumption); exact rfl) | (apply ef_fap; exact rfl; exact rfl) | (apply ef_far; exact rfl; exact rfl) | (apply ef_ext; exact rfl; exact rfl; exact rfl) | (apply ef_box; exact rfl; exact rfl; exact rfl; exact rfl) | (apply ef_new; exact rfl) | (apply ef_eqa; exact rfl; exact rfl; exact rfl; exact rfl; exact rfl; exact rfl) | (apply ef_st; exact rfl; exact rfl; exact rfl; exact rfl; exact rfl; exact rfl; (first | exact rfl | assumption); exact rfl) | apply ef_nil | apply seqQ.normal | apply loopQ.ret | apply loopQ.exit | apply ef_ret | apply seqQ.ret | apply ef_exit | apply seqQ.exit | apply blockQ.normal | apply blockQ.ret | apply blockQ.here | (apply blockQ_there; exact rfl) | apply ef_block | apply ef_skip | (apply ef_condt; exact rfl; (first | exact (rfl : true = true) | assumption | exact decide_eq_true (by omega))) | (apply ef_condf; exact rfl; (first | exact (rfl : false = false) | assumption | exact decide_eq_false (by omega))) | (apply ef_call; exact rfl; ((repeat (apply XVs.cons; exact rfl)); exact XVs.nil); (with_reducible first | exact hsd _)))
          refine ef_loopf (α := Nat × Bool) (fun s => i + 1 ≤ s.1 ∧ s.1 ≤ cs.length ∧ s.2 = badU cs i s.1) (fun s => [(11, I64 (s.1 : Int)), (10, Bo s.2)]) [(4, I64 (cs.length : Int)), (1, .ptr 0 0 0 0), (7, I64 (i : Int))] (fun _ => _) (fun s => cs.length - s.1) (i + 1, badU cs i (i + 1)) [11, 10] (fun _ => rfl) (by rw [heq.out]; ((repeat (refine Hold.cons (by exact rfl) ?_)); exact Hold.nil)) (by ((repeat (refine Hold.cons (by exact rfl) ?_)); exact Hold.nil)) rfl rfl ⟨by simp, by simp only; omega, rfl⟩ (by simp only; omega) ?_
          rintro ⟨j, b⟩ ⟨hj1, hj2, hb⟩
          try simp only at hj1 hj2 hb ⊢
          by_cases hlt2 : j < cs.length
          · have hcl := fun h => rclash_c k cs hl (inP_all HZ.out) (show i < j by omega) hlt2 h rfl
            have hst := Lib.hid (badU_step cs (show i < j by omega))
            generalize clashS (i : Int) (corner cs i) (nextC cs i) (j : Int) (corner cs j) (nextC cs j) (cs.length : Int) = c at *
            cases b
            · repeat (first | first | apply ef_seq | (apply ef_mv; exact rfl; exact rfl) | (apply ef_bin; exact rfl; exact rfl; exact rfl; (first | exact cmp_t rfl (by first | exact rfl | (simp only [cmpP]; omega)) | exact cmp_f rfl (by simp only [cmpP]; omega) | ((with_reducible refine bin_add (wrap_of ?_ ?_)) <;> omega) | with_reducible exact bin_add (by assumption) | exact rfl)) | (apply ef_gy; exact rfl; (first | exact (rfl : true = true) | exact (rfl : false = false) | exact (rfl : true = !false) | exact (rfl : false = !true) | assumption | exact decide_eq_true (by omega) | exact decide_eq_false (by omega))) | (apply ef_gn; exact rfl; (first | exact (rfl : true = true) | exact (rfl : false = false) | exact (rfl : true = !false) | exact (rfl : false = !true) | assumption | exact decide_eq_true (by omega) | exact decide_eq_false (by omega)); exact rfl) | (apply ef_gu; exact rfl; exact rfl) | (apply ef_pick; exact rfl; exact rfl; exact rfl) | (apply ef_pickb; exact rfl; exact rfl; exact rfl; exact rfl) | (apply ef_len; exact rfl; exact rfl; (first | assumption | exact rfl)) | (apply ef_ldr; exact rfl; exact rfl; (first | exact rd_1 rfl | exact rd_2 rfl rfl | exact rfl)) | (apply ef_ldp; exact rfl; exact rfl; exact rfl; exact rfl; (first | exact rfl | assumption); (first | exact rd_1 rfl | exact rd_2 rfl rfl | exact rfl)) | (apply ef_ias; exact rfl; exact rfl; exact rfl; (first | omega | assumption); assumption; exact rfl) | (apply ef_iaa; exact rfl; exact rfl; exact rfl; (first | omega | assumption); (first | omega | assumption); exact rfl) | (apply ef_fap; exact rfl; exact rfl) | (apply ef_far; exact rfl; exact rfl) | (apply ef_ext; exact rfl; exact rfl; exact rfl) | (apply ef_box; exact rfl; exact rfl; exact rfl; exact rfl) | (apply ef_new; exact rfl) | (apply ef_eqa; exact rfl; exact rfl; exact rfl; exact rfl; exact rfl; exact rfl) | (apply ef_st; exact rfl; exact rfl; exact rfl; exact rfl; exact rfl; exact rfl; (first | exact rfl | assumption); exact rfl) | apply ef_nil | apply seqQ.normal | apply loopQ.ret | apply loopQ.exit | apply ef_ret | apply seqQ.ret | apply ef_exit | apply seqQ.exit | apply blockQ.normal | apply blockQ.ret | apply blockQ.here | (apply blockQ_there; exact rfl) | apply ef_block | apply ef_skip | (apply ef_condt; exact rfl; (first | exact (rfl : true = true) | assumption | exact decide_eq_true (by omega))) | (apply ef_condf; exact rfl; (first | exact (rfl : false = false) | assumption | exact decide_eq_false (by omega))) | (apply ef_call; exact rfl; ((repeat (apply XVs.cons; exact rfl)); exact XVs.nil); (with_reducible first | exact hcl _)))
              (refine loopQ.normal _ _ ⟨(j + 1, c), ⟨by simp only; omega, hlt2, by simp only; rw [hst.out, ← hb]; rfl⟩, (by first | (simp only; omega) | omega), ⟨by ((repeat (refine Hold.cons (by exact rfl) ?_)); exact Hold.nil), by ((repeat (refine Hold.cons (by exact rfl) ?_)); exact Hold.nil)⟩, .inl (Nat.le_refl _), (by first | exact List.take_length | exact rfl | exact takeF rfl rfl)⟩)
            · repeat (first | first | apply ef_seq | (apply ef_mv; exact rfl; exact rfl) | (apply ef_bin; exact rfl; exact rfl; exact rfl; (first | exact cmp_t rfl (by first | exact rfl | (simp only [cmpP]; omega)) | exact cmp_f rfl (by simp only [cmpP]; omega) | ((with_reducible refine bin_add (wrap_of ?_ ?_)) <;> omega) | with_reducible exact bin_add (by assumption) | exact rfl)) | (apply ef_gy; exact rfl; (first | exact (rfl : true = true) | exact (rfl : false = false) | exact (rfl : true = !false) | exact (rfl : false = !true) | assumption | exact decide_eq_true (by omega) | exact decide_eq_false (by omega))) | (apply ef_gn; exact rfl; (first | exact (rfl : true = true) | exact (rfl : false = false) | exact (rfl : true = !false) | exact (rfl : false = !true) | assumption | exact decide_eq_true (by omega) | exact decide_eq_false (by omega)); exact rfl) | (apply ef_gu; exact rfl; exact rfl) | (apply ef_pick; exact rfl; exact rfl; exact rfl) | (apply ef_pickb; exact rfl; exact rfl; exact rfl; exact rfl) | (apply ef_len; exact rfl; exact rfl; (first | assumption | exact rfl)) | (apply ef_ldr; exact rfl; exact rfl; (first | exact rd_1 rfl | exact rd_2 rfl rfl | exact rfl)) | (apply ef_ldp; exact rfl; exact rfl; exact rfl; exact rfl; (first | exact rfl | assumption); (first | exact rd_1 rfl | exact rd_2 rfl rfl | exact rfl)) | (apply ef_ias; exact rfl; exact rfl; exact rfl; (first | omega | assumption); assumption; exact rfl) | (apply ef_iaa; exact rfl; exact rfl; exact rfl; (first | omega | assumption); (first | omega | assumption); exact rfl) | (apply ef_fap; exact rfl; exact rfl) | (apply ef_far; exact rfl; exact rfl) | (apply ef_ext; exact rfl; exact rfl; exact rfl) | (apply ef_box; exact rfl; exact rfl; exact rfl; exact rfl) | (apply ef_new; exact rfl) | (apply ef_eqa; exact rfl; exact rfl; exact rfl; exact rfl; exact rfl; exact rfl) | (apply ef_st; exact rfl; exact rfl; exact rfl; exact rfl; exact rfl; exact rfl; (first | exact rfl | assumption); exact rfl) | apply ef_nil | apply seqQ.normal | apply loopQ.ret | apply loopQ.exit | apply ef_ret | apply seqQ.ret | apply ef_exit | apply seqQ.exit | apply blockQ.normal | apply blockQ.ret | apply blockQ.here | (apply blockQ_there; exact rfl) | apply ef_block | apply ef_skip | (apply ef_condt; exact rfl; (first | exact (rfl : true = true) | assumption | exact decide_eq_true (by omega))) | (apply ef_condf; exact rfl; (first | exact (rfl : false = false) | assumption | exact decide_eq_false (by omega))) | (apply ef_call; exact rfl; ((repeat (apply XVs.cons; exact rfl)); exact XVs.nil); (with_reducible first | exact hcl _)))
              (refine loopQ.normal _ _ ⟨(j + 1, true), ⟨by simp only; omega, hlt2, by simp only; rw [hst.out, ← hb]; rfl⟩, (by first | (simp only; omega) | omega), ⟨by ((repeat (refine Hold.cons (by exact rfl) ?_)); exact Hold.nil), by ((repeat (refine Hold.cons (by exact rfl) ?_)); exact Hold.nil)⟩, .inl (Nat.le_refl _), (by first | exact List.take_length | exact rfl | exact takeF rfl rfl)⟩)
          · have hbb : b = badS cs i := by rw [hb, show j = cs.length by omega]; rfl
            clear hb
            cases b
            · repeat (first | apply ef_seq | (apply ef_mv; exact rfl; exact rfl) | (apply ef_bin; exact rfl; exact rfl; exact rfl; (first | exact cmp_t rfl (by first | exact rfl | (simp only [cmpP]; omega)) | exact cmp_f rfl (by simp only [cmpP]; omega) | ((with_reducible refine bin_add (wrap_of ?_ ?_)) <;> omega) | with_reducible exact bin_add (by assumption) | exact rfl)) | (apply ef_gy; exact rfl; (first | exact (rfl : true = true) | exact (rfl : false = false) | exact (rfl : true = !false) | exact (rfl : false = !true) | assumption | exact decide_eq_true (by omega) | exact decide_eq_false (by omega))) | (apply ef_gn; exact rfl; (first | exact (rfl : true = true) | exact (rfl : false = false) | exact (rfl : true = !false) | exact (rfl : false = !true) | assumption | exact decide_eq_true (by omega) | exact decide_eq_false (by omega)); exact rfl) | (apply ef_gu; exact rfl; exact rfl) | (apply ef_pick; exact rfl; exact rfl; exact rfl) | (apply ef_pickb; exact rfl; exact rfl; exact rfl; exact rfl) | (apply ef_len; exact rfl; exact rfl; (first | assumption | exact rfl)) | (apply ef_ldr; exact rfl; exact rfl; (first | exact rd_1 rfl | exact rd_2 rfl rfl | exact rfl)) | (apply ef_ldp; exact rfl; exact rfl; exact rfl; exact rfl; (first | exact rfl | assumption); (first | exact rd_1 rfl | exact rd_2 rfl rfl | exact rfl)) | (apply ef_ias; exact rfl; exact rfl; exact rfl; (first | omega | assumption); assumption; exact rfl) | (apply ef_iaa; exact rfl; exact rfl; exact rfl; (first | omega | assumption); (first | omega | assumption); exact rfl) | (apply ef_fap; exact rfl; exact rfl) | (apply ef_far; exact rfl; exact rfl) | (apply ef_ext; exact rfl; exact rfl; exact rfl) | (apply ef_box; exact rfl; exact rfl; exact rfl; exact rfl) | (apply ef_new; exact rfl) | (apply ef_eqa; exact rfl; exact rfl; exact rfl; exact rfl; exact rfl; exact rfl) | (apply ef_st; exact rfl; exact rfl; exact rfl; exact rfl; exact rfl; exact rfl; (first | exact rfl | assumption); exact rfl) | apply ef_nil | apply seqQ.normal | apply loopQ.ret | apply loopQ.exit | apply ef_ret | apply seqQ.ret | apply ef_exit | apply seqQ.exit | apply blockQ.normal | apply blockQ.ret | apply blockQ.here | (apply blockQ_there; exact rfl) | apply ef_block | apply ef_skip | (apply ef_condt; exact rfl; (first | exact (rfl : true = true) | assumption | exact decide_eq_true (by omega))) | (apply ef_condf; exact rfl; (first | exact (rfl : false = false) | assumption | exact decide_eq_false (by omega))))
              (refine loopQ.normal _ _ ⟨i + 1, ⟨hlt, fun j hj => by
                by_cases e : j = i
                · rw [e]; exact hbb.symm
                · exact HY.out j (by omega)⟩, (by first | (simp only; omega) | omega), ⟨by ((repeat (refine Hold.cons (by exact rfl) ?_)); exact Hold.nil), by ((repeat (refine Hold.cons (by exact rfl) ?_)); exact Hold.nil)⟩, .inr ⟨by ((repeat (refine hdl_cons rfl (by first | rfl | (simp [MV.lt, ltL_Pt])) ?_)); exact hdl_nil), by first | rfl | (simp [hltL, ltL, MV.lt, ltL_Pt])⟩, by first | exact rfl | (simp only [List.map_append, List.map_set]; exact rfl)⟩)
            · repeat (first | apply ef_seq | (apply ef_mv; exact rfl; exact rfl) | (apply ef_bin; exact rfl; exact rfl; exact rfl; (first | exact cmp_t rfl (by first | exact rfl | (simp only [cmpP]; omega)) | exact cmp_f rfl (by simp only [cmpP]; omega) | ((with_reducible refine bin_add (wrap_of ?_ ?_)) <;> omega) | with_reducible exact bin_add (by assumption) | exact rfl)) | (apply ef_gy; exact rfl; (first | exact (rfl : true = true) | exact (rfl : false = false) | exact (rfl : true = !false) | exact (rfl : false = !true) | assumption | exact decide_eq_true (by omega) | exact decide_eq_false (by omega))) | (apply ef_gn; exact rfl; (first | exact (rfl : true = true) | exact (rfl : false = false) | exact (rfl : true = !false) | exact (rfl : false = !true) | assumption | exact decide_eq_true (by omega) | exact decide_eq_false (by omega)); exact rfl) | (apply ef_gu; exact rfl; exact rfl) | (apply ef_pick; exact rfl; exact rfl; exact rfl) | (apply ef_pickb; exact rfl; exact rfl; exact rfl; exact rfl) | (apply ef_len; exact rfl; exact rfl; (first | assumption | exact rfl)) | (apply ef_ldr; exact rfl; exact rfl; (first | exact rd_1 rfl | exact rd_2 rfl rfl | exact rfl)) | (apply ef_ldp; exact rfl; exact rfl; exact rfl; exact rfl; (first | exact rfl | assumption); (first | exact rd_1 rfl | exact rd_2 rfl rfl | exact rfl)) | (apply ef_ias; exact rfl; exact rfl; exact rfl; (first | omega | assumption); assumption; exact rfl) | (apply ef_iaa; exact rfl; exact rfl; exact rfl; (first | omega | assumption); (first | omega | assumption); exact rfl) | (apply ef_fap; exact rfl; exact rfl) | (apply ef_far; exact rfl; exact rfl) | (apply ef_ext; exact rfl; exact rfl; exact rfl) | (apply ef_box; exact rfl; exact rfl; exact rfl; exact rfl) | (apply ef_new; exact rfl) | (apply ef_eqa; exact rfl; exact rfl; exact rfl; exact rfl; exact rfl; exact rfl) | (apply ef_st; exact rfl; exact rfl; exact rfl; exact rfl; exact rfl; exact rfl; (first | exact rfl | assumption); exact rfl) | apply ef_nil | apply seqQ.normal | apply loopQ.ret | apply loopQ.exit | apply ef_ret | apply seqQ.ret | apply ef_exit | apply seqQ.exit | apply blockQ.normal | apply blockQ.ret | apply blockQ.here | (apply blockQ_there; exact rfl) | apply ef_block | apply ef_skip | (apply ef_condt; exact rfl; (first | exact (rfl : true = true) | assumption | exact decide_eq_true (by omega))) | (apply ef_condf; exact rfl; (first | exact (rfl : false = false) | assumption | exact decide_eq_false (by omega))))
              (refine fin2 rfl (by exact rfl) (by exact rfl) ?_)
              rw [polyCheck_side h0 HZ.out hlt HY.out hbb.symm]
        · repeat (first | apply ef_seq | (apply ef_mv; exact rfl; exact rfl) | (apply ef_bin; exact rfl; exact rfl; exact rfl; (first | exact cmp_t rfl (by first | exact rfl | (simp only [cmpP]; omega)) | exact cmp_f rfl (by simp only [cmpP]; omega) | ((with_reducible refine bin_add (wrap_of ?_ ?_)) <;> omega) | with_reducible exact bin_add (by assumption) | exact rfl)) | (apply ef_gy; exact rfl; (first | exact (rfl : true = true) | exact (rfl : false = false) | exact (rfl : true = !false) | exact (rfl : false = !true) | assumption | exact decide_eq_true (by omega) | exact decide_eq_false (by omega))) | (apply ef_gn; exact rfl; (first | exact (rfl : true = true) | exact (rfl : false = false) | exact (rfl : true = !false) | exact (rfl : false = !true) | assumption | exact decide_eq_true (by omega) | exact decide_eq_false (by omega)); exact rfl) | (apply ef_gu; exact rfl; exact rfl) | (apply ef_pick; exact rfl; exact rfl; exact rfl) | (apply ef_pickb; exact rfl; exact rfl; exact rfl; exact rfl) | (apply ef_len; exact rfl; exact rfl; (first | assumption | exact rfl)) | (apply ef_ldr; exact rfl; exact rfl; (first | exact rd_1 rfl | exact rd_2 rfl rfl | exact rfl)) | (apply ef_ldp; exact rfl; exact rfl; exact rfl; exact rfl; (first | exact rfl | assumption); (first | exact rd_1 rfl | exact rd_2 rfl rfl | exact rfl)) | (apply ef_ias; exact rfl; exact rfl; exact rfl; (first | omega | assumption); assumption; exact rfl) | (apply ef_iaa; exact rfl; exact rfl; exact rfl; (first | omega | assumption); (first | omega | assumption); exact rfl) | (apply ef_fap; exact rfl; exact rfl) | (apply ef_far; exact rfl; exact rfl) | (apply ef_ext; exact rfl; exact rfl; exact rfl) | (apply ef_box; exact rfl; exact rfl; exact rfl; exact rfl) | (apply ef_new; exact rfl) | (apply ef_eqa; exact rfl; exact rfl; exact rfl; exact rfl; exact rfl; exact rfl) | (apply ef_st; exact rfl; exact rfl; exact rfl; exact rfl; exact rfl; exact rfl; (first | exact rfl | assumption); exact rfl) | apply ef_nil | apply seqQ.normal | apply loopQ.ret | apply loopQ.exit | apply ef_ret | apply seqQ.ret | apply ef_exit | apply seqQ.exit | apply blockQ.normal | apply blockQ.ret | apply blockQ.here | (apply blockQ_there; exact rfl) | apply ef_block | apply ef_skip | (apply ef_condt; exact rfl; (first | exact (rfl : true = true) | assumption | exact decide_eq_true (by omega))) | (apply ef_condf; exact rfl; (first | exact (rfl : false = false) | assumption | exact decide_eq_false (by omega))))
          (refine fin2 rfl (by exact rfl) (by exact rfl) ?_)
          rw [polyCheck_ok h0 HZ.out fun j hj => hy j (by omega)]
end Go.Proofs.Ytgjpdjihjphbdaa

/- Contracts of polygons: the reference's area, fractions, inside. -/
namespace Go.Proofs.Ytgjpdjihjphbdaa
open Go.RowKit
set_option linter.unusedVariables false

def arS (cs : List Pt) : Nat → Int
  | 0 => 0
  | i + 1 => arS cs i + areaT cs i
theorem arS_bd {cs : List Pt} (h : ∀ p ∈ cs, InP p) : ∀ i : Nat, -(1000000 * (i : Int)) ≤ arS cs i ∧ arS cs i ≤ 1000000 * (i : Int)
  | 0 => by simp [arS]
  | i + 1 => by
    have := arS_bd h i
    have := areaT_bd h i
    simp only [arS]
    omega
theorem arS_all (cs : List Pt) : ∀ i, i ≤ cs.length → areaS cs ((allFin cs.length).take i) = arS cs i
  | 0, _ => by simp [areaS, arS]
  | i + 1, h => by
    have hi : i < (allFin cs.length).length := by simp [allFin]; omega
    rw [List.take_add_one, List.getElem?_eq_getElem hi, Option.toList_some, areaS_snoc, arS_all cs i (by omega), arS]
    simp [allFin]
theorem arS_area (cs : List Pt) : areaAll cs = arS cs cs.length := by
  rw [← arS_all cs cs.length (Nat.le_refl _), List.take_of_length_le (by simp [allFin])]; rfl
theorem areaT_eq {cs : List Pt} (h : ∀ p ∈ cs, InP p) (i : Nat) : (0 ≤ (corner cs i).1 * (nextC cs i).2 ∧ (corner cs i).1 * (nextC cs i).2 ≤ 1000000) ∧ (0 ≤ (nextC cs i).1 * (corner cs i).2 ∧ (nextC cs i).1 * (corner cs i).2 ≤ 1000000) := by
  obtain ⟨a1, a2, a3, a4⟩ := corner_inP h i
  obtain ⟨b1, b2, b3, b4⟩ := nextC_inP h i
  have m1 : 0 ≤ (corner cs i).1 * (nextC cs i).2 := Int.mul_nonneg a1 b3
  have m2 : 0 ≤ (nextC cs i).1 * (corner cs i).2 := Int.mul_nonneg b1 a3
  have m3 := mul_bd (a := (corner cs i).1) (b := (nextC cs i).2) (A := 1000) (B := 1000) (by omega) (by omega) (by omega) (by omega)
  have m4 := mul_bd (a := (nextC cs i).1) (b := (corner cs i).2) (A := 1000) (B := 1000) (by omega) (by omega) (by omega) (by omega)
  omega
theorem mf_rArea : MT.mf 30 = some ⟨35, [(.tmp 2)], (.seq (.reg [⟨none, (some 1), (.box 1 (.s 0))⟩, ⟨none, (some 2), (.mv (.c (.lit (.int .i64 0))))⟩]) (.seq (.reg [⟨none, (some 3), (.mv (.c (.lit (.int .i64 0))))⟩]) (.seq (.seq (.reg [⟨none, (some 4), (.mv (.c (.lit (.int .i64 0))))⟩]) (.block 0 (.loop [4, 1, 3] (.seq (.seq (.reg [⟨none, (some 7), (.mv (.s 4))⟩, ⟨none, (some 8), (.fa 0 (.s 1))⟩, ⟨none, (some 9), (.ld none (.s 8))⟩, ⟨none, (some 10), (.len (.s 9))⟩, ⟨none, (some 11), (.bin .lss (.s 7) (.s 10))⟩]) (.cond (.s 11) .skip (.exit 0))) (.seq (.block 1 (.seq (.reg [⟨none, (some 15), (.ld (some 1) (.s 1))⟩, ⟨none, (some 16), (.mv (.s 4))⟩, ⟨none, (some 17), (.call 103 [(.s 15), (.s 16)])⟩, ⟨none, (some 14), (.mv (.s 17))⟩, ⟨none, (some 18), (.ext (.s 14) 0)⟩, ⟨none, (some 19), (.ext (.s 14) 1)⟩, ⟨none, (some 5), (.new (.agg [(.lit (.int .i64 0)), (.lit (.int .i64 0))]))⟩, ⟨none, (some 6), (.new (.agg [(.lit (.int .i64 0)), (.lit (.int .i64 0))]))⟩, ⟨none, none, (.st 2 (.s 5) (.s 18))⟩, ⟨none, none, (.st 2 (.s 6) (.s 19))⟩]) (.reg [⟨none, (some 20), (.mv (.s 3))⟩, ⟨none, (some 21), (.fa 0 (.s 5))⟩, ⟨none, (some 22), (.ld none (.s 21))⟩, ⟨none, (some 23), (.fa 1 (.s 6))⟩, ⟨none, (some 24), (.ld none (.s 23))⟩, ⟨none, (some 25), (.bin .mul (.s 22) (.s 24))⟩, ⟨none, (some 26), (.bin .add (.s 20) (.s 25))⟩, ⟨none, (some 27), (.fa 0 (.s 6))⟩, ⟨none, (some 28), (.ld none (.s 27))⟩, ⟨none, (some 29), (.fa 1 (.s 5))⟩, ⟨none, (some 30), (.ld none (.s 29))⟩, ⟨none, (some 31), (.bin .mul (.s 28) (.s 30))⟩, ⟨none, (some 32), (.bin .sub (.s 26) (.s 31))⟩, ⟨none, (some 3), (.mv (.s 32))⟩]))) (.reg [⟨none, (some 12), (.mv (.s 4))⟩, ⟨none, (some 13), (.bin .add (.s 12) (.c (.lit (.int .i64 1))))⟩, ⟨none, (some 4), (.mv (.s 13))⟩])))))) (.seq (.reg [⟨none, (some 33), (.mv (.s 3))⟩, ⟨none, (some 34), (.call 88 [(.s 33)])⟩, ⟨none, (some 2), (.mv (.s 34))⟩]) .ret))))⟩ := by kernel_rfl
set_option maxHeartbeats 1000000 in
theorem rArea_c (k : Nat) (cs : List Pt) (hl : cs.length ≤ 1000) (hin : ∀ p ∈ cs, InP p) (h : MHeap) {v : Int} (hv : mx (areaAll cs) (-(areaAll cs)) = v) : orA (k + 2) 30 [encPg cs] h = some (I64 v, h) := by
  refine callL (args' := [encPg cs]) (frzL_lt (by simp [ltL, MV.lt, ltL_Pt])) rfl (runZ_of mf_rArea (by simp) ?_)
  have hs : (MV.sl (cs.map encPt)).slen = some cs.length := by simp [MV.slen]
  simp only [argsL]
  repeat (first | apply ef_seq | (apply ef_mv; exact rfl; exact rfl) | (apply ef_bin; exact rfl; exact rfl; exact rfl; (first | exact cmp_t rfl (by first | exact rfl | (simp only [cmpP]; omega)) | exact cmp_f rfl (by simp only [cmpP]; omega) | ((with_reducible refine bin_add (wrap_of ?_ ?_)) <;> omega) | ((with_reducible refine bin_sub (wrap_of ?_ ?_)) <;> omega) | ((with_reducible refine bin_mul (wrap_of ?_ ?_)) <;> omega) | with_reducible exact bin_add (by assumption) | with_reducible exact bin_sub (by assumption) | with_reducible exact bin_mul (by assumption) | exact rfl)) | (apply ef_len; exact rfl; exact rfl; (first | assumption | exact rfl)) | (apply ef_ldr; exact rfl; exact rfl; (first | exact rd_1 rfl | exact rfl)) | (apply ef_ldp; exact rfl; exact rfl; exact rfl; exact rfl; (first | exact rfl | assumption); (first | exact rd_1 rfl | exact rfl)) | (apply ef_fap; exact rfl; exact rfl) | (apply ef_far; exact rfl; exact rfl) | (apply ef_ext; exact rfl; exact rfl; exact rfl) | (apply ef_box; exact rfl; exact rfl; exact rfl; exact rfl) | (apply ef_new; exact rfl) | (apply ef_st; exact rfl; exact rfl; exact rfl; exact rfl; exact rfl; exact rfl; (first | exact rfl | assumption); exact rfl) | apply ef_nil | apply seqQ.normal | apply loopQ.ret | apply loopQ.exit | apply ef_ret | apply seqQ.ret | apply ef_exit | apply seqQ.exit | apply blockQ.normal | apply blockQ.ret | apply blockQ.here | (apply blockQ_there; exact rfl) | apply ef_block | apply ef_skip | (apply ef_condt; exact rfl; (first | exact (rfl : true = true) | assumption | exact decide_eq_true (by omega))) | (apply ef_condf; exact rfl; (first | exact (rfl : false = false) | assumption | exact decide_eq_false (by omega))))
  refine ef_loopf (α := Nat × Int) (fun s => s.1 ≤ cs.length ∧ s.2 = arS cs s.1) (fun s => [(4, I64 (s.1 : Int)), (3, I64 s.2)]) [(1, .ptr 0 0 0 0)] (fun _ => _) (fun s => cs.length - s.1) (0, 0) [4, 3] (fun _ => rfl) (by ((repeat (refine Hold.cons (by exact rfl) ?_)); exact Hold.nil)) (by ((repeat (refine Hold.cons (by exact rfl) ?_)); exact Hold.nil)) rfl rfl ⟨by simp, rfl⟩ (by simp only; omega) ?_
  rintro ⟨i, a⟩ ⟨hi, ha⟩
  try simp only at hi ha ⊢
  have hbd := arS_bd hin i
  by_cases hlt : i < cs.length
  · have hsd := fun h => rside_c k cs hl hlt h
    obtain ⟨⟨m1, m2⟩, m3, m4⟩ := areaT_eq hin i
    have hst := Lib.hid (show arS cs (i + 1) = a + (corner cs i).1 * (nextC cs i).2 - (nextC cs i).1 * (corner cs i).2 by rw [arS, ← ha]; unfold areaT; omega)
    rw [← ha] at hbd
    clear ha
    generalize corner cs i = p at *
    generalize nextC cs i = q at *
    generalize hp1 : p.1 * q.2 = P1 at *
    generalize hp2 : q.1 * p.2 = P2 at *
    have w1 : IntKind.i64.wrap (p.1 * q.2) = P1 := by rw [hp1]; exact wrap_of (by omega) (by omega)
    have w2 : IntKind.i64.wrap (q.1 * p.2) = P2 := by rw [hp2]; exact wrap_of (by omega) (by omega)
    clear hp1 hp2
    repeat (first | first | apply ef_seq | (apply ef_mv; exact rfl; exact rfl) | (apply ef_bin; exact rfl; exact rfl; exact rfl; (first | exact cmp_t rfl (by first | exact rfl | (simp only [cmpP]; omega)) | exact cmp_f rfl (by simp only [cmpP]; omega) | ((with_reducible refine bin_add (wrap_of ?_ ?_)) <;> omega) | ((with_reducible refine bin_sub (wrap_of ?_ ?_)) <;> omega) | ((with_reducible refine bin_mul (wrap_of ?_ ?_)) <;> omega) | with_reducible exact bin_add (by assumption) | with_reducible exact bin_sub (by assumption) | with_reducible exact bin_mul (by assumption) | exact rfl)) | (apply ef_len; exact rfl; exact rfl; (first | assumption | exact rfl)) | (apply ef_ldr; exact rfl; exact rfl; (first | exact rd_1 rfl | exact rfl)) | (apply ef_ldp; exact rfl; exact rfl; exact rfl; exact rfl; (first | exact rfl | assumption); (first | exact rd_1 rfl | exact rfl)) | (apply ef_fap; exact rfl; exact rfl) | (apply ef_far; exact rfl; exact rfl) | (apply ef_ext; exact rfl; exact rfl; exact rfl) | (apply ef_box; exact rfl; exact rfl; exact rfl; exact rfl) | (apply ef_new; exact rfl) | (apply ef_st; exact rfl; exact rfl; exact rfl; exact rfl; exact rfl; exact rfl; (first | exact rfl | assumption); exact rfl) | apply ef_nil | apply seqQ.normal | apply loopQ.ret | apply loopQ.exit | apply ef_ret | apply seqQ.ret | apply ef_exit | apply seqQ.exit | apply blockQ.normal | apply blockQ.ret | apply blockQ.here | (apply blockQ_there; exact rfl) | apply ef_block | apply ef_skip | (apply ef_condt; exact rfl; (first | exact (rfl : true = true) | assumption | exact decide_eq_true (by omega))) | (apply ef_condf; exact rfl; (first | exact (rfl : false = false) | assumption | exact decide_eq_false (by omega))) | (apply ef_call; exact rfl; ((repeat (apply XVs.cons; exact rfl)); exact XVs.nil); (with_reducible first | exact hsd _)))
    (refine loopQ.normal _ _ ⟨(i + 1, a + P1 - P2), ⟨hlt, by simp only; rw [hst.out]⟩, (by first | (simp only; omega) | omega), ⟨by ((repeat (refine Hold.cons (by exact rfl) ?_)); exact Hold.nil), by ((repeat (refine Hold.cons (by exact rfl) ?_)); exact Hold.nil)⟩, .inr ⟨by ((repeat (refine hdl_cons rfl (by first | rfl | (simp [MV.lt, ltL_Pt])) ?_)); exact hdl_nil), by first | rfl | (simp [hltL, ltL, MV.lt, ltL_Pt])⟩, by first | exact rfl | (simp only [List.map_append, List.map_set]; exact rfl)⟩)
  · have hall : areaAll cs = a := by rw [arS_area, ha, show i = cs.length by omega]
    rw [hall] at hv
    rw [← ha] at hbd
    have hsz := fun h => bSizeP_c (k + 0) a h (by omega) (by omega)
    repeat (first | first | apply ef_seq | (apply ef_mv; exact rfl; exact rfl) | (apply ef_bin; exact rfl; exact rfl; exact rfl; (first | exact cmp_t rfl (by first | exact rfl | (simp only [cmpP]; omega)) | exact cmp_f rfl (by simp only [cmpP]; omega) | ((with_reducible refine bin_add (wrap_of ?_ ?_)) <;> omega) | ((with_reducible refine bin_sub (wrap_of ?_ ?_)) <;> omega) | ((with_reducible refine bin_mul (wrap_of ?_ ?_)) <;> omega) | with_reducible exact bin_add (by assumption) | with_reducible exact bin_sub (by assumption) | with_reducible exact bin_mul (by assumption) | exact rfl)) | (apply ef_len; exact rfl; exact rfl; (first | assumption | exact rfl)) | (apply ef_ldr; exact rfl; exact rfl; (first | exact rd_1 rfl | exact rfl)) | (apply ef_ldp; exact rfl; exact rfl; exact rfl; exact rfl; (first | exact rfl | assumption); (first | exact rd_1 rfl | exact rfl)) | (apply ef_fap; exact rfl; exact rfl) | (apply ef_far; exact rfl; exact rfl) | (apply ef_ext; exact rfl; exact rfl; exact rfl) | (apply ef_box; exact rfl; exact rfl; exact rfl; exact rfl) | (apply ef_new; exact rfl) | (apply ef_st; exact rfl; exact rfl; exact rfl; exact rfl; exact rfl; exact rfl; (first | exact rfl | assumption); exact rfl) | apply ef_nil | apply seqQ.normal | apply loopQ.ret | apply loopQ.exit | apply ef_ret | apply seqQ.ret | apply ef_exit | apply seqQ.exit | apply blockQ.normal | apply blockQ.ret | apply blockQ.here | (apply blockQ_there; exact rfl) | apply ef_block | apply ef_skip | (apply ef_condt; exact rfl; (first | exact (rfl : true = true) | assumption | exact decide_eq_true (by omega))) | (apply ef_condf; exact rfl; (first | exact (rfl : false = false) | assumption | exact decide_eq_false (by omega))) | (apply ef_call; exact rfl; ((repeat (apply XVs.cons; exact rfl)); exact XVs.nil); (with_reducible first | exact hsz _)))
    (refine fin1 rfl (by exact rfl) rfl ?_)
    rw [← hv, show 0 - a = -a by omega]
theorem mf_bLowest : MT.mf 152 = some ⟨20, [(.cell 4 (some 2))], (.seq (.reg [⟨none, (some 4), (.new (.agg [(.lit (.int .i64 0)), (.lit (.int .i64 0))]))⟩]) (.seq (.reg [⟨none, (some 6), (.mv (.s 0))⟩, ⟨none, (some 7), (.mv (.s 1))⟩, ⟨none, (some 8), (.call 166 [(.s 6), (.s 7)])⟩, ⟨none, (some 5), (.mv (.s 8))⟩]) (.seq (.seq (.reg [⟨none, (some 9), (.mv (.s 1))⟩, ⟨none, (some 10), (.bin .lss (.s 9) (.c (.lit (.int .i64 0))))⟩]) (.cond (.s 10) (.reg [⟨none, (some 11), (.mv (.s 5))⟩, ⟨none, (some 12), (.un .neg (.s 11))⟩, ⟨none, (some 5), (.mv (.s 12))⟩]) .skip)) (.seq (.reg [⟨none, (some 13), (.mv (.s 0))⟩, ⟨none, (some 14), (.mv (.s 5))⟩, ⟨none, (some 15), (.bin .quo (.s 13) (.s 14))⟩, ⟨none, (some 16), (.mv (.s 1))⟩, ⟨none, (some 17), (.mv (.s 5))⟩, ⟨none, (some 18), (.bin .quo (.s 16) (.s 17))⟩, ⟨none, (some 19), (.build [(.lit (.int .i64 0)), (.lit (.int .i64 0))] [(0, (1, (.s 15))), (1, (1, (.s 18)))])⟩, ⟨none, none, (.st 2 (.s 4) (.s 19))⟩]) .ret))))⟩ := by kernel_rfl
theorem quo_eq {a b : Int} (hb : b ≠ 0) (h1 : -9223372036854775807 ≤ a) (h2 : a ≤ 9223372036854775807) : binI .quo .i64 a b = some (.int .i64 (a.tdiv b)) := by
  simp only [binI]
  rw [if_neg hb]
  have := tdiv_bd a b
  rw [wrap_of (by omega) (by omega)]
theorem bLowest_c (k : Nat) (n d : Int) (h : MHeap) (hd : d ≠ 0) (h1 : -9223372036854775807 ≤ n) (h2 : n ≤ 9223372036854775807) (h3 : -9223372036854775807 ≤ d) (h4 : d ≤ 9223372036854775807) : orA (k + 3) 152 [I64 n, I64 d] h = some (encPt (lowF n d), h) := by
  refine callG (args' := [I64 n, I64 d]) (frzL_lt (by simp [ltL, MV.lt])) rfl (runZ_of mf_bLowest (by simp) ?_) rfl
  have hg := fun h => bGcd_c k n d h h1 h2 h3 h4
  obtain ⟨hg0, _, _, _, _⟩ := lowG_ok (n := n) hd
  have hgl : (Int.gcd n d : Int) ≤ 9223372036854775807 := by
    have := Int.le_of_dvd (a := (Int.gcd n d : Int)) (b := (d.natAbs : Int)) (by omega) (Int.dvd_natAbs.2 (Int.gcd_dvd_right ..))
    omega
  have hq1 := quo_eq (a := n) hg0 h1 h2
  have hq2 := quo_eq (a := d) hg0 h3 h4
  have HF := Lib.hid (show lowF n d = (n.tdiv (lowG n d), d.tdiv (lowG n d)) from rfl)
  have hG : lowG n d = if d < 0 then -(Int.gcd n d : Int) else (Int.gcd n d : Int) := rfl
  generalize n.tdiv (lowG n d) = x at *
  generalize d.tdiv (lowG n d) = y at *
  generalize lowG n d = g at *
  have hgg : 0 ≤ (Int.gcd n d : Int) := by omega
  generalize (Int.gcd n d : Int) = G at *
  simp only [argsL]
  by_cases hn : d < 0
  · rw [if_pos hn, show -G = 0 - G by omega] at hG
    subst hG
    repeat (first | first | apply ef_seq | (apply ef_mv; exact rfl; exact rfl) | (apply ef_bin; exact rfl; exact rfl; exact rfl; (first | exact cmp_t rfl (by first | exact rfl | (simp only [cmpP]; omega)) | exact cmp_f rfl (by simp only [cmpP]; omega) | exact rfl)) | (apply ef_neg; exact rfl; exact rfl; exact wrap_of (by omega) (by omega)) | (apply ef_new; exact rfl) | (apply ef_build; exact rfl; (repeat (apply XVs.cons; exact rfl)); exact XVs.nil; exact rfl; exact rfl) | (apply ef_st; exact rfl; exact rfl; exact rfl; exact rfl; exact rfl; exact rfl; (first | exact rfl | assumption); exact rfl) | apply ef_nil | apply seqQ.normal | apply ef_ret | apply seqQ.ret | apply ef_skip | (apply ef_condt; exact rfl; (first | exact (rfl : true = true) | assumption | exact decide_eq_true (by omega))) | (apply ef_condf; exact rfl; (first | exact (rfl : false = false) | assumption | exact decide_eq_false (by omega))) | (apply ef_call; exact rfl; ((repeat (apply XVs.cons; exact rfl)); exact XVs.nil); (with_reducible first | exact hg _)))
    (apply ef_bin; (· exact rfl); (· exact rfl); (· exact rfl); (· exact hq1))
    repeat (first | apply ef_seq | (apply ef_mv; exact rfl; exact rfl) | (apply ef_bin; exact rfl; exact rfl; exact rfl; (first | exact cmp_t rfl (by first | exact rfl | (simp only [cmpP]; omega)) | exact cmp_f rfl (by simp only [cmpP]; omega) | exact rfl)) | (apply ef_neg; exact rfl; exact rfl; exact wrap_of (by omega) (by omega)) | (apply ef_new; exact rfl) | (apply ef_build; exact rfl; (repeat (apply XVs.cons; exact rfl)); exact XVs.nil; exact rfl; exact rfl) | (apply ef_st; exact rfl; exact rfl; exact rfl; exact rfl; exact rfl; exact rfl; (first | exact rfl | assumption); exact rfl) | apply ef_nil | apply seqQ.normal | apply ef_ret | apply seqQ.ret | apply ef_skip | (apply ef_condt; exact rfl; (first | exact (rfl : true = true) | assumption | exact decide_eq_true (by omega))) | (apply ef_condf; exact rfl; (first | exact (rfl : false = false) | assumption | exact decide_eq_false (by omega))))
    (apply ef_bin; (· exact rfl); (· exact rfl); (· exact rfl); (· exact hq2))
    repeat (first | apply ef_seq | (apply ef_mv; exact rfl; exact rfl) | (apply ef_bin; exact rfl; exact rfl; exact rfl; (first | exact cmp_t rfl (by first | exact rfl | (simp only [cmpP]; omega)) | exact cmp_f rfl (by simp only [cmpP]; omega) | exact rfl)) | (apply ef_neg; exact rfl; exact rfl; exact wrap_of (by omega) (by omega)) | (apply ef_new; exact rfl) | (apply ef_build; exact rfl; (repeat (apply XVs.cons; exact rfl)); exact XVs.nil; exact rfl; exact rfl) | (apply ef_st; exact rfl; exact rfl; exact rfl; exact rfl; exact rfl; exact rfl; (first | exact rfl | assumption); exact rfl) | apply ef_nil | apply seqQ.normal | apply ef_ret | apply seqQ.ret | apply ef_skip | (apply ef_condt; exact rfl; (first | exact (rfl : true = true) | assumption | exact decide_eq_true (by omega))) | (apply ef_condf; exact rfl; (first | exact (rfl : false = false) | assumption | exact decide_eq_false (by omega))))
    (apply finR1; (· exact rfl); (· apply resC; exact rfl; exact rfl; exact rfl; exact rfl; exact rd_2 rfl rfl); (· exact rfl); (· rw [HF.out]))
  · rw [if_neg hn] at hG
    subst hG
    repeat (first | first | apply ef_seq | (apply ef_mv; exact rfl; exact rfl) | (apply ef_bin; exact rfl; exact rfl; exact rfl; (first | exact cmp_t rfl (by first | exact rfl | (simp only [cmpP]; omega)) | exact cmp_f rfl (by simp only [cmpP]; omega) | exact rfl)) | (apply ef_neg; exact rfl; exact rfl; exact wrap_of (by omega) (by omega)) | (apply ef_new; exact rfl) | (apply ef_build; exact rfl; (repeat (apply XVs.cons; exact rfl)); exact XVs.nil; exact rfl; exact rfl) | (apply ef_st; exact rfl; exact rfl; exact rfl; exact rfl; exact rfl; exact rfl; (first | exact rfl | assumption); exact rfl) | apply ef_nil | apply seqQ.normal | apply ef_ret | apply seqQ.ret | apply ef_skip | (apply ef_condt; exact rfl; (first | exact (rfl : true = true) | assumption | exact decide_eq_true (by omega))) | (apply ef_condf; exact rfl; (first | exact (rfl : false = false) | assumption | exact decide_eq_false (by omega))) | (apply ef_call; exact rfl; ((repeat (apply XVs.cons; exact rfl)); exact XVs.nil); (with_reducible first | exact hg _)))
    (apply ef_bin; (· exact rfl); (· exact rfl); (· exact rfl); (· exact hq1))
    repeat (first | apply ef_seq | (apply ef_mv; exact rfl; exact rfl) | (apply ef_bin; exact rfl; exact rfl; exact rfl; (first | exact cmp_t rfl (by first | exact rfl | (simp only [cmpP]; omega)) | exact cmp_f rfl (by simp only [cmpP]; omega) | exact rfl)) | (apply ef_neg; exact rfl; exact rfl; exact wrap_of (by omega) (by omega)) | (apply ef_new; exact rfl) | (apply ef_build; exact rfl; (repeat (apply XVs.cons; exact rfl)); exact XVs.nil; exact rfl; exact rfl) | (apply ef_st; exact rfl; exact rfl; exact rfl; exact rfl; exact rfl; exact rfl; (first | exact rfl | assumption); exact rfl) | apply ef_nil | apply seqQ.normal | apply ef_ret | apply seqQ.ret | apply ef_skip | (apply ef_condt; exact rfl; (first | exact (rfl : true = true) | assumption | exact decide_eq_true (by omega))) | (apply ef_condf; exact rfl; (first | exact (rfl : false = false) | assumption | exact decide_eq_false (by omega))))
    (apply ef_bin; (· exact rfl); (· exact rfl); (· exact rfl); (· exact hq2))
    repeat (first | apply ef_seq | (apply ef_mv; exact rfl; exact rfl) | (apply ef_bin; exact rfl; exact rfl; exact rfl; (first | exact cmp_t rfl (by first | exact rfl | (simp only [cmpP]; omega)) | exact cmp_f rfl (by simp only [cmpP]; omega) | exact rfl)) | (apply ef_neg; exact rfl; exact rfl; exact wrap_of (by omega) (by omega)) | (apply ef_new; exact rfl) | (apply ef_build; exact rfl; (repeat (apply XVs.cons; exact rfl)); exact XVs.nil; exact rfl; exact rfl) | (apply ef_st; exact rfl; exact rfl; exact rfl; exact rfl; exact rfl; exact rfl; (first | exact rfl | assumption); exact rfl) | apply ef_nil | apply seqQ.normal | apply ef_ret | apply seqQ.ret | apply ef_skip | (apply ef_condt; exact rfl; (first | exact (rfl : true = true) | assumption | exact decide_eq_true (by omega))) | (apply ef_condf; exact rfl; (first | exact (rfl : false = false) | assumption | exact decide_eq_false (by omega))))
    (apply finR1; (· exact rfl); (· apply resC; exact rfl; exact rfl; exact rfl; exact rfl; exact rd_2 rfl rfl); (· exact rfl); (· rw [HF.out]))
theorem mf_bWhole : MT.mf 109 = some ⟨5, [(.cell 2 (some 2))], (.seq (.reg [⟨none, (some 2), (.new (.agg [(.lit (.int .i64 0)), (.lit (.int .i64 0))]))⟩]) (.seq (.reg [⟨none, (some 3), (.mv (.s 0))⟩, ⟨none, (some 4), (.build [(.lit (.int .i64 0)), (.lit (.int .i64 0))] [(0, (1, (.s 3))), (1, (1, (.c (.lit (.int .i64 1)))))])⟩, ⟨none, none, (.st 2 (.s 2) (.s 4))⟩]) .ret))⟩ := by kernel_rfl
theorem bWhole_c (k : Nat) (n : Int) (h : MHeap) : orA (k + 1) 109 [I64 n] h = some (encPt (n, 1), h) := by
  refine callG (args' := [I64 n]) (frzL_lt (by simp [ltL, MV.lt])) rfl (runZ_of mf_bWhole (by simp) ?_) rfl
  simp only [argsL]
  repeat (first | apply ef_seq | (apply ef_mv; exact rfl; exact rfl) | (apply ef_new; exact rfl) | (apply ef_build; exact rfl; (repeat (apply XVs.cons; exact rfl)); exact XVs.nil; exact rfl; exact rfl) | (apply ef_st; exact rfl; exact rfl; exact rfl; exact rfl; exact rfl; exact rfl; (first | exact rfl | assumption); exact rfl) | apply ef_nil | apply seqQ.normal | apply ef_ret | apply seqQ.ret)
  (apply finR1; (· exact rfl); (· apply resC; exact rfl; exact rfl; exact rfl; exact rfl; exact rd_2 rfl rfl); (· exact rfl); (· exact rfl))
theorem mf_bCmp : MT.mf 107 = some ⟨23, [(.tmp 4)], (.seq (.reg [⟨none, (some 2), (.box 2 (.s 0))⟩, ⟨none, (some 3), (.box 2 (.s 1))⟩, ⟨none, (some 4), (.mv (.c (.lit (.int .i64 0))))⟩]) (.seq (.reg [⟨none, (some 7), (.fa 0 (.s 2))⟩, ⟨none, (some 8), (.ld none (.s 7))⟩, ⟨none, (some 9), (.fa 1 (.s 3))⟩, ⟨none, (some 10), (.ld none (.s 9))⟩, ⟨none, (some 11), (.bin .mul (.s 8) (.s 10))⟩, ⟨none, (some 12), (.fa 0 (.s 3))⟩, ⟨none, (some 13), (.ld none (.s 12))⟩, ⟨none, (some 14), (.fa 1 (.s 2))⟩, ⟨none, (some 15), (.ld none (.s 14))⟩, ⟨none, (some 16), (.bin .mul (.s 13) (.s 15))⟩, ⟨none, (some 5), (.mv (.s 11))⟩, ⟨none, (some 6), (.mv (.s 16))⟩]) (.seq (.seq (.reg [⟨none, (some 17), (.mv (.s 5))⟩, ⟨none, (some 18), (.mv (.s 6))⟩, ⟨none, (some 19), (.bin .lss (.s 17) (.s 18))⟩]) (.cond (.s 19) (.seq (.reg [⟨none, (some 4), (.mv (.c (.lit (.int .i64 (-1)))))⟩]) .ret) .skip)) (.seq (.seq (.reg [⟨none, (some 20), (.mv (.s 5))⟩, ⟨none, (some 21), (.mv (.s 6))⟩, ⟨none, (some 22), (.bin .gtr (.s 20) (.s 21))⟩]) (.cond (.s 22) (.seq (.reg [⟨none, (some 4), (.mv (.c (.lit (.int .i64 1))))⟩]) .ret) .skip)) (.seq (.reg [⟨none, (some 4), (.mv (.c (.lit (.int .i64 0))))⟩]) .ret)))))⟩ := by kernel_rfl
theorem bCmp_c (k : Nat) (f g : Pt) (h : MHeap) (h1 : -9223372036854775807 ≤ f.1 * g.2 ∧ f.1 * g.2 ≤ 9223372036854775807) (h2 : -9223372036854775807 ≤ g.1 * f.2 ∧ g.1 * f.2 ≤ 9223372036854775807) {v : Int} (hv : cmpI (f.1 * g.2) (g.1 * f.2) = v) : orA (k + 1) 107 [encPt f, encPt g] h = some (I64 v, h) := by
  refine callL (args' := [encPt f, encPt g]) (frzL_lt (by simp [ltL, MV.lt])) rfl (runZ_of mf_bCmp (by simp) ?_)
  simp only [argsL]
  subst hv
  obtain ⟨a1, a2⟩ := h1
  obtain ⟨b1, b2⟩ := h2
  unfold cmpI
  generalize hp1 : f.1 * g.2 = P1 at *
  generalize hp2 : g.1 * f.2 = P2 at *
  have w1 : IntKind.i64.wrap (f.1 * g.2) = P1 := by rw [hp1]; exact wrap_of (by omega) (by omega)
  have w2 : IntKind.i64.wrap (g.1 * f.2) = P2 := by rw [hp2]; exact wrap_of (by omega) (by omega)
  clear hp1 hp2
  by_cases c1 : P1 < P2
  · repeat (first | apply ef_seq | (apply ef_mv; exact rfl; exact rfl) | (apply ef_bin; exact rfl; exact rfl; exact rfl; (first | exact cmp_t rfl (by first | exact rfl | (simp only [cmpP]; omega)) | exact cmp_f rfl (by simp only [cmpP]; omega) | ((with_reducible refine bin_mul (wrap_of ?_ ?_)) <;> omega) | with_reducible exact bin_mul (by assumption) | exact rfl)) | (apply ef_ldr; exact rfl; exact rfl; (first | exact rfl)) | (apply ef_ldp; exact rfl; exact rfl; exact rfl; exact rfl; (first | exact rfl | assumption); (first | exact rfl)) | (apply ef_fap; exact rfl; exact rfl) | (apply ef_far; exact rfl; exact rfl) | (apply ef_box; exact rfl; exact rfl; exact rfl; exact rfl) | apply ef_nil | apply seqQ.normal | apply ef_ret | apply seqQ.ret | apply ef_skip | (apply ef_condt; exact rfl; (first | exact (rfl : true = true) | assumption | exact decide_eq_true (by omega))) | (apply ef_condf; exact rfl; (first | exact (rfl : false = false) | assumption | exact decide_eq_false (by omega))))
    (refine fin1 rfl (by exact rfl) rfl ?_)
    rw [if_pos c1]
  · by_cases c2 : P2 < P1
    · repeat (first | apply ef_seq | (apply ef_mv; exact rfl; exact rfl) | (apply ef_bin; exact rfl; exact rfl; exact rfl; (first | exact cmp_t rfl (by first | exact rfl | (simp only [cmpP]; omega)) | exact cmp_f rfl (by simp only [cmpP]; omega) | ((with_reducible refine bin_mul (wrap_of ?_ ?_)) <;> omega) | with_reducible exact bin_mul (by assumption) | exact rfl)) | (apply ef_ldr; exact rfl; exact rfl; (first | exact rfl)) | (apply ef_ldp; exact rfl; exact rfl; exact rfl; exact rfl; (first | exact rfl | assumption); (first | exact rfl)) | (apply ef_fap; exact rfl; exact rfl) | (apply ef_far; exact rfl; exact rfl) | (apply ef_box; exact rfl; exact rfl; exact rfl; exact rfl) | apply ef_nil | apply seqQ.normal | apply ef_ret | apply seqQ.ret | apply ef_skip | (apply ef_condt; exact rfl; (first | exact (rfl : true = true) | assumption | exact decide_eq_true (by omega))) | (apply ef_condf; exact rfl; (first | exact (rfl : false = false) | assumption | exact decide_eq_false (by omega))))
      (refine fin1 rfl (by exact rfl) rfl ?_)
      rw [if_neg c1, if_pos c2]
    · repeat (first | apply ef_seq | (apply ef_mv; exact rfl; exact rfl) | (apply ef_bin; exact rfl; exact rfl; exact rfl; (first | exact cmp_t rfl (by first | exact rfl | (simp only [cmpP]; omega)) | exact cmp_f rfl (by simp only [cmpP]; omega) | ((with_reducible refine bin_mul (wrap_of ?_ ?_)) <;> omega) | with_reducible exact bin_mul (by assumption) | exact rfl)) | (apply ef_ldr; exact rfl; exact rfl; (first | exact rfl)) | (apply ef_ldp; exact rfl; exact rfl; exact rfl; exact rfl; (first | exact rfl | assumption); (first | exact rfl)) | (apply ef_fap; exact rfl; exact rfl) | (apply ef_far; exact rfl; exact rfl) | (apply ef_box; exact rfl; exact rfl; exact rfl; exact rfl) | apply ef_nil | apply seqQ.normal | apply ef_ret | apply seqQ.ret | apply ef_skip | (apply ef_condt; exact rfl; (first | exact (rfl : true = true) | assumption | exact decide_eq_true (by omega))) | (apply ef_condf; exact rfl; (first | exact (rfl : false = false) | assumption | exact decide_eq_false (by omega))))
      (refine fin1 rfl (by exact rfl) rfl ?_)
      rw [if_neg c1, if_neg c2]
theorem mf_rAt : MT.mf 108 = some ⟨32, [(.cell 6 (some 2))], (.seq (.reg [⟨none, (some 3), (.box 2 (.s 0))⟩, ⟨none, (some 4), (.box 2 (.s 1))⟩, ⟨none, (some 6), (.new (.agg [(.lit (.int .i64 0)), (.lit (.int .i64 0))]))⟩]) (.seq (.reg [⟨none, (some 7), (.fa 0 (.s 3))⟩, ⟨none, (some 8), (.ld none (.s 7))⟩, ⟨none, (some 9), (.fa 1 (.s 4))⟩, ⟨none, (some 10), (.ld none (.s 9))⟩, ⟨none, (some 11), (.fa 1 (.s 3))⟩, ⟨none, (some 12), (.ld none (.s 11))⟩, ⟨none, (some 13), (.bin .sub (.s 10) (.s 12))⟩, ⟨none, (some 14), (.bin .mul (.s 8) (.s 13))⟩, ⟨none, (some 15), (.fa 0 (.s 4))⟩, ⟨none, (some 16), (.ld none (.s 15))⟩, ⟨none, (some 17), (.fa 0 (.s 3))⟩, ⟨none, (some 18), (.ld none (.s 17))⟩, ⟨none, (some 19), (.bin .sub (.s 16) (.s 18))⟩, ⟨none, (some 20), (.mv (.s 2))⟩, ⟨none, (some 21), (.fa 1 (.s 3))⟩, ⟨none, (some 22), (.ld none (.s 21))⟩, ⟨none, (some 23), (.bin .sub (.s 20) (.s 22))⟩, ⟨none, (some 24), (.bin .mul (.s 19) (.s 23))⟩, ⟨none, (some 25), (.bin .add (.s 14) (.s 24))⟩, ⟨none, (some 26), (.fa 1 (.s 4))⟩, ⟨none, (some 27), (.ld none (.s 26))⟩, ⟨none, (some 28), (.fa 1 (.s 3))⟩, ⟨none, (some 29), (.ld none (.s 28))⟩, ⟨none, (some 30), (.bin .sub (.s 27) (.s 29))⟩, ⟨none, (some 31), (.call 152 [(.s 25), (.s 30)])⟩, ⟨none, none, (.st 2 (.s 6) (.s 31))⟩]) .ret))⟩ := by kernel_rfl
theorem atNr_bd {s t : Pt} {y : Int} (hs : InP s) (ht : InP t) (hy : 0 ≤ y ∧ y ≤ 1000) : (-1000000 ≤ s.1 * (t.2 - s.2) ∧ s.1 * (t.2 - s.2) ≤ 1000000) ∧ (-1000000 ≤ (t.1 - s.1) * (y - s.2) ∧ (t.1 - s.1) * (y - s.2) ≤ 1000000) := by
  obtain ⟨p1, p2, p3, p4⟩ := hs
  obtain ⟨p5, p6, p7, p8⟩ := ht
  have m1 := mul_bd (a := s.1) (b := t.2 - s.2) (A := 1000) (B := 1000) (by omega) (by omega) (by omega) (by omega)
  have m2 := mul_bd (a := t.1 - s.1) (b := y - s.2) (A := 1000) (B := 1000) (by omega) (by omega) (by omega) (by omega)
  omega
theorem rAt_c (k : Nat) (s t : Pt) (y : Int) (hs : InP s) (ht : InP t) (hy : 0 ≤ y ∧ y ≤ 1000) (hd : t.2 - s.2 ≠ 0) (h : MHeap) : orA (k + 4) 108 [encPt s, encPt t, I64 y] h = some (encPt (lowF (atNr s t y) (t.2 - s.2)), h) := by
  refine callG (args' := [encPt s, encPt t, I64 y]) (frzL_lt (by simp [ltL, MV.lt])) rfl (runZ_of mf_rAt (by simp) ?_) rfl
  obtain ⟨⟨a1, a2⟩, a3, a4⟩ := atNr_bd hs ht hy
  obtain ⟨p1, p2, p3, p4⟩ := hs
  obtain ⟨p5, p6, p7, p8⟩ := ht
  have hN : atNr s t y = s.1 * (t.2 - s.2) + (t.1 - s.1) * (y - s.2) := rfl
  have hlo := fun h => bLowest_c k (atNr s t y) (t.2 - s.2) h hd (by rw [hN]; omega) (by rw [hN]; omega) (by omega) (by omega)
  generalize lowF (atNr s t y) (t.2 - s.2) = f at *
  generalize atNr s t y = N at *
  generalize hp1 : s.1 * (t.2 - s.2) = P1 at *
  generalize hp2 : (t.1 - s.1) * (y - s.2) = P2 at *
  have w1 : IntKind.i64.wrap (s.1 * (t.2 - s.2)) = P1 := by rw [hp1]; exact wrap_of (by omega) (by omega)
  have w2 : IntKind.i64.wrap ((t.1 - s.1) * (y - s.2)) = P2 := by rw [hp2]; exact wrap_of (by omega) (by omega)
  clear hp1 hp2
  subst hN
  simp only [argsL]
  repeat (first | first | apply ef_seq | (apply ef_mv; exact rfl; exact rfl) | (apply ef_bin; exact rfl; exact rfl; exact rfl; (first | ((with_reducible refine bin_add (wrap_of ?_ ?_)) <;> omega) | ((with_reducible refine bin_sub (wrap_of ?_ ?_)) <;> omega) | ((with_reducible refine bin_mul (wrap_of ?_ ?_)) <;> omega) | with_reducible exact bin_add (by assumption) | with_reducible exact bin_sub (by assumption) | with_reducible exact bin_mul (by assumption) | exact rfl)) | (apply ef_ldr; exact rfl; exact rfl; (first | exact rfl)) | (apply ef_ldp; exact rfl; exact rfl; exact rfl; exact rfl; (first | exact rfl | assumption); (first | exact rfl)) | (apply ef_fap; exact rfl; exact rfl) | (apply ef_far; exact rfl; exact rfl) | (apply ef_box; exact rfl; exact rfl; exact rfl; exact rfl) | (apply ef_new; exact rfl) | (apply ef_st; exact rfl; exact rfl; exact rfl; exact rfl; exact rfl; exact rfl; (first | exact rfl | assumption); exact rfl) | apply ef_nil | apply seqQ.normal | apply ef_ret | apply seqQ.ret | (apply ef_call; exact rfl; ((repeat (apply XVs.cons; exact rfl)); exact XVs.nil); (with_reducible first | exact hlo _)))
  (apply finR1; (· exact rfl); (· first | exact rfl | (apply resC; exact rfl; exact rfl; exact rfl; exact rfl; exact rd_2 rfl rfl)); (· exact rfl); (· exact rfl))
end Go.Proofs.Ytgjpdjihjphbdaa

/- Contracts of polygons: inside, by the reference. -/
namespace Go.Proofs.Ytgjpdjihjphbdaa
open Go.RowKit
set_option linter.unusedVariables false

theorem lowF_small {n d : Int} {N D : Int} (h1 : -N ≤ n) (h2 : n ≤ N) (h3 : -D ≤ d) (h4 : d ≤ D) : (-N ≤ (lowF n d).1 ∧ (lowF n d).1 ≤ N) ∧ (-D ≤ (lowF n d).2 ∧ (lowF n d).2 ≤ D) := by
  have := lowF_bd n d
  omega
theorem mf_rInside : MT.mf 32 = some ⟨48, [(.tmp 4)], (.seq (.reg [⟨none, (some 2), (.box 1 (.s 0))⟩, ⟨none, (some 3), (.box 2 (.s 1))⟩, ⟨none, (some 4), (.mv (.c (.lit (.int .i64 0))))⟩]) (.seq (.reg [⟨none, (some 5), (.mv (.c (.lit (.int .i64 0))))⟩]) (.seq (.seq (.reg [⟨none, (some 6), (.mv (.c (.lit (.int .i64 0))))⟩]) (.block 0 (.loop [6, 2, 3, 5] (.seq (.seq (.reg [⟨none, (some 9), (.mv (.s 6))⟩, ⟨none, (some 10), (.fa 0 (.s 2))⟩, ⟨none, (some 11), (.ld none (.s 10))⟩, ⟨none, (some 12), (.len (.s 11))⟩, ⟨none, (some 13), (.bin .lss (.s 9) (.s 12))⟩]) (.cond (.s 13) .skip (.exit 0))) (.seq (.block 1 (.seq (.reg [⟨none, (some 17), (.ld (some 1) (.s 2))⟩, ⟨none, (some 18), (.mv (.s 6))⟩, ⟨none, (some 19), (.call 103 [(.s 17), (.s 18)])⟩, ⟨none, (some 16), (.mv (.s 19))⟩, ⟨none, (some 20), (.ext (.s 16) 0)⟩, ⟨none, (some 21), (.ext (.s 16) 1)⟩, ⟨none, (some 7), (.new (.agg [(.lit (.int .i64 0)), (.lit (.int .i64 0))]))⟩, ⟨none, (some 8), (.new (.agg [(.lit (.int .i64 0)), (.lit (.int .i64 0))]))⟩, ⟨none, none, (.st 2 (.s 7) (.s 20))⟩, ⟨none, none, (.st 2 (.s 8) (.s 21))⟩]) (.seq (.seq (.reg [⟨none, (some 22), (.ld (some 2) (.s 7))⟩, ⟨none, (some 23), (.ld (some 2) (.s 8))⟩, ⟨none, (some 24), (.ld (some 2) (.s 3))⟩, ⟨none, (some 25), (.call 105 [(.s 22), (.s 23), (.s 24)])⟩]) (.cond (.s 25) (.seq (.reg [⟨none, (some 4), (.mv (.c (.lit (.int .i64 1))))⟩]) .ret) .skip)) (.seq (.reg [⟨none, (some 26), (.ld (some 2) (.s 7))⟩, ⟨none, (some 27), (.ld (some 2) (.s 8))⟩, ⟨none, (some 28), (.fa 1 (.s 3))⟩, ⟨none, (some 29), (.ld none (.s 28))⟩, ⟨none, (some 30), (.call 106 [(.s 26), (.s 27), (.s 29)])⟩, ⟨none, (some 31), (.mv (.s 30))⟩, ⟨(some (31, true)), (some 32), (.ld (some 2) (.s 7))⟩, ⟨(some (31, true)), (some 33), (.ld (some 2) (.s 8))⟩, ⟨(some (31, true)), (some 34), (.fa 1 (.s 3))⟩, ⟨(some (31, true)), (some 35), (.ld none (.s 34))⟩, ⟨(some (31, true)), (some 36), (.call 108 [(.s 32), (.s 33), (.s 35)])⟩, ⟨(some (31, true)), (some 37), (.fa 0 (.s 3))⟩, ⟨(some (31, true)), (some 38), (.ld none (.s 37))⟩, ⟨(some (31, true)), (some 39), (.call 109 [(.s 38)])⟩, ⟨(some (31, true)), (some 40), (.call 107 [(.s 36), (.s 39)])⟩, ⟨(some (31, true)), (some 41), (.bin .gtr (.s 40) (.c (.lit (.int .i64 0))))⟩, ⟨none, (some 42), (.pick (.s 31) (.s 41) (.c (.lit (.bool false))))⟩]) (.cond (.s 42) (.reg [⟨none, (some 43), (.mv (.s 5))⟩, ⟨none, (some 44), (.bin .add (.s 43) (.c (.lit (.int .i64 1))))⟩, ⟨none, (some 5), (.mv (.s 44))⟩]) .skip))))) (.reg [⟨none, (some 14), (.mv (.s 6))⟩, ⟨none, (some 15), (.bin .add (.s 14) (.c (.lit (.int .i64 1))))⟩, ⟨none, (some 6), (.mv (.s 15))⟩])))))) (.seq (.seq (.reg [⟨none, (some 45), (.mv (.s 5))⟩, ⟨none, (some 46), (.bin .rem (.s 45) (.c (.lit (.int .i64 2))))⟩, ⟨none, (some 47), (.bin .eql (.s 46) (.c (.lit (.int .i64 1))))⟩]) (.cond (.s 47) (.seq (.reg [⟨none, (some 4), (.mv (.c (.lit (.int .i64 2))))⟩]) .ret) .skip)) (.seq (.reg [⟨none, (some 4), (.mv (.c (.lit (.int .i64 0))))⟩]) .ret)))))⟩ := by kernel_rfl
set_option maxHeartbeats 2000000 in
theorem rInside_c (k : Nat) (cs : List Pt) (x : Pt) (hl : cs.length ≤ 1000) (hin : ∀ p ∈ cs, InP p) (hx : InP x) (h : MHeap) {v : Int} (hv : insI cs x = v) : orA (k + 5) 32 [encPg cs, encPt x] h = some (I64 v, h) := by
  refine callL (args' := [encPg cs, encPt x]) (frzL_lt (by simp [ltL, MV.lt, ltL_Pt])) rfl (runZ_of mf_rInside (by simp) ?_)
  have hs : (MV.sl (cs.map encPt)).slen = some cs.length := by simp [MV.slen]
  simp only [argsL]
  repeat (first | apply ef_seq | (apply ef_mv; exact rfl; exact rfl) | (apply ef_bin; exact rfl; exact rfl; exact rfl; (first | exact cmp_t rfl (by first | exact rfl | (simp only [cmpP]; omega)) | exact cmp_f rfl (by simp only [cmpP]; omega) | ((with_reducible refine bin_add (wrap_of ?_ ?_)) <;> omega) | with_reducible exact bin_add (by assumption) | exact rfl)) | (apply ef_gy; exact rfl; (first | exact (rfl : true = true) | exact (rfl : false = false) | exact (rfl : true = !false) | exact (rfl : false = !true) | assumption | exact decide_eq_true (by omega) | exact decide_eq_false (by omega))) | (apply ef_gn; exact rfl; (first | exact (rfl : true = true) | exact (rfl : false = false) | exact (rfl : true = !false) | exact (rfl : false = !true) | assumption | exact decide_eq_true (by omega) | exact decide_eq_false (by omega)); exact rfl) | (apply ef_gu; exact rfl; exact rfl) | (apply ef_pick; exact rfl; exact rfl; exact rfl) | (apply ef_pickb; exact rfl; exact rfl; exact rfl; exact rfl) | (apply ef_len; exact rfl; exact rfl; (first | assumption | exact rfl)) | (apply ef_ldr; exact rfl; exact rfl; (first | exact rd_1 rfl | exact rd_2 rfl rfl | exact rfl)) | (apply ef_ldp; exact rfl; exact rfl; exact rfl; exact rfl; (first | exact rfl | assumption); (first | exact rd_1 rfl | exact rd_2 rfl rfl | exact rfl)) | (apply ef_fap; exact rfl; exact rfl) | (apply ef_far; exact rfl; exact rfl) | (apply ef_ext; exact rfl; exact rfl; exact rfl) | (apply ef_box; exact rfl; exact rfl; exact rfl; exact rfl) | (apply ef_new; exact rfl) | (apply ef_st; exact rfl; exact rfl; exact rfl; exact rfl; exact rfl; exact rfl; (first | exact rfl | assumption); exact rfl) | apply ef_nil | apply seqQ.normal | apply loopQ.ret | apply loopQ.exit | apply ef_ret | apply seqQ.ret | apply ef_exit | apply seqQ.exit | apply blockQ.normal | apply blockQ.ret | apply blockQ.here | (apply blockQ_there; exact rfl) | apply ef_block | apply ef_skip | (apply ef_condt; exact rfl; (first | exact (rfl : true = true) | assumption | exact decide_eq_true (by omega))) | (apply ef_condf; exact rfl; (first | exact (rfl : false = false) | assumption | exact decide_eq_false (by omega))))
  refine ef_loopf (α := Nat × Nat) (fun s => s.1 ≤ cs.length ∧ s.2 = cntR cs x s.1 ∧ s.2 ≤ s.1 ∧ onAny cs x s.1 = false) (fun s => [(6, I64 (s.1 : Int)), (5, I64 (s.2 : Int))]) [(2, .ptr 0 0 0 0), (3, .ptr 1 0 0 0)] (fun _ => _) (fun s => cs.length - s.1) (0, 0) [6, 5] (fun _ => rfl) (by ((repeat (refine Hold.cons (by exact rfl) ?_)); exact Hold.nil)) (by ((repeat (refine Hold.cons (by exact rfl) ?_)); exact Hold.nil)) rfl rfl ⟨by simp, rfl, by simp, rfl⟩ (by simp only; omega) ?_
  rintro ⟨i, n⟩ ⟨hi, hn, hni, ho⟩
  try simp only at hi hn hni ho ⊢
  by_cases hlt : i < cs.length
  · have hsd := fun h => rside_c (k + 3) cs hl hlt h
    have q1 := corner_inP hin i
    have q2 := nextC_inP hin i
    have hon := fun {b} (hb : onS (corner cs i) (nextC cs i) x = b) h => rOn_c (k + 2) _ _ _ q1 q2 hx h hb
    have hcr := fun {b} (hb : crossS (corner cs i) (nextC cs i) x.2 = b) h => rCrosses_c (k + 3) (corner cs i) (nextC cs i) x.2 h hb
    have HN := Lib.hid hn
    have HO := Lib.hid ho
    have HC1 := Lib.hid (show cntR cs x (i + 1) = cntR cs x i + if rightS (corner cs i) (nextC cs i) x then 1 else 0 from rfl)
    have HO1 := Lib.hid (show onAny cs x (i + 1) = (onAny cs x i || onS (corner cs i) (nextC cs i) x) from rfl)
    have HI := Lib.hid (fun hb => ins_on (cs := cs) (x := x) hlt hb)
    have hrr := fun hc => right_ref (s := corner cs i) (t := nextC cs i) (x := x) hc
    have hat := fun hd h => rAt_c k (corner cs i) (nextC cs i) x.2 q1 q2 ⟨hx.2.2.1, hx.2.2.2⟩ hd h
    have hN := atNr_bd q1 q2 ⟨hx.2.2.1, hx.2.2.2⟩
    have hR : rightS (corner cs i) (nextC cs i) x = (crossS (corner cs i) (nextC cs i) x.2 && decide (x.1 * atD (corner cs i) (nextC cs i) < atN (corner cs i) (nextC cs i) x.2)) := rfl
    have hne := fun hc => cross_ne (s := corner cs i) (t := nextC cs i) (y := x.2) hc
    clear hn ho
    have hND : (nextC cs i).2 - (corner cs i).2 ≤ 1000 ∧ -1000 ≤ (nextC cs i).2 - (corner cs i).2 := by
      obtain ⟨p1, p2, p3, p4⟩ := q1
      obtain ⟨p5, p6, p7, p8⟩ := q2
      omega
    have hlow := lowF_small (n := atNr (corner cs i) (nextC cs i) x.2) (d := (nextC cs i).2 - (corner cs i).2) (N := 2000000) (D := 1000) (by unfold atNr; omega) (by unfold atNr; omega) (by omega) (by omega)
    generalize corner cs i = p at *
    generalize nextC cs i = q at *
    cases h1 : onS p q x
    · have hon := hon h1
      rw [h1] at HO1
      cases h2 : crossS p q x.2
      · have hcr := hcr h2
        rw [h2, Bool.false_and] at hR
        rw [hR] at HC1
        repeat (first | first | apply ef_seq | (apply ef_mv; exact rfl; exact rfl) | (apply ef_bin; exact rfl; exact rfl; exact rfl; (first | exact cmp_t rfl (by first | exact rfl | (simp only [cmpP]; omega)) | exact cmp_f rfl (by simp only [cmpP]; omega) | ((with_reducible refine bin_add (wrap_of ?_ ?_)) <;> omega) | with_reducible exact bin_add (by assumption) | exact rfl)) | (apply ef_gy; exact rfl; (first | exact (rfl : true = true) | exact (rfl : false = false) | exact (rfl : true = !false) | exact (rfl : false = !true) | assumption | exact decide_eq_true (by omega) | exact decide_eq_false (by omega))) | (apply ef_gn; exact rfl; (first | exact (rfl : true = true) | exact (rfl : false = false) | exact (rfl : true = !false) | exact (rfl : false = !true) | assumption | exact decide_eq_true (by omega) | exact decide_eq_false (by omega)); exact rfl) | (apply ef_gu; exact rfl; exact rfl) | (apply ef_pick; exact rfl; exact rfl; exact rfl) | (apply ef_pickb; exact rfl; exact rfl; exact rfl; exact rfl) | (apply ef_len; exact rfl; exact rfl; (first | assumption | exact rfl)) | (apply ef_ldr; exact rfl; exact rfl; (first | exact rd_1 rfl | exact rd_2 rfl rfl | exact rfl)) | (apply ef_ldp; exact rfl; exact rfl; exact rfl; exact rfl; (first | exact rfl | assumption); (first | exact rd_1 rfl | exact rd_2 rfl rfl | exact rfl)) | (apply ef_fap; exact rfl; exact rfl) | (apply ef_far; exact rfl; exact rfl) | (apply ef_ext; exact rfl; exact rfl; exact rfl) | (apply ef_box; exact rfl; exact rfl; exact rfl; exact rfl) | (apply ef_new; exact rfl) | (apply ef_st; exact rfl; exact rfl; exact rfl; exact rfl; exact rfl; exact rfl; (first | exact rfl | assumption); exact rfl) | apply ef_nil | apply seqQ.normal | apply loopQ.ret | apply loopQ.exit | apply ef_ret | apply seqQ.ret | apply ef_exit | apply seqQ.exit | apply blockQ.normal | apply blockQ.ret | apply blockQ.here | (apply blockQ_there; exact rfl) | apply ef_block | apply ef_skip | (apply ef_condt; exact rfl; (first | exact (rfl : true = true) | assumption | exact decide_eq_true (by omega))) | (apply ef_condf; exact rfl; (first | exact (rfl : false = false) | assumption | exact decide_eq_false (by omega))) | (apply ef_call; exact rfl; ((repeat (apply XVs.cons; exact rfl)); exact XVs.nil); (with_reducible first | exact hsd _ | exact hon _ | exact hcr _)))
        (refine loopQ.normal _ _ ⟨(i + 1, n), ⟨hlt, by simp only; rw [HC1.out, HN.out]; rfl, by simp only; omega, by simp only; rw [HO1.out, HO.out]; rfl⟩, (by first | (simp only; omega) | omega), ⟨by ((repeat (refine Hold.cons (by exact rfl) ?_)); exact Hold.nil), by ((repeat (refine Hold.cons (by exact rfl) ?_)); exact Hold.nil)⟩, .inr ⟨by ((repeat (refine hdl_cons rfl (by first | rfl | (simp [MV.lt, ltL_Pt])) ?_)); exact hdl_nil), by first | rfl | (simp [hltL, ltL, MV.lt, ltL_Pt])⟩, by first | exact rfl | (simp only [List.map_append, List.map_set]; exact rfl)⟩)
      · have hcr := hcr h2
        have hat := hat (hne h2)
        have hrr := hrr h2
        rw [h2, Bool.true_and, ← hrr] at hR
        rw [hR] at HC1
        clear hR hrr
        have hwh := fun h => bWhole_c (k + 3) x.1 h
        generalize lowF (atNr p q x.2) (q.2 - p.2) = f at *
        have hm1 := mul_bd (a := x.1) (b := f.2) (A := 1000) (B := 1000) (by obtain ⟨x1, x2, x3, x4⟩ := hx; omega) (by obtain ⟨x1, x2, x3, x4⟩ := hx; omega) (by omega) (by omega)
        have hcm := fun h => bCmp_c (k + 3) f (x.1, 1) h (by simp only; omega) (by simp only; omega) rfl
        simp only at hcm
        generalize cmpI (f.1 * 1) (x.1 * f.2) = c at *
        by_cases h3 : 0 < c
        · rw [decide_eq_true h3] at HC1
          repeat (first | first | apply ef_seq | (apply ef_mv; exact rfl; exact rfl) | (apply ef_bin; exact rfl; exact rfl; exact rfl; (first | exact cmp_t rfl (by first | exact rfl | (simp only [cmpP]; omega)) | exact cmp_f rfl (by simp only [cmpP]; omega) | ((with_reducible refine bin_add (wrap_of ?_ ?_)) <;> omega) | with_reducible exact bin_add (by assumption) | exact rfl)) | (apply ef_gy; exact rfl; (first | exact (rfl : true = true) | exact (rfl : false = false) | exact (rfl : true = !false) | exact (rfl : false = !true) | assumption | exact decide_eq_true (by omega) | exact decide_eq_false (by omega))) | (apply ef_gn; exact rfl; (first | exact (rfl : true = true) | exact (rfl : false = false) | exact (rfl : true = !false) | exact (rfl : false = !true) | assumption | exact decide_eq_true (by omega) | exact decide_eq_false (by omega)); exact rfl) | (apply ef_gu; exact rfl; exact rfl) | (apply ef_pick; exact rfl; exact rfl; exact rfl) | (apply ef_pickb; exact rfl; exact rfl; exact rfl; exact rfl) | (apply ef_len; exact rfl; exact rfl; (first | assumption | exact rfl)) | (apply ef_ldr; exact rfl; exact rfl; (first | exact rd_1 rfl | exact rd_2 rfl rfl | exact rfl)) | (apply ef_ldp; exact rfl; exact rfl; exact rfl; exact rfl; (first | exact rfl | assumption); (first | exact rd_1 rfl | exact rd_2 rfl rfl | exact rfl)) | (apply ef_fap; exact rfl; exact rfl) | (apply ef_far; exact rfl; exact rfl) | (apply ef_ext; exact rfl; exact rfl; exact rfl) | (apply ef_box; exact rfl; exact rfl; exact rfl; exact rfl) | (apply ef_new; exact rfl) | (apply ef_st; exact rfl; exact rfl; exact rfl; exact rfl; exact rfl; exact rfl; (first | exact rfl | assumption); exact rfl) | apply ef_nil | apply seqQ.normal | apply loopQ.ret | apply loopQ.exit | apply ef_ret | apply seqQ.ret | apply ef_exit | apply seqQ.exit | apply blockQ.normal | apply blockQ.ret | apply blockQ.here | (apply blockQ_there; exact rfl) | apply ef_block | apply ef_skip | (apply ef_condt; exact rfl; (first | exact (rfl : true = true) | assumption | exact decide_eq_true (by omega))) | (apply ef_condf; exact rfl; (first | exact (rfl : false = false) | assumption | exact decide_eq_false (by omega))) | (apply ef_call; exact rfl; ((repeat (apply XVs.cons; exact rfl)); exact XVs.nil); (with_reducible first | exact hsd _ | exact hon _ | exact hcr _ | exact hat _ | exact hwh _ | exact hcm _)))
          (refine loopQ.normal _ _ ⟨(i + 1, n + 1), ⟨hlt, by simp only; rw [HC1.out, HN.out]; rfl, by simp only; omega, by simp only; rw [HO1.out, HO.out]; rfl⟩, (by first | (simp only; omega) | omega), ⟨by ((repeat (refine Hold.cons (by exact rfl) ?_)); exact Hold.nil), by ((repeat (refine Hold.cons (by exact rfl) ?_)); exact Hold.nil)⟩, .inr ⟨by ((repeat (refine hdl_cons rfl (by first | rfl | (simp [MV.lt, ltL_Pt])) ?_)); exact hdl_nil), by first | rfl | (simp [hltL, ltL, MV.lt, ltL_Pt])⟩, by first | exact rfl | (simp only [List.map_append, List.map_set]; exact rfl)⟩)
        · rw [decide_eq_false h3] at HC1
          repeat (first | first | apply ef_seq | (apply ef_mv; exact rfl; exact rfl) | (apply ef_bin; exact rfl; exact rfl; exact rfl; (first | exact cmp_t rfl (by first | exact rfl | (simp only [cmpP]; omega)) | exact cmp_f rfl (by simp only [cmpP]; omega) | ((with_reducible refine bin_add (wrap_of ?_ ?_)) <;> omega) | with_reducible exact bin_add (by assumption) | exact rfl)) | (apply ef_gy; exact rfl; (first | exact (rfl : true = true) | exact (rfl : false = false) | exact (rfl : true = !false) | exact (rfl : false = !true) | assumption | exact decide_eq_true (by omega) | exact decide_eq_false (by omega))) | (apply ef_gn; exact rfl; (first | exact (rfl : true = true) | exact (rfl : false = false) | exact (rfl : true = !false) | exact (rfl : false = !true) | assumption | exact decide_eq_true (by omega) | exact decide_eq_false (by omega)); exact rfl) | (apply ef_gu; exact rfl; exact rfl) | (apply ef_pick; exact rfl; exact rfl; exact rfl) | (apply ef_pickb; exact rfl; exact rfl; exact rfl; exact rfl) | (apply ef_len; exact rfl; exact rfl; (first | assumption | exact rfl)) | (apply ef_ldr; exact rfl; exact rfl; (first | exact rd_1 rfl | exact rd_2 rfl rfl | exact rfl)) | (apply ef_ldp; exact rfl; exact rfl; exact rfl; exact rfl; (first | exact rfl | assumption); (first | exact rd_1 rfl | exact rd_2 rfl rfl | exact rfl)) | (apply ef_fap; exact rfl; exact rfl) | (apply ef_far; exact rfl; exact rfl) | (apply ef_ext; exact rfl; exact rfl; exact rfl) | (apply ef_box; exact rfl; exact rfl; exact rfl; exact rfl) | (apply ef_new; exact rfl) | (apply ef_st; exact rfl; exact rfl; exact rfl; exact rfl; exact rfl; exact rfl; (first | exact rfl | assumption); exact rfl) | apply ef_nil | apply seqQ.normal | apply loopQ.ret | apply loopQ.exit | apply ef_ret | apply seqQ.ret | apply ef_exit | apply seqQ.exit | apply blockQ.normal | apply blockQ.ret | apply blockQ.here | (apply blockQ_there; exact rfl) | apply ef_block | apply ef_skip | (apply ef_condt; exact rfl; (first | exact (rfl : true = true) | assumption | exact decide_eq_true (by omega))) | (apply ef_condf; exact rfl; (first | exact (rfl : false = false) | assumption | exact decide_eq_false (by omega))) | (apply ef_call; exact rfl; ((repeat (apply XVs.cons; exact rfl)); exact XVs.nil); (with_reducible first | exact hsd _ | exact hon _ | exact hcr _ | exact hat _ | exact hwh _ | exact hcm _)))
          (refine loopQ.normal _ _ ⟨(i + 1, n), ⟨hlt, by simp only; rw [HC1.out, HN.out]; rfl, by simp only; omega, by simp only; rw [HO1.out, HO.out]; rfl⟩, (by first | (simp only; omega) | omega), ⟨by ((repeat (refine Hold.cons (by exact rfl) ?_)); exact Hold.nil), by ((repeat (refine Hold.cons (by exact rfl) ?_)); exact Hold.nil)⟩, .inr ⟨by ((repeat (refine hdl_cons rfl (by first | rfl | (simp [MV.lt, ltL_Pt])) ?_)); exact hdl_nil), by first | rfl | (simp [hltL, ltL, MV.lt, ltL_Pt])⟩, by first | exact rfl | (simp only [List.map_append, List.map_set]; exact rfl)⟩)
    · have hon := hon h1
      have HI := HI.out h1
      repeat (first | first | apply ef_seq | (apply ef_mv; exact rfl; exact rfl) | (apply ef_bin; exact rfl; exact rfl; exact rfl; (first | exact cmp_t rfl (by first | exact rfl | (simp only [cmpP]; omega)) | exact cmp_f rfl (by simp only [cmpP]; omega) | ((with_reducible refine bin_add (wrap_of ?_ ?_)) <;> omega) | with_reducible exact bin_add (by assumption) | exact rfl)) | (apply ef_gy; exact rfl; (first | exact (rfl : true = true) | exact (rfl : false = false) | exact (rfl : true = !false) | exact (rfl : false = !true) | assumption | exact decide_eq_true (by omega) | exact decide_eq_false (by omega))) | (apply ef_gn; exact rfl; (first | exact (rfl : true = true) | exact (rfl : false = false) | exact (rfl : true = !false) | exact (rfl : false = !true) | assumption | exact decide_eq_true (by omega) | exact decide_eq_false (by omega)); exact rfl) | (apply ef_gu; exact rfl; exact rfl) | (apply ef_pick; exact rfl; exact rfl; exact rfl) | (apply ef_pickb; exact rfl; exact rfl; exact rfl; exact rfl) | (apply ef_len; exact rfl; exact rfl; (first | assumption | exact rfl)) | (apply ef_ldr; exact rfl; exact rfl; (first | exact rd_1 rfl | exact rd_2 rfl rfl | exact rfl)) | (apply ef_ldp; exact rfl; exact rfl; exact rfl; exact rfl; (first | exact rfl | assumption); (first | exact rd_1 rfl | exact rd_2 rfl rfl | exact rfl)) | (apply ef_fap; exact rfl; exact rfl) | (apply ef_far; exact rfl; exact rfl) | (apply ef_ext; exact rfl; exact rfl; exact rfl) | (apply ef_box; exact rfl; exact rfl; exact rfl; exact rfl) | (apply ef_new; exact rfl) | (apply ef_st; exact rfl; exact rfl; exact rfl; exact rfl; exact rfl; exact rfl; (first | exact rfl | assumption); exact rfl) | apply ef_nil | apply seqQ.normal | apply loopQ.ret | apply loopQ.exit | apply ef_ret | apply seqQ.ret | apply ef_exit | apply seqQ.exit | apply blockQ.normal | apply blockQ.ret | apply blockQ.here | (apply blockQ_there; exact rfl) | apply ef_block | apply ef_skip | (apply ef_condt; exact rfl; (first | exact (rfl : true = true) | assumption | exact decide_eq_true (by omega))) | (apply ef_condf; exact rfl; (first | exact (rfl : false = false) | assumption | exact decide_eq_false (by omega))) | (apply ef_call; exact rfl; ((repeat (apply XVs.cons; exact rfl)); exact XVs.nil); (with_reducible first | exact hsd _ | exact hon _)))
      (refine fin1 rfl (by exact rfl) rfl ?_)
      rw [← hv, HI]
  · have hend : insI cs x = ansI n := by
      rw [hn, show i = cs.length by omega]
      exact ins_end (by rw [← ho, show i = cs.length by omega])
    rw [hend] at hv
    have hr : (((n : Nat) : Int).tmod 2 == 1) = decide (n % 2 = 1) := by
      rw [show ((n : Nat) : Int).tmod 2 = ((n % 2 : Nat) : Int) from rfl, Bool.eq_iff_iff]
      simp; omega
    unfold ansI at hv
    clear hn ho hend
    by_cases hm : n % 2 = 1
    · rw [if_pos hm] at hv
      rw [decide_eq_true hm] at hr
      repeat (first | apply ef_seq | (apply ef_mv; exact rfl; exact rfl) | (apply ef_bin; exact rfl; exact rfl; exact rfl; (first | exact cmp_t rfl (by first | exact rfl | (simp only [cmpP]; omega)) | exact cmp_f rfl (by simp only [cmpP]; omega) | ((with_reducible refine bin_add (wrap_of ?_ ?_)) <;> omega) | with_reducible exact bin_add (by assumption) | exact rfl)) | (apply ef_gy; exact rfl; (first | exact (rfl : true = true) | exact (rfl : false = false) | exact (rfl : true = !false) | exact (rfl : false = !true) | assumption | exact decide_eq_true (by omega) | exact decide_eq_false (by omega))) | (apply ef_gn; exact rfl; (first | exact (rfl : true = true) | exact (rfl : false = false) | exact (rfl : true = !false) | exact (rfl : false = !true) | assumption | exact decide_eq_true (by omega) | exact decide_eq_false (by omega)); exact rfl) | (apply ef_gu; exact rfl; exact rfl) | (apply ef_pick; exact rfl; exact rfl; exact rfl) | (apply ef_pickb; exact rfl; exact rfl; exact rfl; exact rfl) | (apply ef_len; exact rfl; exact rfl; (first | assumption | exact rfl)) | (apply ef_ldr; exact rfl; exact rfl; (first | exact rd_1 rfl | exact rd_2 rfl rfl | exact rfl)) | (apply ef_ldp; exact rfl; exact rfl; exact rfl; exact rfl; (first | exact rfl | assumption); (first | exact rd_1 rfl | exact rd_2 rfl rfl | exact rfl)) | (apply ef_fap; exact rfl; exact rfl) | (apply ef_far; exact rfl; exact rfl) | (apply ef_ext; exact rfl; exact rfl; exact rfl) | (apply ef_box; exact rfl; exact rfl; exact rfl; exact rfl) | (apply ef_new; exact rfl) | (apply ef_st; exact rfl; exact rfl; exact rfl; exact rfl; exact rfl; exact rfl; (first | exact rfl | assumption); exact rfl) | apply ef_nil | apply seqQ.normal | apply loopQ.ret | apply loopQ.exit | apply ef_ret | apply seqQ.ret | apply ef_exit | apply seqQ.exit | apply blockQ.normal | apply blockQ.ret | apply blockQ.here | (apply blockQ_there; exact rfl) | apply ef_block | apply ef_skip | (apply ef_condt; exact rfl; (first | exact (rfl : true = true) | assumption | exact decide_eq_true (by omega))) | (apply ef_condf; exact rfl; (first | exact (rfl : false = false) | assumption | exact decide_eq_false (by omega))))
      (refine fin1 rfl (by exact rfl) rfl ?_)
      rw [← hv]
    · rw [if_neg hm] at hv
      rw [decide_eq_false hm] at hr
      repeat (first | apply ef_seq | (apply ef_mv; exact rfl; exact rfl) | (apply ef_bin; exact rfl; exact rfl; exact rfl; (first | exact cmp_t rfl (by first | exact rfl | (simp only [cmpP]; omega)) | exact cmp_f rfl (by simp only [cmpP]; omega) | ((with_reducible refine bin_add (wrap_of ?_ ?_)) <;> omega) | with_reducible exact bin_add (by assumption) | exact rfl)) | (apply ef_gy; exact rfl; (first | exact (rfl : true = true) | exact (rfl : false = false) | exact (rfl : true = !false) | exact (rfl : false = !true) | assumption | exact decide_eq_true (by omega) | exact decide_eq_false (by omega))) | (apply ef_gn; exact rfl; (first | exact (rfl : true = true) | exact (rfl : false = false) | exact (rfl : true = !false) | exact (rfl : false = !true) | assumption | exact decide_eq_true (by omega) | exact decide_eq_false (by omega)); exact rfl) | (apply ef_gu; exact rfl; exact rfl) | (apply ef_pick; exact rfl; exact rfl; exact rfl) | (apply ef_pickb; exact rfl; exact rfl; exact rfl; exact rfl) | (apply ef_len; exact rfl; exact rfl; (first | assumption | exact rfl)) | (apply ef_ldr; exact rfl; exact rfl; (first | exact rd_1 rfl | exact rd_2 rfl rfl | exact rfl)) | (apply ef_ldp; exact rfl; exact rfl; exact rfl; exact rfl; (first | exact rfl | assumption); (first | exact rd_1 rfl | exact rd_2 rfl rfl | exact rfl)) | (apply ef_fap; exact rfl; exact rfl) | (apply ef_far; exact rfl; exact rfl) | (apply ef_ext; exact rfl; exact rfl; exact rfl) | (apply ef_box; exact rfl; exact rfl; exact rfl; exact rfl) | (apply ef_new; exact rfl) | (apply ef_st; exact rfl; exact rfl; exact rfl; exact rfl; exact rfl; exact rfl; (first | exact rfl | assumption); exact rfl) | apply ef_nil | apply seqQ.normal | apply loopQ.ret | apply loopQ.exit | apply ef_ret | apply seqQ.ret | apply ef_exit | apply seqQ.exit | apply blockQ.normal | apply blockQ.ret | apply blockQ.here | (apply blockQ_there; exact rfl) | apply ef_block | apply ef_skip | (apply ef_condt; exact rfl; (first | exact (rfl : true = true) | assumption | exact decide_eq_true (by omega))) | (apply ef_condf; exact rfl; (first | exact (rfl : false = false) | assumption | exact decide_eq_false (by omega))))
      (refine fin1 rfl (by exact rfl) rfl ?_)
      rw [← hv]
end Go.Proofs.Ytgjpdjihjphbdaa
