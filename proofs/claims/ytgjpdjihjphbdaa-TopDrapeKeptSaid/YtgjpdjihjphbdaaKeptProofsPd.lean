/- Contracts: nodes, neighbours. -/
import Derived.Test.YtgjpdjihjphbdaaRows
import Derived.ProofKit
import Derived.Test.YtgjpdjihjphbdaaKeptProofsPc
/- Contracts as answers: polygons; the table. -/
namespace Go.Proofs.Ytgjpdjihjphbdaa
open Go.RowKit
set_option linter.unusedVariables false
def tPoly (f : Nat) (args : List MV) (h : MHeap) : Option (MV × MHeap) :=
  match args with
  | [.agg [v]] => match v.elems h with
    | some es => match es.mapM decR with
      | some cs => if cs.length ≤ 9223372036854775807 then
          if f = 27 then some (.tup [I64 (areaRes cs).1, I64 (areaRes cs).2], h)
          else if f = 25 then some (.tup [I64 (polyCheck cs).1, I64 (polyCheck cs).2], h)
          else if f = 99 then some (I64 (polyCheck cs).2, h)
          else none
        else none
      | none => none
    | none => none
  | _ => none
theorem post_ret {E : Env} {h : MHeap} {w : World} {m : MV} {v : Value} (hr : HRel E h w) (hv : ∀ E w, V E w m v) {e : Ending} {w' : World} (hR : Ret w v e w') : Post E w m h e w' := by
  obtain ⟨rfl, hb⟩ := hR
  obtain ⟨g1, g2⟩ := grow_ok hr hb
  exact ⟨_, _, rfl, hv _ _, g1, g2⟩
theorem v_tup {E : Env} {w : World} (us : List Value) : V E w (.tup (us.map .lit)) (.tuple us.toArray) :=
  .tup _ us (by simp) fun i c x hc hx => by
    rw [List.getElem?_map, hx] at hc
    cases hc; exact .lit _
theorem tPoly_ok : SoundO Try.prog tPoly := by
  intro f args h m h' he
  unfold tPoly at he
  split at he
  case h_2 => cases he
  rename_i v
  split at he
  case h_2 => cases he
  rename_i es hes
  split at he
  case h_2 => cases he
  rename_i cs hcs
  have hcs' := decR_all hcs
  subst hcs'
  split at he
  case isFalse => cases he
  rename_i hlen
  have key : ∀ E w vs, HRel E h w → Vs E w [.agg [v]] vs → ∃ A cap, vs = [.agg #[.slice A cs.length cap]] ∧ Rd w 2 A cs.length (enc2 cs) := fun E w vs hr hv => by
    obtain ⟨x, us, rfl, h1, h2⟩ := hv.uncons
    obtain rfl : us = [] := List.length_eq_zero_iff.1 h2.1.symm
    cases h1 with
    | agg _ vs hl hc =>
      obtain ⟨y, us, rfl, h3, h4⟩ := Vs.uncons (E := E) (w := w) (m := v) (ms := []) (vs := vs) ⟨hl, hc⟩
      obtain rfl : us = [] := List.length_eq_zero_iff.1 h4.1.symm
      obtain ⟨A, cap, rfl, hcap, hrd⟩ := rd_of hr h3 hes
      exact ⟨A, cap, rfl, hrd⟩
  split at he
  · rename_i hf
    subst hf
    cases he
    refine ⟨by kernel_rfl, fun E w vs hr hv => ?_⟩
    obtain ⟨A, cap, rfl, hrd⟩ := key E w vs hr hv
    exact (AreaOf_any A cap cs w hrd).mono fun e w' hR => post_ret hr (fun E w => v_tup [.int .i64 (areaRes cs).1, .int .i64 (areaRes cs).2]) hR
  · split at he
    · rename_i hf
      subst hf
      cases he
      refine ⟨by kernel_rfl, fun E w vs hr hv => ?_⟩
      obtain ⟨A, cap, rfl, hrd⟩ := key E w vs hr hv
      exact (CheckPolygon_any A cap cs w hrd).mono fun e w' hR => post_ret hr (fun E w => v_tup [.int .i64 (polyCheck cs).1, .int .i64 (polyCheck cs).2]) hR
    · split at he
      case isFalse => cases he
      rename_i hf
      subst hf
      cases he
      refine ⟨by kernel_rfl, fun E w vs hr hv => ?_⟩
      obtain ⟨A, cap, rfl, hrd⟩ := key E w vs hr hv
      exact (polygonErr_any A cap cs w hrd).mono fun e w' hR => post_ret hr (fun E w => .lit _) hR
def tA (f : Nat) (args : List MV) (h : MHeap) : Option (MV × MHeap) :=
  if f = 16 then tGroups f args h else if f = 20 then tGroups f args h
  else if f = 27 then tPoly f args h else if f = 25 then tPoly f args h else if f = 99 then tPoly f args h else if f = 169 then tGrow f args h else none
theorem tA_ok : SoundO Try.prog tA := by
  intro f args h m h' he
  unfold tA at he
  repeat' (split at he)
  · exact tGroups_ok f args h m h' he
  · exact tGroups_ok f args h m h' he
  · exact tPoly_ok f args h m h' he
  · exact tPoly_ok f args h m h' he
  · exact tPoly_ok f args h m h' he
  · exact tGrow_ok f args h m h' he
  · cases he
noncomputable abbrev MT : Tab := tabOf Try.prog
noncomputable abbrev orA (k : Nat) : Oracle := orZ MT tA tI 4000000 k
noncomputable abbrev itA (k : Nat) : Iter := orI MT tI (orA k) 4000000
theorem orA_ok (k : Nat) : SoundO Try.prog (orA k) := (orZ_ok (by kernel_rfl) (tabOf_ok Try.prog) tA_ok (tI_ok) k).1
theorem callA {k f : Nat} {args args' : List MV} {h : MHeap} {m : MV} {news : MHeap} (h1 : args.mapM (frz 0 [] h 8) = some args') (hT : tA f args' [] = none) (h2 : runZ MT (orA k) (itA k) 4000000 f args' [] = some (m, news))
    (h3 : okV (ltL 0 args) m = true) (h4 : okH (ltL 0 args) news = true) : orA (k + 1) f args h = some (shV h.length m, h ++ news) :=
  orZ_call h1 (by unfold tabZ; rw [hT]; exact h2) h3 h4
end Go.Proofs.Ytgjpdjihjphbdaa

/- From arguments as they are read to open values; from an answer to a law's statement. -/
namespace Go.Proofs.Ytgjpdjihjphbdaa
open Go.RowKit Go.ChangeShapes Go.WideShapes Go.ChangeAt
set_option linter.unusedVariables false
inductive Sh where
  | int (k : IntKind)
  | bool
  | str
  | agg (fs : List Sh)
  | slice (e : Sh)
mutual
def Sh.size : Sh → Nat
  | .int _ | .bool | .str | .slice _ => 1
  | .agg fs => sizeL fs
def sizeL : List Sh → Nat
  | [] => 0
  | s :: ss => s.size + sizeL ss
end
mutual
def Sh.has (P : Program) : Sh → TypeId → Bool
  | .int k, t => (match P.underlying t with | some (.int k') => k' == k | _ => false)
  | .bool, t => (match P.underlying t with | some .bool => true | _ => false)
  | .str, t => (match P.underlying t with | some .string => true | _ => false)
  | .agg ss, t => (match P.underlying t with | some (.struct fs) => P.cellsOf t == sizeL ss && hasL P ss 0 fs.toList | _ => false)
  | .slice s, t => (match P.underlying t with | some (.slice e) => P.cellsOf e == s.size && Nat.blt 0 s.size && s.has P e | _ => false)
def hasL (P : Program) : List Sh → Nat → List Field → Bool
  | [], _, [] => true
  | s :: ss, off, f :: fs => f.offset == off && P.cellsOf f.type == s.size && s.has P f.type && hasL P ss (off + s.size) fs
  | _, _, _ => false
end
mutual
def Fits : Sh → MV → Prop
  | .int k, m => ∃ n, m = .lit (.int k n) ∧ (Lit.int k n).wf = true
  | .bool, m => ∃ b, m = .lit (.bool b)
  | .str, m => ∃ s : ByteArray, m = .lit (.string s) ∧ s.size ≤ maxLen
  | .agg ss, m => ∃ ms, FitsL ss ms ∧ m = .agg (ms.flatMap MV.cells)
  | .slice s, m => ∃ es, m = .sl es ∧ es.length ≤ maxLen ∧ ∀ e ∈ es, Fits s e
def FitsL : List Sh → List MV → Prop
  | [], ms => ms = []
  | s :: ss, ms => ∃ m r, ms = m :: r ∧ Fits s m ∧ FitsL ss r
end
def baseE (w : World) : Env := { S := fun b => b < w.heap.size, K := fun _ => False, ρ := fun _ => 0, bo := fun _ => 0, cp := fun _ => 0, sz := fun _ => 0, gn := fun _ => 0, ln := fun _ => 0, nl := fun _ => false, top := 0, yl := 0 }
theorem baseE_rel (w : World) : HRel (baseE w) [] w := ⟨fun _ h => h.elim, Nat.le_refl _, fun _ h => h.elim, fun _ _ h => h.elim, fun _ h => h.elim, fun _ h => h⟩
section
variable {H : Type} {enc : TypeId × Value → H} {P : Program} {w : World} {spare : Nat → Bool} {held : Bool}
theorem vs_one {E : Env} {w : World} {m : MV} {v : Value} (h : V E w m v) : Vs E w [m] [v] := Vs.cons h ⟨rfl, fun i c v hc => by simp at hc⟩
mutual
theorem lift_ok : ∀ (s : Sh) (t : TypeId) (fuel : Nat) (cs : List Value) (x : DataW H × List MemPlace), s.has P t = true → DataW.trod enc P w 0 spare held fuel t cs = some x →
    ∃ m, Fits s m ∧ Vs (baseE w) w m.cells cs ∧ m.cells.length = s.size
  | .int k, t, fuel, cs, x, hs, h => by
    simp only [Sh.has] at hs
    split at hs
    case h_2 => cases hs
    rename_i k' ht
    have : k' = k := by simpa using hs
    subst this
    obtain ⟨n, rfl, -, hw⟩ := DataW.trod_int ht h
    exact ⟨.lit (.int k' n), ⟨n, rfl, hw⟩, vs_one (.lit _), rfl⟩
  | .bool, t, fuel, cs, x, hs, h => by
    simp only [Sh.has] at hs
    split at hs
    case h_2 => cases hs
    rename_i ht
    obtain ⟨b, rfl, -⟩ := DataW.trod_bool ht h
    exact ⟨.lit (.bool b), ⟨b, rfl⟩, vs_one (.lit _), rfl⟩
  | .str, t, fuel, cs, x, hs, h => by
    simp only [Sh.has] at hs
    split at hs
    case h_2 => cases hs
    rename_i ht
    obtain ⟨b, rfl, -, hb⟩ := DataW.trod_string ht h
    exact ⟨.lit (.string b), ⟨b, rfl, hb⟩, vs_one (.lit _), rfl⟩
  | .agg ss, t, fuel, cs, x, hs, h => by
    simp only [Sh.has] at hs
    split at hs
    case h_2 => cases hs
    rename_i fs ht
    simp only [Bool.and_eq_true, beq_iff_eq] at hs
    obtain ⟨xs, n, -, -, hl, hlen, hf⟩ := DataW.trod_struct ht h
    obtain ⟨ms, h1, h2, h3⟩ := liftL_ok ss 0 fs.toList n cs hs.2 (by rw [hl, hs.1]; omega) fun i f hi => by
      have := hf i f (by simpa using hi)
      have hix : i < xs.length := by rw [hlen]; have := (List.getElem?_eq_some_iff.1 hi).1; simpa using this
      exact ⟨xs[i], by rw [this]; simp [hix]⟩
    exact ⟨.agg (ms.flatMap MV.cells), ⟨ms, h1, rfl⟩, by simpa [MV.cells] using h2, by simp only [MV.cells]; exact h3⟩
  | .slice s, t, fuel, cs, x, hs, h => by
    simp only [Sh.has] at hs
    split at hs
    case h_2 => cases hs
    rename_i e ht
    simp only [Bool.and_eq_true, beq_iff_eq] at hs
    obtain ⟨⟨hc, hpos⟩, hse⟩ := hs
    have hpos' : 0 < s.size := by simpa [Nat.blt_eq] using hpos
    rcases DataW.trod_slice ht h with ⟨rfl, -⟩ | ⟨a, len, cap, elems, rest, n, -, rfl, -, -, hle, hmx, hel, hE, -, -⟩
    · exact ⟨.sl [], ⟨[], rfl, by simp, fun e he => by cases he⟩, vs_one (.sl [] [] none 0 s.size (Nat.le_refl _) (fun e he => by cases he) rfl (fun i c v hc => by simp [flat] at hc) (fun h0 => absurd h0 (by simp))), rfl⟩
    · have key : ∀ i, i < len → ∃ m cs', Fits s m ∧ Vs (baseE w) w m.cells cs' ∧ m.cells.length = s.size ∧ cs'.length = s.size ∧ ∀ j, j < s.size → w.cell? ((a.add (i * s.size)).add j) = cs'[j]? := fun i hi => by
        have h1 := hE i hi
        have h2 : elems[i]? = some (elems[i]'(by rw [hel]; exact hi)) := by simp [hel, hi]
        rw [h2, Option.bind_eq_some_iff, hc] at h1
        obtain ⟨cs', h3, h4⟩ := h1
        obtain ⟨-, h5, h6⟩ := World.cells?_some h3
        obtain ⟨m, k1, k2, k3⟩ := lift_ok s e n cs' _ hse h4
        exact ⟨m, cs', k1, k2, k3, h5, h6⟩
      obtain ⟨F, hF⟩ : ∃ F : Nat → MV × List Value, ∀ i, i < len → Fits s (F i).1 ∧ Vs (baseE w) w (F i).1.cells (F i).2 ∧ (F i).1.cells.length = s.size ∧ (F i).2.length = s.size ∧ ∀ j, j < s.size → w.cell? ((a.add (i * s.size)).add j) = (F i).2[j]? :=
        ⟨fun i => if hi : i < len then ((key i hi).choose, (key i hi).choose_spec.choose) else default, fun i hi => by simp only [dif_pos hi]; exact (key i hi).choose_spec.choose_spec⟩
      have hmem : ∀ e ∈ (List.range len).map fun i => (F i).1, Fits s e ∧ e.cells.length = s.size := fun e he => by
        obtain ⟨i, hi, rfl⟩ := List.mem_map.1 he
        have hi' := List.mem_range.1 hi
        exact ⟨(hF i hi').1, (hF i hi').2.2.1⟩
      refine ⟨.sl ((List.range len).map fun i => (F i).1), ⟨_, rfl, by simp; omega, fun e he => (hmem e he).1⟩, vs_one ?_, rfl⟩
      have hflen : (flat ((List.range len).map fun i => (F i).1)).length = len * s.size := by rw [flat_len fun e he => (hmem e he).2]; simp
      have hcell : ∀ k, k < len * s.size → ∃ i j, i < len ∧ j < s.size ∧ k = i * s.size + j := fun k hk => ⟨k / s.size, k % s.size, Nat.div_lt_of_lt_mul (by rw [Nat.mul_comm]; exact hk), Nat.mod_lt _ hpos', (Nat.div_add_mod' k s.size).symm⟩
      have hspot : 0 < len → ∃ b off, a = ⟨b, off, none⟩ := fun h0 => by
        obtain ⟨b, off, spot⟩ := a
        have h1 := (hF 0 h0).2.2.2.2 0 hpos'
        rw [List.getElem?_eq_getElem (by rw [(hF 0 h0).2.2.2.1]; exact hpos')] at h1
        have hsp : spot = none := by simpa [Addr.add] using World.cell?_spot h1
        exact ⟨b, off, by rw [hsp]⟩
      by_cases h0 : 0 < len
      · obtain ⟨b, off, rfl⟩ := hspot h0
        have hb : b < w.heap.size := by
          have h1 := (hF 0 h0).2.2.2.2 0 hpos'
          rw [List.getElem?_eq_getElem (by rw [(hF 0 h0).2.2.2.1]; exact hpos')] at h1
          have := cell_lt h1
          simpa [Addr.add] using this
        have hval : ∀ i j, i < len → j < s.size → w.cell? ⟨b, off + (i * s.size + j), none⟩ = (F i).2[j]? := fun i j hi hj => by
          rw [← (hF i hi).2.2.2.2 j hj]
          simp [Go.WideShapes.add_plain, Nat.add_assoc]
        have hl2 : ((List.range len).map fun i => (F i).1).length = len := by simp
        have := V.sl (E := baseE w) (w := w) ((List.range len).map fun i => (F i).1) ((List.range (len * s.size)).map fun k => (w.cell? ⟨b, off + k, none⟩).getD undef) (some ⟨b, off, none⟩) cap s.size (by rw [hl2]; exact hle) (fun e he => (hmem e he).2) (by rw [hflen]; simp)
          (fun k c v hk hv => by
            obtain ⟨i, j, e, rfl, hj, he, hcj⟩ := (flat_iff fun e he => (hmem e he).2).1 hk
            have hi : i < len := by have := (List.getElem?_eq_some_iff.1 he).1; simpa using this
            have he' : (F i).1 = e := by simpa [hi] using he
            subst he'
            have hlt : i * s.size + j < len * s.size := by
              have := Nat.mul_le_mul_right s.size (show i + 1 ≤ len from hi)
              rw [Nat.add_mul, Nat.one_mul] at this
              omega
            rw [List.getElem?_map, List.getElem?_range hlt, Option.map_some, hval i j hi hj] at hv
            have hj2 : j < (F i).2.length := by rw [(hF i hi).2.2.2.1]; exact hj
            rw [List.getElem?_eq_getElem hj2, Option.getD_some, Option.some.injEq] at hv
            exact (hF i hi).2.1.2 j c v hcj (by rw [List.getElem?_eq_getElem hj2, hv]))
          (fun _ => ⟨b, off, rfl, hb, fun k v hk => by
            have hlt : k < len * s.size := by have := (List.getElem?_eq_some_iff.1 hk).1; simpa using this
            obtain ⟨i, j, hi, hj, rfl⟩ := hcell k hlt
            rw [List.getElem?_map, List.getElem?_range hlt, Option.map_some] at hk
            have hj2 : j < (F i).2.length := by rw [(hF i hi).2.2.2.1]; exact hj
            have h9 := hval i j hi hj
            rw [List.getElem?_eq_getElem hj2] at h9
            rw [h9, Option.getD_some, Option.some.injEq] at hk
            rw [h9, hk]⟩)
        rw [hl2] at this
        exact this
      · have hl0 : len = 0 := by omega
        subst hl0
        exact .sl [] [] (some a) cap s.size (by simp) (fun e he => by cases he) rfl (fun i c v hc => by simp [flat] at hc) (fun h0 => absurd h0 (by simp))
theorem liftL_ok : ∀ (ss : List Sh) (off : Nat) (fs : List Field) (n : Nat) (cs : List Value), hasL P ss off fs = true → cs.length = off + sizeL ss → (∀ (i : Nat) (f : Field), fs[i]? = some f → ∃ x, DataW.trod enc P w 0 spare held n f.type ((cs.drop f.offset).take (P.cellsOf f.type)) = some x) →
    ∃ ms, FitsL ss ms ∧ Vs (baseE w) w (ms.flatMap MV.cells) (cs.drop off) ∧ (ms.flatMap MV.cells).length = sizeL ss
  | [], off, fs, n, cs, hs, hl, hf => ⟨[], rfl, by
      have : cs.drop off = [] := List.drop_eq_nil_of_le (by simp [sizeL] at hl; omega)
      rw [this]; exact ⟨rfl, fun i c v hc => by simp at hc⟩, rfl⟩
  | s :: ss, off, [], n, cs, hs, hl, hf => by simp [hasL] at hs
  | s :: ss, off, f :: fs, n, cs, hs, hl, hf => by
    simp only [hasL, Bool.and_eq_true, beq_iff_eq] at hs
    obtain ⟨⟨⟨h1, h2⟩, h3⟩, h4⟩ := hs
    obtain ⟨x, hx⟩ := hf 0 f rfl
    rw [h1, h2] at hx
    obtain ⟨m, k1, k2, k3⟩ := lift_ok s f.type n _ x h3 hx
    obtain ⟨ms, j1, j2, j3⟩ := liftL_ok ss (off + s.size) fs n cs h4 (by simp only [sizeL] at hl; omega) fun i f' hi => hf (i + 1) f' (by simpa using hi)
    refine ⟨m :: ms, ⟨m, ms, rfl, k1, j1⟩, ?_, by simp only [List.flatMap_cons, List.length_append, sizeL, k3, j3]⟩
    have e : cs.drop off = (cs.drop off).take s.size ++ cs.drop (off + s.size) := by
      rw [← List.drop_drop]; exact (List.take_append_drop _ _).symm
    rw [e, List.flatMap_cons]
    exact k2.append j2
end
end
end Go.Proofs.Ytgjpdjihjphbdaa

/- From an answer to a law's statement. -/
namespace Go.Proofs.Ytgjpdjihjphbdaa
open Go.RowKit Go.ChangeShapes Go.WideShapes Go.ChangeAt
set_option linter.unusedVariables false
theorem Try.own : ownKnob Try.prog.godebug = none := by kernel_rfl
theorem Try.laidOut : laidOutB Try.prog = true := by kernel_rfl
section
variable {H : Type} {enc : TypeId × Value → H} {P : Program} {w : World} {spare : Nat → Bool} {held : Bool}
theorem lift_val {s : Sh} {t : TypeId} {v : Value} {d : DataW H} {p : List MemPlace} {r : Reach} {b : Nat} (hs : s.has P t = true) (hv : Value.okWide P w r b t v) (h : DataW.Trod enc P w 0 spare held t v d p) : ∃ m, Fits s m ∧ V (baseE w) w m v := by
  obtain ⟨fuel, h⟩ := h
  obtain ⟨m, h1, h2, h3⟩ := lift_ok s t fuel _ _ hs h
  refine ⟨m, h1, ?_⟩
  have one : m.cells = [m] → v.cells = #[v] → V (baseE w) w m v := fun e1 e2 => by
    rw [e1, e2] at h2
    exact h2.2 0 m v rfl rfl
  cases s with
  | int k =>
    simp only [Fits] at h1
    obtain ⟨n, rfl, -⟩ := h1
    simp only [Sh.has] at hs
    split at hs
    case h_2 => cases hs
    rename_i k' ht
    obtain ⟨n', rfl⟩ := okWide_int ht hv
    exact one rfl rfl
  | bool =>
    simp only [Fits] at h1
    obtain ⟨n, rfl⟩ := h1
    simp only [Sh.has] at hs
    split at hs
    case h_2 => cases hs
    rename_i ht
    obtain ⟨n', rfl⟩ := okWide_bool ht hv
    exact one rfl rfl
  | str =>
    simp only [Fits] at h1
    obtain ⟨n, rfl, -⟩ := h1
    simp only [Sh.has] at hs
    split at hs
    case h_2 => cases hs
    rename_i ht
    obtain ⟨n', rfl⟩ := okWide_string ht hv
    exact one rfl rfl
  | slice s =>
    simp only [Fits] at h1
    obtain ⟨es, rfl, -⟩ := h1
    simp only [Sh.has] at hs
    split at hs
    case h_2 => cases hs
    rename_i e ht
    obtain ⟨a, len, cap, rfl⟩ := okWide_slice ht hv
    exact one rfl rfl
  | agg ss =>
    simp only [Fits] at h1
    obtain ⟨ms, -, rfl⟩ := h1
    simp only [Sh.has] at hs
    split at hs
    case h_2 => cases hs
    rename_i fs ht
    obtain ⟨cs, rfl, -⟩ := okWide_struct ht hv
    have h4 : Vs (baseE w) w (ms.flatMap MV.cells) cs.toList := by simpa [MV.cells, Value.cells] using h2
    have := V.agg (E := baseE w) (w := w) _ _ h4.1 h4.2
    simpa using this
def hasAll (P : Program) : List Sh → List TypeId → Bool
  | [], [] => true
  | s :: ss, t :: ts => s.has P t && hasAll P ss ts
  | _, _ => false
theorem lift_all {r : Reach} {b : Nat} : ∀ (ss : List Sh) (ts : List TypeId) (vs : List Value) (ds : List (DataW H)) (ps : List MemPlace), hasAll P ss ts = true → DataW.TrodAll enc P w 0 spare held ts vs ds ps →
    (∀ (j : Nat) t v, ts[j]? = some t → vs[j]? = some v → Value.okWide P w r b t v) → ∃ ms, FitsL ss ms ∧ Vs (baseE w) w ms vs ∧ ds.length = ss.length
  | [], [], [], [], ps, _, _, _ => ⟨[], rfl, ⟨rfl, fun i c v hc => by simp at hc⟩, rfl⟩
  | [], [], [], _ :: _, ps, _, h, _ => by simp [DataW.TrodAll] at h
  | [], [], _ :: _, _, ps, _, h, _ => by simp [DataW.TrodAll] at h
  | s :: ss, t :: ts, [], _, ps, _, h, _ => by simp [DataW.TrodAll] at h
  | s :: ss, t :: ts, _ :: _, [], ps, _, h, _ => by simp [DataW.TrodAll] at h
  | s :: ss, t :: ts, v :: vs, d :: ds, ps, hs, h, hv => by
    simp only [hasAll, Bool.and_eq_true] at hs
    obtain ⟨p, q, h1, h2, -⟩ := h
    obtain ⟨m, k1, k2⟩ := lift_val hs.1 (hv 0 t v rfl rfl) h1
    obtain ⟨ms, j1, j2, j3⟩ := lift_all ss ts vs ds q hs.2 h2 fun j t' v' ht hv' => hv (j + 1) t' v' (by simpa using ht) (by simpa using hv')
    exact ⟨m :: ms, ⟨m, ms, rfl, k1, j1⟩, Vs.cons k2 j2, by simp [j3]⟩
  | [], _ :: _, _, _, _, hs, _, _ => by simp [hasAll] at hs
  | _ :: _, [], _, _, _, hs, _, _ => by simp [hasAll] at hs
theorem stay_all (hl : laidOutB P = true) {W' : World} (hb : Below w.heap.size w W') : ∀ (ts : List TypeId) (vs : List Value) (ds : List (DataW H)) (ps : List MemPlace), DataW.TrodAll enc P w 0 (fun _ => true) true ts vs ds ps → (ts.all fun t => P.readableRec t && decide (t < P.types.size)) = true → (∀ x ∈ ps, x.block < w.heap.size) →
    DataW.TrodAll enc P W' 0 (fun b => decide (b < w.heap.size)) true ts vs ds ps
  | [], [], [], ps, h, _, _ => h
  | [], [], _ :: _, ps, h, _, _ => by simp [DataW.TrodAll] at h
  | [], _ :: _, _, ps, h, _, _ => by simp [DataW.TrodAll] at h
  | t :: ts, [], _, ps, h, _, _ => by simp [DataW.TrodAll] at h
  | t :: ts, _ :: _, [], ps, h, _, _ => by simp [DataW.TrodAll] at h
  | t :: ts, v :: vs, d :: ds, ps, h, hr, hlt => by
    obtain ⟨p, q, h1, h2, rfl⟩ := h
    simp only [List.all_cons, Bool.and_eq_true, decide_eq_true_eq] at hr
    exact ⟨p, q, Below.trod hl hr.1.1 hr.1.2 h1 hb (fun x hx => hlt x (List.mem_append_left _ hx)), stay_all hl hb ts vs ds q h2 (by simpa using hr.2) (fun x hx => hlt x (List.mem_append_right _ hx)), rfl⟩
end
theorem below_ext {w w' : World} {E E' : Env} (hK : ∀ id, ¬ E.K id) (hx : Ext (fun _ => true) E w E' w') : Below w.heap.size w w' :=
  ext_below (n := 0) (hx.mono fun id hk _ => rfl) (fun id hk => absurd hk (hK id))
theorem law_calls {f : Nat} {args : List MV} {vs : List Value} {w : World} (hz : runZ MT (orA 12) (itA 12) 4000000 f args [] = some (.lit (.bool true), [])) (hv : Vs (baseE w) w args vs) :
    Calls Try.prog f vs.toArray w fun e w' => e = .returned (.bool true) ∧ Below w.heap.size w w' := by
  have hI : SoundI Try.prog (itA 12) := orI_ok (by kernel_rfl) (tabOf_ok Try.prog) tI_ok (orA_ok 12) (orZ_ok (by kernel_rfl) (tabOf_ok Try.prog) tA_ok tI_ok 12).2
  refine ((runZ_ok (by kernel_rfl) (tabOf_ok Try.prog) (orA_ok 12) (orZ_ok (by kernel_rfl) (tabOf_ok Try.prog) tA_ok tI_ok 12).2 hI hz).2 (baseE w) w vs (baseE_rel w) hv).mono ?_
  rintro e w' ⟨v, E', rfl, h1, -, h3⟩
  exact ⟨by rw [h1.lit_eq], below_ext (fun id hk => hk) h3⟩
set_option maxRecDepth 100000 in
theorem law_contract {H : Type} {enc : TypeId × Value → H} {f : Nat} {fn : Func} {s : ChangeSpec} (shs : List Sh) (hp : hasAll Try.prog shs fn.params.toList = true) (hrd : (fn.params.toList.all fun t => Try.prog.readableRec t && decide (t < Try.prog.types.size)) = true) (hr : fn.resultTypes = #[4])
    (hsv : s.vars = []) (hspec : ∀ ds : List (DataW H), ds.length = shs.length → (s.fn H (ds ++ [])).results = [.lit (.bool true)] ∧ (s.fn H (ds ++ [])).args = ds ∧ (s.fn H (ds ++ [])).vars = [])
    (hz : ∀ ms, FitsL shs ms → runZ MT (orA 12) (itA 12) 4000000 f ms [] = some (.lit (.bool true), []))
    (W : World) (base : Nat) (args : Array Value) (ds gs : List (DataW H)) (before : List MemPlace) (hval : ∀ (j : Nat) t v, fn.params[j]? = some t → args[j]? = some v → Value.okWide Try.prog W .any base t v)
    (hW : DataW.Whole enc Try.prog fn.params.toList s.vars false W args.toList ds gs before) :
    Calls Try.prog f args W fun e W' => ∃ v, e = .returned v ∧ s.post enc Try.prog fn false true false false W args v W' := by
  have hW' := hW
  obtain ⟨p, q, hA, hV, rfl, hfz, hnd⟩ := hW
  rw [hsv] at hV
  obtain ⟨rfl, rfl⟩ := trodVars_none hV
  have hv2 : ∀ (j : Nat) (t : TypeId) (v : Value), fn.params.toList[j]? = some t → args.toList[j]? = some v → Value.okWide Try.prog W .any base t v := fun j t v ht hv => hval j t v (by rw [Array.getElem?_toList] at ht; exact ht) (by rw [Array.getElem?_toList] at hv; exact hv)
  obtain ⟨ms, h1, h2, h3⟩ := lift_all (P := Try.prog) (w := W) shs fn.params.toList args.toList ds p hp hA hv2
  have hc := law_calls (hz ms h1) h2
  rw [Array.toArray_toList] at hc
  refine hc.mono ?_
  rintro e W' ⟨rfl, hb⟩
  obtain ⟨e1, e2, e3⟩ := hspec ds h3
  have hlt : ∀ x ∈ p ++ [], x.block < W.heap.size := fun x hx => by simpa using hW'.lt x hx
  refine ⟨_, rfl, ds, [], p ++ [], [], p, [], hW', ?_, ?_, ?_, hb.frame _, fun h => by cases h⟩
  · rw [e1, hr]
    exact trodAll_mk1 (shut_bool Try.underlying4 true)
  · rw [e2]
    exact stay_all Try.laidOut hb _ _ _ _ hA hrd fun x hx => hlt x (by simpa using hx)
  · rw [e3, hsv]; rfl
end Go.Proofs.Ytgjpdjihjphbdaa

/- Open values of common shapes. -/
namespace Go.Proofs.Ytgjpdjihjphbdaa
open Go.ChangeShapes Go.WideShapes Go.ChangeAt Go.RowKit
theorem fits_ints {m : MV} (h : Fits (.slice (.int .i64)) m) : ∃ xs : List Int, m = .sl (xs.map I64) ∧ xs.length ≤ maxLen ∧ ∀ n ∈ xs, (Lit.int .i64 n).wf = true := by
  simp only [Fits] at h
  obtain ⟨es, rfl, hl, he⟩ := h
  induction es with
  | nil => exact ⟨[], rfl, by simp, fun n hn => by cases hn⟩
  | cons e es ih =>
    obtain ⟨n, rfl, hw⟩ := he e List.mem_cons_self
    obtain ⟨xs, h1, h2, h3⟩ := ih (by simp at hl; omega) fun e h => he e (List.mem_cons_of_mem _ h)
    refine ⟨n :: xs, by simpa using h1, ?_, fun k hk => ?_⟩
    · have : es = xs.map I64 := by simpa using h1
      subst this
      simpa using hl
    · rcases List.mem_cons.1 hk with rfl | hk
      · exact hw
      · exact h3 k hk
theorem maxLen_le : maxLen ≤ 9223372036854775807 := by decide
theorem fits_int {k : IntKind} {m : MV} (h : Fits (.int k) m) : ∃ n, m = .lit (.int k n) ∧ (Lit.int k n).wf = true := by
  simp only [Fits] at h; exact h
theorem fits_agg {ss : List Sh} {m : MV} (h : Fits (.agg ss) m) : ∃ ms, FitsL ss ms ∧ m = .agg (ms.flatMap MV.cells) := by
  simp only [Fits] at h; exact h
theorem fitsL_cons {s : Sh} {ss : List Sh} {ms : List MV} (h : FitsL (s :: ss) ms) : ∃ m r, ms = m :: r ∧ Fits s m ∧ FitsL ss r := by
  simp only [FitsL] at h; exact h
theorem fitsL_nil {ms : List MV} (h : FitsL [] ms) : ms = [] := by
  simp only [FitsL] at h; exact h
end Go.Proofs.Ytgjpdjihjphbdaa

/- The plain law of lowest surfaces (no program). -/
namespace Go.Proofs.Ytgjpdjihjphbdaa
set_option linter.unusedVariables false
structure Tk where
  ter : List (List Int)
  rows : List Int
  ties : List Int
  cl : Int
  cb : Int
def Tk.H (t : Tk) : Nat := t.ter.length
def Tk.W (t : Tk) : Nat := (t.ter.getD 0 []).length
def at2 (g : List (List Int)) (y x : Nat) : Int := (g.getD y []).getD x 0
def set2 (g : List (List Int)) (y x : Nat) (v : Int) : List (List Int) := g.set y ((g.getD y []).set x v)
def Tk.fl (t : Tk) (y x : Nat) : Bool := t.rows.contains (y : Int) || t.ties.contains (x : Int)
def Tk.need (t : Tk) (y x : Nat) : Int := at2 t.ter y x + t.cl
def Tk.Nb (t : Tk) (y x y' x' : Nat) : Prop := y' < t.H ∧ x' < t.W ∧ (((y : Int) ∈ t.rows ∧ y' = y ∧ (x' = x + 1 ∨ x = x' + 1)) ∨ ((x : Int) ∈ t.ties ∧ x' = x ∧ (y' = y + 1 ∨ y = y' + 1)))
theorem Tk.Nb.fl {t : Tk} {y x y' x' : Nat} (h : t.Nb y x y' x') : t.fl y' x' = true := by
  obtain ⟨_, _, ⟨h1, rfl, _⟩ | ⟨h1, rfl, _⟩⟩ := h <;> simp [Tk.fl, h1]
structure Shp (t : Tk) (s : List (List Int)) : Prop where
  hl : s.length = t.H
  wl : ∀ y (h : y < s.length), s[y].length = t.W
structure Val (t : Tk) (s : List (List Int)) : Prop where
  sh : Shp t s
  ze : ∀ y x, y < t.H → x < t.W → t.fl y x = false → at2 s y x = 0
  ab : ∀ y x, y < t.H → x < t.W → t.fl y x = true → t.need y x ≤ at2 s y x
  st : ∀ y x y' x', y < t.H → x < t.W → t.fl y x = true → t.Nb y x y' x' → at2 s y x - t.cb ≤ at2 s y' x'
def Lea (t : Tk) (s : List (List Int)) : Prop := Val t s ∧ ∀ T, Val t T → ∀ y x, y < t.H → x < t.W → at2 s y x ≤ at2 T y x
structure Pre (t : Tk) (s : List (List Int)) : Prop where
  sh : Shp t s
  ze : ∀ y x, y < t.H → x < t.W → t.fl y x = false → at2 s y x = 0
  ab : ∀ y x, y < t.H → x < t.W → t.fl y x = true → t.need y x ≤ at2 s y x
  le : ∀ T, Val t T → ∀ y x, y < t.H → x < t.W → at2 s y x ≤ at2 T y x
theorem at2_get {g : List (List Int)} {y x : Nat} (hy : y < g.length) (hx : x < g[y].length) : at2 g y x = g[y][x] := by
  unfold at2
  simp [List.getD_eq_getElem?_getD, List.getElem?_eq_getElem hy, List.getElem?_eq_getElem hx]
theorem at2_set {g : List (List Int)} {y x y' x' : Nat} {v : Int} (hy : y < g.length) (hx : x < (g.getD y []).length) : at2 (set2 g y x v) y' x' = if y' = y ∧ x' = x then v else at2 g y' x' := by
  unfold at2 set2
  rw [List.getD_eq_getElem?_getD (l := g.set y _)]
  by_cases h1 : y' = y
  · subst h1
    rw [List.getElem?_set_self hy]
    simp only [Option.getD_some, true_and]
    rw [List.getD_eq_getElem?_getD (i := x')]
    by_cases h2 : x' = x
    · subst h2
      rw [List.getElem?_set_self hx]
      simp
    · rw [List.getElem?_set_ne (Ne.symm h2), if_neg h2, ← List.getD_eq_getElem?_getD]
  · rw [List.getElem?_set_ne (Ne.symm h1), if_neg (fun h => h1 h.1), ← List.getD_eq_getElem?_getD]
theorem Shp.row {t : Tk} {s : List (List Int)} (h : Shp t s) {y : Nat} (hy : y < t.H) : (s.getD y []).length = t.W := by
  have := h.hl
  rw [List.getD_eq_getElem?_getD, List.getElem?_eq_getElem (by omega)]
  exact h.wl y (by omega)
theorem Shp.set {t : Tk} {s : List (List Int)} (h : Shp t s) {y x : Nat} {v : Int} (hy : y < t.H) : Shp t (set2 s y x v) := by
  have h1 := h.hl
  refine ⟨by simp [set2, h1], fun k hk => ?_⟩
  simp only [set2, List.length_set] at hk
  simp only [set2, List.getElem_set]
  split
  · rw [List.length_set]; exact h.row hy
  · exact h.wl k hk
theorem Shp.ext {t : Tk} {s s' : List (List Int)} (h : Shp t s) (h' : Shp t s') (he : ∀ y x, y < t.H → x < t.W → at2 s y x = at2 s' y x) : s = s' := by
  have h1 := h.hl
  have h2 := h'.hl
  refine List.ext_getElem (by omega) fun y k1 k2 => ?_
  refine List.ext_getElem (by rw [h.wl, h'.wl]) fun x j1 j2 => ?_
  have := h.wl y k1
  rw [← at2_get k1 j1, ← at2_get k2 j2]
  exact he y x (by omega) (by omega)
theorem Lea.uniq {t : Tk} {s s' : List (List Int)} (h : Lea t s) (h' : Lea t s') : s = s' :=
  h.1.sh.ext h'.1.sh fun y x hy hx => Int.le_antisymm (h.2 s' h'.1 y x hy hx) (h'.2 s h.1 y x hy hx)
theorem Pre.lea {t : Tk} {s : List (List Int)} (h : Pre t s) (hs : ∀ y x y' x', y < t.H → x < t.W → t.fl y x = true → t.Nb y x y' x' → at2 s y x - t.cb ≤ at2 s y' x') : Lea t s :=
  ⟨⟨h.sh, h.ze, h.ab, hs⟩, h.le⟩
theorem Pre.raise {t : Tk} {s : List (List Int)} (h : Pre t s) {y x y' x' : Nat} (hy : y < t.H) (hx : x < t.W) (hf : t.fl y x = true) (hn : t.Nb y x y' x') (hr : at2 s y' x' < at2 s y x - t.cb) : Pre t (set2 s y' x' (at2 s y x - t.cb)) := by
  have h1 := h.sh.hl
  have hy' := hn.1
  have hx' := hn.2.1
  have hw := h.sh.row hy'
  have ha := fun a b => at2_set (g := s) (y := y') (x := x') (y' := a) (x' := b) (v := at2 s y x - t.cb) (by omega) (by omega)
  refine ⟨h.sh.set hy', fun a b ha1 hb1 hf1 => ?_, fun a b ha1 hb1 hf1 => ?_, fun T hT a b ha1 hb1 => ?_⟩
  · rw [ha]
    split
    · rename_i e
      rw [e.1, e.2, hn.fl] at hf1
      cases hf1
    · exact h.ze a b ha1 hb1 hf1
  · rw [ha]
    split
    · rename_i e
      rw [e.1, e.2]
      have := h.ab y' x' hy' hx' hn.fl
      omega
    · exact h.ab a b ha1 hb1 hf1
  · rw [ha]
    split
    · rename_i e
      rw [e.1, e.2]
      have h2 := h.le T hT y x hy hx
      have h3 := hT.st y x y' x' hy hx hf hn
      omega
    · exact h.le T hT a b ha1 hb1
def Tk.base (t : Tk) (y x : Nat) : Int := if t.fl y x = true then t.need y x else 0
def Tk.s0 (t : Tk) : List (List Int) := (List.range t.H).map fun y => (List.range t.W).map fun x => t.base y x
theorem s0_shp (t : Tk) : Shp t t.s0 := ⟨by simp [Tk.s0], fun y h => by simp [Tk.s0]⟩
theorem s0_at {t : Tk} {y x : Nat} (hy : y < t.H) (hx : x < t.W) : at2 t.s0 y x = t.base y x := by
  rw [at2_get (by simp [Tk.s0]; exact hy) (by simp [Tk.s0]; exact hx)]
  simp [Tk.s0]
theorem s0_pre (t : Tk) : Pre t t.s0 := by
  refine ⟨s0_shp t, fun y x hy hx hf => ?_, fun y x hy hx hf => ?_, fun T hT y x hy hx => ?_⟩
  · rw [s0_at hy hx, Tk.base, hf]; rfl
  · rw [s0_at hy hx, Tk.base, hf]; exact Int.le_refl _
  · rw [s0_at hy hx, Tk.base]
    cases hf : t.fl y x
    · rw [hT.ze y x hy hx hf]; exact Int.le_refl _
    · exact hT.ab y x hy hx hf
theorem Pre.top {t : Tk} {s : List (List Int)} (h : Pre t s) {B : Int} (hB : ∀ y x, y < t.H → x < t.W → t.need y x ≤ B) (h0 : 0 ≤ B) (hc : 0 ≤ t.cb) : ∀ y x, y < t.H → x < t.W → at2 s y x ≤ B := by
  intro y x hy hx
  have key : ∀ y x, y < t.H → x < t.W → at2 ((List.range t.H).map fun y => (List.range t.W).map fun x => if t.fl y x = true then B else 0) y x = if t.fl y x = true then B else 0 := fun y x hy hx => by
    rw [at2_get (by simp; exact hy) (by simp; exact hx)]
    simp
  have := h.le ((List.range t.H).map fun y => (List.range t.W).map fun x => if t.fl y x = true then B else 0) ⟨⟨by simp, fun y h => by simp⟩, fun y x hy hx hf => by rw [key y x hy hx, hf]; rfl, fun y x hy hx hf => by rw [key y x hy hx, if_pos hf]; exact hB y x hy hx,
    fun y x y' x' hy hx hf hn => by rw [key y x hy hx, key y' x' hn.1 hn.2.1, if_pos hf, if_pos hn.fl]; omega⟩ y x hy hx
  rw [key y x hy hx] at this
  split at this <;> omega
theorem Pre.pos {t : Tk} {s : List (List Int)} (h : Pre t s) (hB : ∀ y x, y < t.H → x < t.W → 0 ≤ t.need y x) : ∀ y x, y < t.H → x < t.W → 0 ≤ at2 s y x := by
  intro y x hy hx
  cases hf : t.fl y x
  · rw [h.ze y x hy hx hf]; exact Int.le_refl _
  · have := h.ab y x hy hx hf
    have := hB y x hy hx
    omega
def tot (g : List (List Int)) : Int := (g.map List.sum).sum
theorem sum_set : ∀ {l : List Int} {i : Nat} {v : Int}, i < l.length → (l.set i v).sum = l.sum + (v - l.getD i 0)
  | a :: l, 0, v, _ => by simp; omega
  | a :: l, i + 1, v, h => by
    simp only [List.set_cons_succ, List.sum_cons, List.getD_cons_succ]
    rw [sum_set (by simpa using h)]
    omega
theorem tot_set {g : List (List Int)} {y x : Nat} {v : Int} (hy : y < g.length) (hx : x < (g.getD y []).length) : tot (set2 g y x v) = tot g + (v - at2 g y x) := by
  have h1 : y < (g.map List.sum).length := by simpa using hy
  have h2 : (g.map List.sum).getD y 0 = (g.getD y []).sum := by
    rw [List.getD_eq_getElem?_getD, List.getElem?_map, List.getD_eq_getElem?_getD, List.getElem?_eq_getElem hy]; rfl
  have := sum_set (v := ((g.getD y []).set x v).sum) h1
  unfold tot set2
  rw [List.map_set, this, sum_set hx, h2]
  unfold at2
  omega
theorem sum_le {B : Int} : ∀ {l : List Int}, (∀ a ∈ l, a ≤ B) → l.sum ≤ (l.length : Int) * B
  | [], _ => by simp
  | a :: l, h => by
    have h1 := sum_le (l := l) fun b hb => h b (List.mem_cons_of_mem _ hb)
    have h2 := h a List.mem_cons_self
    simp only [List.sum_cons, List.length_cons, Int.natCast_add, Int.natCast_one, Int.add_mul, Int.one_mul]
    omega
theorem tot_le {t : Tk} {s : List (List Int)} (h : Shp t s) {B : Int} (hB : ∀ y x, y < t.H → x < t.W → at2 s y x ≤ B) : tot s ≤ (t.H : Int) * ((t.W : Int) * B) := by
  have h1 := h.hl
  have : tot s ≤ ((s.map List.sum).length : Int) * ((t.W : Int) * B) := by
    refine sum_le fun a ha => ?_
    obtain ⟨r, hr, rfl⟩ := List.mem_map.1 ha
    obtain ⟨y, hy, rfl⟩ := List.getElem_of_mem hr
    have hw := h.wl y hy
    rw [← hw]
    refine sum_le fun b hb => ?_
    obtain ⟨x, hx, rfl⟩ := List.getElem_of_mem hb
    rw [← at2_get hy hx]
    exact hB y x (by omega) (by omega)
  rw [List.length_map, h1] at this
  exact this
theorem sum_pos : ∀ {l : List Int}, (∀ a ∈ l, 0 ≤ a) → 0 ≤ l.sum
  | [], _ => by simp
  | a :: l, h => by
    have h1 := sum_pos (l := l) fun b hb => h b (List.mem_cons_of_mem _ hb)
    have h2 := h a List.mem_cons_self
    simp only [List.sum_cons]
    omega
theorem tot_pos {t : Tk} {s : List (List Int)} (h : Shp t s) (hB : ∀ y x, y < t.H → x < t.W → 0 ≤ at2 s y x) : 0 ≤ tot s := by
  have h1 := h.hl
  refine sum_pos fun a ha => ?_
  obtain ⟨r, hr, rfl⟩ := List.mem_map.1 ha
  obtain ⟨y, hy, rfl⟩ := List.getElem_of_mem hr
  have hw := h.wl y hy
  refine sum_pos fun b hb => ?_
  obtain ⟨x, hx, rfl⟩ := List.getElem_of_mem hb
  rw [← at2_get hy hx]
  exact hB y x (by omega) (by omega)
theorem Tk.Nb.symm {t : Tk} {y x y' x' : Nat} (hy : y < t.H) (hx : x < t.W) (h : t.Nb y x y' x') : t.Nb y' x' y x := by
  obtain ⟨_, _, ⟨h1, rfl, h2⟩ | ⟨h1, rfl, h2⟩⟩ := h
  · exact ⟨hy, hx, .inl ⟨h1, rfl, h2.symm⟩⟩
  · exact ⟨hy, hx, .inr ⟨h1, rfl, h2.symm⟩⟩
theorem Tk.Nb.ne {t : Tk} {y x y' x' : Nat} (h : t.Nb y x y' x') : ¬ (y = y' ∧ x = x') := by
  obtain ⟨_, _, ⟨h1, rfl, h2⟩ | ⟨h1, rfl, h2⟩⟩ := h <;> omega
structure Up (t : Tk) (s s' : List (List Int)) (y x : Nat) (v : Int) : Prop where
  same : ∀ y' x', y' < t.H → x' < t.W → ¬ (y' = y ∧ x' = x) → at2 s' y' x' = at2 s y' x'
  here : at2 s' y x = v
  more : at2 s y x < v
theorem up_set {t : Tk} {s : List (List Int)} (h : Shp t s) {y x : Nat} {v : Int} (hy : y < t.H) (hx : x < t.W) (hr : at2 s y x < v) : Up t s (set2 s y x v) y x v := by
  have h1 := h.hl
  have hw := h.row hy
  have ha := fun a b => at2_set (g := s) (y := y) (x := x) (y' := a) (x' := b) (v := v) (by omega) (by omega)
  exact ⟨fun a b _ _ hn => by rw [ha, if_neg hn], by rw [ha, if_pos ⟨rfl, rfl⟩], hr⟩
theorem Up.ge {t : Tk} {s s' : List (List Int)} {y x : Nat} {v : Int} (h : Up t s s' y x v) {a b : Nat} (ha : a < t.H) (hb : b < t.W) : at2 s a b ≤ at2 s' a b := by
  by_cases e : a = y ∧ b = x
  · obtain ⟨rfl, rfl⟩ := e
    rw [h.here]
    have := h.more
    omega
  · rw [h.same a b ha hb e]; exact Int.le_refl _
def Sat (t : Tk) (s : List (List Int)) (y x : Nat) : Prop := ∀ y' x', t.Nb y x y' x' → at2 s y x - t.cb ≤ at2 s y' x'
structure QuI (t : Tk) (s : List (List Int)) (Q : List (Nat × Nat)) (cur : Option (Nat × Nat)) : Prop where
  pre : Pre t s
  mem : ∀ p ∈ Q, p.1 < t.H ∧ p.2 < t.W ∧ t.fl p.1 p.2 = true
  sat : ∀ y x, y < t.H → x < t.W → t.fl y x = true → (y, x) ∉ Q → cur ≠ some (y, x) → Sat t s y x
theorem QuI.pop {t : Tk} {s : List (List Int)} {n : Nat × Nat} {Q : List (Nat × Nat)} (h : QuI t s (n :: Q) none) : QuI t s Q (some n) :=
  ⟨h.pre, fun p hp => h.mem p (List.mem_cons_of_mem _ hp), fun y x hy hx hf hq hc => h.sat y x hy hx hf (fun hm => by
    rcases List.mem_cons.1 hm with e | e
    · exact hc (by rw [e])
    · exact hq e) (fun e => by cases e)⟩
theorem QuI.close {t : Tk} {s : List (List Int)} {n : Nat × Nat} {Q : List (Nat × Nat)} (h : QuI t s Q (some n)) (hs : Sat t s n.1 n.2) : QuI t s Q none :=
  ⟨h.pre, h.mem, fun y x hy hx hf hq _ => by
    by_cases e : n = (y, x)
    · subst e; exact hs
    · exact h.sat y x hy hx hf hq (fun hc => e (by cases hc; rfl))⟩
theorem QuI.done {t : Tk} {s : List (List Int)} (h : QuI t s [] none) : Lea t s :=
  h.pre.lea fun y x y' x' hy hx hf hn => h.sat y x hy hx hf (by simp) (fun e => by cases e) y' x' hn
theorem QuI.raise {t : Tk} {s : List (List Int)} {y x y' x' : Nat} {Q : List (Nat × Nat)} (h : QuI t s Q (some (y, x))) (hy : y < t.H) (hx : x < t.W) (hf : t.fl y x = true) (hn : t.Nb y x y' x') (hr : at2 s y' x' < at2 s y x - t.cb) :
    QuI t (set2 s y' x' (at2 s y x - t.cb)) (Q ++ [(y', x')]) (some (y, x)) := by
  have hu := up_set h.pre.sh hn.1 hn.2.1 hr
  refine ⟨h.pre.raise hy hx hf hn hr, fun p hp => ?_, fun a b ha hb hfa hq hc a' b' hnb => ?_⟩
  · rcases List.mem_append.1 hp with e | e
    · exact h.mem p e
    · obtain rfl : p = (y', x') := by simpa using e
      exact ⟨hn.1, hn.2.1, hn.fl⟩
  · have h1 : ¬ (a = y' ∧ b = x') := fun e => hq (by rw [e.1, e.2]; simp)
    have h2 := h.sat a b ha hb hfa (fun hm => hq (List.mem_append_left _ hm)) hc a' b' hnb
    have h3 := hu.ge hnb.1 hnb.2.1
    rw [hu.same a b ha hb h1]
    omega
def Tk.nbL (t : Tk) (y x : Nat) : List (Nat × Nat) :=
  (if t.rows.contains (y : Int) then (if x + 1 < t.W then [(y, x + 1)] else []) ++ (if 0 < x then [(y, x - 1)] else []) else []) ++
  (if t.ties.contains (x : Int) then (if y + 1 < t.H then [(y + 1, x)] else []) ++ (if 0 < y then [(y - 1, x)] else []) else [])
theorem Tk.nbL_mem {t : Tk} {y x : Nat} (hy : y < t.H) (hx : x < t.W) {p : Nat × Nat} : p ∈ t.nbL y x ↔ t.Nb y x p.1 p.2 := by
  obtain ⟨a, b⟩ := p
  unfold Tk.nbL Tk.Nb
  simp only [List.contains_iff_mem, List.mem_append]
  constructor
  · rintro (h | h)
    · split at h
      · rename_i hr
        rcases List.mem_append.1 h with h | h
        · split at h
          · simp at h; exact ⟨by omega, by omega, .inl ⟨hr, by omega, by omega⟩⟩
          · cases h
        · split at h
          · simp at h; exact ⟨by omega, by omega, .inl ⟨hr, by omega, by omega⟩⟩
          · cases h
      · cases h
    · split at h
      · rename_i hr
        rcases List.mem_append.1 h with h | h
        · split at h
          · simp at h; exact ⟨by omega, by omega, .inr ⟨hr, by omega, by omega⟩⟩
          · cases h
        · split at h
          · simp at h; exact ⟨by omega, by omega, .inr ⟨hr, by omega, by omega⟩⟩
          · cases h
      · cases h
  · rintro ⟨h1, h2, ⟨hr, h3, h4⟩ | ⟨hr, h3, h4⟩⟩
    · left
      subst h3
      rw [if_pos hr]
      rcases h4 with h4 | h4
      · rw [if_pos (by omega)]; simp [h4]
      · rw [List.mem_append]; right; rw [if_pos (by omega)]; simp; omega
    · right
      subst h3
      rw [if_pos hr]
      rcases h4 with h4 | h4
      · rw [if_pos (by omega)]; simp [h4]
      · rw [List.mem_append]; right; rw [if_pos (by omega)]; simp; omega
structure SI (t : Tk) (s0 s : List (List Int)) (again : Bool) (D : Nat → Nat → Prop) : Prop where
  pre : Pre t s
  no : again = false → s = s0 ∧ ∀ y x, y < t.H → x < t.W → t.fl y x = true → D y x → ∀ y' x', t.Nb y x y' x' → at2 s y' x' - t.cb ≤ at2 s y x
  yes : again = true → tot s0 < tot s
theorem SI.done {t : Tk} {s0 s : List (List Int)} {D : Nat → Nat → Prop} (h : SI t s0 s false D) (hD : ∀ y x, y < t.H → x < t.W → D y x) : Lea t s :=
  h.pre.lea fun y x y' x' hy hx hf hn => (h.no rfl).2 y' x' hn.1 hn.2.1 hn.fl (hD _ _ hn.1 hn.2.1) y x (hn.symm hy hx)
theorem tot_le_up {t : Tk} {s0 s : List (List Int)} {y x : Nat} {v : Int} (h : Shp t s) (hy : y < t.H) (hx : x < t.W) (hr : at2 s y x < v) : tot s < tot (set2 s y x v) := by
  have h1 := h.hl
  have hw := h.row hy
  rw [tot_set (by omega) (by omega)]
  omega
end Go.Proofs.Ytgjpdjihjphbdaa

/- Contracts of the reference, of groups: by open evaluation. -/
namespace Go.Proofs.Ytgjpdjihjphbdaa
open Go.RowKit
theorem callL {k f : Nat} {args args' : List MV} {h : MHeap} {v : Value} (h1 : args.mapM (frz 0 [] h 8) = some args') (hT : tA f args' [] = none) (h2 : runZ MT (orA k) (itA k) 4000000 f args' [] = some (.lit v, [])) : orA (k + 1) f args h = some (.lit v, h) := by
  have := callA h1 hT h2 (by simp [okV, ok1, MV.lt, MV.pure]) rfl
  simpa [shV, sh1] using this
theorem frz_lits {h : MHeap} : ∀ vs : List Value, (vs.map MV.lit).mapM (frz 0 [] h 8) = some (vs.map .lit)
  | [] => rfl
  | v :: vs => by
    rw [List.map_cons, List.mapM_cons, frz_lits vs]
    simp [frz, MV.lt]
theorem at_map {α β : Type} (f : α → β) (xs : List α) (i : Nat) (h : i < xs.length) : (xs.map f)[((i : Nat) : Int).toNat]? = some (f xs[i]) := by
  rw [Int.toNat_natCast, List.getElem?_map, List.getElem?_eq_getElem h]; rfl
theorem mf_Within : MT.mf 22 = some ⟨15, [(.tmp 6)], (.seq (.reg [⟨none, some 6, .mv (.c (.lit (.bool false)))⟩]) (.seq (.reg [⟨none, some 7, .mv (.s 1)⟩, ⟨none, some 8, .mv (.s 0)⟩, ⟨none, some 9, .bin .leq (.s 7) (.s 8)⟩, ⟨none, some 10, .mv (.s 9)⟩, ⟨some (10, true), some 11, .mv (.s 0)⟩, ⟨some (10, true), some 12, .mv (.s 2)⟩, ⟨some (10, true), some 13, .bin .leq (.s 11) (.s 12)⟩, ⟨none, some 14, .pick (.s 10) (.s 13) (.c (.lit (.bool false)))⟩, ⟨none, some 6, .mv (.s 14)⟩]) .ret))⟩ := by kernel_rfl
theorem Within_c (k : Nat) (a b c : Int) (h : MHeap) {t : Bool} (ht : inB a b c = t) : orA (k + 1) 22 [I64 a, I64 b, I64 c] h = some (Bo t, h) := by
  refine callL (frz_lits [.int .i64 a, .int .i64 b, .int .i64 c]) rfl (runZ_of mf_Within (by simp) ?_)
  simp only [argsL, List.map_cons, List.map_nil]
  repeat (first | apply ef_seq | (apply ef_mv; exact rfl; exact rfl) | (apply ef_bin; exact rfl; exact rfl; exact rfl; (exact rfl)) | apply ef_nil | apply seqQ.normal)
  cases h1 : decide (b ≤ a)
  all_goals repeat (first | (apply ef_mv; exact rfl; exact rfl) | (apply ef_bin; exact rfl; exact rfl; exact rfl; (exact rfl)) | (apply ef_gy; exact rfl; (exact (rfl : true = true))) | (apply ef_gn; exact rfl; (exact (rfl : false = false)); exact rfl) | (apply ef_pick; exact rfl; exact rfl; exact rfl) | apply ef_nil | apply seqQ.normal | apply ef_ret)
  · (refine fin1 rfl (by exact rfl) rfl ?_)
    simp at h1; simp [inB] at ht; simp; rw [← ht]; simp; omega
  · (refine fin1 rfl (by exact rfl) rfl ?_)
    simp at h1; simp [inB, h1] at ht; simp [← ht]
end Go.Proofs.Ytgjpdjihjphbdaa

/- Contracts of the reference, of groups: more. -/
namespace Go.Proofs.Ytgjpdjihjphbdaa
open Go.RowKit
theorem ltL_lits {n : Nat} {α : Type} {f : α → MV} (hf : ∀ a, (f a).lt n = true) : ∀ xs : List α, ltL n (xs.map f) = true
  | [] => rfl
  | x :: xs => by simp [ltL, hf x, ltL_lits hf xs]
theorem pureL_lits {α : Type} {f : α → MV} (hf : ∀ a, (f a).pure = true) : ∀ xs : List α, pureL (xs.map f) = true
  | [] => rfl
  | x :: xs => by simp [pureL, hf x, pureL_lits hf xs]
theorem ltL_R (n : Nat) (xs : List (Int × Int)) : ltL n (xs.map encR) = true := ltL_lits (fun ⟨_, _⟩ => rfl) xs
theorem ltL_I (n : Nat) (xs : List Int) : ltL n (xs.map I64) = true := ltL_lits (fun _ => rfl) xs
theorem pureL_R (xs : List (Int × Int)) : pureL (xs.map encR) = true := pureL_lits (fun ⟨_, _⟩ => rfl) xs
theorem pureL_I (xs : List Int) : pureL (xs.map I64) = true := pureL_lits (fun _ => rfl) xs
theorem frz_arr {h : MHeap} {id i k g : Nat} {o : MObj} {es : List MV} (ho : h[id]? = some o) (hg : o.g = g) (hk : i + k ≤ o.es.length) (hl : ltL 0 o.es = true) (he : (o.es.drop i).take k = es) : frz 0 [] h 8 (.arr id i k g) = some (.sl es) := by
  simp [frz, MV.lt, ho, hg, hk, hl, he]
theorem frz_sl {h : MHeap} {es : List MV} (hl : ltL 0 es = true) : frz 0 [] h 8 (.sl es) = some (.sl es) := by
  simp [frz, MV.lt, hl]
def FzS (H : MHeap) (v : MV) (es : List MV) : Prop := v.slen = some es.length ∧ ∀ t, frz 0 [] (H ++ t) 8 v = some (.sl es)
theorem FzS.now {H : MHeap} {v : MV} {es : List MV} (h : FzS H v es) : frz 0 [] H 8 v = some (.sl es) := by have := h.2 []; rwa [List.append_nil] at this
theorem fz_arr {h : MHeap} {id k : Nat} {o : MObj} {es : List MV} (ho : h[id]? = some o) (hg : o.g = 0) (hk : k = es.length) (hl : ltL 0 es = true) (he : o.es = es) : FzS h (.arr id 0 k 0) es := by
  subst he hk
  refine ⟨rfl, fun t => frz_arr (o := o) ?_ hg (by simp) hl (by simp)⟩
  rw [List.getElem?_append_left (List.getElem?_eq_some_iff.1 ho).1]; exact ho
end Go.Proofs.Ytgjpdjihjphbdaa

/- Contracts of the program: the words of chapter 1. -/
namespace Go.Proofs.Ytgjpdjihjphbdaa
open Go.RowKit
theorem mf_pwithin : MT.mf 129 = some ⟨15, [(.tmp 6)], (.seq (.reg [⟨none, some 6, .mv (.c (.lit (.bool false)))⟩]) (.seq (.reg [⟨none, some 7, .mv (.s 1)⟩, ⟨none, some 8, .mv (.s 0)⟩, ⟨none, some 9, .bin .leq (.s 7) (.s 8)⟩, ⟨none, some 10, .mv (.s 9)⟩, ⟨some (10, true), some 11, .mv (.s 0)⟩, ⟨some (10, true), some 12, .mv (.s 2)⟩, ⟨some (10, true), some 13, .bin .leq (.s 11) (.s 12)⟩, ⟨none, some 14, .pick (.s 10) (.s 13) (.c (.lit (.bool false)))⟩, ⟨none, some 6, .mv (.s 14)⟩]) .ret))⟩ := by kernel_rfl
theorem within_c (k : Nat) (a b c : Int) (h : MHeap) {t : Bool} (ht : inB a b c = t) : orA (k + 1) 129 [I64 a, I64 b, I64 c] h = some (Bo t, h) := by
  refine callL (frz_lits [.int .i64 a, .int .i64 b, .int .i64 c]) rfl (runZ_of mf_pwithin (by simp) ?_)
  simp only [argsL, List.map_cons, List.map_nil]
  by_cases h1 : b ≤ a
  all_goals repeat (first | apply ef_seq | (apply ef_mv; exact rfl; exact rfl) | (apply ef_bin; exact rfl; exact rfl; exact rfl; (first | exact cmp_t rfl (by first | exact rfl | (simp only [cmpP]; omega)) | exact cmp_f rfl (by simp only [cmpP]; omega) | exact rfl)) | (apply ef_gy; exact rfl; (exact (rfl : true = true))) | (apply ef_gn; exact rfl; (exact (rfl : false = false)); exact rfl) | (apply ef_pick; exact rfl; exact rfl; exact rfl) | apply ef_nil | apply seqQ.normal | apply ef_ret)
  · (refine fin1 rfl (by exact rfl) rfl ?_)
    simp [inB, h1] at ht; simp [← ht]
  · (refine fin1 rfl (by exact rfl) rfl ?_)
    simp [inB, h1] at ht; simp [← ht]
theorem mf_unless : MT.mf 93 = some ⟨7, [(.tmp 4)], (.seq (.reg [⟨none, some 4, .mv (.c (.lit (.int .i64 0)))⟩]) (.seq (.seq (.reg [⟨none, some 5, .mv (.s 0)⟩]) (.cond (.s 5) (.seq (.reg [⟨none, some 4, .mv (.c (.lit (.int .i64 0)))⟩]) .ret) .skip)) (.seq (.reg [⟨none, some 6, .mv (.s 1)⟩, ⟨none, some 4, .mv (.s 6)⟩]) .ret)))⟩ := by kernel_rfl
theorem unless_c (k : Nat) (b : Bool) (n : Int) (h : MHeap) {e : Int} (he : unl b n = e) : orA (k + 1) 93 [Bo b, I64 n] h = some (I64 e, h) := by
  subst he
  refine callL (frz_lits [.bool b, .int .i64 n]) rfl (runZ_of mf_unless (by simp) ?_)
  simp only [argsL, List.map_cons, List.map_nil]
  cases b
  all_goals repeat (first | apply ef_seq | (apply ef_mv; exact rfl; exact rfl) | apply ef_nil | apply seqQ.normal | apply ef_ret | apply seqQ.ret | apply ef_skip | (apply ef_condt; exact rfl; (exact (rfl : true = true))) | (apply ef_condf; exact rfl; (exact (rfl : false = false))))
  all_goals (refine fin1 rfl (by exact rfl) rfl ?_)
  all_goals rfl
theorem mf_first : MT.mf 92 = some ⟨15, [(.tmp 2)], (.seq (.reg [⟨none, some 2, .mv (.c (.lit (.int .i64 0)))⟩]) (.seq (.seq (.reg [⟨none, some 5, .mv (.s 0)⟩, ⟨none, some 6, .len (.s 5)⟩, ⟨none, some 7, .mv (.c (.lit (.int .i64 0)))⟩]) (.block 0 (.loop [7, 6, 5] (.seq (.reg [⟨none, some 8, .bin .lss (.s 7) (.s 6)⟩]) (.seq (.cond (.s 8) .skip (.exit 0)) (.seq (.block 1 (.seq (.reg [⟨none, some 9, .ia 1 (.s 5) (.s 7)⟩, ⟨none, some 10, .ld none (.s 9)⟩, ⟨none, some 4, .mv (.s 10)⟩]) (.seq (.reg [⟨none, some 11, .mv (.s 4)⟩, ⟨none, some 12, .bin .neq (.s 11) (.c (.lit (.int .i64 0)))⟩]) (.cond (.s 12) (.seq (.reg [⟨none, some 13, .mv (.s 4)⟩, ⟨none, some 2, .mv (.s 13)⟩]) .ret) .skip)))) (.reg [⟨none, some 14, .bin .add (.s 7) (.c (.lit (.int .i64 1)))⟩, ⟨none, some 7, .mv (.s 14)⟩]))))))) (.seq (.reg [⟨none, some 2, .mv (.c (.lit (.int .i64 0)))⟩]) .ret)))⟩ := by kernel_rfl
theorem first_z (k : Nat) (xs : List Int) (hx : xs.length ≤ 1000) : runZ MT (orA k) (itA k) 4000000 92 [.sl (xs.map I64)] [] = some (I64 (firstE xs), []) := by
  have hl : (MV.sl (xs.map I64)).slen = some xs.length := by simp [MV.slen]
  refine runZ_of mf_first (by simp) ?_
  simp only [argsL]
  repeat (first | apply ef_seq | (apply ef_mv; exact rfl; exact rfl) | (apply ef_len; exact rfl; exact rfl; (assumption)) | apply ef_nil | apply seqQ.normal | apply ef_block)
  refine ef_loop (α := Nat) (fun i => i ≤ xs.length ∧ firstE xs = firstE (xs.drop i)) (fun i => [(7, I64 (i : Int)), (6, I64 (xs.length : Int)), (5, .sl (xs.map I64))]) (fun _ => []) (fun i => xs.length - i) 0 [7, 6, 5] (fun _ => rfl) rfl ⟨by omega, rfl⟩ (by simp; omega) (by ((repeat (refine Hold.cons (by exact rfl) ?_)); exact Hold.nil)) rfl ?_
  rintro i ⟨hi, hz⟩
  by_cases hlt : i < xs.length
  · have e1 := at_map I64 xs i hlt
    have HD := Lib.hid (drop_at xs i hlt)
    have HZ := Lib.hid hz
    clear hz
    generalize xs[i] = x at e1 HD
    by_cases h0 : x = 0
    · subst h0
      repeat (first | apply ef_seq | (apply ef_mv; exact rfl; exact rfl) | (apply ef_bin; exact rfl; exact rfl; exact rfl; (first | exact cmp_t rfl (by first | exact rfl | (simp only [cmpP]; omega)) | exact cmp_f rfl (by simp only [cmpP]; omega) | ((with_reducible refine bin_add (wrap_of ?_ ?_)) <;> omega))) | (apply ef_ldr; exact rfl; exact rfl; (exact rfl)) | (apply ef_ias; exact rfl; exact rfl; exact rfl; (omega); assumption; exact rfl) | apply ef_nil | apply seqQ.normal | apply blockQ.normal | apply ef_block | apply ef_skip | (apply ef_condt; exact rfl; (exact (rfl : true = true))) | (apply ef_condf; exact rfl; (exact (rfl : false = false))))
      (refine loopQ.normal _ _ ⟨i + 1, ⟨hlt, by rw [HZ.out, HD.out]; simp [firstE]⟩, (by first | (simp only; omega) | omega), by ((repeat (refine Hold.cons (by exact rfl) ?_)); exact Hold.nil), .inl (Nat.le_refl _), (by first | exact List.take_length | exact rfl)⟩)
    · repeat (first | apply ef_seq | (apply ef_mv; exact rfl; exact rfl) | (apply ef_bin; exact rfl; exact rfl; exact rfl; (exact cmp_t rfl (by first | exact rfl | (simp only [cmpP]; omega)))) | (apply ef_ldr; exact rfl; exact rfl; (exact rfl)) | (apply ef_ias; exact rfl; exact rfl; exact rfl; (omega); assumption; exact rfl) | apply ef_nil | apply seqQ.normal | apply loopQ.ret | apply ef_ret | apply seqQ.ret | apply blockQ.ret | apply ef_block | apply ef_skip | (apply ef_condt; exact rfl; (exact (rfl : true = true))))
      (refine fin1 rfl (by exact rfl) rfl ?_)
      rw [HZ.out, HD.out]; simp [firstE, h0]
  · repeat (first | apply ef_seq | (apply ef_mv; exact rfl; exact rfl) | (apply ef_bin; exact rfl; exact rfl; exact rfl; (exact cmp_f rfl (by simp only [cmpP]; omega))) | apply ef_nil | apply seqQ.normal | apply loopQ.exit | apply ef_ret | apply ef_exit | apply seqQ.exit | apply blockQ.here | (apply ef_condf; exact rfl; (exact (rfl : false = false))))
    (refine fin1 rfl (by exact rfl) rfl ?_)
    rw [hz, List.drop_eq_nil_of_le (by omega)]; rfl
theorem first_c (k : Nat) (xs : List Int) (h : MHeap) {v : MV} {e : Int} (hv : frz 0 [] h 8 v = some (.sl (xs.map I64))) (he : firstE xs = e) (hx : xs.length ≤ 1000 := by simp) : orA (k + 1) 92 [v] h = some (I64 e, h) :=
  callL (args' := [.sl (xs.map I64)]) (by simp [List.mapM_cons, hv]) rfl (by rw [← he]; exact first_z k xs hx)
theorem first2_c {k id : Nat} {a0 a1 e : Int} {h : MHeap} {o : MObj} (ho : h[id]? = some o) (hg : o.g = 0) (hes : o.es = [I64 a0, I64 a1]) (he : firstE [a0, a1] = e) : orA (k + 1) 92 [.arr id 0 2 0] h = some (I64 e, h) :=
  first_c k [a0, a1] h (fz_arr ho hg rfl rfl hes).now he
theorem first3_c {k id : Nat} {a0 a1 a2 e : Int} {h : MHeap} {o : MObj} (ho : h[id]? = some o) (hg : o.g = 0) (hes : o.es = [I64 a0, I64 a1, I64 a2]) (he : firstE [a0, a1, a2] = e) : orA (k + 1) 92 [.arr id 0 3 0] h = some (I64 e, h) :=
  first_c k [a0, a1, a2] h (fz_arr ho hg rfl rfl hes).now he
end Go.Proofs.Ytgjpdjihjphbdaa

/- More rules of evaluation: cuts with a state, rows of integers. -/
namespace Go.Proofs.Ytgjpdjihjphbdaa
open Go.RowKit
section
variable {O : Oracle} {I : Iter} {N n : Nat} {lk : Nat → Bool} {A : Sl} {h : MHeap} {Q : MX2 → Sl → MHeap → Prop}
end
theorem rng_get {α : Type} (f : Nat → α) {n j : Nat} (h : j < n) : ((List.range n).map f)[j]? = some (f j) := by
  rw [List.getElem?_map, List.getElem?_range h]; rfl
theorem rng_set {α : Type} (f : Nat → α) {n i : Nat} (v : α) : ((List.range n).map f).set i v = (List.range n).map fun j => if j = i then v else f j := by
  apply List.ext_getElem?
  intro j
  rw [List.getElem?_set, List.getElem?_map, List.getElem?_map, List.length_map, List.length_range]
  by_cases hj : j < n
  · rw [List.getElem?_range hj]
    by_cases hij : i = j
    · subst hij; simp [hj]
    · simp [hij, Ne.symm hij]
  · rw [List.getElem?_eq_none (by simp; omega)]
    by_cases hij : i = j
    · subst hij; simp [hj]
    · simp [hij]
theorem rng_congr {α : Type} {f g : Nat → α} {n : Nat} (h : ∀ j, j < n → f j = g j) : (List.range n).map f = (List.range n).map g :=
  List.map_congr_left fun j hj => h j (List.mem_range.1 hj)
theorem set_mapI (xs : List Int) (k : Nat) (v : Int) : (xs.map I64).set k (I64 v) = (xs.set k v).map I64 := by rw [List.map_set]
theorem lt_succ_ne {α : Type} {j i : Nat} (h : j ≠ i) (x y : α) : (if j < i then x else y) = if j < i + 1 then x else y := by
  by_cases h1 : j < i
  · rw [if_pos h1, if_pos (by omega)]
  · rw [if_neg h1, if_neg (by omega)]
theorem le_pred_ne {α : Type} {j i : Int} (h : j ≠ i) (x y : α) : (if i < j then x else y) = if i - 1 < j then x else y := by
  by_cases h1 : i < j
  · rw [if_pos h1, if_pos (by omega)]
  · rw [if_neg h1, if_neg (by omega)]
theorem ok_of {h : MHeap} {id g sz : Nat} {o : MObj} (ho : h[id]? = some o) (hg : o.g = g) (hz : o.sz = sz) : MHeap.ok h id g sz = true := by
  subst hg hz; simp [MHeap.ok, ho]
theorem ltL_app1 (n : Nat) (v : MV) : ∀ xs : List MV, ltL n (xs ++ [v]) = (ltL n xs && v.lt n)
  | [] => by simp [ltL]
  | x :: xs => by simp [ltL, ltL_app1 n v xs, Bool.and_assoc]
theorem ltL_appI (n : Nat) (ys : List Int) (x : Int) : ltL n (ys.map I64 ++ [I64 x]) = true := by rw [show ys.map I64 ++ [I64 x] = (ys ++ [x]).map I64 by simp]; exact ltL_I n _
theorem at_I {xs : List Int} {k : Nat} {v : Int} {j : Int} (h : xs[k]? = some v) (hj : j = (k : Int)) : (xs.map I64)[0 + j.toNat]? = some (I64 v) := by
  subst hj
  rw [Nat.zero_add, Int.toNat_natCast, List.getElem?_map, h]; rfl
def nlN : Nat → Bool
  | 0 => true
  | _ + 1 => false
theorem fin_al {x : MX2} {A : Sl} {h : MHeap} {t u id k g : Nat} {o : MObj} {es : List MV} {sz : Nat} {nl : Bool} {v : Value} (hx : outX x = true) (hv : look A t = some (.arr id 0 k g)) (hw : look A u = some (.lit v)) (ho : h[id]? = some o) (hg : o.g = g) (hk : k = es.length) (hl : ltL 0 es = true) (he : o.es = es) (hz : o.sz = sz) (hn : o.nl = nl) :
    FinF [.tmp t, .tmp u] (.tup [.arr 0 0 k 0, .lit v]) [⟨0, nl, sz, es⟩] x A h := by
  subst hz hn he hk
  refine ⟨hx, [.arr id 0 o.es.length g, .lit v], [.arr 0 0 o.es.length 0, .lit v], ⟨_, _, rfl, hv, _, [], rfl, hw, rfl⟩, ?_, ?_, rfl⟩
  · simp [impIds]
  · simp [impIds, expL, ho, hg, hl, frz, MV.lt]
end Go.Proofs.Ytgjpdjihjphbdaa

/- Iterators with open values: rules; ranges over them. -/
namespace Go.Proofs.Ytgjpdjihjphbdaa
open Go.RowKit
set_option linter.unusedVariables false
theorem bindL_all {α β : Type} {f : α → Option (List β)} {P : β → Prop} : ∀ {l : List α}, (∀ a ∈ l, ∃ r, f a = some r ∧ ∀ x ∈ r, P x) → ∃ m, bindL f l = some m ∧ ∀ x ∈ m, P x
  | [], _ => ⟨[], rfl, fun x hx => by cases hx⟩
  | a :: l, h => by
    obtain ⟨r, h1, h2⟩ := h a List.mem_cons_self
    obtain ⟨m, h3, h4⟩ := bindL_all (l := l) fun b hb => h b (List.mem_cons_of_mem _ hb)
    refine ⟨r ++ m, by simp only [bindL, h1, h3], fun x hx => ?_⟩
    rcases List.mem_append.1 hx with hx | hx
    · exact h2 x hx
    · exact h4 x hx
theorem bindL_cnt {α β : Type} {f : α → Option (List β)} {sa : α → Bool} {sb : β → Bool} (hf : ∀ a r, f a = some r → (r.filter fun x => !sb x).length = if sa a then 0 else 1) :
    ∀ (l : List α) (m : List β), bindL f l = some m → (m.filter fun x => !sb x).length = (l.filter fun x => !sa x).length
  | [], m, h => by simp only [bindL, Option.some.injEq] at h; subst h; rfl
  | a :: l, m, h => by
    simp only [bindL] at h
    split at h
    case h_2 => cases h
    rename_i r hr
    split at h
    case h_2 => cases h
    rename_i m' hm
    cases h
    have h1 := hf a r hr
    have h2 := bindL_cnt hf l m' hm
    rw [List.filter_append, List.length_append, h1, h2, List.filter_cons]
    cases sa a <;> simp <;> omega
abbrev liveI (l : List (MX2 × ISt)) : Nat := (l.filter fun o => !o.2.stop).length
theorem contI_one {f : ISt → Option (List (MX2 × ISt))} (hf : ∀ st outs, f st = some outs → liveI outs = if st.stop then 0 else 1) (p : MX2 × ISt) (outs : List (MX2 × ISt)) (h : contI f p = some outs) : liveI outs = if p.2.stop then 0 else 1 := by
  obtain ⟨x, st⟩ := p
  cases x with
  | normal => exact hf _ _ h
  | exit id =>
    simp only [contI, Option.some.injEq] at h
    subst h
    simp only [liveI, List.filter_cons, List.filter_nil]
    cases st.stop <;> rfl
  | ret =>
    simp only [contI, Option.some.injEq] at h
    subst h
    simp only [liveI, List.filter_cons, List.filter_nil]
    cases st.stop <;> rfl
theorem roundsI_one {f : ISt → Option (List (MX2 × ISt))} (hf : ∀ st outs, f st = some outs → liveI outs = if st.stop then 0 else 1) : ∀ n st outs, roundsI f n st = some outs → liveI outs = if st.stop then 0 else 1 := by
  intro n
  induction n with
  | zero => intro st outs h; simp [roundsI] at h
  | succ n ih =>
    intro st outs h
    simp only [roundsI] at h
    split at h
    case h_2 => cases h
    rename_i l hl
    have := bindL_cnt (sa := fun p : MX2 × ISt => p.2.stop) (sb := fun p : MX2 × ISt => p.2.stop) (contI_one ih) l outs h
    exact this.trans (hf _ _ hl)
theorem evGI_one {O : Oracle} {o : GO} {st : ISt} {l : List ISt} (h : evGI O o st = some l) : (l.filter fun s => !s.stop).length = if st.stop then 0 else 1 := by
  unfold evGI at h
  split at h
  · split at h
    case isFalse => cases h
    rename_i hs
    cases h
    rw [hs.1]
    rfl
  · rw [Option.map_eq_some_iff] at h
    obtain ⟨st', _, rfl⟩ := h
    simp only [List.filter_cons, List.filter_nil]
    cases st.stop <;> rfl
theorem evRI_one {O : Oracle} : ∀ (gl : List GO) (st : ISt) (l : List ISt), evRI O gl st = some l → (l.filter fun s => !s.stop).length = if st.stop then 0 else 1
  | [], st, l, h => by
    simp only [evRI, Option.some.injEq] at h
    subst h
    simp only [List.filter_cons, List.filter_nil]
    cases st.stop <;> rfl
  | o :: gl, st, l, h => by
    simp only [evRI] at h
    split at h
    case h_2 => cases h
    rename_i l1 h1
    exact (bindL_cnt (sa := ISt.stop) (sb := ISt.stop) (evRI_one gl) l1 l h).trans (evGI_one h1)
theorem evI_one {O : Oracle} {N : Nat} : ∀ (mc : MC) (st : ISt) (outs : List (MX2 × ISt)), evI O N mc st = some outs → liveI outs = if st.stop then 0 else 1 := by
  have one : ∀ (x : MX2) (st : ISt), liveI [(x, st)] = if st.stop then 0 else 1 := fun x st => by
    simp only [liveI, List.filter_cons, List.filter_nil]
    cases st.stop <;> rfl
  intro mc
  induction mc with
  | skip => intro st outs h; simp only [evI, Option.some.injEq] at h; subst h; exact one _ _
  | ret => intro st outs h; simp only [evI, Option.some.injEq] at h; subst h; exact one _ _
  | exit id => intro st outs h; simp only [evI, Option.some.injEq] at h; subst h; exact one _ _
  | bad => intro st outs h; simp [evI] at h
  | rf => intro st outs h; simp [evI] at h
  | give => intro st outs h; simp [evI] at h
  | reg gl =>
    intro st outs h
    simp only [evI] at h
    split at h
    · rw [Option.map_eq_some_iff] at h
      obtain ⟨l, h1, rfl⟩ := h
      have := evRI_one gl st l h1
      rw [← this, liveI, List.filter_map, List.length_map]
      rfl
    · rw [Option.map_eq_some_iff] at h
      obtain ⟨st', h1, rfl⟩ := h
      exact one _ _
  | seq a b iha ihb =>
    intro st outs h
    simp only [evI] at h
    split at h
    case h_2 => cases h
    rename_i l hl
    exact (bindL_cnt (sa := fun p : MX2 × ISt => p.2.stop) (sb := fun p : MX2 × ISt => p.2.stop) (contI_one ihb) l outs h).trans (iha _ _ hl)
  | cond c a b iha ihb =>
    intro st outs h
    simp only [evI] at h
    split at h
    case h_2 => cases h
    split at h
    · exact iha _ _ h
    · exact ihb _ _ h
  | block id b ih =>
    intro st outs h
    simp only [evI, Option.map_eq_some_iff] at h
    obtain ⟨l, h1, rfl⟩ := h
    rw [← ih _ _ h1, liveI, List.filter_map, List.length_map]
    congr 2
    funext o
    have : (leaveB id o).2 = o.2 := by unfold leaveB; split; split <;> rfl; rfl
    simp only [Function.comp_apply, this]
  | loop keep b ih =>
    intro st outs h
    simp only [evI] at h
    exact roundsI_one ih _ _ _ h
abbrev QI := MX2 → Sl → MHeap → Nat → List (List MV) → Bool → Prop
structure EfI (O : Oracle) (N n : Nat) (mc : MC) (A : Sl) (h : MHeap) (ln : Nat) (xs : List (List MV)) (stop : Bool) (Q : QI) : Prop where
  run : ∀ s, SRel n A s → ∃ outs, evI O N mc ⟨s, h, ln, xs, stop⟩ = some outs ∧ ∀ o ∈ outs, ∃ A', SRel n A' o.2.s ∧ Q o.1 A' o.2.h o.2.ln o.2.xs o.2.stop
structure EfY (O : Oracle) (N n : Nat) (gl : List GO) (A : Sl) (h : MHeap) (ln : Nat) (xs : List (List MV)) (stop : Bool) (Q : Sl → MHeap → Nat → List (List MV) → Bool → Prop) : Prop where
  run : ∀ s, SRel n A s → ∃ l, evRI O gl ⟨s, h, ln, xs, stop⟩ = some l ∧ ∀ o ∈ l, ∃ A', SRel n A' o.s ∧ Q A' o.h o.ln o.xs o.stop
section
variable {O : Oracle} {N n : Nat} {A : Sl} {h : MHeap} {ln : Nat} {xs : List (List MV)} {stop : Bool} {Q : QI}
inductive seqI (O : Oracle) (N n : Nat) (b : MC) (Q : QI) : QI
  | normal (A : Sl) (h : MHeap) (ln : Nat) (xs : List (List MV)) (stop : Bool) : EfI O N n b A h ln xs stop Q → seqI O N n b Q .normal A h ln xs stop
  | ret (A : Sl) (h : MHeap) (ln : Nat) (xs : List (List MV)) (stop : Bool) : Q .ret A h ln xs stop → seqI O N n b Q .ret A h ln xs stop
  | exit (id : Nat) (A : Sl) (h : MHeap) (ln : Nat) (xs : List (List MV)) (stop : Bool) : Q (.exit id) A h ln xs stop → seqI O N n b Q (.exit id) A h ln xs stop
inductive blockI (id : Nat) (Q : QI) : QI
  | normal (A : Sl) (h : MHeap) (ln : Nat) (xs : List (List MV)) (stop : Bool) : Q .normal A h ln xs stop → blockI id Q .normal A h ln xs stop
  | ret (A : Sl) (h : MHeap) (ln : Nat) (xs : List (List MV)) (stop : Bool) : Q .ret A h ln xs stop → blockI id Q .ret A h ln xs stop
  | here (A : Sl) (h : MHeap) (ln : Nat) (xs : List (List MV)) (stop : Bool) : Q .normal A h ln xs stop → blockI id Q (.exit id) A h ln xs stop
  | there (k : Nat) (A : Sl) (h : MHeap) (ln : Nat) (xs : List (List MV)) (stop : Bool) : k ≠ id → Q (.exit k) A h ln xs stop → blockI id Q (.exit k) A h ln xs stop
inductive loopI (R : Sl → MHeap → Nat → List (List MV) → Bool → Prop) (Q : QI) : QI
  | normal (A : Sl) (h : MHeap) (ln : Nat) (xs : List (List MV)) (stop : Bool) : R A h ln xs stop → loopI R Q .normal A h ln xs stop
  | ret (A : Sl) (h : MHeap) (ln : Nat) (xs : List (List MV)) (stop : Bool) : Q .ret A h ln xs stop → loopI R Q .ret A h ln xs stop
  | exit (id : Nat) (A : Sl) (h : MHeap) (ln : Nat) (xs : List (List MV)) (stop : Bool) : Q (.exit id) A h ln xs stop → loopI R Q (.exit id) A h ln xs stop
theorem efi_one {mc : MC} {x : MX2} (he : ∀ s, evI O N mc ⟨s, h, ln, xs, stop⟩ = some [(x, ⟨s, h, ln, xs, stop⟩)]) (hQ : Q x A h ln xs stop) : EfI O N n mc A h ln xs stop Q := .mk fun s hs =>
  ⟨_, he s, fun o ho => by rcases List.mem_cons.1 ho with rfl | ho; exact ⟨A, hs, hQ⟩; cases ho⟩
theorem efi_skip (hQ : Q .normal A h ln xs stop) : EfI O N n .skip A h ln xs stop Q := efi_one (fun s => rfl) hQ
theorem efi_ret (hQ : Q .ret A h ln xs stop) : EfI O N n .ret A h ln xs stop Q := efi_one (fun s => rfl) hQ
theorem efi_exit {id : Nat} (hQ : Q (.exit id) A h ln xs stop) : EfI O N n (.exit id) A h ln xs stop Q := efi_one (fun s => rfl) hQ
theorem efi_seq {a b : MC} (hE : EfI O N n a A h ln xs stop (seqI O N n b Q)) : EfI O N n (.seq a b) A h ln xs stop Q := .mk fun s hs => by
  obtain ⟨l, h1, h2⟩ := hE.run s hs
  simp only [evI, h1]
  refine bindL_all fun o ho => ?_
  obtain ⟨A', h3, h4⟩ := h2 o ho
  obtain ⟨x, s', h', ln', xs', stop'⟩ := o
  dsimp only at h3 h4
  cases h4 with
  | normal _ _ _ _ _ h4 => exact h4.run s' h3
  | ret _ _ _ _ _ h4 => exact ⟨_, rfl, fun o ho => by rcases List.mem_cons.1 ho with rfl | ho; exact ⟨A', h3, h4⟩; cases ho⟩
  | exit id _ _ _ _ _ h4 => exact ⟨_, rfl, fun o ho => by rcases List.mem_cons.1 ho with rfl | ho; exact ⟨A', h3, h4⟩; cases ho⟩
theorem efi_block {id : Nat} {b : MC} (hE : EfI O N n b A h ln xs stop (blockI id Q)) : EfI O N n (.block id b) A h ln xs stop Q := .mk fun s hs => by
  obtain ⟨l, h1, h2⟩ := hE.run s hs
  refine ⟨l.map (leaveB id), by simp only [evI, h1, Option.map_some], fun o ho => ?_⟩
  obtain ⟨p, hp, rfl⟩ := List.mem_map.1 ho
  obtain ⟨A', h3, h4⟩ := h2 p hp
  obtain ⟨x, s', h', ln', xs', stop'⟩ := p
  dsimp only at h3 h4
  cases h4 with
  | normal _ _ _ _ _ h4 => exact ⟨A', h3, h4⟩
  | ret _ _ _ _ _ h4 => exact ⟨A', h3, h4⟩
  | here _ _ _ _ _ h4 => exact ⟨A', by simpa [leaveB] using h3, by simpa [leaveB] using h4⟩
  | there k _ _ _ _ _ hk h4 => exact ⟨A', by simpa [leaveB, hk] using h3, by simpa [leaveB, hk] using h4⟩
theorem efi_condt {c : MX} {a b : MC} {t : Bool} (hc : XV A c (.lit (.bool t))) (ht : t = true) (hE : EfI O N n a A h ln xs stop Q) : EfI O N n (.cond c a b) A h ln xs stop Q := .mk fun s hs => by
  subst ht
  obtain ⟨l, h1, h2⟩ := hE.run s hs
  exact ⟨l, by simp only [evI, hs.x hc, if_true, h1], h2⟩
theorem efi_condf {c : MX} {a b : MC} {t : Bool} (hc : XV A c (.lit (.bool t))) (ht : t = false) (hE : EfI O N n b A h ln xs stop Q) : EfI O N n (.cond c a b) A h ln xs stop Q := .mk fun s hs => by
  subst ht
  obtain ⟨l, h1, h2⟩ := hE.run s hs
  exact ⟨l, by simp only [evI, hs.x hc, Bool.false_eq_true, if_false, h1], h2⟩
theorem efi_reg {gl : List GO} (hy : hasY gl = false) (hE : Ef O noI N n (lkn ln) (.reg gl) A h fun x A' h' => Q .normal A' h' ln xs stop) : EfI O N n (.reg gl) A h ln xs stop Q := .mk fun s hs => by
  obtain ⟨x, s', h', h1, A', h2, h3⟩ := hE.run s hs
  simp only [evC, Option.map_eq_some_iff] at h1
  obtain ⟨st, h4, h5⟩ := h1
  cases h5
  exact ⟨[(.normal, ⟨s', h', ln, xs, stop⟩)], by simp only [evI, hy, Bool.false_eq_true, if_false, h4, Option.map_some], fun o ho => by rcases List.mem_cons.1 ho with rfl | ho; exact ⟨A', h2, h3⟩; cases ho⟩
theorem efi_regy {gl : List GO} (hy : hasY gl = true) (hE : EfY O N n gl A h ln xs stop (Q .normal)) : EfI O N n (.reg gl) A h ln xs stop Q := .mk fun s hs => by
  obtain ⟨l, h1, h2⟩ := hE.run s hs
  refine ⟨l.map fun st => (.normal, st), by simp only [evI, hy, if_true, h1, Option.map_some], fun o ho => ?_⟩
  obtain ⟨p, hp, rfl⟩ := List.mem_map.1 ho
  exact h2 p hp
variable {QY : Sl → MHeap → Nat → List (List MV) → Bool → Prop}
theorem efy_nil (hQ : QY A h ln xs stop) : EfY O N n [] A h ln xs stop QY := .mk fun s hs => ⟨_, rfl, fun o ho => by rcases List.mem_cons.1 ho with rfl | ho; exact ⟨A, hs, hQ⟩; cases ho⟩
theorem isY_none {s : List MV} {op : MO} (h : isCv op = false) : isY s op = none := by
  cases op <;> first | rfl | (simp [isCv] at h)
theorem efy_op {g : GO} {gl : List GO} (hc : isCv g.op = false) (hE : Ef O noI N n (lkn ln) (.reg [g]) A h fun x A' h' => EfY O N n gl A' h' ln xs stop QY) : EfY O N n (g :: gl) A h ln xs stop QY := .mk fun s hs => by
  obtain ⟨x, s', h', h1, A', h2, h3⟩ := hE.run s hs
  simp only [evC, Option.map_eq_some_iff, evR] at h1
  obtain ⟨st, h4, h5⟩ := h1
  cases h5
  have h6 : evG (lkn ln) O g ⟨s, h⟩ = some ⟨s', h'⟩ := by
    cases hg : evG (lkn ln) O g ⟨s, h⟩ with
    | none => rw [hg] at h4; cases h4
    | some st => rw [hg] at h4; exact h4
  obtain ⟨l, h7, h8⟩ := h3.run s' h2
  have h9 : evGI O g ⟨s, h, ln, xs, stop⟩ = some [⟨s', h', ln, xs, stop⟩] := by
    unfold evGI
    rw [isY_none hc]
    simp only [h6, Option.map_some]
    split
    · rename_i hh; cases hh
    · rfl
  refine ⟨l, ?_, h8⟩
  simp only [evRI, h9, bindL, h7, List.append_nil]
theorem efy_yield {t : Nat} {gd : Option (Nat × Bool)} {x : MX} {as_ : List MX} {ms : List MV} {gl : List GO} (hg : match gd with | none => True | some (u, b) => look A u = some (.lit (.bool b))) (ht : Nat.blt t n = true) (hx : XV A x .yld) (ha : XVs A as_ ms) (hcl : ms.all MV.cl = true)
    (hT : EfY O N n gl ((t, .lit (.bool true)) :: A) h h.length (xs ++ [ms]) false QY) (hF : EfY O N n gl ((t, .lit (.bool false)) :: A) h h.length xs true QY) : EfY O N n (⟨gd, some t, .callv x as_⟩ :: gl) A h ln xs false QY := .mk fun s hs => by
  have hw : wantM s gd = some true := by
    cases gd with
    | none => rfl
    | some p => obtain ⟨u, b⟩ := p; dsimp only at hg; rw [wantM_x hs hg]; simp
  have hY : isY s (.callv x as_) = some ms := by simp only [isY, hs.x hx, hs.xs ha]
  have ht' : t < n := by simpa [Nat.blt_eq] using ht
  obtain ⟨l1, a1, a2⟩ := hT.run _ (hs.put ht' _)
  obtain ⟨l2, b1, b2⟩ := hF.run _ (hs.put ht' _)
  refine ⟨l1 ++ l2, ?_, fun o ho => ?_⟩
  · simp only [evRI, evGI, hw, hY, hcl, and_self, if_true, bindL, putM, a1, b1, List.append_nil]
  · rcases List.mem_append.1 ho with ho | ho
    · exact a2 o ho
    · exact b2 o ho
theorem efy_skip {t u : Nat} {b x : Bool} {op : MO} {gl : List GO} (hg : look A u = some (.lit (.bool x))) (hx : x = !b) (ht : Nat.blt t n = true) (hE : EfY O N n gl ((t, .lit undef) :: A) h ln xs stop QY) : EfY O N n (⟨some (u, b), some t, op⟩ :: gl) A h ln xs stop QY := .mk fun s hs => by
  have hw : wantM s (some (u, b)) = some false := by rw [wantM_x hs hg, hx]; cases b <;> rfl
  obtain ⟨l, a1, a2⟩ := hE.run _ (hs.put (show t < n by simpa [Nat.blt_eq] using ht) _)
  refine ⟨l, ?_, a2⟩
  have h9 : evGI O ⟨some (u, b), some t, op⟩ ⟨s, h, ln, xs, stop⟩ = some [⟨s.set t (.lit undef), h, ln, xs, stop⟩] := by
    simp only [evGI, hw, evG, Bool.false_eq_true, if_false, putM, Option.map_some]
  simp only [evRI, h9, bindL, a1, List.append_nil]
theorem efi_loop {α : Type} {keep : List Nat} {b : MC} (Inv : α → Prop) (hd : α → Sl) (hp : α → MHeap) (lf : α → Nat) (xf : α → List (List MV)) (ms : α → Nat) (a0 : α) (h0 : Inv a0) (hN : ms a0 < N) (hA : Hold A (hd a0)) (hH : hp a0 = h) (hL : lf a0 = ln) (hX : xf a0 = xs)
    (hb : ∀ a, Inv a → EfI O N n b (hd a) (hp a) (lf a) (xf a) false (loopI (fun A' h' ln' xs' stop' => stop' = false ∧ ∃ a', Inv a' ∧ ms a' < ms a ∧ Hold A' (hd a') ∧ h' = hp a' ∧ ln' = lf a' ∧ xs' = xf a') Q)) : EfI O N n (.loop keep b) A h ln xs false Q := .mk fun s hs => by
  have key : ∀ (M : Nat) (a : α) (A1 : Sl) (s1 : List MV), Inv a → ms a < M → SRel n A1 s1 → Hold A1 (hd a) →
      ∃ outs, roundsI (evI O N b) M ⟨s1, hp a, lf a, xf a, false⟩ = some outs ∧ ∀ o ∈ outs, ∃ A', SRel n A' o.2.s ∧ Q o.1 A' o.2.h o.2.ln o.2.xs o.2.stop := by
    intro M
    induction M with
    | zero => intro a A1 s1 _ hM; omega
    | succ M ih =>
      intro a A1 s1 hI hM hs1 hA1
      obtain ⟨l, h1, h2⟩ := (hb a hI).run s1 ⟨hs1.len, fun t v ht => hs1.get t v (hA1.sub t v ht)⟩
      simp only [roundsI, h1]
      refine bindL_all fun o ho => ?_
      obtain ⟨A', h3, h4⟩ := h2 o ho
      obtain ⟨x, s', h', ln', xs', stop'⟩ := o
      dsimp only at h3 h4
      cases h4 with
      | normal _ _ _ _ _ h4 =>
        obtain ⟨rfl, a', j1, j2, j3, rfl, rfl, rfl⟩ := h4
        exact ih a' A' s' j1 (by omega) h3 j3
      | ret _ _ _ _ _ h4 => exact ⟨_, rfl, fun o ho => by rcases List.mem_cons.1 ho with rfl | ho; exact ⟨A', h3, h4⟩; cases ho⟩
      | exit id _ _ _ _ _ h4 => exact ⟨_, rfl, fun o ho => by rcases List.mem_cons.1 ho with rfl | ho; exact ⟨A', h3, h4⟩; cases ho⟩
  subst hH hL hX
  exact key N a0 A s h0 hN hs hA
def finI (full : List (List MV)) : QI := fun x A h ln xs stop => outX x = true ∧ (stop = false → xs = full)
theorem finI_go {full : List (List MV)} {x : MX2} (hx : outX x = true) (he : xs = full) : finI full x A h ln xs false := ⟨hx, fun _ => he⟩
theorem finI_stop {full : List (List MV)} {x : MX2} (hx : outX x = true) : finI full x A h ln xs true := ⟨hx, fun h => by cases h⟩
theorem itM_of {q : Nat} {caps cs : List MV} {full : List (List MV)} {b : MC} (hc : caps.mapM (frz 0 ((List.range h.length).filter fun i => !(caps.flatMap (MV.ids h 6)).contains i) h 8) = some cs) (hn : cs.length + 1 ≤ n)
    (hE : EfI O N n b (argsL 0 (cs.take q ++ [.yld] ++ cs.drop q)) [] 0 [] false (finI full)) (hcl : (full.all fun x => x.all MV.cl) = true) : itM O N ⟨n, [], b⟩ q caps h = some full := by
  have hlen : (cs.take q ++ [MV.yld] ++ cs.drop q).length = cs.length + 1 := by simp; omega
  obtain ⟨outs, h1, h2⟩ := hE.run (cs.take q ++ [.yld] ++ cs.drop q ++ List.replicate (n - (cs.length + 1)) (.lit undef)) ⟨by rw [List.length_append, hlen, List.length_replicate]; omega, fun t v ht => by
    obtain ⟨_, h1⟩ := look_args _ _ _ _ ht
    rw [Nat.sub_zero] at h1
    have hl := (List.getElem?_eq_some_iff.1 h1).1
    rw [List.getD_eq_getElem?_getD, List.getElem?_append_left hl, h1]
    rfl⟩
  have h3 := evI_one _ _ _ h1
  simp only [liveI, Bool.false_eq_true, if_false] at h3
  have h4 : (outs.all fun o => outX o.1) = true := List.all_eq_true.2 fun o ho => by obtain ⟨A', _, h5⟩ := h2 o ho; exact h5.1
  obtain ⟨o, h5⟩ := List.length_eq_one_iff.1 h3
  have h6 : o ∈ outs.filter fun o => !o.2.stop := by rw [h5]; simp
  obtain ⟨h7, h8⟩ := List.mem_filter.1 h6
  obtain ⟨A', _, h9⟩ := h2 o h7
  have h10 : o.2.xs = full := h9.2 (by simpa using h8)
  unfold itM
  simp only [hc, h1, h4, if_true, h5, h10, hcl]
def putA : Sl → List Nat → List MV → Sl
  | A, p :: ps, v :: vs => putA ((p, v) :: A) ps vs
  | A, _, _ => A
theorem SRel.putsA : ∀ {ps : List Nat} {vs : List MV} {A : Sl} {s : List MV}, SRel n A s → (ps.all fun p => Nat.blt p n) = true → SRel n (putA A ps vs) (putAll s ps vs)
  | [], vs, A, s, hs, _ => by cases vs <;> exact hs
  | p :: ps, [], A, s, hs, _ => hs
  | p :: ps, v :: vs, A, s, hs, hp => by
    simp only [List.all_cons, Bool.and_eq_true] at hp
    show SRel n (putA ((p, v) :: A) ps vs) (Go.Proofs.Ytgjpdjihjphbdaa.putAll (s.set p v) ps vs)
    exact SRel.putsA (hs.put (by simpa [Nat.blt_eq] using hp.1) v) hp.2
end
section
variable {O : Oracle} {I : Iter} {N n : Nat} {lk : Nat → Bool} {A : Sl} {h : MHeap} {Q : MX2 → Sl → MHeap → Prop}
inductive preQ (O : Oracle) (I : Iter) (N n : Nat) (lk : Nat → Bool) (b : MC) (R : MX2 → Sl → MHeap → Prop) : MX2 → Sl → MHeap → Prop
  | normal (A : Sl) (h : MHeap) : Ef O I N n lk b A h R → preQ O I N n lk b R .normal A h
inductive rfQ (A0 : Sl) (R : MHeap → Prop) (Q : MX2 → Sl → MHeap → Prop) : MX2 → Sl → MHeap → Prop
  | normal (A : Sl) (h : MHeap) : R h → rfQ A0 R Q .normal A h
  | ret (A : Sl) (h : MHeap) : Q .ret A0 h → rfQ A0 R Q .ret A h
  | exit (id : Nat) (A : Sl) (h : MHeap) : Q (.exit id) A0 h → rfQ A0 R Q (.exit id) A h
inductive HeadIs (keep : List Nat) (m : Nat) (A : Sl) (h : MHeap) : MHeap → Prop
  | all : h.length ≤ m → HeadIs keep m A h h
  | cut : (∀ t ∈ keep, ∃ v, look A t = some v ∧ v.lt m = true) → hltL m (h.take m) = true → HeadIs keep m A h (h.take m)
  | slot (t : Nat) (v : MV) : t ∈ keep → look A t = some v → v.lt m = false → HeadIs keep m A h h
  | cell : hltL m (h.take m) = false → HeadIs keep m A h h
theorem headM_is {keep : List Nat} {m : Nat} {s : List MV} {h1 : MHeap} (hs : SRel n A s) (hn : keep.all (fun t => Nat.blt t n) = true) (hh : HeadIs keep m A h h1) : headM keep m ⟨s, h⟩ = ⟨keepS keep 0 s, h1⟩ := by
  cases hh with
  | all hl => unfold headM; dsimp only; rw [if_pos hl]
  | cut h1 h2 => exact headM_take hs (.inr ⟨h1, h2⟩)
  | slot t v ht hv hl =>
    unfold headM
    dsimp only
    split
    · rfl
    · rw [if_neg]
      intro hc
      rw [Bool.and_eq_true] at hc
      have htn : t < n := by have := List.all_eq_true.1 hn t ht; simpa [Nat.blt_eq] using this
      have hl1 : t < s.length := by rw [hs.len]; exact htn
      have e1 := hs.get t v hv
      have h3 : (keepS keep 0 s)[t]? = some v := by
        rw [keepS_get', List.getElem?_eq_getElem hl1]
        rw [List.getD_eq_getElem?_getD, List.getElem?_eq_getElem hl1] at e1
        simp only [Option.getD_some] at e1
        simp [ht, e1]
      have := ltL_iff'.1 hc.1 v (List.mem_of_getElem? h3)
      rw [hl] at this
      cases this
  | cell h2 =>
    unfold headM
    dsimp only
    split
    · rfl
    · rw [if_neg]
      rw [h2]
      simp
theorem ef_rf {α : Type} {keep : List Nat} {f : MX} {ps : List Nat} {pa b : MC} {g k : Nat} {caps : List MV} {xs : List (List MV)} {ids : List Nat} (Inv : Nat → α → Prop) (B : Sl) (hp hq : α → MHeap) (a0 : α)
    (hf : XV A f (.fn g k caps)) (hI : I g k caps h = some xs) (hl : (xs.all fun x => x.length == ps.length) = true) (hids : caps.flatMap (MV.ids h 6) = ids) (hB : Hold A B) (hk : (B.map (·.1)).all (fun t => keep.contains t) = true) (hps : (ps.all fun p => Nat.blt p n) = true)
    (hkn : keep.all (fun t => Nat.blt t n) = true) (h0 : Inv 0 a0) (hH : hp a0 = h) (hh : ∀ i a, Inv i a → HeadIs keep h.length A (hp a) (hq a))
    (hb : ∀ i a x, xs[i]? = some x → Inv i a → Ef O I N n (fun id => lk id || ids.contains id) pa (putA B ps x) (hq a) (preQ O I N n (fun id => lk id || ids.contains id) b (rfQ A (fun h' => ∃ a', Inv (i + 1) a' ∧ h' = hp a') Q)))
    (hQ : ∀ a, Inv xs.length a → Q .normal A (hp a)) : Ef O I N n lk (.rf keep f ps pa b) A h Q := .mk fun s hs => by
  subst hids
  obtain ⟨F, hF⟩ : ∃ F : List MV → MHeap → Option (MX2 × MHeap), F = (fun x h' => match evC O I N pa (fun id => lk id || (caps.flatMap (MV.ids h 6)).contains id) ⟨putAll (headM keep h.length ⟨s, h'⟩).s ps x, (headM keep h.length ⟨s, h'⟩).h⟩ with
          | some (.normal, st2) => match evC O I N b (fun id => lk id || (caps.flatMap (MV.ids h 6)).contains id) st2 with
            | some (y, st3) => some (y, st3.h)
            | none => none
          | _ => none) := ⟨_, rfl⟩
  have key : ∀ (ys : List (List MV)) (i : Nat) (a : α), xs.drop i = ys → i ≤ xs.length → Inv i a → ∃ x h', overH F ys (hp a) = some (x, h') ∧ Q x A h' := by
    intro ys
    induction ys with
    | nil =>
      intro i a hd hi hI
      have : i = xs.length := by
        have := congrArg List.length hd
        simp at this
        omega
      subst this
      exact ⟨_, _, rfl, hQ a hI⟩
    | cons y ys ih =>
      intro i a hd hi hIa
      have hy : xs[i]? = some y := by
        have : (xs.drop i)[0]? = some y := by rw [hd]; rfl
        rw [List.getElem?_drop] at this
        simpa using this
      have hd' : xs.drop (i + 1) = ys := by
        rw [← List.tail_drop, hd]; rfl
      have hlt := (List.getElem?_eq_some_iff.1 hy).1
      have e1 := headM_is hs hkn (hh i a hIa)
      have hsB : SRel n B (keepS keep 0 s) := ⟨by rw [keepS_len', hs.len], fun t v ht => by
        have hmem : t ∈ keep := by
          have := look_mem ht
          simpa using List.all_eq_true.1 hk t this
        rw [keepS_getD hmem]
        exact hs.get t v (hB.sub t v ht)⟩
      obtain ⟨x1, s1, h1, j1, A1, j2, j3⟩ := (hb i a y hy hIa).run _ (hsB.putsA (vs := y) hps)
      cases j3 with
      | normal _ _ j3 =>
        obtain ⟨x2, s2, h2, m1, A2, m2, m3⟩ := j3.run s1 j2
        have e2 : F y (hp a) = some (x2, h2) := by
          rw [hF]
          dsimp only
          rw [e1]
          simp only [j1, m1]
        cases m3 with
        | normal _ _ m3 =>
          obtain ⟨a', n1, rfl⟩ := m3
          obtain ⟨x, h', o1, o2⟩ := ih (i + 1) a' hd' (by omega) n1
          exact ⟨x, h', by simp only [overH, e2]; exact o1, o2⟩
        | ret _ _ m3 => exact ⟨_, _, by simp only [overH, e2], m3⟩
        | exit id _ _ m3 => exact ⟨_, _, by simp only [overH, e2], m3⟩
  obtain ⟨x, h', k1, k2⟩ := key xs 0 a0 rfl (by omega) h0
  rw [hH] at k1
  refine ⟨x, s, h', ?_, A, hs, k2⟩
  simp only [evC, hs.x hf, hI, hl, if_true]
  rw [hF] at k1
  exact congrArg (Option.map fun r => (r.1, (⟨s, r.2⟩ : MSt))) k1
theorem ids_lt0 {h : MHeap} : ∀ (f : Nat) (v : MV), v.lt 0 = true → MV.ids h f v = []
  | 0, v, _ => rfl
  | f + 1, v, hv => by
    have key : ∀ cs : List MV, ltL 0 cs = true → cs.flatMap (MV.ids h f) = [] := fun cs hc => by
      rw [List.flatMap_eq_nil_iff]
      intro c hcm
      exact ids_lt0 f c (ltL_iff'.1 hc c hcm)
    cases v <;> simp only [MV.ids, MV.lt] at hv ⊢
    case agg cs => exact key cs hv
    case tup cs => exact key cs hv
    case sl cs => exact key cs hv
    case fn _ _ cs => exact key cs hv
    case rm cs => exact key cs hv
    case rp e _ => exact ids_lt0 f e hv
    all_goals simp at hv
theorem idsL_lt0 {h : MHeap} {f : Nat} {vs : List MV} (hv : ltL 0 vs = true) : vs.flatMap (MV.ids h f) = [] := by
  rw [List.flatMap_eq_nil_iff]
  intro c hcm
  exact ids_lt0 f c (ltL_iff'.1 hv c hcm)
end
end Go.Proofs.Ytgjpdjihjphbdaa

/- Further rules of evaluation with open values: cases on what is undecided, loops with slots that stay. -/
namespace Go.Proofs.Ytgjpdjihjphbdaa
open Go.RowKit
set_option linter.unusedVariables false
section
variable {O : Oracle} {I : Iter} {N n : Nat} {lk : Nat → Bool} {A : Sl} {h : MHeap} {Q : MX2 → Sl → MHeap → Prop} {t : Nat} {os : List GO}
theorem ef_loopf {α : Type} {keep : List Nat} {b : MC} (Inv : α → Prop) (hd : α → Sl) (fx : Sl) (hp : α → MHeap) (ms : α → Nat) (a0 : α) (ks : List Nat) (hks : ∀ a, (hd a).map (·.1) = ks) (hA : Hold A (hd a0)) (hF : Hold A fx) (hk : (ks ++ fx.map (·.1)).all (fun t => keep.contains t) = true) (hH : hp a0 = h) (h0 : Inv a0) (hN : ms a0 < N)
    (hb : ∀ a, Inv a → Ef O I N n lk b (hd a ++ fx) (hp a) (loopQ (fun A' h' => ∃ a', Inv a' ∧ ms a' < ms a ∧ (Hold A' (hd a') ∧ Hold A' fx) ∧ headH keep h.length A' h' ∧ h'.take h.length = hp a') Q)) : Ef O I N n lk (.loop keep b) A h Q := by
  have happ : ∀ (A : Sl) (X Y : Sl), Hold A X → Hold A Y → Hold A (X ++ Y) := fun A X Y h1 h2 p hp => by
    rcases List.mem_append.1 hp with hp | hp
    · exact h1 p hp
    · exact h2 p hp
  refine ef_loop Inv (fun a => hd a ++ fx) hp ms a0 (ks ++ fx.map (·.1)) (fun a => by rw [List.map_append, hks a]) hk h0 hN (happ _ _ _ hA hF) hH fun a ha => ?_
  refine (hb a ha).mono fun x A1 h1 hq => ?_
  cases hq with
  | normal _ _ hq =>
    obtain ⟨a', j1, j2, ⟨j3, j4⟩, j5, j6⟩ := hq
    exact .normal _ _ ⟨a', j1, j2, happ _ _ _ j3 j4, j5, j6⟩
  | ret _ _ hq => exact .ret _ _ hq
  | exit id _ _ hq => exact .exit id _ _ hq
theorem ef_loopg {α : Type} {keep : List Nat} {b : MC} (Inv : α → Prop) (hd : α → Sl) (fx : Sl) (hp : α → MHeap) (ms : α → Nat) (a0 : α) (ks : List Nat) (hks : ∀ a, (hd a).map (·.1) = ks) (hA : Hold A (hd a0)) (hF : Hold A fx) (hk : (ks ++ fx.map (·.1)).all (fun t => keep.contains t) = true) (hkn : keep.all (fun t => Nat.blt t n) = true) (hH : hp a0 = h) (h0 : Inv a0) (hN : ms a0 < N)
    (hb : ∀ a, Inv a → Ef O I N n lk b (hd a ++ fx) (hp a) (loopQ (fun A' h' => ∃ a', Inv a' ∧ ms a' < ms a ∧ (Hold A' (hd a') ∧ Hold A' fx) ∧ HeadIs keep h.length A' h' (hp a')) Q)) : Ef O I N n lk (.loop keep b) A h Q := .mk fun s hs => by
  have happ : ∀ (A : Sl) (X Y : Sl), Hold A X → Hold A Y → Hold A (X ++ Y) := fun A X Y h1 h2 p hp => by
    rcases List.mem_append.1 hp with hp | hp
    · exact h1 p hp
    · exact h2 p hp
  have key : ∀ (M : Nat) (a : α) (A1 : Sl) (s1 : List MV) (h1 : MHeap), Inv a → ms a < M → SRel n A1 s1 → Hold A1 (hd a ++ fx) → HeadIs keep h.length A1 h1 (hp a) →
      ∃ x s' h', rounds (fun st' => evC O I N b lk (headM keep h.length st')) M ⟨s1, h1⟩ = some (x, ⟨s', h'⟩) ∧ ∃ A', SRel n A' s' ∧ Q x A' h' := by
    intro M
    induction M with
    | zero => intro a A1 s1 h1 _ hM; omega
    | succ M ih =>
      intro a A1 s1 h1 hI hM hs1 hA1 hh1
      have e1 := headM_is hs1 hkn hh1
      have hS : SRel n (hd a ++ fx) (keepS keep 0 s1) := ⟨by rw [keepS_len', hs1.len], fun t v ht => by
        have hmem : t ∈ keep := by
          have := look_mem ht
          rw [List.map_append, hks] at this
          simpa using List.all_eq_true.1 hk t this
        rw [keepS_getD hmem]
        exact hs1.get t v (hA1.sub t v ht)⟩
      obtain ⟨x, s', h', k1, A', k2, k3⟩ := (hb a hI).run (keepS keep 0 s1) hS
      cases k3 with
      | normal _ _ k3 =>
        obtain ⟨a', j1, j2, ⟨j3, j4⟩, j5⟩ := k3
        obtain ⟨x, s2, h2, i1, i2⟩ := ih a' A' s' h' j1 (by omega) k2 (happ _ _ _ j3 j4) j5
        exact ⟨x, s2, h2, by simp only [rounds, e1, k1]; exact i1, i2⟩
      | exit id _ _ k3 => exact ⟨_, s', h', by simp only [rounds, e1, k1], A', k2, k3⟩
      | ret _ _ k3 => exact ⟨_, s', h', by simp only [rounds, e1, k1], A', k2, k3⟩
  obtain ⟨x, s', h', k1, k2⟩ := key N a0 A s h h0 hN hs (happ _ _ _ hA hF) (by rw [hH]; exact .all (Nat.le_refl _))
  exact ⟨x, s', h', by simp only [evC]; exact k1, k2⟩
end
section
variable {O : Oracle} {N n : Nat} {A : Sl} {h : MHeap} {ln : Nat} {xs : List (List MV)} {stop : Bool} {Q : QI}
end
theorem takeF {l r : MHeap} {n : Nat} (hl : n = l.length) (h : l = r) : l.take n = r := by subst hl h; exact List.take_length
theorem cmpd_geq {k : IntKind} {a b : Int} : binI .geq k a b = some (.bool (decide (b ≤ a))) := rfl
end Go.Proofs.Ytgjpdjihjphbdaa
namespace Go.Proofs.Ytgjpdjihjphbdaa
open Go.RowKit
end Go.Proofs.Ytgjpdjihjphbdaa

/- The plain law of strips: sweeps, infills, packings (no program). -/
namespace Go.Proofs.Ytgjpdjihjphbdaa
structure Stp where
  fr : Int
  up : Int
  gap : Int
  fl : List Int
  lo : List Int
def Asc (l : List Int) : Prop := l.Pairwise (· < ·)
end Go.Proofs.Ytgjpdjihjphbdaa

/- The plain law of strips: as many windows as lines (no program). -/
namespace Go.Proofs.Ytgjpdjihjphbdaa
end Go.Proofs.Ytgjpdjihjphbdaa

/- Contracts of the program: words of strips; windows. -/
namespace Go.Proofs.Ytgjpdjihjphbdaa
open Go.RowKit
theorem frz_lt {h : MHeap} {m : MV} (hl : m.lt 0 = true) : frz 0 [] h 8 m = some m := by simp [frz, hl]
theorem frzL_lt {h : MHeap} : ∀ {ms : List MV}, ltL 0 ms = true → ms.mapM (frz 0 [] h 8) = some ms
  | [], _ => rfl
  | m :: ms, hl => by
    simp only [ltL, Bool.and_eq_true] at hl
    rw [List.mapM_cons, frz_lt hl.1, frzL_lt hl.2]; rfl
theorem fin_frz {x : MX2} {A : Sl} {h : MHeap} {t : Nat} {v v' : MV} (hx : outX x = true) (hv : look A t = some v) (hi : impIds 0 [v] = []) (hn : ∀ id i k g, v ≠ .arr id i k g) (hf : frz 0 [] h 8 v = some v') : FinF [.tmp t] v' [] x A h := by
  refine ⟨hx, [v], [v'], ⟨v, [], rfl, hv, rfl⟩, by rw [hi]; simp, ?_, rfl⟩
  rw [hi]
  cases v with
  | arr id i k g => exact absurd rfl (hn id i k g)
  | _ => simp [expL, hf]
theorem itA_of {k g q : Nat} {caps : List MV} {h : MHeap} {mf : MF} {xs : List (List MV)} (hmf : MT.mf g = some mf) (hsq : MT.sq g = true) (hi : itM (orA k) 4000000 mf q caps h = some xs) (hg : tI g q caps h = none := by rfl) : itA k g q caps h = some xs := by
  unfold itA orI
  simp only [hg, hsq, hmf, hi, if_true]
inductive SlI : MV → List Int → Prop
  | sl (l : List Int) : SlI (.sl (l.map I64)) l
  | nil : SlI (.lit (.slice none 0 0)) []
theorem SlI.lt {v : MV} {l : List Int} (h : SlI v l) : v.lt 0 = true := by
  cases h with
  | sl l => simp [MV.lt, ltL_I]
  | nil => rfl
theorem SlI.frz {v : MV} {l : List Int} (h : SlI v l) (H : MHeap) : Go.Proofs.Ytgjpdjihjphbdaa.frz 0 [] H 8 v = some v := frz_lt h.lt
theorem SlI.slen {v : MV} {l : List Int} (h : SlI v l) : v.slen = some l.length := by
  cases h with
  | sl l => simp [MV.slen]
  | nil => rfl
theorem SlI.pos {v : MV} {l : List Int} (h : SlI v l) (hp : 0 < l.length) : v = .sl (l.map I64) := by
  cases h with
  | sl l => rfl
  | nil => simp at hp
theorem SlI.cell {v : MV} {l : List Int} (h : SlI v l) : rdCells v.cells 0 none = some v := by cases h <;> rfl
theorem mf_Has : MT.mf 71 = some ⟨18, [(.tmp 4)], (.seq (.reg [⟨none, some 4, .mv (.c (.lit (.bool false)))⟩]) (.seq (.seq (.reg [⟨none, some 5, .mv (.c (.lit (.int .i64 0)))⟩]) (.block 0 (.loop [5, 0, 1] (.seq (.seq (.reg [⟨none, some 6, .mv (.s 5)⟩, ⟨none, some 7, .mv (.s 0)⟩, ⟨none, some 8, .len (.s 7)⟩, ⟨none, some 9, .bin .lss (.s 6) (.s 8)⟩]) (.cond (.s 9) .skip (.exit 0))) (.seq (.block 1 (.seq (.reg [⟨none, some 12, .mv (.s 0)⟩, ⟨none, some 13, .mv (.s 5)⟩, ⟨none, some 14, .ia 1 (.s 12) (.s 13)⟩, ⟨none, some 15, .ld none (.s 14)⟩, ⟨none, some 16, .mv (.s 1)⟩, ⟨none, some 17, .bin .eql (.s 15) (.s 16)⟩]) (.cond (.s 17) (.seq (.reg [⟨none, some 4, .mv (.c (.lit (.bool true)))⟩]) .ret) .skip))) (.reg [⟨none, some 10, .mv (.s 5)⟩, ⟨none, some 11, .bin .add (.s 10) (.c (.lit (.int .i64 1)))⟩, ⟨none, some 5, .mv (.s 11)⟩])))))) (.seq (.reg [⟨none, some 4, .mv (.c (.lit (.bool false)))⟩]) .ret)))⟩ := by kernel_rfl
theorem bHas_z (k : Nat) (xs : List Int) (n : Int) (hx : xs.length ≤ 100000) : runZ MT (orA k) (itA k) 4000000 71 [.sl (xs.map I64), I64 n] [] = some (Bo (xs.contains n), []) := by
  have hl : (MV.sl (xs.map I64)).slen = some xs.length := by simp [MV.slen]
  refine runZ_of mf_Has (by simp) ?_
  simp only [argsL]
  repeat (first | apply ef_seq | (apply ef_mv; exact rfl; exact rfl) | apply ef_nil | apply seqQ.normal | apply ef_block)
  refine ef_loopf (α := Nat) (fun i => i ≤ xs.length ∧ xs.contains n = (xs.drop i).contains n) (fun i => [(5, I64 (i : Int))]) [(0, _), (1, _)] (fun _ => []) (fun i => xs.length - i) 0 [5] (fun _ => rfl) (by ((repeat (refine Hold.cons (by exact rfl) ?_)); exact Hold.nil)) (by ((repeat (refine Hold.cons (by exact rfl) ?_)); exact Hold.nil)) rfl rfl ⟨by omega, rfl⟩ (by simp; omega) ?_
  rintro i ⟨hi, hz⟩
  by_cases hlt : i < xs.length
  · have e1 := at_map I64 xs i hlt
    have HD := Lib.hid (drop_at xs i hlt)
    have HZ := Lib.hid hz
    clear hz
    generalize xs[i] = x at e1 HD
    by_cases hxn : x = n
    · subst hxn
      repeat (first | apply ef_seq | (apply ef_mv; exact rfl; exact rfl) | (apply ef_bin; exact rfl; exact rfl; exact rfl; (exact cmp_t rfl (by first | exact rfl | (simp only [cmpP]; omega)))) | (apply ef_len; exact rfl; exact rfl; (assumption)) | (apply ef_ldr; exact rfl; exact rfl; (exact rfl)) | (apply ef_ias; exact rfl; exact rfl; exact rfl; (omega); assumption; exact rfl) | apply ef_nil | apply seqQ.normal | apply loopQ.ret | apply ef_ret | apply seqQ.ret | apply blockQ.ret | apply ef_block | apply ef_skip | (apply ef_condt; exact rfl; (exact (rfl : true = true))))
      (refine fin1 rfl (by exact rfl) rfl ?_)
      rw [HZ.out, HD.out]; simp
    · repeat (first | apply ef_seq | (apply ef_mv; exact rfl; exact rfl) | (apply ef_bin; exact rfl; exact rfl; exact rfl; (first | exact cmp_t rfl (by first | exact rfl | (simp only [cmpP]; omega)) | exact cmp_f rfl (by simp only [cmpP]; omega) | ((with_reducible refine bin_add (wrap_of ?_ ?_)) <;> omega))) | (apply ef_len; exact rfl; exact rfl; (assumption)) | (apply ef_ldr; exact rfl; exact rfl; (exact rfl)) | (apply ef_ias; exact rfl; exact rfl; exact rfl; (omega); assumption; exact rfl) | apply ef_nil | apply seqQ.normal | apply blockQ.normal | apply ef_block | apply ef_skip | (apply ef_condt; exact rfl; (exact (rfl : true = true))) | (apply ef_condf; exact rfl; (exact (rfl : false = false))))
      (refine loopQ.normal _ _ ⟨i + 1, ⟨hlt, by rw [HZ.out, HD.out]; simp [Ne.symm hxn]⟩, (by first | (simp only; omega) | omega), ⟨by ((repeat (refine Hold.cons (by exact rfl) ?_)); exact Hold.nil), by ((repeat (refine Hold.cons (by exact rfl) ?_)); exact Hold.nil)⟩, .inl (Nat.le_refl _), (by first | exact List.take_length | exact rfl | exact takeF rfl rfl)⟩)
  · repeat (first | apply ef_seq | (apply ef_mv; exact rfl; exact rfl) | (apply ef_bin; exact rfl; exact rfl; exact rfl; (exact cmp_f rfl (by simp only [cmpP]; omega))) | (apply ef_len; exact rfl; exact rfl; (assumption)) | apply ef_nil | apply seqQ.normal | apply loopQ.exit | apply ef_ret | apply ef_exit | apply seqQ.exit | apply blockQ.here | (apply ef_condf; exact rfl; (exact (rfl : false = false))))
    (refine fin1 rfl (by exact rfl) rfl ?_)
    rw [hz, List.drop_eq_nil_of_le (by omega)]; rfl
theorem bHas_c (k : Nat) (xs : List Int) (n : Int) (h : MHeap) {v : MV} {t : Bool} (hx : xs.length ≤ 100000) (hv : frz 0 [] h 8 v = some (.sl (xs.map I64))) (ht : xs.contains n = t) : orA (k + 1) 71 [v, I64 n] h = some (Bo t, h) :=
  callL (args' := [.sl (xs.map I64), I64 n]) (by simp [List.mapM_cons, hv]; simp [frz, MV.lt]) rfl (by rw [← ht]; exact bHas_z k xs n hx)
def fII (P : Int → Bool) : List Int → Nat → Int
  | [], _ => -1
  | z :: zs, i => if P z then i else fII P zs (i + 1)
theorem fII_spec (P : Int → Bool) : ∀ (zs : List Int) (s : Nat), (fII P zs s = -1 ∧ ∀ z ∈ zs, P z = false) ∨ ∃ (i : Nat) (h : i < zs.length), fII P zs s = ((s + i : Nat) : Int) ∧ P zs[i] = true
  | [], s => .inl ⟨rfl, fun z h => by cases h⟩
  | z :: zs, s => by
    by_cases hz : P z = true
    · exact .inr ⟨0, by simp, by simp [fII, hz], hz⟩
    · rcases fII_spec P zs (s + 1) with ⟨h1, h2⟩ | ⟨i, hi, h1, h2⟩
      · refine .inl ⟨by simp [fII, hz, h1], fun w hw => ?_⟩
        rcases List.mem_cons.1 hw with rfl | hw
        · simpa using hz
        · exact h2 w hw
      · refine .inr ⟨i + 1, by simpa using hi, ?_, by simpa using h2⟩
        simp only [fII, hz]
        rw [if_neg (by simp), h1]
        congr 1; omega
theorem fII_any (P : Int → Bool) (zs : List Int) : decide (0 ≤ fII P zs 0) = zs.any P := by
  rcases fII_spec P zs 0 with ⟨h1, h2⟩ | ⟨i, hi, h1, h2⟩
  · rw [h1]
    have : zs.any P = false := by rw [List.any_eq_false]; intro z hz; simp [h2 z hz]
    rw [this]; rfl
  · rw [h1]
    have : zs.any P = true := List.any_eq_true.2 ⟨zs[i], List.getElem_mem _, h2⟩
    rw [this]; simp
theorem mf_IndexFuncI : MT.mf 153 = some ⟨19, [(.tmp 4)], (.seq (.reg [⟨none, some 4, .mv (.c (.lit (.int .i64 0)))⟩]) (.seq (.seq (.reg [⟨none, some 6, .mv (.s 0)⟩, ⟨none, some 7, .len (.s 6)⟩, ⟨none, some 8, .mv (.c (.lit (.int .i64 0)))⟩]) (.block 0 (.loop [8, 7, 1, 0] (.seq (.reg [⟨none, some 9, .bin .lss (.s 8) (.s 7)⟩]) (.seq (.cond (.s 9) .skip (.exit 0)) (.seq (.block 1 (.seq (.reg [⟨none, some 10, .mv (.s 8)⟩, ⟨none, some 5, .mv (.s 10)⟩]) (.seq (.reg [⟨none, some 11, .mv (.s 1)⟩, ⟨none, some 12, .mv (.s 0)⟩, ⟨none, some 13, .mv (.s 5)⟩, ⟨none, some 14, .ia 1 (.s 12) (.s 13)⟩, ⟨none, some 15, .ld none (.s 14)⟩, ⟨none, some 16, .callv (.s 11) [.s 15]⟩]) (.cond (.s 16) (.seq (.reg [⟨none, some 17, .mv (.s 5)⟩, ⟨none, some 4, .mv (.s 17)⟩]) .ret) .skip)))) (.reg [⟨none, some 18, .bin .add (.s 8) (.c (.lit (.int .i64 1)))⟩, ⟨none, some 8, .mv (.s 18)⟩]))))))) (.seq (.reg [⟨none, some 4, .mv (.c (.lit (.int .i64 (-1))))⟩]) .ret)))⟩ := by kernel_rfl
theorem IndexFuncI_c (k g : Nat) (caps : List MV) (P : Int → Bool) (xs : List Int) (h : MHeap) {v w fv : MV} (hx : xs.length ≤ 100000) (hg : ∀ z h, orA k g (I64 z :: caps) h = some (Bo (P z), h)) (hv : frz 0 [] h 8 v = some w) (hw : SlI w xs) (hf : frz 0 [] h 8 fv = some (.fn g 0 caps)) :
    orA (k + 1) 153 [v, fv] h = some (I64 (fII P xs 0), h) := by
  have hl := hw.slen
  refine callL (args' := [w, .fn g 0 caps]) (by simp [List.mapM_cons, hv, hf]) rfl (runZ_of mf_IndexFuncI (by simp) ?_)
  simp only [argsL]
  repeat (first | apply ef_seq | (apply ef_mv; exact rfl; exact rfl) | (apply ef_len; exact rfl; exact rfl; (assumption)) | apply ef_nil | apply seqQ.normal | apply ef_block)
  refine ef_loopf (α := Nat) (fun i => i ≤ xs.length ∧ fII P xs 0 = fII P (xs.drop i) i) (fun i => [(8, I64 (i : Int))]) [(7, _), (1, _), (0, _)] (fun _ => []) (fun i => xs.length - i) 0 [8] (fun _ => rfl) (by ((repeat (refine Hold.cons (by exact rfl) ?_)); exact Hold.nil)) (by ((repeat (refine Hold.cons (by exact rfl) ?_)); exact Hold.nil)) rfl rfl ⟨by omega, rfl⟩ (by simp; omega) ?_
  rintro i ⟨hi, hz⟩
  by_cases hlt : i < xs.length
  · obtain rfl := hw.pos (by omega)
    have e1 := at_map I64 xs i hlt
    have HD := Lib.hid (drop_at xs i hlt)
    have HZ := Lib.hid hz
    have hg1 := hg xs[i]
    clear hz
    obtain ⟨t, ht⟩ : ∃ t, P xs[i] = t := ⟨_, rfl⟩
    have HT := Lib.hid ht
    rw [ht] at hg1
    clear ht
    generalize xs[i] = x at e1 HD hg1 HT
    cases t
    · repeat (first | apply ef_seq | (apply ef_mv; exact rfl; exact rfl) | (apply ef_bin; exact rfl; exact rfl; exact rfl; (exact cmp_t rfl (by first | exact rfl | (simp only [cmpP]; omega)))) | (apply ef_ldr; exact rfl; exact rfl; (exact rfl)) | (apply ef_ias; exact rfl; exact rfl; exact rfl; (omega); assumption; exact rfl) | apply ef_nil | apply seqQ.normal | apply ef_block | apply ef_skip | (apply ef_condt; exact rfl; (exact (rfl : true = true))))
      (apply ef_callv; (· exact rfl); (· exact rfl); (· ((repeat (apply XVs.cons; exact rfl)); exact XVs.nil)); (· exact rfl); (· exact hg1 _))
      repeat (first | (apply ef_mv; exact rfl; exact rfl) | (apply ef_bin; exact rfl; exact rfl; exact rfl; (((with_reducible refine bin_add (wrap_of ?_ ?_)) <;> omega))) | apply ef_nil | apply seqQ.normal | apply blockQ.normal | apply ef_skip | (apply ef_condf; exact rfl; (exact (rfl : false = false))))
      (refine loopQ.normal _ _ ⟨i + 1, ⟨hlt, by rw [HZ.out, HD.out]; simp [fII, HT.out]⟩, (by first | (simp only; omega) | omega), ⟨by ((repeat (refine Hold.cons (by exact rfl) ?_)); exact Hold.nil), by ((repeat (refine Hold.cons (by exact rfl) ?_)); exact Hold.nil)⟩, .inl (Nat.le_refl _), (by first | exact List.take_length | exact rfl | exact takeF rfl rfl)⟩)
    · repeat (first | apply ef_seq | (apply ef_mv; exact rfl; exact rfl) | (apply ef_bin; exact rfl; exact rfl; exact rfl; (exact cmp_t rfl (by first | exact rfl | (simp only [cmpP]; omega)))) | (apply ef_ldr; exact rfl; exact rfl; (exact rfl)) | (apply ef_ias; exact rfl; exact rfl; exact rfl; (omega); assumption; exact rfl) | apply ef_nil | apply seqQ.normal | apply ef_block | apply ef_skip | (apply ef_condt; exact rfl; (exact (rfl : true = true))))
      (apply ef_callv; (· exact rfl); (· exact rfl); (· ((repeat (apply XVs.cons; exact rfl)); exact XVs.nil)); (· exact rfl); (· exact hg1 _))
      repeat (first | apply ef_seq | (apply ef_mv; exact rfl; exact rfl) | apply ef_nil | apply seqQ.normal | apply loopQ.ret | apply ef_ret | apply seqQ.ret | apply blockQ.ret | (apply ef_condt; exact rfl; (exact (rfl : true = true))))
      (refine fin1 rfl (by exact rfl) rfl ?_)
      rw [HZ.out, HD.out]; simp [fII, HT.out]
  · repeat (first | apply ef_seq | (apply ef_mv; exact rfl; exact rfl) | (apply ef_bin; exact rfl; exact rfl; exact rfl; (exact cmp_f rfl (by simp only [cmpP]; omega))) | apply ef_nil | apply seqQ.normal | apply loopQ.exit | apply ef_ret | apply ef_exit | apply seqQ.exit | apply blockQ.here | (apply ef_condf; exact rfl; (exact (rfl : false = false))))
    (refine fin1 rfl (by exact rfl) rfl ?_)
    rw [hz, List.drop_eq_nil_of_le (by omega)]; rfl
theorem mf_ContainsFuncI : MT.mf 110 = some ⟨9, [(.tmp 4)], (.seq (.reg [⟨none, some 4, .mv (.c (.lit (.bool false)))⟩]) (.seq (.reg [⟨none, some 5, .mv (.s 0)⟩, ⟨none, some 6, .mv (.s 1)⟩, ⟨none, some 7, .call 153 [.s 5, .s 6]⟩, ⟨none, some 8, .bin .geq (.s 7) (.c (.lit (.int .i64 0)))⟩, ⟨none, some 4, .mv (.s 8)⟩]) .ret))⟩ := by kernel_rfl
theorem ContainsFuncI_c (k g : Nat) (caps : List MV) (P : Int → Bool) (xs : List Int) (h : MHeap) {v w fv : MV} {t : Bool} (hx : xs.length ≤ 100000) (hg : ∀ z h, orA k g (I64 z :: caps) h = some (Bo (P z), h)) (hl : ltL 0 caps = true) (hv : frz 0 [] h 8 v = some w) (hw : SlI w xs) (hf : frz 0 [] h 8 fv = some (.fn g 0 caps))
    (ht : xs.any P = t) : orA (k + 2) 110 [v, fv] h = some (Bo t, h) := by
  refine callL (args' := [w, .fn g 0 caps]) (by simp [List.mapM_cons, hv, hf]) rfl (runZ_of mf_ContainsFuncI (by simp) ?_)
  simp only [argsL]
  have hi := fun h => IndexFuncI_c k g caps P xs h (v := w) (fv := .fn g 0 caps) hx hg (hw.frz h) hw (frz_lt (by simp [MV.lt, hl]))
  repeat (first | apply ef_seq | (apply ef_mv; exact rfl; exact rfl) | (apply ef_bin; exact rfl; exact rfl; exact rfl; (exact cmpd_geq)) | apply ef_nil | apply seqQ.normal | apply ef_ret | (apply ef_call; exact rfl; ((repeat (apply XVs.cons; exact rfl)); exact XVs.nil); (with_reducible exact hi _)))
  (refine fin1 rfl (by exact rfl) rfl ?_)
  rw [← ht, ← fII_any]
end Go.Proofs.Ytgjpdjihjphbdaa

/- Contracts: which strips are valid. -/
namespace Go.Proofs.Ytgjpdjihjphbdaa
open Go.RowKit
def lineE (a b : Int) (others : List Int) (last n : Int) : Int := firstE [unl (inB n (a + 1) (b - 1)) 2, unl (decide (last < n)) 9, unl (!others.contains n) 13]
def posnE (a b : Int) (others : List Int) : Int → Nat → List Int → Int × Int
  | _, _, [] => (0, 0)
  | last, i, n :: ns => if lineE a b others last n = 0 then posnE a b others n (i + 1) ns else (i, lineE a b others last n)
def rangeE (a b c : Int) (fl lo : List Int) : Int := firstE [unl (inB a 0 1000 && inB b 0 1000 && inB c 1 1000) 2, unl (decide (a ≤ b)) 9, unl (decide ((fl.length : Int) ≤ 40) && decide ((lo.length : Int) ≤ 40)) 8]
def stripE (a b c : Int) (fl lo : List Int) : Int × Int :=
  if rangeE a b c fl lo = 0 then (if (posnE a b [] a 0 fl).2 = 0 then posnE a b fl a 0 lo else posnE a b [] a 0 fl) else (0, rangeE a b c fl lo)
theorem firstE_cons (x : Int) (xs : List Int) : firstE (x :: xs) = if x = 0 then firstE xs else x := by
  by_cases h : x = 0 <;> simp [firstE, h]
theorem unl_eq {b : Bool} {n : Int} (hn : n ≠ 0) : unl b n = 0 ↔ b = true := by
  cases b
  · simp [unl, hn]
  · simp [unl]
theorem firstE_zero {x : Int} {xs : List Int} : firstE (x :: xs) = 0 ↔ x = 0 ∧ firstE xs = 0 := by
  rw [firstE_cons]
  by_cases h : x = 0
  · simp [h]
  · simp [h]
structure OkS (a b c : Int) (fl lo : List Int) : Prop where
  ha : 0 ≤ a ∧ a ≤ 1000
  hb : 0 ≤ b ∧ b ≤ 1000
  hc : 1 ≤ c ∧ c ≤ 1000
  hab : a ≤ b
  hf : fl.length ≤ 40
  hl : lo.length ≤ 40
  f1 : ∀ n ∈ fl, a + 1 ≤ n ∧ n ≤ b - 1
  f2 : Asc fl
  l1 : ∀ n ∈ lo, (a + 1 ≤ n ∧ n ≤ b - 1) ∧ n ∉ fl
  l2 : Asc lo
  all : stripE a b c fl lo = (0, 0)
end Go.Proofs.Ytgjpdjihjphbdaa

/- Contracts of the program: fixes and rules. -/
namespace Go.Proofs.Ytgjpdjihjphbdaa
open Go.RowKit
structure Fx where
  o : Int
  h : Int
  n : Int
def encX : Fx → MV
  | ⟨a, b, c⟩ => .agg [I64 a, I64 b, I64 c]
theorem ltL_X (n : Nat) (fs : List Fx) : ltL n (fs.map encX) = true := ltL_lits (fun ⟨_, _, _⟩ => rfl) fs
structure Ru where
  drift : Int
  over : Int
  low : Int
  high : Int
  noise : Int
theorem mf_isHeight : MT.mf 94 = some ⟨5, [(.tmp 2)], (.seq (.reg [⟨none, some 2, .mv (.c (.lit (.bool false)))⟩]) (.seq (.reg [⟨none, some 3, .mv (.s 0)⟩, ⟨none, some 4, .call 129 [.s 3, (.c (.lit (.int .i64 0))), (.c (.lit (.int .i64 10000)))]⟩, ⟨none, some 2, .mv (.s 4)⟩]) .ret))⟩ := by kernel_rfl
theorem isHeight_c (k : Nat) (a : Int) (h : MHeap) {t : Bool} (ht : inB a 0 10000 = t) : orA (k + 2) 94 [I64 a] h = some (Bo t, h) := by
  refine callL (frz_lits [.int .i64 a]) rfl (runZ_of mf_isHeight (by simp) ?_)
  simp only [argsL, List.map_cons, List.map_nil]
  repeat (first | apply ef_seq | (apply ef_mv; exact rfl; exact rfl) | apply ef_nil | apply seqQ.normal | apply ef_ret | (apply ef_call; exact rfl; ((repeat (apply XVs.cons; exact rfl)); exact XVs.nil); (with_reducible exact within_c _ _ _ _ _ rfl)))
  (refine fin1 rfl (by exact rfl) rfl ?_)
  rw [ht]
theorem mf_isSized : MT.mf 146 = some ⟨10, [(.tmp 4)], (.seq (.reg [⟨none, some 4, .mv (.c (.lit (.bool false)))⟩]) (.seq (.reg [⟨none, some 5, .mv (.s 0)⟩, ⟨none, some 6, .mv (.s 1)⟩, ⟨none, some 7, .un .neg (.s 6)⟩, ⟨none, some 8, .mv (.s 1)⟩, ⟨none, some 9, .call 129 [.s 5, .s 7, .s 8]⟩, ⟨none, some 4, .mv (.s 9)⟩]) .ret))⟩ := by kernel_rfl
theorem isSized_c (k : Nat) (a m : Int) (h : MHeap) {t : Bool} (h0 : 0 ≤ m) (h1 : m ≤ 10000) (ht : inB a (0 - m) m = t) : orA (k + 2) 146 [I64 a, I64 m] h = some (Bo t, h) := by
  refine callL (frz_lits [.int .i64 a, .int .i64 m]) rfl (runZ_of mf_isSized (by simp) ?_)
  simp only [argsL, List.map_cons, List.map_nil]
  repeat (first | apply ef_seq | (apply ef_mv; exact rfl; exact rfl) | (apply ef_neg; exact rfl; exact rfl; exact wrap_of (by omega) (by omega)) | apply ef_nil | apply seqQ.normal | apply ef_ret | (apply ef_call; exact rfl; ((repeat (apply XVs.cons; exact rfl)); exact XVs.nil); (with_reducible exact within_c _ _ _ _ _ rfl)))
  (refine fin1 rfl (by exact rfl) rfl ?_)
  rw [ht]
def strangeX (f : Fx) : Bool := !(inB f.o (0 - 10000) 10000) || !(inB f.h 0 10000) || !(inB f.n 0 10000)
theorem mf_fixesErr1 : MT.mf 164 = some ⟨19, [(.tmp 2)], (.seq (.reg [⟨none, some 1, .box 3 (.s 0)⟩, ⟨none, some 2, .mv (.c (.lit (.bool false)))⟩]) (.seq (.reg [⟨none, some 3, .fa 0 (.s 1)⟩, ⟨none, some 4, .ld none (.s 3)⟩, ⟨none, some 5, .call 146 [.s 4, (.c (.lit (.int .i64 10000)))]⟩, ⟨none, some 6, .un .not (.s 5)⟩, ⟨none, some 7, .mv (.s 6)⟩, ⟨some (7, false), some 8, .fa 1 (.s 1)⟩, ⟨some (7, false), some 9, .ld none (.s 8)⟩, ⟨some (7, false), some 10, .call 94 [.s 9]⟩, ⟨some (7, false), some 11, .un .not (.s 10)⟩, ⟨none, some 12, .pick (.s 7) (.c (.lit (.bool true))) (.s 11)⟩, ⟨none, some 13, .mv (.s 12)⟩, ⟨some (13, false), some 14, .fa 2 (.s 1)⟩, ⟨some (13, false), some 15, .ld none (.s 14)⟩, ⟨some (13, false), some 16, .call 94 [.s 15]⟩, ⟨some (13, false), some 17, .un .not (.s 16)⟩, ⟨none, some 18, .pick (.s 13) (.c (.lit (.bool true))) (.s 17)⟩, ⟨none, some 2, .mv (.s 18)⟩]) .ret))⟩ := by kernel_rfl
theorem fixesErr1_c (k : Nat) (f : Fx) (h : MHeap) : orA (k + 3) 164 (encX f :: []) h = some (Bo (strangeX f), h) := by
  obtain ⟨a, b, c⟩ := f
  refine callL (args' := [.agg [I64 a, I64 b, I64 c]]) (by simp [List.mapM_cons, frz, MV.lt, ltL, encX]) rfl (runZ_of mf_fixesErr1 (by simp) ?_)
  simp only [argsL]
  have hs : ∀ t, inB a (0 - 10000) 10000 = t → ∀ h, orA (k + 2) 146 [I64 a, I64 10000] h = some (Bo t, h) := fun t ht h => isSized_c k a 10000 h (by omega) (by omega) ht
  cases h1 : inB a (0 - 10000) 10000
  · have hs := hs _ h1
    repeat (first | apply ef_seq | (apply ef_mv; exact rfl; exact rfl) | (apply ef_gn; exact rfl; (exact (rfl : true = true)); exact rfl) | (apply ef_pick; exact rfl; exact rfl; exact rfl) | (apply ef_ldp; exact rfl; exact rfl; exact rfl; exact rfl; (exact rfl); (exact rfl)) | (apply ef_fap; exact rfl; exact rfl) | (apply ef_notF; exact rfl; exact rfl) | (apply ef_box; exact rfl; exact rfl; exact rfl; exact rfl) | apply ef_nil | apply seqQ.normal | apply ef_ret | (apply ef_call; exact rfl; ((repeat (apply XVs.cons; exact rfl)); exact XVs.nil); (with_reducible exact hs _)))
    (refine fin1 rfl (by exact rfl) rfl ?_)
    simp only [strangeX, h1, Bool.not_false, Bool.true_or]
  · have hs := hs _ h1
    cases h2 : inB b 0 10000
    · repeat (first | apply ef_seq | (apply ef_mv; exact rfl; exact rfl) | (apply ef_gy; exact rfl; (exact (rfl : false = false))) | (apply ef_gn; exact rfl; (exact (rfl : true = true)); exact rfl) | (apply ef_pick; exact rfl; exact rfl; exact rfl) | (apply ef_ldp; exact rfl; exact rfl; exact rfl; exact rfl; (exact rfl); (exact rfl)) | (apply ef_fap; exact rfl; exact rfl) | (apply ef_notT; exact rfl; exact rfl) | (apply ef_notF; exact rfl; exact rfl) | (apply ef_box; exact rfl; exact rfl; exact rfl; exact rfl) | apply ef_nil | apply seqQ.normal | apply ef_ret | (apply ef_call; exact rfl; ((repeat (apply XVs.cons; exact rfl)); exact XVs.nil); (with_reducible first | exact hs _ | exact isHeight_c _ _ _ (by assumption))))
      (refine fin1 rfl (by exact rfl) rfl ?_)
      simp only [strangeX, h1, h2, Bool.not_false, Bool.not_true, Bool.true_or, Bool.or_true, Bool.false_or]
    · cases h3 : inB c 0 10000
      all_goals repeat (first | apply ef_seq | (apply ef_mv; exact rfl; exact rfl) | (apply ef_gy; exact rfl; (exact (rfl : false = false))) | (apply ef_pick; exact rfl; exact rfl; exact rfl) | (apply ef_ldp; exact rfl; exact rfl; exact rfl; exact rfl; (exact rfl); (exact rfl)) | (apply ef_fap; exact rfl; exact rfl) | (apply ef_notT; exact rfl; exact rfl) | (apply ef_notF; exact rfl; exact rfl) | (apply ef_box; exact rfl; exact rfl; exact rfl; exact rfl) | apply ef_nil | apply seqQ.normal | apply ef_ret | (apply ef_call; exact rfl; ((repeat (apply XVs.cons; exact rfl)); exact XVs.nil); (with_reducible first | exact hs _ | exact isHeight_c _ _ _ (by assumption))))
      all_goals (refine fin1 rfl (by exact rfl) rfl ?_)
      all_goals simp only [strangeX, h1, h2, h3, Bool.not_false, Bool.not_true, Bool.true_or, Bool.or_true, Bool.false_or]
def fIy (P : Fx → Bool) : List Fx → Nat → Int
  | [], _ => -1
  | z :: zs, i => if P z then i else fIy P zs (i + 1)
theorem fIy_spec (P : Fx → Bool) : ∀ (zs : List Fx) (s : Nat), (fIy P zs s = -1 ∧ ∀ z ∈ zs, P z = false) ∨ ∃ (i : Nat) (h : i < zs.length), fIy P zs s = ((s + i : Nat) : Int) ∧ P zs[i] = true
  | [], s => .inl ⟨rfl, fun z h => by cases h⟩
  | z :: zs, s => by
    by_cases hz : P z = true
    · exact .inr ⟨0, by simp, by simp [fIy, hz], hz⟩
    · rcases fIy_spec P zs (s + 1) with ⟨h1, h2⟩ | ⟨i, hi, h1, h2⟩
      · refine .inl ⟨by simp [fIy, hz, h1], fun w hw => ?_⟩
        rcases List.mem_cons.1 hw with rfl | hw
        · simpa using hz
        · exact h2 w hw
      · refine .inr ⟨i + 1, by simpa using hi, ?_, by simpa using h2⟩
        simp only [fIy, hz]
        rw [if_neg (by simp), h1]
        congr 1; omega
theorem mf_IndexFuncX : MT.mf 170 = some ⟨19, [(.tmp 4)], (.seq (.reg [⟨none, some 4, .mv (.c (.lit (.int .i64 0)))⟩]) (.seq (.seq (.reg [⟨none, some 6, .mv (.s 0)⟩, ⟨none, some 7, .len (.s 6)⟩, ⟨none, some 8, .mv (.c (.lit (.int .i64 0)))⟩]) (.block 0 (.loop [8, 7, 1, 0] (.seq (.reg [⟨none, some 9, .bin .lss (.s 8) (.s 7)⟩]) (.seq (.cond (.s 9) .skip (.exit 0)) (.seq (.block 1 (.seq (.reg [⟨none, some 10, .mv (.s 8)⟩, ⟨none, some 5, .mv (.s 10)⟩]) (.seq (.reg [⟨none, some 11, .mv (.s 1)⟩, ⟨none, some 12, .mv (.s 0)⟩, ⟨none, some 13, .mv (.s 5)⟩, ⟨none, some 14, .ia 3 (.s 12) (.s 13)⟩, ⟨none, some 15, .ld (some 3) (.s 14)⟩, ⟨none, some 16, .callv (.s 11) [.s 15]⟩]) (.cond (.s 16) (.seq (.reg [⟨none, some 17, .mv (.s 5)⟩, ⟨none, some 4, .mv (.s 17)⟩]) .ret) .skip)))) (.reg [⟨none, some 18, .bin .add (.s 8) (.c (.lit (.int .i64 1)))⟩, ⟨none, some 8, .mv (.s 18)⟩]))))))) (.seq (.reg [⟨none, some 4, .mv (.c (.lit (.int .i64 (-1))))⟩]) .ret)))⟩ := by kernel_rfl
theorem IndexFuncX_z (k g : Nat) (caps : List MV) (P : Fx → Bool) (zs : List Fx) (hx : zs.length ≤ 1000) (hg : ∀ z h, orA k g (encX z :: caps) h = some (Bo (P z), h)) :
    runZ MT (orA k) (itA k) 4000000 170 [.sl (zs.map encX), .fn g 0 caps] [] = some (I64 (fIy P zs 0), []) := by
  have hl : (MV.sl (zs.map encX)).slen = some zs.length := by simp [MV.slen]
  refine runZ_of mf_IndexFuncX (by simp) ?_
  simp only [argsL]
  repeat (first | apply ef_seq | (apply ef_mv; exact rfl; exact rfl) | (apply ef_len; exact rfl; exact rfl; (assumption)) | apply ef_nil | apply seqQ.normal | apply ef_block)
  refine ef_loop (α := Nat) (fun i => i ≤ zs.length ∧ fIy P zs 0 = fIy P (zs.drop i) i) (fun i => [(8, I64 (i : Int)), (7, I64 (zs.length : Int)), (1, .fn g 0 caps), (0, .sl (zs.map encX))]) (fun _ => []) (fun i => zs.length - i) 0 [8, 7, 1, 0] (fun _ => rfl) rfl ⟨by omega, rfl⟩ (by simp; omega) (by ((repeat (refine Hold.cons (by exact rfl) ?_)); exact Hold.nil)) rfl ?_
  rintro i ⟨hi, hz⟩
  by_cases hlt : i < zs.length
  · have e1 := at_map encX zs i hlt
    have HD := Lib.hid (drop_at zs i hlt)
    have HZ := Lib.hid hz
    have hg1 := hg zs[i]
    clear hz
    obtain ⟨t, ht⟩ : ∃ t, P zs[i] = t := ⟨_, rfl⟩
    have HT := Lib.hid ht
    rw [ht] at hg1
    clear ht
    generalize zs[i] = z at e1 HD hg1 HT
    obtain ⟨a, b, c⟩ := z
    cases t
    · repeat (first | apply ef_seq | (apply ef_mv; exact rfl; exact rfl) | (apply ef_bin; exact rfl; exact rfl; exact rfl; (exact cmp_t rfl (by first | exact rfl | (simp only [cmpP]; omega)))) | (apply ef_ldr; exact rfl; exact rfl; (exact rd_3 rfl rfl rfl)) | (apply ef_ias; exact rfl; exact rfl; exact rfl; (omega); assumption; exact rfl) | apply ef_nil | apply seqQ.normal | apply ef_block | apply ef_skip | (apply ef_condt; exact rfl; (exact (rfl : true = true))))
      (apply ef_callv; exact rfl; exact rfl; ((repeat (apply XVs.cons; exact rfl)); exact XVs.nil); exact rfl; exact hg1 _)
      repeat (first | (apply ef_mv; exact rfl; exact rfl) | (apply ef_bin; exact rfl; exact rfl; exact rfl; (((with_reducible refine bin_add (wrap_of ?_ ?_)) <;> omega))) | apply ef_nil | apply seqQ.normal | apply blockQ.normal | apply ef_skip | (apply ef_condf; exact rfl; (exact (rfl : false = false))))
      (refine loopQ.normal _ _ ⟨i + 1, ⟨hlt, by rw [HZ.out, HD.out]; simp [fIy, HT.out]⟩, (by first | (simp only; omega) | omega), by ((repeat (refine Hold.cons (by exact rfl) ?_)); exact Hold.nil), .inl (Nat.le_refl _), (by first | exact List.take_length | exact rfl)⟩)
    · repeat (first | apply ef_seq | (apply ef_mv; exact rfl; exact rfl) | (apply ef_bin; exact rfl; exact rfl; exact rfl; (exact cmp_t rfl (by first | exact rfl | (simp only [cmpP]; omega)))) | (apply ef_ldr; exact rfl; exact rfl; (exact rd_3 rfl rfl rfl)) | (apply ef_ias; exact rfl; exact rfl; exact rfl; (omega); assumption; exact rfl) | apply ef_nil | apply seqQ.normal | apply ef_block | apply ef_skip | (apply ef_condt; exact rfl; (exact (rfl : true = true))))
      (apply ef_callv; exact rfl; exact rfl; ((repeat (apply XVs.cons; exact rfl)); exact XVs.nil); exact rfl; exact hg1 _)
      repeat (first | apply ef_seq | (apply ef_mv; exact rfl; exact rfl) | apply ef_nil | apply seqQ.normal | apply loopQ.ret | apply ef_ret | apply seqQ.ret | apply blockQ.ret | (apply ef_condt; exact rfl; (exact (rfl : true = true))))
      (refine fin1 rfl (by exact rfl) rfl ?_)
      rw [HZ.out, HD.out]; simp [fIy, HT.out]
  · repeat (first | apply ef_seq | (apply ef_mv; exact rfl; exact rfl) | (apply ef_bin; exact rfl; exact rfl; exact rfl; (exact cmp_f rfl (by simp only [cmpP]; omega))) | apply ef_nil | apply seqQ.normal | apply loopQ.exit | apply ef_ret | apply ef_exit | apply seqQ.exit | apply blockQ.here | (apply ef_condf; exact rfl; (exact (rfl : false = false))))
    (refine fin1 rfl (by exact rfl) rfl ?_)
    rw [hz, List.drop_eq_nil_of_le (by omega)]; rfl
theorem IndexFuncX_c (k g : Nat) (caps : List MV) (P : Fx → Bool) (zs : List Fx) (h : MHeap) {v fv : MV} (hx : zs.length ≤ 1000) (hg : ∀ z h, orA k g (encX z :: caps) h = some (Bo (P z), h)) (hv : frz 0 [] h 8 v = some (.sl (zs.map encX))) (hf : frz 0 [] h 8 fv = some (.fn g 0 caps)) :
    orA (k + 1) 170 [v, fv] h = some (I64 (fIy P zs 0), h) :=
  callL (args' := [.sl (zs.map encX), .fn g 0 caps]) (by simp [List.mapM_cons, hv, hf]) rfl (IndexFuncX_z k g caps P zs hx hg)
theorem mf_ContainsFuncX : MT.mf 163 = some ⟨9, [(.tmp 4)], (.seq (.reg [⟨none, some 4, .mv (.c (.lit (.bool false)))⟩]) (.seq (.reg [⟨none, some 5, .mv (.s 0)⟩, ⟨none, some 6, .mv (.s 1)⟩, ⟨none, some 7, .call 170 [.s 5, .s 6]⟩, ⟨none, some 8, .bin .geq (.s 7) (.c (.lit (.int .i64 0)))⟩, ⟨none, some 4, .mv (.s 8)⟩]) .ret))⟩ := by kernel_rfl
theorem ContainsFuncX_c (k g : Nat) (caps : List MV) (P : Fx → Bool) (zs : List Fx) (h : MHeap) {v fv : MV} {t : Bool} (hx : zs.length ≤ 1000) (hg : ∀ z h, orA k g (encX z :: caps) h = some (Bo (P z), h)) (hl : ltL 0 caps = true) (hv : frz 0 [] h 8 v = some (.sl (zs.map encX))) (hf : frz 0 [] h 8 fv = some (.fn g 0 caps))
    (ht : zs.any P = t) : orA (k + 2) 163 [v, fv] h = some (Bo t, h) := by
  refine callL (args' := [.sl (zs.map encX), .fn g 0 caps]) (by simp [List.mapM_cons, hv, hf]) rfl (runZ_of mf_ContainsFuncX (by simp) ?_)
  simp only [argsL]
  have hi := fun h => IndexFuncX_c k g caps P zs h (v := .sl (zs.map encX)) (fv := .fn g 0 caps) hx hg (frz_sl (ltL_X 0 zs)) (by simp [frz, MV.lt, hl])
  repeat (first | apply ef_seq | (apply ef_mv; exact rfl; exact rfl) | (apply ef_bin; exact rfl; exact rfl; exact rfl; (exact rfl)) | apply ef_nil | apply seqQ.normal | apply ef_ret | (apply ef_call; exact rfl; ((repeat (apply XVs.cons; exact rfl)); exact XVs.nil); (with_reducible exact hi _)))
  (refine fin1 rfl (by exact rfl) rfl ?_)
  rw [← ht]
  rcases fIy_spec P zs 0 with ⟨h1, h2⟩ | ⟨i, hi, h1, h2⟩
  · rw [h1]
    have : zs.any P = false := by rw [List.any_eq_false]; intro z hz; simp [h2 z hz]
    rw [this]; rfl
  · rw [h1]
    have : zs.any P = true := List.any_eq_true.2 ⟨zs[i], List.getElem_mem _, h2⟩
    rw [this]; simp
def fixesE (fs : List Fx) : Int := firstE [unl (decide ((fs.length : Int) ≤ 200)) 8, unl (!fs.any strangeX) 2]
theorem mf_fixesErr : MT.mf 145 = some ⟨15, [(.tmp 2)], (.seq (.reg [⟨none, some 2, .mv (.c (.lit (.int .i64 0)))⟩]) (.seq (.reg [⟨none, some 4, .mv (.s 0)⟩, ⟨none, some 5, .call 163 [.s 4, (.c (.fn 164 0 []))]⟩, ⟨none, some 3, .mv (.s 5)⟩]) (.seq (.reg [⟨none, some 6, .mv (.s 0)⟩, ⟨none, some 7, .len (.s 6)⟩, ⟨none, some 8, .bin .leq (.s 7) (.c (.lit (.int .i64 200)))⟩, ⟨none, some 9, .call 93 [.s 8, (.c (.lit (.int .i64 8)))]⟩, ⟨none, some 10, .mv (.s 3)⟩, ⟨none, some 11, .un .not (.s 10)⟩, ⟨none, some 12, .call 93 [.s 11, (.c (.lit (.int .i64 2)))]⟩, ⟨none, some 13, .bsl (.lit (.int .i64 0)) 1 2 [(0, (.s 9)), (1, (.s 12))]⟩, ⟨none, some 14, .call 92 [.s 13]⟩, ⟨none, some 2, .mv (.s 14)⟩]) .ret)))⟩ := by kernel_rfl
theorem fixesErr_c (k : Nat) (fs : List Fx) (h : MHeap) {v : MV} {e : Int} (hx : fs.length ≤ 1000) (hv : frz 0 [] h 8 v = some (.sl (fs.map encX))) (he : fixesE fs = e) : orA (k + 6) 145 [v] h = some (I64 e, h) := by
  refine callL (args' := [.sl (fs.map encX)]) (by simp [List.mapM_cons, hv]) rfl (runZ_of mf_fixesErr (by simp) ?_)
  simp only [argsL]
  have hl : (MV.sl (fs.map encX)).slen = some fs.length := by simp [MV.slen]
  have hc : ∀ h, orA (k + 5) 163 [.sl (fs.map encX), .fn 164 0 []] h = some (Bo (fs.any strangeX), h) := fun h => ContainsFuncX_c (k + 3) 164 [] strangeX fs h hx (fun f h => fixesErr1_c k f h) rfl (frz_sl (ltL_X 0 fs)) (by simp [frz, MV.lt, ltL]) rfl
  repeat (first | apply ef_seq | (apply ef_mv; exact rfl; exact rfl) | (apply ef_bin; exact rfl; exact rfl; exact rfl; (exact rfl)) | (apply ef_len; exact rfl; exact rfl; (assumption)) | (apply ef_not; exact rfl; exact rfl; exact rfl) | (apply ef_bsl; exact rfl; (repeat (apply XVs.cons; exact rfl)); exact XVs.nil; exact rfl) | apply ef_nil | apply seqQ.normal | apply ef_ret | (apply ef_call; exact rfl; ((repeat (apply XVs.cons; exact rfl)); exact XVs.nil); (with_reducible first | exact hc _ | exact unless_c _ _ _ _ rfl)) | (apply ef_call; exact rfl; ((repeat (apply XVs.cons; exact rfl)); exact XVs.nil); (with_reducible apply first2_c); exact rfl; exact rfl; exact rfl; (assumption)))
  (refine fin1 rfl (by exact rfl) rfl ?_)
  rw [← he]
def rulesE (r : Ru) : Int := firstE [unl (inB r.drift 0 10000 && inB r.low 0 10000 && inB r.high 0 10000 && inB r.noise 0 10000 && inB r.over 0 200) 2, unl (decide (r.low ≤ r.high)) 9]
theorem mf_CheckRules : MT.mf 82 = some ⟨37, [(.tmp 2)], (.seq (.reg [⟨none, some 1, .box 5 (.s 0)⟩, ⟨none, some 2, .mv (.c (.lit (.int .i64 0)))⟩]) (.seq (.reg [⟨none, some 4, .fa 0 (.s 1)⟩, ⟨none, some 5, .ld none (.s 4)⟩, ⟨none, some 6, .call 94 [.s 5]⟩, ⟨none, some 7, .mv (.s 6)⟩, ⟨some (7, true), some 8, .fa 2 (.s 1)⟩, ⟨some (7, true), some 9, .ld none (.s 8)⟩, ⟨some (7, true), some 10, .call 94 [.s 9]⟩, ⟨none, some 11, .pick (.s 7) (.s 10) (.c (.lit (.bool false)))⟩, ⟨none, some 12, .mv (.s 11)⟩, ⟨some (12, true), some 13, .fa 3 (.s 1)⟩, ⟨some (12, true), some 14, .ld none (.s 13)⟩, ⟨some (12, true), some 15, .call 94 [.s 14]⟩, ⟨none, some 16, .pick (.s 12) (.s 15) (.c (.lit (.bool false)))⟩, ⟨none, some 17, .mv (.s 16)⟩, ⟨some (17, true), some 18, .fa 4 (.s 1)⟩, ⟨some (17, true), some 19, .ld none (.s 18)⟩, ⟨some (17, true), some 20, .call 94 [.s 19]⟩, ⟨none, some 21, .pick (.s 17) (.s 20) (.c (.lit (.bool false)))⟩, ⟨none, some 22, .mv (.s 21)⟩, ⟨some (22, true), some 23, .fa 1 (.s 1)⟩, ⟨some (22, true), some 24, .ld none (.s 23)⟩, ⟨some (22, true), some 25, .call 129 [.s 24, (.c (.lit (.int .i64 0))), (.c (.lit (.int .i64 200)))]⟩, ⟨none, some 26, .pick (.s 22) (.s 25) (.c (.lit (.bool false)))⟩, ⟨none, some 3, .mv (.s 26)⟩]) (.seq (.reg [⟨none, some 27, .mv (.s 3)⟩, ⟨none, some 28, .call 93 [.s 27, (.c (.lit (.int .i64 2)))]⟩, ⟨none, some 29, .fa 2 (.s 1)⟩, ⟨none, some 30, .ld none (.s 29)⟩, ⟨none, some 31, .fa 3 (.s 1)⟩, ⟨none, some 32, .ld none (.s 31)⟩, ⟨none, some 33, .bin .leq (.s 30) (.s 32)⟩, ⟨none, some 34, .call 93 [.s 33, (.c (.lit (.int .i64 9)))]⟩, ⟨none, some 35, .bsl (.lit (.int .i64 0)) 1 2 [(0, (.s 28)), (1, (.s 34))]⟩, ⟨none, some 36, .call 92 [.s 35]⟩, ⟨none, some 2, .mv (.s 36)⟩]) .ret)))⟩ := by kernel_rfl
set_option maxHeartbeats 1000000 in
theorem CheckRules_c (k : Nat) (a b c d e : Int) (h : MHeap) {x : Int} (hx : rulesE ⟨a, b, c, d, e⟩ = x) : orA (k + 3) 82 [.agg [I64 a, I64 b, I64 c, I64 d, I64 e]] h = some (I64 x, h) := by
  refine callL (args' := [.agg [I64 a, I64 b, I64 c, I64 d, I64 e]]) rfl rfl (runZ_of mf_CheckRules (by simp) ?_)
  simp only [argsL]
  unfold rulesE at hx
  simp only at hx
  cases h1 : inB a 0 10000
  · rw [h1] at hx
    simp only [Bool.false_and] at hx
    repeat (first | apply ef_seq | (apply ef_mv; exact rfl; exact rfl) | (apply ef_bin; exact rfl; exact rfl; exact rfl; (exact rfl)) | (apply ef_gn; exact rfl; (exact (rfl : false = false)); exact rfl) | (apply ef_pick; exact rfl; exact rfl; exact rfl) | (apply ef_ldp; exact rfl; exact rfl; exact rfl; exact rfl; (exact rfl); (exact rfl)) | (apply ef_fap; exact rfl; exact rfl) | (apply ef_box; exact rfl; exact rfl; exact rfl; exact rfl) | (apply ef_bsl; exact rfl; (repeat (apply XVs.cons; exact rfl)); exact XVs.nil; exact rfl) | apply ef_nil | apply seqQ.normal | apply ef_ret | (apply ef_call; exact rfl; ((repeat (apply XVs.cons; exact rfl)); exact XVs.nil); (with_reducible first | exact isHeight_c _ _ _ (by assumption) | exact unless_c _ _ _ _ rfl)) | (apply ef_call; exact rfl; ((repeat (apply XVs.cons; exact rfl)); exact XVs.nil); (with_reducible apply first2_c); exact rfl; exact rfl; exact rfl; (assumption)))
    (refine fin1 rfl (by exact rfl) rfl ?_)
    rfl
  · cases h2 : inB c 0 10000
    · rw [h1, h2] at hx
      simp only [Bool.false_and, Bool.true_and] at hx
      repeat (first | apply ef_seq | (apply ef_mv; exact rfl; exact rfl) | (apply ef_bin; exact rfl; exact rfl; exact rfl; (exact rfl)) | (apply ef_gy; exact rfl; (exact (rfl : true = true))) | (apply ef_gn; exact rfl; (exact (rfl : false = false)); exact rfl) | (apply ef_pick; exact rfl; exact rfl; exact rfl) | (apply ef_ldp; exact rfl; exact rfl; exact rfl; exact rfl; (exact rfl); (exact rfl)) | (apply ef_fap; exact rfl; exact rfl) | (apply ef_box; exact rfl; exact rfl; exact rfl; exact rfl) | (apply ef_bsl; exact rfl; (repeat (apply XVs.cons; exact rfl)); exact XVs.nil; exact rfl) | apply ef_nil | apply seqQ.normal | apply ef_ret | (apply ef_call; exact rfl; ((repeat (apply XVs.cons; exact rfl)); exact XVs.nil); (with_reducible first | exact isHeight_c _ _ _ (by assumption) | exact unless_c _ _ _ _ rfl)) | (apply ef_call; exact rfl; ((repeat (apply XVs.cons; exact rfl)); exact XVs.nil); (with_reducible apply first2_c); exact rfl; exact rfl; exact rfl; (assumption)))
      (refine fin1 rfl (by exact rfl) rfl ?_)
      rfl
    · cases h3 : inB d 0 10000
      · rw [h1, h2, h3] at hx
        simp only [Bool.false_and, Bool.true_and] at hx
        repeat (first | apply ef_seq | (apply ef_mv; exact rfl; exact rfl) | (apply ef_bin; exact rfl; exact rfl; exact rfl; (exact rfl)) | (apply ef_gy; exact rfl; (exact (rfl : true = true))) | (apply ef_gn; exact rfl; (exact (rfl : false = false)); exact rfl) | (apply ef_pick; exact rfl; exact rfl; exact rfl) | (apply ef_ldp; exact rfl; exact rfl; exact rfl; exact rfl; (exact rfl); (exact rfl)) | (apply ef_fap; exact rfl; exact rfl) | (apply ef_box; exact rfl; exact rfl; exact rfl; exact rfl) | (apply ef_bsl; exact rfl; (repeat (apply XVs.cons; exact rfl)); exact XVs.nil; exact rfl) | apply ef_nil | apply seqQ.normal | apply ef_ret | (apply ef_call; exact rfl; ((repeat (apply XVs.cons; exact rfl)); exact XVs.nil); (with_reducible first | exact isHeight_c _ _ _ (by assumption) | exact unless_c _ _ _ _ rfl)) | (apply ef_call; exact rfl; ((repeat (apply XVs.cons; exact rfl)); exact XVs.nil); (with_reducible apply first2_c); exact rfl; exact rfl; exact rfl; (assumption)))
        (refine fin1 rfl (by exact rfl) rfl ?_)
        rfl
      · cases h4 : inB e 0 10000
        · rw [h1, h2, h3, h4] at hx
          simp only [Bool.false_and, Bool.true_and] at hx
          repeat (first | apply ef_seq | (apply ef_mv; exact rfl; exact rfl) | (apply ef_bin; exact rfl; exact rfl; exact rfl; (exact rfl)) | (apply ef_gy; exact rfl; (exact (rfl : true = true))) | (apply ef_gn; exact rfl; (exact (rfl : false = false)); exact rfl) | (apply ef_pick; exact rfl; exact rfl; exact rfl) | (apply ef_ldp; exact rfl; exact rfl; exact rfl; exact rfl; (exact rfl); (exact rfl)) | (apply ef_fap; exact rfl; exact rfl) | (apply ef_box; exact rfl; exact rfl; exact rfl; exact rfl) | (apply ef_bsl; exact rfl; (repeat (apply XVs.cons; exact rfl)); exact XVs.nil; exact rfl) | apply ef_nil | apply seqQ.normal | apply ef_ret | (apply ef_call; exact rfl; ((repeat (apply XVs.cons; exact rfl)); exact XVs.nil); (with_reducible first | exact isHeight_c _ _ _ (by assumption) | exact unless_c _ _ _ _ rfl)) | (apply ef_call; exact rfl; ((repeat (apply XVs.cons; exact rfl)); exact XVs.nil); (with_reducible apply first2_c); exact rfl; exact rfl; exact rfl; (assumption)))
          (refine fin1 rfl (by exact rfl) rfl ?_)
          rfl
        · rw [h1, h2, h3, h4] at hx
          simp only [Bool.true_and] at hx
          repeat (first | apply ef_seq | (apply ef_mv; exact rfl; exact rfl) | (apply ef_bin; exact rfl; exact rfl; exact rfl; (exact rfl)) | (apply ef_gy; exact rfl; (exact (rfl : true = true))) | (apply ef_pick; exact rfl; exact rfl; exact rfl) | (apply ef_ldp; exact rfl; exact rfl; exact rfl; exact rfl; (exact rfl); (exact rfl)) | (apply ef_fap; exact rfl; exact rfl) | (apply ef_box; exact rfl; exact rfl; exact rfl; exact rfl) | (apply ef_bsl; exact rfl; (repeat (apply XVs.cons; exact rfl)); exact XVs.nil; exact rfl) | apply ef_nil | apply seqQ.normal | apply ef_ret | (apply ef_call; exact rfl; ((repeat (apply XVs.cons; exact rfl)); exact XVs.nil); (with_reducible first | exact isHeight_c _ _ _ (by assumption) | exact within_c _ _ _ _ _ rfl | exact unless_c _ _ _ _ rfl)) | (apply ef_call; exact rfl; ((repeat (apply XVs.cons; exact rfl)); exact XVs.nil); (with_reducible apply first2_c); exact rfl; exact rfl; exact rfl; (assumption)))
          (refine fin1 rfl (by exact rfl) rfl ?_)
          rfl
end Go.Proofs.Ytgjpdjihjphbdaa

/- Contracts: tasks are checked. -/
namespace Go.Proofs.Ytgjpdjihjphbdaa
open Go.RowKit
set_option linter.unusedVariables false
abbrev encW (r : List Int) : MV := .sl (r.map I64)
abbrev encT (t : Tk) : MV := .agg [.sl (t.ter.map encW), .sl (t.rows.map I64), .sl (t.ties.map I64), I64 t.cl, I64 t.cb]
theorem ltL_W (n : Nat) (g : List (List Int)) : ltL n (g.map encW) = true := ltL_lits (fun r => by simp [MV.lt, ltL_I]) g
theorem encT_lt (t : Tk) (n : Nat) : (encT t).lt n = true := by simp [MV.lt, ltL, ltL_I, ltL_W]
def lnE (cnt last n : Int) : Int := firstE [unl (inB n 0 (cnt - 1)) 6, unl (decide (last < n)) 9]
def lnsE (cnt : Int) : Int → Nat → List Int → Int × Int
  | _, _, [] => (0, 0)
  | last, i, n :: ns => if lnE cnt last n = 0 then lnsE cnt n (i + 1) ns else ((i : Int), lnE cnt last n)
theorem mf_linesErr : MT.mf 112 = some ⟨34, [(.tmp 4), (.tmp 5)], (.seq (.reg [⟨none, some 4, .mv (.c (.lit (.int .i64 0)))⟩, ⟨none, some 5, .mv (.c (.lit (.int .i64 0)))⟩]) (.seq (.reg [⟨none, some 6, .mv (.c (.lit (.int .i64 (-1))))⟩]) (.seq (.seq (.reg [⟨none, some 10, .mv (.s 0)⟩, ⟨none, some 11, .len (.s 10)⟩, ⟨none, some 12, .mv (.c (.lit (.int .i64 0)))⟩]) (.block 0 (.loop [12, 11, 10, 1, 6] (.seq (.reg [⟨none, some 13, .bin .lss (.s 12) (.s 11)⟩]) (.seq (.cond (.s 13) .skip (.exit 0)) (.seq (.block 1 (.seq (.reg [⟨none, some 14, .mv (.s 12)⟩, ⟨none, some 15, .ia 1 (.s 10) (.s 12)⟩, ⟨none, some 16, .ld none (.s 15)⟩, ⟨none, some 7, .mv (.s 14)⟩, ⟨none, some 8, .mv (.s 16)⟩]) (.seq (.seq (.reg [⟨none, some 17, .mv (.s 8)⟩, ⟨none, some 18, .mv (.s 1)⟩, ⟨none, some 19, .bin .sub (.s 18) (.c (.lit (.int .i64 1)))⟩, ⟨none, some 20, .call 129 [.s 17, (.c (.lit (.int .i64 0))), .s 19]⟩, ⟨none, some 21, .call 93 [.s 20, (.c (.lit (.int .i64 6)))]⟩, ⟨none, some 22, .mv (.s 8)⟩, ⟨none, some 23, .mv (.s 6)⟩, ⟨none, some 24, .bin .gtr (.s 22) (.s 23)⟩, ⟨none, some 25, .call 93 [.s 24, (.c (.lit (.int .i64 9)))]⟩, ⟨none, some 26, .bsl (.lit (.int .i64 0)) 1 2 [(0, (.s 21)), (1, (.s 25))]⟩, ⟨none, some 27, .call 92 [.s 26]⟩, ⟨none, some 9, .mv (.s 27)⟩]) (.seq (.reg [⟨none, some 28, .mv (.s 9)⟩, ⟨none, some 29, .bin .neq (.s 28) (.c (.lit (.int .i64 0)))⟩]) (.cond (.s 29) (.seq (.reg [⟨none, some 30, .mv (.s 7)⟩, ⟨none, some 31, .mv (.s 9)⟩, ⟨none, some 4, .mv (.s 30)⟩, ⟨none, some 5, .mv (.s 31)⟩]) .ret) .skip))) (.reg [⟨none, some 32, .mv (.s 8)⟩, ⟨none, some 6, .mv (.s 32)⟩])))) (.reg [⟨none, some 33, .bin .add (.s 12) (.c (.lit (.int .i64 1)))⟩, ⟨none, some 12, .mv (.s 33)⟩]))))))) (.seq (.reg [⟨none, some 4, .mv (.c (.lit (.int .i64 0)))⟩, ⟨none, some 5, .mv (.c (.lit (.int .i64 0)))⟩]) .ret))))⟩ := by kernel_rfl
theorem linesErr_c (k : Nat) (cnt : Int) (ns : List Int) (h : MHeap) (hc : 0 ≤ cnt ∧ cnt ≤ 1000000) (hn : ns.length ≤ 100000) : orA (k + 2) 112 [.sl (ns.map I64), I64 cnt] h = some (.tup [I64 (lnsE cnt (-1) 0 ns).1, I64 (lnsE cnt (-1) 0 ns).2], h) := by
  obtain ⟨c1, c2⟩ := hc
  have hz : runZ MT (orA (k + 1)) (itA (k + 1)) 4000000 112 [.sl (ns.map I64), I64 cnt] [] = some (.tup [I64 (lnsE cnt (-1) 0 ns).1, I64 (lnsE cnt (-1) 0 ns).2], []) := by
    have hl : (MV.sl (ns.map I64)).slen = some ns.length := by simp [MV.slen]
    refine runZ_of mf_linesErr (by simp) ?_
    simp only [argsL]
    repeat (first | apply ef_seq | (apply ef_mv; exact rfl; exact rfl) | (apply ef_len; exact rfl; exact rfl; (assumption)) | apply ef_nil | apply seqQ.normal | apply ef_block)
    refine ef_loopf (α := Nat × Int) (fun s => s.1 ≤ ns.length ∧ lnsE cnt (-1) 0 ns = lnsE cnt s.2 s.1 (ns.drop s.1)) (fun s => [(12, I64 (s.1 : Int)), (6, I64 s.2)]) [(11, _), (10, _), (1, _)] (fun _ => _) (fun s => ns.length - s.1) (0, -1) [12, 6] (fun _ => rfl) (by ((repeat (refine Hold.cons (by exact rfl) ?_)); exact Hold.nil)) (by ((repeat (refine Hold.cons (by exact rfl) ?_)); exact Hold.nil)) rfl rfl ⟨by simp, rfl⟩ (by simp; omega) ?_
    rintro ⟨i, last⟩ ⟨hi, hz⟩
    simp only at hi hz ⊢
    by_cases hlt2 : i < ns.length
    · have e1 := at_map I64 ns i hlt2
      have HD := Lib.hid (drop_at ns i hlt2)
      have HZ := Lib.hid hz
      clear hz
      generalize ns[i] = n at e1 HD
      obtain ⟨e, he⟩ : ∃ e, lnE cnt last n = e := ⟨_, rfl⟩
      have HE := Lib.hid he
      unfold lnE at he
      by_cases h0 : e = 0
      · subst h0
        repeat (first | apply ef_seq | (apply ef_mv; exact rfl; exact rfl) | (apply ef_bin; exact rfl; exact rfl; exact rfl; (first | exact cmp_t rfl (by first | exact rfl | (simp only [cmpP]; omega)) | exact cmp_f rfl (by simp only [cmpP]; omega) | ((with_reducible refine bin_add (wrap_of ?_ ?_)) <;> omega) | ((with_reducible refine bin_sub (wrap_of ?_ ?_)) <;> omega) | exact rfl)) | (apply ef_ldr; exact rfl; exact rfl; (exact rfl)) | (apply ef_ias; exact rfl; exact rfl; exact rfl; (omega); assumption; exact rfl) | (apply ef_bsl; exact rfl; (repeat (apply XVs.cons; exact rfl)); exact XVs.nil; exact rfl) | apply ef_nil | apply seqQ.normal | apply blockQ.normal | apply ef_block | apply ef_skip | (apply ef_condt; exact rfl; (exact (rfl : true = true))) | (apply ef_condf; exact rfl; (exact (rfl : false = false))) | (apply ef_call; exact rfl; ((repeat (apply XVs.cons; exact rfl)); exact XVs.nil); (with_reducible first | exact within_c _ _ _ _ _ rfl | exact unless_c _ _ _ _ rfl)) | (apply ef_call; exact rfl; ((repeat (apply XVs.cons; exact rfl)); exact XVs.nil); (with_reducible apply first2_c); exact rfl; exact rfl; exact rfl; (assumption)))
        (refine loopQ.normal _ _ ⟨(i + 1, n), ⟨hlt2, by rw [HZ.out, HD.out]; simp only [lnsE, HE.out, if_true]⟩, (by first | (simp only; omega) | omega), ⟨by ((repeat (refine Hold.cons (by exact rfl) ?_)); exact Hold.nil), by ((repeat (refine Hold.cons (by exact rfl) ?_)); exact Hold.nil)⟩, .inr ⟨by ((repeat (refine hdl_cons rfl (by first | rfl | (simp [MV.lt, ltL, ltL_I])) ?_)); exact hdl_nil), by first | rfl | (simp [hltL, ltL, MV.lt, ltL, ltL_I])⟩, by first | exact rfl | (simp only [List.map_append, List.map_set]; exact rfl)⟩)
      · repeat (first | apply ef_seq | (apply ef_mv; exact rfl; exact rfl) | (apply ef_bin; exact rfl; exact rfl; exact rfl; (first | exact cmp_t rfl (by first | exact rfl | (simp only [cmpP]; omega)) | ((with_reducible refine bin_sub (wrap_of ?_ ?_)) <;> omega) | exact rfl)) | (apply ef_ldr; exact rfl; exact rfl; (exact rfl)) | (apply ef_ias; exact rfl; exact rfl; exact rfl; (omega); assumption; exact rfl) | (apply ef_bsl; exact rfl; (repeat (apply XVs.cons; exact rfl)); exact XVs.nil; exact rfl) | apply ef_nil | apply seqQ.normal | apply loopQ.ret | apply ef_ret | apply seqQ.ret | apply blockQ.ret | apply ef_block | apply ef_skip | (apply ef_condt; exact rfl; (exact (rfl : true = true))) | (apply ef_call; exact rfl; ((repeat (apply XVs.cons; exact rfl)); exact XVs.nil); (with_reducible first | exact within_c _ _ _ _ _ rfl | exact unless_c _ _ _ _ rfl)) | (apply ef_call; exact rfl; ((repeat (apply XVs.cons; exact rfl)); exact XVs.nil); (with_reducible apply first2_c); exact rfl; exact rfl; exact rfl; (assumption)))
        (refine fin2 rfl (by exact rfl) (by exact rfl) ?_)
        rw [HZ.out, HD.out]; simp only [lnsE, HE.out, if_neg h0]
    · repeat (first | apply ef_seq | (apply ef_mv; exact rfl; exact rfl) | (apply ef_bin; exact rfl; exact rfl; exact rfl; (exact cmp_f rfl (by simp only [cmpP]; omega))) | apply ef_nil | apply seqQ.normal | apply loopQ.exit | apply ef_ret | apply ef_exit | apply seqQ.exit | apply blockQ.here | (apply ef_condf; exact rfl; (exact (rfl : false = false))))
      (refine fin2 rfl (by exact rfl) (by exact rfl) ?_)
      rw [hz, List.drop_eq_nil_of_le (by omega)]; rfl
  have := callA (k := k + 1) (h := h) (frzL_lt (ms := [.sl (ns.map I64), I64 cnt]) (by simp [ltL, MV.lt, ltL_I])) rfl hz (by simp [okV, ok1, MV.lt, MV.pure]) rfl
  simpa [shV, sh1] using this
theorem mf_rlinesErr : MT.mf 118 = some ⟨34, [(.tmp 4)], (.seq (.reg [⟨none, some 4, .mv (.c (.lit (.int .i64 0)))⟩]) (.seq (.seq (.reg [⟨none, some 5, .mv (.c (.lit (.int .i64 0)))⟩]) (.block 0 (.loop [5, 0, 1] (.seq (.seq (.reg [⟨none, some 6, .mv (.s 5)⟩, ⟨none, some 7, .mv (.s 0)⟩, ⟨none, some 8, .len (.s 7)⟩, ⟨none, some 9, .bin .lss (.s 6) (.s 8)⟩]) (.cond (.s 9) .skip (.exit 0))) (.seq (.block 1 (.seq (.seq (.reg [⟨none, some 12, .mv (.s 0)⟩, ⟨none, some 13, .mv (.s 5)⟩, ⟨none, some 14, .ia 1 (.s 12) (.s 13)⟩, ⟨none, some 15, .ld none (.s 14)⟩, ⟨none, some 16, .mv (.s 1)⟩, ⟨none, some 17, .bin .sub (.s 16) (.c (.lit (.int .i64 1)))⟩, ⟨none, some 18, .call 22 [.s 15, (.c (.lit (.int .i64 0))), .s 17]⟩, ⟨none, some 19, .un .not (.s 18)⟩]) (.cond (.s 19) (.seq (.reg [⟨none, some 4, .mv (.c (.lit (.int .i64 6)))⟩]) .ret) .skip)) (.seq (.reg [⟨none, some 20, .mv (.s 5)⟩, ⟨none, some 21, .bin .gtr (.s 20) (.c (.lit (.int .i64 0)))⟩, ⟨none, some 22, .mv (.s 21)⟩, ⟨some (22, true), some 23, .mv (.s 0)⟩, ⟨some (22, true), some 24, .mv (.s 5)⟩, ⟨some (22, true), some 25, .ia 1 (.s 23) (.s 24)⟩, ⟨some (22, true), some 26, .ld none (.s 25)⟩, ⟨some (22, true), some 27, .mv (.s 0)⟩, ⟨some (22, true), some 28, .mv (.s 5)⟩, ⟨some (22, true), some 29, .bin .sub (.s 28) (.c (.lit (.int .i64 1)))⟩, ⟨some (22, true), some 30, .ia 1 (.s 27) (.s 29)⟩, ⟨some (22, true), some 31, .ld none (.s 30)⟩, ⟨some (22, true), some 32, .bin .leq (.s 26) (.s 31)⟩, ⟨none, some 33, .pick (.s 22) (.s 32) (.c (.lit (.bool false)))⟩]) (.cond (.s 33) (.seq (.reg [⟨none, some 4, .mv (.c (.lit (.int .i64 9)))⟩]) .ret) .skip)))) (.reg [⟨none, some 10, .mv (.s 5)⟩, ⟨none, some 11, .bin .add (.s 10) (.c (.lit (.int .i64 1)))⟩, ⟨none, some 5, .mv (.s 11)⟩])))))) (.seq (.reg [⟨none, some 4, .mv (.c (.lit (.int .i64 0)))⟩]) .ret)))⟩ := by kernel_rfl
theorem lnE_a {cnt last n : Int} (h : inB n 0 (cnt - 1) = false) : lnE cnt last n = 6 := by simp [lnE, h, firstE, unl]
theorem lnE_b {cnt last n : Int} (h : inB n 0 (cnt - 1) = true) (h2 : ¬ last < n) : lnE cnt last n = 9 := by simp [lnE, h, firstE, unl, h2]
theorem lnE_c {cnt last n : Int} (h : inB n 0 (cnt - 1) = true) (h2 : last < n) : lnE cnt last n = 0 := by simp [lnE, h, firstE, unl, h2]
theorem rlinesErr_c (k : Nat) (cnt : Int) (ns : List Int) (h : MHeap) (hc : 0 ≤ cnt ∧ cnt ≤ 1000000) (hn : ns.length ≤ 100000) : orA (k + 2) 118 [.sl (ns.map I64), I64 cnt] h = some (I64 (lnsE cnt (-1) 0 ns).2, h) := by
  obtain ⟨c1, c2⟩ := hc
  refine callL (args' := [.sl (ns.map I64), I64 cnt]) (frzL_lt (by simp [ltL, MV.lt, ltL_I])) rfl (runZ_of mf_rlinesErr (by simp) ?_)
  have hl : (MV.sl (ns.map I64)).slen = some ns.length := by simp [MV.slen]
  simp only [argsL]
  repeat (first | apply ef_seq | (apply ef_mv; exact rfl; exact rfl) | apply ef_nil | apply seqQ.normal | apply ef_block)
  refine ef_loopf (α := Nat × Int) (fun s => s.1 ≤ ns.length ∧ (s.1 = 0 → s.2 = -1) ∧ (0 < s.1 → ns[s.1 - 1]? = some s.2) ∧ (lnsE cnt (-1) 0 ns).2 = (lnsE cnt s.2 s.1 (ns.drop s.1)).2) (fun s => [(5, I64 (s.1 : Int))]) [(0, _), (1, _)] (fun _ => _) (fun s => ns.length - s.1) (0, -1) [5] (fun _ => rfl) (by ((repeat (refine Hold.cons (by exact rfl) ?_)); exact Hold.nil)) (by ((repeat (refine Hold.cons (by exact rfl) ?_)); exact Hold.nil)) rfl rfl ⟨by simp, fun _ => rfl, fun h => absurd h (by simp), rfl⟩ (by simp; omega) ?_
  rintro ⟨i, last⟩ ⟨hi, ha, hb, hz⟩
  simp only at hi ha hb hz ⊢
  by_cases hlt2 : i < ns.length
  · have e1 := at_map I64 ns i hlt2
    have HD := Lib.hid (drop_at ns i hlt2)
    have HX := Lib.hid (List.getElem?_eq_getElem hlt2)
    have HZ := Lib.hid hz
    have e2 : 0 < i → (ns.map I64)[((i : Int) - 1).toNat]? = some (I64 last) := fun h0 => by
      rw [show ((i : Int) - 1).toNat = i - 1 by omega, List.getElem?_map, hb h0]; rfl
    clear hz hb
    generalize ns[i] = n at e1 HD HX
    cases h1 : inB n 0 (cnt - 1)
    · repeat (first | apply ef_seq | (apply ef_mv; exact rfl; exact rfl) | (apply ef_bin; exact rfl; exact rfl; exact rfl; (first | exact cmp_t rfl (by first | exact rfl | (simp only [cmpP]; omega)) | ((with_reducible refine bin_sub (wrap_of ?_ ?_)) <;> omega))) | (apply ef_len; exact rfl; exact rfl; (assumption)) | (apply ef_ldr; exact rfl; exact rfl; (exact rfl)) | (apply ef_ias; exact rfl; exact rfl; exact rfl; (omega); assumption; exact rfl) | (apply ef_notF; exact rfl; exact rfl) | apply ef_nil | apply seqQ.normal | apply loopQ.ret | apply ef_ret | apply seqQ.ret | apply blockQ.ret | apply ef_block | apply ef_skip | (apply ef_condt; exact rfl; (exact (rfl : true = true))) | (apply ef_call; exact rfl; ((repeat (apply XVs.cons; exact rfl)); exact XVs.nil); (with_reducible exact Within_c _ _ _ _ _ (by assumption))))
      (refine fin1 rfl (by exact rfl) rfl ?_)
      rw [HZ.out, HD.out]; simp only [lnsE, lnE_a h1]; rfl
    · have b1 := inB_iff.1 h1
      by_cases h0 : i = 0
      · have h2 : last < n := by rw [ha h0]; omega
        have HE := Lib.hid (lnE_c h1 h2)
        repeat (first | apply ef_seq | (apply ef_mv; exact rfl; exact rfl) | (apply ef_bin; exact rfl; exact rfl; exact rfl; (first | exact cmp_t rfl (by first | exact rfl | (simp only [cmpP]; omega)) | exact cmp_f rfl (by simp only [cmpP]; omega) | ((with_reducible refine bin_add (wrap_of ?_ ?_)) <;> omega) | ((with_reducible refine bin_sub (wrap_of ?_ ?_)) <;> omega))) | (apply ef_gn; exact rfl; (exact (rfl : false = false)); exact rfl) | (apply ef_pick; exact rfl; exact rfl; exact rfl) | (apply ef_len; exact rfl; exact rfl; (assumption)) | (apply ef_ldr; exact rfl; exact rfl; (exact rfl)) | (apply ef_ias; exact rfl; exact rfl; exact rfl; (omega); assumption; exact rfl) | (apply ef_notT; exact rfl; exact rfl) | apply ef_nil | apply seqQ.normal | apply blockQ.normal | apply ef_block | apply ef_skip | (apply ef_condt; exact rfl; (exact (rfl : true = true))) | (apply ef_condf; exact rfl; (exact (rfl : false = false))) | (apply ef_call; exact rfl; ((repeat (apply XVs.cons; exact rfl)); exact XVs.nil); (with_reducible exact Within_c _ _ _ _ _ (by assumption))))
        (refine loopQ.normal _ _ ⟨(i + 1, n), ⟨hlt2, fun h => absurd h (by simp), fun _ => HX.out, by rw [HZ.out, HD.out]; simp only [lnsE, HE.out, if_true]⟩, (by first | (simp only; omega) | omega), ⟨by ((repeat (refine Hold.cons (by exact rfl) ?_)); exact Hold.nil), by ((repeat (refine Hold.cons (by exact rfl) ?_)); exact Hold.nil)⟩, .inl (Nat.le_refl _), (by first | exact List.take_length | exact rfl | exact takeF rfl rfl)⟩)
      · have e3 := e2 (by omega)
        by_cases h2 : last < n
        · have HE := Lib.hid (lnE_c h1 h2)
          repeat (first | apply ef_seq | (apply ef_mv; exact rfl; exact rfl) | (apply ef_bin; exact rfl; exact rfl; exact rfl; (first | exact cmp_t rfl (by first | exact rfl | (simp only [cmpP]; omega)) | exact cmp_f rfl (by simp only [cmpP]; omega) | ((with_reducible refine bin_add (wrap_of ?_ ?_)) <;> omega) | ((with_reducible refine bin_sub (wrap_of ?_ ?_)) <;> omega))) | (apply ef_gy; exact rfl; (exact (rfl : true = true))) | (apply ef_pick; exact rfl; exact rfl; exact rfl) | (apply ef_len; exact rfl; exact rfl; (assumption)) | (apply ef_ldr; exact rfl; exact rfl; (exact rfl)) | (apply ef_ias; exact rfl; exact rfl; exact rfl; (omega); assumption; exact rfl) | (apply ef_notT; exact rfl; exact rfl) | apply ef_nil | apply seqQ.normal | apply blockQ.normal | apply ef_block | apply ef_skip | (apply ef_condt; exact rfl; (exact (rfl : true = true))) | (apply ef_condf; exact rfl; (exact (rfl : false = false))) | (apply ef_call; exact rfl; ((repeat (apply XVs.cons; exact rfl)); exact XVs.nil); (with_reducible exact Within_c _ _ _ _ _ (by assumption))))
          (refine loopQ.normal _ _ ⟨(i + 1, n), ⟨hlt2, fun h => absurd h (by simp), fun _ => HX.out, by rw [HZ.out, HD.out]; simp only [lnsE, HE.out, if_true]⟩, (by first | (simp only; omega) | omega), ⟨by ((repeat (refine Hold.cons (by exact rfl) ?_)); exact Hold.nil), by ((repeat (refine Hold.cons (by exact rfl) ?_)); exact Hold.nil)⟩, .inl (Nat.le_refl _), (by first | exact List.take_length | exact rfl | exact takeF rfl rfl)⟩)
        · have HE := Lib.hid (lnE_b h1 h2)
          repeat (first | apply ef_seq | (apply ef_mv; exact rfl; exact rfl) | (apply ef_bin; exact rfl; exact rfl; exact rfl; (first | exact cmp_t rfl (by first | exact rfl | (simp only [cmpP]; omega)) | ((with_reducible refine bin_sub (wrap_of ?_ ?_)) <;> omega))) | (apply ef_gy; exact rfl; (exact (rfl : true = true))) | (apply ef_pick; exact rfl; exact rfl; exact rfl) | (apply ef_len; exact rfl; exact rfl; (assumption)) | (apply ef_ldr; exact rfl; exact rfl; (exact rfl)) | (apply ef_ias; exact rfl; exact rfl; exact rfl; (omega); assumption; exact rfl) | (apply ef_notT; exact rfl; exact rfl) | apply ef_nil | apply seqQ.normal | apply loopQ.ret | apply ef_ret | apply seqQ.ret | apply blockQ.ret | apply ef_block | apply ef_skip | (apply ef_condt; exact rfl; (exact (rfl : true = true))) | (apply ef_condf; exact rfl; (exact (rfl : false = false))) | (apply ef_call; exact rfl; ((repeat (apply XVs.cons; exact rfl)); exact XVs.nil); (with_reducible exact Within_c _ _ _ _ _ (by assumption))))
          (refine fin1 rfl (by exact rfl) rfl ?_)
          rw [HZ.out, HD.out]; simp only [lnsE, HE.out]; rfl
  · repeat (first | apply ef_seq | (apply ef_mv; exact rfl; exact rfl) | (apply ef_bin; exact rfl; exact rfl; exact rfl; (exact cmp_f rfl (by simp only [cmpP]; omega))) | (apply ef_len; exact rfl; exact rfl; (assumption)) | apply ef_nil | apply seqQ.normal | apply loopQ.exit | apply ef_ret | apply ef_exit | apply seqQ.exit | apply blockQ.here | (apply ef_condf; exact rfl; (exact (rfl : false = false))))
    (refine fin1 rfl (by exact rfl) rfl ?_)
    rw [hz, List.drop_eq_nil_of_le (by omega)]; rfl
theorem mf_CheckTask1 : MT.mf 111 = some ⟨6, [(.tmp 2)], (.seq (.reg [⟨none, some 2, .mv (.c (.lit (.bool false)))⟩]) (.seq (.reg [⟨none, some 3, .mv (.s 0)⟩, ⟨none, some 4, .call 94 [.s 3]⟩, ⟨none, some 5, .un .not (.s 4)⟩, ⟨none, some 2, .mv (.s 5)⟩]) .ret))⟩ := by kernel_rfl
theorem CheckTask1_c (k : Nat) (n : Int) (h : MHeap) : orA (k + 3) 111 [I64 n] h = some (Bo (!inB n 0 10000), h) := by
  refine callL (frz_lits [.int .i64 n]) rfl (runZ_of mf_CheckTask1 (by simp) ?_)
  simp only [argsL, List.map_cons, List.map_nil]
  obtain ⟨t, ht⟩ : ∃ t, inB n 0 10000 = t := ⟨_, rfl⟩
  rw [ht]
  cases t
  all_goals repeat (first | apply ef_seq | (apply ef_mv; exact rfl; exact rfl) | (apply ef_notT; exact rfl; exact rfl) | (apply ef_notF; exact rfl; exact rfl) | apply ef_nil | apply seqQ.normal | apply ef_ret | (apply ef_call; exact rfl; ((repeat (apply XVs.cons; exact rfl)); exact XVs.nil); (with_reducible exact isHeight_c _ _ _ (by assumption))))
  all_goals (refine fin1 rfl (by exact rfl) rfl ?_)
  all_goals rfl
end Go.Proofs.Ytgjpdjihjphbdaa

/- Contracts: a task is checked, by the program and by the reference. -/
namespace Go.Proofs.Ytgjpdjihjphbdaa
open Go.RowKit
set_option linter.unusedVariables false
structure Bd (t : Tk) : Prop where
  b1 : t.ter.length ≤ 100000
  b2 : t.rows.length ≤ 100000
  b3 : t.ties.length ≤ 100000
  b4 : ∀ r ∈ t.ter, r.length ≤ 100000
def rowE (W : Nat) (r : List Int) : Int := firstE [unl (decide (0 < r.length) && ((r.length : Int) == (W : Int))) 10, unl (decide ((r.length : Int) ≤ 12)) 8, unl (!(r.any fun n => !inB n 0 10000)) 2]
def rowsE (W : Nat) : Nat → List (List Int) → Int × Int
  | _, [] => (0, 0)
  | i, r :: rs => if rowE W r = 0 then rowsE W (i + 1) rs else ((i : Int), rowE W r)
def headE (t : Tk) : Int := firstE [unl (decide ((t.ter.length : Int) > 0)) 10, unl (decide ((t.ter.length : Int) ≤ 12)) 8]
def tailE (t : Tk) : Int := firstE [unl (inB t.cl 0 10000 && inB t.cb 0 10000) 2, unl (decide ((t.rows.length : Int) + (t.ties.length : Int) > 0)) 10]
def taskF (f : Int → Int) (t : Tk) : Int × Int :=
  if headE t = 0 then
    if (rowsE t.W 0 t.ter).2 = 0 then
      if tailE t = 0 then
        if (lnsE (t.ter.length : Int) (-1) 0 t.rows).2 = 0 then (f (lnsE (t.W : Int) (-1) 0 t.ties).1, (lnsE (t.W : Int) (-1) 0 t.ties).2) else (f (lnsE (t.ter.length : Int) (-1) 0 t.rows).1, (lnsE (t.ter.length : Int) (-1) 0 t.rows).2)
      else (0, tailE t)
    else rowsE t.W 0 t.ter
  else (0, headE t)
theorem headE_z {t : Tk} (h : headE t = 0) : 0 < t.ter.length ∧ t.ter.length ≤ 12 := by
  unfold headE at h
  rw [firstE_zero, firstE_zero, unl_eq (by decide), unl_eq (by decide)] at h
  simp only [decide_eq_true_eq] at h
  omega
theorem tailE_z {t : Tk} (h : tailE t = 0) : (inB t.cl 0 10000 = true ∧ inB t.cb 0 10000 = true) ∧ 0 < t.rows.length + t.ties.length := by
  unfold tailE at h
  rw [firstE_zero, firstE_zero, unl_eq (by decide), unl_eq (by decide)] at h
  simp only [decide_eq_true_eq, Bool.and_eq_true] at h
  exact ⟨h.1, by omega⟩
theorem Tk.head {t : Tk} (h : 0 < t.ter.length) : (t.ter.map encW)[(0 : Int).toNat]? = some (encW (t.ter.getD 0 [])) := by
  rw [Int.toNat_zero, List.getElem?_map, List.getD_eq_getElem?_getD, List.getElem?_eq_getElem h]; rfl
theorem Tk.headW (t : Tk) : (encW (t.ter.getD 0 [])).slen = some t.W := by simp [MV.slen, Tk.W]
theorem Bd.w {t : Tk} (h : Bd t) : t.W ≤ 100000 := by
  unfold Tk.W
  by_cases h0 : 0 < t.ter.length
  · have : t.ter.getD 0 [] = t.ter[0] := by rw [List.getD_eq_getElem?_getD, List.getElem?_eq_getElem h0]; rfl
    rw [this]
    exact h.b4 _ (List.getElem_mem h0)
  · obtain he : t.ter = [] := List.eq_nil_of_length_eq_zero (by omega)
    rw [he]; simp
theorem mf_CheckTask : MT.mf 34 = some ⟨109, [(.tmp 2), (.tmp 3)], (.seq (.reg [⟨none, some 1, .box 5 (.s 0)⟩, ⟨none, some 2, .mv (.c (.lit (.int .i64 0)))⟩, ⟨none, some 3, .mv (.c (.lit (.int .i64 0)))⟩]) (.seq (.seq (.reg [⟨none, some 13, .fa 0 (.s 1)⟩, ⟨none, some 14, .ld none (.s 13)⟩, ⟨none, some 15, .len (.s 14)⟩, ⟨none, some 16, .bin .gtr (.s 15) (.c (.lit (.int .i64 0)))⟩, ⟨none, some 17, .call 93 [.s 16, (.c (.lit (.int .i64 10)))]⟩, ⟨none, some 18, .fa 0 (.s 1)⟩, ⟨none, some 19, .ld none (.s 18)⟩, ⟨none, some 20, .len (.s 19)⟩, ⟨none, some 21, .bin .leq (.s 20) (.c (.lit (.int .i64 12)))⟩, ⟨none, some 22, .call 93 [.s 21, (.c (.lit (.int .i64 8)))]⟩, ⟨none, some 23, .bsl (.lit (.int .i64 0)) 1 2 [(0, (.s 17)), (1, (.s 22))]⟩, ⟨none, some 24, .call 92 [.s 23]⟩, ⟨none, some 4, .mv (.s 24)⟩]) (.seq (.reg [⟨none, some 25, .mv (.s 4)⟩, ⟨none, some 26, .bin .neq (.s 25) (.c (.lit (.int .i64 0)))⟩]) (.cond (.s 26) (.seq (.reg [⟨none, some 27, .mv (.s 4)⟩, ⟨none, some 2, .mv (.c (.lit (.int .i64 0)))⟩, ⟨none, some 3, .mv (.s 27)⟩]) .ret) .skip))) (.seq (.reg [⟨none, some 28, .fa 0 (.s 1)⟩, ⟨none, some 29, .ld none (.s 28)⟩, ⟨none, some 30, .ia 1 (.s 29) (.c (.lit (.int .i64 0)))⟩, ⟨none, some 31, .ld none (.s 30)⟩, ⟨none, some 32, .len (.s 31)⟩, ⟨none, some 5, .mv (.s 32)⟩]) (.seq (.seq (.reg [⟨none, some 33, .fa 0 (.s 1)⟩, ⟨none, some 34, .ld none (.s 33)⟩, ⟨none, some 35, .len (.s 34)⟩, ⟨none, some 36, .mv (.c (.lit (.int .i64 0)))⟩]) (.block 0 (.loop [36, 35, 34, 5, 1] (.seq (.reg [⟨none, some 37, .bin .lss (.s 36) (.s 35)⟩]) (.seq (.cond (.s 37) .skip (.exit 0)) (.seq (.block 1 (.seq (.reg [⟨none, some 38, .mv (.s 36)⟩, ⟨none, some 39, .ia 1 (.s 34) (.s 36)⟩, ⟨none, some 40, .ld none (.s 39)⟩, ⟨none, some 6, .mv (.s 38)⟩, ⟨none, some 7, .mv (.s 40)⟩]) (.seq (.reg [⟨none, some 41, .mv (.s 7)⟩, ⟨none, some 42, .call 110 [.s 41, (.c (.fn 111 0 []))]⟩, ⟨none, some 8, .mv (.s 42)⟩]) (.seq (.reg [⟨none, some 43, .mv (.s 7)⟩, ⟨none, some 44, .len (.s 43)⟩, ⟨none, some 45, .bin .gtr (.s 44) (.c (.lit (.int .i64 0)))⟩, ⟨none, some 46, .mv (.s 45)⟩, ⟨some (46, true), some 47, .mv (.s 7)⟩, ⟨some (46, true), some 48, .len (.s 47)⟩, ⟨some (46, true), some 49, .mv (.s 5)⟩, ⟨some (46, true), some 50, .bin .eql (.s 48) (.s 49)⟩, ⟨none, some 51, .pick (.s 46) (.s 50) (.c (.lit (.bool false)))⟩, ⟨none, some 52, .call 93 [.s 51, (.c (.lit (.int .i64 10)))]⟩, ⟨none, some 53, .mv (.s 7)⟩, ⟨none, some 54, .len (.s 53)⟩, ⟨none, some 55, .bin .leq (.s 54) (.c (.lit (.int .i64 12)))⟩, ⟨none, some 56, .call 93 [.s 55, (.c (.lit (.int .i64 8)))]⟩, ⟨none, some 57, .mv (.s 8)⟩, ⟨none, some 58, .un .not (.s 57)⟩, ⟨none, some 59, .call 93 [.s 58, (.c (.lit (.int .i64 2)))]⟩, ⟨none, some 60, .bsl (.lit (.int .i64 0)) 1 3 [(0, (.s 52)), (1, (.s 56)), (2, (.s 59))]⟩, ⟨none, some 61, .call 92 [.s 60]⟩, ⟨none, some 9, .mv (.s 61)⟩]) (.seq (.reg [⟨none, some 62, .mv (.s 9)⟩, ⟨none, some 63, .bin .neq (.s 62) (.c (.lit (.int .i64 0)))⟩]) (.cond (.s 63) (.seq (.reg [⟨none, some 64, .mv (.s 6)⟩, ⟨none, some 65, .mv (.s 9)⟩, ⟨none, some 2, .mv (.s 64)⟩, ⟨none, some 3, .mv (.s 65)⟩]) .ret) .skip)))))) (.reg [⟨none, some 66, .bin .add (.s 36) (.c (.lit (.int .i64 1)))⟩, ⟨none, some 36, .mv (.s 66)⟩]))))))) (.seq (.reg [⟨none, some 67, .fa 3 (.s 1)⟩, ⟨none, some 68, .ld none (.s 67)⟩, ⟨none, some 69, .call 94 [.s 68]⟩, ⟨none, some 70, .mv (.s 69)⟩, ⟨some (70, true), some 71, .fa 4 (.s 1)⟩, ⟨some (70, true), some 72, .ld none (.s 71)⟩, ⟨some (70, true), some 73, .call 94 [.s 72]⟩, ⟨none, some 74, .pick (.s 70) (.s 73) (.c (.lit (.bool false)))⟩, ⟨none, some 75, .call 93 [.s 74, (.c (.lit (.int .i64 2)))]⟩, ⟨none, some 76, .fa 1 (.s 1)⟩, ⟨none, some 77, .ld none (.s 76)⟩, ⟨none, some 78, .len (.s 77)⟩, ⟨none, some 79, .fa 2 (.s 1)⟩, ⟨none, some 80, .ld none (.s 79)⟩, ⟨none, some 81, .len (.s 80)⟩, ⟨none, some 82, .bin .add (.s 78) (.s 81)⟩, ⟨none, some 83, .bin .gtr (.s 82) (.c (.lit (.int .i64 0)))⟩, ⟨none, some 84, .call 93 [.s 83, (.c (.lit (.int .i64 10)))]⟩, ⟨none, some 85, .bsl (.lit (.int .i64 0)) 1 2 [(0, (.s 75)), (1, (.s 84))]⟩, ⟨none, some 86, .call 92 [.s 85]⟩, ⟨none, some 10, .mv (.s 86)⟩]) (.seq (.seq (.reg [⟨none, some 87, .mv (.s 10)⟩, ⟨none, some 88, .bin .neq (.s 87) (.c (.lit (.int .i64 0)))⟩]) (.cond (.s 88) (.seq (.reg [⟨none, some 89, .mv (.s 10)⟩, ⟨none, some 2, .mv (.c (.lit (.int .i64 0)))⟩, ⟨none, some 3, .mv (.s 89)⟩]) .ret) .skip)) (.seq (.seq (.reg [⟨none, some 91, .fa 1 (.s 1)⟩, ⟨none, some 92, .ld none (.s 91)⟩, ⟨none, some 93, .fa 0 (.s 1)⟩, ⟨none, some 94, .ld none (.s 93)⟩, ⟨none, some 95, .len (.s 94)⟩, ⟨none, some 96, .call 112 [.s 92, .s 95]⟩, ⟨none, some 90, .mv (.s 96)⟩, ⟨none, some 97, .ext (.s 90) 0⟩, ⟨none, some 98, .ext (.s 90) 1⟩, ⟨none, some 11, .mv (.s 97)⟩, ⟨none, some 12, .mv (.s 98)⟩]) (.seq (.reg [⟨none, some 99, .mv (.s 12)⟩, ⟨none, some 100, .bin .neq (.s 99) (.c (.lit (.int .i64 0)))⟩]) (.cond (.s 100) (.seq (.reg [⟨none, some 101, .mv (.s 11)⟩, ⟨none, some 102, .mv (.s 12)⟩, ⟨none, some 2, .mv (.s 101)⟩, ⟨none, some 3, .mv (.s 102)⟩]) .ret) .skip))) (.seq (.reg [⟨none, some 103, .fa 2 (.s 1)⟩, ⟨none, some 104, .ld none (.s 103)⟩, ⟨none, some 105, .mv (.s 5)⟩, ⟨none, some 106, .call 112 [.s 104, .s 105]⟩, ⟨none, some 107, .ext (.s 106) 0⟩, ⟨none, some 108, .ext (.s 106) 1⟩, ⟨none, some 2, .mv (.s 107)⟩, ⟨none, some 3, .mv (.s 108)⟩]) .ret))))))))⟩ := by kernel_rfl
set_option maxHeartbeats 2000000 in
theorem CheckTask_z (k : Nat) (t : Tk) (hb : Bd t) : runZ MT (orA (k + 5)) (itA (k + 5)) 4000000 34 [encT t] [] = some (.tup [I64 (taskF id t).1, I64 (taskF id t).2], []) := by
  have hs1 : (MV.sl (t.ter.map encW)).slen = some t.ter.length := by simp [MV.slen]
  have hs2 : (MV.sl (t.rows.map I64)).slen = some t.rows.length := by simp [MV.slen]
  have hs3 : (MV.sl (t.ties.map I64)).slen = some t.ties.length := by simp [MV.slen]
  have hbw := hb.w
  obtain ⟨b1, b2, b3, b4⟩ := hb
  have f0 : firstE [(0 : Int), 0] = 0 := rfl
  refine runZ_of mf_CheckTask (by simp) ?_
  simp only [argsL]
  by_cases hh : headE t = 0
  · obtain ⟨k1, k2⟩ := headE_z hh
    have e0 := Tk.head k1
    have hsw := Tk.headW t
    have HT := Lib.hid (show taskF id t = if (rowsE t.W 0 t.ter).2 = 0 then
      if tailE t = 0 then
        if (lnsE (t.ter.length : Int) (-1) 0 t.rows).2 = 0 then lnsE (t.W : Int) (-1) 0 t.ties else lnsE (t.ter.length : Int) (-1) 0 t.rows
      else (0, tailE t)
      else rowsE t.W 0 t.ter by unfold taskF; rw [if_pos hh]; rfl)
    generalize t.ter.getD 0 [] = r0 at e0 hsw
    repeat (first | apply ef_seq | (apply ef_mv; exact rfl; exact rfl) | (apply ef_bin; exact rfl; exact rfl; exact rfl; (first | exact cmp_t rfl (by first | exact rfl | (simp only [cmpP]; omega)) | exact cmp_f rfl (by simp only [cmpP]; omega))) | (apply ef_len; exact rfl; exact rfl; (assumption)) | (apply ef_ldr; exact rfl; exact rfl; (exact rfl)) | (apply ef_ldp; exact rfl; exact rfl; exact rfl; exact rfl; (exact rfl); (exact rfl)) | (apply ef_ias; exact rfl; exact rfl; exact rfl; (omega); assumption; exact rfl) | (apply ef_fap; exact rfl; exact rfl) | (apply ef_box; exact rfl; exact rfl; exact rfl; exact rfl) | (apply ef_bsl; exact rfl; (repeat (apply XVs.cons; exact rfl)); exact XVs.nil; exact rfl) | apply ef_nil | apply seqQ.normal | apply ef_block | apply ef_skip | (apply ef_condf; exact rfl; (exact (rfl : false = false))) | (apply ef_call; exact rfl; ((repeat (apply XVs.cons; exact rfl)); exact XVs.nil); (with_reducible exact unless_c _ _ _ _ rfl)) | (apply ef_call; exact rfl; ((repeat (apply XVs.cons; exact rfl)); exact XVs.nil); (with_reducible apply first2_c); exact rfl; exact rfl; exact rfl; (assumption)))
    refine ef_loopf (α := Nat) (fun s => s ≤ t.ter.length ∧ rowsE t.W 0 t.ter = rowsE t.W s (t.ter.drop s)) (fun s => [(36, I64 (s : Int))]) [(35, _), (34, _), (5, _), (1, _)] (fun _ => _) (fun s => t.ter.length - s) 0 [36] (fun _ => rfl) (by ((repeat (refine Hold.cons (by exact rfl) ?_)); exact Hold.nil)) (by ((repeat (refine Hold.cons (by exact rfl) ?_)); exact Hold.nil)) rfl rfl ⟨by simp, rfl⟩ (by simp; omega) ?_
    rintro i ⟨hi, hz⟩
    simp only at hi hz ⊢
    by_cases hlt2 : i < t.ter.length
    · have e1 := at_map encW t.ter i hlt2
      have HD := Lib.hid (drop_at t.ter i hlt2)
      have HZ := Lib.hid hz
      have hrl := b4 t.ter[i] (List.getElem_mem hlt2)
      clear hz
      generalize t.ter[i] = r at e1 HD hrl
      have hsr : (encW r).slen = some r.length := by simp [MV.slen]
      have hcf := fun h => ContainsFuncI_c (k + 3) 111 [] (fun n => !inB n 0 10000) r h (v := encW r) (fv := .fn 111 0 []) (by omega) (fun z h => CheckTask1_c k z h) rfl (frz_sl (ltL_I 0 r)) (.sl r) (frz_lt rfl) rfl
      obtain ⟨e, he⟩ : ∃ e, rowE t.W r = e := ⟨_, rfl⟩
      have HE := Lib.hid he
      unfold rowE at he
      generalize (r.any fun n => !inB n 0 10000) = an at hcf he
      by_cases h1 : 0 < r.length
      · simp only [h1, decide_true, Bool.true_and] at he
        by_cases h0 : e = 0
        · subst h0
          repeat (first | apply ef_seq | (apply ef_mv; exact rfl; exact rfl) | (apply ef_bin; exact rfl; exact rfl; exact rfl; (first | exact cmp_t rfl (by first | exact rfl | (simp only [cmpP]; omega)) | exact cmp_f rfl (by simp only [cmpP]; omega) | ((with_reducible refine bin_add (wrap_of ?_ ?_)) <;> omega) | exact rfl)) | (apply ef_gy; exact rfl; (exact (rfl : true = true))) | (apply ef_pick; exact rfl; exact rfl; exact rfl) | (apply ef_len; exact rfl; exact rfl; (assumption)) | (apply ef_ldr; exact rfl; exact rfl; (exact rfl)) | (apply ef_ias; exact rfl; exact rfl; exact rfl; (omega); assumption; exact rfl) | (apply ef_not; exact rfl; exact rfl; exact rfl) | (apply ef_bsl; exact rfl; (repeat (apply XVs.cons; exact rfl)); exact XVs.nil; exact rfl) | apply ef_nil | apply seqQ.normal | apply blockQ.normal | apply ef_block | apply ef_skip | (apply ef_condt; exact rfl; (exact (rfl : true = true))) | (apply ef_condf; exact rfl; (exact (rfl : false = false))) | (apply ef_call; exact rfl; ((repeat (apply XVs.cons; exact rfl)); exact XVs.nil); (with_reducible first | exact hcf _ | exact unless_c _ _ _ _ rfl)) | (apply ef_call; exact rfl; ((repeat (apply XVs.cons; exact rfl)); exact XVs.nil); (with_reducible apply first3_c); exact rfl; exact rfl; exact rfl; (assumption)))
          (refine loopQ.normal _ _ ⟨i + 1, ⟨hlt2, by rw [HZ.out, HD.out]; simp only [rowsE, HE.out, if_true]⟩, (by first | (simp only; omega) | omega), ⟨by ((repeat (refine Hold.cons (by exact rfl) ?_)); exact Hold.nil), by ((repeat (refine Hold.cons (by exact rfl) ?_)); exact Hold.nil)⟩, .inr ⟨by ((repeat (refine hdl_cons rfl (by first | rfl | (simp [MV.lt, ltL, ltL_I, ltL_W])) ?_)); exact hdl_nil), by first | rfl | (simp [hltL, ltL, MV.lt, ltL, ltL_I, ltL_W])⟩, by first | exact rfl | (simp only [List.map_append, List.map_set]; exact rfl)⟩)
        · repeat (first | apply ef_seq | (apply ef_mv; exact rfl; exact rfl) | (apply ef_bin; exact rfl; exact rfl; exact rfl; (first | exact cmp_t rfl (by first | exact rfl | (simp only [cmpP]; omega)) | exact rfl)) | (apply ef_gy; exact rfl; (exact (rfl : true = true))) | (apply ef_pick; exact rfl; exact rfl; exact rfl) | (apply ef_len; exact rfl; exact rfl; (assumption)) | (apply ef_ldr; exact rfl; exact rfl; (exact rfl)) | (apply ef_ias; exact rfl; exact rfl; exact rfl; (omega); assumption; exact rfl) | (apply ef_not; exact rfl; exact rfl; exact rfl) | (apply ef_bsl; exact rfl; (repeat (apply XVs.cons; exact rfl)); exact XVs.nil; exact rfl) | apply ef_nil | apply seqQ.normal | apply loopQ.ret | apply ef_ret | apply seqQ.ret | apply blockQ.ret | apply ef_block | apply ef_skip | (apply ef_condt; exact rfl; (exact (rfl : true = true))) | (apply ef_call; exact rfl; ((repeat (apply XVs.cons; exact rfl)); exact XVs.nil); (with_reducible first | exact hcf _ | exact unless_c _ _ _ _ rfl)) | (apply ef_call; exact rfl; ((repeat (apply XVs.cons; exact rfl)); exact XVs.nil); (with_reducible apply first3_c); exact rfl; exact rfl; exact rfl; (assumption)))
          (refine fin2 rfl (by exact rfl) (by exact rfl) ?_)
          rw [HT.out, HZ.out, HD.out]; simp only [rowsE, HE.out, if_neg h0]
      · simp only [h1, decide_false, Bool.false_and] at he
        by_cases h0 : e = 0
        · subst h0
          simp [firstE, unl] at he
        · repeat (first | apply ef_seq | (apply ef_mv; exact rfl; exact rfl) | (apply ef_bin; exact rfl; exact rfl; exact rfl; (first | exact cmp_t rfl (by first | exact rfl | (simp only [cmpP]; omega)) | exact cmp_f rfl (by simp only [cmpP]; omega))) | (apply ef_gn; exact rfl; (exact (rfl : false = false)); exact rfl) | (apply ef_pick; exact rfl; exact rfl; exact rfl) | (apply ef_len; exact rfl; exact rfl; (assumption)) | (apply ef_ldr; exact rfl; exact rfl; (exact rfl)) | (apply ef_ias; exact rfl; exact rfl; exact rfl; (omega); assumption; exact rfl) | (apply ef_not; exact rfl; exact rfl; exact rfl) | (apply ef_bsl; exact rfl; (repeat (apply XVs.cons; exact rfl)); exact XVs.nil; exact rfl) | apply ef_nil | apply seqQ.normal | apply loopQ.ret | apply ef_ret | apply seqQ.ret | apply blockQ.ret | apply ef_block | apply ef_skip | (apply ef_condt; exact rfl; (exact (rfl : true = true))) | (apply ef_call; exact rfl; ((repeat (apply XVs.cons; exact rfl)); exact XVs.nil); (with_reducible first | exact hcf _ | exact unless_c _ _ _ _ rfl)) | (apply ef_call; exact rfl; ((repeat (apply XVs.cons; exact rfl)); exact XVs.nil); (with_reducible apply first3_c); exact rfl; exact rfl; exact rfl; (assumption)))
          (refine fin2 rfl (by exact rfl) (by exact rfl) ?_)
          rw [HT.out, HZ.out, HD.out]; simp only [rowsE, HE.out, if_neg h0]
    · rw [List.drop_eq_nil_of_le (by omega)] at hz
      have hp1 := fun h => linesErr_c (k + 3) (t.ter.length : Int) t.rows h (by omega) b2
      have hp2 := fun h => linesErr_c (k + 3) (t.W : Int) t.ties h (by omega) b3
      have HT2 := Lib.hid (HT.out.trans (if_pos (by rw [hz]; rfl)))
      clear hz
      generalize lnsE (t.ter.length : Int) (-1) 0 t.rows = p at hp1 HT2
      generalize lnsE (t.W : Int) (-1) 0 t.ties = q at hp2 HT2
      obtain ⟨p1, p2⟩ := p
      obtain ⟨q1, q2⟩ := q
      by_cases ht : tailE t = 0
      · obtain ⟨⟨g1, g2⟩, g3⟩ := tailE_z ht
        by_cases hp : p2 = 0
        · subst hp
          repeat (first | apply ef_seq | (apply ef_mv; exact rfl; exact rfl) | (apply ef_bin; exact rfl; exact rfl; exact rfl; (first | exact cmp_t rfl (by first | exact rfl | (simp only [cmpP]; omega)) | exact cmp_f rfl (by simp only [cmpP]; omega) | ((with_reducible refine bin_add (wrap_of ?_ ?_)) <;> omega))) | (apply ef_gy; exact rfl; (exact (rfl : true = true))) | (apply ef_pick; exact rfl; exact rfl; exact rfl) | (apply ef_len; exact rfl; exact rfl; (assumption)) | (apply ef_ldp; exact rfl; exact rfl; exact rfl; exact rfl; (exact rfl); (exact rfl)) | (apply ef_fap; exact rfl; exact rfl) | (apply ef_ext; exact rfl; exact rfl; exact rfl) | (apply ef_bsl; exact rfl; (repeat (apply XVs.cons; exact rfl)); exact XVs.nil; exact rfl) | apply ef_nil | apply seqQ.normal | apply loopQ.exit | apply ef_ret | apply ef_exit | apply seqQ.exit | apply blockQ.here | apply ef_skip | (apply ef_condf; exact rfl; (exact (rfl : false = false))) | (apply ef_call; exact rfl; ((repeat (apply XVs.cons; exact rfl)); exact XVs.nil); (with_reducible first | exact isHeight_c _ _ _ (by assumption) | exact unless_c _ _ _ _ rfl | exact hp1 _ | exact hp2 _)) | (apply ef_call; exact rfl; ((repeat (apply XVs.cons; exact rfl)); exact XVs.nil); (with_reducible apply first2_c); exact rfl; exact rfl; exact rfl; (assumption)))
          (refine fin2 rfl (by exact rfl) (by exact rfl) ?_)
          rw [HT2.out, if_pos ht]; rfl
        · repeat (first | apply ef_seq | (apply ef_mv; exact rfl; exact rfl) | (apply ef_bin; exact rfl; exact rfl; exact rfl; (first | exact cmp_t rfl (by first | exact rfl | (simp only [cmpP]; omega)) | exact cmp_f rfl (by simp only [cmpP]; omega) | ((with_reducible refine bin_add (wrap_of ?_ ?_)) <;> omega))) | (apply ef_gy; exact rfl; (exact (rfl : true = true))) | (apply ef_pick; exact rfl; exact rfl; exact rfl) | (apply ef_len; exact rfl; exact rfl; (assumption)) | (apply ef_ldp; exact rfl; exact rfl; exact rfl; exact rfl; (exact rfl); (exact rfl)) | (apply ef_fap; exact rfl; exact rfl) | (apply ef_ext; exact rfl; exact rfl; exact rfl) | (apply ef_bsl; exact rfl; (repeat (apply XVs.cons; exact rfl)); exact XVs.nil; exact rfl) | apply ef_nil | apply seqQ.normal | apply loopQ.exit | apply ef_ret | apply seqQ.ret | apply ef_exit | apply seqQ.exit | apply blockQ.here | apply ef_skip | (apply ef_condt; exact rfl; (exact (rfl : true = true))) | (apply ef_condf; exact rfl; (exact (rfl : false = false))) | (apply ef_call; exact rfl; ((repeat (apply XVs.cons; exact rfl)); exact XVs.nil); (with_reducible first | exact isHeight_c _ _ _ (by assumption) | exact unless_c _ _ _ _ rfl | exact hp1 _)) | (apply ef_call; exact rfl; ((repeat (apply XVs.cons; exact rfl)); exact XVs.nil); (with_reducible apply first2_c); exact rfl; exact rfl; exact rfl; (assumption)))
          (refine fin2 rfl (by exact rfl) (by exact rfl) ?_)
          rw [HT2.out, if_pos ht, if_neg hp]
      · obtain ⟨e, he⟩ : ∃ e, tailE t = e := ⟨_, rfl⟩
        have HT3 := Lib.hid (show taskF id t = (0, e) by rw [HT2.out, if_neg ht, he])
        rw [he] at ht
        unfold tailE at he
        cases g1 : inB t.cl 0 10000
        · rw [g1, Bool.false_and] at he
          repeat (first | apply ef_seq | (apply ef_mv; exact rfl; exact rfl) | (apply ef_bin; exact rfl; exact rfl; exact rfl; (first | exact cmp_t rfl (by first | exact rfl | (simp only [cmpP]; omega)) | exact cmp_f rfl (by simp only [cmpP]; omega) | ((with_reducible refine bin_add (wrap_of ?_ ?_)) <;> omega) | exact rfl)) | (apply ef_gn; exact rfl; (exact (rfl : false = false)); exact rfl) | (apply ef_pick; exact rfl; exact rfl; exact rfl) | (apply ef_len; exact rfl; exact rfl; (assumption)) | (apply ef_ldp; exact rfl; exact rfl; exact rfl; exact rfl; (exact rfl); (exact rfl)) | (apply ef_fap; exact rfl; exact rfl) | (apply ef_bsl; exact rfl; (repeat (apply XVs.cons; exact rfl)); exact XVs.nil; exact rfl) | apply ef_nil | apply seqQ.normal | apply loopQ.exit | apply ef_ret | apply seqQ.ret | apply ef_exit | apply seqQ.exit | apply blockQ.here | (apply ef_condt; exact rfl; (exact (rfl : true = true))) | (apply ef_condf; exact rfl; (exact (rfl : false = false))) | (apply ef_call; exact rfl; ((repeat (apply XVs.cons; exact rfl)); exact XVs.nil); (with_reducible first | exact isHeight_c _ _ _ (by assumption) | exact unless_c _ _ _ _ rfl)) | (apply ef_call; exact rfl; ((repeat (apply XVs.cons; exact rfl)); exact XVs.nil); (with_reducible apply first2_c); exact rfl; exact rfl; exact rfl; (assumption)))
          (refine fin2 rfl (by exact rfl) (by exact rfl) ?_)
          rw [HT3.out]
        · rw [g1, Bool.true_and] at he
          repeat (first | apply ef_seq | (apply ef_mv; exact rfl; exact rfl) | (apply ef_bin; exact rfl; exact rfl; exact rfl; (first | exact cmp_t rfl (by first | exact rfl | (simp only [cmpP]; omega)) | exact cmp_f rfl (by simp only [cmpP]; omega) | ((with_reducible refine bin_add (wrap_of ?_ ?_)) <;> omega) | exact rfl)) | (apply ef_gy; exact rfl; (exact (rfl : true = true))) | (apply ef_pick; exact rfl; exact rfl; exact rfl) | (apply ef_len; exact rfl; exact rfl; (assumption)) | (apply ef_ldp; exact rfl; exact rfl; exact rfl; exact rfl; (exact rfl); (exact rfl)) | (apply ef_fap; exact rfl; exact rfl) | (apply ef_bsl; exact rfl; (repeat (apply XVs.cons; exact rfl)); exact XVs.nil; exact rfl) | apply ef_nil | apply seqQ.normal | apply loopQ.exit | apply ef_ret | apply seqQ.ret | apply ef_exit | apply seqQ.exit | apply blockQ.here | (apply ef_condt; exact rfl; (exact (rfl : true = true))) | (apply ef_condf; exact rfl; (exact (rfl : false = false))) | (apply ef_call; exact rfl; ((repeat (apply XVs.cons; exact rfl)); exact XVs.nil); (with_reducible first | exact isHeight_c _ _ _ (by first | assumption | rfl) | exact unless_c _ _ _ _ rfl)) | (apply ef_call; exact rfl; ((repeat (apply XVs.cons; exact rfl)); exact XVs.nil); (with_reducible apply first2_c); exact rfl; exact rfl; exact rfl; (assumption)))
          (refine fin2 rfl (by exact rfl) (by exact rfl) ?_)
          rw [HT3.out]
  · have HT := Lib.hid (show taskF id t = (0, headE t) by unfold taskF; rw [if_neg hh])
    obtain ⟨e, he⟩ : ∃ e, headE t = e := ⟨_, rfl⟩
    rw [he] at hh HT
    unfold headE at he
    repeat (first | apply ef_seq | (apply ef_mv; exact rfl; exact rfl) | (apply ef_bin; exact rfl; exact rfl; exact rfl; (first | exact cmp_t rfl (by first | exact rfl | (simp only [cmpP]; omega)) | exact rfl)) | (apply ef_len; exact rfl; exact rfl; (assumption)) | (apply ef_ldp; exact rfl; exact rfl; exact rfl; exact rfl; (exact rfl); (exact rfl)) | (apply ef_fap; exact rfl; exact rfl) | (apply ef_box; exact rfl; exact rfl; exact rfl; exact rfl) | (apply ef_bsl; exact rfl; (repeat (apply XVs.cons; exact rfl)); exact XVs.nil; exact rfl) | apply ef_nil | apply seqQ.normal | apply ef_ret | apply seqQ.ret | (apply ef_condt; exact rfl; (exact (rfl : true = true))) | (apply ef_call; exact rfl; ((repeat (apply XVs.cons; exact rfl)); exact XVs.nil); (with_reducible exact unless_c _ _ _ _ rfl)) | (apply ef_call; exact rfl; ((repeat (apply XVs.cons; exact rfl)); exact XVs.nil); (with_reducible apply first2_c); exact rfl; exact rfl; exact rfl; (assumption)))
    (refine fin2 rfl (by exact rfl) (by exact rfl) ?_)
    rw [HT.out]
theorem CheckTask_c (k : Nat) (t : Tk) (hb : Bd t) (h : MHeap) : orA (k + 6) 34 [encT t] h = some (.tup [I64 (taskF id t).1, I64 (taskF id t).2], h) := by
  have := callA (k := k + 5) (h := h) (frzL_lt (ms := [encT t]) (by simp [ltL, encT_lt])) rfl (CheckTask_z k t hb) (by simp [okV, ok1, MV.lt, MV.pure]) rfl
  simpa [shV, sh1] using this
end Go.Proofs.Ytgjpdjihjphbdaa

/- Contracts: a task is checked by the reference; copies of tasks. -/
namespace Go.Proofs.Ytgjpdjihjphbdaa
open Go.RowKit
set_option linter.unusedVariables false
theorem rowE_a {W : Nat} {r : List Int} (h : ¬ (0 < r.length ∧ r.length = W)) : rowE W r = 10 := by
  have : (decide (0 < r.length) && ((r.length : Int) == (W : Int))) = false := by
    rw [Bool.eq_false_iff]
    intro hc
    rw [Bool.and_eq_true, decide_eq_true_eq, beq_iff_eq] at hc
    exact h ⟨hc.1, by omega⟩
  simp [rowE, this, firstE, unl]
theorem rowE_ok {W : Nat} {r : List Int} (h : 0 < r.length ∧ r.length = W) : rowE W r = firstE [0, unl (decide ((r.length : Int) ≤ 12)) 8, unl (!(r.any fun n => !inB n 0 10000)) 2] := by
  have : (decide (0 < r.length) && ((r.length : Int) == (W : Int))) = true := by
    rw [Bool.and_eq_true, decide_eq_true_eq, beq_iff_eq]
    exact ⟨h.1, by omega⟩
  simp [rowE, this, unl]
theorem rowE_b {W : Nat} {r : List Int} (h : 0 < r.length ∧ r.length = W) (h2 : ¬ (r.length : Int) ≤ 12) : rowE W r = 8 := by
  rw [rowE_ok h]; simp [h2, unl, firstE]
theorem rowE_c {W : Nat} {r : List Int} (h : 0 < r.length ∧ r.length = W) (h2 : (r.length : Int) ≤ 12) {b : Bool} (hb : (r.any fun n => !inB n 0 10000) = b) : rowE W r = if b then 2 else 0 := by
  rw [rowE_ok h, hb]; cases b <;> simp [h2, unl, firstE]
theorem mf_rCheckTask : MT.mf 39 = some ⟨94, [(.tmp 2), (.tmp 3)], (.seq (.reg [⟨none, some 1, .box 5 (.s 0)⟩, ⟨none, some 2, .mv (.c (.lit (.int .i64 0)))⟩, ⟨none, some 3, .mv (.c (.lit (.int .i64 0)))⟩]) (.seq (.seq (.reg [⟨none, some 8, .fa 0 (.s 1)⟩, ⟨none, some 9, .ld none (.s 8)⟩, ⟨none, some 10, .len (.s 9)⟩, ⟨none, some 11, .bin .eql (.s 10) (.c (.lit (.int .i64 0)))⟩]) (.cond (.s 11) (.seq (.reg [⟨none, some 2, .mv (.c (.lit (.int .i64 0)))⟩, ⟨none, some 3, .mv (.c (.lit (.int .i64 10)))⟩]) .ret) .skip)) (.seq (.seq (.reg [⟨none, some 12, .fa 0 (.s 1)⟩, ⟨none, some 13, .ld none (.s 12)⟩, ⟨none, some 14, .len (.s 13)⟩, ⟨none, some 15, .bin .gtr (.s 14) (.c (.lit (.int .i64 12)))⟩]) (.cond (.s 15) (.seq (.reg [⟨none, some 2, .mv (.c (.lit (.int .i64 0)))⟩, ⟨none, some 3, .mv (.c (.lit (.int .i64 8)))⟩]) .ret) .skip)) (.seq (.seq (.reg [⟨none, some 4, .mv (.c (.lit (.int .i64 0)))⟩]) (.block 0 (.loop [4, 1] (.seq (.seq (.reg [⟨none, some 16, .mv (.s 4)⟩, ⟨none, some 17, .fa 0 (.s 1)⟩, ⟨none, some 18, .ld none (.s 17)⟩, ⟨none, some 19, .len (.s 18)⟩, ⟨none, some 20, .bin .lss (.s 16) (.s 19)⟩]) (.cond (.s 20) .skip (.exit 0))) (.seq (.block 1 (.seq (.reg [⟨none, some 23, .fa 0 (.s 1)⟩, ⟨none, some 24, .ld none (.s 23)⟩, ⟨none, some 25, .mv (.s 4)⟩, ⟨none, some 26, .ia 1 (.s 24) (.s 25)⟩, ⟨none, some 27, .ld none (.s 26)⟩, ⟨none, some 5, .mv (.s 27)⟩]) (.seq (.seq (.reg [⟨none, some 28, .mv (.s 5)⟩, ⟨none, some 29, .len (.s 28)⟩, ⟨none, some 30, .bin .eql (.s 29) (.c (.lit (.int .i64 0)))⟩, ⟨none, some 31, .mv (.s 30)⟩, ⟨some (31, false), some 32, .mv (.s 5)⟩, ⟨some (31, false), some 33, .len (.s 32)⟩, ⟨some (31, false), some 34, .fa 0 (.s 1)⟩, ⟨some (31, false), some 35, .ld none (.s 34)⟩, ⟨some (31, false), some 36, .ia 1 (.s 35) (.c (.lit (.int .i64 0)))⟩, ⟨some (31, false), some 37, .ld none (.s 36)⟩, ⟨some (31, false), some 38, .len (.s 37)⟩, ⟨some (31, false), some 39, .bin .neq (.s 33) (.s 38)⟩, ⟨none, some 40, .pick (.s 31) (.c (.lit (.bool true))) (.s 39)⟩]) (.cond (.s 40) (.seq (.reg [⟨none, some 41, .mv (.s 4)⟩, ⟨none, some 2, .mv (.s 41)⟩, ⟨none, some 3, .mv (.c (.lit (.int .i64 10)))⟩]) .ret) .skip)) (.seq (.seq (.reg [⟨none, some 42, .mv (.s 5)⟩, ⟨none, some 43, .len (.s 42)⟩, ⟨none, some 44, .bin .gtr (.s 43) (.c (.lit (.int .i64 12)))⟩]) (.cond (.s 44) (.seq (.reg [⟨none, some 45, .mv (.s 4)⟩, ⟨none, some 2, .mv (.s 45)⟩, ⟨none, some 3, .mv (.c (.lit (.int .i64 8)))⟩]) .ret) .skip)) (.seq (.reg [⟨none, some 6, .mv (.c (.lit (.int .i64 0)))⟩]) (.block 2 (.loop [6, 5, 4, 1] (.seq (.seq (.reg [⟨none, some 46, .mv (.s 6)⟩, ⟨none, some 47, .mv (.s 5)⟩, ⟨none, some 48, .len (.s 47)⟩, ⟨none, some 49, .bin .lss (.s 46) (.s 48)⟩]) (.cond (.s 49) .skip (.exit 2))) (.seq (.block 3 (.seq (.reg [⟨none, some 52, .mv (.s 5)⟩, ⟨none, some 53, .mv (.s 6)⟩, ⟨none, some 54, .ia 1 (.s 52) (.s 53)⟩, ⟨none, some 55, .ld none (.s 54)⟩, ⟨none, some 56, .call 22 [.s 55, (.c (.lit (.int .i64 0))), (.c (.lit (.int .i64 10000)))]⟩, ⟨none, some 57, .un .not (.s 56)⟩]) (.cond (.s 57) (.seq (.reg [⟨none, some 58, .mv (.s 4)⟩, ⟨none, some 2, .mv (.s 58)⟩, ⟨none, some 3, .mv (.c (.lit (.int .i64 2)))⟩]) .ret) .skip))) (.reg [⟨none, some 50, .mv (.s 6)⟩, ⟨none, some 51, .bin .add (.s 50) (.c (.lit (.int .i64 1)))⟩, ⟨none, some 6, .mv (.s 51)⟩])))))))))) (.reg [⟨none, some 21, .mv (.s 4)⟩, ⟨none, some 22, .bin .add (.s 21) (.c (.lit (.int .i64 1)))⟩, ⟨none, some 4, .mv (.s 22)⟩])))))) (.seq (.seq (.reg [⟨none, some 59, .fa 3 (.s 1)⟩, ⟨none, some 60, .ld none (.s 59)⟩, ⟨none, some 61, .call 22 [.s 60, (.c (.lit (.int .i64 0))), (.c (.lit (.int .i64 10000)))]⟩, ⟨none, some 62, .un .not (.s 61)⟩, ⟨none, some 63, .mv (.s 62)⟩, ⟨some (63, false), some 64, .fa 4 (.s 1)⟩, ⟨some (63, false), some 65, .ld none (.s 64)⟩, ⟨some (63, false), some 66, .call 22 [.s 65, (.c (.lit (.int .i64 0))), (.c (.lit (.int .i64 10000)))]⟩, ⟨some (63, false), some 67, .un .not (.s 66)⟩, ⟨none, some 68, .pick (.s 63) (.c (.lit (.bool true))) (.s 67)⟩]) (.cond (.s 68) (.seq (.reg [⟨none, some 2, .mv (.c (.lit (.int .i64 0)))⟩, ⟨none, some 3, .mv (.c (.lit (.int .i64 2)))⟩]) .ret) .skip)) (.seq (.seq (.reg [⟨none, some 69, .fa 1 (.s 1)⟩, ⟨none, some 70, .ld none (.s 69)⟩, ⟨none, some 71, .len (.s 70)⟩, ⟨none, some 72, .fa 2 (.s 1)⟩, ⟨none, some 73, .ld none (.s 72)⟩, ⟨none, some 74, .len (.s 73)⟩, ⟨none, some 75, .bin .add (.s 71) (.s 74)⟩, ⟨none, some 76, .bin .eql (.s 75) (.c (.lit (.int .i64 0)))⟩]) (.cond (.s 76) (.seq (.reg [⟨none, some 2, .mv (.c (.lit (.int .i64 0)))⟩, ⟨none, some 3, .mv (.c (.lit (.int .i64 10)))⟩]) .ret) .skip)) (.seq (.seq (.reg [⟨none, some 77, .fa 1 (.s 1)⟩, ⟨none, some 78, .ld none (.s 77)⟩, ⟨none, some 79, .fa 0 (.s 1)⟩, ⟨none, some 80, .ld none (.s 79)⟩, ⟨none, some 81, .len (.s 80)⟩, ⟨none, some 82, .call 118 [.s 78, .s 81]⟩, ⟨none, some 7, .mv (.s 82)⟩]) (.seq (.reg [⟨none, some 83, .mv (.s 7)⟩, ⟨none, some 84, .bin .neq (.s 83) (.c (.lit (.int .i64 0)))⟩]) (.cond (.s 84) (.seq (.reg [⟨none, some 85, .mv (.s 7)⟩, ⟨none, some 2, .mv (.c (.lit (.int .i64 0)))⟩, ⟨none, some 3, .mv (.s 85)⟩]) .ret) .skip))) (.seq (.reg [⟨none, some 86, .fa 2 (.s 1)⟩, ⟨none, some 87, .ld none (.s 86)⟩, ⟨none, some 88, .fa 0 (.s 1)⟩, ⟨none, some 89, .ld none (.s 88)⟩, ⟨none, some 90, .ia 1 (.s 89) (.c (.lit (.int .i64 0)))⟩, ⟨none, some 91, .ld none (.s 90)⟩, ⟨none, some 92, .len (.s 91)⟩, ⟨none, some 93, .call 118 [.s 87, .s 92]⟩, ⟨none, some 2, .mv (.c (.lit (.int .i64 0)))⟩, ⟨none, some 3, .mv (.s 93)⟩]) .ret))))))))⟩ := by kernel_rfl
set_option maxHeartbeats 2000000 in
theorem rCheckTask_z (k : Nat) (t : Tk) (hb : Bd t) : runZ MT (orA (k + 2)) (itA (k + 2)) 4000000 39 [encT t] [] = some (.tup [I64 (taskF (fun _ => 0) t).1, I64 (taskF (fun _ => 0) t).2], []) := by
  have hs1 : (MV.sl (t.ter.map encW)).slen = some t.ter.length := by simp [MV.slen]
  have hs2 : (MV.sl (t.rows.map I64)).slen = some t.rows.length := by simp [MV.slen]
  have hs3 : (MV.sl (t.ties.map I64)).slen = some t.ties.length := by simp [MV.slen]
  have hbw := hb.w
  obtain ⟨b1, b2, b3, b4⟩ := hb
  refine runZ_of mf_rCheckTask (by simp) ?_
  simp only [argsL]
  by_cases h1 : t.ter.length = 0
  · have HE := Lib.hid (show headE t = 10 by simp [headE, h1, firstE, unl])
    repeat (first | apply ef_seq | (apply ef_mv; exact rfl; exact rfl) | (apply ef_bin; exact rfl; exact rfl; exact rfl; (exact cmp_t rfl (by first | exact rfl | (simp only [cmpP]; omega)))) | (apply ef_len; exact rfl; exact rfl; (assumption)) | (apply ef_ldp; exact rfl; exact rfl; exact rfl; exact rfl; (exact rfl); (exact rfl)) | (apply ef_fap; exact rfl; exact rfl) | (apply ef_box; exact rfl; exact rfl; exact rfl; exact rfl) | apply ef_nil | apply seqQ.normal | apply ef_ret | apply seqQ.ret | (apply ef_condt; exact rfl; (exact (rfl : true = true))))
    (refine fin2 rfl (by exact rfl) (by exact rfl) ?_)
    unfold taskF; rw [HE.out]; rfl
  · by_cases h2 : 12 < t.ter.length
    · have HE := Lib.hid (show headE t = 8 by
        have q1 : ¬ (t.ter.length : Int) ≤ 12 := by omega
        have q2 : (t.ter.length : Int) > 0 := by omega
        unfold headE; rw [decide_eq_true q2, decide_eq_false q1]; rfl)
      repeat (first | apply ef_seq | (apply ef_mv; exact rfl; exact rfl) | (apply ef_bin; exact rfl; exact rfl; exact rfl; (first | exact cmp_t rfl (by first | exact rfl | (simp only [cmpP]; omega)) | exact cmp_f rfl (by simp only [cmpP]; omega))) | (apply ef_len; exact rfl; exact rfl; (assumption)) | (apply ef_ldp; exact rfl; exact rfl; exact rfl; exact rfl; (exact rfl); (exact rfl)) | (apply ef_fap; exact rfl; exact rfl) | (apply ef_box; exact rfl; exact rfl; exact rfl; exact rfl) | apply ef_nil | apply seqQ.normal | apply ef_ret | apply seqQ.ret | apply ef_skip | (apply ef_condt; exact rfl; (exact (rfl : true = true))) | (apply ef_condf; exact rfl; (exact (rfl : false = false))))
      (refine fin2 rfl (by exact rfl) (by exact rfl) ?_)
      unfold taskF; rw [HE.out]; rfl
    · have k1 : 0 < t.ter.length := by omega
      have HH : headE t = 0 := by
        unfold headE
        rw [firstE_zero, firstE_zero, unl_eq (by decide), unl_eq (by decide)]
        simp only [decide_eq_true_eq]
        exact ⟨by omega, by omega, rfl⟩
      have e0 := Tk.head k1
      have hsw := Tk.headW t
      have HT := Lib.hid (show taskF (fun _ => 0) t = if (rowsE t.W 0 t.ter).2 = 0 then
        if tailE t = 0 then
          if (lnsE (t.ter.length : Int) (-1) 0 t.rows).2 = 0 then (0, (lnsE (t.W : Int) (-1) 0 t.ties).2) else (0, (lnsE (t.ter.length : Int) (-1) 0 t.rows).2)
        else (0, tailE t)
        else rowsE t.W 0 t.ter by unfold taskF; rw [if_pos HH])
      clear HH
      generalize t.ter.getD 0 [] = r0 at e0 hsw
      repeat (first | apply ef_seq | (apply ef_mv; exact rfl; exact rfl) | (apply ef_bin; exact rfl; exact rfl; exact rfl; (exact cmp_f rfl (by simp only [cmpP]; omega))) | (apply ef_len; exact rfl; exact rfl; (assumption)) | (apply ef_ldp; exact rfl; exact rfl; exact rfl; exact rfl; (exact rfl); (exact rfl)) | (apply ef_fap; exact rfl; exact rfl) | (apply ef_box; exact rfl; exact rfl; exact rfl; exact rfl) | apply ef_nil | apply seqQ.normal | apply ef_block | apply ef_skip | (apply ef_condf; exact rfl; (exact (rfl : false = false))))
      refine ef_loopf (α := Nat) (fun s => s ≤ t.ter.length ∧ rowsE t.W 0 t.ter = rowsE t.W s (t.ter.drop s)) (fun s => [(4, I64 (s : Int))]) [(1, _)] (fun _ => _) (fun s => t.ter.length - s) 0 [4] (fun _ => rfl) (by ((repeat (refine Hold.cons (by exact rfl) ?_)); exact Hold.nil)) (by ((repeat (refine Hold.cons (by exact rfl) ?_)); exact Hold.nil)) rfl rfl ⟨by simp, rfl⟩ (by simp; omega) ?_
      rintro i ⟨hi, hz⟩
      try simp only at hi hz ⊢
      by_cases hlt2 : i < t.ter.length
      · have e1 := at_map encW t.ter i hlt2
        have HD := Lib.hid (drop_at t.ter i hlt2)
        have HZ := Lib.hid hz
        have hrl := b4 t.ter[i] (List.getElem_mem hlt2)
        clear hz
        generalize t.ter[i] = r at e1 HD hrl
        have hsr : (encW r).slen = some r.length := by simp [MV.slen]
        by_cases h3 : 0 < r.length ∧ r.length = t.W
        · obtain ⟨h4, h5⟩ := h3
          by_cases h6 : (r.length : Int) ≤ 12
          · repeat (first | apply ef_seq | (apply ef_mv; exact rfl; exact rfl) | (apply ef_bin; exact rfl; exact rfl; exact rfl; (first | exact cmp_t rfl (by first | exact rfl | (simp only [cmpP]; omega)) | exact cmp_f rfl (by simp only [cmpP]; omega))) | (apply ef_gy; exact rfl; (exact (rfl : false = false))) | (apply ef_pick; exact rfl; exact rfl; exact rfl) | (apply ef_len; exact rfl; exact rfl; (assumption)) | (apply ef_ldr; exact rfl; exact rfl; (exact rfl)) | (apply ef_ldp; exact rfl; exact rfl; exact rfl; exact rfl; (exact rfl); (exact rfl)) | (apply ef_ias; exact rfl; exact rfl; exact rfl; (omega); assumption; exact rfl) | (apply ef_fap; exact rfl; exact rfl) | apply ef_nil | apply seqQ.normal | apply ef_block | apply ef_skip | (apply ef_condt; exact rfl; (exact (rfl : true = true))) | (apply ef_condf; exact rfl; (exact (rfl : false = false))))
            refine ef_loopf (α := Nat) (fun s => s ≤ r.length ∧ (r.any fun n => !inB n 0 10000) = ((r.drop s).any fun n => !inB n 0 10000)) (fun s => [(6, I64 (s : Int))]) [(5, _), (4, _), (1, _)] (fun _ => _) (fun s => r.length - s) 0 [6] (fun _ => rfl) (by ((repeat (refine Hold.cons (by exact rfl) ?_)); exact Hold.nil)) (by ((repeat (refine Hold.cons (by exact rfl) ?_)); exact Hold.nil)) rfl rfl ⟨by simp, rfl⟩ (by simp; omega) ?_
            rintro j ⟨hj, hy⟩
            try simp only at hj hy ⊢
            by_cases hlt3 : j < r.length
            · have e2 := at_map I64 r j hlt3
              have HD2 := Lib.hid (drop_at r j hlt3)
              have HY := Lib.hid hy
              clear hy
              generalize r[j] = n at e2 HD2
              cases h7 : inB n 0 10000
              · have HE := Lib.hid (rowE_c ⟨h4, h5⟩ h6 (b := true) (by rw [HY.out, HD2.out]; simp [h7]))
                repeat (first | apply ef_seq | (apply ef_mv; exact rfl; exact rfl) | (apply ef_bin; exact rfl; exact rfl; exact rfl; (exact cmp_t rfl (by first | exact rfl | (simp only [cmpP]; omega)))) | (apply ef_len; exact rfl; exact rfl; (assumption)) | (apply ef_ldr; exact rfl; exact rfl; (exact rfl)) | (apply ef_ias; exact rfl; exact rfl; exact rfl; (omega); assumption; exact rfl) | (apply ef_notF; exact rfl; exact rfl) | apply ef_nil | apply seqQ.normal | apply loopQ.ret | apply ef_ret | apply seqQ.ret | apply blockQ.ret | apply ef_block | apply ef_skip | (apply ef_condt; exact rfl; (exact (rfl : true = true))) | (apply ef_call; exact rfl; ((repeat (apply XVs.cons; exact rfl)); exact XVs.nil); (with_reducible exact Within_c _ _ _ _ _ (by assumption))))
                (refine fin2 rfl (by exact rfl) (by exact rfl) ?_)
                rw [HT.out, HZ.out, HD.out]; simp only [rowsE, HE.out]; rfl
              · repeat (first | apply ef_seq | (apply ef_mv; exact rfl; exact rfl) | (apply ef_bin; exact rfl; exact rfl; exact rfl; (first | exact cmp_t rfl (by first | exact rfl | (simp only [cmpP]; omega)) | ((with_reducible refine bin_add (wrap_of ?_ ?_)) <;> omega))) | (apply ef_len; exact rfl; exact rfl; (assumption)) | (apply ef_ldr; exact rfl; exact rfl; (exact rfl)) | (apply ef_ias; exact rfl; exact rfl; exact rfl; (omega); assumption; exact rfl) | (apply ef_notT; exact rfl; exact rfl) | apply ef_nil | apply seqQ.normal | apply blockQ.normal | apply ef_block | apply ef_skip | (apply ef_condt; exact rfl; (exact (rfl : true = true))) | (apply ef_condf; exact rfl; (exact (rfl : false = false))) | (apply ef_call; exact rfl; ((repeat (apply XVs.cons; exact rfl)); exact XVs.nil); (with_reducible exact Within_c _ _ _ _ _ (by assumption))))
                (refine loopQ.normal _ _ ⟨j + 1, ⟨hlt3, by rw [HY.out, HD2.out]; simp [h7]⟩, (by first | (simp only; omega) | omega), ⟨by ((repeat (refine Hold.cons (by exact rfl) ?_)); exact Hold.nil), by ((repeat (refine Hold.cons (by exact rfl) ?_)); exact Hold.nil)⟩, .inl (Nat.le_refl _), (by first | exact List.take_length | exact rfl | exact takeF rfl rfl)⟩)
            · have HE := Lib.hid (rowE_c ⟨h4, h5⟩ h6 (b := false) (by rw [hy, List.drop_eq_nil_of_le (by omega)]; rfl))
              clear hy
              repeat (first | apply ef_seq | (apply ef_mv; exact rfl; exact rfl) | (apply ef_bin; exact rfl; exact rfl; exact rfl; (first | exact cmp_f rfl (by simp only [cmpP]; omega) | ((with_reducible refine bin_add (wrap_of ?_ ?_)) <;> omega))) | (apply ef_len; exact rfl; exact rfl; (assumption)) | apply ef_nil | apply seqQ.normal | apply loopQ.exit | apply ef_exit | apply seqQ.exit | apply blockQ.normal | apply blockQ.here | (apply ef_condf; exact rfl; (exact (rfl : false = false))))
              (refine loopQ.normal _ _ ⟨i + 1, ⟨hlt2, by rw [HZ.out, HD.out]; simp only [rowsE, HE.out]; rfl⟩, (by first | (simp only; omega) | omega), ⟨by ((repeat (refine Hold.cons (by exact rfl) ?_)); exact Hold.nil), by ((repeat (refine Hold.cons (by exact rfl) ?_)); exact Hold.nil)⟩, .inl (Nat.le_refl _), (by first | exact List.take_length | exact rfl | exact takeF rfl rfl)⟩)
          · have HE := Lib.hid (rowE_b ⟨h4, h5⟩ h6)
            repeat (first | apply ef_seq | (apply ef_mv; exact rfl; exact rfl) | (apply ef_bin; exact rfl; exact rfl; exact rfl; (first | exact cmp_t rfl (by first | exact rfl | (simp only [cmpP]; omega)) | exact cmp_f rfl (by simp only [cmpP]; omega))) | (apply ef_gy; exact rfl; (exact (rfl : false = false))) | (apply ef_pick; exact rfl; exact rfl; exact rfl) | (apply ef_len; exact rfl; exact rfl; (assumption)) | (apply ef_ldr; exact rfl; exact rfl; (exact rfl)) | (apply ef_ldp; exact rfl; exact rfl; exact rfl; exact rfl; (exact rfl); (exact rfl)) | (apply ef_ias; exact rfl; exact rfl; exact rfl; (omega); assumption; exact rfl) | (apply ef_fap; exact rfl; exact rfl) | apply ef_nil | apply seqQ.normal | apply loopQ.ret | apply ef_ret | apply seqQ.ret | apply blockQ.ret | apply ef_block | apply ef_skip | (apply ef_condt; exact rfl; (exact (rfl : true = true))) | (apply ef_condf; exact rfl; (exact (rfl : false = false))))
            (refine fin2 rfl (by exact rfl) (by exact rfl) ?_)
            rw [HT.out, HZ.out, HD.out]; simp only [rowsE, HE.out]; rfl
        · have HE := Lib.hid (rowE_a h3)
          by_cases h4 : r.length = 0
          · repeat (first | apply ef_seq | (apply ef_mv; exact rfl; exact rfl) | (apply ef_bin; exact rfl; exact rfl; exact rfl; (exact cmp_t rfl (by first | exact rfl | (simp only [cmpP]; omega)))) | (apply ef_gn; exact rfl; (exact (rfl : true = true)); exact rfl) | (apply ef_pick; exact rfl; exact rfl; exact rfl) | (apply ef_len; exact rfl; exact rfl; (assumption)) | (apply ef_ldr; exact rfl; exact rfl; (exact rfl)) | (apply ef_ldp; exact rfl; exact rfl; exact rfl; exact rfl; (exact rfl); (exact rfl)) | (apply ef_ias; exact rfl; exact rfl; exact rfl; (omega); assumption; exact rfl) | (apply ef_fap; exact rfl; exact rfl) | apply ef_nil | apply seqQ.normal | apply loopQ.ret | apply ef_ret | apply seqQ.ret | apply blockQ.ret | apply ef_block | apply ef_skip | (apply ef_condt; exact rfl; (exact (rfl : true = true))))
            (refine fin2 rfl (by exact rfl) (by exact rfl) ?_)
            rw [HT.out, HZ.out, HD.out]; simp only [rowsE, HE.out]; rfl
          · have h5 : ¬ r.length = t.W := fun e => h3 ⟨by omega, e⟩
            repeat (first | apply ef_seq | (apply ef_mv; exact rfl; exact rfl) | (apply ef_bin; exact rfl; exact rfl; exact rfl; (first | exact cmp_t rfl (by first | exact rfl | (simp only [cmpP]; omega)) | exact cmp_f rfl (by simp only [cmpP]; omega))) | (apply ef_gy; exact rfl; (exact (rfl : false = false))) | (apply ef_pick; exact rfl; exact rfl; exact rfl) | (apply ef_len; exact rfl; exact rfl; (assumption)) | (apply ef_ldr; exact rfl; exact rfl; (exact rfl)) | (apply ef_ldp; exact rfl; exact rfl; exact rfl; exact rfl; (exact rfl); (exact rfl)) | (apply ef_ias; exact rfl; exact rfl; exact rfl; (omega); assumption; exact rfl) | (apply ef_fap; exact rfl; exact rfl) | apply ef_nil | apply seqQ.normal | apply loopQ.ret | apply ef_ret | apply seqQ.ret | apply blockQ.ret | apply ef_block | apply ef_skip | (apply ef_condt; exact rfl; (exact (rfl : true = true))))
            (refine fin2 rfl (by exact rfl) (by exact rfl) ?_)
            rw [HT.out, HZ.out, HD.out]; simp only [rowsE, HE.out]; rfl
      · rw [List.drop_eq_nil_of_le (by omega)] at hz
        have hp1 := fun h => rlinesErr_c k (t.ter.length : Int) t.rows h (by omega) b2
        have hp2 := fun h => rlinesErr_c k (t.W : Int) t.ties h (by omega) b3
        have HT2 := Lib.hid (HT.out.trans (if_pos (by rw [hz]; rfl)))
        clear hz
        generalize (lnsE (t.ter.length : Int) (-1) 0 t.rows).2 = p2 at hp1 HT2
        generalize (lnsE (t.W : Int) (-1) 0 t.ties).2 = q2 at hp2 HT2
        cases g1 : inB t.cl 0 10000
        · have HE := Lib.hid (show tailE t = 2 by simp [tailE, g1, firstE, unl])
          repeat (first | apply ef_seq | (apply ef_mv; exact rfl; exact rfl) | (apply ef_bin; exact rfl; exact rfl; exact rfl; (exact cmp_f rfl (by simp only [cmpP]; omega))) | (apply ef_gn; exact rfl; (exact (rfl : true = true)); exact rfl) | (apply ef_pick; exact rfl; exact rfl; exact rfl) | (apply ef_len; exact rfl; exact rfl; (assumption)) | (apply ef_ldp; exact rfl; exact rfl; exact rfl; exact rfl; (exact rfl); (exact rfl)) | (apply ef_fap; exact rfl; exact rfl) | (apply ef_notF; exact rfl; exact rfl) | apply ef_nil | apply seqQ.normal | apply loopQ.exit | apply ef_ret | apply seqQ.ret | apply ef_exit | apply seqQ.exit | apply blockQ.here | (apply ef_condt; exact rfl; (exact (rfl : true = true))) | (apply ef_condf; exact rfl; (exact (rfl : false = false))) | (apply ef_call; exact rfl; ((repeat (apply XVs.cons; exact rfl)); exact XVs.nil); (with_reducible exact Within_c _ _ _ _ _ (by assumption))))
          (refine fin2 rfl (by exact rfl) (by exact rfl) ?_)
          rw [HT2.out, HE.out]; rfl
        · cases g2 : inB t.cb 0 10000
          · have HE := Lib.hid (show tailE t = 2 by simp [tailE, g1, g2, firstE, unl])
            repeat (first | apply ef_seq | (apply ef_mv; exact rfl; exact rfl) | (apply ef_bin; exact rfl; exact rfl; exact rfl; (exact cmp_f rfl (by simp only [cmpP]; omega))) | (apply ef_gy; exact rfl; (exact (rfl : false = false))) | (apply ef_pick; exact rfl; exact rfl; exact rfl) | (apply ef_len; exact rfl; exact rfl; (assumption)) | (apply ef_ldp; exact rfl; exact rfl; exact rfl; exact rfl; (exact rfl); (exact rfl)) | (apply ef_fap; exact rfl; exact rfl) | (apply ef_notT; exact rfl; exact rfl) | (apply ef_notF; exact rfl; exact rfl) | apply ef_nil | apply seqQ.normal | apply loopQ.exit | apply ef_ret | apply seqQ.ret | apply ef_exit | apply seqQ.exit | apply blockQ.here | (apply ef_condt; exact rfl; (exact (rfl : true = true))) | (apply ef_condf; exact rfl; (exact (rfl : false = false))) | (apply ef_call; exact rfl; ((repeat (apply XVs.cons; exact rfl)); exact XVs.nil); (with_reducible exact Within_c _ _ _ _ _ (by assumption))))
            (refine fin2 rfl (by exact rfl) (by exact rfl) ?_)
            rw [HT2.out, HE.out]; rfl
          · by_cases g3 : t.rows.length + t.ties.length = 0
            · have HE := Lib.hid (show tailE t = 10 by
                have q : ¬ ((t.rows.length : Int) + (t.ties.length : Int) > 0) := by omega
                unfold tailE; rw [g1, g2, decide_eq_false q]; rfl)
              repeat (first | apply ef_seq | (apply ef_mv; exact rfl; exact rfl) | (apply ef_bin; exact rfl; exact rfl; exact rfl; (first | exact cmp_t rfl (by first | exact rfl | (simp only [cmpP]; omega)) | exact cmp_f rfl (by simp only [cmpP]; omega) | ((with_reducible refine bin_add (wrap_of ?_ ?_)) <;> omega))) | (apply ef_gy; exact rfl; (exact (rfl : false = false))) | (apply ef_pick; exact rfl; exact rfl; exact rfl) | (apply ef_len; exact rfl; exact rfl; (assumption)) | (apply ef_ldp; exact rfl; exact rfl; exact rfl; exact rfl; (exact rfl); (exact rfl)) | (apply ef_fap; exact rfl; exact rfl) | (apply ef_notT; exact rfl; exact rfl) | apply ef_nil | apply seqQ.normal | apply loopQ.exit | apply ef_ret | apply seqQ.ret | apply ef_exit | apply seqQ.exit | apply blockQ.here | apply ef_skip | (apply ef_condt; exact rfl; (exact (rfl : true = true))) | (apply ef_condf; exact rfl; (exact (rfl : false = false))) | (apply ef_call; exact rfl; ((repeat (apply XVs.cons; exact rfl)); exact XVs.nil); (with_reducible exact Within_c _ _ _ _ _ (by assumption))))
              (refine fin2 rfl (by exact rfl) (by exact rfl) ?_)
              rw [HT2.out, HE.out]; rfl
            · have HE := Lib.hid (show tailE t = 0 by
                unfold tailE
                rw [firstE_zero, firstE_zero, unl_eq (by decide), unl_eq (by decide)]
                simp only [decide_eq_true_eq, g1, g2]
                exact ⟨rfl, by omega, rfl⟩)
              by_cases hp : p2 = 0
              · subst hp
                repeat (first | apply ef_seq | (apply ef_mv; exact rfl; exact rfl) | (apply ef_bin; exact rfl; exact rfl; exact rfl; (first | exact cmp_f rfl (by simp only [cmpP]; omega) | ((with_reducible refine bin_add (wrap_of ?_ ?_)) <;> omega))) | (apply ef_gy; exact rfl; (exact (rfl : false = false))) | (apply ef_pick; exact rfl; exact rfl; exact rfl) | (apply ef_len; exact rfl; exact rfl; (assumption)) | (apply ef_ldr; exact rfl; exact rfl; (exact rfl)) | (apply ef_ldp; exact rfl; exact rfl; exact rfl; exact rfl; (exact rfl); (exact rfl)) | (apply ef_ias; exact rfl; exact rfl; exact rfl; (omega); assumption; exact rfl) | (apply ef_fap; exact rfl; exact rfl) | (apply ef_notT; exact rfl; exact rfl) | apply ef_nil | apply seqQ.normal | apply loopQ.exit | apply ef_ret | apply ef_exit | apply seqQ.exit | apply blockQ.here | apply ef_skip | (apply ef_condf; exact rfl; (exact (rfl : false = false))) | (apply ef_call; exact rfl; ((repeat (apply XVs.cons; exact rfl)); exact XVs.nil); (with_reducible first | exact Within_c _ _ _ _ _ (by assumption) | exact hp1 _ | exact hp2 _)))
                (refine fin2 rfl (by exact rfl) (by exact rfl) ?_)
                rw [HT2.out, HE.out]; rfl
              · repeat (first | apply ef_seq | (apply ef_mv; exact rfl; exact rfl) | (apply ef_bin; exact rfl; exact rfl; exact rfl; (first | exact cmp_t rfl (by first | exact rfl | (simp only [cmpP]; omega)) | exact cmp_f rfl (by simp only [cmpP]; omega) | ((with_reducible refine bin_add (wrap_of ?_ ?_)) <;> omega))) | (apply ef_gy; exact rfl; (exact (rfl : false = false))) | (apply ef_pick; exact rfl; exact rfl; exact rfl) | (apply ef_len; exact rfl; exact rfl; (assumption)) | (apply ef_ldp; exact rfl; exact rfl; exact rfl; exact rfl; (exact rfl); (exact rfl)) | (apply ef_fap; exact rfl; exact rfl) | (apply ef_notT; exact rfl; exact rfl) | apply ef_nil | apply seqQ.normal | apply loopQ.exit | apply ef_ret | apply seqQ.ret | apply ef_exit | apply seqQ.exit | apply blockQ.here | apply ef_skip | (apply ef_condt; exact rfl; (exact (rfl : true = true))) | (apply ef_condf; exact rfl; (exact (rfl : false = false))) | (apply ef_call; exact rfl; ((repeat (apply XVs.cons; exact rfl)); exact XVs.nil); (with_reducible first | exact Within_c _ _ _ _ _ (by assumption) | exact hp1 _)))
                (refine fin2 rfl (by exact rfl) (by exact rfl) ?_)
                rw [HT2.out, HE.out, if_pos rfl, if_neg hp]
theorem rCheckTask_c (k : Nat) (t : Tk) (hb : Bd t) (h : MHeap) : orA (k + 3) 39 [encT t] h = some (.tup [I64 (taskF (fun _ => 0) t).1, I64 (taskF (fun _ => 0) t).2], h) := by
  have := callA (k := k + 2) (h := h) (frzL_lt (ms := [encT t]) (by simp [ltL, encT_lt])) rfl (rCheckTask_z k t hb) (by simp [okV, ok1, MV.lt, MV.pure]) rfl
  simpa [shV, sh1] using this
end Go.Proofs.Ytgjpdjihjphbdaa

/- Contracts of the reference: which strips are valid; copies. -/
namespace Go.Proofs.Ytgjpdjihjphbdaa
open Go.RowKit
theorem mf_CopyInts : MT.mf 64 = some ⟨6, [(.tmp 2)], (.seq (.reg [⟨none, some 2, .nil0 1⟩]) (.seq (.reg [⟨none, some 3, .bsl (.lit (.int .i64 0)) 1 0 []⟩, ⟨none, some 4, .mv (.s 0)⟩, ⟨none, some 5, .app 1 (.s 3) (.s 4)⟩, ⟨none, some 2, .mv (.s 5)⟩]) .ret))⟩ := by kernel_rfl
theorem bCopyInts_z (k : Nat) (xs : List Int) (hx : xs.length ≤ 1000000) : runZ MT (orA k) (itA k) 4000000 64 [.sl (xs.map I64)] [] = some (.arr 0 0 xs.length 0, [⟨0, false, 1, xs.map I64⟩]) := by
  refine runZ_of mf_CopyInts (by simp) ?_
  simp only [argsL]
  cases xs with
  | nil =>
    repeat (first | apply ef_seq | (apply ef_mv; exact rfl; exact rfl) | (apply ef_nil0; exact rfl) | (apply ef_bsl; exact rfl; (repeat (apply XVs.cons; exact rfl)); exact XVs.nil; exact rfl) | apply ef_nil | apply seqQ.normal)
    (apply ef_app0; (· exact rfl); (· exact rfl); (· exact rfl); (· exact rfl); (· exact rfl); (· exact rfl); (· exact rfl); (· exact rfl))
    repeat (first | (apply ef_mv; exact rfl; exact rfl) | apply ef_nil | apply seqQ.normal | apply ef_ret)
    (apply fin_arr; (· exact rfl); (· exact rfl); (· exact rfl); (· exact rfl); (· simp); (· exact rfl); (· exact rfl); (· exact rfl); (· exact rfl); (· exact rfl))
  | cons x xs =>
    have hs : ((x :: xs).map I64).all (MV.sOk 1) = true := by
      rw [List.all_eq_true]
      intro m hm
      obtain ⟨a, _, rfl⟩ := List.mem_map.1 hm
      rfl
    repeat (first | apply ef_seq | (apply ef_mv; exact rfl; exact rfl) | (apply ef_nil0; exact rfl) | (apply ef_bsl; exact rfl; (repeat (apply XVs.cons; exact rfl)); exact XVs.nil; exact rfl) | apply ef_nil | apply seqQ.normal)
    (apply ef_app; (· exact rfl); (· exact rfl); (· exact rfl); (· exact rfl); (· exact rfl); (· exact rfl); (· exact rfl); (· exact rfl); (· (simp at hx ⊢; omega)); (· exact hs); (· exact rfl))
    repeat (first | (apply ef_mv; exact rfl; exact rfl) | apply ef_nil | apply seqQ.normal | apply ef_ret)
    (apply fin_arr; (· exact rfl); (· exact rfl); (· exact rfl); (· exact rfl); (· simp); (· (exact ltL_I 0 (x :: xs))); (· (simp; rw [List.take_of_length_le (by simp)])); (· exact rfl); (· exact rfl); (· (simp)))
theorem bCopyInts_c (k : Nat) (xs : List Int) (h : MHeap) {v : MV} (hx : xs.length ≤ 1000000) (hv : frz 0 [] h 8 v = some (.sl (xs.map I64))) : orA (k + 1) 64 [v] h = some (.arr h.length 0 xs.length 0, h ++ [⟨0, false, 1, xs.map I64⟩]) := by
  have := callA (k := k) (args := [v]) (args' := [.sl (xs.map I64)]) (h := h) (by simp [List.mapM_cons, hv]) rfl (bCopyInts_z k xs hx) rfl (by simp [okH, ltL_I, pureL_I])
  simpa [shV, sh1] using this
theorem fin_c1 {x : MX2} {A : Sl} {h : MHeap} {t it : Nat} {ot : MObj} {ag : Option Nat} {e m m' : MV} {r1 : List MV} (hx : outX x = true) (ht : look A t = some (.ptr it 0 0 0)) (hot : h[it]? = some ot) (h1 : ot.g = 0) (h2 : ot.es = e :: r1) (hr : rdCells e.cells 0 ag = some m) (hn : ∀ id i k g, m ≠ .arr id i k g) (hf : frz 0 [] h 8 m = some m') : FinF [.cell t ag] m' [] x A h := by
  have hi : impIds 0 [m] = [] := by
    cases m with
    | arr id i k g => exact absurd rfl (hn id i k g)
    | _ => rfl
  refine ⟨hx, [m], [m'], ⟨_, _, rfl, ⟨it, 0, 0, 0, ot, _, ht, hot, h1, by rw [h2]; rfl, hr⟩, rfl⟩, by rw [hi]; simp, ?_, rfl⟩
  rw [hi]
  cases m with
  | arr id i k g => exact absurd rfl (hn id i k g)
  | _ => simp only [expL, hf]
end Go.Proofs.Ytgjpdjihjphbdaa

/- Contracts: the sweep of a strip. -/
namespace Go.Proofs.Ytgjpdjihjphbdaa
open Go.RowKit
theorem elems_end {h : MHeap} {o : MObj} {k n : Nat} {es : List MV} (hn : n = h.length) (hg : o.g = 0) (hk : o.es.length = k) (he : o.es = es) : (MV.arr n 0 k 0).elems (h ++ [o]) = some es := by
  subst hn he hk
  simp [MV.elems, hg]
end Go.Proofs.Ytgjpdjihjphbdaa

/- Small helpers about memory. -/
namespace Go.Proofs.Ytgjpdjihjphbdaa
open Go.RowKit
set_option linter.unusedVariables false
structure Bx (p : Prop) : Prop where
  out : p
theorem set_end (H : MHeap) (c d : MObj) : (H ++ [c]).set H.length d = H ++ [d] := by simp [List.set_append]
theorem at_end (H : MHeap) (c : MObj) : (H ++ [c])[H.length]? = some c := List.getElem?_concat_length
theorem at_app {H : MHeap} {i : Nat} {o : MObj} (h : H[i]? = some o) (X : MHeap) : (H ++ X)[i]? = some o := by
  rw [List.getElem?_append_left (List.getElem?_eq_some_iff.1 h).1]; exact h
theorem hltL_no {m : Nat} {h : MHeap} {j : Nat} {o : MObj} (hj : j < m) (ho : h[j]? = some o) (hl : ltL m o.es = false) : hltL m (h.take m) = false := by
  unfold hltL
  rw [Bool.eq_false_iff]
  intro hc
  have h1 : (h.take m)[j]? = some o := by rw [List.getElem?_take, if_pos hj]; exact ho
  have := List.all_eq_true.1 hc o (List.mem_of_getElem? h1)
  rw [hl] at this
  cases this
theorem mapM_get {f : MV → Option MV} : ∀ {xs ys : List MV}, xs.length = ys.length → (∀ (j : Nat) x y, xs[j]? = some x → ys[j]? = some y → f x = some y) → xs.mapM f = some ys
  | [], [], _, _ => rfl
  | [], _ :: _, h, _ => by simp at h
  | _ :: _, [], h, _ => by simp at h
  | x :: xs, y :: ys, h, hf => by
    rw [List.mapM_cons, hf 0 x y rfl rfl, mapM_get (by simpa using h) fun j a b ha hb => hf (j + 1) a b (by simpa using ha) (by simpa using hb)]
    rfl
theorem fin_arrF {x : MX2} {A : Sl} {h : MHeap} {t id k g : Nat} {o : MObj} {es : List MV} {sz : Nat} {nl : Bool} (hx : outX x = true) (hv : look A t = some (.arr id 0 k g)) (ho : h[id]? = some o) (hg : o.g = g) (hk : k = o.es.length) (he : o.es.mapM (frz 0 [id] h 8) = some es) (hl : ltL 0 o.es = true → o.es = es) (hz : o.sz = sz) (hn : o.nl = nl) :
    FinF [.tmp t] (.arr 0 0 k 0) [⟨0, nl, sz, es⟩] x A h := by
  subst hz hn hk
  refine ⟨hx, [.arr id 0 o.es.length g], [.arr 0 0 o.es.length 0], ⟨_, [], rfl, hv, rfl⟩, by simp [impIds], ?_, rfl⟩
  by_cases hlt : ltL 0 o.es = true
  · have h2 : ltL 0 es = true := by rw [← hl hlt]; exact hlt
    simp [impIds, expL, ho, hg, hl hlt, h2]
  · simp [impIds, expL, ho, hg, hlt, he]
end Go.Proofs.Ytgjpdjihjphbdaa

/- Contracts: copies of tasks; tasks are opened. -/
namespace Go.Proofs.Ytgjpdjihjphbdaa
open Go.RowKit
set_option linter.unusedVariables false
theorem mf_CopyLists : MT.mf 73 = some ⟨20, [(.tmp 2)], (.seq (.reg [⟨none, some 2, .nil0 1⟩]) (.seq (.reg [⟨none, some 3, .nil0 1⟩]) (.seq (.seq (.reg [⟨none, some 4, .mv (.c (.lit (.int .i64 0)))⟩]) (.block 0 (.loop [4, 0, 3] (.seq (.seq (.reg [⟨none, some 5, .mv (.s 4)⟩, ⟨none, some 6, .mv (.s 0)⟩, ⟨none, some 7, .len (.s 6)⟩, ⟨none, some 8, .bin .lss (.s 5) (.s 7)⟩]) (.cond (.s 8) .skip (.exit 0))) (.seq (.block 1 (.reg [⟨none, some 11, .mv (.s 3)⟩, ⟨none, some 12, .mv (.s 0)⟩, ⟨none, some 13, .mv (.s 4)⟩, ⟨none, some 14, .ia 1 (.s 12) (.s 13)⟩, ⟨none, some 15, .ld none (.s 14)⟩, ⟨none, some 16, .call 64 [.s 15]⟩, ⟨none, some 17, .bsl (.lit (.slice none 0 0)) 1 1 [(0, (.s 16))]⟩, ⟨none, some 18, .app 1 (.s 11) (.s 17)⟩, ⟨none, some 3, .mv (.s 18)⟩])) (.reg [⟨none, some 9, .mv (.s 4)⟩, ⟨none, some 10, .bin .add (.s 9) (.c (.lit (.int .i64 1)))⟩, ⟨none, some 4, .mv (.s 10)⟩])))))) (.seq (.reg [⟨none, some 19, .mv (.s 3)⟩, ⟨none, some 2, .mv (.s 19)⟩]) .ret))))⟩ := by kernel_rfl
structure CpI (g : List (List Int)) (i : Nat) (refs : List MV) (h : MHeap) : Prop where
  le : i ≤ g.length
  len : refs.length = i
  cell : ∀ (j : Nat) (r : List Int), j < i → g[j]? = some r → ∃ id, refs[j]? = some (.arr id 0 r.length 0) ∧ 2 ≤ id ∧ h[id]? = some ⟨0, false, 1, r.map I64⟩
theorem CopyLists_z (k : Nat) (g : List (List Int)) (hn : g.length ≤ 100000) (hr : ∀ r ∈ g, r.length ≤ 100000) : runZ MT (orA (k + 1)) (itA (k + 1)) 4000000 73 [.sl (g.map encW)] [] = some (.arr 0 0 g.length 0, [⟨0, nlN g.length, 1, g.map encW⟩]) := by
  have hs : (MV.sl (g.map encW)).slen = some g.length := by simp [MV.slen]
  refine runZ_of mf_CopyLists (by simp) ?_
  simp only [argsL]
  repeat (first | apply ef_seq | (apply ef_mv; exact rfl; exact rfl) | (apply ef_nil0; exact rfl) | apply ef_nil | apply seqQ.normal | apply ef_block)
  refine ef_loopg (α := Nat × List MV × MHeap) (fun s => CpI g s.1 s.2.1 (⟨0, true, 1, []⟩ :: ⟨s.1, nlN s.1, 1, s.2.1⟩ :: s.2.2)) (fun s => [(4, I64 (s.1 : Int)), (3, .arr 1 0 s.1 s.1)]) [(0, _)] (fun s => ⟨0, true, 1, []⟩ :: ⟨s.1, nlN s.1, 1, s.2.1⟩ :: s.2.2) (fun s => g.length - s.1) (0, [], []) [4, 3] (fun _ => rfl) (by ((repeat (refine Hold.cons (by exact rfl) ?_)); exact Hold.nil)) (by ((repeat (refine Hold.cons (by exact rfl) ?_)); exact Hold.nil)) rfl rfl rfl ⟨by simp, rfl, fun j r h => absurd h (by simp)⟩ (by simp; omega) ?_
  rintro ⟨i, refs, G⟩ ⟨hi, hlen, hc⟩
  simp only at hi hlen hc ⊢
  by_cases hlt : i < g.length
  · have e1 := at_map encW g i hlt
    have hgi : g[i]? = some g[i] := List.getElem?_eq_getElem hlt
    have hrl := hr g[i] (List.getElem_mem hlt)
    generalize g[i] = r at e1 hgi hrl
    have hcp := fun h => bCopyInts_c k r h (v := encW r) (by omega) (frz_sl (ltL_I 0 r))
    repeat (first | apply ef_seq | (apply ef_mv; exact rfl; exact rfl) | (apply ef_bin; exact rfl; exact rfl; exact rfl; (exact cmp_t rfl (by first | exact rfl | (simp only [cmpP]; omega)))) | (apply ef_len; exact rfl; exact rfl; (assumption)) | (apply ef_ldr; exact rfl; exact rfl; (exact rfl)) | (apply ef_ias; exact rfl; exact rfl; exact rfl; (omega); assumption; exact rfl) | (apply ef_bsl; exact rfl; (repeat (apply XVs.cons; exact rfl)); exact XVs.nil; exact rfl) | apply ef_nil | apply seqQ.normal | apply ef_block | apply ef_skip | (apply ef_condt; exact rfl; (exact (rfl : true = true))) | (apply ef_call; exact rfl; ((repeat (apply XVs.cons; exact rfl)); exact XVs.nil); (with_reducible exact hcp _)))
    refine ef_app (ht := by exact rfl) (v := .arr _ 0 1 0) (e := .arr _ 0 r.length 0) (xs := []) (o := ⟨i, nlN i, 1, refs⟩) (by exact rfl) (by exact rfl) (elems_end rfl rfl rfl rfl) rfl rfl (by simp [hlen]) rfl (by simp [hlen]; omega) rfl rfl ?_
    repeat (first | (apply ef_mv; exact rfl; exact rfl) | (apply ef_bin; exact rfl; exact rfl; exact rfl; (((with_reducible refine bin_add (wrap_of ?_ ?_)) <;> omega))) | apply ef_nil | apply seqQ.normal | apply blockQ.normal)
    refine loopQ.normal _ _ ⟨(i + 1, refs ++ [.arr (G.length + 1 + 1) 0 r.length 0], G ++ [⟨0, false, 1, r.map I64⟩] ++ [⟨0, false, 1, [.arr (G.length + 1 + 1) 0 r.length 0]⟩]), ⟨hlt, by simp [hlen], fun j r' hj hr' => ?_⟩, (by simp only; omega), ⟨by ((repeat (refine Hold.cons (by exact rfl) ?_)); exact Hold.nil), by ((repeat (refine Hold.cons (by exact rfl) ?_)); exact Hold.nil)⟩, ?_⟩
    · by_cases hji : j = i
      · subst hji
        rw [hgi] at hr'
        cases hr'
        exact ⟨G.length + 1 + 1, by rw [List.getElem?_append_right (by omega), hlen]; simp, by omega, by simp⟩
      · obtain ⟨id, h1, h2, h3⟩ := hc j r' (by omega) hr'
        refine ⟨id, by rw [List.getElem?_append_left (by omega)]; exact h1, h2, ?_⟩
        obtain ⟨d, rfl⟩ : ∃ d, id = d + 2 := ⟨id - 2, by omega⟩
        simp only [List.getElem?_cons_succ] at h3 ⊢
        rw [List.append_assoc, List.getElem?_append_left (List.getElem?_eq_some_iff.1 h3).1]
        exact h3
    · exact HeadIs.cell (hltL_no (m := 2) (j := 1) (o := ⟨i + 1, nlN (i + 1), 1, refs ++ [.arr (G.length + 1 + 1) 0 r.length 0]⟩) (by decide) (by simp [nlN]) (by simp [ltL_app1, MV.lt]))
  · obtain rfl : i = g.length := by omega
    repeat (first | apply ef_seq | (apply ef_mv; exact rfl; exact rfl) | (apply ef_bin; exact rfl; exact rfl; exact rfl; (exact cmp_f rfl (by simp only [cmpP]; omega))) | (apply ef_len; exact rfl; exact rfl; (assumption)) | apply ef_nil | apply seqQ.normal | apply loopQ.exit | apply ef_ret | apply ef_exit | apply seqQ.exit | apply blockQ.here | (apply ef_condf; exact rfl; (exact (rfl : false = false))))
    have he : refs.mapM (frz 0 [1] (⟨0, true, 1, []⟩ :: ⟨g.length, nlN g.length, 1, refs⟩ :: G) 8) = some (g.map encW) := by
      refine mapM_get (by simp [hlen]) fun j x y hx hy => ?_
      rw [List.getElem?_map, Option.map_eq_some_iff] at hy
      obtain ⟨r, h1, rfl⟩ := hy
      obtain ⟨id, k1, k2, k3⟩ := hc j r (List.getElem?_eq_some_iff.1 h1).1 h1
      rw [k1] at hx
      cases hx
      have q1 : ([1] : List Nat).contains id = false := by simp; omega
      have q2 : (r.map I64).take r.length = r.map I64 := List.take_of_length_le (by simp)
      simp only [frz, MV.lt, Nat.not_lt_zero, decide_false, Bool.false_eq_true, if_false, q1, k3]
      simp [ltL_I, q2]
    have hl : ltL 0 refs = true → refs = g.map encW := fun hl => by
      cases hg : g.length with
      | zero =>
        rw [hg] at hlen
        rw [List.eq_nil_of_length_eq_zero hlen, List.eq_nil_of_length_eq_zero hg]; rfl
      | succ m =>
        exfalso
        obtain ⟨r, hr0⟩ : ∃ r, g[0]? = some r := ⟨g[0], List.getElem?_eq_getElem (by omega)⟩
        obtain ⟨id, k1, k2, k3⟩ := hc 0 r (by omega) hr0
        have := ltL_iff'.1 hl _ (List.mem_of_getElem? k1)
        simp [MV.lt] at this
    (apply fin_arrF; (· exact rfl); (· exact rfl); (· exact rfl); (· exact rfl); (· exact hlen.symm); (· exact he); (· exact hl); (· exact rfl); (· exact rfl))
theorem CopyLists_c (k : Nat) (g : List (List Int)) (h : MHeap) (hn : g.length ≤ 100000) (hr : ∀ r ∈ g, r.length ≤ 100000) : orA (k + 2) 73 [.sl (g.map encW)] h = some (.arr h.length 0 g.length 0, h ++ [⟨0, nlN g.length, 1, g.map encW⟩]) := by
  have := callA (k := k + 1) (args := [.sl (g.map encW)]) (args' := [.sl (g.map encW)]) (h := h) (frzL_lt (by simp [ltL, MV.lt, ltL_W])) rfl (CopyLists_z k g hn hr) rfl (by simp [okH, ltL_W, ltL, MV.lt])
  simpa [shV, sh1] using this
theorem mf_CopyTask : MT.mf 35 = some ⟨17, [(.cell 2 (some 5))], (.seq (.reg [⟨none, some 1, .box 5 (.s 0)⟩, ⟨none, some 2, .new (.agg [(.lit (.slice none 0 0)), (.lit (.slice none 0 0)), (.lit (.slice none 0 0)), (.lit (.int .i64 0)), (.lit (.int .i64 0))])⟩]) (.seq (.reg [⟨none, some 3, .fa 0 (.s 1)⟩, ⟨none, some 4, .ld none (.s 3)⟩, ⟨none, some 5, .call 73 [.s 4]⟩, ⟨none, some 6, .fa 1 (.s 1)⟩, ⟨none, some 7, .ld none (.s 6)⟩, ⟨none, some 8, .call 64 [.s 7]⟩, ⟨none, some 9, .fa 2 (.s 1)⟩, ⟨none, some 10, .ld none (.s 9)⟩, ⟨none, some 11, .call 64 [.s 10]⟩, ⟨none, some 12, .fa 3 (.s 1)⟩, ⟨none, some 13, .ld none (.s 12)⟩, ⟨none, some 14, .fa 4 (.s 1)⟩, ⟨none, some 15, .ld none (.s 14)⟩, ⟨none, some 16, .build [(.lit (.slice none 0 0)), (.lit (.slice none 0 0)), (.lit (.slice none 0 0)), (.lit (.int .i64 0)), (.lit (.int .i64 0))] [(0, (1, (.s 5))), (1, (1, (.s 8))), (2, (1, (.s 11))), (3, (1, (.s 13))), (4, (1, (.s 15)))]⟩, ⟨none, none, .st 5 (.s 2) (.s 16)⟩]) .ret))⟩ := by kernel_rfl
theorem CopyTask_z (k : Nat) (t : Tk) (hb : Bd t) : runZ MT (orA (k + 2)) (itA (k + 2)) 4000000 35 [encT t] [] = some (encT t, []) := by
  obtain ⟨b1, b2, b3, b4⟩ := hb
  have c1 := fun h => CopyLists_c k t.ter h b1 b4
  have c2 := fun h => bCopyInts_c (k + 1) t.rows h (v := .sl (t.rows.map I64)) (by omega) (frz_sl (ltL_I 0 t.rows))
  have c3 := fun h => bCopyInts_c (k + 1) t.ties h (v := .sl (t.ties.map I64)) (by omega) (frz_sl (ltL_I 0 t.ties))
  refine runZ_of mf_CopyTask (by simp) ?_
  simp only [argsL]
  repeat (first | apply ef_seq | (apply ef_ldp; exact rfl; exact rfl; exact rfl; exact rfl; (exact rfl); (exact rfl)) | (apply ef_fap; exact rfl; exact rfl) | (apply ef_box; exact rfl; exact rfl; exact rfl; exact rfl) | (apply ef_new; exact rfl) | (apply ef_build; exact rfl; (repeat (apply XVs.cons; exact rfl)); exact XVs.nil; exact rfl; exact rfl) | (apply ef_st; exact rfl; exact rfl; exact rfl; exact rfl; exact rfl; exact rfl; (exact rfl); exact rfl) | apply ef_nil | apply seqQ.normal | apply ef_ret | (apply ef_call; exact rfl; ((repeat (apply XVs.cons; exact rfl)); exact XVs.nil); (with_reducible first | exact c1 _ | exact c2 _ | exact c3 _)))
  have t1 : ∀ l : List Int, (l.map I64).take l.length = l.map I64 := fun l => List.take_of_length_le (by simp)
  have t2 : (t.ter.map encW).take t.ter.length = t.ter.map encW := List.take_of_length_le (by simp)
  (apply fin_c1; (· exact rfl); (· exact rfl); (· exact rfl); (· exact rfl); (· exact rfl); (· exact rd_5 rfl rfl rfl rfl rfl); (· simp); (· simp [frz, MV.lt, ltL, List.mapM_cons, ltL_I, ltL_W, t1, t2]))
theorem CopyTask_c (k : Nat) (t : Tk) (hb : Bd t) (h : MHeap) : orA (k + 3) 35 [encT t] h = some (encT t, h) := by
  have := callA (k := k + 2) (h := h) (frzL_lt (ms := [encT t]) (by simp [ltL, encT_lt])) rfl (CopyTask_z k t hb) (by simp [okV, ok1, ltL, ltL_I, ltL_W, MV.lt]) rfl
  simpa [shV, sh1] using this
end Go.Proofs.Ytgjpdjihjphbdaa

/- Contracts: tasks are opened; nodes. -/
namespace Go.Proofs.Ytgjpdjihjphbdaa
open Go.RowKit
set_option linter.unusedVariables false
theorem lns_ok {cnt : Int} : ∀ {ns : List Int} {last : Int} {i : Nat}, (lnsE cnt last i ns).2 = 0 → (∀ n ∈ ns, (0 ≤ n ∧ n < cnt) ∧ last < n) ∧ Asc ns ∧ lnsE cnt last i ns = (0, 0)
  | [], _, _, _ => ⟨(fun n hn => by cases hn), List.Pairwise.nil, rfl⟩
  | n :: ns, last, i, h => by
    simp only [lnsE] at h
    by_cases h0 : lnE cnt last n = 0
    · rw [if_pos h0] at h
      obtain ⟨a1, a2, a3⟩ := lns_ok h
      unfold lnE at h0
      rw [firstE_zero, firstE_zero, unl_eq (by decide), unl_eq (by decide), inB_iff, decide_eq_true_eq] at h0
      refine ⟨fun m hm => ?_, List.pairwise_cons.2 ⟨fun m hm => (a1 m hm).2, a2⟩, by
        have h9 : lnE cnt last n = 0 := by
          unfold lnE
          rw [firstE_zero, firstE_zero, unl_eq (by decide), unl_eq (by decide), inB_iff, decide_eq_true_eq]
          exact h0
        simp only [lnsE]; rw [if_pos h9, a3]⟩
      rcases List.mem_cons.1 hm with rfl | hm
      · exact ⟨by omega, h0.2.1⟩
      · exact ⟨(a1 m hm).1, by have := (a1 m hm).2; omega⟩
    · rw [if_neg h0] at h
      exact absurd h h0
theorem rows_ok {W : Nat} : ∀ {rs : List (List Int)} {i : Nat}, (rowsE W i rs).2 = 0 → (∀ r ∈ rs, 0 < r.length ∧ r.length = W ∧ r.length ≤ 12 ∧ ∀ n ∈ r, 0 ≤ n ∧ n ≤ 10000) ∧ rowsE W i rs = (0, 0)
  | [], _, _ => ⟨(fun r hr => by cases hr), rfl⟩
  | r :: rs, i, h => by
    simp only [rowsE] at h
    by_cases h0 : rowE W r = 0
    · rw [if_pos h0] at h
      obtain ⟨a1, a2⟩ := rows_ok h
      have h1 := h0
      unfold rowE at h1
      rw [firstE_zero, firstE_zero, firstE_zero, unl_eq (by decide), unl_eq (by decide), unl_eq (by decide)] at h1
      simp only [Bool.and_eq_true, decide_eq_true_eq, beq_iff_eq, Bool.not_eq_true', List.any_eq_false] at h1
      refine ⟨fun q hq => ?_, by simp only [rowsE]; rw [if_pos h0, a2]⟩
      rcases List.mem_cons.1 hq with rfl | hq
      · refine ⟨h1.1.1, by omega, by omega, fun n hn => ?_⟩
        have := h1.2.2.1 n hn
        exact inB_iff.1 (by simpa using this)
      · exact a1 q hq
    · rw [if_neg h0] at h
      exact absurd h h0
structure OkT (t : Tk) : Prop where
  h1 : 0 < t.ter.length ∧ t.ter.length ≤ 12
  w1 : 0 < t.W ∧ t.W ≤ 12
  rw : ∀ r ∈ t.ter, r.length = t.W ∧ ∀ n ∈ r, 0 ≤ n ∧ n ≤ 10000
  cl : 0 ≤ t.cl ∧ t.cl ≤ 10000
  cb : 0 ≤ t.cb ∧ t.cb ≤ 10000
  rs : (∀ n ∈ t.rows, 0 ≤ n ∧ n < t.ter.length) ∧ Asc t.rows
  ts : (∀ n ∈ t.ties, 0 ≤ n ∧ n < t.W) ∧ Asc t.ties
  ne : 0 < t.rows.length + t.ties.length
theorem task_ok {f : Int → Int} {t : Tk} (h : (taskF f t).2 = 0) : OkT t ∧ taskF f t = (f 0, 0) := by
  unfold taskF at h
  by_cases h1 : headE t = 0
  · rw [if_pos h1] at h
    by_cases h2 : (rowsE t.W 0 t.ter).2 = 0
    · rw [if_pos h2] at h
      by_cases h3 : tailE t = 0
      · rw [if_pos h3] at h
        by_cases h4 : (lnsE (t.ter.length : Int) (-1) 0 t.rows).2 = 0
        · rw [if_pos h4] at h
          simp only at h
          obtain ⟨k1, k2⟩ := headE_z h1
          obtain ⟨a1, a2⟩ := rows_ok h2
          obtain ⟨⟨g1, g2⟩, g3⟩ := tailE_z h3
          obtain ⟨c1, c2, c3⟩ := lns_ok h4
          obtain ⟨d1, d2, d3⟩ := lns_ok h
          have hr0 := a1 t.ter[0] (List.getElem_mem k1)
          have hW : t.W = t.ter[0].length := by unfold Tk.W; rw [List.getD_eq_getElem?_getD, List.getElem?_eq_getElem k1]; rfl
          refine ⟨⟨⟨k1, k2⟩, by omega, fun r hr => ⟨(a1 r hr).2.1, (a1 r hr).2.2.2⟩, inB_iff.1 g1, inB_iff.1 g2, ⟨fun n hn => (c1 n hn).1, c2⟩, ⟨fun n hn => (d1 n hn).1, d2⟩, g3⟩, ?_⟩
          unfold taskF
          rw [if_pos h1, if_pos h2, if_pos h3, if_pos h4, d3]
        · rw [if_neg h4] at h
          exact absurd h h4
      · rw [if_neg h3] at h
        exact absurd h h3
    · rw [if_neg h2] at h
      exact absurd h h2
  · rw [if_neg h1] at h
    exact absurd h h1
def bRow (n : Nat) (l : List Int) : List MV := (List.range n).map fun y : Nat => Bo (l.contains (y : Int))
theorem ltL_B (m n : Nat) (l : List Int) : ltL m (bRow n l) = true := ltL_lits (fun _ => rfl) _
theorem bRow_len (n : Nat) (l : List Int) : (bRow n l).length = n := by simp [bRow]
theorem bRow_at {n : Nat} {l : List Int} {y : Nat} (h : y < n) : (bRow n l)[y]? = some (Bo (l.contains (y : Int))) := rng_get _ h
theorem bRow_nil (n : Nat) : bRow n [] = List.replicate n (Bo false) := by
  apply List.ext_getElem?
  intro j
  by_cases hj : j < n
  · rw [bRow_at hj, List.getElem?_replicate, if_pos hj]; rfl
  · rw [List.getElem?_eq_none (by rw [bRow_len]; omega), List.getElem?_replicate, if_neg hj]
theorem bRow_set {n : Nat} {l : List Int} {v : Int} (h0 : 0 ≤ v) : (bRow n l).set (0 + v.toNat) (Bo true) = bRow n (l ++ [v]) := by
  rw [Nat.zero_add]
  unfold bRow
  rw [rng_set]
  refine rng_congr fun j hj => ?_
  by_cases h : j = v.toNat
  · rw [if_pos h]
    have : (l ++ [v]).contains (j : Int) = true := by rw [List.contains_iff_mem]; simp; right; omega
    rw [this]
  · rw [if_neg h]
    congr 1
    rw [Bool.eq_iff_iff, List.contains_iff_mem, List.contains_iff_mem]
    simp
    intro e
    omega
abbrev encO (t : Tk) : MV := .agg [.sl (t.ter.map encW), .sl (t.rows.map I64), .sl (t.ties.map I64), I64 t.cl, I64 t.cb, I64 (t.W : Int), I64 (t.ter.length : Int), .sl (bRow t.ter.length t.rows), .sl (bRow t.W t.ties)]
theorem encO_lt (t : Tk) (n : Nat) : (encO t).lt n = true := by simp [MV.lt, ltL, ltL_I, ltL_W, ltL_B]
theorem fin_cf {x : MX2} {A : Sl} {h : MHeap} {t u it : Nat} {ot : MObj} {ag : Option Nat} {e m m' : MV} {v : Value} {r1 : List MV} (hx : outX x = true) (ht : look A t = some (.ptr it 0 0 0)) (hot : h[it]? = some ot) (h1 : ot.g = 0) (h2 : ot.es = e :: r1) (hr : rdCells e.cells 0 ag = some m) (hu : look A u = some (.lit v)) (hn : ∀ id i k g, m ≠ .arr id i k g) (hf : frz 0 [] h 8 m = some m') : FinF [.cell t ag, .tmp u] (.tup [m', .lit v]) [] x A h := by
  have hi : impIds 0 [m, .lit v] = [] := by
    cases m with
    | arr id i k g => exact absurd rfl (hn id i k g)
    | _ => rfl
  refine ⟨hx, [m, .lit v], [m', .lit v], ⟨_, _, rfl, ⟨it, 0, 0, 0, ot, _, ht, hot, h1, by rw [h2]; rfl, hr⟩, _, [], rfl, hu, rfl⟩, by rw [hi]; simp, ?_, rfl⟩
  rw [hi]
  cases m with
  | arr id i k g => exact absurd rfl (hn id i k g)
  | _ => simp only [expL, hf]; simp [frz, MV.lt]
theorem mf_open : MT.mf 113 = some ⟨63, [(.cell 2 (some 9)), (.tmp 3)], (.seq (.reg [⟨none, some 1, .box 5 (.s 0)⟩, ⟨none, some 2, .new (.agg [(.lit (.slice none 0 0)), (.lit (.slice none 0 0)), (.lit (.slice none 0 0)), (.lit (.int .i64 0)), (.lit (.int .i64 0)), (.lit (.int .i64 0)), (.lit (.int .i64 0)), (.lit (.slice none 0 0)), (.lit (.slice none 0 0))])⟩, ⟨none, some 3, .mv (.c (.lit (.int .i64 0)))⟩]) (.seq (.seq (.reg [⟨none, some 12, .ld (some 5) (.s 1)⟩, ⟨none, some 13, .call 34 [.s 12]⟩, ⟨none, some 11, .mv (.s 13)⟩, ⟨none, some 14, .ext (.s 11) 0⟩, ⟨none, some 15, .ext (.s 11) 1⟩, ⟨none, some 4, .mv (.s 14)⟩, ⟨none, some 5, .mv (.s 15)⟩]) (.seq (.reg [⟨none, some 16, .mv (.s 5)⟩, ⟨none, some 17, .bin .neq (.s 16) (.c (.lit (.int .i64 0)))⟩]) (.cond (.s 17) (.seq (.reg [⟨none, some 18, .build [(.lit (.slice none 0 0)), (.lit (.slice none 0 0)), (.lit (.slice none 0 0)), (.lit (.int .i64 0)), (.lit (.int .i64 0)), (.lit (.int .i64 0)), (.lit (.int .i64 0)), (.lit (.slice none 0 0)), (.lit (.slice none 0 0))] []⟩, ⟨none, some 19, .mv (.s 5)⟩, ⟨none, none, .st 9 (.s 2) (.s 18)⟩, ⟨none, some 3, .mv (.s 19)⟩]) .ret) .skip))) (.seq (.reg [⟨none, some 20, .ld (some 5) (.s 1)⟩, ⟨none, some 21, .fa 0 (.s 1)⟩, ⟨none, some 22, .ld none (.s 21)⟩, ⟨none, some 23, .ia 1 (.s 22) (.c (.lit (.int .i64 0)))⟩, ⟨none, some 24, .ld none (.s 23)⟩, ⟨none, some 25, .len (.s 24)⟩, ⟨none, some 26, .fa 0 (.s 1)⟩, ⟨none, some 27, .ld none (.s 26)⟩, ⟨none, some 28, .len (.s 27)⟩, ⟨none, some 29, .build [(.lit (.slice none 0 0)), (.lit (.slice none 0 0)), (.lit (.slice none 0 0)), (.lit (.int .i64 0)), (.lit (.int .i64 0)), (.lit (.int .i64 0)), (.lit (.int .i64 0)), (.lit (.slice none 0 0)), (.lit (.slice none 0 0))] [(0, (5, (.s 20))), (5, (1, (.s 25))), (6, (1, (.s 28)))]⟩, ⟨none, some 6, .new (.agg [(.lit (.slice none 0 0)), (.lit (.slice none 0 0)), (.lit (.slice none 0 0)), (.lit (.int .i64 0)), (.lit (.int .i64 0)), (.lit (.int .i64 0)), (.lit (.int .i64 0)), (.lit (.slice none 0 0)), (.lit (.slice none 0 0))])⟩, ⟨none, none, .st 9 (.s 6) (.s 29)⟩]) (.seq (.reg [⟨none, some 30, .fa 6 (.s 6)⟩, ⟨none, some 31, .ld none (.s 30)⟩, ⟨none, some 32, .mks (.lit (.bool false)) (.s 31)⟩, ⟨none, some 33, .fa 5 (.s 6)⟩, ⟨none, some 34, .ld none (.s 33)⟩, ⟨none, some 35, .mks (.lit (.bool false)) (.s 34)⟩, ⟨none, some 36, .fa 7 (.s 6)⟩, ⟨none, none, .st 1 (.s 36) (.s 32)⟩, ⟨none, some 37, .fa 8 (.s 6)⟩, ⟨none, none, .st 1 (.s 37) (.s 35)⟩]) (.seq (.seq (.reg [⟨none, some 38, .fa 1 (.s 1)⟩, ⟨none, some 39, .ld none (.s 38)⟩, ⟨none, some 40, .len (.s 39)⟩, ⟨none, some 41, .mv (.c (.lit (.int .i64 0)))⟩]) (.block 0 (.loop [41, 40, 39, 6, 1, 2] (.seq (.reg [⟨none, some 42, .bin .lss (.s 41) (.s 40)⟩]) (.seq (.cond (.s 42) .skip (.exit 0)) (.seq (.block 1 (.seq (.reg [⟨none, some 43, .ia 1 (.s 39) (.s 41)⟩, ⟨none, some 44, .ld none (.s 43)⟩, ⟨none, some 8, .mv (.s 44)⟩]) (.reg [⟨none, some 45, .fa 7 (.s 6)⟩, ⟨none, some 46, .ld none (.s 45)⟩, ⟨none, some 47, .mv (.s 8)⟩, ⟨none, some 48, .ia 1 (.s 46) (.s 47)⟩, ⟨none, none, .st 1 (.s 48) (.c (.lit (.bool true)))⟩]))) (.reg [⟨none, some 49, .bin .add (.s 41) (.c (.lit (.int .i64 1)))⟩, ⟨none, some 41, .mv (.s 49)⟩]))))))) (.seq (.seq (.reg [⟨none, some 50, .fa 2 (.s 1)⟩, ⟨none, some 51, .ld none (.s 50)⟩, ⟨none, some 52, .len (.s 51)⟩, ⟨none, some 53, .mv (.c (.lit (.int .i64 0)))⟩]) (.block 2 (.loop [53, 52, 51, 6, 2] (.seq (.reg [⟨none, some 54, .bin .lss (.s 53) (.s 52)⟩]) (.seq (.cond (.s 54) .skip (.exit 2)) (.seq (.block 3 (.seq (.reg [⟨none, some 55, .ia 1 (.s 51) (.s 53)⟩, ⟨none, some 56, .ld none (.s 55)⟩, ⟨none, some 10, .mv (.s 56)⟩]) (.reg [⟨none, some 57, .fa 8 (.s 6)⟩, ⟨none, some 58, .ld none (.s 57)⟩, ⟨none, some 59, .mv (.s 10)⟩, ⟨none, some 60, .ia 1 (.s 58) (.s 59)⟩, ⟨none, none, .st 1 (.s 60) (.c (.lit (.bool true)))⟩]))) (.reg [⟨none, some 61, .bin .add (.s 53) (.c (.lit (.int .i64 1)))⟩, ⟨none, some 53, .mv (.s 61)⟩]))))))) (.seq (.reg [⟨none, some 62, .ld (some 9) (.s 6)⟩, ⟨none, none, .st 9 (.s 2) (.s 62)⟩, ⟨none, some 3, .mv (.c (.lit (.int .i64 0)))⟩]) .ret)))))))⟩ := by kernel_rfl
abbrev zeroO : MV := .agg [.lit (.slice none 0 0), .lit (.slice none 0 0), .lit (.slice none 0 0), I64 0, I64 0, I64 0, I64 0, .lit (.slice none 0 0), .lit (.slice none 0 0)]
def openM (t : Tk) : MV := .tup [if (taskF id t).2 = 0 then encO t else zeroO, I64 (taskF id t).2]
set_option maxHeartbeats 1000000 in
theorem open_z (k : Nat) (t : Tk) (hb : Bd t) : runZ MT (orA (k + 6)) (itA (k + 6)) 4000000 113 [encT t] [] = some (openM t, []) := by
  have hs1 : (MV.sl (t.ter.map encW)).slen = some t.ter.length := by simp [MV.slen]
  have hs2 : (MV.sl (t.rows.map I64)).slen = some t.rows.length := by simp [MV.slen]
  have hs3 : (MV.sl (t.ties.map I64)).slen = some t.ties.length := by simp [MV.slen]
  have hc := fun h => CheckTask_c k t hb h
  have HM := Lib.hid (show openM t = .tup [if (taskF id t).2 = 0 then encO t else zeroO, I64 (taskF id t).2] from rfl)
  have hok := fun h => (task_ok (f := id) (t := t) h).1
  generalize taskF id t = p at hc HM hok
  obtain ⟨p1, p2⟩ := p
  obtain ⟨b1, b2, b3, b4⟩ := hb
  refine runZ_of mf_open (by simp) ?_
  simp only [argsL]
  by_cases hp : p2 = 0
  · subst hp
    obtain ⟨k1, k2, -, -, -, ⟨k3, -⟩, ⟨k4, -⟩, -⟩ := hok rfl
    clear hok
    have e0 := Tk.head k1.1
    have hsw := Tk.headW t
    generalize t.ter.getD 0 [] = r0 at e0 hsw
    repeat (first | apply ef_seq | (apply ef_mv; exact rfl; exact rfl) | (apply ef_bin; exact rfl; exact rfl; exact rfl; (exact cmp_f rfl (by simp only [cmpP]; omega))) | (apply ef_len; exact rfl; exact rfl; (assumption)) | (apply ef_ldr; exact rfl; exact rfl; (exact rfl)) | (apply ef_ldp; exact rfl; exact rfl; exact rfl; exact rfl; (exact rfl); (first | exact rd_5 rfl rfl rfl rfl rfl | exact rfl)) | (apply ef_ias; exact rfl; exact rfl; exact rfl; (omega); assumption; exact rfl) | (apply ef_fap; exact rfl; exact rfl) | (apply ef_ext; exact rfl; exact rfl; exact rfl) | (apply ef_box; exact rfl; exact rfl; exact rfl; exact rfl) | (apply ef_new; exact rfl) | (apply ef_build; exact rfl; (repeat (apply XVs.cons; exact rfl)); exact XVs.nil; exact rfl; exact rfl) | (apply ef_mks; exact rfl; exact rfl; (omega); (omega)) | (apply ef_st; exact rfl; exact rfl; exact rfl; exact rfl; exact rfl; exact rfl; (exact rfl); exact rfl) | apply ef_nil | apply seqQ.normal | apply ef_block | apply ef_skip | (apply ef_condf; exact rfl; (exact (rfl : false = false))) | (apply ef_call; exact rfl; ((repeat (apply XVs.cons; exact rfl)); exact XVs.nil); (with_reducible exact hc _)))
    refine ef_loopf (α := Nat) (fun s => s ≤ t.rows.length) (fun s => [(41, I64 (s : Int))]) [(40, _), (39, _), (6, _), (1, _), (2, _)]
      (fun s => [⟨0, false, 5, [encT t]⟩, ⟨0, false, 9, [zeroO]⟩, ⟨0, false, 9, [.agg [.sl (t.ter.map encW), .sl (t.rows.map I64), .sl (t.ties.map I64), I64 t.cl, I64 t.cb, I64 (t.W : Int), I64 (t.ter.length : Int), .arr 3 0 t.ter.length 0, .arr 4 0 t.W 0]]⟩, ⟨0, false, 1, bRow t.ter.length (t.rows.take s)⟩, ⟨0, false, 1, bRow t.W []⟩])
      (fun s => t.rows.length - s) 0 [41] (fun _ => rfl) (by ((repeat (refine Hold.cons (by exact rfl) ?_)); exact Hold.nil)) (by ((repeat (refine Hold.cons (by exact rfl) ?_)); exact Hold.nil)) rfl (by rw [List.take_zero, bRow_nil, bRow_nil]; rfl) (by simp) (by simp; omega) ?_
    rintro i hi
    try simp only at hi ⊢
    by_cases hlt : i < t.rows.length
    · have e1 := at_map I64 t.rows i hlt
      have hn := k3 _ (List.getElem_mem hlt)
      have HT := Lib.hid (show t.rows.take (i + 1) = t.rows.take i ++ [t.rows[i]] by rw [List.take_add_one, List.getElem?_eq_getElem hlt]; rfl)
      generalize t.rows[i] = n at e1 hn HT
      have hcell : (bRow t.ter.length (t.rows.take i))[0 + n.toNat]? = some (Bo ((t.rows.take i).contains ((n.toNat : Nat) : Int))) := by rw [Nat.zero_add]; exact bRow_at (by omega)
      repeat (first | apply ef_seq | (apply ef_mv; exact rfl; exact rfl) | (apply ef_bin; exact rfl; exact rfl; exact rfl; (first | exact cmp_t rfl (by first | exact rfl | (simp only [cmpP]; omega)) | ((with_reducible refine bin_add (wrap_of ?_ ?_)) <;> omega))) | (apply ef_ldr; exact rfl; exact rfl; (exact rfl)) | (apply ef_ldp; exact rfl; exact rfl; exact rfl; exact rfl; (exact rfl); (exact rfl)) | (apply ef_ias; exact rfl; exact rfl; exact rfl; (omega); assumption; exact rfl) | (apply ef_iaa; exact rfl; exact rfl; exact rfl; (omega); (omega); exact rfl) | (apply ef_fap; exact rfl; exact rfl) | (apply ef_st; exact rfl; exact rfl; exact rfl; exact rfl; exact rfl; exact rfl; (assumption); exact rfl) | apply ef_nil | apply seqQ.normal | apply blockQ.normal | apply ef_block | apply ef_skip | (apply ef_condt; exact rfl; (exact (rfl : true = true))))
      (refine loopQ.normal _ _ ⟨i + 1, hlt, (by first | (simp only; omega) | omega), ⟨by ((repeat (refine Hold.cons (by exact rfl) ?_)); exact Hold.nil), by ((repeat (refine Hold.cons (by exact rfl) ?_)); exact Hold.nil)⟩, ⟨.inl (Nat.le_refl _), by rw [HT.out, ← bRow_set hn.1]; exact rfl⟩⟩)
    · rw [List.take_of_length_le (by omega)]
      repeat (first | apply ef_seq | (apply ef_mv; exact rfl; exact rfl) | (apply ef_bin; exact rfl; exact rfl; exact rfl; (exact cmp_f rfl (by simp only [cmpP]; omega))) | (apply ef_len; exact rfl; exact rfl; (assumption)) | (apply ef_ldp; exact rfl; exact rfl; exact rfl; exact rfl; (exact rfl); (exact rfl)) | (apply ef_fap; exact rfl; exact rfl) | apply ef_nil | apply seqQ.normal | apply loopQ.exit | apply ef_exit | apply seqQ.exit | apply blockQ.here | apply ef_block | (apply ef_condf; exact rfl; (exact (rfl : false = false))))
      refine ef_loopf (α := Nat) (fun s => s ≤ t.ties.length) (fun s => [(53, I64 (s : Int))]) [(52, _), (51, _), (6, _), (2, _)]
        (fun s => [⟨0, false, 5, [encT t]⟩, ⟨0, false, 9, [zeroO]⟩, ⟨0, false, 9, [.agg [.sl (t.ter.map encW), .sl (t.rows.map I64), .sl (t.ties.map I64), I64 t.cl, I64 t.cb, I64 (t.W : Int), I64 (t.ter.length : Int), .arr 3 0 t.ter.length 0, .arr 4 0 t.W 0]]⟩, ⟨0, false, 1, bRow t.ter.length t.rows⟩, ⟨0, false, 1, bRow t.W (t.ties.take s)⟩])
        (fun s => t.ties.length - s) 0 [53] (fun _ => rfl) (by ((repeat (refine Hold.cons (by exact rfl) ?_)); exact Hold.nil)) (by ((repeat (refine Hold.cons (by exact rfl) ?_)); exact Hold.nil)) rfl (by rw [List.take_zero]) (by simp) (by simp; omega) ?_
      rintro j hj
      try simp only at hj ⊢
      by_cases hlt2 : j < t.ties.length
      · have e1 := at_map I64 t.ties j hlt2
        have hn := k4 _ (List.getElem_mem hlt2)
        have HT := Lib.hid (show t.ties.take (j + 1) = t.ties.take j ++ [t.ties[j]] by rw [List.take_add_one, List.getElem?_eq_getElem hlt2]; rfl)
        generalize t.ties[j] = n at e1 hn HT
        have hcell : (bRow t.W (t.ties.take j))[0 + n.toNat]? = some (Bo ((t.ties.take j).contains ((n.toNat : Nat) : Int))) := by rw [Nat.zero_add]; exact bRow_at (by omega)
        repeat (first | apply ef_seq | (apply ef_mv; exact rfl; exact rfl) | (apply ef_bin; exact rfl; exact rfl; exact rfl; (first | exact cmp_t rfl (by first | exact rfl | (simp only [cmpP]; omega)) | ((with_reducible refine bin_add (wrap_of ?_ ?_)) <;> omega))) | (apply ef_ldr; exact rfl; exact rfl; (exact rfl)) | (apply ef_ldp; exact rfl; exact rfl; exact rfl; exact rfl; (exact rfl); (exact rfl)) | (apply ef_ias; exact rfl; exact rfl; exact rfl; (omega); assumption; exact rfl) | (apply ef_iaa; exact rfl; exact rfl; exact rfl; (omega); (omega); exact rfl) | (apply ef_fap; exact rfl; exact rfl) | (apply ef_st; exact rfl; exact rfl; exact rfl; exact rfl; exact rfl; exact rfl; (assumption); exact rfl) | apply ef_nil | apply seqQ.normal | apply blockQ.normal | apply ef_block | apply ef_skip | (apply ef_condt; exact rfl; (exact (rfl : true = true))))
        (refine loopQ.normal _ _ ⟨j + 1, hlt2, (by first | (simp only; omega) | omega), ⟨by ((repeat (refine Hold.cons (by exact rfl) ?_)); exact Hold.nil), by ((repeat (refine Hold.cons (by exact rfl) ?_)); exact Hold.nil)⟩, ⟨.inl (Nat.le_refl _), by rw [HT.out, ← bRow_set hn.1]; exact rfl⟩⟩)
      · rw [List.take_of_length_le (by omega)]
        repeat (first | apply ef_seq | (apply ef_mv; exact rfl; exact rfl) | (apply ef_bin; exact rfl; exact rfl; exact rfl; (exact cmp_f rfl (by simp only [cmpP]; omega))) | (apply ef_ldp; exact rfl; exact rfl; exact rfl; exact rfl; (exact rfl); (exact rd_whole rfl)) | (apply ef_st; exact rfl; exact rfl; exact rfl; exact rfl; exact rfl; exact rfl; (exact rfl); exact rfl) | apply ef_nil | apply seqQ.normal | apply loopQ.exit | apply ef_ret | apply ef_exit | apply seqQ.exit | apply blockQ.here | (apply ef_condf; exact rfl; (exact (rfl : false = false))))
        rw [HM.out]
        refine fin_cf (m := .agg [.sl (t.ter.map encW), .sl (t.rows.map I64), .sl (t.ties.map I64), I64 t.cl, I64 t.cb, I64 (t.W : Int), I64 (t.ter.length : Int), .arr 3 0 t.ter.length 0, .arr 4 0 t.W 0]) rfl (by exact rfl) (by exact rfl) rfl rfl (by exact rfl) (by exact rfl) (fun _ _ _ _ h => by cases h) ?_
        have t1 : ∀ (n : Nat) (l : List Int), (bRow n l).take n = bRow n l := fun n l => List.take_of_length_le (by rw [bRow_len]; exact Nat.le_refl _)
        simp [frz, MV.lt, ltL, List.mapM_cons, ltL_I, ltL_W, ltL_B, t1, bRow_len]
  · repeat (first | apply ef_seq | (apply ef_mv; exact rfl; exact rfl) | (apply ef_bin; exact rfl; exact rfl; exact rfl; (exact cmp_t rfl (by first | exact rfl | (simp only [cmpP]; omega)))) | (apply ef_ldp; exact rfl; exact rfl; exact rfl; exact rfl; (exact rfl); (exact rd_5 rfl rfl rfl rfl rfl)) | (apply ef_ext; exact rfl; exact rfl; exact rfl) | (apply ef_box; exact rfl; exact rfl; exact rfl; exact rfl) | (apply ef_new; exact rfl) | (apply ef_build; exact rfl; (repeat (apply XVs.cons; exact rfl)); exact XVs.nil; exact rfl; exact rfl) | (apply ef_st; exact rfl; exact rfl; exact rfl; exact rfl; exact rfl; exact rfl; (exact rfl); exact rfl) | apply ef_nil | apply seqQ.normal | apply ef_ret | apply seqQ.ret | (apply ef_condt; exact rfl; (exact (rfl : true = true))) | (apply ef_call; exact rfl; ((repeat (apply XVs.cons; exact rfl)); exact XVs.nil); (with_reducible exact hc _)))
    rw [HM.out, if_neg hp]
    exact fin_cf rfl (by exact rfl) (by exact rfl) rfl rfl (by exact rfl) (by exact rfl) (fun _ _ _ _ h => by cases h) rfl
theorem open_c (k : Nat) (t : Tk) (hb : Bd t) (h : MHeap) : orA (k + 7) 113 [encT t] h = some (openM t, h) := by
  by_cases h0 : (taskF id t).2 = 0
  · have hz := open_z k t hb
    unfold openM at hz ⊢
    rw [if_pos h0] at hz ⊢
    have := callA (k := k + 6) (h := h) (frzL_lt (ms := [encT t]) (by simp [ltL, encT_lt])) rfl hz (by simp [okV, ok1, ltL, ltL_I, ltL_W, ltL_B, MV.lt]) rfl
    simpa [shV, sh1] using this
  · have hz := open_z k t hb
    unfold openM at hz ⊢
    rw [if_neg h0] at hz ⊢
    have := callA (k := k + 6) (h := h) (frzL_lt (ms := [encT t]) (by simp [ltL, encT_lt])) rfl hz (by simp [okV, ok1, ltL, ltL_I, ltL_W, ltL_B, MV.lt]) rfl
    simpa [shV, sh1] using this
end Go.Proofs.Ytgjpdjihjphbdaa

/- Contracts: nodes, neighbours. -/
namespace Go.Proofs.Ytgjpdjihjphbdaa
open Go.RowKit
set_option linter.unusedVariables false
abbrev posI (x y : Int) : MV := .agg [I64 x, I64 y]
abbrev posM (p : Nat × Nat) : MV := posI (p.2 : Int) (p.1 : Int)
theorem mf_isNode : MT.mf 155 = some ⟨19, [(.tmp 4)], (.seq (.reg [⟨none, some 2, .box 9 (.s 0)⟩, ⟨none, some 3, .box 2 (.s 1)⟩, ⟨none, some 4, .mv (.c (.lit (.bool false)))⟩]) (.seq (.reg [⟨none, some 5, .fa 0 (.s 3)⟩, ⟨none, some 6, .ld none (.s 5)⟩, ⟨none, some 7, .fa 5 (.s 2)⟩, ⟨none, some 8, .ld none (.s 7)⟩, ⟨none, some 9, .bin .sub (.s 8) (.c (.lit (.int .i64 1)))⟩, ⟨none, some 10, .call 129 [.s 6, (.c (.lit (.int .i64 0))), .s 9]⟩, ⟨none, some 11, .mv (.s 10)⟩, ⟨some (11, true), some 12, .fa 1 (.s 3)⟩, ⟨some (11, true), some 13, .ld none (.s 12)⟩, ⟨some (11, true), some 14, .fa 6 (.s 2)⟩, ⟨some (11, true), some 15, .ld none (.s 14)⟩, ⟨some (11, true), some 16, .bin .sub (.s 15) (.c (.lit (.int .i64 1)))⟩, ⟨some (11, true), some 17, .call 129 [.s 13, (.c (.lit (.int .i64 0))), .s 16]⟩, ⟨none, some 18, .pick (.s 11) (.s 17) (.c (.lit (.bool false)))⟩, ⟨none, some 4, .mv (.s 18)⟩]) .ret))⟩ := by kernel_rfl
theorem isNode_c (k : Nat) (t : Tk) (x y : Int) (h : MHeap) {b : Bool} (hw : t.W ≤ 100000) (hh : t.ter.length ≤ 100000) (hb : (inB x 0 ((t.W : Int) - 1) && inB y 0 ((t.ter.length : Int) - 1)) = b) : orA (k + 2) 155 [encO t, posI x y] h = some (Bo b, h) := by
  refine callL (args' := [encO t, posI x y]) (frzL_lt (by simp [ltL, MV.lt, ltL_I, ltL_W, ltL_B])) rfl (runZ_of mf_isNode (by simp) ?_)
  simp only [argsL]
  cases g1 : inB x 0 ((t.W : Int) - 1)
  · repeat (first | apply ef_seq | (apply ef_mv; exact rfl; exact rfl) | (apply ef_bin; exact rfl; exact rfl; exact rfl; (((with_reducible refine bin_sub (wrap_of ?_ ?_)) <;> omega))) | (apply ef_gn; exact rfl; (exact (rfl : false = false)); exact rfl) | (apply ef_pick; exact rfl; exact rfl; exact rfl) | (apply ef_ldp; exact rfl; exact rfl; exact rfl; exact rfl; (exact rfl); (exact rfl)) | (apply ef_fap; exact rfl; exact rfl) | (apply ef_box; exact rfl; exact rfl; exact rfl; exact rfl) | apply ef_nil | apply seqQ.normal | apply ef_ret | (apply ef_call; exact rfl; ((repeat (apply XVs.cons; exact rfl)); exact XVs.nil); (with_reducible exact within_c _ _ _ _ _ (by assumption))))
    (refine fin1 rfl (by exact rfl) rfl ?_)
    rw [← hb, g1]; rfl
  · repeat (first | apply ef_seq | (apply ef_mv; exact rfl; exact rfl) | (apply ef_bin; exact rfl; exact rfl; exact rfl; (((with_reducible refine bin_sub (wrap_of ?_ ?_)) <;> omega))) | (apply ef_gy; exact rfl; (exact (rfl : true = true))) | (apply ef_pick; exact rfl; exact rfl; exact rfl) | (apply ef_ldp; exact rfl; exact rfl; exact rfl; exact rfl; (exact rfl); (exact rfl)) | (apply ef_fap; exact rfl; exact rfl) | (apply ef_box; exact rfl; exact rfl; exact rfl; exact rfl) | apply ef_nil | apply seqQ.normal | apply ef_ret | (apply ef_call; exact rfl; ((repeat (apply XVs.cons; exact rfl)); exact XVs.nil); (with_reducible exact within_c _ _ _ _ _ (by first | assumption | rfl))))
    (refine fin1 rfl (by exact rfl) rfl ?_)
    rw [← hb, g1]; rfl
theorem nat_of {y : Int} {n : Nat} (h : 0 ≤ y ∧ y ≤ (n : Int) - 1) : ∃ m : Nat, y = (m : Int) ∧ m < n := ⟨y.toNat, by omega, by omega⟩
def Tk.flI (t : Tk) (x y : Int) : Bool := inB x 0 ((t.W : Int) - 1) && inB y 0 ((t.ter.length : Int) - 1) && (t.rows.contains y || t.ties.contains x)
theorem Tk.flI_nat (t : Tk) {y x : Nat} (hy : y < t.H) (hx : x < t.W) : t.flI (x : Int) (y : Int) = t.fl y x := by
  have h1 : inB (x : Int) 0 ((t.W : Int) - 1) = true := inB_iff.2 (by omega)
  have h2 : inB (y : Int) 0 ((t.ter.length : Int) - 1) = true := inB_iff.2 (by unfold Tk.H at hy; omega)
  simp [Tk.flI, Tk.fl, h1, h2]
theorem mf_flown : MT.mf 116 = some ⟨24, [(.tmp 4)], (.seq (.reg [⟨none, some 2, .box 9 (.s 0)⟩, ⟨none, some 3, .box 2 (.s 1)⟩, ⟨none, some 4, .mv (.c (.lit (.bool false)))⟩]) (.seq (.reg [⟨none, some 5, .ld (some 9) (.s 2)⟩, ⟨none, some 6, .ld (some 2) (.s 3)⟩, ⟨none, some 7, .call 155 [.s 5, .s 6]⟩, ⟨none, some 8, .mv (.s 7)⟩, ⟨some (8, true), some 9, .fa 7 (.s 2)⟩, ⟨some (8, true), some 10, .ld none (.s 9)⟩, ⟨some (8, true), some 11, .fa 1 (.s 3)⟩, ⟨some (8, true), some 12, .ld none (.s 11)⟩, ⟨some (8, true), some 13, .ia 1 (.s 10) (.s 12)⟩, ⟨some (8, true), some 14, .ld none (.s 13)⟩, ⟨some (8, true), some 15, .mv (.s 14)⟩, ⟨some (15, false), some 16, .fa 8 (.s 2)⟩, ⟨some (15, false), some 17, .ld none (.s 16)⟩, ⟨some (15, false), some 18, .fa 0 (.s 3)⟩, ⟨some (15, false), some 19, .ld none (.s 18)⟩, ⟨some (15, false), some 20, .ia 1 (.s 17) (.s 19)⟩, ⟨some (15, false), some 21, .ld none (.s 20)⟩, ⟨some (8, true), some 22, .pick (.s 15) (.c (.lit (.bool true))) (.s 21)⟩, ⟨none, some 23, .pick (.s 8) (.s 22) (.c (.lit (.bool false)))⟩, ⟨none, some 4, .mv (.s 23)⟩]) .ret))⟩ := by kernel_rfl
theorem flown_c (k : Nat) (t : Tk) (x y : Int) (h : MHeap) {b : Bool} (hw : t.W ≤ 100000) (hh : t.ter.length ≤ 100000) (hb : t.flI x y = b) : orA (k + 3) 116 [encO t, posI x y] h = some (Bo b, h) := by
  refine callL (args' := [encO t, posI x y]) (frzL_lt (by simp [ltL, MV.lt, ltL_I, ltL_W, ltL_B])) rfl (runZ_of mf_flown (by simp) ?_)
  simp only [argsL]
  unfold Tk.flI at hb
  obtain ⟨c, hc⟩ : ∃ c, (inB x 0 ((t.W : Int) - 1) && inB y 0 ((t.ter.length : Int) - 1)) = c := ⟨_, rfl⟩
  have hn := fun h => isNode_c k t x y h hw hh hc
  rw [hc] at hb
  cases c
  · repeat (first | apply ef_seq | (apply ef_mv; exact rfl; exact rfl) | (apply ef_gn; exact rfl; (exact (rfl : false = false)); exact rfl) | (apply ef_gu; exact rfl; exact rfl) | (apply ef_pick; exact rfl; exact rfl; exact rfl) | (apply ef_ldp; exact rfl; exact rfl; exact rfl; exact rfl; (exact rfl); (first | exact rd_2 rfl rfl | exact rd_whole rfl)) | (apply ef_box; exact rfl; exact rfl; exact rfl; exact rfl) | apply ef_nil | apply seqQ.normal | apply ef_ret | (apply ef_call; exact rfl; ((repeat (apply XVs.cons; exact rfl)); exact XVs.nil); (with_reducible exact hn _)))
    (refine fin1 rfl (by exact rfl) rfl ?_)
    rw [← hb]; rfl
  · rw [Bool.and_eq_true, inB_iff, inB_iff] at hc
    obtain ⟨m, rfl, hm⟩ := nat_of hc.1
    obtain ⟨n, rfl, hn2⟩ := nat_of hc.2
    have e1 : (bRow t.ter.length t.rows)[((n : Nat) : Int).toNat]? = some (Bo (t.rows.contains (n : Int))) := bRow_at hn2
    have e2 : (bRow t.W t.ties)[((m : Nat) : Int).toNat]? = some (Bo (t.ties.contains (m : Int))) := bRow_at hm
    generalize t.rows.contains (n : Int) = p at e1 hb
    generalize t.ties.contains (m : Int) = q at e2 hb
    cases p
    · repeat (first | apply ef_seq | (apply ef_mv; exact rfl; exact rfl) | (apply ef_gy; exact rfl; (first | exact (rfl : true = true) | exact (rfl : false = false))) | (apply ef_pick; exact rfl; exact rfl; exact rfl) | (apply ef_ldr; exact rfl; exact rfl; (exact rfl)) | (apply ef_ldp; exact rfl; exact rfl; exact rfl; exact rfl; (exact rfl); (first | exact rd_2 rfl rfl | exact rd_whole rfl | exact rfl)) | (apply ef_ias; exact rfl; exact rfl; exact rfl; (omega); assumption; exact rfl) | (apply ef_fap; exact rfl; exact rfl) | (apply ef_box; exact rfl; exact rfl; exact rfl; exact rfl) | apply ef_nil | apply seqQ.normal | apply ef_ret | (apply ef_call; exact rfl; ((repeat (apply XVs.cons; exact rfl)); exact XVs.nil); (with_reducible exact hn _)))
      (refine fin1 rfl (by exact rfl) rfl ?_)
      rw [← hb]; rfl
    · repeat (first | apply ef_seq | (apply ef_mv; exact rfl; exact rfl) | (apply ef_gy; exact rfl; (exact (rfl : true = true))) | (apply ef_gn; exact rfl; (exact (rfl : true = true)); exact rfl) | (apply ef_pick; exact rfl; exact rfl; exact rfl) | (apply ef_ldr; exact rfl; exact rfl; (exact rfl)) | (apply ef_ldp; exact rfl; exact rfl; exact rfl; exact rfl; (exact rfl); (first | exact rd_2 rfl rfl | exact rd_whole rfl | exact rfl)) | (apply ef_ias; exact rfl; exact rfl; exact rfl; (omega); assumption; exact rfl) | (apply ef_fap; exact rfl; exact rfl) | (apply ef_box; exact rfl; exact rfl; exact rfl; exact rfl) | apply ef_nil | apply seqQ.normal | apply ef_ret | (apply ef_call; exact rfl; ((repeat (apply XVs.cons; exact rfl)); exact XVs.nil); (with_reducible exact hn _)))
      (refine fin1 rfl (by exact rfl) rfl ?_)
      rw [← hb]; rfl
theorem row_at {t : Tk} {y : Nat} (hy : y < t.ter.length) : (t.ter.map encW)[((y : Nat) : Int).toNat]? = some (encW (t.ter.getD y [])) := by
  rw [Int.toNat_natCast, List.getElem?_map, List.getD_eq_getElem?_getD, List.getElem?_eq_getElem hy]; rfl
theorem cell_at {r : List Int} {x : Nat} (hx : x < r.length) : (r.map I64)[((x : Nat) : Int).toNat]? = some (I64 (r.getD x 0)) := by
  rw [Int.toNat_natCast, List.getElem?_map, List.getD_eq_getElem?_getD, List.getElem?_eq_getElem hx]; rfl
theorem OkT.at {t : Tk} (ok : OkT t) {y x : Nat} (hy : y < t.ter.length) (hx : x < t.W) : x < (t.ter.getD y []).length ∧ 0 ≤ (t.ter.getD y []).getD x 0 ∧ (t.ter.getD y []).getD x 0 ≤ 10000 := by
  have h1 : t.ter.getD y [] = t.ter[y] := by rw [List.getD_eq_getElem?_getD, List.getElem?_eq_getElem hy]; rfl
  obtain ⟨h2, h3⟩ := ok.rw _ (List.getElem_mem hy)
  rw [h1]
  have hx2 : x < t.ter[y].length := by omega
  have h4 : t.ter[y].getD x 0 = t.ter[y][x] := by rw [List.getD_eq_getElem?_getD, List.getElem?_eq_getElem hx2]; rfl
  rw [h4]
  exact ⟨hx2, h3 _ (List.getElem_mem hx2)⟩
theorem OkT.need {t : Tk} (ok : OkT t) {y x : Nat} (hy : y < t.H) (hx : x < t.W) : 0 ≤ t.need y x ∧ t.need y x ≤ 20000 := by
  have h1 := ok.at (y := y) (x := x) hy hx
  have h2 := ok.cl
  unfold Tk.need at2
  omega
theorem mf_own : MT.mf 117 = some ⟨20, [(.tmp 4)], (.seq (.reg [⟨none, some 2, .box 9 (.s 0)⟩, ⟨none, some 3, .box 2 (.s 1)⟩, ⟨none, some 4, .mv (.c (.lit (.int .i64 0)))⟩]) (.seq (.reg [⟨none, some 5, .fa 0 (.s 2)⟩, ⟨none, some 6, .fa 0 (.s 5)⟩, ⟨none, some 7, .ld none (.s 6)⟩, ⟨none, some 8, .fa 1 (.s 3)⟩, ⟨none, some 9, .ld none (.s 8)⟩, ⟨none, some 10, .ia 1 (.s 7) (.s 9)⟩, ⟨none, some 11, .ld none (.s 10)⟩, ⟨none, some 12, .fa 0 (.s 3)⟩, ⟨none, some 13, .ld none (.s 12)⟩, ⟨none, some 14, .ia 1 (.s 11) (.s 13)⟩, ⟨none, some 15, .ld none (.s 14)⟩, ⟨none, some 16, .fa 0 (.s 2)⟩, ⟨none, some 17, .fa 3 (.s 16)⟩, ⟨none, some 18, .ld none (.s 17)⟩, ⟨none, some 19, .bin .add (.s 15) (.s 18)⟩, ⟨none, some 4, .mv (.s 19)⟩]) .ret))⟩ := by kernel_rfl
theorem own_c (k : Nat) (t : Tk) (ok : OkT t) {y x : Nat} (hy : y < t.H) (hx : x < t.W) (h : MHeap) : orA (k + 1) 117 [encO t, posM (y, x)] h = some (I64 (t.need y x), h) := by
  refine callL (args' := [encO t, posM (y, x)]) (frzL_lt (by simp [ltL, MV.lt, ltL_I, ltL_W, ltL_B])) rfl (runZ_of mf_own (by simp) ?_)
  simp only [argsL]
  have e1 := row_at (t := t) hy
  obtain ⟨a1, a2, a3⟩ := ok.at (y := y) (x := x) hy hx
  have e2 := cell_at a1
  obtain ⟨c1, c2⟩ := ok.cl
  have HN := Lib.hid (show t.need y x = (t.ter.getD y []).getD x 0 + t.cl from rfl)
  generalize (t.ter.getD y []).getD x 0 = v at *
  generalize t.ter.getD y [] = r at *
  repeat (first | apply ef_seq | (apply ef_mv; exact rfl; exact rfl) | (apply ef_bin; exact rfl; exact rfl; exact rfl; (((with_reducible refine bin_add (wrap_of ?_ ?_)) <;> omega))) | (apply ef_ldr; exact rfl; exact rfl; (exact rfl)) | (apply ef_ldp; exact rfl; exact rfl; exact rfl; exact rfl; (exact rfl); (exact rfl)) | (apply ef_ias; exact rfl; exact rfl; exact rfl; (omega); assumption; exact rfl) | (apply ef_fap; exact rfl; exact rfl) | (apply ef_box; exact rfl; exact rfl; exact rfl; exact rfl) | apply ef_nil | apply seqQ.normal | apply ef_ret)
  (refine fin1 rfl (by exact rfl) rfl ?_)
  rw [HN.out]
def nodesP (H W : Nat) : List (Nat × Nat) := (List.range H).flatMap fun y => (List.range W).map fun x => (y, x)
def posY (l : List (Nat × Nat)) : List (List MV) := l.map fun p => [posM p]
theorem posY_app (a b : List (Nat × Nat)) : posY (a ++ b) = posY a ++ posY b := List.map_append
theorem nodesP_succ (H W : Nat) : nodesP (H + 1) W = nodesP H W ++ (List.range W).map fun x => (H, x) := by
  unfold nodesP
  rw [List.range_succ, List.flatMap_append]; simp
def l1 : Nat → Nat
  | 0 => 0
  | _ + 1 => 1
def l2 (y : Nat) : Nat → Nat
  | 0 => l1 y
  | _ + 1 => 1
theorem mf_nodes : MT.mf 114 = some ⟨24, [], (.seq (.reg [⟨none, some 2, .box 9 (.s 0)⟩]) (.seq (.reg [⟨none, some 6, .fa 6 (.s 2)⟩, ⟨none, some 7, .ld none (.s 6)⟩, ⟨none, some 8, .mv (.c (.lit (.int .i64 0)))⟩]) (.block 0 (.loop [8, 7, 2, 1] (.seq (.reg [⟨none, some 9, .bin .lss (.s 8) (.s 7)⟩]) (.seq (.cond (.s 9) .skip (.exit 0)) (.seq (.block 1 (.seq (.reg [⟨none, some 10, .mv (.s 8)⟩, ⟨none, some 4, .mv (.s 10)⟩]) (.seq (.reg [⟨none, some 11, .fa 5 (.s 2)⟩, ⟨none, some 12, .ld none (.s 11)⟩, ⟨none, some 13, .mv (.c (.lit (.int .i64 0)))⟩]) (.block 2 (.loop [13, 12, 1, 4, 8, 7, 2] (.seq (.reg [⟨none, some 14, .bin .lss (.s 13) (.s 12)⟩]) (.seq (.cond (.s 14) .skip (.exit 2)) (.seq (.block 3 (.seq (.reg [⟨none, some 15, .mv (.s 13)⟩, ⟨none, some 5, .mv (.s 15)⟩]) (.seq (.reg [⟨none, some 16, .mv (.s 1)⟩, ⟨none, some 17, .mv (.s 5)⟩, ⟨none, some 18, .mv (.s 4)⟩, ⟨none, some 19, .build [(.lit (.int .i64 0)), (.lit (.int .i64 0))] [(0, (1, (.s 17))), (1, (1, (.s 18)))]⟩, ⟨none, some 20, .callv (.s 16) [.s 19]⟩, ⟨none, some 21, .un .not (.s 20)⟩]) (.cond (.s 21) .ret .skip)))) (.reg [⟨none, some 22, .bin .add (.s 13) (.c (.lit (.int .i64 1)))⟩, ⟨none, some 13, .mv (.s 22)⟩]))))))))) (.reg [⟨none, some 23, .bin .add (.s 8) (.c (.lit (.int .i64 1)))⟩, ⟨none, some 8, .mv (.s 23)⟩]))))))))⟩ := by kernel_rfl
theorem nodes_it (k : Nat) (t : Tk) (ok : OkT t) (h : MHeap) : itA k 114 1 [encO t] h = some (posY (nodesP t.ter.length t.W)) := by
  obtain ⟨h1, h2⟩ := ok.h1
  obtain ⟨w1, w2⟩ := ok.w1
  have hlt := encO_lt t 0
  refine itA_of mf_nodes (by kernel_rfl) (itM_of (cs := [encO t]) (by simp only [List.mapM_cons, List.mapM_nil]; simp [frz, hlt]) (by simp) ?_ ?_)
  · show EfI _ _ _ _ (argsL 0 [encO t, .yld]) _ _ _ _ _
    simp only [argsL]
    repeat (first | apply efi_seq | apply efi_block | apply seqI.normal | (apply efi_reg; exact rfl) | (apply ef_mv; exact rfl; exact rfl) | (apply ef_ldp; exact rfl; exact rfl; exact rfl; exact rfl; (exact rfl); (exact rfl)) | (apply ef_fap; exact rfl; exact rfl) | (apply ef_box; exact rfl; exact rfl; exact rfl; exact rfl) | apply ef_nil)
    refine efi_loop (α := Nat) (fun y => y ≤ t.ter.length) (fun y => [(8, I64 (y : Int)), (7, I64 (t.ter.length : Int)), (2, .ptr 0 0 0 0), (1, .yld)]) (fun _ => [⟨0, false, 9, [encO t]⟩]) l1 (fun y => posY (nodesP y t.W)) (fun y => t.ter.length - y) 0 (by simp) (by simp; omega) (by ((repeat (refine Hold.cons (by exact rfl) ?_)); exact Hold.nil)) rfl rfl rfl ?_
    rintro y hy
    try simp only at hy ⊢
    by_cases hlt2 : y < t.ter.length
    · repeat (first | apply efi_seq | apply efi_block | apply efi_skip | apply seqI.normal | (apply efi_reg; exact rfl) | (apply efi_condt; exact rfl; (exact rfl)) | (apply ef_mv; exact rfl; exact rfl) | (apply ef_bin; exact rfl; exact rfl; exact rfl; (exact cmp_t rfl (by first | exact rfl | (simp only [cmpP]; omega)))) | (apply ef_ldp; exact rfl; exact rfl; exact rfl; exact rfl; (exact rfl); (exact rfl)) | (apply ef_fap; exact rfl; exact rfl) | apply ef_nil)
      refine efi_loop (α := Nat) (fun x => x ≤ t.W) (fun x => [(13, I64 (x : Int)), (12, I64 (t.W : Int)), (1, .yld), (4, I64 (y : Int)), (8, I64 (y : Int)), (7, I64 (t.ter.length : Int)), (2, .ptr 0 0 0 0)]) (fun _ => [⟨0, false, 9, [encO t]⟩]) (l2 y) (fun x => posY (nodesP y t.W ++ (List.range x).map fun x => (y, x))) (fun x => t.W - x) 0 (by simp) (by simp; omega) (by ((repeat (refine Hold.cons (by exact rfl) ?_)); exact Hold.nil)) rfl rfl (by simp) ?_
      rintro x hx
      try simp only at hx ⊢
      by_cases hlt3 : x < t.W
      · repeat (first | apply efi_seq | apply efi_block | apply efi_skip | apply seqI.normal | (apply efi_reg; exact rfl) | (apply efi_regy; exact rfl) | (apply efy_op; exact rfl) | (apply efi_condt; exact rfl; (exact rfl)) | (apply ef_mv; exact rfl; exact rfl) | (apply ef_bin; exact rfl; exact rfl; exact rfl; (exact cmp_t rfl (by first | exact rfl | (simp only [cmpP]; omega)))) | (apply ef_build; exact rfl; (repeat (apply XVs.cons; exact rfl)); exact XVs.nil; exact rfl; exact rfl) | apply ef_nil)
        (apply efy_yield; (· exact trivial); (· exact rfl); (· exact rfl); (· ((repeat (apply XVs.cons; exact rfl)); exact XVs.nil)); (· exact rfl))
        · repeat (first | apply efi_skip | apply seqI.normal | apply blockI.normal | (apply efi_reg; exact rfl) | apply efy_nil | (apply efy_op; exact rfl) | (apply efi_condf; exact rfl; (exact rfl)) | (apply ef_mv; exact rfl; exact rfl) | (apply ef_bin; exact rfl; exact rfl; exact rfl; (((with_reducible refine bin_add (wrap_of ?_ ?_)) <;> omega))) | (apply ef_notT; exact rfl; exact rfl) | apply ef_nil)
          (refine loopI.normal _ _ _ _ _ ⟨rfl, x + 1, hlt3, (by first | (simp only; omega) | omega), by ((repeat (refine Hold.cons (by exact rfl) ?_)); exact Hold.nil), rfl, rfl, (by simp only [List.range_succ, List.map_append, posY_app, List.append_assoc]; rfl)⟩)
        · repeat (first | apply efi_ret | apply seqI.normal | apply seqI.ret | apply blockI.ret | apply efy_nil | (apply efy_op; exact rfl) | (apply efi_condt; exact rfl; (exact rfl)) | apply loopI.ret | (apply ef_notF; exact rfl; exact rfl) | apply ef_nil)
          exact finI_stop rfl
      · obtain rfl : x = t.W := by omega
        repeat (first | apply efi_seq | apply efi_exit | apply seqI.normal | apply seqI.exit | apply blockI.normal | apply blockI.here | (apply efi_reg; exact rfl) | (apply efi_condf; exact rfl; (exact rfl)) | apply loopI.exit | (apply ef_mv; exact rfl; exact rfl) | (apply ef_bin; exact rfl; exact rfl; exact rfl; (first | exact cmp_f rfl (by simp only [cmpP]; omega) | ((with_reducible refine bin_add (wrap_of ?_ ?_)) <;> omega))) | apply ef_nil)
        refine loopI.normal _ _ _ _ _ ⟨rfl, y + 1, hlt2, (by first | (simp only; omega) | omega), by ((repeat (refine Hold.cons (by exact rfl) ?_)); exact Hold.nil), rfl, ?_, by rw [nodesP_succ]⟩
        obtain ⟨m, hm⟩ : ∃ m, t.W = m + 1 := ⟨t.W - 1, by omega⟩
        rw [hm]; rfl
    · obtain rfl : y = t.ter.length := by omega
      repeat (first | apply efi_seq | apply efi_exit | apply seqI.normal | apply seqI.exit | apply blockI.here | (apply efi_reg; exact rfl) | (apply efi_condf; exact rfl; (exact rfl)) | apply loopI.exit | (apply ef_bin; exact rfl; exact rfl; exact rfl; (exact cmp_f rfl (by simp only [cmpP]; omega))) | apply ef_nil)
      exact finI_go rfl rfl
  · rw [List.all_eq_true]
    intro x hx
    obtain ⟨p, _, rfl⟩ := List.mem_map.1 hx
    rfl
end Go.Proofs.Ytgjpdjihjphbdaa
