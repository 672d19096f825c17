/- Contracts as answers: polygons; the table. -/
import Derived.Test.YtgjpdjihjphbdaaTz
import Derived.Test.YtgjpdjihjphbdaaPolyErr
namespace Go.Proofs.Ytgjpdjihjphbdaa
open Go.RowKit
set_option linter.unusedVariables false

def tPoly (f : Nat) (args : List MV) (h : MHeap) : Option (MV × MHeap) :=
  match args with
  | [.agg [v]] => match v.elems h with
    | some es => match es.mapM decR with
      | some cs => if cs.length ≤ 9223372036854775807 then
          if f = 27 then some (.tup [I64 (areaRes cs).1, I64 (areaRes cs).2], h)
          else if f = 25 then some (.tup [I64 (polyCheck cs).1, I64 (polyCheck cs).2], h)
          else if f = 99 then some (I64 (polyCheck cs).2, h)
          else none
        else none
      | none => none
    | none => none
  | _ => none

theorem post_ret {E : Env} {h : MHeap} {w : World} {m : MV} {v : Value} (hr : HRel E h w) (hv : ∀ E w, V E w m v) {e : Ending} {w' : World} (hR : Ret w v e w') : Post E w m h e w' := by
  obtain ⟨rfl, hb⟩ := hR
  obtain ⟨g1, g2⟩ := grow_ok hr hb
  exact ⟨_, _, rfl, hv _ _, g1, g2⟩
theorem v_tup {E : Env} {w : World} (us : List Value) : V E w (.tup (us.map .lit)) (.tuple us.toArray) :=
  .tup _ us (by simp) fun i c x hc hx => by
    rw [List.getElem?_map, hx] at hc
    cases hc; exact .lit _

theorem tPoly_ok : SoundO Try.prog tPoly := by
  intro f args h m h' he
  unfold tPoly at he
  split at he
  case h_2 => cases he
  rename_i v
  split at he
  case h_2 => cases he
  rename_i es hes
  split at he
  case h_2 => cases he
  rename_i cs hcs
  have hcs' := decR_all hcs
  subst hcs'
  split at he
  case isFalse => cases he
  rename_i hlen
  have key : ∀ E w vs, HRel E h w → Vs E w [.agg [v]] vs → ∃ A cap, vs = [.agg #[.slice A cs.length cap]] ∧ Rd w 2 A cs.length (enc2 cs) := fun E w vs hr hv => by
    obtain ⟨x, us, rfl, h1, h2⟩ := hv.uncons
    obtain rfl : us = [] := List.length_eq_zero_iff.1 h2.1.symm
    cases h1 with
    | agg _ vs hl hc =>
      obtain ⟨y, us, rfl, h3, h4⟩ := Vs.uncons (E := E) (w := w) (m := v) (ms := []) (vs := vs) ⟨hl, hc⟩
      obtain rfl : us = [] := List.length_eq_zero_iff.1 h4.1.symm
      obtain ⟨A, cap, rfl, hcap, hrd⟩ := rd_of hr h3 hes
      exact ⟨A, cap, rfl, hrd⟩
  split at he
  · rename_i hf
    subst hf
    cases he
    refine ⟨by kernel_rfl, fun E w vs hr hv => ?_⟩
    obtain ⟨A, cap, rfl, hrd⟩ := key E w vs hr hv
    exact (AreaOf_any A cap cs w hrd).mono fun e w' hR => post_ret hr (fun E w => v_tup [.int .i64 (areaRes cs).1, .int .i64 (areaRes cs).2]) hR
  · split at he
    · rename_i hf
      subst hf
      cases he
      refine ⟨by kernel_rfl, fun E w vs hr hv => ?_⟩
      obtain ⟨A, cap, rfl, hrd⟩ := key E w vs hr hv
      exact (CheckPolygon_any A cap cs w hrd).mono fun e w' hR => post_ret hr (fun E w => v_tup [.int .i64 (polyCheck cs).1, .int .i64 (polyCheck cs).2]) hR
    · split at he
      case isFalse => cases he
      rename_i hf
      subst hf
      cases he
      refine ⟨by kernel_rfl, fun E w vs hr hv => ?_⟩
      obtain ⟨A, cap, rfl, hrd⟩ := key E w vs hr hv
      exact (polygonErr_any A cap cs w hrd).mono fun e w' hR => post_ret hr (fun E w => .lit _) hR

/-- The table. -/
def tA (f : Nat) (args : List MV) (h : MHeap) : Option (MV × MHeap) :=
  if f = 16 then tGroups f args h else if f = 20 then tGroups f args h
  else if f = 27 then tPoly f args h else if f = 25 then tPoly f args h else if f = 99 then tPoly f args h else none
theorem tA_ok : SoundO Try.prog tA := by
  intro f args h m h' he
  unfold tA at he
  repeat' (split at he)
  · exact tGroups_ok f args h m h' he
  · exact tGroups_ok f args h m h' he
  · exact tPoly_ok f args h m h' he
  · exact tPoly_ok f args h m h' he
  · exact tPoly_ok f args h m h' he
  · cases he

/-- The program's answers. -/
noncomputable abbrev MT : Tab := tabOf Try.prog
noncomputable abbrev orA (k : Nat) : Oracle := orZ MT tA noI 1000000 k
noncomputable abbrev itA (k : Nat) : Iter := orI MT noI (orA k) 1000000
theorem orA_ok (k : Nat) : SoundO Try.prog (orA k) := (orZ_ok (by kernel_rfl) (tabOf_ok Try.prog) tA_ok (noI_ok Try.prog) k).1
/-- A call of a function that is not in the table. -/
theorem callA {k f : Nat} {args args' : List MV} {h : MHeap} {m : MV} {news : MHeap} (h1 : args.mapM (frz 0 [] h 8) = some args') (hT : tA f args' [] = none) (h2 : runZ MT (orA k) (itA k) 1000000 f args' [] = some (m, news))
    (h3 : okV (ltL 0 args) m = true) (h4 : okH (ltL 0 args) news = true) : orA (k + 1) f args h = some (shV h.length m, h ++ news) :=
  orZ_call h1 (by unfold tabZ; rw [hT]; exact h2) h3 h4
theorem callT {k f : Nat} {args args' : List MV} {h : MHeap} {m : MV} {news : MHeap} (h1 : args.mapM (frz 0 [] h 8) = some args') (hT : tA f args' [] = some (m, news))
    (h3 : okV (ltL 0 args) m = true) (h4 : okH (ltL 0 args) news = true) : orA (k + 1) f args h = some (shV h.length m, h ++ news) :=
  orZ_call h1 (by unfold tabZ; rw [hT]) h3 h4

end Go.Proofs.Ytgjpdjihjphbdaa
