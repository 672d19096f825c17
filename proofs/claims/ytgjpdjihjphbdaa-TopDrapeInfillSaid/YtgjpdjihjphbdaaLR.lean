/- Functions: how they are written in the small language, and run. -/
import Derived.Test.YtgjpdjihjphbdaaLF
/- Functions: how they are written in the small language, and run. -/
namespace Go.Proofs.Ytgjpdjihjphbdaa
open Go.RowKit

/-- Code without what loops keep. -/
def MC.strip : MC → MC
  | .seq a b => .seq a.strip b.strip
  | .cond c a b => .cond c a.strip b.strip
  | .block id b => .block id b.strip
  | .loop _ b => .loop [] b.strip
  | .rf _ f ps a b => .rf [] f ps a.strip b.strip
  | c => c
def compC (P : Program) : Code → MC
  | .skip => .skip
  | .region _ ops draw => match ops.toList.mapM (compG P ops) with
    | some gl => if draw && !drawOk ops gl then (if drawOk ops (virt ops gl) then .reg (virt ops gl) else .bad) else .reg gl
    | none => .bad
  | .seq a b => .seq (compC P a) (compC P b)
  | .cond c a b => match cX c with
    | some c' => .cond c' (compC P a) (compC P b)
    | none => .bad
  | .block id b => .block id (compC P b)
  | .loop b => .loop [] (compC P b)
  | .rangeFunc f ps a b => match cX f with
    | some f' => .rf [] f' ps.toList (compC P a) (compC P b)
    | none => .bad
  | .exit id => .exit id
  | .ret => .ret
  | _ => .bad

theorem compC_ok {P : Program} {O : Oracle} {I : Iter} {N : Nat} (hm : P.follows .mixedOrders = true) (hO : SoundO P O) (hA : AppO O) (hI : SoundI P I) : ∀ (c : Code) (mc : MC), compC P c = mc.strip → CodeOK P O I N c mc := by
  have bad : ∀ (c : Code) (mc : MC), mc.strip = .bad → CodeOK P O I N c mc := fun c mc h => by
    cases mc <;> simp [MC.strip] at h
    intro lk st st' x he
    simp [evC] at he
  intro c
  induction c with
  | skip => intro mc h; simp only [compC] at h; cases mc <;> simp [MC.strip] at h; exact code_skip
  | ret => intro mc h; simp only [compC] at h; cases mc <;> simp [MC.strip] at h; exact code_ret
  | exit id => intro mc h; simp only [compC] at h; cases mc <;> simp [MC.strip] at h; subst h; exact code_exit
  | region id ops draw =>
    intro mc h
    simp only [compC] at h
    split at h
    · rename_i gl hg
      split at h
      · rename_i hdr
        split at h
        · rename_i hv
          cases mc <;> simp [MC.strip] at h
          subst h
          rw [Bool.and_eq_true] at hdr
          rw [hdr.1]
          exact code_regV hm hO hA hg hv
        · exact bad _ mc h.symm
      · rename_i hd
        cases mc <;> simp [MC.strip] at h
        subst h
        refine code_reg hm hO hA hg fun e => ?_
        subst e
        simpa using hd
    · exact bad _ mc h.symm
  | seq a b iha ihb => intro mc h; simp only [compC] at h; cases mc <;> simp [MC.strip] at h; exact code_seq (iha _ h.1) (ihb _ h.2)
  | cond c a b iha ihb =>
    intro mc h
    simp only [compC] at h
    split at h
    · rename_i c' hc
      cases mc <;> simp [MC.strip] at h
      obtain ⟨rfl, h1, h2⟩ := h
      exact code_cond hc (iha _ h1) (ihb _ h2)
    · exact bad _ mc h.symm
  | block id b ih => intro mc h; simp only [compC] at h; cases mc <;> simp [MC.strip] at h; obtain ⟨rfl, h⟩ := h; exact code_block (ih _ h)
  | loop b ih => intro mc h; simp only [compC] at h; cases mc <;> simp [MC.strip] at h; exact code_loop (ih _ h)
  | rangeFunc f ps a b iha ihb =>
    intro mc h
    simp only [compC] at h
    split at h
    · rename_i f' hf
      cases mc <;> simp [MC.strip] at h
      obtain ⟨rfl, rfl, h1, h2⟩ := h
      exact code_rf hI hf (iha _ h1) (ihb _ h2)
    · exact bad _ mc h.symm
  | _ => intro mc h; exact bad _ mc h.symm

/-- What loops keep. -/
def uniL (a b : List Nat) : List Nat := a ++ b.filter fun x => !a.contains x
def liveR : List GO → List Nat → List Nat
  | [], out => out
  | g :: gs, out =>
    let o := liveR gs out
    uniL g.looks (match g.dst with | some d => o.filter (· != d) | none => o)
def MX.slots : MX → List Nat
  | .s t => [t]
  | .c _ => []
def live : MC → List Nat → List (Nat × List Nat) → List Nat → List Nat
  | .skip, out, _, _ => out
  | .reg ops, out, _, _ => liveR ops out
  | .seq a b, out, ex, rt => live a (live b out ex rt) ex rt
  | .cond c a b, out, ex, rt => uniL c.slots (uniL (live a out ex rt) (live b out ex rt))
  | .block id b, out, ex, rt => live b out ((id, out) :: ex) rt
  | .loop _ b, _, ex, rt => live b (live b [] ex rt) ex rt
  | .rf _ f ps a b, out, _, _ => uniL f.slots (uniL ((live a (live b [] [] []) [] []).filter fun x => !ps.contains x) out)
  | .exit id, _, ex, _ => ((ex.find? (·.1 == id)).map (·.2)).getD []
  | .ret, _, _, rt => rt
  | .bad, _, _, _ => []
def annot : MC → List Nat → List (Nat × List Nat) → List Nat → MC
  | .seq a b, out, ex, rt => .seq (annot a (live b out ex rt) ex rt) (annot b out ex rt)
  | .cond c a b, out, ex, rt => .cond c (annot a out ex rt) (annot b out ex rt)
  | .block id b, out, ex, rt => .block id (annot b out ((id, out) :: ex) rt)
  | .loop _ b, _, ex, rt => let l := live b (live b [] ex rt) ex rt; .loop l (annot b l ex rt)
  | .rf _ f ps a b, _, _, _ => .rf ((live a (live b [] [] []) [] []).filter fun x => !ps.contains x) f ps (annot a (live b [] [] []) [] []) (annot b [] [] [])
  | c, _, _, _ => c

inductive MRes where
  | tmp (t : Nat)
  | cell (t : Nat) (ag : Option Nat)
def MRes.slot : MRes → Nat
  | .tmp t => t
  | .cell t _ => t
structure MF where
  ntmps : Nat
  res : List MRes
  body : MC
def compR (P : Program) : ResultVar → Option MRes
  | .tmp t => some (.tmp t)
  | .cell a t => (tagg P t).map (.cell a)
/-- A function in the small language; its loops keep what is wanted behind. -/
def compF (P : Program) (f : Nat) : Option MF := do
  let fn ← P.funcs[f]?
  let b ← fn.body
  let rs ← fn.results.toList.mapM (compR P)
  some ⟨fn.ntmps, rs, annot (compC P b) [] [] (rs.map MRes.slot)⟩
/-- A function is written as it is. -/
def IsF (P : Program) (f : Nat) (m : MF) : Prop := ∃ fn b, P.funcs[f]? = some fn ∧ fn.body = some b ∧ fn.ntmps = m.ntmps ∧ fn.results.toList.mapM (compR P) = some m.res ∧ compC P b = m.body.strip

theorem strip_strip (c : MC) : c.strip.strip = c.strip := by
  induction c <;> simp_all [MC.strip]
theorem strip_annot (c : MC) : ∀ out ex rt, (annot c out ex rt).strip = c.strip := by
  induction c <;> intro out ex rt <;> simp_all [annot, MC.strip]
theorem strip_compC (P : Program) (c : Code) : (compC P c).strip = compC P c := by
  induction c with
  | region id ops draw =>
    simp only [compC]
    split
    · split
      · split <;> rfl
      · rfl
    · rfl
  | cond c a b iha ihb =>
    simp only [compC]
    split
    · simp [MC.strip, iha, ihb]
    · rfl
  | rangeFunc f ps a b iha ihb =>
    simp only [compC]
    split
    · simp [MC.strip, iha, ihb]
    · rfl
  | seq a b iha ihb => simp [compC, MC.strip, iha, ihb]
  | block id b ih => simp [compC, MC.strip, ih]
  | loop b ih => simp [compC, MC.strip, ih]
  | _ => rfl
theorem compF_isF {P : Program} {f : Nat} {m : MF} (h : compF P f = some m) : IsF P f m := by
  unfold compF at h
  simp only [Option.bind_eq_bind, Option.bind_eq_some_iff, Option.some.injEq] at h
  obtain ⟨fn, h1, b, h2, rs, h3, rfl⟩ := h
  exact ⟨fn, b, h1, h2, rfl, h3, by rw [strip_annot, strip_compC]⟩

/-- Values that are handed back: objects of the call's own are read only from now on. -/
def frz (n : Nat) (imp : List Nat) (h : MHeap) : Nat → MV → Option MV
  | 0, _ => none
  | f + 1, m => if m.lt n then some m else match m with
    | .agg cs => (cs.mapM (frz n imp h f)).map .agg
    | .tup cs => (cs.mapM (frz n imp h f)).map .tup
    | .fn g k cs => (cs.mapM (frz n imp h f)).map (.fn g k)
    | .rp e off => (frz n imp h f e).map fun e' => .rp e' off
    | .sl es => (es.mapM (frz n imp h f)).map .sl
    | .ptr id i off g => if imp.contains id then none else match h[id]? with
      | some o => if o.g = g then match o.es[i]? with
          | some e => if e.lt n then some (.rp e off) else (frz n imp h f e).map fun e' => .rp e' off
          | none => none
        else none
      | none => none
    | .arr id i k g => if imp.contains id then none else match h[id]? with
      | some o => if o.g = g ∧ i + k ≤ o.es.length then if ltL n o.es then some (.sl ((o.es.drop i).take k)) else (((o.es.drop i).take k).mapM (frz n imp h f)).map .sl
        else none
      | none => none
    | _ => none
def impIds (n : Nat) : List MV → List Nat
  | [] => []
  | .arr id _ _ _ :: vs => if n ≤ id then id :: impIds n vs else impIds n vs
  | _ :: vs => impIds n vs
/-- The values that are handed back, and the objects that come with them. -/
def expL (n : Nat) (imp : List Nat) (h : MHeap) : List MV → Nat → Option (List MV × MHeap)
  | [], _ => some ([], [])
  | v :: vs, p => match v with
    | .arr id i k g => if n ≤ id then match h[id]? with
        | some o => if o.g = g ∧ i + k ≤ o.es.length then
            match (if ltL n o.es then some ((o.es.drop i).take k) else ((o.es.drop i).take k).mapM (frz n imp h 8)) with
            | some es => match expL n imp h vs (p + 1) with
              | some (vs', news) => some (.arr p 0 k 0 :: vs', ⟨0, o.nl, o.sz, es⟩ :: news)
              | none => none
            | none => none
          else none
        | none => none
      else match expL n imp h vs p with
        | some (vs', news) => some (v :: vs', news)
        | none => none
    | _ => match frz n imp h 8 v with
      | some v' => match expL n imp h vs p with
        | some (vs', news) => some (v' :: vs', news)
        | none => none
      | none => none
def resM (s : List MV) (h : MHeap) : MRes → Option MV
  | .tmp t => some (s.getD t (.lit undef))
  | .cell t ag => match s.getD t (.lit undef) with
    | .ptr id i off g => match h[id]? with
      | some o => if o.g = g then match o.es[i]? with
          | some e => rdCells e.cells off ag
          | none => none
        else none
      | none => none
    | _ => none
def oneOf : List MV → MV
  | [v] => v
  | vs => .tup vs
def runF (O : Oracle) (I : Iter) (N : Nat) (m : MF) (args : List MV) (h : MHeap) : Option (MV × MHeap) :=
  match evC O I N m.body (fun id => decide (id < h.length)) ⟨args ++ List.replicate (m.ntmps - args.length) (.lit undef), h⟩ with
    | some (x, st) => if x = .ret ∨ x = .normal then match m.res.mapM (resM st.s st.h) with
        | some vs => if (impIds h.length vs).Nodup then match expL h.length (impIds h.length vs) st.h vs h.length with
            | some (vs', news) => some (oneOf vs', h ++ news)
            | none => none
          else none
        | none => none
      else none
    | none => none

end Go.Proofs.Ytgjpdjihjphbdaa

/- What functions hand back. -/
namespace Go.Proofs.Ytgjpdjihjphbdaa
open Go.RowKit

/-- What has been laid by a call is read only behind it. -/
def Env.shut (E : Env) (n : Nat) (imp : List Nat) : Env :=
  { E with K := fun id => E.K id ∧ id < n, S := fun b => E.S b ∨ ∃ id, E.K id ∧ n ≤ id ∧ id ∉ imp ∧ 0 < E.cp id ∧ E.ρ id = b }

theorem V.shut {E : Env} {w : World} {m : MV} {v : Value} {n : Nat} (imp : List Nat) (hv : V E w m v) (hl : m.lt n = true) : V (E.shut n imp) w m v :=
  V.env (E := E.res n) (E2 := E.shut n imp) ⟨fun b h => (Or.inl h : E.S b ∨ _), fun id h => ⟨h, rfl, rfl, rfl, rfl, rfl, rfl, rfl⟩, rfl⟩ (hv.res hl)

theorem frz_cells {n : Nat} {imp : List Nat} {h : MHeap} {f : Nat} {e e' : MV} (he : frz n imp h f e = some e') : e'.cells.length = e.cells.length ∧ ∀ (i : Nat) c c', e.cells[i]? = some c → e'.cells[i]? = some c' → ∃ f', f' ≤ f ∧ frz n imp h f' c = some c' := by
  cases f with
  | zero => simp [frz] at he
  | succ f =>
    have one : ∀ {x x' : MV}, frz n imp h (f + 1) x = some x' → x.cells = [x] → x'.cells = [x'] → x'.cells.length = x.cells.length ∧ ∀ (i : Nat) c c', x.cells[i]? = some c → x'.cells[i]? = some c' → ∃ f', f' ≤ f + 1 ∧ frz n imp h f' c = some c' := by
      intro x x' hx h1 h2
      rw [h1, h2]
      refine ⟨rfl, fun i c c' hc hc' => ?_⟩
      cases i with
      | zero => simp at hc hc'; subst hc hc'; exact ⟨_, Nat.le_refl _, hx⟩
      | succ i => simp at hc
    have he0 := he
    simp only [frz] at he
    split at he
    · rename_i hlt
      cases he
      refine ⟨rfl, fun i c c' hc hc' => ?_⟩
      rw [hc] at hc'; cases hc'
      exact ⟨f + 1, Nat.le_refl _, by simp [frz, lt_cells hlt i c hc]⟩
    · split at he
      · rw [Option.map_eq_some_iff] at he
        obtain ⟨cs', h1, rfl⟩ := he
        obtain ⟨h2, h3⟩ := mapM_some h1
        exact ⟨h2.symm, fun i c c' hc hc' => ⟨f, Nat.le_succ _, h3 i c c' hc hc'⟩⟩
      · rw [Option.map_eq_some_iff] at he
        obtain ⟨cs', h1, rfl⟩ := he
        exact one he0 rfl rfl
      · rw [Option.map_eq_some_iff] at he
        obtain ⟨cs', h1, rfl⟩ := he
        exact one he0 rfl rfl
      · rw [Option.map_eq_some_iff] at he
        obtain ⟨cs', h1, rfl⟩ := he
        exact one he0 rfl rfl
      · rw [Option.map_eq_some_iff] at he
        obtain ⟨cs', h1, rfl⟩ := he
        exact one he0 rfl rfl
      · split at he
        · cases he
        · split at he
          · split at he
            · split at he
              · split at he
                · cases he; exact one he0 rfl rfl
                · rw [Option.map_eq_some_iff] at he
                  obtain ⟨_, _, rfl⟩ := he
                  exact one he0 rfl rfl
              · cases he
            · cases he
          · cases he
      · split at he
        · cases he
        · split at he
          · split at he
            · split at he
              · cases he; exact one he0 rfl rfl
              · rw [Option.map_eq_some_iff] at he
                obtain ⟨_, _, rfl⟩ := he
                exact one he0 rfl rfl
            · cases he
          · cases he
      · cases he

section
variable {E Es : Env} {W : World} {h : MHeap} {n : Nat} {imp : List Nat}

/-- Elements that are handed back. -/
theorem frz_flatG {f : Nat} (ih : ∀ f', f' ≤ f → ∀ m m' v, V E W m v → frz n imp h f' m = some m' → V Es W m' v) {es es' : List MV} {vs : List Value} (hm : es.mapM (frz n imp h f) = some es') {sz : Nat} (hsz : ∀ e ∈ es, e.cells.length = sz) (hv : Vs E W (flat es) vs) :
    es'.length = es.length ∧ (∀ e ∈ es', e.cells.length = sz) ∧ Vs Es W (flat es') vs := by
  obtain ⟨h1, h2⟩ := mapM_some hm
  have hsz' : ∀ e ∈ es', e.cells.length = sz := fun e' he' => by
    obtain ⟨i, hi⟩ := List.getElem?_of_mem he'
    have hil : i < es.length := h1 ▸ (List.getElem?_eq_some_iff.1 hi).1
    have := h2 i es[i] e' (by simp) hi
    rw [(frz_cells this).1]
    exact hsz _ (List.getElem_mem _)
  refine ⟨h1.symm, hsz', by rw [flat_len hsz', ← h1, ← hv.1, flat_len hsz], fun k c' v hk hkv => ?_⟩
  obtain ⟨i, j, e', rfl, hj, he', hcj⟩ := (flat_iff hsz').1 hk
  have hil : i < es.length := h1 ▸ (List.getElem?_eq_some_iff.1 he').1
  have he : es[i]? = some es[i] := by simp
  have hfe := h2 i es[i] e' he he'
  have hjl : j < (es[i]).cells.length := by rw [hsz _ (List.getElem_mem _)]; exact hj
  have hc : (es[i]).cells[j]? = some (es[i]).cells[j] := by simp
  obtain ⟨f', hf', hfc⟩ := (frz_cells hfe).2 j _ c' hc hcj
  exact ih f' hf' _ _ _ (hv.2 _ _ v ((flat_iff hsz).2 ⟨i, j, es[i], rfl, hj, he, hc⟩) hkv) hfc

theorem frz_okG (hr : HRel E h W) (hVs : ∀ m v, V E W m v → m.lt n = true → V Es W m v) (hS1 : ∀ b, E.S b → Es.S b) (hSs : ∀ id, E.K id → n ≤ id → id ∉ imp → 0 < E.cp id → Es.S (E.ρ id)) : ∀ f m m' v, V E W m v → frz n imp h f m = some m' → V Es W m' v := by
  intro f
  induction f using Nat.strongRecOn with
  | _ f ih =>
    intro m m' v hv he
    cases f with
    | zero => simp [frz] at he
    | succ f =>
      have list : ∀ {cs cs' : List MV} {vs : List Value}, cs.mapM (frz n imp h f) = some cs' → cs.length = vs.length → (∀ (i : Nat) c v, cs[i]? = some c → vs[i]? = some v → V E W c v) → cs'.length = vs.length ∧ ∀ (i : Nat) c v, cs'[i]? = some c → vs[i]? = some v → V Es W c v := by
        intro cs cs' vs hm hl hc
        obtain ⟨h1, h2⟩ := mapM_some hm
        refine ⟨h1 ▸ hl, fun i c v hi hiv => ?_⟩
        have hil : i < cs.length := h1 ▸ (List.getElem?_eq_some_iff.1 hi).1
        have hci : cs[i]? = some cs[i] := by simp
        exact ih f (Nat.lt_succ_self _) _ _ _ (hc i _ v hci hiv) (h2 i _ c hci hi)
      simp only [frz] at he
      split at he
      · rename_i hlt
        cases he
        exact hVs _ _ hv hlt
      · rename_i hnlt
        split at he
        · rw [Option.map_eq_some_iff] at he
          obtain ⟨cs', h1, rfl⟩ := he
          cases hv with
          | agg _ vs hl hc =>
            obtain ⟨a, b⟩ := list h1 hl hc
            exact .agg _ _ a b
        · rw [Option.map_eq_some_iff] at he
          obtain ⟨cs', h1, rfl⟩ := he
          cases hv with
          | tup _ vs hl hc =>
            obtain ⟨a, b⟩ := list h1 hl hc
            exact .tup _ _ a b
        · rw [Option.map_eq_some_iff] at he
          obtain ⟨cs', h1, rfl⟩ := he
          cases hv with
          | fn _ _ _ vs hl hc =>
            obtain ⟨a, b⟩ := list h1 hl hc
            exact .fn _ _ _ _ a b
        · rw [Option.map_eq_some_iff] at he
          obtain ⟨e', h1, rfl⟩ := he
          rename_i e off
          cases hv with
          | rp _ _ vs b o hl hc hb hcell =>
            obtain ⟨k1, k2⟩ := frz_cells h1
            refine .rp _ _ vs _ _ (by rw [k1, hl]) (fun i c' v hc' hv' => ?_) (hS1 b hb) hcell
            have hil : i < e.cells.length := k1 ▸ (List.getElem?_eq_some_iff.1 hc').1
            have hci : e.cells[i]? = some e.cells[i] := by simp
            obtain ⟨f', hf', hfc⟩ := k2 i _ c' hci hc'
            exact ih f' (by omega) _ _ _ (hc i _ v hci hv') hfc
        · rw [Option.map_eq_some_iff] at he
          obtain ⟨es', h1, rfl⟩ := he
          cases hv with
          | sl _ vs A cap sz hc hsz hl hv hA =>
            obtain ⟨k1, k2, k3⟩ := frz_flatG (f := f) (fun f' hf' => ih f' (by omega)) h1 hsz ⟨hl, hv⟩
            have := V.sl (E := Es) (w := W) es' vs A cap sz (by rw [k1]; exact hc) k2 k3.1 k3.2 (fun h0 => by
              obtain ⟨b, off, q1, q2, q3⟩ := hA (by rw [← k1]; exact h0)
              exact ⟨b, off, q1, hS1 b q2, q3⟩)
            rwa [k1] at this
        · split at he
          · cases he
          · rename_i id i off g himp
            split at he
            case h_2 => cases he
            rename_i ob hob
            split at he
            case isFalse => cases he
            rename_i hog
            split at he
            case h_2 => cases he
            rename_i e hel
            have hge : n ≤ id := by simpa [MV.lt] using hnlt
            cases hv with
            | ptr _ _ _ _ b o hk hg hd =>
              obtain ⟨c1, c2, c3, c4, c5, vs, c6, c7⟩ := hr.elem hk hob hog hel
              obtain ⟨rfl, rfl, _⟩ := hd c1
              have hS : Es.S (E.ρ id) := hSs id hk hge (by simpa using himp) c5
              split at he
              · rename_i hlt
                cases he
                exact .rp _ _ vs _ _ c6.1 (fun i c v hc hv => hVs _ _ (c6.2 i c v hc hv) (lt_cells hlt i c hc)) hS c7
              · rw [Option.map_eq_some_iff] at he
                obtain ⟨e', h1, rfl⟩ := he
                obtain ⟨k1, k2⟩ := frz_cells h1
                refine .rp _ _ vs _ _ (by rw [k1, c6.1]) (fun i c' v hc hv => ?_) hS c7
                have hil : i < e.cells.length := k1 ▸ (List.getElem?_eq_some_iff.1 hc).1
                have hci : e.cells[i]? = some e.cells[i] := by simp
                obtain ⟨f', hf', hfc⟩ := k2 i _ c' hci hc
                exact ih f' (by omega) _ _ _ (c6.2 i _ v hci hv) hfc
        · split at he
          · cases he
          · rename_i id i k g himp
            split at he
            case h_2 => cases he
            rename_i ob hob
            split at he
            case isFalse => cases he
            rename_i hog
            have hge : n ≤ id := by simpa [MV.lt] using hnlt
            have hel : MV.elems h (.arr id i k g) = some ((ob.es.drop i).take k) := by simp [MV.elems, hob, hog]
            have hv0 := hv
            cases hv with
            | arr _ _ _ _ A cap hk hg hd =>
              obtain ⟨es, a1, a2, a3, a4, a5⟩ := hr.obj id hk
              rw [hob] at a1
              simp only [Option.some.injEq] at a1
              subst a1
              dsimp only at hog hel he
              obtain ⟨d1, d2, d3, d4, d5⟩ := hd hog.1
              have hsub : ∀ e ∈ (es.drop i).take k, e.cells.length = E.sz id := fun e he => a3 e (List.mem_of_mem_drop (List.mem_of_mem_take he))
              obtain ⟨A', cap', vs, e1, e2, e3⟩ := hv0.elems hr hel hsub
              have hlen : ((es.drop i).take k).length = k := by simp; omega
              simp only [Value.slice.injEq] at e1
              obtain ⟨rfl, -, rfl⟩ := e1
              have hA : 0 < k → ∃ b off, A = some ⟨b, off, none⟩ ∧ Es.S b ∧ ∀ (i : Nat) v, vs[i]? = some v → W.cell? ⟨b, off + i, none⟩ = some v := fun h0 => by
                obtain ⟨b, off, rfl, hcell⟩ := e3 (by omega)
                obtain ⟨h1, h2⟩ := d5 (by omega)
                simp only [Option.some.injEq, Addr.mk.injEq, and_true] at h1
                obtain ⟨rfl, rfl⟩ := h1
                exact ⟨_, _, rfl, hSs id hk hge (by simpa using himp) (by omega), hcell⟩
              split at he
              · rename_i hlt
                cases he
                have hls : ltL n ((es.drop i).take k) = true := by
                  have : ∀ l : List MV, (∀ x ∈ l, x.lt n = true) → ltL n l = true := fun l => by
                    induction l with
                    | nil => simp [ltL]
                    | cons x l ihl => intro hx; simp only [ltL, Bool.and_eq_true]; exact ⟨hx x (by simp), ihl fun y hy => hx y (by simp [hy])⟩
                  refine this _ fun x hx => ?_
                  obtain ⟨j, hj⟩ := List.getElem?_of_mem (List.mem_of_mem_drop (List.mem_of_mem_take hx))
                  exact ltL_at hlt j x hj
                have := V.sl (E := Es) (w := W) ((es.drop i).take k) vs A cap (E.sz id) (by rw [hlen]; exact d2) hsub e2.1 (fun j c v hc hv => hVs _ _ (e2.2 j c v hc hv) (lt_flat hls j c hc)) (by rw [hlen]; exact hA)
                rwa [hlen] at this
              · rw [Option.map_eq_some_iff] at he
                obtain ⟨es', h1, rfl⟩ := he
                obtain ⟨k1, k2, k3⟩ := frz_flatG (f := f) (fun f' hf' => ih f' (by omega)) h1 hsub e2
                rw [hlen] at k1
                have := V.sl (E := Es) (w := W) es' vs A cap (E.sz id) (by rw [k1]; exact d2) k2 k3.1 k3.2 (by rw [k1]; exact hA)
                rwa [k1] at this
        · cases he
theorem frz_flat {f : Nat} (ih : ∀ f', f' ≤ f → ∀ m m' v, V E W m v → frz n imp h f' m = some m' → V (E.shut n imp) W m' v) {es es' : List MV} {vs : List Value} (hm : es.mapM (frz n imp h f) = some es') {sz : Nat} (hsz : ∀ e ∈ es, e.cells.length = sz) (hv : Vs E W (flat es) vs) :
    es'.length = es.length ∧ (∀ e ∈ es', e.cells.length = sz) ∧ Vs (E.shut n imp) W (flat es') vs := frz_flatG ih hm hsz hv
theorem frz_ok (hr : HRel E h W) : ∀ f m m' v, V E W m v → frz n imp h f m = some m' → V (E.shut n imp) W m' v :=
  frz_okG hr (fun _ _ hv hl => hv.shut imp hl) (fun b hb => Or.inl hb) fun id hk hge hi hc => Or.inr ⟨id, hk, hge, hi, hc, rfl⟩
end

end Go.Proofs.Ytgjpdjihjphbdaa

/- What functions hand back: the whole. -/
namespace Go.Proofs.Ytgjpdjihjphbdaa
open Go.RowKit

theorem EnvLe.refl (E : Env) : EnvLe E E := ⟨fun _ h => h, fun _ h => ⟨h, rfl, rfl, rfl, rfl, rfl, rfl, rfl⟩, rfl⟩
theorem EnvLe.trans {A B C : Env} (h : EnvLe A B) (k : EnvLe B C) : EnvLe A C := by
  refine ⟨fun b hb => k.1 b (h.1 b hb), fun id hid => ?_, k.2.2.trans h.2.2⟩
  obtain ⟨a1, a2, a3, a4, a5, a6, a7, a8⟩ := h.2.1 id hid
  obtain ⟨b1, b2, b3, b4, b5, b6, b7, b8⟩ := k.2.1 id a1
  exact ⟨b1, b2.trans a2, b3.trans a3, b4.trans a4, b5.trans a5, b6.trans a6, b7.trans a7, b8.trans a8⟩
theorem Vs.cons {E : Env} {w : World} {m : MV} {v : Value} {ms : List MV} {vs : List Value} (h : V E w m v) (hs : Vs E w ms vs) : Vs E w (m :: ms) (v :: vs) := by
  refine ⟨by simp [hs.1], fun i c x hc hx => ?_⟩
  cases i with
  | zero => simp at hc hx; subst hc hx; exact h
  | succ i => simp at hc hx; exact hs.2 i c x hc hx
theorem Vs.uncons {E : Env} {w : World} {m : MV} {ms : List MV} {vs : List Value} (h : Vs E w (m :: ms) vs) : ∃ v us, vs = v :: us ∧ V E w m v ∧ Vs E w ms us := by
  cases vs with
  | nil => exact absurd h.1 (by simp)
  | cons v us => exact ⟨v, us, rfl, h.2 0 m v rfl rfl, by simpa using h.1, fun i c x hc hx => h.2 (i + 1) c x hc hx⟩
theorem Vs.env {E E2 : Env} {w : World} (he : EnvLe E E2) {ms : List MV} {vs : List Value} (h : Vs E w ms vs) : Vs E2 w ms vs := ⟨h.1, fun i c x hc hx => (h.2 i c x hc hx).env he⟩

section
variable {E0 E : Env} {h0 h : MHeap} {w W : World}

theorem Ext.shut (hr0 : HRel E0 h0 w) (hx : Ext (fun id => decide (id < h0.length)) E0 w E W) (imp : List Nat) : Ext (fun _ => true) E0 w (E.shut h0.length imp) W where
  os := hx.os
  tape := hx.tape
  output := hx.output
  size := hx.size
  keep := fun k hk _ => hx.keep k hk fun id hd hl _ => by simp [hr0.klt id hd] at hl
  S := fun b hb => Or.inl (hx.S b hb)
  K := fun id hk => ⟨hx.K id hk, hr0.klt id hk⟩
  old := fun id hk => hx.old id hk
  lock := fun id hk _ => hx.lock id hk (by simp [hr0.klt id hk])
  src := fun id hk hc => hx.src id hk.1 hc
  top := hx.top
  srcK := fun id hk => hx.srcK id hk.1
  yl := hx.yl
  srcS := fun b hb => by
    rcases hb with hb | ⟨id, h1, h2, h3, h4, rfl⟩
    · exact hx.srcS b hb
    · rcases hx.src id h1 h4 with ⟨a1, a2, a3⟩ | a
      · exact .inr (.inl ⟨id, a1, a2, a3.symm⟩)
      · exact .inr (.inr a)

theorem HRel.shut (hr0 : HRel E0 h0 w) (ht : E0.top = h0.length) (hr : HRel E h W) (hx : Ext (fun id => decide (id < h0.length)) E0 w E W) (imp : List Nat) : HRel (E.shut h0.length imp) h0 W where
  klt := fun id hk => hk.2
  top := by show E.top ≤ _; rw [hx.top]; exact hr0.top
  obj := fun id hk => by
    have hk0 : E0.K id := (hx.srcK id hk.1).resolve_right (by have := hk.2; omega)
    obtain ⟨es, a1, a2, a3, a4, a5⟩ := hr0.obj id hk0
    obtain ⟨-, e⟩ := hx.old id hk0
    have eg : E.gn id = E0.gn id := hx.lock id hk0 (by simp [hk.2])
    obtain ⟨c1, c2, c3, c4, c5, c6⟩ := e eg
    refine ⟨es, by simp only [Env.shut]; rw [eg, c4, c6, a1], by simp only [Env.shut]; rw [c5, a2], by simp only [Env.shut]; rw [c4]; exact a3, by simp only [Env.shut]; rw [c2, c3]; exact a4, fun hc => ?_⟩
    simp only [Env.shut] at hc ⊢
    rw [c3] at hc
    obtain ⟨arr, t, b1, b2, b3⟩ := a5 hc
    refine ⟨arr, t, ?_, by rw [c3, c4]; exact b2, fun k c hkc => ?_⟩
    · rw [c1, hx.keep _ (hr0.lt hk0 hc) fun id hd hl _ => by simp [hr0.klt id hd] at hl]
      exact b1
    · obtain ⟨v, d1, d2⟩ := b3 k c hkc
      exact ⟨v, by rw [c2, c4]; exact d1, d2.ext hr0 (hx.shut hr0 imp)⟩
  inj := fun i j hi hj => hr.inj i j hi.1 hj.1
  sep := fun id hk hc hS => by
    rcases hS with hS | ⟨j, h1, h2, h3, h4, h5⟩
    · exact hr.sep id hk.1 hc hS
    · have := hr.inj j id h1 hk.1 h4 hc h5
      have := hk.2
      omega
  slt := fun b hb => by
    rcases hb with hb | ⟨j, h1, h2, h3, h4, h5⟩
    · exact hr.slt b hb
    · exact h5 ▸ hr.lt h1 h4

/-- While values are handed back. -/
structure Inv (E : Env) (n : Nat) (imp : List Nat) (W : World) (Ec : Env) (Hc : MHeap) (done : List Nat) : Prop where
  hr : HRel Ec Hc W
  le : EnvLe (E.shut n imp) Ec
  S : ∀ b, Ec.S b → (E.shut n imp).S b
  src : ∀ id, Ec.K id → 0 < Ec.cp id → (E.K id ∧ id < n ∧ Ec.ρ id = E.ρ id ∧ Ec.cp id = E.cp id) ∨ ∃ j, j ∈ done ∧ E.K j ∧ n ≤ j ∧ 0 < E.cp j ∧ Ec.ρ id = E.ρ j
  sub : ∀ j, j ∈ done → j ∈ imp
  top : Ec.top = E.top
  len : n ≤ Hc.length
  srcK : ∀ id, Ec.K id → (E.K id ∧ id < n) ∨ n ≤ id

theorem Inv.add {n : Nat} {imp done : List Nat} {Ec : Env} {Hc : MHeap} (hr : HRel E h W) (hI : Inv E n imp W Ec Hc done) {id i k g : Nat} {o : MObj} (hk : E.K id) (hge : n ≤ id) (himp : id ∈ imp) (hnd : id ∉ done) (ho : h[id]? = some o) (hg : o.g = g)
    (hle : i + k ≤ o.es.length) {es : List MV} (hl : es.length = k) (hsz : ∀ e ∈ es, e.cells.length = o.sz)
    (hv : 0 < k → ∃ vs, Vs (E.shut n imp) W (flat es) vs ∧ ∀ (j : Nat) v, vs[j]? = some v → W.cell? ⟨E.ρ id, (E.bo id + i) * E.sz id + j, none⟩ = some v) :
    Inv E n imp W (Ec.put Hc.length (E.ρ id) (E.bo id + i) (E.cp id) (E.sz id) 0 k (E.nl id)) (Hc ++ [⟨0, o.nl, o.sz, es⟩]) (done ++ [id]) ∧ EnvLe Ec (Ec.put Hc.length (E.ρ id) (E.bo id + i) (E.cp id) (E.sz id) 0 k (E.nl id)) := by
  have hne : ∀ j, Ec.K j → j ≠ Hc.length := fun j hj e => by have := hI.hr.klt j hj; omega
  have hle' : EnvLe Ec (Ec.put Hc.length (E.ρ id) (E.bo id + i) (E.cp id) (E.sz id) 0 k (E.nl id)) := ⟨fun _ h => h, fun j hj => by simp [Env.put, hne j hj, hj], rfl⟩
  obtain ⟨es0, a1, a2, a3, a4, a5⟩ := hr.obj id hk
  rw [ho] at a1
  simp only [Option.some.injEq] at a1
  subst a1
  dsimp only at hg hle hsz ⊢
  have blk : ∀ j, Ec.K j → 0 < Ec.cp j → 0 < E.cp id → Ec.ρ j ≠ E.ρ id := fun j hj hc hci e => by
    rcases hI.src j hj hc with ⟨b1, b2, b3, b4⟩ | ⟨j', b1, b2, b3, b4, b5⟩
    · have := hr.inj j id b1 hk (b4 ▸ hc) hci (b3.symm.trans e); omega
    · exact hnd (hr.inj j' id b2 hk b4 hci (b5.symm.trans e) ▸ b1)
  refine ⟨⟨⟨fun j hj => ?_, by have := hI.hr.top; simp [Env.put]; omega, fun j hj => ?_, fun j j' hj hj' hc hc' e => ?_, fun j hj hc hS => ?_, fun b hb => hI.hr.slt b hb⟩, hI.le.trans hle', fun b hb => hI.S b hb, fun j hj hc => ?_, fun j hj => ?_, hI.top, by have := hI.len; simp; omega, fun j hj => ?_⟩, hle'⟩
  · rcases hj with hj | rfl
    · have := hI.hr.klt j hj; simp; omega
    · simp
  · by_cases e : j = Hc.length
    · subst e
      refine ⟨es, by simp [Env.put], by simp [Env.put, hl], by simpa [Env.put] using hsz, by simp [Env.put]; omega, fun hc => ?_⟩
      simp only [Env.put, if_true] at hc ⊢
      obtain ⟨arr, t, b1, b2, b3⟩ := a5 hc
      refine ⟨arr, t, b1, b2, fun q c hq => ?_⟩
      have h0 : 0 < k := by
        cases es with
        | nil => simp [flat] at hq
        | cons => simp at hl; omega
      obtain ⟨vs, d1, d2⟩ := hv h0
      have hql := (List.getElem?_eq_some_iff.1 hq).1
      have hvq : vs[q]? = some (vs[q]'(d1.1 ▸ hql)) := by simp
      have hcell := d2 q _ hvq
      simp only [World.cell?, b1] at hcell
      exact ⟨_, hcell, ((d1.2 q c _ hq hvq).env hI.le).env hle'⟩
    · have hj' : Ec.K j := hj.resolve_right e
      obtain ⟨es1, b1, b2, b3, b4, b5⟩ := hI.hr.obj j hj'
      refine ⟨es1, by simp only [Env.put, e, if_false]; rw [List.getElem?_append_left (hI.hr.klt j hj'), b1], by simp [Env.put, e, b2], by simpa [Env.put, e] using b3, by simpa [Env.put, e] using b4, fun hc => ?_⟩
      simp only [Env.put, e, if_false] at hc
      obtain ⟨arr, t, d1, d2, d3⟩ := b5 hc
      refine ⟨arr, t, by simpa [Env.put, e] using d1, by simpa [Env.put, e] using d2, fun q c hq => ?_⟩
      obtain ⟨v, e1, e2⟩ := d3 q c hq
      exact ⟨v, by simpa [Env.put, e] using e1, e2.env hle'⟩
  · by_cases e1 : j = Hc.length <;> by_cases e2 : j' = Hc.length
    · rw [e1, e2]
    · subst e1
      simp only [Env.put, e2, if_true, if_false, or_false] at hj hj' hc hc' e
      exact absurd e.symm (blk j' hj' hc' hc)
    · subst e2
      simp only [Env.put, e1, if_true, if_false, or_false] at hj hj' hc hc' e
      exact absurd e (blk j hj hc hc')
    · simp only [Env.put, e1, e2, if_false, or_false] at hj hj' hc hc' e
      exact hI.hr.inj j j' hj hj' hc hc' e
  · by_cases e : j = Hc.length
    · subst e
      simp only [Env.put, if_true] at hc hS
      rcases hI.S _ hS with hS | ⟨j', b1, b2, b3, b4, b5⟩
      · exact hr.sep id hk hc hS
      · exact b3 (hr.inj j' id b1 hk b4 hc b5 ▸ himp)
    · simp only [Env.put, e, or_false, if_false] at hj hc hS
      exact hI.hr.sep j hj hc hS
  · by_cases e : j = Hc.length
    · subst e
      simp only [Env.put, if_true] at hc ⊢
      exact .inr ⟨id, by simp, hk, hge, hc, rfl⟩
    · simp only [Env.put, e, or_false, if_false] at hj hc ⊢
      rcases hI.src j hj hc with b | ⟨j', b1, b2⟩
      · exact .inl b
      · exact .inr ⟨j', by simp [b1], b2⟩
  · rcases List.mem_append.1 hj with hj | hj
    · exact hI.sub j hj
    · simp at hj; subst hj; exact himp
  · rcases hj with hj | rfl
    · exact hI.srcK j hj
    · exact .inr hI.len

theorem expL_ok {n : Nat} {imp : List Nat} (hr : HRel E h W) : ∀ {vs : List MV} {xs : List Value} {Ec : Env} {Hc : MHeap} {done : List Nat} {vs' : List MV} {news : MHeap}, Vs E W vs xs → Inv E n imp W Ec Hc done → expL n imp h vs Hc.length = some (vs', news) →
    (∀ j ∈ impIds n vs, j ∈ imp) → (done ++ impIds n vs).Nodup → ∃ E2 done', Inv E n imp W E2 (Hc ++ news) done' ∧ EnvLe Ec E2 ∧ Vs E2 W vs' xs := by
  intro vs
  induction vs with
  | nil =>
    intro xs Ec Hc done vs' news hv hI he _ _
    simp only [expL, Option.some.injEq, Prod.mk.injEq] at he
    obtain ⟨rfl, rfl⟩ := he
    have : xs = [] := by have := hv.1; simpa using this.symm
    subst this
    exact ⟨Ec, done, by simpa using hI, EnvLe.refl _, rfl, fun i c v hc => by simp at hc⟩
  | cons m vs ih =>
    intro xs Ec Hc done vs' news hv hI he hsub hnd
    obtain ⟨x, ys, rfl, hm, htl⟩ := hv.uncons
    have plain : ∀ {m' : MV}, V (E.shut n imp) W m' x → impIds n (m :: vs) = impIds n vs → ∀ {vs1 : List MV}, expL n imp h vs Hc.length = some (vs1, news) → vs' = m' :: vs1 → ∃ E2 done', Inv E n imp W E2 (Hc ++ news) done' ∧ EnvLe Ec E2 ∧ Vs E2 W vs' (x :: ys) := by
      intro m' hm' himp vs1 h1 e
      rw [himp] at hsub hnd
      obtain ⟨E2, done', k1, k2, k3⟩ := ih htl hI h1 hsub hnd
      exact ⟨E2, done', k1, k2, e ▸ Vs.cons ((hm'.env hI.le).env k2) k3⟩
    simp only [expL] at he
    split at he
    · rename_i id i k g
      split at he
      · rename_i hge
        split at he
        case h_2 => cases he
        rename_i o ho
        split at he
        case isFalse => cases he
        rename_i hog
        split at he
        case h_2 => cases he
        rename_i es hes
        split at he
        case h_2 => cases he
        rename_i vs1 news1 h1
        simp only [Option.some.injEq, Prod.mk.injEq] at he
        obtain ⟨rfl, rfl⟩ := he
        have himpid : impIds n (.arr id i k g :: vs) = id :: impIds n vs := by simp [impIds, hge]
        rw [himpid] at hsub hnd
        have hm0 := hm
        have hel : MV.elems h (.arr id i k g) = some ((o.es.drop i).take k) := by simp [MV.elems, ho, hog]
        have hlen : ((o.es.drop i).take k).length = k := by simp; omega
        cases hm with
        | arr _ _ _ _ A cap hk hg hd =>
          obtain ⟨es0, a1, a2, a3, a4, a5⟩ := hr.obj id hk
          rw [ho] at a1
          simp only [Option.some.injEq] at a1
          subst a1
          dsimp only at hog hel hlen hes ⊢
          obtain ⟨d1, d2, d3, d4, d5⟩ := hd hog.1
          have hsz0 : ∀ e ∈ (es0.drop i).take k, e.cells.length = E.sz id := fun e he => a3 e (List.mem_of_mem_drop (List.mem_of_mem_take he))
          obtain ⟨A', cap', us, e1, e2, e3⟩ := hm0.elems hr hel hsz0
          simp only [Value.slice.injEq] at e1
          obtain ⟨rfl, -, rfl⟩ := e1
          have hes' : es.length = k ∧ (∀ e ∈ es, e.cells.length = E.sz id) ∧ Vs (E.shut n imp) W (flat es) us := by
            split at hes
            · rename_i hlt
              cases hes
              have hls : ltL n ((es0.drop i).take k) = true := by
                have : ∀ l : List MV, (∀ x ∈ l, x.lt n = true) → ltL n l = true := fun l => by
                  induction l with
                  | nil => simp [ltL]
                  | cons x l ihl => intro hx; simp only [ltL, Bool.and_eq_true]; exact ⟨hx x (by simp), ihl fun y hy => hx y (by simp [hy])⟩
                refine this _ fun x hx => ?_
                obtain ⟨j, hj⟩ := List.getElem?_of_mem (List.mem_of_mem_drop (List.mem_of_mem_take hx))
                exact ltL_at hlt j x hj
              exact ⟨hlen, hsz0, e2.1, fun j c v hc hv => (e2.2 j c v hc hv).shut imp (lt_flat hls j c hc)⟩
            · have := frz_flat (fun f' hf' => frz_ok hr f') hes hsz0 e2
              exact ⟨this.1.trans hlen, this.2⟩
          obtain ⟨f1, f2, f3⟩ := hes'
          have hdone : id ∉ done := fun hin => by
            have := (List.nodup_append.1 hnd).2.2 id hin id (by simp)
            exact this rfl
          obtain ⟨hI', hle'⟩ := hI.add hr hk hge (hsub id (by simp)) hdone ho hog.1 hog.2 f1 f2 fun h0 => ⟨us, f3, fun j v hj => by
            obtain ⟨b, off, q1, q2⟩ := e3 (by omega)
            obtain ⟨q3, -⟩ := d5 (by omega)
            rw [q1] at q3
            simp only [Option.some.injEq, Addr.mk.injEq, and_true] at q3
            obtain ⟨rfl, rfl⟩ := q3
            exact q2 j v hj⟩
          have hl1 : (Hc ++ [(⟨0, E.nl id, E.sz id, es⟩ : MObj)]).length = Hc.length + 1 := by simp
          rw [← hl1] at h1
          obtain ⟨E2, done', k1, k2, k3⟩ := ih htl hI' h1 (fun j hj => hsub j (by simp [hj])) (by simpa using hnd)
          refine ⟨E2, done', by simpa using k1, hle'.trans k2, Vs.cons ?_ k3⟩
          refine V.env k2 (.arr _ _ _ _ A cap (.inr rfl) (by simp [Env.put]) fun _ => ?_)
          simp only [Env.put, if_true]
          refine ⟨by omega, d2, d3, d4, fun hc => ?_⟩
          obtain ⟨q1, q2⟩ := d5 hc
          exact ⟨by simpa using q1, by omega⟩
      · rename_i hlt
        split at he
        case h_2 => cases he
        rename_i vs1 news1 h1
        simp only [Option.some.injEq, Prod.mk.injEq] at he
        obtain ⟨rfl, rfl⟩ := he
        exact plain (hm.shut imp (by simp [MV.lt]; omega)) (by simp [impIds, hlt]) h1 rfl
    · rename_i hna
      split at he
      case h_2 => cases he
      rename_i m' hfr
      split at he
      case h_2 => cases he
      rename_i vs1 news1 h1
      simp only [Option.some.injEq, Prod.mk.injEq] at he
      obtain ⟨rfl, rfl⟩ := he
      refine plain (frz_ok hr 8 m m' x hm hfr) ?_ h1 rfl
      cases m <;> first | rfl | exact absurd rfl (hna _ _ _ _)
end

section
variable {P : Program} {E : Env} {w : World}

theorem run_loadVar_n {t : TypeId} {ag : Option Nat} (ht : tagg P t = some ag) {ms : List MV} {vs : List Value} (hv : Vs E w ms vs) {b o : Nat}
    {off : Nat} {m : MV} (hm : rdCells ms off ag = some m) : ∃ v, (∀ W : World, (∀ (i : Nat) v, vs[i]? = some v → W.cell? ⟨b, o + i, none⟩ = some v) → (loadVar t ⟨b, o + off, none⟩).run P W = .ok v W) ∧ V E w m v := by
  cases ag with
  | none =>
    obtain ⟨d, h1, h2⟩ := tagg_none ht
    simp only [rdCells] at hm
    have hlt := (List.getElem?_eq_some_iff.1 hm).1
    rw [hv.1] at hlt
    have hx : vs[off]? = some vs[off] := by simp
    refine ⟨vs[off], fun W hc => ?_, hv.2 off m _ hm hx⟩
    simp [loadVar, run_isAgg h1 h2, hc off _ hx]
  | some n =>
    obtain ⟨⟨d, h1, h2⟩, i, hi, hn⟩ := tagg_some ht
    simp only [rdCells] at hm
    split at hm
    · rename_i hle
      cases hm
      have hle' : off + n ≤ vs.length := hv.1 ▸ hle
      have hcs : ((vs.drop off).take n).length = n := by simp; omega
      refine ⟨.agg ((vs.drop off).take n).toArray, fun W hc => ?_, .agg _ _ (by simp; omega) fun j c v hj hv' => ?_⟩
      · have hrun := run_loadCells_list (P := P) W ⟨b, o + off, none⟩ ((vs.drop off).take n) (fun j v hj => by
          rw [Addr.add_none, Nat.add_assoc]
          refine hc (off + j) v ?_
          rw [List.getElem?_take] at hj
          split at hj
          · rwa [List.getElem?_drop] at hj
          · cases hj)
        rw [hcs] at hrun
        simp [loadVar, run_isAgg h1 h2, sizeOf, typeInfo, hi, hn, hrun]
      · rw [List.getElem?_take] at hj hv'
        split at hj
        · rename_i hlt
          rw [if_pos hlt] at hv'
          rw [List.getElem?_drop] at hj hv'
          exact hv.2 _ c v hj hv'
        · cases hj
    · cases hm

theorem Slots.getD {s : List MV} {a : Act} (hs : Slots E w s a) (t : Nat) : V E w (s.getD t (.lit undef)) (a.tmps.getD t undef) := by
  by_cases h : t < s.length
  · have h' : t < a.tmps.size := hs.1 ▸ h
    exact hs.2 t _ _ (by simp [h]) (by simp [h'])
  · have h' : ¬ t < a.tmps.size := hs.1 ▸ h
    simp [h, h']
    exact .lit _

def resS (a : Act) : ResultVar → Sem Value
  | .tmp t => pure (a.tmps.getD t undef)
  | .cell c t => do loadVar t (← asAddr (a.tmps.getD c undef))

/-- What one result is. -/
theorem resM_ok {h : MHeap} {s : List MV} {a : Act} (hs : Slots E w s a) (hr : HRel E h w) {r : ResultVar} {mr : MRes} {m : MV} (hc : compR P r = some mr) (he : resM s h mr = some m) :
    ∃ v, V E w m v ∧ ∀ B W, CK B w W → (resS a r).run P W = .ok v W := by
  cases r with
  | tmp t =>
    simp only [compR, Option.some.injEq] at hc
    subst hc
    simp only [resM, Option.some.injEq] at he
    subst he
    exact ⟨_, hs.getD t, fun _ _ _ => rfl⟩
  | cell a' t =>
    simp only [compR, Option.map_eq_some_iff] at hc
    obtain ⟨ag, ht, rfl⟩ := hc
    have hv := hs.getD a'
    simp only [resM] at he
    split at he
    case h_2 => cases he
    rename_i id i off g hp
    split at he
    case h_2 => cases he
    rename_i ob hob
    split at he
    case isFalse => cases he
    rename_i hog
    split at he
    case h_2 => cases he
    rename_i e hel
    rw [hp] at hv
    generalize hy : a.tmps.getD a' undef = y at hv
    cases hv with
    | ptr _ _ _ _ b o hk hg hd =>
      obtain ⟨c1, c2, c3, c4, c5, vs, c6, c7⟩ := hr.elem hk hob hog hel
      obtain ⟨rfl, rfl, _⟩ := hd c1
      obtain ⟨v, k1, k2⟩ := run_loadVar_n ht c6 (b := E.ρ id) (o := (E.bo id + i) * E.sz id) he
      refine ⟨v, k2, fun B W hck => ?_⟩
      have := k1 W fun i v hi => hck.cell (c7 i v hi)
      show (do loadVar t (← asAddr (a.tmps.getD a' undef)) : Sem Value).run P W = _
      rw [hy]
      simpa [asAddr] using this
end

theorem run_mapM_ok {P : Program} {W : World} {α : Type} {f : α → Sem Value} : ∀ {l : List α} {vs : List Value}, l.length = vs.length → (∀ (i : Nat) x v, l[i]? = some x → vs[i]? = some v → (f x).run P W = .ok v W) → (l.mapM f).run P W = .ok vs W
  | [], vs, hl, _ => by
    have : vs = [] := by simpa using hl.symm
    subst this
    simp
  | x :: l, [], hl, _ => by simp at hl
  | x :: l, v :: vs, hl, h => by
    have h1 := h 0 x v rfl rfl
    have h2 := run_mapM_ok (f := f) (l := l) (vs := vs) (by simpa using hl) fun i x v hx hv => h (i + 1) x v hx hv
    simp [List.mapM_cons, h1, h2]

/-- A function is what its evaluation is. -/
theorem runF_ok {P : Program} {O : Oracle} {I : Iter} {N : Nat} {f : Nat} {mf : MF} (hm : P.follows .mixedOrders = true) (hO : SoundO P O) (hA : AppO O) (hI : SoundI P I) (hf : IsF P f mf) {args : List MV} {h h' : MHeap} {m : MV} (he : runF O I N mf args h = some (m, h'))
    {E : Env} {w : World} {vs : List Value} (hr : HRel E h w) (hv : Vs E w args vs) :
    Calls P f vs.toArray w fun e w' => ∃ v E', e = .returned v ∧ V E' w' m v ∧ HRel E' h' w' ∧ Ext (fun _ => true) E w E' w' := by
  obtain ⟨E0, hE0⟩ : ∃ E0 : Env, E0 = E := ⟨E, rfl⟩
  have hr00 := hr
  rw [← hE0] at hr00 ⊢
  obtain ⟨E, hE⟩ : ∃ E1 : Env, E1 = { E with top := h.length } := ⟨_, rfl⟩
  rw [← hE0] at hE
  have hle0 : EnvLe E0 E := by rw [hE]; exact EnvLe.topE _ _
  have hr : HRel E h w := by
    rw [hE]
    exact ⟨hr00.klt, Nat.le_refl _, fun id hk => by
      obtain ⟨es, a1, a2, a3, a4, a5⟩ := hr00.obj id hk
      refine ⟨es, a1, a2, a3, a4, fun hc => ?_⟩
      obtain ⟨arr, t, b1, b2, b3⟩ := a5 hc
      exact ⟨arr, t, b1, b2, fun k c hk => by obtain ⟨v, c1, c2⟩ := b3 k c hk; exact ⟨v, c1, c2.env (EnvLe.topE _ _)⟩⟩, hr00.inj, hr00.sep, hr00.slt⟩
  have hv : Vs E w args vs := by rw [hE0] at hle0; exact hv.env hle0
  have htop : E.top = h.length := by rw [hE]
  obtain ⟨fn, b, h1, h2, h3, h4, h5⟩ := hf
  refine (callsIn_wide (n := 9)).1 (callsIn_of_wp_marks h1 h2 trivial ?_ rfl)
  unfold runF at he
  split at he
  case h_2 => cases he
  rename_i x st hev
  split at he
  case isFalse => cases he
  rename_i hx
  split at he
  case h_2 => cases he
  rename_i ms hms
  split at he
  case isFalse => cases he
  rename_i hnd
  split at he
  case h_2 => cases he
  rename_i ms' news hexp
  simp only [Option.some.injEq, Prod.mk.injEq] at he
  obtain ⟨rfl, rfl⟩ := he
  refine compC_ok (N := N) hm hO hA hI b mf.body h5 _ _ _ _ hev none w.heap.size 9 E _ w _ ⟨⟨by simp [hv.1, h3], fun i c v hc hcv => ?_⟩, hr, Nat.le_refl _, trivial⟩ fun a' w' E' hR hx' => ?_
  · by_cases hi : i < args.length
    · rw [List.getElem?_append_left hi] at hc
      have hi' : i < vs.length := hv.1 ▸ hi
      simp only [Array.getElem?_append, List.size_toArray, hi', if_true] at hcv
      exact hv.2 i c v hc (by simpa using hcv)
    · rw [List.getElem?_append_right (by omega)] at hc
      have hi' : ¬ i < vs.length := hv.1 ▸ hi
      simp only [Array.getElem?_append, List.size_toArray, hi', if_false] at hcv
      rw [List.getElem?_replicate] at hc
      rw [Array.getElem?_replicate] at hcv
      split at hc
      · split at hcv
        · cases hc; cases hcv; exact .lit _
        · cases hcv
      · cases hc
  · obtain ⟨q1, q2⟩ := mapM_some h4
    obtain ⟨q3, q4⟩ := mapM_some hms
    have hres : ∀ i : Nat, i < fn.results.toList.length → ∃ v, ∀ r mr m, fn.results.toList[i]? = some r → mf.res[i]? = some mr → ms[i]? = some m → V E' w' m v ∧ ∀ B W, CK B w' W →
        (resS a' r).run P W = .ok v W := fun i hi => by
      have e1 : fn.results.toList[i]? = some fn.results.toList[i] := by simp
      have hi2 : i < mf.res.length := q1 ▸ hi
      have e2 : mf.res[i]? = some mf.res[i] := by simp
      have hi3 : i < ms.length := q3 ▸ hi2
      have e3 : ms[i]? = some ms[i] := by simp
      obtain ⟨v, hv1, hv2⟩ := resM_ok hR.slots hR.heap (q2 i _ _ e1 e2) (q4 i _ _ e2 e3)
      refine ⟨v, fun r mr m hr' hmr hm' => ?_⟩
      rw [e1] at hr'; cases hr'
      rw [e2] at hmr; cases hmr
      rw [e3] at hm'; cases hm'
      exact ⟨hv1, hv2⟩
    have hvals : ∃ us : List Value, us.length = fn.results.toList.length ∧ ∀ (i : Nat) r mr m v, fn.results.toList[i]? = some r → mf.res[i]? = some mr → ms[i]? = some m → us[i]? = some v → V E' w' m v ∧ ∀ B W, CK B w' W →
        (resS a' r).run P W = .ok v W := by
      refine ⟨List.ofFn fun i : Fin fn.results.toList.length => (hres i.1 i.2).choose, by simp, fun i r mr m v hr' hmr hm' hu => ?_⟩
      have hi := (List.getElem?_eq_some_iff.1 hr').1
      rw [List.getElem?_ofFn, dif_pos hi] at hu
      cases hu
      exact (hres i hi).choose_spec r mr m hr' hmr hm'
    obtain ⟨us, hul, hus⟩ := hvals
    have hVs : Vs E' w' ms us := ⟨by omega, fun i c v hc hcv => by
      have hi := (List.getElem?_eq_some_iff.1 hc).1
      have hi2 : i < mf.res.length := by omega
      have hi1 : i < fn.results.toList.length := by omega
      exact (hus i fn.results.toList[i] mf.res[i] c v (by simp) (by simp) hc hcv).1⟩
    have hgo : bodyPostM Fence.wide 9 P fn (fun e w' => ∃ v E', e = .returned v ∧ V E' w' (oneOf ms') v ∧ HRel E' (h ++ news) w' ∧ Ext (fun _ => true) E0 w E' w') .ret a' w' := by
      refine ret_marks (v := if h : us.toArray.size = 1 then us.toArray[0] else .tuple us.toArray) (B := w.heap.size) hR.mok.2 fun W' hck => ⟨?_, ?_⟩
      · have hrun : (fn.results.toList.mapM (resS a')).run P W' = .ok us W' := by
          refine run_mapM_ok hul.symm fun i r v hr' hu => ?_
          have hi := (List.getElem?_eq_some_iff.1 hr').1
          have hi2 : i < mf.res.length := by omega
          have hi3 : i < ms.length := by omega
          exact (hus i r mf.res[i] ms[i] v hr' (by simp) (by simp) hu).2 _ W' hck
        have e : results fn a'.tmps = (do
            let vs ← fn.results.mapM (resS a')
            pure (if h : vs.size = 1 then vs[0] else .tuple vs)) := rfl
        rw [e, Array.mapM_eq_mapM_toList]
        simp only [Sem.run_bind, Sem.run_map, hrun, Result.andThen_ok]
        rfl
      · have hr2 := hR.heap.ck hck
        have hx2 : Ext (fun id => decide (id < h.length)) E w E' W' := hx'.ck hck
        have hr3 := hr.shut htop hr2 hx2 (impIds h.length ms)
        have hVs2 : Vs E' W' ms us := ⟨hVs.1, fun i c v hc hcv => (hVs.2 i c v hc hcv).ck hck⟩
        obtain ⟨E2, done', k1, k2, k3⟩ := expL_ok (imp := impIds h.length ms) hr2 hVs2 (Ec := E'.shut h.length (impIds h.length ms)) (Hc := h) (done := []) ⟨hr3, EnvLe.refl _, fun b hb => hb, fun id hk hc => .inl ⟨hk.1, hk.2, rfl, rfl⟩, fun j hj => by simp at hj, rfl, Nat.le_refl _, fun id hk => .inl hk⟩ hexp (fun j hj => hj) (by simpa using hnd)
        refine ⟨_, { E2 with top := E0.top }, rfl, V.env (EnvLe.topE _ _) ?_, ?_, ?_⟩
        · cases ms' with
          | nil =>
            have : us = [] := by have := k3.1; simpa using this.symm
            subst this
            exact .tup [] [] rfl fun i c v hc => by simp at hc
          | cons m1 l =>
            obtain ⟨u, ul, rfl, d1, d2⟩ := k3.uncons
            cases l with
            | nil =>
              have : ul = [] := by have := d2.1; simpa using this.symm
              subst this
              simpa [oneOf] using d1
            | cons m2 l =>
              have hne : (u :: ul).toArray.size ≠ 1 := by have := d2.1; simp only [List.length_cons] at this; simp only [List.size_toArray, List.length_cons]; omega
              rw [dif_neg hne]
              exact .tup _ _ k3.1 k3.2
        · have kr := k1.hr
          exact ⟨kr.klt, by have := hr00.top; simp; omega, fun id hk => by
            obtain ⟨es, a1, a2, a3, a4, a5⟩ := kr.obj id hk
            refine ⟨es, a1, a2, a3, a4, fun hc => ?_⟩
            obtain ⟨arr, t, b1, b2, b3⟩ := a5 hc
            exact ⟨arr, t, b1, b2, fun k c hk => by obtain ⟨v, c1, c2⟩ := b3 k c hk; exact ⟨v, c1, c2.env (EnvLe.topE _ _)⟩⟩, kr.inj, kr.sep, kr.slt⟩
        · have hs := hx2.shut hr (impIds h.length ms)
          have hEK : ∀ id, E0.K id → E.K id := fun id hk => by rw [hE]; exact hk
          have hE1 : E.ρ = E0.ρ ∧ E.bo = E0.bo ∧ E.cp = E0.cp ∧ E.sz = E0.sz ∧ E.gn = E0.gn ∧ E.ln = E0.ln ∧ E.nl = E0.nl ∧ E.S = E0.S ∧ E.K = E0.K := by rw [hE]; exact ⟨rfl, rfl, rfl, rfl, rfl, rfl, rfl, rfl, rfl⟩
          obtain ⟨z1, z2, z3, z4, z5, z6, z7, z8, z9⟩ := hE1
          refine { os := hs.os, tape := hs.tape, output := hs.output, size := hs.size, keep := fun k hk hn => hs.keep k hk fun id _ hl => by simp at hl, S := fun b hb => k2.1 b (hs.S b (z8 ▸ hb)), K := fun id hk => (k2.2.1 id (hs.K id (hEK id hk))).1, old := fun id hk => ?_, lock := fun id hk hl => ?_, src := fun id hk hc => ?_, top := rfl, srcK := fun id hk => ?_, yl := k2.2.2.trans (by rw [hs.yl, hE]), srcS := fun b hb => ?_ }
          · obtain ⟨c1, c2⟩ := hs.old id (hEK id hk)
            obtain ⟨d1, d2, d3, d4, d5, d6, d7, d8⟩ := k2.2.1 id (hs.K id (hEK id hk))
            rw [z5] at c1 c2
            refine ⟨by show E0.gn id ≤ E2.gn id; omega, fun e => ?_⟩
            obtain ⟨f1, f2, f3, f4, f5, f6⟩ := c2 (d2 ▸ e)
            rw [z1] at f1; rw [z2] at f2; rw [z3] at f3; rw [z4] at f4; rw [z6] at f5; rw [z7] at f6
            exact ⟨d3.trans f1, d4.trans f2, d5.trans f3, d6.trans f4, d7.trans f5, d8.trans f6⟩
          · have := ((k2.2.1 id (hs.K id (hEK id hk))).2.1).trans (hs.lock id (hEK id hk) hl)
            rwa [z5] at this
          · rcases k1.src id hk hc with ⟨e1, e2, e3, e4⟩ | ⟨j, e1, e2, e3, e4, e5⟩
            · rcases hx2.src id e1 (e4 ▸ hc) with ⟨g1, g2, g3⟩ | g
              · exact .inl ⟨z9 ▸ g1, by rw [← z3]; exact g2, by rw [← z1]; exact e3.trans g3⟩
              · exact .inr (e3 ▸ g)
            · rcases hx2.src j e2 e4 with ⟨g1, g2, g3⟩ | g
              · have := hr.klt j g1; omega
              · exact .inr (e5 ▸ g)
          · rcases k1.srcK id hk with ⟨g1, g2⟩ | g
            · exact .inl (z9 ▸ (hx2.srcK id g1).resolve_right (by omega))
            · exact .inr (Nat.le_trans hr00.top g)
          · rcases hs.srcS b (k1.S b hb) with g | ⟨id, g1, g2, g3⟩ | g
            · exact .inl (z8 ▸ g)
            · exact .inr (.inl ⟨id, z9 ▸ g1, z3 ▸ g2, z1 ▸ g3⟩)
            · exact .inr (.inr g)
    rcases hx with rfl | rfl
    · exact hgo
    · exact hgo

theorem runF_app {O : Oracle} {I : Iter} {N : Nat} {mf : MF} {args : List MV} {h h' : MHeap} {m : MV} (he : runF O I N mf args h = some (m, h')) : ∃ t, h' = h ++ t := by
  unfold runF at he
  split at he
  case h_2 => cases he
  split at he
  case isFalse => cases he
  split at he
  case h_2 => cases he
  split at he
  case isFalse => cases he
  split at he
  case h_2 => cases he
  cases he
  exact ⟨_, rfl⟩

end Go.Proofs.Ytgjpdjihjphbdaa
