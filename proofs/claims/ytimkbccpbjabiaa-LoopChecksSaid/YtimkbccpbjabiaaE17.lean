/- From the verification condition of a function to its contract. Conditions: the table of types is the program's; each contract in use holds. -/
import Derived.Test.YtimkbccpbjabiaaE16
set_option linter.all false
namespace Go.Eng

def resVal (tmps : Array Value) : ResultVar → Sem Value
  | .tmp t => pure (tmps.getD t undef)
  | .cell p t => do loadVar t (← asAddr (tmps.getD p undef))

section
variable {E : Env} {a : Act} {w : World} {c : Cfg}

theorem svOf_sound (hT : TblOk E.P c.tt) {η : Eta} {st : St} (H : ∀ f ∈ st, Fact.holds E η a w f) {r : ResultVar} {s : SV} (h : svOf c st r = some s) :
    ∃ v, (resVal a.tmps r).run E.P w = .ok v w ∧ holdsV (vw E η w) η s v := by
  cases r with
  | tmp t => exact ⟨_, rfl, H _ (findSlot_mem h)⟩
  | cell p ty =>
    simp only [svOf] at h
    split at h
    case h_2 => cases h
    case h_1 k off hs =>
      obtain ⟨b, cc, hk, hv⟩ := H _ (findSlot_mem hs)
      split at h
      case h_2 => cases h
      case h_1 i hi =>
        have hI := hT.rows ty i hi
        cases hag : i.kind.isAgg with
        | true =>
          rw [hag] at h
          simp only [cond_true] at h
          split at h
          · rename_i cs hcs
            simp only [Option.some.injEq] at h
            subst h
            obtain ⟨vs, e1, e2, e3, _⟩ := findCells_vals H hk i.size off cs hcs
            refine ⟨.agg vs.toArray, ?_, ⟨vs, rfl, e1⟩⟩
            have := run_loadVar_agg (w := w) hI hag (a := ⟨b, off, none⟩) e2 (fun j v hj => by rw [add_none]; exact e3 j v hj)
            simp [resVal, hv, asAddr, this]
          · cases h
        | false =>
          rw [hag] at h
          simp only [cond_false] at h
          split at h
          · rename_i u hu
            simp only [Option.some.injEq] at h
            subst h
            obtain ⟨b', c', cur, el, v, _, q1, q2, q3, q4, q5⟩ := H _ (findCell_mem hu)
            rw [hk] at q1
            simp only [Option.some.injEq, Prod.mk.injEq] at q1
            obtain ⟨rfl, rfl⟩ := q1
            have := run_loadVar_one (w := w) hI hag (a := ⟨b, off, none⟩) (v := v) (by rw [cell_of q2]; exact q3)
            exact ⟨v, by simp [resVal, hv, asAddr, this], q5⟩
          · cases h

theorem resOf_sound (hT : TblOk E.P c.tt) {η : Eta} {st : St} {nt : Nat} (g : Good E nt η a w) (H : ∀ f ∈ st, Fact.holds E η a w f) : ∀ (rs : List ResultVar) (cs : List RC) (q : Prop) (x : (resTy cs).Den), resOf c st rs cs = some (q, x) → q →
    ∃ (vs : List Value) (gb : Option Nat), (rs.mapM (resVal a.tmps)).run E.P w = .ok vs w ∧ (∀ b, gb = some b → ∃ k n, η k = some (b, n)) ∧ (noOwn cs = true → gb = none) ∧
      ∀ V', (∀ b c, vw E η w b c → V' b c) → ResOK w V' E.w0.heap.size cs x vs gb
  | [], [], q, x, h, hq => ⟨[], none, by simp, fun _ h => (by cases h), fun _ => rfl, fun _ _ => ⟨rfl, rfl⟩⟩
  | [], _ :: _, q, x, h, hq => by simp [resOf] at h
  | _ :: _, [], q, x, h, hq => by simp [resOf] at h
  | r :: rs, rc :: cs, q, x, h, hq => by
    cases rc with
    | mk o t =>
      cases o with
      | none =>
        simp only [resOf] at h
        split at h
        case h_2 => cases h
        case h_1 s hs =>
          split at h
          case h_2 => cases h
          case h_1 y hy =>
            split at h
            case h_2 => cases h
            case h_1 p z hz =>
              simp only [Option.some.injEq, Prod.mk.injEq] at h
              obtain ⟨rfl, rfl⟩ := h
              obtain ⟨v, e1, e2⟩ := svOf_sound hT H hs
              obtain ⟨vs, gb, e3, e4, e5, e6⟩ := resOf_sound hT g H rs cs _ z hz hq
              exact ⟨v :: vs, gb, by simp [List.mapM_cons, e1, e3], e4, fun hn => e5 (by simpa [noOwn] using hn), fun V' hV => ⟨v, vs, rfl, RepV.mono hV (SV.den_sound hy e2), e6 V' hV⟩⟩
      | some el =>
        cases t
        case sl e =>
          simp only [resOf] at h
          cases hno : noOwn cs with
          | false => rw [hno] at h; simp at h
          | true =>
            rw [hno] at h
            simp only [cond_true] at h
            split at h
            · rename_i k n hs
              split at h
              case h_2 => cases h
              case h_1 r' hr' =>
                cases hel : Nat.beq r'.el el with
                | false => rw [hel] at h; simp at h
                | true =>
                  rw [hel] at h
                  simp only [cond_true] at h
                  split at h
                  case h_2 => cases h
                  case h_1 xs hxs =>
                    split at h
                    case h_2 => cases h
                    case h_1 p z hz =>
                      simp only [Option.some.injEq, Prod.mk.injEq] at h
                      obtain ⟨rfl, rfl⟩ := h
                      obtain ⟨hq1, hq2⟩ := hq
                      obtain ⟨v, e1, e2⟩ := svOf_sound hT H hs
                      obtain ⟨vs, gb, e3, e4, e5, e6⟩ := resOf_sound hT g H rs cs _ z hz hq1
                      have hgb := e5 hno
                      subst hgb
                      have hrow := H _ (findRow_mem hr')
                      obtain ⟨hty, hz'⟩ := castD_eq hxs
                      injection hty with hty
                      obtain ⟨rel, re, rxs⟩ := r'
                      simp only at hty hz' hel hrow
                      subst hty
                      simp only at hz'
                      subst hz'
                      have hel' := Nat.eq_of_beq_eq_true hel
                      subst hel'
                      rcases e2 with ⟨k1, k2, rfl⟩ | ⟨b, cc, k1, rfl, k3⟩
                      · have hnil : xs = [] := List.eq_nil_of_length_eq_zero (by omega)
                        exact ⟨.slice none 0 0 :: vs, none, by simp [List.mapM_cons, e1, e3], fun _ h => (by cases h), fun _ => rfl, fun V' hV => ⟨_, vs, rfl, e6 V' hV, .inl ⟨hnil, rfl, rfl⟩⟩⟩
                      · rcases hrow with ⟨g1, _⟩ | ⟨b', c', cur, q0, q1, q2, q3⟩
                        · rw [k1] at g1; cases g1
                        · rw [k1] at q1
                          simp only [Option.some.injEq, Prod.mk.injEq] at q1
                          obtain ⟨rfl, rfl⟩ := q1
                          refine ⟨.slice (some ⟨b, 0, none⟩) n cc :: vs, some b, by simp [List.mapM_cons, e1, e3], fun b' hb' => ⟨k, cc, by simp at hb'; rw [← hb']; exact k1⟩, fun hn => by simp [noOwn] at hn, fun V' hV => ⟨_, vs, rfl, e6 V' hV, .inr ⟨b, cc, cur, rfl, by rw [hq2], q0, q2, q3.mono hV⟩⟩⟩
            · rename_i y hs
              cases hy : isNilSlice y with
              | false => rw [hy] at h; simp at h
              | true =>
                rw [hy] at h
                simp only [cond_true] at h
                split at h
                case h_2 => cases h
                case h_1 p z hz =>
                  simp only [Option.some.injEq, Prod.mk.injEq] at h
                  obtain ⟨rfl, rfl⟩ := h
                  obtain ⟨v, e1, e2⟩ := svOf_sound hT H hs
                  obtain ⟨vs, gb, e3, e4, e5, e6⟩ := resOf_sound hT g H rs cs _ z hz hq
                  have hgb := e5 hno
                  subst hgb
                  have hv : v = .slice none 0 0 := by rw [← isNilSlice_eq hy]; exact e2
                  subst hv
                  exact ⟨.slice none 0 0 :: vs, none, by simp [List.mapM_cons, e1, e3], fun _ h => (by cases h), fun _ => rfl, fun V' hV => ⟨_, vs, rfl, e6 V' hV, .inl ⟨rfl, rfl, rfl⟩⟩⟩
            · cases h
        all_goals simp [resOf] at h

theorem results_run {P : Program} {fn : Func} {tmps : Array Value} {vs : List Value} (h : (fn.results.toList.mapM (resVal tmps)).run P w = .ok vs w) : (results fn tmps).run P w = .ok (retVal vs) w := by
  have hr : results fn tmps = (do let vs ← fn.results.mapM (resVal tmps); pure (if h : vs.size = 1 then vs[0] else .tuple vs)) := rfl
  rw [hr, Array.mapM_eq_mapM_toList]
  simp only [Sem.run_bind, Sem.run_map, h, Result.andThen_ok, Sem.run_pure]
  match vs with
  | [] => rfl
  | [v] => rfl
  | v :: u :: l => simp [retVal]

/-- The keys of objects that are handed by pointer, with their blocks. -/
def obsOf : (ps : List Pat) → List Value → Nat → List (Nat × Nat)
  | .ob _ :: r, .pointer (some ad) :: vs, i => (50000 + i, ad.block) :: obsOf r vs (i + 1)
  | _ :: r, _ :: vs, i => obsOf r vs (i + 1)
  | _, _, _ => []

def obCount : List Pat → Nat
  | [] => 0
  | .ob _ :: r => obCount r + 1
  | _ :: r => obCount r

def etaOf : List (Nat × Nat) → Eta
  | [], _ => none
  | p :: r, k => if k = p.1 then some (p.2, 0) else etaOf r k

theorem init_facts {P : Program} {OB : Nat → Obj → Prop} {M : Nat → Prop} (hP : E.P = P) (hOB : E.OB = OB) (hM : E.M = M) (hw : E.w0 = w) {η : Eta} (hη : ∀ k b n, η k = some (b, n) → M b) :
    ∀ (ps : List Pat) (x : (argTy ps).Den) (vs : List Value) (bs : List Nat) (i : Nat), ArgsOK OB w M ps x vs bs → (∀ j v, vs[j]? = some v → a.tmps.getD (i + j) undef = v) →
      (∀ k b, (k, b) ∈ obsOf ps vs i → η k = some (b, 0)) → ∀ f ∈ initFacts ps x i, Fact.holds E η a w f
  | [], x, vs, bs, i, _, _, _, f, hf => by simp [initFacts] at hf
  | .dat t :: r, x, vs, bs, i, h, hv, hk, f, hf => by
    obtain ⟨v, vs', rfl, h1, h2⟩ := h
    simp only [initFacts, List.mem_cons] at hf
    rcases hf with rfl | hf
    · have := hv 0 v (by simp)
      simp only [Nat.add_zero] at this
      simp only [Fact.holds, this]
      exact RepV.mono (fun b c ⟨k1, k2⟩ => ⟨by rw [hM]; exact k1, fun k n hk' => k1 (hη k b n hk'), k2⟩) h1
    · exact init_facts hP hOB hM hw hη r x.2 vs' bs (i + 1) h2 (fun j u hu => by rw [show i + 1 + j = i + (j + 1) from by omega]; exact hv (j + 1) u (by simpa using hu)) (fun k b hb => hk k b (by simpa [obsOf] using hb)) f hf
  | .lit y :: r, x, vs, bs, i, h, hv, hk, f, hf => by
    obtain ⟨vs', rfl, h2⟩ := h
    simp only [initFacts, List.mem_cons] at hf
    rcases hf with rfl | hf
    · have := hv 0 y (by simp)
      simp only [Nat.add_zero] at this
      exact this
    · exact init_facts hP hOB hM hw hη r x vs' bs (i + 1) h2 (fun j u hu => by rw [show i + 1 + j = i + (j + 1) from by omega]; exact hv (j + 1) u (by simpa using hu)) (fun k b hb => hk k b (by simpa [obsOf] using hb)) f hf
  | .ob q :: r, x, vs, bs, i, h, hv, hk, f, hf => by
    obtain ⟨b, o, vs', bs', rfl, rfl, h1, h2, h3, h4⟩ := h
    have hkey : η (50000 + i) = some (b, 0) := hk _ _ (by simp [obsOf])
    simp only [initFacts, List.mem_cons] at hf
    rcases hf with rfl | rfl | hf
    · have := hv 0 (.pointer (some ⟨b, 0, none⟩)) (by simp)
      simp only [Nat.add_zero] at this
      exact ⟨b, 0, hkey, this⟩
    · exact ⟨b, 0, o, hkey, h2, by rw [hOB]; exact h3⟩
    · exact init_facts hP hOB hM hw hη r x vs' bs' (i + 1) h4 (fun j u hu => by rw [show i + 1 + j = i + (j + 1) from by omega]; exact hv (j + 1) u (by simpa using hu)) (fun k b hb => hk k b (by simp [obsOf, hb])) f hf

theorem obsOf_spec {OB : Nat → Obj → Prop} {M : Nat → Prop} : ∀ (ps : List Pat) (x : (argTy ps).Den) (vs : List Value) (bs : List Nat) (i : Nat), ArgsOK OB w M ps x vs bs →
    (obsOf ps vs i).map (·.2) = bs ∧ (obsOf ps vs i).length = obCount ps ∧ vs.length = ps.length ∧ (∀ b ∈ bs, M b ∧ b < w.heap.size)
  | [], x, vs, bs, i, h => by obtain ⟨rfl, rfl⟩ := h; simp [obsOf, obCount]
  | .dat t :: r, x, vs, bs, i, h => by
    obtain ⟨v, vs', rfl, h1, h2⟩ := h
    obtain ⟨e1, e2, e3, e4⟩ := obsOf_spec r x.2 vs' bs (i + 1) h2
    exact ⟨by simpa [obsOf] using e1, by simpa [obsOf, obCount] using e2, by simp [e3], e4⟩
  | .lit y :: r, x, vs, bs, i, h => by
    obtain ⟨vs', rfl, h2⟩ := h
    obtain ⟨e1, e2, e3, e4⟩ := obsOf_spec r x vs' bs (i + 1) h2
    exact ⟨by simpa [obsOf] using e1, by simpa [obsOf, obCount] using e2, by simp [e3], e4⟩
  | .ob q :: r, x, vs, bs, i, h => by
    obtain ⟨b, o, vs', bs', rfl, rfl, h1, h2, h3, h4⟩ := h
    obtain ⟨e1, e2, e3, e4⟩ := obsOf_spec r x vs' bs' (i + 1) h4
    refine ⟨by simp [obsOf, e1], by simp [obsOf, obCount, e2], by simp [e3], fun b' hb' => ?_⟩
    rcases List.mem_cons.1 hb' with rfl | hb'
    · exact ⟨h1, lt_of_heap h2⟩
    · exact e4 b' hb'

/-- What a lemma on regions whose order is open must give, for a program. -/
def ParOkP (P : Program) (OB : Nat → Obj → Prop) (c : Cfg) (par : Array Oper → St → (St → Prop) → Prop) : Prop := ∀ E : Env, E.P = P → E.OB = OB → ParOk E c par

theorem fn_sound {P : Program} {OB : Nat → Obj → Prop} (hC : CfgOk P OB c) {par : Array Oper → St → (St → Prop) → Prop} (hpar : ParOkP P OB c par) {f : Nat} {fn : Func} {body : Code} {rs : List ResultVar} {sp : Spec}
    (hf : P.funcs[f]? = some fn) (hb : fn.body = some body) (hnt : fn.ntmps = c.nt) (hps : sp.pats.length ≤ c.nt) (hob : obCount sp.pats ≤ 1) (hrs : fn.results.toList = rs) (hd : dstOk c.nt body = true)
    (anns : (argTy sp.pats).Den → List (St → LoopAnn)) (h : ∀ x, sp.pre x → bodyVC c par (anns x) rs body sp x) : Holds P OB f sp := by
  intro w M x vs bs hM hA hpre
  obtain ⟨o1, o2, o3, o4⟩ := obsOf_spec sp.pats x vs bs 0 hA
  let E : Env := { P := P, M := M, mu := fun b => b ∈ bs, w0 := w, OB := OB }
  refine calls_of_wp hf hb ?_
  have hsz : (vs.toArray ++ Array.replicate (fn.ntmps - vs.toArray.size) undef).size = c.nt := by
    simp; omega
  have hR : RelS E c.nt (initFacts sp.pats x 0) { tmps := vs.toArray ++ Array.replicate (fn.ntmps - vs.toArray.size) undef, defers := [] } w := by
    have hη : ∀ k b n, etaOf (obsOf sp.pats vs 0) k = some (b, n) → (k, b) ∈ obsOf sp.pats vs 0 ∧ n = 0 := by
      intro k b n
      generalize obsOf sp.pats vs 0 = l
      induction l with
      | nil => intro h; cases h
      | cons p r ih =>
        intro h
        simp only [etaOf] at h
        split at h
        · rename_i hk
          simp only [Option.some.injEq, Prod.mk.injEq] at h
          obtain ⟨rfl, rfl⟩ := h
          subst hk
          exact ⟨List.mem_cons_self, rfl⟩
        · obtain ⟨h1, h2⟩ := ih h
          exact ⟨List.mem_cons_of_mem _ h1, h2⟩
    have hbs : ∀ k b, (k, b) ∈ obsOf sp.pats vs 0 → b ∈ bs := fun k b hkb => by rw [← o1]; exact List.mem_map.2 ⟨_, hkb, rfl⟩
    refine ⟨etaOf (obsOf sp.pats vs 0), ?_, ?_⟩
    · exact {
        size := hsz, defers := rfl, os := rfl, tape := rfl, output := rfl, grow := Nat.le_refl _, keep := fun _ _ _ => rfl,
        own := fun k b n hk => ⟨(o4 b (hbs k b (hη k b n hk).1)).2, .inr (hbs k b (hη k b n hk).1)⟩,
        inj := fun k k' b n n' hk hk' => by
          have h1 := (hη k b n hk).1
          have h2 := (hη k' b n' hk').1
          have hl : (obsOf sp.pats vs 0).length ≤ 1 := by omega
          match hobs : obsOf sp.pats vs 0, hl with
          | [], _ => rw [hobs] at h1; cases h1
          | [p], _ =>
            rw [hobs] at h1 h2
            simp only [List.mem_singleton] at h1 h2
            rw [← h2] at h1
            simpa using h1
        old := hM, obkeep := fun b i o _ _ h1 h2 => ⟨o, h1, h2⟩ }
    · refine init_facts rfl rfl rfl rfl (fun k b n hk => (o4 b (hbs k b (hη k b n hk).1)).1) sp.pats x vs bs 0 hA (fun j v hj => ?_) (fun k b hkb => ?_)
      · simp only [Nat.zero_add]
        have hjl := (List.getElem?_eq_some_iff.1 hj).1
        simp only [Array.getD_eq_getD_getElem?]
        rw [Array.getElem?_append_left (by simpa using hjl)]
        simp [hj]
      · have hl : (obsOf sp.pats vs 0).length ≤ 1 := by omega
        match hobs : obsOf sp.pats vs 0, hl with
        | [], _ => rw [hobs] at hkb; cases hkb
        | [p], _ =>
          rw [hobs] at hkb
          simp only [List.mem_singleton] at hkb
          subst hkb
          simp [etaOf]
  have hCE : CfgOk E.P E.OB c := hC
  refine wp_mono (vc_sound hCE (hpar E rfl rfl) body 0 _ _ _ w hd (h x hpre) hR) fun e a' w' ⟨xe, st', e1, e2, e3⟩ => ?_
  subst e1
  have fin : ∀ st', retVC c rs sp.res (sp.f x) st' → RelS E c.nt st' a' w' → a'.defers = [] ∧ ∃ v, (results fn a'.tmps).run P w' = .ok v w' ∧
      ∃ rs g, Ending.returned v = .returned (retVal rs) ∧ CPost OB w w' bs ∧ ResOK w' (fun b c => ¬ M b ∧ g ≠ some b ∧ ∃ el f, w'.heap[b]? = some (.cells c el f)) w.heap.size sp.res (sp.f x) rs g := by
    intro st' hr hR
    unfold retVC at hr
    split at hr
    case h_2 => exact hr.elim
    case h_1 p st1 hfz =>
      split at hr
      case h_2 => exact hr.elim
      case h_1 q y hq =>
        obtain ⟨r1, hr⟩ := OP.andK_out hr
        obtain ⟨r2, r3⟩ := hr.out
        have r3 := eqD_eq _ _ _ r3
        obtain ⟨η, g, H⟩ := freezes_sound hfz r1 hR
        obtain ⟨vs', gb, k1, k2, k3, k4⟩ := resOf_sound hCE.tbl g H rs sp.res q y hq r2
        rw [r3] at k4
        rw [← hrs] at k1
        refine ⟨g.defers, _, results_run k1, vs', gb, rfl, ?_, k4 _ (fun b c ⟨m1, m2, m3⟩ => ⟨m1, fun hg => ?_, m3⟩)⟩
        · exact { os := g.os, tape := g.tape, output := g.output, size := g.grow, keep := fun b hb hn => g.keep b hb hn, obk := fun b hb i o h1 h2 => g.obkeep b i o (o4 b hb).2 hb h1 h2 }
        · obtain ⟨k, n, hk⟩ := k2 b hg
          exact m2 k n hk
  cases xe with
  | normal => exact fin st' e2 e3
  | exit id => exact e2.elim
  | ret => exact fin st' e2 e3

end
end Go.Eng
