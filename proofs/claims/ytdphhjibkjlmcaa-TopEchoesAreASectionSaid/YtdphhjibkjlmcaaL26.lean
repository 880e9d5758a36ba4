/- Contracts of meets and right; the law LoopMirrors returns true. Conditions: each contract's own. -/
import Derived.Test.YtdphhjibkjlmcaaL24
namespace Go.Eng.Lp
open Go.Eng Go.Proofs
set_option linter.all false
set_option maxRecDepth 100000
set_option maxHeartbeats 8000000

def fRight (x y r : Int) : Bool := decide ((-1099511627776 ≤ x ∧ x ≤ 1099511627776) ∧ (-1099511627776 ≤ y ∧ y ≤ 1099511627776) ∧ 0 ≤ r ∧ r ≤ 1099511627776)
@[reducible] def sRight : Spec := { pats := [.dat Ball], res := [{ t := .bool }], pre := fun _ => True, f := fun x => (fRight x.1.1 x.1.2.1 x.1.2.2.1, ()) }

def okBall (x y r : Int) : Prop := (-1099511627776 ≤ x ∧ x ≤ 1099511627776) ∧ (-1099511627776 ≤ y ∧ y ≤ 1099511627776) ∧ 0 ≤ r ∧ r ≤ 1099511627776
def fMeets (x y r u v s : Int) : Bool := decide (((x - u).natAbs : Int) ≤ r + s ∧ ((y - v).natAbs : Int) ≤ r + s)
@[reducible] def sMeets : Spec := { pats := [.dat Ball, .dat Ball], res := [{ t := .bool }], pre := fun x => okBall x.1.1 x.1.2.1 x.1.2.2.1 ∧ okBall x.2.1.1 x.2.1.2.1 x.2.1.2.2.1, f := fun x => (fMeets x.1.1 x.1.2.1 x.1.2.2.1 x.2.1.1 x.2.1.2.1 x.2.1.2.2.1, ()) }

/-- The opposite taps. -/
def opp (T : List Int) : List Int := tab (fun i => -(T.getD i 0)) T.length

theorem opp_len (T : List Int) : (opp T).length = T.length := tab_len _ _
theorem opp_get {T : List Int} {k : Nat} (hk : k < T.length) : (opp T).getD k 0 = -(T.getD k 0) := tab_get _ 0 _ k hk

theorem good_opp {T : List Int} {g : Int} (h : GoodLoop T g) : GoodLoop (opp T) g := by
  refine ⟨by rw [opp_len]; exact h.pos, by rw [opp_len]; exact h.le, ?_, fun k hk => ?_, h.gain0, h.gain1⟩
  · rw [opp_get h.pos, h.zero]; rfl
  · rw [opp_len] at hk
    rw [opp_get hk]
    have := h.val k hk
    omega

theorem check_good {T : List Int} {g : Int} (h : GoodLoop T g) : fCheckLoop T g = 0 := by
  have hb : ¬ (T.any big102 = true) := any_big fun i hi => by
    have := h.val i hi
    simp only [big102, fWithin, Bool.not_eq_false', decide_eq_true_eq]; exact this
  have h1 := h.pos
  have h2 := h.le
  have h3 := h.gain0
  have h4 := h.gain1
  simp only [fCheckLoop]
  rw [if_neg (by omega), if_neg (by omega), if_neg (by rw [h.zero]; simp), if_neg (fun hc => hc.elim hb (fun hc => hc ⟨h3, h4⟩))]

theorem zX_neg (T : List Int) (m : Int) : zX T (-m) = zX T m := by
  simp only [zX]
  refine sm_congr _ fun i _ => ?_
  simp only [wX]
  have e : -(-m) * (i : Int) = -(-m * i) := by rw [Int.neg_mul]
  rw [e, wayI_neg]

theorem zY_neg (T : List Int) (m : Int) : zY T (-m) = -zY T m := by
  have e0 := sm_lin (fun _ => 0) (wY T m) 0 T.length
  have e1 : sm (wY T (-m)) T.length = sm (fun i => 0 * 0 - wY T m i) T.length := sm_congr _ fun i _ => by
    simp only [wY]
    have e : -(-m) * (i : Int) = -(-m * i) := by rw [Int.neg_mul]
    rw [e, wayI_neg, Int.mul_neg]; omega
  simp only [zY]
  rw [e1, e0]; omega

theorem zX_opp (T : List Int) (m : Int) : zX (opp T) m = -zX T m := by
  have e0 := sm_lin (fun _ => 0) (wX T m) 0 T.length
  simp only [zX]
  rw [opp_len]
  have e1 : sm (wX (opp T) m) T.length = sm (fun i => 0 * 0 - wX T m i) T.length := sm_congr _ fun i hi => by
    simp only [wX]
    rw [opp_get hi, Int.neg_mul]; omega
  rw [e1, e0]; omega

theorem zY_opp (T : List Int) (m : Int) : zY (opp T) m = -zY T m := by
  have e0 := sm_lin (fun _ => 0) (wY T m) 0 T.length
  simp only [zY]
  rw [opp_len]
  have e1 : sm (wY (opp T) m) T.length = sm (fun i => 0 * 0 - wY T m i) T.length := sm_congr _ fun i hi => by
    simp only [wY]
    rw [opp_get hi, Int.neg_mul]; omega
  rw [e1, e0]; omega

theorem value_bd {T : List Int} {g : Int} (h : GoodLoop T g) (m : Int) : okBall (valueI T g m).1 (valueI T g m).2.1 (valueI T g m).2.2.1 := by
  have h0 := valueR_le h m
  have h1 := sX_le h m (Nat.le_refl T.length)
  have h2 := sY_le h m (Nat.le_refl T.length)
  have h3 := mulg h1.1 h1.2 h.gain0 h.gain1
  have h4 := mulg h2.1 h2.2 h.gain0 h.gain1
  refine ⟨?_, ?_, by omega⟩
  · simp only [valueI, fRound]; omega
  · simp only [valueI, fRound]; omega

theorem arc_bd {T : List Int} {g a b : Int} (h : GoodLoop T g) (ha : 0 ≤ a ∧ a ≤ b ∧ b ≤ 2048) : okBall (arcI T g a b).1 (arcI T g a b).2.1 (arcI T g a b).2.2.1 := by
  have h0 := valueR_le h ((a + b) / 2)
  have h1 := value_bd h ((a + b) / 2)
  have h2 := (slopes_le h ha).2.2
  simp only [okBall, arcI, fCeil] at h1 ⊢
  omega

theorem mir_minus {T : List Int} {g : Int} (h : GoodLoop T g) (m : Int) : fMeets (valueI T g m).1 (valueI T g m).2.1 (valueI T g m).2.2.1 (valueI T g (-m)).1 (-(valueI T g (-m)).2.1) (valueI T g (-m)).2.2.1 = true := by
  have h1 := value_in h m
  have h2 := value_in h (-m)
  rw [zX_neg, zY_neg, Int.neg_mul] at h2
  simp only [inB] at h1 h2
  simp only [fMeets, decide_eq_true_eq]
  omega

theorem mir_opp {T : List Int} {g : Int} (h : GoodLoop T g) (m : Int) : fMeets (valueI T g m).1 (valueI T g m).2.1 (valueI T g m).2.2.1 (-(valueI (opp T) g m).1) (-(valueI (opp T) g m).2.1) (valueI (opp T) g m).2.2.1 = true := by
  have h1 := value_in h m
  have h2 := value_in (good_opp h) m
  rw [zX_opp, zY_opp, Int.neg_mul, Int.neg_mul] at h2
  simp only [inB] at h1 h2
  simp only [fMeets, decide_eq_true_eq]
  omega

theorem mir_arc {T : List Int} {g a b m : Int} (h : GoodLoop T g) (hab : 0 ≤ a ∧ a ≤ b ∧ b ≤ 2048) (h1 : a ≤ m) (h2 : m ≤ b) : fMeets (arcI T g a b).1 (arcI T g a b).2.1 (arcI T g a b).2.2.1 (valueI T g m).1 (valueI T g m).2.1 (valueI T g m).2.2.1 = true := by
  have h3 := value_in h m
  have h4 := arc_in h hab h1 h2
  have h5 := value_bd h m
  simp only [inB, okBall] at h3 h4 h5
  simp only [fMeets, decide_eq_true_eq]
  omega

theorem vaOk {T : List Int} {g m : Int} (h : fCheckLoop T g = 0) (hm : -1000000 ≤ m ∧ m ≤ 1000000) : fValueAt T g m = (valueI T g m, 0) := by
  have hd : decide (-1000000 ≤ m ∧ m ≤ 1000000) = true := decide_eq_true hm
  have e : vaErr T g m = 0 := by simp only [vaErr]; rw [if_pos h, hd]; rfl
  simp only [fValueAt]; rw [if_pos e]
theorem vaBad1 {T : List Int} {g m : Int} (h : ¬ fCheckLoop T g = 0) : fValueAt T g m = ((0, 0, 0, ()), fCheckLoop T g) := by
  have e : vaErr T g m = fCheckLoop T g := by simp only [vaErr]; rw [if_neg h]
  simp only [fValueAt]; rw [e, if_neg h]
theorem abOk {T : List Int} {g a b : Int} (h : fCheckLoop T g = 0) (hab : fArcErr a b = 0) : fArcBall T g a b = (arcI T g a b, 0) := by
  have e : abErr T g a b = 0 := by simp only [abErr]; rw [if_pos h, hab]
  simp only [fArcBall]; rw [if_pos e]
theorem abBad {T : List Int} {g a b : Int} (h : fCheckLoop T g = 0) (hab : ¬ fArcErr a b = 0) : fArcBall T g a b = ((0, 0, 0, ()), fArcErr a b) := by
  have e : abErr T g a b = fArcErr a b := by simp only [abErr]; rw [if_pos h]
  simp only [fArcBall]; rw [e, if_neg hab]

@[reducible] def sLoopMirrors : Spec := { pats := [.dat LoopT, .dat I64, .dat ArcT], res := [{ t := .bool }], pre := fun _ => True, f := fun _ => (true, ()) }
def lmAnn (T : List Int) : LoopAnn := { σ := Nat, pat := fun k => sI 12 k :: sOwn 11 60011 3 (tab (fun i => -(T.getD i 0)) k), inv := fun k => k ≤ T.length, meas := fun k => T.length - k }

end Go.Eng.Lp
