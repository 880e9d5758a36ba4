/- Plain laws of deciding: the arcs that are kept are a chain where nothing stays open; small loops leave nothing open; what is tried. Conditions: right loops. -/
import Derived.Test.YtdphhjibkjlmcaaL26
import Derived.Test.YtdphhjibkjlmcaaP5
namespace Go.Eng.Lp
set_option linter.all false
set_option maxRecDepth 100000

def halveK (T : List Int) (g : Int) : Nat → Int → Int → List AA × List AA → List AA × List AA
  | 0, _, _, s => s
  | n + 1, a, b, s => if clearA T g a b = true then (s.1 ++ [(a, b, ())], s.2)
    else if 4 < b - a then halveK T g n ((a + b) / 2) b (halveK T g n a ((a + b) / 2) s) else (s.1, s.2 ++ [(a, b, ())])

theorem halveK_len (T : List Int) (g : Int) : ∀ (n : Nat) (a b : Int) (s : List AA × List AA), (halveK T g n a b s).1.length + (halveK T g n a b s).2.length ≤ s.1.length + s.2.length + 2 ^ n
  | 0, a, b, s => by simp only [halveK]; omega
  | n + 1, a, b, s => by
    have hp : 0 < 2 ^ n := Nat.two_pow_pos n
    simp only [halveK]
    split
    · simp only [List.length_append, List.length_cons, List.length_nil]; omega
    · split
      · have h1 := halveK_len T g n ((a + b) / 2) b (halveK T g n a ((a + b) / 2) s)
        have h2 := halveK_len T g n a ((a + b) / 2) s
        omega
      · simp only [List.length_append, List.length_cons, List.length_nil]; omega

/-- What halving adds. -/
def halveF (T : List Int) (g : Int) : Nat → Int → Int → List AA × List AA
  | 0, _, _ => ([], [])
  | n + 1, a, b => if clearA T g a b = true then ([(a, b, ())], [])
    else if 4 < b - a then ((halveF T g n a ((a + b) / 2)).1 ++ (halveF T g n ((a + b) / 2) b).1, (halveF T g n a ((a + b) / 2)).2 ++ (halveF T g n ((a + b) / 2) b).2) else ([], [(a, b, ())])

theorem halve_eq (T : List Int) (g : Int) : ∀ (n : Nat) (a b : Int) (s : List AA × List AA), halveK T g n a b s = (s.1 ++ (halveF T g n a b).1, s.2 ++ (halveF T g n a b).2)
  | 0, a, b, s => by simp [halveK, halveF]
  | n + 1, a, b, s => by
    simp only [halveK, halveF]
    split
    · simp
    · split
      · rw [halve_eq T g n ((a + b) / 2) b, halve_eq T g n a]; simp
      · simp

theorem arcErr0 {a b : Int} (h : 0 ≤ a ∧ a ≤ b ∧ b ≤ 2048) : fArcErr a b = 0 := by
  simp only [fArcErr]
  rw [if_pos ⟨⟨h.1, by omega⟩, by omega, h.2.2⟩, if_pos h.2.1]

/-- Where nothing stays open the arcs that are kept are a chain. -/
theorem halve_chain {T : List Int} {g : Int} : ∀ (n k : Nat) (a b : Int) (r : List AA), k < n → b - a = 2 ^ (k + 2) → (0 ≤ a ∧ a ≤ b ∧ b ≤ 2048) → (halveF T g n a b).2 = [] → arcsE T g a ((halveF T g n a b).1 ++ r) = arcsE T g b r
  | 0, k, a, b, r, hk, _, _, _ => by omega
  | n + 1, k, a, b, r, hk, hab, h, ho => by
    simp only [halveF] at ho ⊢
    by_cases hc : clearA T g a b = true
    · rw [if_pos hc] at ho ⊢
      simp only [List.cons_append, List.nil_append, arcsE]
      rw [if_neg (by rw [arcErr0 h]; decide), if_neg (by omega), if_pos hc]
    · rw [if_neg hc] at ho ⊢
      by_cases h4 : 4 < b - a
      · rw [if_pos h4] at ho ⊢
        simp only [List.append_eq_nil_iff] at ho
        have hk0 : k ≠ 0 := by rintro rfl; simp at hab; omega
        obtain ⟨j, rfl⟩ := Nat.exists_eq_succ_of_ne_zero hk0
        have hp : (2 : Int) ^ (j.succ + 2) = 2 * 2 ^ (j + 2) := by rw [Nat.succ_eq_add_one, show j + 1 + 2 = (j + 2) + 1 by omega, Int.pow_succ]; omega
        rw [hp] at hab
        have hm : (a + b) / 2 = a + 2 ^ (j + 2) := by omega
        have hpos : (0 : Int) < 2 ^ (j + 2) := Int.pow_pos (by decide)
        rw [hm] at ho ⊢
        simp only [List.append_assoc]
        rw [halve_chain n j a (a + 2 ^ (j + 2)) _ (by omega) (by omega) (by omega) ho.1, halve_chain n j (a + 2 ^ (j + 2)) b r (by omega) (by omega) (by omega) ho.2]
      · rw [if_neg h4] at ho
        cases ho

/-- So many arcs at most. -/
theorem halve_few {T : List Int} {g : Int} : ∀ (n k : Nat) (a b : Int), b - a = 2 ^ (k + 2) → (halveF T g n a b).1.length + (halveF T g n a b).2.length ≤ 2 ^ k
  | 0, k, a, b, _ => by simp [halveF]
  | n + 1, k, a, b, hab => by
    have hp1 : 0 < 2 ^ k := Nat.two_pow_pos k
    simp only [halveF]
    by_cases hc : clearA T g a b = true
    · rw [if_pos hc]; simp; omega
    · rw [if_neg hc]
      by_cases h4 : 4 < b - a
      · rw [if_pos h4]
        have hk0 : k ≠ 0 := by rintro rfl; simp at hab; omega
        obtain ⟨j, rfl⟩ := Nat.exists_eq_succ_of_ne_zero hk0
        have hp : (2 : Int) ^ (j.succ + 2) = 2 * 2 ^ (j + 2) := by rw [Nat.succ_eq_add_one, show j + 1 + 2 = (j + 2) + 1 by omega, Int.pow_succ]; omega
        rw [hp] at hab
        have hm : (a + b) / 2 = a + 2 ^ (j + 2) := by omega
        rw [hm]
        have h1 := halve_few (T := T) (g := g) n j a (a + 2 ^ (j + 2)) (by omega)
        have h2 := halve_few (T := T) (g := g) n j (a + 2 ^ (j + 2)) b (by omega)
        have e : 2 ^ j.succ = 2 * 2 ^ j := by rw [Nat.pow_succ]; omega
        simp only [List.length_append]
        omega
      · rw [if_neg h4]; simp; omega

/-- The arcs that stay open are right. -/
theorem halve_open {T : List Int} {g : Int} : ∀ (n : Nat) (a b : Int), (0 ≤ a ∧ a ≤ b ∧ b ≤ 2048) → ∀ x ∈ (halveF T g n a b).2, 0 ≤ x.1 ∧ x.1 ≤ x.2.1 ∧ x.2.1 ≤ 2048
  | 0, a, b, _ => by simp [halveF]
  | n + 1, a, b, h => by
    intro x hx
    simp only [halveF] at hx
    split at hx
    · cases hx
    · split at hx
      · rcases List.mem_append.1 hx with hx | hx
        · exact halve_open n a ((a + b) / 2) (by omega) x hx
        · exact halve_open n ((a + b) / 2) b (by omega) x hx
      · simp only [List.mem_singleton] at hx
        subst hx
        exact h

/-! ### What is tried -/

/-- The arcs of two neighbours that meet. -/
def joinK (os : List AA) : Nat → List AA
  | 0 => []
  | k + 1 => joinK os k ++ (if k + 1 < os.length ∧ (os.getD k (0, 0, ())).2.1 = (os.getD (k + 1) (0, 0, ())).1 then [((os.getD k (0, 0, ())).1, (os.getD (k + 1) (0, 0, ())).2.1, ())] else [])
def triesK (os : List AA) : List AA := [(0, 0, ()), (2048, 2048, ())] ++ os ++ joinK os os.length

theorem joinK_len (os : List AA) : ∀ k, (joinK os k).length ≤ k
  | 0 => by simp [joinK]
  | k + 1 => by
    have := joinK_len os k
    simp only [joinK, List.length_append]
    split <;> simp <;> omega

def okA (x : AA) : Prop := 0 ≤ x.1 ∧ x.1 ≤ x.2.1 ∧ x.2.1 ≤ 2048

theorem joinK_ok {os : List AA} (h : ∀ x ∈ os, okA x) : ∀ k, ∀ x ∈ joinK os k, okA x
  | 0 => by simp [joinK]
  | k + 1 => by
    intro x hx
    simp only [joinK] at hx
    rcases List.mem_append.1 hx with hx | hx
    · exact joinK_ok h k x hx
    · split at hx
      · rename_i hk
        simp only [List.mem_singleton] at hx
        subst hx
        have hm : ∀ i, i < os.length → os.getD i (0, 0, ()) ∈ os := fun i hi => by
          rw [List.getD_eq_getElem?_getD, List.getElem?_eq_getElem hi]; exact List.getElem_mem hi
        have h1 := h _ (hm k (by omega))
        have h2 := h _ (hm (k + 1) hk.1)
        have := hk.2
        simp only [okA] at h1 h2 ⊢
        omega
      · cases hx

theorem triesK_ok {os : List AA} (h : ∀ x ∈ os, okA x) : ∀ x ∈ triesK os, okA x := by
  intro x hx
  simp only [triesK, List.mem_append, List.mem_cons, List.not_mem_nil, or_false] at hx
  rcases hx with ((rfl | rfl) | hx) | hx
  · simp [okA]
  · simp [okA]
  · exact h x hx
  · exact joinK_ok h _ x hx

/-! ### Small loops leave nothing open -/

theorem sm_le_mul {f h : Nat → Int} {c : Int} : ∀ k : Nat, (∀ i, i < k → f i ≤ c * h i) → sm f k ≤ c * sm h k
  | 0, _ => by simp [sm]
  | k + 1, H => by
    have h1 := sm_le_mul k (fun i hi => H i (by omega))
    have h2 := H k (by omega)
    simp only [sm, Int.mul_add]; omega

theorem small_clear {T : List Int} {g a b : Int} (h : GoodLoop T g) (hs : sizeI T g ≤ 900) (hab : 0 ≤ a ∧ a ≤ b ∧ b ≤ 2048) (h4 : b - a ≤ 4) : clearA T g a b = true := by
  have hg0 := h.gain0
  have hS := (sz_le h (Nat.le_refl T.length)).1
  -- the sum of the taps times the gain
  have hs : sSz T T.length * g ≤ 14745600 := by simp only [sizeI, fCeil] at hs; omega
  have hx : sm (vX T ((a + b) / 2)) T.length ≤ 1048576 * sSz T T.length := sm_le_mul T.length (fun i hi => by
    have h2 := unitI_le (-((a + b) / 2) * i)
    simp only [vX]
    have e : T.getD i 0 * (unitI (-((a + b) / 2) * i)).1 ≤ ((T.getD i 0 * (unitI (-((a + b) / 2) * i)).1).natAbs : Int) := by omega
    rw [Int.natAbs_mul] at e
    have := Int.mul_le_mul_of_nonneg_left (show (((unitI (-((a + b) / 2) * i)).1).natAbs : Int) ≤ 1048576 by omega) (show (0 : Int) ≤ ((T.getD i 0).natAbs : Int) by omega)
    push_cast at e
    omega)
  have hr : sm (vR T ((a + b) / 2)) T.length ≤ 2 * sSz T T.length := sm_le_mul T.length (fun i hi => by
    have h2 := unitI_le (-((a + b) / 2) * i)
    simp only [vR]
    have := Int.mul_le_mul_of_nonneg_left h2.2.2.2.2.2 (show (0 : Int) ≤ ((T.getD i 0).natAbs : Int) by omega)
    omega)
  have hl : sSlope T T.length ≤ 31 * sSz T T.length := sm_le_mul T.length (fun i hi => by
    have := Int.mul_le_mul_of_nonneg_right (show (i : Int) ≤ 31 by have := h.le; omega) (show (0 : Int) ≤ ((T.getD i 0).natAbs : Int) by omega)
    omega)
  have hxg := Int.mul_le_mul_of_nonneg_right hx hg0
  have hrg := Int.mul_le_mul_of_nonneg_right hr hg0
  have hlg := Int.mul_le_mul_of_nonneg_right hl hg0
  rw [Int.mul_assoc] at hxg hrg hlg
  have hl0 : 0 ≤ sSlope T T.length * g := (slopes_le h hab).1.1
  have b1 := arc_bd h hab
  have hv := valueR_le h ((a + b) / 2)
  simp only [okBall] at b1
  refine decide_eq_true ⟨by omega, .inr ?_⟩
  have hd : 0 ≤ b - (a + b) / 2 ∧ b - (a + b) / 2 ≤ 2 := by omega
  have hsw : sSlope T T.length * g * 6284 * (b - (a + b) / 2) ≤ 457113600 * 6284 * 2 := by
    have := Int.mul_le_mul (show sSlope T T.length * g * 6284 ≤ 457113600 * 6284 by omega) hd.2 hd.1 (by decide)
    omega
  have hrr : (valueI T g ((a + b) / 2)).2.2.1 ≤ 4 := by
    simp only [valueI, fCeil]
    split <;> omega
  have hxx : (valueI T g ((a + b) / 2)).1 ≤ 943720 := by
    simp only [valueI, fRound]; omega
  simp only [arcI, fCeil]
  omega

theorem small_open {T : List Int} {g : Int} (h : GoodLoop T g) (hs : sizeI T g ≤ 900) : ∀ (n k : Nat) (a b : Int), k < n → b - a = 2 ^ (k + 2) → (0 ≤ a ∧ a ≤ b ∧ b ≤ 2048) → (halveF T g n a b).2 = []
  | 0, k, a, b, hk, _, _ => by omega
  | n + 1, k, a, b, hk, hab, h0 => by
    simp only [halveF]
    split
    · rfl
    · rename_i hc
      split
      · rename_i h4
        have hk0 : k ≠ 0 := by rintro rfl; simp at hab; omega
        obtain ⟨j, rfl⟩ := Nat.exists_eq_succ_of_ne_zero hk0
        have hp : (2 : Int) ^ (j.succ + 2) = 2 * 2 ^ (j + 2) := by rw [Nat.succ_eq_add_one, show j + 1 + 2 = (j + 2) + 1 by omega, Int.pow_succ]; omega
        rw [hp] at hab
        have hm : (a + b) / 2 = a + 2 ^ (j + 2) := by omega
        have hpos : (0 : Int) < 2 ^ (j + 2) := Int.pow_pos (by decide)
        rw [hm]
        rw [small_open h hs n j a (a + 2 ^ (j + 2)) (by omega) (by omega) (by omega), small_open h hs n j (a + 2 ^ (j + 2)) b (by omega) (by omega) (by omega)]
        rfl
      · rename_i h4
        exact absurd (small_clear h hs h0 (by omega)) hc

/-! ### What is found -/

def keptI (T : List Int) (g : Int) : List AA := (halveF T g 10 0 2048).1
def openI (T : List Int) (g : Int) : List AA := (halveF T g 10 0 2048).2

/-- The first arc of some on which a loop rings. -/
def ringK (T : List Int) (g : Int) : List AA → Option AA
  | [] => none
  | a :: r => if fRings T g a.1 a.2.1 = true then some a else ringK T g r

abbrev DD := Int × List AA × AA × Unit
def decK (T : List Int) (g : Int) : DD :=
  if openI T g = [] then (2, keptI T g, (0, 0, ()), ()) else match ringK T g (triesK (openI T g)) with
    | some a => (0, [], a, ())
    | none => (1, [], (0, 0, ()), ())

theorem ringK_some {T : List Int} {g : Int} {x : AA} : ∀ {l : List AA}, ringK T g l = some x → x ∈ l ∧ fRings T g x.1 x.2.1 = true
  | [], h => by cases h
  | a :: r, h => by
    simp only [ringK] at h
    split at h
    · rename_i hr
      cases h
      exact ⟨List.mem_cons_self, hr⟩
    · obtain ⟨h1, h2⟩ := ringK_some h
      exact ⟨List.mem_cons_of_mem _ h1, h2⟩

theorem ringK_at {T : List Int} {g : Int} : ∀ (l : List AA) (i : Nat), i < l.length → (∀ j, j < i → fRings T g (l.getD j (0, 0, ())).1 (l.getD j (0, 0, ())).2.1 = false) → fRings T g (l.getD i (0, 0, ())).1 (l.getD i (0, 0, ())).2.1 = true → ringK T g l = some (l.getD i (0, 0, ()))
  | [], i, h, _, _ => by simp at h
  | a :: r, 0, h, _, h2 => by
    simp only [ringK]
    have h2 : fRings T g a.1 a.2.1 = true := h2
    rw [if_pos h2]; rfl
  | a :: r, i + 1, h, h1, h2 => by
    simp only [ringK]
    have h0 : fRings T g a.1 a.2.1 = false := h1 0 (by omega)
    rw [if_neg (by rw [h0]; decide)]
    exact ringK_at r i (by simp at h; omega) (fun j hj => h1 (j + 1) (by omega)) h2

theorem ringK_none {T : List Int} {g : Int} : ∀ (l : List AA), (∀ j, j < l.length → fRings T g (l.getD j (0, 0, ())).1 (l.getD j (0, 0, ())).2.1 = false) → ringK T g l = none
  | [], _ => rfl
  | a :: r, h => by
    simp only [ringK]
    have h0 : fRings T g a.1 a.2.1 = false := h 0 (by simp)
    rw [if_neg (by rw [h0]; decide)]
    exact ringK_none r (fun j hj => h (j + 1) (by simp; omega))

theorem kept_chain {T : List Int} {g : Int} (ho : openI T g = []) : arcsE T g 0 (keptI T g) = 0 := by
  have := halve_chain (T := T) (g := g) 10 9 0 2048 [] (by decide) (by decide) (by decide) ho
  rw [List.append_nil] at this
  exact this.trans rfl

theorem kept_few (T : List Int) (g : Int) : (keptI T g).length + (openI T g).length ≤ 512 := halve_few 10 9 0 2048 (by decide)
theorem open_ok (T : List Int) (g : Int) : ∀ x ∈ openI T g, okA x := halve_open 10 0 2048 (by decide)

theorem small_yes {T : List Int} {g : Int} (h : GoodLoop T g) (hs : sizeI T g ≤ 900) : openI T g = [] := small_open h hs 10 9 0 2048 (by decide) (by decide) (by decide)

end Go.Eng.Lp
