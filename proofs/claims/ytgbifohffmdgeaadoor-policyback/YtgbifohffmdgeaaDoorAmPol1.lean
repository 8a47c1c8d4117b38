import Derived.Test.YtgbifohffmdgeaaDoorAmIrPolD
import Derived.Test.YtgbifohffmdgeaaDoorAmAr
import Derived.Test.YtgbifohffmdgeaaDoorAmRefK
set_option linter.all false
/- The clock: years and months. -/
section
namespace Am.Pol
open Am Go Am.Ir
set_option maxRecDepth 100000
attribute [local simp] ox oz kx kz og ogz kg kgz mo ai

/-- Leap years up to a year. -/
def upN (y : Nat) : Nat := y / 4 - y / 100 + y / 400
/-- The first day of a year. -/
def ydN (y : Nat) : Nat := (y - 2000) * 365 + (upN (y - 1) - 484)
def leapB (y : Nat) : Bool := y % 400 == 0 || (y % 4 == 0 && y % 100 != 0)
/-- How many days a month has. -/
def daysN (y m : Nat) : Nat := if m = 2 then (if leapB y = true then 29 else 28) else if m = 4 ∨ m = 6 ∨ m = 9 ∨ m = 11 then 30 else 31

def xUp : Model := exM (orc []) clock_leaps_1 10

theorem up_ok (y : Nat) (hy : y < 1000000) (S : St) : xUp [.int .i64 (y : Int)] S = some (.int .i64 (upN y : Int), S) := by
  have h1 : binA .quo (.int .i64 (y : Int)) (.int .i64 4) = some (.int .i64 ((y / 4 : Nat) : Int)) := by rw [quo_i (by omega) (by omega) (by omega)]; simp
  have h2 : binA .quo (.int .i64 (y : Int)) (.int .i64 100) = some (.int .i64 ((y / 100 : Nat) : Int)) := by rw [quo_i (by omega) (by omega) (by omega)]; simp
  have h3 : binA .quo (.int .i64 (y : Int)) (.int .i64 400) = some (.int .i64 ((y / 400 : Nat) : Int)) := by rw [quo_i (by omega) (by omega) (by omega)]; simp
  have h4 : binA .sub (.int .i64 ((y / 4 : Nat) : Int)) (.int .i64 ((y / 100 : Nat) : Int)) = some (.int .i64 ((y / 4 - y / 100 : Nat) : Int)) := sub_is (by omega) (by omega) (by omega)
  have h5 : binA .add (.int .i64 ((y / 4 - y / 100 : Nat) : Int)) (.int .i64 ((y / 400 : Nat) : Int)) = some (.int .i64 (upN y : Int)) := add_is (by unfold upN; omega) (by unfold upN; omega) (by unfold upN; omega)
  generalize (y : Int) = y0 at *
  generalize ((y / 4 : Nat) : Int) = a1 at *
  generalize ((y / 100 : Nat) : Int) = a2 at *
  generalize ((y / 400 : Nat) : Int) = a3 at *
  generalize ((y / 4 - y / 100 : Nat) : Int) = a4 at *
  simp [xUp, clock_leaps_1, exM, orc, orcD, evF, evC, evOps, evOper, evAny, evOp, evCall, putR, putA, Fr.ev, Fr.of, Fr.get, Fr.set, stable, junkA, junkL, resultsA, resA, same, h1, h2, h3, h4, h5]

/-- The code of leaps, whatever number the inner function bears. -/
def leapsF (g : Nat) : AFun :=
  ⟨1, [.inl 2], (.seq (.region none [ox 2 (.mv (ai 0))]) (.seq (.region none [ox 3 (.mv (.c (.fn (Fn.func g) [] [])))])
    (.seq (.region none [mo 4 3, mo 5 0, ox 6 (.bin .sub (.t 5) (ai 1)),
    kx 7 (.v (.t 4) [.t 6]), mo 8 3, kx 9 (.v (.t 8) [ai 1999]),
    ox 10 (.bin .sub (.t 7) (.t 9)), mo 2 10]) .ret))), false⟩

theorem leapsD : clock_leaps = leapsF 100 := rfl

def xLeaps (g : Nat) : Model := exM (orcD [] [(g, xUp)] []) (leapsF g) 10

theorem leaps_ok (g : Nat) (y : Nat) (hy : y < 1000000) (h0 : 2000 ≤ y) (S : St) : xLeaps g [.int .i64 (y : Int)] S = some (.int .i64 ((upN (y - 1) - 484 : Nat) : Int), S) := by
  have h1 : binA .sub (.int .i64 (y : Int)) (.int .i64 1) = some (.int .i64 ((y - 1 : Nat) : Int)) := sub_is (by omega) (by omega) (by omega)
  have h2 := up_ok (y - 1) (by omega) S
  have h3 : xUp [.int .i64 1999] S = some (.int .i64 484, S) := up_ok 1999 (by omega) S
  have h4 : binA .sub (.int .i64 (upN (y - 1) : Int)) (.int .i64 484) = some (.int .i64 ((upN (y - 1) - 484 : Nat) : Int)) := sub_is (by unfold upN; omega) (by unfold upN; omega) (by unfold upN; omega)
  generalize ((y - 1 : Nat) : Int) = a1 at *
  generalize (upN (y - 1) : Int) = a2 at *
  simp [xLeaps, leapsF, exM, orc, orcD, evF, evC, evOps, evOper, evAny, evOp, evCall, putR, putA, Fr.ev, Fr.of, Fr.get, Fr.set, stable, junkA, junkL, resultsA, resA, same, h1, h2, h3, h4, pickD]

def xYearDay (g : Nat) : Model := exM (orc [xLeaps g]) clock_yearDay 10

theorem yearDay_ok (g : Nat) (y : Nat) (hy : y < 1000000) (h0 : 2000 ≤ y) (S : St) : xYearDay g [.int .i64 (y : Int)] S = some (.int .i64 (ydN y : Int), S) := by
  have h1 : binA .sub (.int .i64 (y : Int)) (.int .i64 2000) = some (.int .i64 ((y - 2000 : Nat) : Int)) := sub_is (by omega) (by omega) (by omega)
  have h2 : binA .mul (.int .i64 ((y - 2000 : Nat) : Int)) (.int .i64 365) = some (.int .i64 (((y - 2000) * 365 : Nat) : Int)) := mul_is (by omega) (by omega) (by omega)
  have h3 := leaps_ok g y hy h0 S
  have h4 : binA .add (.int .i64 (((y - 2000) * 365 : Nat) : Int)) (.int .i64 ((upN (y - 1) - 484 : Nat) : Int)) = some (.int .i64 (ydN y : Int)) := add_is (by unfold ydN; omega) (by unfold ydN upN; omega) (by unfold ydN upN; omega)
  generalize ((y - 2000 : Nat) : Int) = a1 at *
  generalize (((y - 2000) * 365 : Nat) : Int) = a2 at *
  generalize ((upN (y - 1) - 484 : Nat) : Int) = a3 at *
  simp [xYearDay, clock_yearDay, exM, orc, orcD, evF, evC, evOps, evOper, evAny, evOp, evCall, putR, putA, Fr.ev, Fr.of, Fr.get, Fr.set, stable, junkA, junkL, resultsA, resA, same, h1, h2, h3, h4]

def xIsLeap : Model := exM (orc []) clock_isLeap 10

theorem isLeap_ok (y : Nat) (hy : y < 1000000) (S : St) : xIsLeap [.int .i64 (y : Int)] S = some (.bool (leapB y), S) := by
  have h1 : binA .rem (.int .i64 (y : Int)) (.int .i64 400) = some (.int .i64 ((y % 400 : Nat) : Int)) := by rw [rem_i (by omega) (by omega)]; simp
  have h2 : binA .rem (.int .i64 (y : Int)) (.int .i64 4) = some (.int .i64 ((y % 4 : Nat) : Int)) := by rw [rem_i (by omega) (by omega)]; simp
  have h3 : binA .rem (.int .i64 (y : Int)) (.int .i64 100) = some (.int .i64 ((y % 100 : Nat) : Int)) := by rw [rem_i (by omega) (by omega)]; simp
  have e1 : binA .eql (.int .i64 ((y % 400 : Nat) : Int)) (.int .i64 0) = some (.bool (y % 400 == 0)) := by
    by_cases h : y % 400 = 0
    · rw [eql_t (by omega)]; simp [h]
    · rw [eql_f (by omega)]; simp [h]
  have e2 : binA .eql (.int .i64 ((y % 4 : Nat) : Int)) (.int .i64 0) = some (.bool (y % 4 == 0)) := by
    by_cases h : y % 4 = 0
    · rw [eql_t (by omega)]; simp [h]
    · rw [eql_f (by omega)]; simp [h]
  have e3 : binA .neq (.int .i64 ((y % 100 : Nat) : Int)) (.int .i64 0) = some (.bool (y % 100 != 0)) := by
    by_cases h : y % 100 = 0
    · rw [neq_f (by omega)]; simp [h]
    · rw [neq_t (by omega)]; simp [h]
  unfold leapB
  generalize ((y % 400 : Nat) : Int) = a1 at *
  generalize ((y % 4 : Nat) : Int) = a2 at *
  generalize ((y % 100 : Nat) : Int) = a3 at *
  generalize (y % 400 == 0) = b1 at *
  generalize (y % 4 == 0) = b2 at *
  generalize (y % 100 != 0) = b3 at *
  generalize (y : Int) = y0 at *
  cases b1 <;> cases b2 <;> cases b3 <;> simp [xIsLeap, clock_isLeap, exM, orc, orcD, evF, evC, evOps, evOper, evAny, evOp, evCall, putR, putA, Fr.ev, Fr.of, Fr.get, Fr.set, stable, junkA, junkL, resultsA, resA, same, h1, h2, h3, e1, e2, e3]

theorem eql_g {k : IntKind} (a b : Int) : binA .eql (.int k a) (.int k b) = some (.bool (decide (a = b))) := by by_cases h : a = b <;> simp [binA, intBin, h]

def xDays : Model := exM (orc [xIsLeap]) clock_Days 10

theorem days_ok (y m : Nat) (hy : 2000 ≤ y) (hy' : y ≤ 2199) (hm : 1 ≤ m) (hm' : m ≤ 12) (S : St) : xDays [.int .i64 (y : Int), .int .i64 (m : Int)] S = some (.int .i64 (daysN y m : Int), S) := by
  have h1 : binA .lss (.int .i64 (y : Int)) (.int .i64 2000) = some (.bool false) := lss_f (by omega)
  have h2 : binA .gtr (.int .i64 (y : Int)) (.int .i64 2199) = some (.bool false) := gtr_f (by omega)
  have h3 := isLeap_ok y (by omega) S
  unfold daysN
  generalize leapB y = b at *
  generalize (y : Int) = y0 at *
  have : m = 1 ∨ m = 2 ∨ m = 3 ∨ m = 4 ∨ m = 5 ∨ m = 6 ∨ m = 7 ∨ m = 8 ∨ m = 9 ∨ m = 10 ∨ m = 11 ∨ m = 12 := by omega
  rcases this with rfl | rfl | rfl | rfl | rfl | rfl | rfl | rfl | rfl | rfl | rfl | rfl
  case inr.inl => cases b <;> simp [xDays, clock_Days, exM, orc, orcD, evF, evC, evOps, evOper, evAny, evOp, evCall, putR, putA, Fr.ev, Fr.of, Fr.get, Fr.set, stable, junkA, junkL, resultsA, resA, same, h1, h2, h3, eql_g]
  all_goals simp [xDays, clock_Days, exM, orc, orcD, evF, evC, evOps, evOper, evAny, evOp, evCall, putR, putA, Fr.ev, Fr.of, Fr.get, Fr.set, stable, junkA, junkL, resultsA, resA, same, h1, h2, eql_g]
attribute [irreducible] ydN daysN
end Am.Pol
end

/- The clock: a day's year and month. -/
section
namespace Am.Pol
open Am Go Am.Ir
set_option maxRecDepth 100000
attribute [local simp] ox oz kx kz og ogz kg kgz mo ai

/-- Months since the first one: how many days. -/
def mlen (q : Nat) : Nat := daysN (2000 + q / 12) (q % 12 + 1)
def sumR (q : Nat) : Nat → Nat
  | 0 => 0
  | n + 1 => sumR q n + mlen (q + n)

/-- A day's month and what is left, of the months from one on. -/
def mof : Nat → Nat → Nat → Nat × Nat
  | 0, q, left => (q, left)
  | k + 1, q, left => if left < mlen q then (q, left) else mof k (q + 1) (left - mlen q)

theorem mlen_year : ∀ y : Nat, y < 200 → ydN (2000 + y) + sumR (y * 12) 12 = ydN (2000 + (y + 1)) := by decide +kernel
theorem ydN_step : ∀ y : Nat, y < 200 → ydN (2000 + y) + 365 ≤ ydN (2000 + (y + 1)) ∧ ydN (2000 + (y + 1)) ≤ ydN (2000 + y) + 366 := by decide +kernel
theorem ydN_0 : ydN (2000 + 0) = 0 := by unfold ydN; rfl

theorem mof_skip {k q left : Nat} (h : mlen q ≤ left) : mof (k + 1) q left = mof k (q + 1) (left - mlen q) := by
  rw [mof, if_neg (by omega)]

theorem mof_run : ∀ (n k q left : Nat), sumR q n ≤ left → mof (k + n) q left = mof k (q + n) (left - sumR q n)
  | 0, _, _, _, _ => rfl
  | n + 1, k, q, left, h => by
    simp only [sumR] at h ⊢
    rw [show k + (n + 1) = (k + 1) + n by omega, mof_run n (k + 1) q left (by omega), mof_skip (by omega), Nat.sub_sub]; rfl

theorem find_stop : ∀ (n q left : Nat), left < sumR q n → ∃ j, j < n ∧ sumR q j ≤ left ∧ left < sumR q j + mlen (q + j)
  | 0, _, _, h => by simp [sumR] at h
  | n + 1, q, left, h => by
    by_cases h1 : left < sumR q n
    · obtain ⟨j, a, b, c⟩ := find_stop n q left h1
      exact ⟨j, by omega, b, c⟩
    · exact ⟨n, by omega, by omega, h⟩

theorem sumR_mono (q : Nat) : ∀ (i j : Nat), i ≤ j → sumR q i ≤ sumR q j
  | i, 0, h => by have : i = 0 := by omega
                  subst this; exact Nat.le_refl _
  | i, j + 1, h => by
    by_cases e : i = j + 1
    · subst e; exact Nat.le_refl _
    · have := sumR_mono q i j (by omega)
      simp only [sumR]; omega

theorem ydN_mono : ∀ (b a : Nat), a ≤ b → b ≤ 200 → ydN (2000 + a) ≤ ydN (2000 + b)
  | 0, a, h, _ => by have : a = 0 := by omega
                     subst this; exact Nat.le_refl _
  | b + 1, a, h, hb => by
    by_cases e : a = b + 1
    · subst e; exact Nat.le_refl _
    · have h1 := ydN_mono b a (by omega) (by omega)
      have h2 := ydN_step b (by omega)
      omega

theorem ydN_366 : ∀ (b : Nat), b ≤ 200 → ydN (2000 + b) ≤ 366 * b
  | 0, _ => by rw [ydN_0]; omega
  | b + 1, hb => by
    have h1 := ydN_366 b (by omega)
    have h2 := ydN_step b (by omega)
    omega

theorem find_year : ∀ (n day : Nat), n ≤ 200 → day < ydN (2000 + n) → ∃ y, y < n ∧ ydN (2000 + y) ≤ day ∧ day < ydN (2000 + (y + 1))
  | 0, day, _, h => by rw [ydN_0] at h; omega
  | n + 1, day, hn, h => by
    by_cases h1 : day < ydN (2000 + n)
    · obtain ⟨y, a, b, c⟩ := find_year n day (by omega) h1
      exact ⟨y, by omega, b, c⟩
    · exact ⟨n, by omega, by omega, h⟩

theorem mof_end (k : Nat) : ∀ (q left : Nat), (mof k q left).1 ≤ q + k := by
  induction k with
  | zero => intro q left; simp [mof]
  | succ k ih =>
    intro q left
    rw [mof]; split
    · simp
    · have := ih (q + 1) (left - mlen q); omega

attribute [irreducible] mof sumR mlen

/-- Whole years are skipped. -/
theorem mof_years (y : Nat) : ∀ (k day : Nat), y ≤ 200 → ydN (2000 + y) ≤ day → mof (k + 12 * y) 0 day = mof k (y * 12) (day - ydN (2000 + y)) := by
  induction y with
  | zero => intro k day _ h; rw [ydN_0]; simp
  | succ y ih =>
    intro k day hy h
    have h1 := ydN_step y (by omega)
    have h2 := mlen_year y (by omega)
    have e1 : k + 12 * (y + 1) = (k + 12) + 12 * y := by omega
    have e2 := ih (k + 12) day (by omega) (by omega)
    have e3 := mof_run 12 k (y * 12) (day - ydN (2000 + y)) (by omega)
    have e4 : y * 12 + 12 = (y + 1) * 12 := by omega
    have e5 : day - ydN (2000 + y) - sumR (y * 12) 12 = day - ydN (2000 + (y + 1)) := by omega
    rw [e1, e2, e3, e4, e5]

/-- A day's year, month and what is left. -/
structure YM (day y j l : Nat) : Prop where
  hy : y < 200
  hj : j < 12
  lo : ydN (2000 + y) ≤ day
  hi : day < ydN (2000 + (y + 1))
  le : sumR (y * 12) j ≤ day - ydN (2000 + y)
  lt : l < mlen (y * 12 + j)
  eq : l = day - ydN (2000 + y) - sumR (y * 12) j

theorem ym_find {day : Nat} (h : day < ydN 2200) : ∃ y j l, YM day y j l := by
  obtain ⟨y, h1, h2, h3⟩ := find_year 200 day (by omega) h
  have h4 := mlen_year y h1
  obtain ⟨j, h5, h6, h7⟩ := find_stop 12 (y * 12) (day - ydN (2000 + y)) (by omega)
  exact ⟨y, j, _, h1, h5, h2, h3, h6, by omega, rfl⟩

theorem YM.mof {day y j l : Nat} (h : YM day y j l) : mof 2400 0 day = (y * 12 + j, l) := by
  have hy := h.hy
  have hj := h.hj
  have hlt := h.lt
  rw [show 2400 = (2400 - 12 * y) + 12 * y by omega, mof_years y _ day (by omega) h.lo]
  rw [show 2400 - 12 * y = (2400 - 12 * y - j) + j by omega, mof_run j _ _ _ h.le, ← h.eq]
  rw [show 2400 - 12 * y - j = (2400 - 12 * y - j - 1) + 1 by omega, Pol.mof, if_pos hlt]

theorem mof_late {day : Nat} (h : ydN 2200 ≤ day) : (mof 2400 0 day).1 = 2400 := by
  have := mof_years 200 0 day (by omega) h
  rw [show 2400 = 0 + 12 * 200 by omega, this, Pol.mof]

theorem YM.month {day y j l : Nat} (h : YM day y j l) : mlen (y * 12 + j) = daysN (2000 + y) (j + 1) := by
  have hj := h.hj
  unfold mlen
  rw [show (y * 12 + j) / 12 = y by omega, show (y * 12 + j) % 12 = j by omega]

theorem mlen_at {y j : Nat} (hj : j < 12) : mlen (y * 12 + j) = daysN (2000 + y) (j + 1) := by
  unfold mlen
  rw [show (y * 12 + j) / 12 = y by omega, show (y * 12 + j) % 12 = j by omega]

theorem daysN_31 (y m : Nat) : daysN y m ≤ 31 := by
  unfold daysN
  repeat' split
  all_goals omega
end Am.Pol
end

/- The clock: Split, as the program does it; a time's slot. -/
section
namespace Am.Pol
open Am Go Am.Ir
set_option maxRecDepth 100000
attribute [local simp] ox oz kx kz og ogz kg kgz mo ai

def xYearOf (g : Nat) : Model := exM (orc [xYearDay g]) clock_yearOf 1000

theorem yearOf_ok (g : Nat) {day y j l : Nat} (h : YM day y j l) (S : St) :
    xYearOf g [.int .i64 (day : Int)] S = some (.tup [.int .i64 ((2000 + y : Nat) : Int), .int .i64 ((day - ydN (2000 + y) : Nat) : Int)], S) := by
  have hy := h.hy
  have hlo := h.lo
  have hhi := h.hi
  have hb : ydN (2000 + (y + 1)) ≤ 366 * (y + 1) := ydN_366 (y + 1) (by omega)
  have hd : day / 366 ≤ y := by omega
  have hday : day < 80000 := by omega
  unfold xYearOf exM
  refine evF_post (F := clock_yearOf) rfl rfl ?_
  have h1 : binA .quo (.int .i64 (day : Int)) (.int .i64 366) = some (.int .i64 ((day / 366 : Nat) : Int)) := by rw [quo_i (by omega) (by omega) (by omega)]; simp
  have h2 : binA .add (.int .i64 2000) (.int .i64 ((day / 366 : Nat) : Int)) = some (.int .i64 ((2000 + day / 366 + 0 : Nat) : Int)) := add_is (by omega) (by omega) (by omega)
  obtain ⟨f', T', g1, g2⟩ := loop_post (O := orc [xYearDay g]) (k := 1000) (id := 0) (b := clock_yearOf_l0)
    (I := fun i f T => T = S ∧ f.get 0 = .int .i64 (day : Int) ∧ f.get 4 = .int .i64 ((2000 + day / 366 + i : Nat) : Int))
    (Q := fun f T => T = S ∧ f.get 0 = .int .i64 (day : Int) ∧ f.get 4 = .int .i64 ((2000 + y : Nat) : Int)) (y - day / 366) (by omega)
    (by
      rintro i hi f T ⟨rfl, k0, k4⟩
      have a1 : binA .add (.int .i64 ((2000 + day / 366 + i : Nat) : Int)) (.int .i64 1) = some (.int .i64 ((2000 + day / 366 + (i + 1) : Nat) : Int)) := add_is (by omega) (by omega) (by omega)
      have a2 := yearDay_ok g (2000 + day / 366 + (i + 1)) (by omega) (by omega) T
      have hm := ydN_mono y (day / 366 + (i + 1)) (by omega) (by omega)
      have a3 : binA .geq (.int .i64 (day : Int)) (.int .i64 (ydN (2000 + day / 366 + (i + 1)) : Int)) = some (.bool true) := geq_t (by rw [show 2000 + day / 366 + (i + 1) = 2000 + (day / 366 + (i + 1)) by omega]; omega)
      generalize ((2000 + day / 366 + (i + 1) : Nat) : Int) = z1 at *
      generalize ((2000 + day / 366 + i : Nat) : Int) = z2 at *
      generalize (ydN (2000 + day / 366 + (i + 1)) : Int) = z3 at *
      simp [clock_yearOf_l0, exM, orc, orcD, evF, evC, evOps, evOper, evAny, evOp, evCall, putR, putA, Fr.ev, Fr.of, Fr.get, Fr.set, stable, junkA, junkL, resultsA, resA, same, Fr.get_set, k0, k4, a1, a2, a3, Post_some])
    (by
      rintro f T ⟨rfl, k0, k4⟩
      rw [show 2000 + day / 366 + (y - day / 366) = 2000 + y by omega] at k4
      have a1 : binA .add (.int .i64 ((2000 + y : Nat) : Int)) (.int .i64 1) = some (.int .i64 ((2000 + (y + 1) : Nat) : Int)) := add_is (by omega) (by omega) (by omega)
      have a2 := yearDay_ok g (2000 + (y + 1)) (by omega) (by omega) T
      have a3 : binA .geq (.int .i64 (day : Int)) (.int .i64 (ydN (2000 + (y + 1)) : Int)) = some (.bool false) := geq_f (by omega)
      generalize ((2000 + (y + 1) : Nat) : Int) = z1 at *
      generalize ((2000 + y : Nat) : Int) = z2 at *
      generalize (ydN (2000 + (y + 1)) : Int) = z3 at *
      simp [clock_yearOf_l0, exM, orc, orcD, evF, evC, evOps, evOper, evAny, evOp, evCall, putR, putA, Fr.ev, Fr.of, Fr.get, Fr.set, stable, junkA, junkL, resultsA, resA, same, Fr.get_set, k0, k4, a1, a2, a3, Post_some])
    (f := [(0, .int .i64 (day : Int)), (2, .int .i64 0), (3, .int .i64 0), (5, .int .i64 (day : Int)), (6, .int .i64 ((day / 366 : Nat) : Int)), (7, .int .i64 ((2000 + day / 366 + 0 : Nat) : Int)), (4, .int .i64 ((2000 + day / 366 + 0 : Nat) : Int))])
    (S := S) ⟨rfl, by simp [Fr.get], by simp [Fr.get]⟩
  obtain ⟨rfl, k0, k4⟩ := g2
  have b1 := yearDay_ok g (2000 + y) (by omega) (by omega) T'
  have b2 : binA .sub (.int .i64 (day : Int)) (.int .i64 (ydN (2000 + y) : Int)) = some (.int .i64 ((day - ydN (2000 + y) : Nat) : Int)) := sub_is (by omega) (by omega) (by omega)
  simp only [clock_yearOf, clock_yearOf_t2, Post_seq]
  generalize ((2000 + day / 366 + 0 : Nat) : Int) = z1 at *
  generalize ((2000 + y : Nat) : Int) = z2 at *
  generalize ((day / 366 : Nat) : Int) = z3 at *
  generalize (ydN (2000 + y) : Int) = z4 at *
  generalize ((day - ydN (2000 + y) : Nat) : Int) = z5 at *
  generalize (day : Int) = z6 at *
  simp [exM, orc, orcD, evF, evC, evOps, evOper, evAny, evOp, evCall, putR, putA, Fr.ev, Fr.of, Fr.get, Fr.set, stable, junkA, junkL, resultsA, resA, same, h1, h2, Post_some]
  simp only [orc] at g1
  rw [show clock_yearOf_s1 = .block 0 (.loop clock_yearOf_l0) from rfl, g1]
  simp [exM, orc, orcD, evF, evC, evOps, evOper, evAny, evOp, evCall, putR, putA, Fr.ev, Fr.of, Fr.get, Fr.set, stable, junkA, junkL, resultsA, resA, same, Fr.get_set, k0, k4, b1, b2, Post_some]
end Am.Pol
end

/- The clock: Split, as the program does it. -/
section
namespace Am.Pol
open Am Go Am.Ir
set_option maxRecDepth 100000
attribute [local simp] ox oz kx kz og ogz kg kgz mo ai

theorem quo_u {a b : Nat} (ha : a < 18446744073709551616) (hb : 0 < b) : binA .quo (.int .u64 (a : Int)) (.int .u64 (b : Int)) = some (.int .u64 ((a / b : Nat) : Int)) := by
  have h1 : (a : Int).tdiv b = ((a / b : Nat) : Int) := by rw [Int.tdiv_eq_ediv_of_nonneg (by omega)]; simp
  have h2 : a / b ≤ a := Nat.div_le_self _ _
  have hb0 : (b : Int) ≠ 0 := by omega
  simp [binA, intBin, h1, hb0]
  rw [← Int.natCast_ediv, wrapU64 (by omega)]
  exact ⟨by omega, rfl⟩
theorem rem_u {a b : Nat} (hb : 0 < b) : binA .rem (.int .u64 (a : Int)) (.int .u64 (b : Int)) = some (.int .u64 ((a % b : Nat) : Int)) := by
  have h1 : (a : Int).tmod b = ((a % b : Nat) : Int) := by rw [Int.tmod_eq_emod_of_nonneg (by omega)]; simp
  have hb0 : (b : Int) ≠ 0 := by omega
  simp [binA, intBin, h1, hb0]
  omega
theorem add_u {a b : Nat} (h : a + b < 18446744073709551616) : binA .add (.int .u64 (a : Int)) (.int .u64 (b : Int)) = some (.int .u64 ((a + b : Nat) : Int)) := by
  have := wrapU64 h
  simp only [Int.natCast_add] at this ⊢
  simp [binA, intBin, this]

def zero6 : List AVal := [.int .i64 0, .int .i64 0, .int .i64 0, .int .i64 0, .int .i64 0, .int .i64 0]
def dateC (q l s : Nat) : List AVal :=
  [.int .i64 ((2000 + q / 12 : Nat) : Int), .int .i64 ((q % 12 + 1 : Nat) : Int), .int .i64 ((l + 1 : Nat) : Int), .int .i64 ((s / 3600 : Nat) : Int), .int .i64 ((s / 60 % 60 : Nat) : Int), .int .i64 ((s % 60 : Nat) : Int)]
/-- What Split says of a time. -/
def splitA (t : Nat) : AVal := if t / 86400 < 73049 then .tup [.agg (dateC (mof 2400 0 (t / 86400)).1 (mof 2400 0 (t / 86400)).2 (t % 86400)), .int .i64 0] else .tup [.agg zero6, .int .i64 4]

theorem ydN_2200 : ydN 2200 = 73049 := by unfold ydN; rfl

def oSplit (g : Nat) : Orc := orc [xYearDay g, xYearOf g, xDays]
def xSplit (g : Nat) : Model := exM (oSplit g) clock_Split 1000
def mSplit (g : Nat) : Model := pureM 3 (xSplit g)

/-- The months of a year, one by one. -/
theorem split_loop (g : Nat) {day y j l : Nat} (h : YM day y j l) {f : Fr} {S : St} {a2 a4 : AVal} (f2 : f.get 2 = a2) (f4 : f.get 4 = a4) (f5 : f.get 5 = .int .i64 ((2000 + y : Nat) : Int))
    (f6 : f.get 6 = .int .i64 ((day - ydN (2000 + y) : Nat) : Int)) (f7 : f.get 7 = .int .i64 1) :
    ∃ f', evC (oSplit g) 1000 clock_Split_s1 f S = some (.normal, f', S) ∧ f'.get 2 = a2 ∧ f'.get 4 = a4 ∧ f'.get 5 = .int .i64 ((2000 + y : Nat) : Int) ∧ f'.get 6 = .int .i64 (l : Int) ∧ f'.get 7 = .int .i64 ((j + 1 : Nat) : Int) := by
  have hy := h.hy
  have hj := h.hj
  have hle := h.le
  have hlt := h.lt
  have heq := h.eq
  have hday : day - ydN (2000 + y) < 400 := by have := ydN_step y hy; have := h.lo; have := h.hi; omega
  rw [h.month] at hlt
  obtain ⟨f', T', g1, rfl, g2⟩ := loop_post (O := oSplit g) (k := 1000) (id := 0) (b := clock_Split_l0)
    (I := fun i f T => T = S ∧ f.get 2 = a2 ∧ f.get 4 = a4 ∧ f.get 5 = .int .i64 ((2000 + y : Nat) : Int) ∧ f.get 6 = .int .i64 ((day - ydN (2000 + y) - sumR (y * 12) i : Nat) : Int) ∧ f.get 7 = .int .i64 ((i + 1 : Nat) : Int))
    (Q := fun f T => T = S ∧ f.get 2 = a2 ∧ f.get 4 = a4 ∧ f.get 5 = .int .i64 ((2000 + y : Nat) : Int) ∧ f.get 6 = .int .i64 (l : Int) ∧ f.get 7 = .int .i64 ((j + 1 : Nat) : Int)) j (by omega)
    (by
      rintro i hi f T ⟨rfl, k2, k4, k5, k6, k7⟩
      have hs := sumR_mono (y * 12) (i + 1) j (by omega)
      have hs1 : sumR (y * 12) (i + 1) = sumR (y * 12) i + daysN (2000 + y) (i + 1) := by rw [sumR, mlen_at (by omega)]
      have b1 := days_ok (2000 + y) (i + 1) (by omega) (by omega) (by omega) (by omega) T
      have b2 : binA .geq (.int .i64 ((day - ydN (2000 + y) - sumR (y * 12) i : Nat) : Int)) (.int .i64 (daysN (2000 + y) (i + 1) : Int)) = some (.bool true) := geq_t (by omega)
      have b3 : binA .sub (.int .i64 ((day - ydN (2000 + y) - sumR (y * 12) i : Nat) : Int)) (.int .i64 (daysN (2000 + y) (i + 1) : Int)) = some (.int .i64 ((day - ydN (2000 + y) - sumR (y * 12) (i + 1) : Nat) : Int)) := sub_is (by omega) (by omega) (by omega)
      have b4 : binA .add (.int .i64 ((i + 1 : Nat) : Int)) (.int .i64 1) = some (.int .i64 ((i + 1 + 1 : Nat) : Int)) := add_is (by omega) (by omega) (by omega)
      generalize ((i + 1 + 1 : Nat) : Int) = z1 at *
      generalize ((i + 1 : Nat) : Int) = z2 at *
      generalize (daysN (2000 + y) (i + 1) : Int) = z3 at *
      generalize ((2000 + y : Nat) : Int) = z4 at *
      generalize ((day - ydN (2000 + y) - sumR (y * 12) i : Nat) : Int) = z5 at *
      generalize ((day - ydN (2000 + y) - sumR (y * 12) (i + 1) : Nat) : Int) = z6 at *
      simp [clock_Split_l0, oSplit, exM, orc, orcD, evF, evC, evOps, evOper, evAny, evOp, evCall, putR, putA, Fr.ev, Fr.of, Fr.get, Fr.set, stable, junkA, junkL, resultsA, resA, same, Fr.get_set, k2, k4, k5, k6, k7, b1, b2, b3, b4, Post_some])
    (by
      rintro f T ⟨rfl, k2, k4, k5, k6, k7⟩
      rw [← heq] at k6
      have b1 := days_ok (2000 + y) (j + 1) (by omega) (by omega) (by omega) (by omega) T
      have b2 : binA .geq (.int .i64 (l : Int)) (.int .i64 (daysN (2000 + y) (j + 1) : Int)) = some (.bool false) := geq_f (by omega)
      generalize ((j + 1 : Nat) : Int) = z2 at *
      generalize (daysN (2000 + y) (j + 1) : Int) = z3 at *
      generalize ((2000 + y : Nat) : Int) = z4 at *
      simp [clock_Split_l0, oSplit, exM, orc, orcD, evF, evC, evOps, evOper, evAny, evOp, evCall, putR, putA, Fr.ev, Fr.of, Fr.get, Fr.set, stable, junkA, junkL, resultsA, resA, same, Fr.get_set, k2, k4, k5, k6, k7, b1, b2, Post_some])
    (f := f) (S := S) ⟨rfl, f2, f4, f5, by rw [f6, sumR]; rfl, f7⟩
  exact ⟨f', g1, g2⟩
end Am.Pol
end

/- The clock: Split's end; a time's slot. -/
section
namespace Am.Pol
open Am Go Am.Ir
set_option maxRecDepth 100000
attribute [local simp] ox oz kx kz og ogz kg kgz mo ai

theorem split_run (g t : Nat) (ht : t < 18446744073709551616) : ∃ T, xSplit g [.int .u64 (t : Int)] [] = some (splitA t, T) := by
  have a1 := yearDay_ok g 2200 (by omega) (by omega) [.live 0 zero6]
  rw [ydN_2200] at a1
  have a1' : xYearDay g [.int .i64 2200] [.live 0 zero6] = some (.int .i64 73049, [.live 0 zero6]) := a1
  have a2 : IntKind.u64.wrap 73049 = 73049 := by decide
  have a3 : binA .mul (.int .u64 73049) (.int .u64 86400) = some (.int .u64 6311433600) := rfl
  have hz6 : zero6 = [.int .i64 0, .int .i64 0, .int .i64 0, .int .i64 0, .int .i64 0, .int .i64 0] := rfl
  by_cases hl : t / 86400 < 73049
  rotate_left
  · have a4 : binA .geq (.int .u64 (t : Int)) (.int .u64 6311433600) = some (.bool true) := geq_t (by omega)
    refine ⟨[.live 0 zero6], ?_⟩
    rw [splitA, if_neg hl]
    simp only [hz6] at a1' ⊢
    simp [xSplit, exM, oSplit, clock_Split, exM, orc, orcD, evF, evC, evOps, evOper, evAny, evOp, evCall, putR, putA, Fr.ev, Fr.of, Fr.get, Fr.set, stable, junkA, junkL, resultsA, resA, same, a1', a2, a3, a4, storeA, cells?, splice, fillA, loadA, partA]
  · have a4 : binA .geq (.int .u64 (t : Int)) (.int .u64 6311433600) = some (.bool false) := geq_f (by omega)
    obtain ⟨y, j, l, hym⟩ := ym_find (day := t / 86400) (by rw [ydN_2200]; exact hl)
    have hj := hym.hj
    have hy := hym.hy
    have hm := hym.mof
    have h31 : l < 31 := by have := hym.lt; have := daysN_31 (2000 + y) (j + 1); rw [hym.month] at *; omega
    refine ⟨[.live 0 (dateC (y * 12 + j) l (t % 86400))], ?_⟩
    rw [splitA, if_pos hl, hm]
    have b1 : binA .rem (.int .u64 (t : Int)) (.int .u64 86400) = some (.int .u64 ((t % 86400 : Nat) : Int)) := rem_u (b := 86400) (by omega)
    have b2 : IntKind.i64.wrap ((t % 86400 : Nat) : Int) = ((t % 86400 : Nat) : Int) := conv_i64 (by omega) (by omega)
    have b3 : binA .quo (.int .u64 (t : Int)) (.int .u64 86400) = some (.int .u64 ((t / 86400 : Nat) : Int)) := quo_u (b := 86400) ht (by omega)
    have b4 : IntKind.i64.wrap ((t / 86400 : Nat) : Int) = ((t / 86400 : Nat) : Int) := conv_i64 (by omega) (by omega)
    have b5 := yearOf_ok g hym [.live 0 zero6]
    have c1 : binA .add (.int .i64 (l : Int)) (.int .i64 1) = some (.int .i64 ((l + 1 : Nat) : Int)) := add_is (by omega) (by omega) (by omega)
    obtain ⟨s, hs⟩ : ∃ s, t % 86400 = s := ⟨_, rfl⟩
    have hs' : s < 86400 := by omega
    rw [hs] at b1 b2 ⊢
    have c2 : binA .quo (.int .i64 (s : Int)) (.int .i64 3600) = some (.int .i64 ((s / 3600 : Nat) : Int)) := by rw [quo_i (by omega) (by omega) (by omega)]; simp
    have c3 : binA .quo (.int .i64 (s : Int)) (.int .i64 60) = some (.int .i64 ((s / 60 : Nat) : Int)) := by rw [quo_i (by omega) (by omega) (by omega)]; simp
    have c4 : binA .rem (.int .i64 ((s / 60 : Nat) : Int)) (.int .i64 60) = some (.int .i64 ((s / 60 % 60 : Nat) : Int)) := by rw [rem_i (by omega) (by omega)]; simp
    have c5 : binA .rem (.int .i64 (s : Int)) (.int .i64 60) = some (.int .i64 ((s % 60 : Nat) : Int)) := by rw [rem_i (by omega) (by omega)]; simp
    have hd : dateC (y * 12 + j) l s = [.int .i64 ((2000 + y : Nat) : Int), .int .i64 ((j + 1 : Nat) : Int), .int .i64 ((l + 1 : Nat) : Int), .int .i64 ((s / 3600 : Nat) : Int), .int .i64 ((s / 60 % 60 : Nat) : Int), .int .i64 ((s % 60 : Nat) : Int)] := by
      unfold dateC
      rw [show (y * 12 + j) / 12 = y by omega, show (y * 12 + j) % 12 = j by omega]
    rw [hd]
    clear hd hm hz6 a1
    unfold xSplit exM
    refine evF_post (F := clock_Split) rfl rfl ?_
    simp only [clock_Split, clock_Split_t2, Post_seq]
    have hl1 := fun f (S : St) f2 f4 f5 f6 f7 => split_loop g hym (f := f) (S := S) (a2 := .ptr 0 0 0) (a4 := .int .i64 (s : Int)) f2 f4 f5 f6 f7
    generalize ((2000 + y : Nat) : Int) = z1 at *
    generalize ((j + 1 : Nat) : Int) = z2 at *
    generalize ((l + 1 : Nat) : Int) = z3 at *
    generalize ((s / 3600 : Nat) : Int) = z4 at *
    generalize ((s / 60 % 60 : Nat) : Int) = z5 at *
    generalize ((s % 60 : Nat) : Int) = z6 at *
    generalize ((s / 60 : Nat) : Int) = z7 at *
    generalize ((t / 86400 - ydN (2000 + y) : Nat) : Int) = z8 at *
    generalize ((t / 86400 : Nat) : Int) = z9 at *
    clear hs ht
    simp only [zero6] at *
    have hgo : ∀ f, f.get 2 = .ptr 0 0 0 → f.get 4 = .int .i64 (s : Int) → f.get 5 = .int .i64 z1 → f.get 6 = .int .i64 z8 → f.get 7 = .int .i64 1 → Post (evC (oSplit g) 1000 clock_Split_s1 f [.live 0 zero6]) (fun e f' S' => e = .normal ∧ S' = [.live 0 zero6] ∧ f'.get 2 = .ptr 0 0 0 ∧ f'.get 4 = .int .i64 (s : Int) ∧ f'.get 5 = .int .i64 z1 ∧ f'.get 6 = .int .i64 (l : Int) ∧ f'.get 7 = .int .i64 z2) := by
      intro f f2 f4 f5 f6 f7
      obtain ⟨f', g1, g2⟩ := hl1 f [.live 0 zero6] f2 f4 f5 f6 f7
      rw [g1]
      exact Post.of rfl ⟨rfl, rfl, g2⟩
    simp only [zero6] at hgo
    simp [exM, orc, orcD, evF, evC, evOps, evOper, evAny, evOp, evCall, putR, putA, Fr.ev, Fr.of, Fr.get, Fr.set, stable, junkA, junkL, resultsA, resA, same, oSplit, a1', a2, a3, a4, b1, b2, b3, b4, b5, Post_some]
    refine Post.mono (hgo _ rfl rfl rfl rfl rfl) ?_
    rintro e f T ⟨rfl, rfl, k2, k4, k5, k6, k7⟩
    simp [exM, orc, orcD, evF, evC, evOps, evOper, evAny, evOp, evCall, putR, putA, Fr.ev, Fr.of, Fr.get, Fr.set, stable, junkA, junkL, resultsA, resA, same, Fr.get_set, k2, k4, k5, k6, k7, c1, c2, c3, c4, c5, storeA, cells?, splice, fillA, loadA, partA, Post_some]
end Am.Pol
end

/- A time's slot, as the program does it. -/
section
namespace Am.Pol
open Am Go Am.Ir
set_option maxRecDepth 100000
attribute [local simp] ox oz kx kz og ogz kg kgz mo ai

theorem split_ok (g t : Nat) (ht : t < 18446744073709551616) (S : St) : mSplit g [.int .u64 (t : Int)] S = some (splitA t, S) := by
  obtain ⟨T, hT⟩ := split_run g t ht
  refine pureM_run rfl hT ?_
  unfold splitA
  split <;> rfl

def mMonth (g : Nat) : Model := pureM 1 (exM (orc [mSplit g]) policy_month 10)
def monthN (t : Nat) : Nat := (mof 2400 0 (t / 86400)).1

theorem monthN_le (t : Nat) : monthN t ≤ 2400 := by have := mof_end 2400 0 (t / 86400); unfold monthN; omega

theorem month_ok (g t : Nat) (ht : t < 18446744073709551616) (S : St) : mMonth g [.int .u64 (t : Int)] S = some (.int .u64 (monthN t : Int), S) := by
  have hs := split_ok g t ht []
  have hle := monthN_le t
  by_cases hl : t / 86400 < 73049
  · rw [splitA, if_pos hl] at hs
    refine pureM_run (T := [.live 0 (dateC (monthN t) (mof 2400 0 (t / 86400)).2 (t % 86400))]) (v := .int .u64 (monthN t : Int)) rfl ?_ rfl
    have e : (mof 2400 0 (t / 86400)).1 = monthN t := rfl
    rw [e] at hs
    generalize (mof 2400 0 (t / 86400)).2 = l at *
    generalize monthN t = q at *
    have c1 : binA .sub (.int .i64 ((2000 + q / 12 : Nat) : Int)) (.int .i64 2000) = some (.int .i64 ((q / 12 : Nat) : Int)) := sub_is (by omega) (by omega) (by omega)
    have c2 : binA .mul (.int .i64 ((q / 12 : Nat) : Int)) (.int .i64 12) = some (.int .i64 ((q / 12 * 12 : Nat) : Int)) := mul_is (by omega) (by omega) (by omega)
    have c3 : binA .add (.int .i64 ((q / 12 * 12 : Nat) : Int)) (.int .i64 ((q % 12 + 1 : Nat) : Int)) = some (.int .i64 ((q + 1 : Nat) : Int)) := add_is (by omega) (by omega) (by omega)
    have c4 : binA .sub (.int .i64 ((q + 1 : Nat) : Int)) (.int .i64 1) = some (.int .i64 (q : Int)) := sub_is (by omega) (by omega) (by omega)
    have c5 : IntKind.u64.wrap (q : Int) = (q : Int) := conv_u64 (by omega) (by omega)
    have c6 : binA .neq (.int .i64 0) (.int .i64 0) = some (.bool false) := rfl
    unfold dateC at *
    generalize ((2000 + q / 12 : Nat) : Int) = z1 at *
    generalize ((q % 12 + 1 : Nat) : Int) = z2 at *
    generalize ((l + 1 : Nat) : Int) = z3 at *
    generalize ((t % 86400 / 3600 : Nat) : Int) = z4 at *
    generalize ((t % 86400 / 60 % 60 : Nat) : Int) = z5 at *
    generalize ((t % 86400 % 60 : Nat) : Int) = z6 at *
    generalize ((q / 12 : Nat) : Int) = z7 at *
    generalize ((q / 12 * 12 : Nat) : Int) = z8 at *
    generalize ((q + 1 : Nat) : Int) = z9 at *
    simp [policy_month, exM, exM, orc, orcD, evF, evC, evOps, evOper, evAny, evOp, evCall, putR, putA, Fr.ev, Fr.of, Fr.get, Fr.set, stable, junkA, junkL, resultsA, resA, same, hs, c1, c2, c3, c4, c5, c6, storeA, cells?, splice, fillA, loadA, partA, faddrA]
  · rw [splitA, if_neg hl] at hs
    have e : monthN t = 2400 := mof_late (by rw [ydN_2200]; omega)
    rw [e]
    refine pureM_run (T := [.live 0 zero6]) (v := .int .u64 2400) rfl ?_ rfl
    have c6 : binA .neq (.int .i64 4) (.int .i64 0) = some (.bool true) := rfl
    unfold zero6 at *
    simp [policy_month, exM, exM, orc, orcD, evF, evC, evOps, evOper, evAny, evOp, evCall, putR, putA, Fr.ev, Fr.of, Fr.get, Fr.set, stable, junkA, junkL, resultsA, resA, same, hs, c6, storeA, cells?, splice, fillA, loadA, partA, faddrA]

def xWeek : Model := exM (orc []) clock_Week 10
def weekN (t : Nat) : Nat := (t / 86400 + 5) / 7

theorem week_ok (t : Nat) (ht : t < 18446744073709551616) (S : St) : xWeek [.int .u64 (t : Int)] S = some (.int .u64 (weekN t : Int), S) := by
  have c1 : binA .quo (.int .u64 (t : Int)) (.int .u64 86400) = some (.int .u64 ((t / 86400 : Nat) : Int)) := quo_u (b := 86400) ht (by omega)
  have c2 : binA .add (.int .u64 ((t / 86400 : Nat) : Int)) (.int .u64 5) = some (.int .u64 ((t / 86400 + 5 : Nat) : Int)) := add_u (b := 5) (by omega)
  have c3 : binA .quo (.int .u64 ((t / 86400 + 5 : Nat) : Int)) (.int .u64 7) = some (.int .u64 (weekN t : Int)) := quo_u (b := 7) (by omega) (by omega)
  generalize ((t / 86400 : Nat) : Int) = z1 at *
  generalize ((t / 86400 + 5 : Nat) : Int) = z2 at *
  generalize (weekN t : Int) = z3 at *
  simp [xWeek, clock_Week, exM, orc, orcD, evF, evC, evOps, evOper, evAny, evOp, evCall, putR, putA, Fr.ev, Fr.of, Fr.get, Fr.set, stable, junkA, junkL, resultsA, resA, same, c1, c2, c3]

/-- A time's slot. -/
def slotN (t : Nat) (k : Int) : Nat := if k = 0 then t / 3600 else if k = 1 then t / 86400 else if k = 2 then weekN t else if k = 3 then monthN t else 0

def xSlot (g : Nat) : Model := exM (orc [xWeek, mMonth g]) policy_Slot 10

theorem slot_ok (g t : Nat) (ht : t < 18446744073709551616) (k : Int) (S : St) : xSlot g [.int .u64 (t : Int), .int .i64 k] S = some (.int .u64 (slotN t k : Int), S) := by
  have c0 : binA .quo (.int .u64 (t : Int)) (.int .u64 3600) = some (.int .u64 ((t / 3600 : Nat) : Int)) := quo_u (b := 3600) ht (by omega)
  have c1 : binA .quo (.int .u64 (t : Int)) (.int .u64 86400) = some (.int .u64 ((t / 86400 : Nat) : Int)) := quo_u (b := 86400) ht (by omega)
  have c2 := week_ok t ht S
  have c3 := month_ok g t ht S
  by_cases h0 : k = 0
  · subst h0
    rw [show slotN t 0 = t / 3600 from rfl]
    generalize ((t / 3600 : Nat) : Int) = z1 at *
    simp [xSlot, policy_Slot, exM, orc, orcD, evF, evC, evOps, evOper, evAny, evOp, evCall, putR, putA, Fr.ev, Fr.of, Fr.get, Fr.set, stable, junkA, junkL, resultsA, resA, same, eql_g, c0]
  by_cases h1 : k = 1
  · subst h1
    rw [show slotN t 1 = t / 86400 from rfl]
    generalize ((t / 86400 : Nat) : Int) = z1 at *
    simp [xSlot, policy_Slot, exM, orc, orcD, evF, evC, evOps, evOper, evAny, evOp, evCall, putR, putA, Fr.ev, Fr.of, Fr.get, Fr.set, stable, junkA, junkL, resultsA, resA, same, eql_g, c1]
  by_cases h2 : k = 2
  · subst h2
    rw [show slotN t 2 = weekN t from rfl]
    simp [xSlot, policy_Slot, exM, orc, orcD, evF, evC, evOps, evOper, evAny, evOp, evCall, putR, putA, Fr.ev, Fr.of, Fr.get, Fr.set, stable, junkA, junkL, resultsA, resA, same, eql_g, c2]
  by_cases h3 : k = 3
  · subst h3
    rw [show slotN t 3 = monthN t from rfl]
    simp [xSlot, policy_Slot, exM, orc, orcD, evF, evC, evOps, evOper, evAny, evOp, evCall, putR, putA, Fr.ev, Fr.of, Fr.get, Fr.set, stable, junkA, junkL, resultsA, resA, same, eql_g, c3]
  have e : slotN t k = 0 := by unfold slotN; rw [if_neg h0, if_neg h1, if_neg h2, if_neg h3]
  rw [e]
  simp [xSlot, policy_Slot, exM, orc, orcD, evF, evC, evOps, evOper, evAny, evOp, evCall, putR, putA, Fr.ev, Fr.of, Fr.get, Fr.set, stable, junkA, junkL, resultsA, resA, same, eql_g, h0, h1, h2, h3]
end Am.Pol
end

