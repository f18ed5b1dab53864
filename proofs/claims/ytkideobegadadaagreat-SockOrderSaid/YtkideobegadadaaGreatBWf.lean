/- Contracts and plain facts: ArithC Wf. -/
import Derived.Test.YtkideobegadadaaGreatBArith
import Derived.Test.YtkideobegadadaaGreatXw
import Derived.Test.YtkideobegadadaaGreatK
import Derived.Test.YtkideobegadadaaGreatF0
import Derived.Test.YtkideobegadadaaGreatF1
set_option linter.unusedVariables false
set_option linter.unusedSimpArgs false
set_option linter.unusedSectionVars false
namespace Go.X
open Go.Proofs
namespace ArithC
open Arith
theorem add64_tri (a b : Int) (ha : U a) (hb : U b) : Tri Tryz.prog N_math_bits_Add64 [.lf (.int .u64 a), .lf (.int .u64 b), .lf (.int .u64 (0:Int))] [.lf (.int .u64), .lf (.int .u64)] emp (fun r => pur (r = ((a + b) % 18446744073709551616, (a + b) / 18446744073709551616)) emp) :=
  tri_0 (call_math_bits_Add64 a b 0) fun w0 S R h => by
    unfold W_math_bits_Add64
    refine ⟨⟨⟨ha.1, hb.1⟩, by omega, by omega⟩, ?_⟩
    rw [show a + b + (0 : Int) = a + b by omega]
    exact Own.retP rfl h.fin
theorem satadd_tri (a b : Int) (ha : U a) (hb : U b) : Tri Tryz.prog N_sat_Add [.lf (.int .u64 a), .lf (.int .u64 b)] [.lf (.int .u64)] emp (fun r => pur (r = addI a b) emp) :=
  tri_0 (call_sat_Add a b) fun w0 S R h => by
    unfold W_sat_Add
    refine w_call (add64_tri a b ha hb) h fun r w h => ?_
    obtain ⟨hr, h⟩ := h.purP
    rw [hr]
    unfold U at ha hb
    refine w_ite (fun c => ?_) fun c => ?_
    · have c : (a + b) / 18446744073709551616 > 0 := by simpa using c
      exact Own.retP (by unfold addI; rw [if_neg (by omega)]) h.fin
    · have c : ¬ (a + b) / 18446744073709551616 > 0 := by simpa using c
      exact Own.retP (by unfold addI; rw [if_pos (by omega)]; show (a + b) % 18446744073709551616 = _; omega) h.fin
theorem rsub_eq {a b : Int} (ha : U a) (hb : U b) : IntKind.u64.wrap (a - (if b < a then b else a)) = subI a b := by
  unfold U subI at *
  split
  · rw [if_neg (by omega), wu (by omega) (by omega)]
  · rw [wu (by omega) (by omega)]; split <;> omega
theorem satsub_tri (a b : Int) (ha : U a) (hb : U b) : Tri Tryz.prog N_sat_Sub [.lf (.int .u64 a), .lf (.int .u64 b)] [.lf (.int .u64)] emp (fun r => pur (r = subI a b) emp) :=
  tri_0 (call_sat_Sub a b) fun w0 S R h => by
    unfold W_sat_Sub
    exact Own.retP (rsub_eq ha hb) h.fin
theorem radd_tri (a b : Int) (ha : U a) (hb : U b) : Tri Tryz.prog N_canterref01_Add [.lf (.int .u64 a), .lf (.int .u64 b)] [.lf (.int .u64)] emp (fun r => pur (r = addI a b) emp) :=
  tri_0 (call_canterref01_Add a b) fun w0 S R h => by
    unfold W_canterref01_Add
    unfold U at ha hb
    rw [wu (n := 18446744073709551615 - b) (by omega) (by omega)]
    refine w_ite (fun c => ?_) fun c => ?_
    · have c : a > 18446744073709551615 - b := by simpa using c
      exact Own.retP (by unfold addI; rw [if_neg (by omega)]) h.fin
    · have c : ¬ a > 18446744073709551615 - b := by simpa using c
      exact Own.retP (by unfold addI; rw [if_pos (by omega), wu (by omega) (by omega)]) h.fin
theorem mm (x : Int) : x % 4294967296 % 18446744073709551616 = x % 4294967296 := by omega
/-- The words of a product. -/
theorem mul_hi {x1 x0 y1 y0 : Int} (h1 : 0 ≤ x1 ∧ x1 < 4294967296) (h0 : 0 ≤ x0 ∧ x0 < 4294967296) (g1 : 0 ≤ y1 ∧ y1 < 4294967296) (g0 : 0 ≤ y0 ∧ y0 < 4294967296) :
    (0 ≤ x1 * y1 ∧ x1 * y1 ≤ 18446744065119617025) ∧ (0 ≤ x1 * y0 ∧ x1 * y0 ≤ 18446744065119617025) ∧ (0 ≤ x0 * y1 ∧ x0 * y1 ≤ 18446744065119617025) ∧ (0 ≤ x0 * y0 ∧ x0 * y0 ≤ 18446744065119617025) := by
  have k : ∀ {a b : Int}, (0 ≤ a ∧ a < 4294967296) → (0 ≤ b ∧ b < 4294967296) → 0 ≤ a * b ∧ a * b ≤ 18446744065119617025 := fun {a b} ha hb =>
    ⟨Int.mul_nonneg ha.1 hb.1, by
      have := Int.mul_le_mul (show a ≤ 4294967295 by omega) (show b ≤ 4294967295 by omega) hb.1 (by omega)
      omega⟩
  exact ⟨k h1 g1, k h1 g0, k h0 g1, k h0 g0⟩
theorem mul_split (x y : Int) : x * y = (x / 4294967296 * (y / 4294967296)) * 18446744073709551616 + (x / 4294967296 * (y % 4294967296) + x % 4294967296 * (y / 4294967296)) * 4294967296 + x % 4294967296 * (y % 4294967296) := by
  have hx : x = x / 4294967296 * 4294967296 + x % 4294967296 := by omega
  have hy : y = y / 4294967296 * 4294967296 + y % 4294967296 := by omega
  obtain ⟨a, ha⟩ : ∃ a, x / 4294967296 = a := ⟨_, rfl⟩
  obtain ⟨b, hb⟩ : ∃ a, x % 4294967296 = a := ⟨_, rfl⟩
  obtain ⟨c, hc⟩ : ∃ a, y / 4294967296 = a := ⟨_, rfl⟩
  obtain ⟨d, hd⟩ : ∃ a, y % 4294967296 = a := ⟨_, rfl⟩
  rw [ha, hb] at hx
  rw [hc, hd] at hy
  rw [ha, hb, hc, hd, hx, hy]
  simp only [Int.add_mul, Int.mul_add]
  have e1 : a * 4294967296 * (c * 4294967296) = a * c * 18446744073709551616 := by
    rw [Int.mul_assoc, Int.mul_left_comm 4294967296, ← Int.mul_assoc]; rfl
  have e2 : a * 4294967296 * d = a * d * 4294967296 := by rw [Int.mul_assoc, Int.mul_comm 4294967296, ← Int.mul_assoc]
  have e3 : b * (c * 4294967296) = b * c * 4294967296 := by rw [← Int.mul_assoc]
  omega
theorem mul64_tri (a b : Int) (ha : U a) (hb : U b) : Tri Tryz.prog N_math_bits_Mul64 [.lf (.int .u64 a), .lf (.int .u64 b)] [.lf (.int .u64), .lf (.int .u64)] emp (fun r => pur (r = (a * b / 18446744073709551616, a * b % 18446744073709551616)) emp) :=
  tri_0 (call_math_bits_Mul64 a b) fun w0 S R h => by
    unfold W_math_bits_Mul64
    refine ⟨by decide, by decide, by decide, by decide, by decide, ?_⟩
    refine Own.retP ?_ h.fin
    have k := mul_hi (x1 := a / 4294967296) (x0 := a % 4294967296) (y1 := b / 4294967296) (y0 := b % 4294967296) (by unfold U at ha; omega) (by omega) (by unfold U at hb; omega) (by omega)
    have hs := mul_split a b
    simp only [fdiv32, andm, wm, mm]
    generalize a * b = z at *
    generalize a / 4294967296 * (b / 4294967296) = p11 at *
    generalize a / 4294967296 * (b % 4294967296) = p10 at *
    generalize a % 4294967296 * (b / 4294967296) = p01 at *
    generalize a % 4294967296 * (b % 4294967296) = p00 at *
    refine Prod.ext ?_ rfl
    show _ = z / 18446744073709551616
    omega
theorem wide_tri (a b : Int) (ha : U a) (hb : U b) : Tri Tryz.prog N_canterref01_Wide [.lf (.int .u64 a), .lf (.int .u64 b)] [.lf (.int .u64), .lf (.int .u64)] emp (fun r => pur (r = (a * b / 18446744073709551616, a * b % 18446744073709551616)) emp) :=
  tri_0 (call_canterref01_Wide a b) fun w0 S R h => by
    unfold W_canterref01_Wide
    refine ⟨by decide, by decide, by decide, by decide, by decide, by decide, by decide, ?_⟩
    refine Own.retP ?_ h.fin
    have k := mul_hi (x1 := a / 4294967296) (x0 := a % 4294967296) (y1 := b / 4294967296) (y0 := b % 4294967296) (by unfold U at ha; omega) (by omega) (by unfold U at hb; omega) (by omega)
    have hs := mul_split a b
    have sh : ∀ q : Int, q * 2 ^ min (32:Int).toNat IntKind.u64.bits = q * 4294967296 := fun q => rfl
    simp only [fdiv32, andm, sh]
    generalize a * b = z at *
    simp only [wm, mm]
    generalize a / 4294967296 * (b / 4294967296) = p11 at *
    generalize a / 4294967296 * (b % 4294967296) = p10 at *
    generalize a % 4294967296 * (b / 4294967296) = p01 at *
    generalize a % 4294967296 * (b % 4294967296) = p00 at *
    refine Prod.ext ?_ ?_
    · show _ = z / 18446744073709551616
      omega
    · show _ = z % 18446744073709551616
      obtain ⟨mid, hmid⟩ : ∃ mid, (p00 % 18446744073709551616 / 4294967296 + p10 % 18446744073709551616 % 4294967296) % 18446744073709551616 + p01 % 18446744073709551616 % 4294967296 = mid := ⟨_, rfl⟩
      rw [hmid]
      have em : mid % 18446744073709551616 * 4294967296 % 18446744073709551616 = mid % 4294967296 * (2 ^ 32 : Nat) := by
        show _ = _ * (4294967296 : Int)
        omega
      rw [or1 32 (mid % 4294967296) (by omega) em (by unfold U; omega) (by omega) (by show _ < (4294967296 : Int); omega) (by unfold U; omega)]
      omega
def divI (h l c : Int) : Int × Int := if c = 0 then (0, 1) else if h ≥ c then (0, 3) else ((h * 18446744073709551616 + l) / c, 0)
theorem p63 {q : Int} {i : Nat} (hi : i < 64) (h : q < 2 ^ i) : q < 9223372036854775808 := by
  have k : ∀ i : Nat, i < 64 → (2 : Int) ^ i ≤ 9223372036854775808 := by decide +kernel
  have := k i hi
  omega
theorem div_tri (h l c : Int) (hh : U h) (hl : U l) (hc : U c) : Tri Tryz.prog N_wide_Div [.lf (.int .u64 h), .lf (.int .u64 l), .lf (.int .u64 c)] [.lf (.int .u64), .lf (.int .i64)] emp (fun r => pur (r = divI h l c) emp) :=
  tri_0 (call_wide_Div h l c) fun w0 S R hO => by
    unfold W_wide_Div
    refine w_ite (fun c1 => ?_) fun c1 => ?_
    · have c1 : c = 0 := by simpa using c1
      exact Own.retP (by unfold divI; rw [if_pos c1]) hO.fin
    have c1 : ¬ c = 0 := by simpa using c1
    refine w_ite (fun c2 => ?_) fun c2 => ?_
    · have c2 : h ≥ c := by simpa using c2
      exact Own.retP (by unfold divI; rw [if_neg c1, if_pos c2]) hO.fin
    have c2 : ¬ h ≥ c := by simpa using c2
    have e0 : divI h l c = ((h * 18446744073709551616 + l) / c, 0) := by unfold divI; rw [if_neg c1, if_neg c2]
    rw [e0]
    refine w_loop (fun (_ : T_u3i) => emp) (fun (y : T_u3i) => (0 ≤ (y.2.2.2 : Int)) ∧ Dv (h * 18446744073709551616 + l) c y.2.2.1 y.1 y.2.1 y.2.2.2.toNat) (fun (y : T_u3i) => 64 - y.2.2.2.toNat) hO ⟨Int.le_refl _, Dv.start hl hh.1 (by omega)⟩ ?_
    rintro (⟨r, l, q, i⟩ : Int × Int × Int × Int) w ⟨h0, d⟩ hO
    dsimp only at h0 d hO ⊢
    refine w_ite (fun c3 => ?_) fun c3 => ?_
    · have c3 : i = 64 := by simpa using c3
      rw [c3] at d
      exact Own.retP (by rw [d.last (by unfold U at hc; omega)]) hO.fin
    have c3 : ¬ i = 64 := by simpa using c3
    have il := d.il
    have hi : i.toNat < 64 := by omega
    obtain ⟨n1, n2⟩ := d.next hi
    have q1 := p63 hi d.ql
    have q0 := d.q0
    have r0 := d.r0
    have rc := d.rc
    have ul := d.ul
    have ei : (i + 1).toNat = i.toNat + 1 := by omega
    refine ⟨by decide, by decide, by decide, by decide, by decide, ?_⟩
    rw [or_bit ul, or_one, shl1, shl1, fdiv63, wi (n := i + 1) (by omega) (by omega)]
    unfold U at hc ul
    refine w_ite (fun c4 => ?_) fun c4 => ?_
    · have c4 : r / 9223372036854775808 = 0 ∧ 2 * r % 18446744073709551616 + l / 9223372036854775808 < c := by simpa using c4
      have n := n1 (by omega)
      refine ⟨⟨⟨by show 0 ≤ i + 1; omega, ?_⟩, hO⟩, by show 64 - (i + 1).toNat < 64 - i.toNat; omega⟩
      show Dv _ c (2 * q % 18446744073709551616) (2 * r % 18446744073709551616 + l / 9223372036854775808) (2 * l % 18446744073709551616) (i + 1).toNat
      rw [ei, show 2 * q % 18446744073709551616 = 2 * q by omega, show 2 * r % 18446744073709551616 = 2 * r by omega]
      exact n
    · have c4 : ¬ (r / 9223372036854775808 = 0 ∧ 2 * r % 18446744073709551616 + l / 9223372036854775808 < c) := fun hh => by simp [hh] at c4
      have n := n2 (by omega)
      refine ⟨⟨⟨by show 0 ≤ i + 1; omega, ?_⟩, hO⟩, by show 64 - (i + 1).toNat < 64 - i.toNat; omega⟩
      show Dv _ c (2 * q % 18446744073709551616 + 1) (IntKind.u64.wrap (2 * r % 18446744073709551616 + l / 9223372036854775808 - c)) (2 * l % 18446744073709551616) (i + 1).toNat
      rw [ei, wm, show 2 * q % 18446744073709551616 = 2 * q by omega, show (2 * r % 18446744073709551616 + l / 9223372036854775808 - c) % 18446744073709551616 = 2 * r + l / 9223372036854775808 - c by omega]
      exact n
theorem rdiv_tri (h l c : Int) (hh : U h) (hl : U l) (hc : U c) : Tri Tryz.prog N_canterref01_Div [.lf (.int .u64 h), .lf (.int .u64 l), .lf (.int .u64 c)] [.lf (.int .u64), .lf (.int .i64)] emp (fun r => pur (r = divI h l c) emp) :=
  tri_0 (call_canterref01_Div h l c) fun w0 S R hO => by
    unfold W_canterref01_Div
    refine w_ite (fun c1 => ?_) fun c1 => ?_
    · have c1 : c = 0 := by simpa using c1
      exact Own.retP (by unfold divI; rw [if_pos c1]) hO.fin
    have c1 : ¬ c = 0 := by simpa using c1
    refine w_ite (fun c2 => ?_) fun c2 => ?_
    · have c2 : h ≥ c := by simpa using c2
      exact Own.retP (by unfold divI; rw [if_neg c1, if_pos c2]) hO.fin
    have c2 : ¬ h ≥ c := by simpa using c2
    have e0 : divI h l c = ((h * 18446744073709551616 + l) / c, 0) := by unfold divI; rw [if_neg c1, if_neg c2]
    rw [e0]
    refine w_loop (fun (_ : T_u3i) => emp) (fun (y : T_u3i) => (0 ≤ (y.2.2.2 : Int)) ∧ Dv (h * 18446744073709551616 + l) c y.2.1 y.2.2.1 y.1 y.2.2.2.toNat) (fun (y : T_u3i) => 64 - y.2.2.2.toNat) hO ⟨Int.le_refl _, Dv.start hl hh.1 (by omega)⟩ ?_
    rintro (⟨l, q, r, i⟩ : Int × Int × Int × Int) w ⟨h0, d⟩ hO
    dsimp only at h0 d hO ⊢
    have il := d.il
    refine w_ite (fun c3 => ?_) fun c3 => ?_
    · have c3 : i < 64 := by simpa using c3
      have hi : i.toNat < 64 := by omega
      obtain ⟨n1, n2⟩ := d.next hi
      have q1 := p63 hi d.ql
      have q0 := d.q0
      have r0 := d.r0
      have rc := d.rc
      have ul := d.ul
      have ei : (i + 1).toNat = i.toNat + 1 := by omega
      refine ⟨by decide, by decide, by decide, by decide, by decide, ?_⟩
      rw [or_bit ul, or_one, shl1, shl1, fdiv63, wi (n := i + 1) (by omega) (by omega)]
      unfold U at hc ul
      refine w_ite (fun c4 => ?_) fun c4 => ?_
      · have c4 : r / 9223372036854775808 = 1 ∨ 2 * r % 18446744073709551616 + l / 9223372036854775808 ≥ c := by simpa using c4
        have n := n2 (by omega)
        refine ⟨⟨⟨by show 0 ≤ i + 1; omega, ?_⟩, hO⟩, by show 64 - (i + 1).toNat < 64 - i.toNat; omega⟩
        show Dv _ c (2 * q % 18446744073709551616 + 1) (IntKind.u64.wrap (2 * r % 18446744073709551616 + l / 9223372036854775808 - c)) (2 * l % 18446744073709551616) (i + 1).toNat
        rw [ei, wm, show 2 * q % 18446744073709551616 = 2 * q by omega, show (2 * r % 18446744073709551616 + l / 9223372036854775808 - c) % 18446744073709551616 = 2 * r + l / 9223372036854775808 - c by omega]
        exact n
      · have c4 : ¬ (r / 9223372036854775808 = 1 ∨ 2 * r % 18446744073709551616 + l / 9223372036854775808 ≥ c) := fun hh => by
          rcases hh with hh | hh <;> simp [hh] at c4
        have n := n1 (by omega)
        refine ⟨⟨⟨by show 0 ≤ i + 1; omega, ?_⟩, hO⟩, by show 64 - (i + 1).toNat < 64 - i.toNat; omega⟩
        show Dv _ c (2 * q % 18446744073709551616) (2 * r % 18446744073709551616 + l / 9223372036854775808) (2 * l % 18446744073709551616) (i + 1).toNat
        rw [ei, show 2 * q % 18446744073709551616 = 2 * q by omega, show 2 * r % 18446744073709551616 = 2 * r by omega]
        exact n
    · have c3 : ¬ i < 64 := by simpa using c3
      rw [show i.toNat = 64 by omega] at d
      exact Own.retP (by rw [d.last (by unfold U at hc; omega)]) hO.fin
theorem md_eq {a b c : Int} (ha : U a) (hb : U b) (hc : U c) (h : a * b ≠ 0) : mdI a b c = if (divI (a * b / 18446744073709551616) (a * b % 18446744073709551616) c).2 ≠ 0 then 18446744073709551615 else (divI (a * b / 18446744073709551616) (a * b % 18446744073709551616) c).1 := by
  have hn := Int.mul_nonneg ha.1 hb.1
  unfold mdI divI
  rw [if_neg h]
  unfold U at hc
  generalize a * b = z at *
  by_cases c1 : c = 0
  · rw [if_pos c1, if_neg (by omega)]; rfl
  · rw [if_neg c1]
    by_cases c2 : z / 18446744073709551616 ≥ c
    · rw [if_pos c2, if_neg (by omega)]; rfl
    · rw [if_neg c2, if_pos (by omega), show z / 18446744073709551616 * 18446744073709551616 + z % 18446744073709551616 = z by omega]; rfl
theorem U_hi {a b : Int} (ha : U a) (hb : U b) : U (a * b / 18446744073709551616) := by
  have hn := Int.mul_nonneg ha.1 hb.1
  refine ⟨by omega, Int.ediv_lt_of_lt_mul (by decide) ?_⟩
  unfold U at ha hb
  have := Int.mul_le_mul (show a ≤ 18446744073709551615 by omega) (show b ≤ 18446744073709551615 by omega) hb.1 (by omega)
  omega
theorem U_lo (a : Int) : U (a % 18446744073709551616) := by unfold U; omega
theorem wmul_tri (a b : Int) (ha : U a) (hb : U b) : Tri Tryz.prog N_wide_Mul [.lf (.int .u64 a), .lf (.int .u64 b)] [.lf (.int .u64), .lf (.int .u64)] emp (fun r => pur (r = (a * b / 18446744073709551616, a * b % 18446744073709551616)) emp) :=
  tri_0 (call_wide_Mul a b) fun w0 S R h => by
    unfold W_wide_Mul
    refine w_call (mul64_tri a b ha hb) h fun r w h => ?_
    obtain ⟨hr, h⟩ := h.purP
    rw [hr]
    exact Own.retP rfl h.fin
theorem zero_of {z : Int} (h : ((z / 18446744073709551616 == (0:Int)) && (z % 18446744073709551616 == (0:Int))) = true) : z = 0 := by
  simp at h; omega
theorem zero_not {z : Int} (h : ((z / 18446744073709551616 == (0:Int)) && (z % 18446744073709551616 == (0:Int))) = false) : z ≠ 0 := by
  rintro rfl; simp at h
theorem md_tri (a b c : Int) (ha : U a) (hb : U b) (hc : U c) : Tri Tryz.prog N_wide_MulDiv [.lf (.int .u64 a), .lf (.int .u64 b), .lf (.int .u64 c)] [.lf (.int .u64)] emp (fun r => pur (r = mdI a b c) emp) :=
  tri_0 (call_wide_MulDiv a b c) fun w0 S R h => by
    unfold W_wide_MulDiv
    refine w_call (wmul_tri a b ha hb) h fun r w h => ?_
    obtain ⟨hr, h⟩ := h.purP
    rw [hr]
    refine w_ite (fun c1 => ?_) fun c1 => ?_
    · exact Own.retP (by unfold mdI; rw [if_pos (zero_of c1)]) h.fin
    have hz := zero_not c1
    refine w_call (div_tri _ _ c (U_hi ha hb) (U_lo _) hc) h fun r w h => ?_
    obtain ⟨hr, h⟩ := h.purP
    rw [hr]
    have hm := md_eq ha hb hc hz
    refine w_ite (fun c2 => ?_) fun c2 => ?_
    · exact Own.retP (by rw [hm, if_pos (by simpa using c2)]) h.fin
    · exact Own.retP (by rw [hm, if_neg (by simpa using c2)]) h.fin
theorem rmd_tri (a b c : Int) (ha : U a) (hb : U b) (hc : U c) : Tri Tryz.prog N_canterref01_MulDiv [.lf (.int .u64 a), .lf (.int .u64 b), .lf (.int .u64 c)] [.lf (.int .u64)] emp (fun r => pur (r = mdI a b c) emp) :=
  tri_0 (call_canterref01_MulDiv a b c) fun w0 S R h => by
    unfold W_canterref01_MulDiv
    refine w_call (wide_tri a b ha hb) h fun r w h => ?_
    obtain ⟨hr, h⟩ := h.purP
    rw [hr]
    refine w_ite (fun c1 => ?_) fun c1 => ?_
    · exact Own.retP (by unfold mdI; rw [if_pos (zero_of c1)]) h.fin
    have hz := zero_not c1
    refine w_call (rdiv_tri _ _ c (U_hi ha hb) (U_lo _) hc) h fun r w h => ?_
    obtain ⟨hr, h⟩ := h.purP
    rw [hr]
    have hm := md_eq ha hb hc hz
    refine w_ite (fun c2 => ?_) fun c2 => ?_
    · exact Own.retP (by rw [hm, if_pos (by simpa using c2)]) h.fin
    · exact Own.retP (by rw [hm, if_neg (by simpa using c2)]) h.fin
theorem satmul_tri (a b : Int) (ha : U a) (hb : U b) : Tri Tryz.prog N_sat_Mul [.lf (.int .u64 a), .lf (.int .u64 b)] [.lf (.int .u64)] emp (fun r => pur (r = mulI a b) emp) :=
  tri_0 (call_sat_Mul a b) fun w0 S R h => by
    unfold W_sat_Mul
    refine w_call (mul64_tri a b ha hb) h fun r w h => ?_
    obtain ⟨hr, h⟩ := h.purP
    rw [hr]
    have hn := Int.mul_nonneg ha.1 hb.1
    refine w_ite (fun c => ?_) fun c => ?_
    · have c : a * b / 18446744073709551616 > 0 := by simpa using c
      exact Own.retP (by unfold mulI; rw [if_neg (by omega)]) h.fin
    · have c : ¬ a * b / 18446744073709551616 > 0 := by simpa using c
      exact Own.retP (by unfold mulI; rw [if_pos (by omega)]; show a * b % 18446744073709551616 = _; omega) h.fin
end ArithC

namespace Wf
open Arith
theorem u {n : Int} (h : (Lit.int .u64 n).wf = true) : U n := by
  have h : IntKind.u64.min ≤ n ∧ n ≤ IntKind.u64.max := by simpa [Lit.wf] using h
  have e1 : IntKind.u64.min = 0 := by decide
  have e2 : IntKind.u64.max = 18446744073709551615 := by decide
  unfold U
  omega
theorem i {n : Int} (h : (Lit.int .i64 n).wf = true) : -9223372036854775808 ≤ n ∧ n < 9223372036854775808 := by
  have h : IntKind.i64.min ≤ n ∧ n ≤ IntKind.i64.max := by simpa [Lit.wf] using h
  have e1 : IntKind.i64.min = -9223372036854775808 := by decide
  have e2 : IntKind.i64.max = 9223372036854775807 := by decide
  omega
end Wf


end Go.X
