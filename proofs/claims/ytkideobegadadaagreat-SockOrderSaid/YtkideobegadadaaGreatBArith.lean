/- Contracts and plain facts: Plain Arith. -/
import Derived.Test.YtkideobegadadaaGreatXw
import Derived.Test.YtkideobegadadaaGreatK
set_option linter.unusedVariables false
set_option linter.unusedSimpArgs false
set_option linter.unusedSectionVars false
namespace Go.X
abbrev KU : Ks := [.int .u64]
abbrev KR : Ks := [.int .u64, .int .u64]
theorem drop_at {α : Type} {l : List α} {i : Nat} {x : α} (h : l[i]? = some x) : l.drop i = x :: l.drop (i + 1) := by
  obtain ⟨hl, he⟩ := List.getElem?_eq_some_iff.1 h
  rw [← he]; exact List.drop_eq_getElem_cons hl
theorem modr (d : Int) {m : Int} (h0 : 0 < m) (h1 : m ≤ 9223372036854775807) : 0 ≤ IntKind.i64.wrap ((IntKind.u64.wrap d).tmod m) ∧ IntKind.i64.wrap ((IntKind.u64.wrap d).tmod m) < m := by
  have h := wu_range d
  have h2 := Int.tmod_nonneg m h.1
  have h3 := Int.tmod_lt_of_pos (IntKind.u64.wrap d) h0
  rw [wi (by omega) (by omega)]; omega
section
variable {w0 w : World} {S0 R0 : Nat → Prop} {F G : SP}
/-- A store that makes a block that. -/
theorem w_setTo {p : Pt} {ls : List Lf} {A : WP} {L : List Lf} (h : Own w0 S0 R0 w F) (b : Nat) (L' : List Lf) [t : TakeB b F L G] (hp : p.b = b) (hx : Nat.ble (p.o + ls.length) L.length = true) (e : upd L p.o ls = L')
    (k : ∀ w', Own w0 S0 R0 w' (X.blk b L' ^ G) → A w') : st p ls A w := by
  subst hp
  subst e
  exact w_set h hx k
end
theorem least {α : Type} (P : α → Prop) (μ : α → Nat) (h : ∃ a, P a) : ∃ n, (∃ a, P a ∧ μ a = n) ∧ ∀ a, P a → n ≤ μ a := by
  obtain ⟨a, ha⟩ := h
  have key : ∀ k a, P a → μ a ≤ k → ∃ n, (∃ a, P a ∧ μ a = n) ∧ ∀ a, P a → n ≤ μ a := by
    intro k
    induction k with
    | zero => intro a ha hk; exact ⟨0, ⟨a, ha, by omega⟩, fun _ _ => Nat.zero_le _⟩
    | succ k ih =>
      intro a ha hk
      by_cases hc : ∃ c, P c ∧ μ c < μ a
      · obtain ⟨c, hc, hlt⟩ := hc
        exact ih c hc (by omega)
      · exact ⟨μ a, ⟨a, ha, rfl⟩, fun c hc' => Nat.le_of_not_lt fun hlt => hc ⟨c, hc', hlt⟩⟩
  exact key _ a ha (Nat.le_refl _)
open Classical in
/-- A loop whose invariant has a witness, by which it is measured. -/
theorem w_loopE {w0 w : World} {S0 R0 : Nat → Prop} {α : Type} {cs : List CK} {x₀ : Ks.T cs} {B : (Ks.T cs → WP) → Ks.T cs → WP} (I : Ks.T cs → α → SP) (φ : Ks.T cs → α → Prop) (μ : Ks.T cs → α → Nat) (a₀ : α) (h : Own w0 S0 R0 w (I x₀ a₀)) (h0 : φ x₀ a₀)
    (hr : ∀ (K : Ks.T cs → WP) x a w, φ x a → Own w0 S0 R0 w (I x a) → (∀ y c w', φ y c → Own w0 S0 R0 w' (I y c) → μ y c < μ x a → K y w') → B K x w) : loop cs x₀ B w := by
  refine ⟨fun x w => ∃ a, φ x a ∧ Own w0 S0 R0 w (I x a), fun x w => if h : ∃ a, φ x a ∧ Own w0 S0 R0 w (I x a) then Classical.choose (least _ (μ x) h) else 0, ⟨a₀, h0, h⟩, ?_⟩
  intro x w hx
  have hs := Classical.choose_spec (least _ (μ x) hx)
  obtain ⟨⟨a, ⟨hp, ha⟩, hn⟩, _⟩ := hs
  refine hr _ x a w hp ha fun y c w' hy ho hlt => ⟨⟨c, hy, ho⟩, ?_⟩
  have hx' : ∃ c, φ y c ∧ Own w0 S0 R0 w' (I y c) := ⟨c, hy, ho⟩
  have e1 : (if h : ∃ a, φ y a ∧ Own w0 S0 R0 w' (I y a) then Classical.choose (least _ (μ y) h) else 0) = Classical.choose (least _ (μ y) hx') := dif_pos hx'
  have e2 : (if h : ∃ a, φ x a ∧ Own w0 S0 R0 w (I x a) then Classical.choose (least _ (μ x) h) else 0) = Classical.choose (least _ (μ x) hx) := dif_pos hx
  show (if h : ∃ a, φ y a ∧ Own w0 S0 R0 w' (I y a) then Classical.choose (least _ (μ y) h) else 0) < (if h : ∃ a, φ x a ∧ Own w0 S0 R0 w (I x a) then Classical.choose (least _ (μ x) h) else 0)
  rw [e1, e2, ← hn]
  have := (Classical.choose_spec (least _ (μ y) hx')).2 c ⟨hy, ho⟩
  omega

namespace Arith
def U (x : Int) : Prop := 0 ≤ x ∧ x < 18446744073709551616
def addI (a b : Int) : Int := if a + b < 18446744073709551616 then a + b else 18446744073709551615
def subI (a b : Int) : Int := if a < b then 0 else a - b
def mulI (a b : Int) : Int := if a * b < 18446744073709551616 then a * b else 18446744073709551615
def mdI (a b c : Int) : Int := if a * b = 0 then 0 else if a * b < c * 18446744073709551616 then a * b / c else 18446744073709551615
theorem wm (n : Int) : IntKind.u64.wrap n = n % 18446744073709551616 := by simp [IntKind.wrap, IntKind.bits, IntKind.signed]
theorem U_wrap (n : Int) : U (IntKind.u64.wrap n) := wu_range n
theorem U_add {a b : Int} (ha : U a) (hb : U b) : U (addI a b) := by unfold U addI at *; split <;> omega
theorem U_sub {a b : Int} (ha : U a) (hb : U b) : U (subI a b) := by unfold U subI at *; split <;> omega
theorem U_mul {a b : Int} (ha : U a) (hb : U b) : U (mulI a b) := by
  have := Int.mul_nonneg ha.1 hb.1
  unfold mulI; split
  · exact ⟨this, by assumption⟩
  · unfold U; omega
theorem U_md {a b c : Int} (ha : U a) (hb : U b) (hc : U c) : U (mdI a b c) := by
  have h := Int.mul_nonneg ha.1 hb.1
  unfold mdI
  split
  · unfold U; omega
  · split
    · rename_i h1
      refine ⟨Int.ediv_nonneg h hc.1, ?_⟩
      have hc0 : 0 < c := by rcases Int.lt_or_eq_of_le hc.1 with h2 | h2; exact h2; rw [← h2] at h1; omega
      exact Int.ediv_lt_of_lt_mul hc0 (by rw [Int.mul_comm 18446744073709551616]; exact h1)
    · unfold U; omega
theorem bvu {a : Int} (h : U a) : (BitVec.ofInt 64 a).toNat = a.toNat := by
  unfold U at h
  rw [BitVec.toNat_ofInt]; simp; omega
theorem andm (a : Int) : ((BitVec.ofInt IntKind.u64.bits a &&& BitVec.ofInt IntKind.u64.bits 4294967295).toNat : Int) = a % 4294967296 := by
  show ((BitVec.ofInt 64 a &&& BitVec.ofInt 64 4294967295).toNat : Int) = _
  rw [BitVec.toNat_and, show (BitVec.ofInt 64 4294967295).toNat = 2 ^ 32 - 1 by decide, Nat.and_two_pow_sub_one_eq_mod, BitVec.toNat_ofInt]
  simp; omega
theorem or1 {a b : Int} (i : Nat) (k : Int) (hk : 0 ≤ k) (ha : a = k * (2 ^ i : Nat)) (h1 : U a) (hb : 0 ≤ b) (hb2 : b < (2 ^ i : Nat)) (h2 : U b) : ((BitVec.ofInt IntKind.u64.bits a ||| BitVec.ofInt IntKind.u64.bits b).toNat : Int) = a + b := by
  show ((BitVec.ofInt 64 a ||| BitVec.ofInt 64 b).toNat : Int) = _
  rw [BitVec.toNat_or, bvu h1, bvu h2]
  obtain ⟨k, rfl⟩ := Int.eq_ofNat_of_zero_le hk
  obtain ⟨b, rfl⟩ := Int.eq_ofNat_of_zero_le hb
  have e : a = ((2 ^ i * k : Nat) : Int) := by rw [ha, Nat.mul_comm]; push_cast; rfl
  rw [e, Int.toNat_natCast, Int.toNat_natCast, ← Nat.two_pow_add_eq_or_of_lt (by omega)]
  push_cast; rfl
theorem fdiv32 (a : Int) : a.fdiv (2 ^ min (32 : Int).toNat IntKind.u64.bits) = a / 4294967296 := by
  show a.fdiv 4294967296 = _
  exact Int.fdiv_eq_ediv_of_nonneg a (by decide)
theorem fdiv63 (a : Int) : a.fdiv (2 ^ min (63 : Int).toNat IntKind.u64.bits) = a / 9223372036854775808 := by
  show a.fdiv 9223372036854775808 = _
  exact Int.fdiv_eq_ediv_of_nonneg a (by decide)
/-- One step of a long division. -/
theorem or_bit {r l : Int} (hl : U l) : IntKind.u64.wrap (((BitVec.ofInt IntKind.u64.bits (IntKind.u64.wrap (r * 2 ^ min (1:Int).toNat IntKind.u64.bits)) ||| BitVec.ofInt IntKind.u64.bits (l.fdiv (2 ^ min (63:Int).toNat IntKind.u64.bits))).toNat : Nat) : Int) = (2 * r) % 18446744073709551616 + l / 9223372036854775808 := by
  rw [fdiv63]
  have e : IntKind.u64.wrap (r * 2 ^ min (1:Int).toNat IntKind.u64.bits) = (2 * r) % 18446744073709551616 := by
    show IntKind.u64.wrap (r * 2) = _
    rw [wm, Int.mul_comm]
  rw [e]
  unfold U at hl
  rw [or1 1 ((2 * r) % 18446744073709551616 / 2) (by omega) (by show _ = _ * (2 : Int); omega) (by unfold U; omega) (by omega) (by show _ < (2 : Int); omega) (by unfold U; omega), wm]
  omega
theorem or_one (q : Int) : IntKind.u64.wrap (((BitVec.ofInt IntKind.u64.bits (IntKind.u64.wrap (q * 2 ^ min (1:Int).toNat IntKind.u64.bits)) ||| BitVec.ofInt IntKind.u64.bits (1:Int)).toNat : Nat) : Int) = (2 * q) % 18446744073709551616 + 1 := by
  have e : IntKind.u64.wrap (q * 2 ^ min (1:Int).toNat IntKind.u64.bits) = (2 * q) % 18446744073709551616 := by
    show IntKind.u64.wrap (q * 2) = _
    rw [wm, Int.mul_comm]
  rw [e, or1 1 ((2 * q) % 18446744073709551616 / 2) (by omega) (by show _ = _ * (2 : Int); omega) (by unfold U; omega) (by omega) (by show _ < (2 : Int); omega) (by unfold U; omega), wm]
  omega
theorem shl1 (q : Int) : IntKind.u64.wrap (q * 2 ^ min (1:Int).toNat IntKind.u64.bits) = (2 * q) % 18446744073709551616 := by
  show IntKind.u64.wrap (q * 2) = _
  rw [wm, Int.mul_comm]
/-- The long division: behind i steps. L is the number's lower word, N = h * 2^64 + L. -/
structure Dv (N c q r l : Int) (i : Nat) : Prop where
  step : (q * c + r) * 2 ^ (64 - i) + l / 2 ^ i = N
  r0 : 0 ≤ r
  rc : r < c
  q0 : 0 ≤ q
  ql : q < 2 ^ i
  ul : U l
  ld : l % 2 ^ i = 0
  il : i ≤ 64
theorem Dv.start {h l c : Int} (hl : U l) (hh : 0 ≤ h) (hc : h < c) : Dv (h * 18446744073709551616 + l) c 0 h l 0 := by
  refine ⟨?_, hh, hc, by omega, by omega, hl, by omega, by omega⟩
  simp
theorem Dv.last {N c q r l : Int} (d : Dv N c q r l 64) (hc : 0 < c) : q = N / c := by
  have h := d.step
  have hl := d.ul
  unfold U at hl
  have : l / 2 ^ 64 = 0 := Int.ediv_eq_zero_of_lt hl.1 hl.2
  simp at h
  rw [show (18446744073709551616 : Int) = 2 ^ 64 by decide, this] at h
  have h := h.symm
  rw [h, Int.add_zero, Int.add_comm, Int.add_mul_ediv_right _ _ (by omega), Int.ediv_eq_zero_of_lt d.r0 d.rc]
  omega
theorem Dv.next {N c q r l : Int} {i : Nat} (d : Dv N c q r l i) (hi : i < 64) : (2 * r + l / 9223372036854775808 < c → Dv N c (2 * q) (2 * r + l / 9223372036854775808) (2 * l % 18446744073709551616) (i + 1)) ∧
    (c ≤ 2 * r + l / 9223372036854775808 → Dv N c (2 * q + 1) (2 * r + l / 9223372036854775808 - c) (2 * l % 18446744073709551616) (i + 1)) := by
  obtain ⟨h1, h2, h3, h4, h5, h6, h7, h8⟩ := d
  unfold U at h6
  obtain ⟨m, hm⟩ : ∃ m : Int, l = m * 2 ^ i := ⟨l / 2 ^ i, (Int.ediv_mul_cancel (Int.dvd_of_emod_eq_zero h7)).symm⟩
  have p : (0 : Int) < 2 ^ i := Int.pow_pos (by decide)
  have e1 : l / 2 ^ i = m := by rw [hm]; exact Int.mul_ediv_cancel _ (by omega)
  obtain ⟨b, hb⟩ : ∃ b, l / 9223372036854775808 = b := ⟨_, rfl⟩
  have hb01 : b = 0 ∨ b = 1 := by omega
  have e2 : 2 * l % 18446744073709551616 = 2 * l - b * 18446744073709551616 := by omega
  have hp : (2 : Int) ^ (64 - i) = 2 * 2 ^ (64 - (i + 1)) := by
    rw [show 64 - i = (64 - (i + 1)) + 1 by omega, Int.pow_succ]; omega
  have hpp : (2 : Int) ^ (64 - (i + 1)) * 2 ^ (i + 1) = 18446744073709551616 := by
    rw [← Int.pow_add, show 64 - (i + 1) + (i + 1) = 64 by omega]; decide
  have hp1 : (2 : Int) ^ (i + 1) = 2 * 2 ^ i := by rw [Int.pow_succ]; omega
  obtain ⟨P, hP⟩ : ∃ P : Int, (2 : Int) ^ (64 - (i + 1)) = P := ⟨_, rfl⟩
  obtain ⟨Q, hQ⟩ : ∃ Q : Int, (2 : Int) ^ i = Q := ⟨_, rfl⟩
  rw [hp1, hQ, hP] at hpp
  rw [hQ] at hm p e1 h5 h1
  rw [hP] at hp
  have e3 : 2 * l - b * 18446744073709551616 = (m - b * P) * (2 * Q) := by
    rw [← hpp, hm, Int.sub_mul]
    have : 2 * (m * Q) = m * (2 * Q) := by rw [Int.mul_left_comm]
    rw [this, Int.mul_assoc]
  have e4 : (2 * l % 18446744073709551616) / 2 ^ (i + 1) = m - b * P := by
    rw [e2, e3, hp1, hQ]; exact Int.mul_ediv_cancel _ (by omega)
  have e5 : (2 * l % 18446744073709551616) % 2 ^ (i + 1) = 0 := by
    rw [e2, e3, hp1, hQ]; exact Int.mul_emod_left _ _
  have hU : U (2 * l % 18446744073709551616) := by unfold U; omega
  rw [hb]
  rw [hp, e1] at h1
  have key : (2 * (q * c + r) + b) * P + (m - b * P) = N := by
    rw [← h1, Int.add_mul]
    have : 2 * (q * c + r) * P = (q * c + r) * (2 * P) := by rw [Int.mul_comm 2, Int.mul_assoc]
    omega
  refine ⟨fun h => ⟨?_, by omega, h, by omega, by rw [hp1, hQ]; omega, hU, e5, by omega⟩, fun h => ⟨?_, by omega, by omega, by omega, by rw [hp1, hQ]; omega, hU, e5, by omega⟩⟩
  · rw [e4, hP, ← key]
    have : 2 * q * c + (2 * r + b) = 2 * (q * c + r) + b := by rw [Int.mul_assoc]; omega
    rw [this]
  · rw [e4, hP, ← key]
    have : (2 * q + 1) * c + (2 * r + b - c) = 2 * (q * c + r) + b := by rw [Int.add_mul, Int.mul_assoc]; omega
    rw [this]
def rateI (bw g : Int) : Int := mdI bw g 256
def bdpI (bw rtt g : Int) : Int := mdI (mdI bw rtt 1000000000) g 256
def winI (bw rtt g tso mss : Int) : Int := if rtt = 0 then mulI 10 mss else if mulI 4 mss > addI (bdpI bw rtt g) (mulI 3 tso) then mulI 4 mss else addI (bdpI bw rtt g) (mulI 3 tso)
theorem U_lit (x : Int) (h : 0 ≤ x ∧ x < 18446744073709551616 := by omega) : U x := h
theorem U_rate {bw g : Int} (hb : U bw) (hg : U g) : U (rateI bw g) := U_md hb hg (U_lit 256)
theorem U_bdp {bw rtt g : Int} (hb : U bw) (hq : U rtt) (hg : U g) : U (bdpI bw rtt g) := U_md (U_md hb hq (U_lit _)) hg (U_lit 256)
theorem U_win {bw rtt g tso mss : Int} (hb : U bw) (hq : U rtt) (hg : U g) (ht : U tso) (hm : U mss) : U (winI bw rtt g tso mss) := by
  unfold winI
  split
  · exact U_mul (U_lit _) hm
  · split
    · exact U_mul (U_lit _) hm
    · exact U_add (U_bdp hb hq hg) (U_mul (U_lit _) ht)
end Arith


end Go.X
