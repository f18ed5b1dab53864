/- Contracts and plain facts: TreeS. -/
import Derived.Test.YtbalnbakcbcicaaBPlain
import Derived.Test.YtbalnbakcbcicaaBTreeM
import Derived.Test.YtbalnbakcbcicaaBTreeN
import Derived.Test.YtbalnbakcbcicaaBTreeA
import Derived.Test.YtbalnbakcbcicaaBTreeB
import Derived.Test.YtbalnbakcbcicaaBTreeC
import Derived.Test.YtbalnbakcbcicaaBTreeD
import Derived.Test.YtbalnbakcbcicaaBTreeE
import Derived.Test.YtbalnbakcbcicaaBKeys
import Derived.Test.YtbalnbakcbcicaaBTreeF
import Derived.Test.YtbalnbakcbcicaaXw
import Derived.Test.YtbalnbakcbcicaaK
import Derived.Test.YtbalnbakcbcicaaF0
set_option linter.unusedVariables false
set_option linter.unusedSimpArgs false
set_option linter.unusedSectionVars false
namespace Go.X
open Go.Proofs
namespace TreeS
open _root_.Go.X.Tree TreeA TreeB TreeC TreeD TreeE TreeF
/-! ### Lines of keys -/
/-- So many keys from a place on, each so far behind the last one. -/
def line (st : Int) : Nat → Nat → List Key
  | _, 0 => []
  | a, m + 1 => ((a : Int) * st, st) :: line st (a + 1) m
theorem line_len (st : Int) : ∀ (m a : Nat), (line st a m).length = m
  | 0, a => rfl
  | m + 1, a => by simp [line, line_len st m]
theorem line_mem {st : Int} : ∀ {m a : Nat} {k : Key}, k ∈ line st a m → ∃ j : Nat, a ≤ j ∧ j < a + m ∧ k = ((j : Int) * st, st)
  | 0, a, k, h => by simp [line] at h
  | m + 1, a, k, h => by
    simp only [line, List.mem_cons] at h
    rcases h with rfl | h
    · exact ⟨a, Nat.le_refl _, by omega, rfl⟩
    · obtain ⟨j, h1, h2, h3⟩ := line_mem h
      exact ⟨j, by omega, by omega, h3⟩
theorem line_snoc (st : Int) : ∀ (m a : Nat), line st a (m + 1) = line st a m ++ [(((a + m : Nat) : Int) * st, st)]
  | 0, a => by simp [line]
  | m + 1, a => by
    have := line_snoc st m (a + 1)
    rw [line, this, line]
    simp only [List.cons_append]
    rw [show a + 1 + m = a + (m + 1) by omega]
theorem mul_lt {a b st : Int} (h : 1 ≤ st) (hab : a < b) : a * st < b * st := Int.mul_lt_mul_of_pos_right hab (by omega)
theorem put_last {st : Int} (h : 1 ≤ st) (m : Nat) : ((m : Int) * st, st) ∉ line st 0 m ∧ putK (line st 0 m) ((m : Int) * st, st) = line st 0 (m + 1) := by
  have hk : ∀ x ∈ line st 0 m, klt x ((m : Int) * st, st) = true := fun x hx => by
    obtain ⟨j, _, h2, rfl⟩ := line_mem hx
    rw [klt_iff]; left
    exact mul_lt h (by omega)
  refine ⟨fun hx => (by have := hk _ hx; rw [klt_irr] at this; cases this), ?_⟩
  rw [line_snoc, Nat.zero_add]
  have := put_mid (b := []) hk (fun _ h => by cases h)
  rwa [List.append_nil] at this
theorem put_first {st : Int} (h : 1 ≤ st) (a m : Nat) : ((a : Int) * st, st) ∉ line st (a + 1) m ∧ putK (line st (a + 1) m) ((a : Int) * st, st) = line st a (m + 1) := by
  have hk : ∀ x ∈ line st (a + 1) m, klt ((a : Int) * st, st) x = true := fun x hx => by
    obtain ⟨j, h1, _, rfl⟩ := line_mem hx
    rw [klt_iff]; left
    exact mul_lt h (by omega)
  refine ⟨fun hx => (by have := hk _ hx; rw [klt_irr] at this; cases this), ?_⟩
  have := put_mid (a := []) (fun _ h => by cases h) hk
  rw [List.nil_append, List.nil_append] at this
  rw [this]; rfl
theorem lines_tri (d : Int) (o : Bool) (a : Int) (ha : 0 ≤ a) : Tri Try.prog N_canterlaw05_TreeLines [.lf (.int .i64 d), .lf (.bool o), .lf (.int .u64 a)] [.lf .bool] emp (fun r => pur (r = true) emp) :=
  tri_0 (call_canterlaw05_TreeLines d o a) fun w0 S R h => by
    unfold W_canterlaw05_TreeLines
    have hm := modr d (m := 300) (by omega) (by omega)
    obtain ⟨n, hn⟩ : ∃ n : Nat, IntKind.i64.wrap ((IntKind.u64.wrap d).tmod 300) = (n : Int) := ⟨_, (Int.toNat_of_nonneg hm.1).symm⟩
    have hst : ∃ st : Int, IntKind.u64.wrap (1 + a.tmod 1000) = st ∧ 1 ≤ st ∧ st ≤ 1000 := by
      rw [Int.tmod_eq_emod_of_nonneg ha]
      exact ⟨_, wu (by omega) (by omega), by omega, by omega⟩
    obtain ⟨st, hst, s1, s2⟩ := hst
    rw [hn] at hm ⊢
    rw [hst]
    have hn3 : n < 300 := by omega
    clear hn hm hst
    have hrm : room (n : Int) = (n : Int) := by unfold room; omega
    refine w_call (new_tri n) h fun r w h => ?_
    obtain ⟨t, h⟩ := h.exP
    obtain ⟨hr, h⟩ := h.purP
    rw [hr]
    rw [hrm] at h
    refine w_call awake_tri h fun r w h => ?_
    obtain ⟨hr, h⟩ := h.purP; rw [hr]
    refine w_ite (fun c => (by cases c)) fun _ => ?_
    -- what is there when so many were put in
    obtain ⟨ln, hln⟩ : ∃ ln : Nat → List Key, ∀ i, ln i = if o then line st (n - i) i else line st 0 i := ⟨_, fun _ => rfl⟩
    have h0 : ln 0 = [] := by rw [hln]; split <;> rfl
    have hmul : ∀ j : Nat, j < 300 → 0 ≤ (j : Int) * st ∧ (j : Int) * st < 18446744073709551616 := fun j hj => by
      have h1 : (0 : Int) ≤ (j : Int) * st := Int.mul_nonneg (by omega) (by omega)
      have h2 : (j : Int) * st ≤ 300 * 1000 := Int.mul_le_mul (by omega) s2 (by omega) (by omega)
      omega
    have h : Own w0 S R w (tree n t (ln (0 : Int).toNat) ^ emp) := by
      have e : ln (0 : Int).toNat = [] := h0
      rw [e]; exact h.fin
    refine w_loop (fun (i : Int) => tree n t (ln i.toNat) ^ emp) (fun (i : Int) => 0 ≤ i ∧ i ≤ n) (fun (i : Int) => n - i.toNat) h ⟨Int.le_refl 0, by show (0 : Int) ≤ n; omega⟩ ?_
    rintro (i : Int) w ⟨i0, i1⟩ h
    refine w_ite (fun c => ?_) fun c => ?_
    · have c : i < (n : Int) := of_decide_eq_true c
      have hi1 : (i + 1).toNat = i.toNat + 1 := by omega
      have hput : ∃ j : Nat, j < 300 ∧ (if o then IntKind.u64.wrap (IntKind.i64.wrap ((IntKind.i64.wrap ((n : Int) - 1)) - i)) else IntKind.u64.wrap i) = (j : Int) ∧ ((j : Int) * st, st) ∉ ln i.toNat ∧ putK (ln i.toNat) ((j : Int) * st, st) = ln (i.toNat + 1) := by
        cases ho : o with
        | true =>
          refine ⟨n - 1 - i.toNat, by omega, ?_, ?_⟩
          · rw [if_pos rfl, wi (n := (n : Int) - 1) (by omega) (by omega), wi (by omega) (by omega), wu (by omega) (by omega)]; omega
          · have e1 : ln i.toNat = line st (n - 1 - i.toNat + 1) i.toNat := by
              rw [hln, ho, if_pos rfl]; congr 1; omega
            have e2 : ln (i.toNat + 1) = line st (n - 1 - i.toNat) (i.toNat + 1) := by
              rw [hln, ho, if_pos rfl]; congr 1; omega
            rw [e1, e2]
            exact put_first s1 _ _
        | false =>
          refine ⟨i.toNat, by omega, ?_, ?_⟩
          · rw [if_neg (by simp), wu (by omega) (by omega)]; omega
          · have e1 : ln i.toNat = line st 0 i.toNat := by rw [hln, ho]; rfl
            have e2 : ln (i.toNat + 1) = line st 0 (i.toNat + 1) := by rw [hln, ho]; rfl
            rw [e1, e2]
            exact put_last s1 _
      obtain ⟨j, hj, hj2, hj3, hj4⟩ := hput
      refine w_join h (fun _ => tree n t (ln i.toNat) ^ emp) (fun y : Int => y = (j : Int)) (fun (y : Int) w hy h => ?_) ?_
      · rw [hy, wu (hmul j hj).1 (hmul j hj).2]
        refine w_call (insert_tri t n (ln i.toNat) ((j : Int) * st, st)) h fun r w h => ?_
        obtain ⟨hr, h⟩ := h.purP
        have hl : (ln i.toNat).length = i.toNat := by rw [hln]; split <;> exact line_len _ _ _
        have e : insK n (ln i.toNat) ((j : Int) * st, st) = (0, ln (i.toNat + 1)) := by
          unfold insK; rw [if_neg hj3, if_neg (by omega), hj4]
        rw [e] at hr h
        rw [hr]
        refine w_ite (fun c => (by cases c)) fun _ => ?_
        refine w_call (low_tri t n (ln (i.toNat + 1))) h fun r w h => ?_
        obtain ⟨hr, h⟩ := h.purP; rw [hr]
        refine w_ite (fun c => (by cases c)) fun _ => ?_
        rw [wi (n := i + 1) (by omega) (by omega)]
        refine ⟨⟨⟨by show 0 ≤ i + 1; omega, by show i + 1 ≤ (n : Int); omega⟩, ?_⟩, by show n - (i + 1).toNat < _; omega⟩
        show Own w0 S R w (tree n t (ln (i + 1).toNat) ^ emp)
        rw [hi1]; exact h.fin
      · cases ho : o with
        | true =>
          rw [ho, if_pos rfl] at hj2
          refine w_ite (fun _ => ⟨hj2, h⟩) fun c => (by cases c)
        | false =>
          rw [ho, if_neg (by simp)] at hj2
          refine w_ite (fun c => (by cases c)) fun _ => ⟨hj2, h⟩
    · have c : ¬ i < (n : Int) := of_decide_eq_false c
      have hi : i.toNat = n := by omega
      have hall : ln n = line st 0 n := by
        rw [hln]; split
        · rw [Nat.sub_self]
        · rfl
      rw [hi, hall] at h
      refine w_call (insert_tri t n (line st 0 n) (1152921504606846976, 0)) h fun r w h => ?_
      obtain ⟨hr, h⟩ := h.purP
      have e : insK n (line st 0 n) (1152921504606846976, 0) = (5, line st 0 n) := by
        unfold insK
        rw [if_neg, if_pos (by rw [line_len]; omega)]
        intro hx
        obtain ⟨j, _, _, h3⟩ := line_mem hx
        have : (0 : Int) = st := congrArg Prod.snd h3
        omega
      rw [e] at hr h
      rw [hr]
      refine w_ite (fun c => (by cases c)) fun _ => ?_
      have h : Own w0 S R w (tree n t (line st 0 n) ^ emp) := h.fin
      refine w_loop (fun (i : Int) => tree n t (line st i.toNat (n - i.toNat)) ^ emp) (fun (i : Int) => 0 ≤ i ∧ i ≤ n) (fun (i : Int) => n - i.toNat) h ⟨Int.le_refl 0, by show (0 : Int) ≤ n; omega⟩ ?_
      clear hi
      rintro (i : Int) w ⟨i0, i1⟩ h
      refine w_ite (fun c => ?_) fun c => ?_
      · have c : i < (n : Int) := of_decide_eq_true c
        have hi1 : (i + 1).toNat = i.toNat + 1 := by omega
        have hl : line st i.toNat (n - i.toNat) = ((i.toNat : Int) * st, st) :: line st (i.toNat + 1) (n - (i.toNat + 1)) := by
          rw [show n - i.toNat = (n - (i.toNat + 1)) + 1 by omega]; rfl
        rw [hl] at h
        have hii : ((i.toNat : Nat) : Int) = i := by omega
        rw [hii] at h
        have hmi := hmul i.toNat (by omega)
        rw [hii] at hmi
        refine w_call (min_tri t n ((i * st, st) :: line st (i.toNat + 1) (n - (i.toNat + 1)))) h fun r w h => ?_
        obtain ⟨hr, h⟩ := h.purP; rw [hr]
        refine w_new h fun n13 w h => w_setAll h (by rfl) fun w h => ?_
        have h : Own w0 S R w (blk n13 (Ks.mk KR (i * st, st)) ^ _) := h
        have h : Own w0 S R w (blk n13 (Ks.mk KR (i * st, st)) ^ tree n t ((i * st, st) :: line st (i.toNat + 1) (n - (i.toNat + 1))) ^ emp) := h.fin
        refine w_join h (fun _ => tree n t (line st (i.toNat + 1) (n - (i.toNat + 1))) ^ emp) (fun y : Bool => y = false) (fun (y : Bool) w hy h => ?_) ?_
        · rw [hy]
          refine w_ite (fun c => (by cases c)) fun _ => ?_
          rw [wi (n := i + 1) (by omega) (by omega)]
          refine ⟨⟨⟨by show 0 ≤ i + 1; omega, by show i + 1 ≤ (n : Int); omega⟩, ?_⟩, by show n - (i + 1).toNat < _; omega⟩
          show Own w0 S R w (tree n t (line st (i + 1).toNat (n - (i + 1).toNat)) ^ emp)
          rw [hi1]; exact h.fin
        · refine w_ite (fun c => (by cases c)) fun _ => ?_
          refine w_ldAll (b := n13) (x := ((i * st, st) : Key)) h rfl ?_
          dsimp only
          rw [wu (n := i) i0 (by omega), wu (n := i * st) hmi.1 hmi.2]
          refine w_ite (fun c => (by simp at c)) fun _ => ?_
          refine w_ldAll (b := n13) (x := ((i * st, st) : Key)) h rfl ?_
          refine w_call (delete_tri t n ((i * st, st) :: line st (i.toNat + 1) (n - (i.toNat + 1))) (i * st, st)) h fun r w h => ?_
          obtain ⟨hr, h⟩ := h.purP
          have e : delK ((i * st, st) :: line st (i.toNat + 1) (n - (i.toNat + 1))) (i * st, st) = (0, line st (i.toNat + 1) (n - (i.toNat + 1))) := by
            unfold delK; rw [if_pos (by simp)]; simp
          rw [e] at hr h
          rw [hr]
          refine w_ite (fun c => (by cases c)) fun _ => ?_
          refine w_call (low_tri t n (line st (i.toNat + 1) (n - (i.toNat + 1)))) h fun r w h => ?_
          obtain ⟨hr, h⟩ := h.purP; rw [hr]
          exact ⟨rfl, h.fin⟩
      · have c : ¬ i < (n : Int) := of_decide_eq_false c
        have hi : n - i.toNat = 0 := by omega
        rw [hi] at h
        refine w_call (len_tri t n (line st i.toNat 0)) h fun r w h => ?_
        obtain ⟨hr, h⟩ := h.purP; rw [hr]
        exact Own.retP rfl h.emp'
/-! ### Turned about -/
end TreeS

end Go.X
