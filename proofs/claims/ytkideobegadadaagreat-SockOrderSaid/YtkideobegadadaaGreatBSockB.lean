/- Contracts and plain facts: SockA SockB. -/
import Derived.Test.YtkideobegadadaaGreatBArith
import Derived.Test.YtkideobegadadaaGreatBWf
import Derived.Test.YtkideobegadadaaGreatXw
import Derived.Test.YtkideobegadadaaGreatK
import Derived.Test.YtkideobegadadaaGreatF0
import Derived.Test.YtkideobegadadaaGreatF1
set_option linter.unusedVariables false
set_option linter.unusedSimpArgs false
set_option linter.unusedSectionVars false
namespace Go.X
open Go.Proofs
namespace SockA
open Arith ArithC
/-! ### The send buffer: written, next, unacknowledged, room -/
abbrev Bf := Int × Int × Int × Int
abbrev KBf : Ks := [.int .u64, .int .u64, .int .u64, .int .u64]
abbrev bW (b : Bf) : Int := b.1
abbrev bN (b : Bf) : Int := b.2.1
abbrev bU (b : Bf) : Int := b.2.2.1
abbrev bL (b : Bf) : Int := b.2.2.2
structure OkBf (b : Bf) : Prop where
  u : 0 ≤ bU b
  un : bU b ≤ bN b
  nw : bN b ≤ bW b
  l : bW b - bU b ≤ bL b
  ll : bL b ≤ 1073741824
  w : bW b ≤ 4611686018427387904
def wrF (b : Bf) (n : Int) : Int × Bf := if n < 1 then (1, b) else if n > bL b - (bW b - bU b) then (5, b) else (0, (bW b + n, bN b, bU b, bL b))
def tkF (b : Bf) (most : Int) : ((Int × Int) × Bool) × Bf := if most ≥ 1 ∧ bW b - bN b ≠ 0 then (((bN b, bN b + min (bW b - bN b) most), true), (bW b, bN b + min (bW b - bN b) most, bU b, bL b)) else (((0, 0), false), b)
def akF (b : Bf) (upto : Int) : Int × Bf := if upto > bN b then (11, b) else (0, (bW b, bN b, if upto > bU b then upto else bU b, bL b))
theorem OkBf.tk {b : Bf} (h : OkBf b) (most : Int) : OkBf (tkF b most).2 := by
  have h1 := h.u
  have h2 := h.un
  have h3 := h.nw
  unfold tkF
  split
  · exact ⟨h1, by show bU b ≤ bN b + min _ _; omega, by show bN b + min _ _ ≤ bW b; omega, h.l, h.ll, h.w⟩
  · exact h
theorem OkBf.ak {b : Bf} (h : OkBf b) (upto : Int) : OkBf (akF b upto).2 := by
  have h1 := h.u
  have h2 := h.un
  have h3 := h.nw
  have h4 := h.l
  unfold akF
  split
  · exact h
  · refine ⟨?_, ?_, h3, ?_, h.ll, h.w⟩
    · show 0 ≤ if upto > bU b then upto else bU b
      split <;> omega
    · show (if upto > bU b then upto else bU b) ≤ bN b
      split <;> omega
    · show bW b - (if upto > bU b then upto else bU b) ≤ bL b
      split <;> omega
theorem bnew_tri (n : Int) : Tri Tryz.prog N_buffer_New [.lf (.int .i64 n)] [.lf .ptr] emp (fun r => ex fun p : Nat => pur (r = some ⟨p, 0⟩) (blk p (Ks.mk KBf (0, 0, 0, IntKind.u64.wrap (if (1073741824:Int) < (if (0:Int) > n then (0:Int) else n) then (1073741824:Int) else (if (0:Int) > n then (0:Int) else n)))))) :=
  tri_0 (call_buffer_New n) fun w0 S R h => by
    unfold W_buffer_New
    refine w_new h fun p w h => ?_
    exact Own.retE p (Own.retP rfl h.keep)
theorem bunsent_tri (p : Nat) (b : Bf) (hb : OkBf b) : Tri Tryz.prog N_buffer_Buffer_Unsent [.lf (.ptr (some ⟨p, 0⟩))] [.lf (.int .u64)] (blk p (Ks.mk KBf b)) (fun r => pur (r = bW b - bN b) (blk p (Ks.mk KBf b))) :=
  tri_0 (call_buffer_Buffer_Unsent (some ⟨p, 0⟩)) fun w0 S R h => by
    unfold W_buffer_Buffer_Unsent
    have h2 := hb.un
    have h3 := hb.nw
    have h4 := hb.u
    have h5 := hb.w
    refine w_ite (fun c => (by simp at c)) fun _ => w_drw h fun w h => w_deref (w_deref (w_ld h rfl (w_ld h rfl ?_)))
    exact Own.retP (wu (n := bW b - bN b) (by omega) (by omega)) h
theorem bheld_tri (p : Nat) (b : Bf) (hb : OkBf b) : Tri Tryz.prog N_buffer_Buffer_Held [.lf (.ptr (some ⟨p, 0⟩))] [.lf (.int .u64)] (blk p (Ks.mk KBf b)) (fun r => pur (r = bW b - bU b) (blk p (Ks.mk KBf b))) :=
  tri_0 (call_buffer_Buffer_Held (some ⟨p, 0⟩)) fun w0 S R h => by
    unfold W_buffer_Buffer_Held
    have h2 := hb.un
    have h3 := hb.nw
    have h4 := hb.u
    have h5 := hb.w
    refine w_ite (fun c => (by simp at c)) fun _ => w_drw h fun w h => w_deref (w_deref (w_ld h rfl (w_ld h rfl ?_)))
    exact Own.retP (wu (n := bW b - bU b) (by omega) (by omega)) h
theorem bwrite_tri (p : Nat) (b : Bf) (hb : OkBf b) (n : Int) (hn : n < 9223372036854775808) : Tri Tryz.prog N_buffer_Buffer_Write [.lf (.ptr (some ⟨p, 0⟩)), .lf (.int .i64 n)] [.lf (.int .i64)] (blk p (Ks.mk KBf b)) (fun r => pur (r = (wrF b n).1) (blk p (Ks.mk KBf (wrF b n).2))) :=
  tri_0 (call_buffer_Buffer_Write (some ⟨p, 0⟩) n) fun w0 S R h => by
    unfold W_buffer_Buffer_Write
    have h1 := hb.un
    have h2 := hb.nw
    have h3 := hb.u
    have h4 := hb.l
    have h5 := hb.ll
    have h6 := hb.w
    refine w_ite (fun c => (by simp at c)) fun _ => w_ite (fun c => ?_) fun c => ?_
    · have c : n < 1 := of_decide_eq_true c
      have e : wrF b n = (1, b) := by unfold wrF; rw [if_pos c]
      rw [e]
      exact Own.retP rfl h
    have c : ¬ n < 1 := of_decide_eq_false c
    refine w_drw h fun w h => w_deref (w_ld h rfl (w_call (bheld_tri p b hb) h fun r w h => ?_))
    obtain ⟨hr, h⟩ := h.purP; rw [hr]
    refine w_chk h rfl (w_ite (fun c2 => ?_) fun c2 => ?_)
    · have c2 := of_decide_eq_true c2
      have c2 : IntKind.u64.wrap n > IntKind.u64.wrap (bL b - (bW b - bU b)) := c2
      rw [wu (n := n) (by omega) (by omega), wu (n := bL b - (bW b - bU b)) (by omega) (by omega)] at c2
      have e : wrF b n = (5, b) := by unfold wrF; rw [if_neg c, if_pos c2]
      rw [e]
      exact Own.retP rfl h.fin
    · have c2 := of_decide_eq_false c2
      have c2 : ¬ IntKind.u64.wrap n > IntKind.u64.wrap (bL b - (bW b - bU b)) := c2
      rw [wu (n := n) (by omega) (by omega), wu (n := bL b - (bW b - bU b)) (by omega) (by omega)] at c2
      have e : wrF b n = (0, (bW b + n, bN b, bU b, bL b)) := by unfold wrF; rw [if_neg c, if_neg c2]
      rw [e]
      have ew : IntKind.u64.wrap (bW b + IntKind.u64.wrap n) = bW b + n := by rw [wu (n := n) (by omega) (by omega)]; exact wu (by omega) (by omega)
      refine w_deref (w_ld h rfl (w_deref ?_))
      rw [show IntKind.u64.wrap (b.1 + IntKind.u64.wrap n) = bW b + n from ew]
      refine w_setTo h p (Ks.mk KBf (bW b + n, bN b, bU b, bL b)) rfl rfl rfl fun w h => ?_
      exact Own.retP rfl h.fin
theorem btake_tri (p : Nat) (b : Bf) (hb : OkBf b) (most : Int) (hm : most < 9223372036854775808) : Tri Tryz.prog N_buffer_Buffer_Take [.lf (.ptr (some ⟨p, 0⟩)), .lf (.int .i64 most)] [.agg [.int .u64, .int .u64], .lf .bool] (blk p (Ks.mk KBf b)) (fun r => pur (r = (tkF b most).1) (blk p (Ks.mk KBf (tkF b most).2))) :=
  tri_0 (call_buffer_Buffer_Take (some ⟨p, 0⟩) most) fun w0 S R h => by
    unfold W_buffer_Buffer_Take
    have h1 := hb.un
    have h2 := hb.nw
    have h3 := hb.u
    have h6 := hb.w
    refine w_new h fun n1 w h => w_new h fun n2 w h => w_setAll h (by rfl) fun w h => ?_
    refine w_join h (fun _ => blk n1 [.int .u64 0, .int .u64 0] ^ blk n2 [.int .u64 (tkF b most).1.1.1, .int .u64 (tkF b most).1.1.2] ^ blk p (Ks.mk KBf (tkF b most).2)) (fun y : Bool => y = (tkF b most).1.2) (fun (y : Bool) w hy h => ?_) ?_
    · refine w_ldAll (b := n2) (x := (tkF b most).1.1) h rfl (w_setAll h (by rfl) fun w h => w_ldAll (b := n1) (x := (tkF b most).1.1) h rfl ?_)
      refine Own.retP ?_ h.fin
      rw [hy]
    · have no : ∀ {w : World}, ¬ (most ≥ 1 ∧ bW b - bN b ≠ 0) → Own w0 S R w (blk n1 [.int .u64 0, .int .u64 0] ^ blk n2 [.int .u64 0, .int .u64 0] ^ blk p (Ks.mk KBf b)) → (fun y : Bool => y = (tkF b most).1.2) false ∧ Own w0 S R w (blk n1 [.int .u64 0, .int .u64 0] ^ blk n2 [.int .u64 (tkF b most).1.1.1, .int .u64 (tkF b most).1.1.2] ^ blk p (Ks.mk KBf (tkF b most).2)) := fun {w} c h => by
        have e : tkF b most = (((0, 0), false), b) := by unfold tkF; rw [if_neg c]
        rw [e]
        exact ⟨rfl, h⟩
      have h : Own w0 S R w (blk n1 [.int .u64 0, .int .u64 0] ^ blk n2 [.int .u64 0, .int .u64 0] ^ blk p (Ks.mk KBf b)) := h.fin
      refine w_loop (fun _ : Bool => blk n1 [.int .u64 0, .int .u64 0] ^ blk n2 [.int .u64 0, .int .u64 0] ^ blk p (Ks.mk KBf b)) (fun y : Bool => y = false) (fun _ => 0) h rfl ?_
      rintro (y : Bool) w hy h
      rw [hy]
      refine w_ite (fun c => ?_) fun c => ?_
      · have c : most ≥ 1 := of_decide_eq_true c
        refine w_call (bunsent_tri p b hb) h fun r w h => ?_
        obtain ⟨hr, h⟩ := h.purP; rw [hr]
        have ek : (if bW b - bN b < IntKind.u64.wrap most then bW b - bN b else IntKind.u64.wrap most) = min (bW b - bN b) most := by
          rw [wu (n := most) (by omega) (by omega)]
          split <;> omega
        rw [ek]
        refine w_ite (fun c2 => ?_) fun c2 => ?_
        · have c2 : min (bW b - bN b) most = 0 := by simpa using c2
          exact no (by omega) h.fin
        · have c2 : ¬ min (bW b - bN b) most = 0 := by simpa using c2
          have e : tkF b most = (((bN b, bN b + min (bW b - bN b) most), true), (bW b, bN b + min (bW b - bN b) most, bU b, bL b)) := by unfold tkF; rw [if_pos ⟨c, by omega⟩]
          have ew : IntKind.u64.wrap (bN b + min (bW b - bN b) most) = bN b + min (bW b - bN b) most := wu (by omega) (by omega)
          rw [e]
          refine w_drw h fun w h => w_deref (w_deref (w_ld h rfl (w_ld h rfl ?_)))
          rw [show IntKind.u64.wrap (b.2.1 + min (bW b - bN b) most) = bN b + min (bW b - bN b) most from ew]
          refine w_setAll h (by rfl) fun w h => w_deref (w_ld h rfl (w_deref ?_))
          rw [show IntKind.u64.wrap (b.2.1 + min (bW b - bN b) most) = bN b + min (bW b - bN b) most from ew]
          refine w_setTo h p (Ks.mk KBf (bW b, bN b + min (bW b - bN b) most, bU b, bL b)) rfl rfl rfl fun w h => ?_
          exact ⟨rfl, h.fin⟩
      · have c : ¬ most ≥ 1 := of_decide_eq_false c
        exact no (fun x => c x.1) h
theorem backed_tri (p : Nat) (b : Bf) (upto : Int) : Tri Tryz.prog N_buffer_Buffer_Acked [.lf (.ptr (some ⟨p, 0⟩)), .lf (.int .u64 upto)] [.lf (.int .i64)] (blk p (Ks.mk KBf b)) (fun r => pur (r = (akF b upto).1) (blk p (Ks.mk KBf (akF b upto).2))) :=
  tri_0 (call_buffer_Buffer_Acked (some ⟨p, 0⟩) upto) fun w0 S R h => by
    unfold W_buffer_Buffer_Acked
    refine w_ite (fun c => (by simp at c)) fun _ => w_deref (w_ld h rfl (w_ite (fun c => ?_) fun c => ?_))
    · have c : upto > bN b := of_decide_eq_true c
      have e : akF b upto = (11, b) := by unfold akF; rw [if_pos c]
      rw [e]
      exact Own.retP rfl h
    · have c : ¬ upto > bN b := of_decide_eq_false c
      have e : akF b upto = (0, (bW b, bN b, if upto > bU b then upto else bU b, bL b)) := by unfold akF; rw [if_neg c]
      rw [e]
      refine w_deref (w_ld h rfl (w_deref (w_setTo h p (Ks.mk KBf (bW b, bN b, if upto > bU b then upto else bU b, bL b)) rfl rfl rfl fun w h => ?_)))
      exact Own.retP rfl h.fin
end SockA

namespace SockB
open Arith ArithC
/-! ### The sampler: delivered, when, first sent, limited till, and what a sample is made of: whether there is one, how much, delivered and when before, limited, what it took to send and to acknowledge -/
abbrev Sp := Int × Int × Int × Int × Bool × Int × Int × Int × Bool × Int × Int
abbrev KSp : Ks := [.int .u64, .int .u64, .int .u64, .int .u64, .bool, .int .u64, .int .u64, .int .u64, .bool, .int .u64, .int .u64]
abbrev KSn : Ks := [.int .u64, .int .u64, .int .u64, .int .u64, .bool]
abbrev Sn := Int × Int × Int × Int × Bool
abbrev KSa : Ks := [.int .u64, .int .u64, .int .u64, .int .u64, .int .u64, .int .u64, .int .u64, .int .u64, .bool]
abbrev Sa := Int × Int × Int × Int × Int × Int × Int × Int × Bool
abbrev pD (s : Sp) : Int := s.1
abbrev pT (s : Sp) : Int := s.2.1
abbrev pF (s : Sp) : Int := s.2.2.1
abbrev pL (s : Sp) : Int := s.2.2.2.1
abbrev pH (s : Sp) : Bool := s.2.2.2.2.1
abbrev pG (s : Sp) : Int := s.2.2.2.2.2.1
abbrev pPd (s : Sp) : Int := s.2.2.2.2.2.2.1
abbrev pPt (s : Sp) : Int := s.2.2.2.2.2.2.2.1
abbrev pPl (s : Sp) : Bool := s.2.2.2.2.2.2.2.2.1
abbrev pSi (s : Sp) : Int := s.2.2.2.2.2.2.2.2.2.1
abbrev pAi (s : Sp) : Int := s.2.2.2.2.2.2.2.2.2.2
structure OkSp (s : Sp) : Prop where
  d : U (pD s)
  t : U (pT s)
  f : U (pF s)
  l : U (pL s)
  g : U (pG s)
  pd : U (pPd s)
  pt : U (pPt s)
  si : U (pSi s)
  ai : U (pAi s)
def sp0 : Sp := (0, 0, 0, 0, false, 0, 0, 0, false, 0, 0)
theorem sp0_ok : OkSp sp0 := ⟨U_lit 0, U_lit 0, U_lit 0, U_lit 0, U_lit 0, U_lit 0, U_lit 0, U_lit 0, U_lit 0⟩
def touch (s : Sp) (now flight : Int) : Sp := if flight = 0 then (pD s, now, now, pL s, pH s, pG s, pPd s, pPt s, pPl s, pSi s, pAi s) else s
def sentP (s : Sp) (now flight : Int) : Sn × Sp := ((now, pD (touch s now flight), pT (touch s now flight), pF (touch s now flight), decide (pL (touch s now flight) ≠ 0)), touch s now flight)
def limitP (s : Sp) (flight : Int) : Sp := (pD s, pT s, pF s, (if addI (pD s) flight > 1 then addI (pD s) flight else 1), pH s, pG s, pPd s, pPt s, pPl s, pSi s, pAi s)
def longI (a b : Int) : Int := if b ≤ (if a ≤ 0 then 0 else a) then (if a ≤ 0 then 0 else a) else b
def takeP (s : Sp) (now lost flight : Int) : Sa × Sp := (if pH s then (now, pD s, pPd s, longI (pSi s) (subI now (pPt s)), pAi s, pG s, lost, flight, pPl s) else (now, pD s, 0, 0, 0, 0, lost, flight, false), (pD s, pT s, pF s, pL s, false, 0, 0, 0, false, 0, 0))
theorem new_tri : Tri Tryz.prog N_sampler_New [] [.lf .ptr] emp (fun r => ex fun p : Nat => pur (r = some ⟨p, 0⟩) (blk p (Ks.mk KSp sp0))) :=
  tri_0 call_sampler_New fun w0 S R h => by
    unfold W_sampler_New
    refine w_new h fun p w h => ?_
    exact Own.retE p (Own.retP rfl h.keep)
theorem sent_tri (p : Nat) (s : Sp) (now flight : Int) : Tri Tryz.prog N_sampler_Sampler_Sent [.lf (.ptr (some ⟨p, 0⟩)), .lf (.int .u64 now), .lf (.int .u64 flight)] [.agg KSn] (blk p (Ks.mk KSp s)) (fun r => pur (r = (sentP s now flight).1) (blk p (Ks.mk KSp (sentP s now flight).2))) :=
  tri_0 (call_sampler_Sampler_Sent (some ⟨p, 0⟩) now flight) fun w0 S R h => by
    unfold W_sampler_Sampler_Sent
    refine w_new h fun n1 w h => w_ite (fun c => (by simp at c)) fun _ => ?_
    refine w_join h (fun _ => blk n1 [.int .u64 0, .int .u64 0, .int .u64 0, .int .u64 0, .bool false] ^ blk p (Ks.mk KSp (touch s now flight))) (fun _ => True) (fun _ w _ h => ?_) ?_
    · refine w_drw h fun w h => w_deref (w_deref (w_deref (w_deref (w_ld h rfl (w_ld h rfl (w_ld h rfl (w_ld h rfl ?_)))))))
      have eb : ((touch s now flight).2.2.2.1 != (0 : Int)) = decide (pL (touch s now flight) ≠ 0) := by
        rw [Bool.eq_iff_iff]; simp
      rw [eb]
      refine w_setAll h (by rfl) fun w h => w_ldAll (b := n1) (x := (sentP s now flight).1) h rfl ?_
      refine Own.retP rfl ?_
      rw [show (sentP s now flight).2 = touch s now flight from rfl]
      exact h.fin
    · refine w_ite (fun c => ?_) fun c => ?_
      · have c : flight = 0 := by simpa using c
        have e : touch s now flight = (pD s, now, now, pL s, pH s, pG s, pPd s, pPt s, pPl s, pSi s, pAi s) := by unfold touch; rw [if_pos c]
        rw [e]
        refine w_deref (w_setTo h p (Ks.mk KSp (pD s, pT s, now, pL s, pH s, pG s, pPd s, pPt s, pPl s, pSi s, pAi s)) rfl rfl rfl fun w h => ?_)
        refine w_deref (w_setTo h p (Ks.mk KSp (pD s, now, now, pL s, pH s, pG s, pPd s, pPt s, pPl s, pSi s, pAi s)) rfl rfl rfl fun w h => ?_)
        exact ⟨trivial, h.fin⟩
      · have c : ¬ flight = 0 := by simpa using c
        have e : touch s now flight = s := by unfold touch; rw [if_neg c]
        rw [e]
        exact ⟨trivial, h⟩
theorem limit_tri (p : Nat) (s : Sp) (hs : OkSp s) (flight : Int) (hf : U flight) : Tri Tryz.prog N_sampler_Sampler_Limit [.lf (.ptr (some ⟨p, 0⟩)), .lf (.int .u64 flight)] [] (blk p (Ks.mk KSp s)) (fun _ => blk p (Ks.mk KSp (limitP s flight))) :=
  tri_0 (call_sampler_Sampler_Limit (some ⟨p, 0⟩) flight) fun w0 S R h => by
    unfold W_sampler_Sampler_Limit
    refine w_ite (fun _ => ?_) fun c => (by simp at c)
    refine w_deref (w_ld h rfl (w_call (satadd_tri (pD s) flight hs.d hf) h fun r w h => ?_))
    obtain ⟨hr, h⟩ := h.purP; rw [hr]
    refine w_deref (w_setTo h p (Ks.mk KSp (limitP s flight)) rfl rfl rfl fun w h => ?_)
    exact h.fin
theorem longest_tri (sl : Sl) (a b : Int) : Tri Tryz.prog N_sampler_longest [.lf (.sl sl)] [.lf (.int .u64)] (emp ^ rarr sl KU [a, b]) (fun r => pur (r = longI a b) emp) :=
  tri_0 (call_sampler_longest sl) fun w0 S R h => by
    unfold W_sampler_longest
    have h : Own w0 S R w0 (rarr sl KU [a, b] ^ emp) := h.fin
    have hs : sl.len = 2 := (h.rd (s := sl)).2
    have e1 : IntKind.i64.wrap ((0:Int) + 1) = 1 := rfl
    have e2 : IntKind.i64.wrap ((1:Int) + 1) = 2 := rfl
    obtain ⟨m, hm⟩ : ∃ m, m = if a ≤ 0 then 0 else a := ⟨_, rfl⟩
    refine w_loop (fun _ : Int × Int => rarr sl KU [a, b] ^ emp) (fun y : Int × Int => y = (0, 0) ∨ y = (m, 1) ∨ y = (longI a b, 2)) (fun y : Int × Int => (2 - y.2).toNat) h (.inl rfl) ?_
    rintro (y : Int × Int) w hy h
    rcases hy with rfl | rfl | rfl
    · refine w_ite (fun _ => ?_) fun c => (by rw [hs] at c; cases c)
      refine w_idx (s := sl) h (by decide) (by simp) (w_ldE h sl 0 (y := a) rfl rfl ?_)
      dsimp only
      rw [e1]
      refine w_ite (fun c => ?_) fun c => ?_
      · have c : a ≤ 0 := of_decide_eq_true c
        rw [if_pos c] at hm
        exact ⟨⟨.inr (.inl (by rw [hm])), h⟩, by show (2 - (1:Int)).toNat < (2 - (0:Int)).toNat; omega⟩
      · have c : ¬ a ≤ 0 := of_decide_eq_false c
        rw [if_neg c] at hm
        exact ⟨⟨.inr (.inl (by rw [hm])), h⟩, by show (2 - (1:Int)).toNat < (2 - (0:Int)).toNat; omega⟩
    · refine w_ite (fun _ => ?_) fun c => (by rw [hs] at c; cases c)
      refine w_idx (s := sl) h (show (0 : Int) ≤ 1 by decide) (by show 1 < 2; decide) (w_ldE h sl 1 (y := b) rfl rfl ?_)
      dsimp only
      rw [e2]
      refine w_ite (fun c => ?_) fun c => ?_
      · have c : b ≤ m := of_decide_eq_true c
        have e : longI a b = m := by unfold longI; rw [← hm, if_pos c]
        exact ⟨⟨.inr (.inr (by rw [e])), h⟩, by show (2 - (2:Int)).toNat < (2 - (1:Int)).toNat; omega⟩
      · have c : ¬ b ≤ m := of_decide_eq_false c
        have e : longI a b = b := by unfold longI; rw [← hm, if_neg c]
        exact ⟨⟨.inr (.inr (by rw [e])), h⟩, by show (2 - (2:Int)).toNat < (2 - (1:Int)).toNat; omega⟩
    · refine w_ite (fun c => (by rw [hs] at c; cases c)) fun _ => ?_
      exact Own.retP rfl h.emp'
/-! ### Segments' sizes, and how much may be below -/
def clampM (m : Int) : Int := if 9000 < (if 100 > m then 100 else m) then 9000 else (if 100 > m then 100 else m)
theorem clampM_r (m : Int) : 100 ≤ clampM m ∧ clampM m ≤ 9000 := by unfold clampM; (repeat' split) <;> omega
def tsoF (rate mss : Int) : Int := (if (if rate / 1024 / clampM mss < 2 then 2 else rate / 1024 / clampM mss) > 65536 / clampM mss then 65536 / clampM mss else (if rate / 1024 / clampM mss < 2 then 2 else rate / 1024 / clampM mss)) * clampM mss
theorem tso_r (rate mss : Int) (hr : 0 ≤ rate) : 200 ≤ tsoF rate mss ∧ tsoF rate mss ≤ 65536 := by
  have hm := clampM_r mss
  have hk : 7 ≤ 65536 / clampM mss := by rw [Int.le_ediv_iff_mul_le (by omega)]; omega
  have hk2 : 65536 / clampM mss * clampM mss ≤ 65536 := Int.ediv_mul_le _ (by omega)
  obtain ⟨y, hy⟩ : ∃ y, y = (if (if rate / 1024 / clampM mss < 2 then 2 else rate / 1024 / clampM mss) > 65536 / clampM mss then 65536 / clampM mss else (if rate / 1024 / clampM mss < 2 then 2 else rate / 1024 / clampM mss)) := ⟨_, rfl⟩
  have hy2 : 2 ≤ y ∧ y ≤ 65536 / clampM mss := by rw [hy]; (repeat' split) <;> omega
  have e : tsoF rate mss = y * clampM mss := by unfold tsoF; rw [← hy]
  rw [e]
  have h1 : 2 * clampM mss ≤ y * clampM mss := Int.mul_le_mul_of_nonneg_right hy2.1 (by omega)
  have h2 : y * clampM mss ≤ 65536 / clampM mss * clampM mss := Int.mul_le_mul_of_nonneg_right hy2.2 (by omega)
  omega
theorem tso_tri (rate mss : Int) (hr : U rate) : Tri Tryz.prog N_tso_Size [.lf (.int .u64 rate), .lf (.int .i64 mss)] [.lf (.int .i64)] emp (fun r => pur (r = tsoF rate mss) emp) :=
  tri_0 (call_tso_Size rate mss) fun w0 S R h => by
    unfold W_tso_Size
    have hm := clampM_r mss
    unfold U at hr
    have em : IntKind.u64.wrap (if (9000:Int) < (if (100:Int) > mss then (100:Int) else mss) then (9000:Int) else (if (100:Int) > mss then (100:Int) else mss)) = clampM mss := wu (n := clampM mss) (by omega) (by omega)
    rw [em]
    have ht := tso_r rate mss hr.1
    have hk : 7 ≤ 65536 / clampM mss := by rw [Int.le_ediv_iff_mul_le (by omega)]; omega
    have hk9 : 65536 / clampM mss ≤ 65536 := Int.ediv_le_self _ (by decide)
    have eq1 : IntKind.u64.wrap (rate.tdiv 1024) = rate / 1024 := by rw [Int.tdiv_eq_ediv_of_nonneg hr.1]; exact wu (by omega) (by omega)
    have hq0 : 0 ≤ rate / 1024 / clampM mss := Int.ediv_nonneg (by omega) (by omega)
    have hq1 : rate / 1024 / clampM mss ≤ rate / 1024 := Int.ediv_le_self _ (by omega)
    have eq2 : IntKind.u64.wrap ((rate / 1024).tdiv (clampM mss)) = rate / 1024 / clampM mss := by rw [Int.tdiv_eq_ediv_of_nonneg (by omega)]; exact wu (by omega) (by omega)
    have eq3 : IntKind.u64.wrap ((65536 : Int).tdiv (clampM mss)) = 65536 / clampM mss := by rw [Int.tdiv_eq_ediv_of_nonneg (by decide)]; exact wu (by omega) (by omega)
    rw [eq1, eq2, eq3]
    obtain ⟨y0, hy0⟩ : ∃ y0, y0 = rate / 1024 / clampM mss := ⟨_, rfl⟩
    obtain ⟨k, hkk⟩ : ∃ k, k = 65536 / clampM mss := ⟨_, rfl⟩
    have et : tsoF rate mss = (if (if y0 < 2 then 2 else y0) > k then k else (if y0 < 2 then 2 else y0)) * clampM mss := by unfold tsoF; rw [← hy0, ← hkk]
    rw [← hy0, ← hkk]
    rw [← hkk] at hk hk9
    refine ⟨by omega, ?_⟩
    refine w_loop (fun _ : Int => emp) (fun y : Int => 0 ≤ y ∧ (if (if y < 2 then 2 else y) > k then k else (if y < 2 then 2 else y)) = (if (if y0 < 2 then 2 else y0) > k then k else (if y0 < 2 then 2 else y0))) (fun y : Int => if y < 2 then 2 else if y > k then 1 else 0) h ⟨by rw [hy0]; exact hq0, rfl⟩ ?_
    rintro (y : Int) w ⟨hy, hye⟩ h
    refine w_ite (fun c => ?_) fun c => ?_
    · have c : y < 2 := of_decide_eq_true c
      refine ⟨⟨⟨by decide, ?_⟩, h⟩, ?_⟩
      · rw [← hye, if_pos c]; rfl
      · rw [if_pos c, if_neg (by decide), if_neg (by omega)]; decide
    · have c : ¬ y < 2 := of_decide_eq_false c
      rw [if_neg c] at hye
      refine ⟨by omega, w_ite (fun c2 => ?_) fun c2 => ?_⟩
      · have c2 : y > k := of_decide_eq_true c2
        rw [if_pos c2] at hye
        refine ⟨by omega, ⟨⟨by omega, ?_⟩, h⟩, ?_⟩
        · rw [if_neg (show ¬ k < 2 by omega), if_neg (by omega)]; exact hye
        · rw [if_neg (show ¬ k < 2 by omega), if_neg (by omega), if_neg c, if_pos c2]; decide
      · have c2 : ¬ y > k := of_decide_eq_false c2
        rw [if_neg c2] at hye
        refine Own.retP ?_ h
        rw [et, ← hye] at ht ⊢
        rw [wu (n := y * clampM mss) (by omega) (by omega), wi (n := y * clampM mss) (by omega) (by omega)]
def belowF (rate tso most : Int) : Int := longI (2 * tso) (if most < rate / 1024 then most else rate / 1024)
theorem below_tri (rate tso most : Int) (hr : U rate) (ht : 0 ≤ tso ∧ tso ≤ 65536) (hm : 0 ≤ most ∧ most ≤ 1073741824) : Tri Tryz.prog N_tsq_Limit [.lf (.int .u64 rate), .lf (.int .i64 tso), .lf (.int .i64 most)] [.lf (.int .u64)] emp (fun r => pur (r = belowF rate tso most) emp) :=
  tri_0 (call_tsq_Limit rate tso most) fun w0 S R h => by
    unfold W_tsq_Limit
    unfold U at hr
    have e1 : IntKind.i64.wrap ((0:Int) + 1) = 1 := rfl
    have e2 : IntKind.i64.wrap ((1:Int) + 1) = 2 := rfl
    have ea : IntKind.u64.wrap ((2:Int) * (IntKind.u64.wrap (if (0:Int) > tso then (0:Int) else tso))) = 2 * tso := by
      rw [if_neg (by omega), wu (n := tso) (by omega) (by omega)]
      exact wu (by omega) (by omega)
    have eb : (if (IntKind.u64.wrap (if (0:Int) > most then (0:Int) else most)) < (IntKind.u64.wrap (rate.tdiv (1024:Int))) then (IntKind.u64.wrap (if (0:Int) > most then (0:Int) else most)) else (IntKind.u64.wrap (rate.tdiv (1024:Int)))) = if most < rate / 1024 then most else rate / 1024 := by
      rw [if_neg (show ¬ (0 : Int) > most by omega), wu (n := most) (by omega) (by omega), Int.tdiv_eq_ediv_of_nonneg hr.1, wu (n := rate / 1024) (by omega) (by omega)]
    rw [ea, eb]
    obtain ⟨x, hx⟩ : ∃ x, x = 2 * tso := ⟨_, rfl⟩
    obtain ⟨z, hz⟩ : ∃ z, z = if most < rate / 1024 then most else rate / 1024 := ⟨_, rfl⟩
    have eL : belowF rate tso most = longI x z := by unfold belowF; rw [← hx, ← hz]
    rw [← hx, ← hz, eL]
    obtain ⟨m, hmm⟩ : ∃ m, m = if x ≤ 0 then 0 else x := ⟨_, rfl⟩
    refine w_loop (fun _ : Int × Int => emp) (fun y : Int × Int => y = (0, 0) ∨ y = (m, 1) ∨ y = (longI x z, 2)) (fun y : Int × Int => (2 - y.2).toNat) h (.inl rfl) ?_
    rintro (y : Int × Int) w hy h
    rcases hy with rfl | rfl | rfl
    · refine w_ite (fun _ => ?_) fun c => (by cases c)
      refine ⟨⟨by show (0:Int) ≤ 0; decide, by show (0:Int) < 2; decide⟩, (x : Int), rfl, ?_⟩
      dsimp only
      rw [e1]
      refine w_ite (fun c => ?_) fun c => ?_
      · have c : x ≤ 0 := of_decide_eq_true c
        rw [if_pos c] at hmm
        exact ⟨⟨.inr (.inl (by rw [hmm])), h⟩, by show (2 - (1:Int)).toNat < (2 - (0:Int)).toNat; omega⟩
      · have c : ¬ x ≤ 0 := of_decide_eq_false c
        rw [if_neg c] at hmm
        exact ⟨⟨.inr (.inl (by rw [hmm])), h⟩, by show (2 - (1:Int)).toNat < (2 - (0:Int)).toNat; omega⟩
    · refine w_ite (fun _ => ?_) fun c => (by cases c)
      refine ⟨⟨by show (0:Int) ≤ 1; decide, by show (1:Int) < 2; decide⟩, (z : Int), rfl, ?_⟩
      dsimp only
      rw [e2]
      refine w_ite (fun c => ?_) fun c => ?_
      · have c : z ≤ m := of_decide_eq_true c
        have e : longI x z = m := by unfold longI; rw [← hmm, if_pos c]
        exact ⟨⟨.inr (.inr (by rw [e])), h⟩, by show (2 - (2:Int)).toNat < (2 - (1:Int)).toNat; omega⟩
      · have c : ¬ z ≤ m := of_decide_eq_false c
        have e : longI x z = z := by unfold longI; rw [← hmm, if_neg c]
        exact ⟨⟨.inr (.inr (by rw [e])), h⟩, by show (2 - (2:Int)).toNat < (2 - (1:Int)).toNat; omega⟩
    · refine w_ite (fun c => (by cases c)) fun _ => ?_
      exact Own.retP rfl h
theorem may_tri (out limit : Int) : Tri Tryz.prog N_tsq_May [.lf (.int .u64 out), .lf (.int .u64 limit)] [.lf .bool] emp (fun r => pur (r = decide (out < limit)) emp) :=
  tri_0 (call_tsq_May out limit) fun w0 S R h => by
    unfold W_tsq_May
    exact Own.retP rfl h
end SockB


end Go.X
