/- Contracts and plain facts: TreeR. -/
import Derived.Test.YtbalnbakcbcicaaBPlain
import Derived.Test.YtbalnbakcbcicaaBTreeM
import Derived.Test.YtbalnbakcbcicaaBTreeN
import Derived.Test.YtbalnbakcbcicaaBTreeA
import Derived.Test.YtbalnbakcbcicaaBTreeB
import Derived.Test.YtbalnbakcbcicaaBTreeC
import Derived.Test.YtbalnbakcbcicaaBTreeD
import Derived.Test.YtbalnbakcbcicaaBTreeE
import Derived.Test.YtbalnbakcbcicaaBKeys
import Derived.Test.YtbalnbakcbcicaaBTreeF
import Derived.Test.YtbalnbakcbcicaaBTreeL
import Derived.Test.YtbalnbakcbcicaaXw
import Derived.Test.YtbalnbakcbcicaaK
import Derived.Test.YtbalnbakcbcicaaF0
set_option linter.unusedVariables false
set_option linter.unusedSimpArgs false
set_option linter.unusedSectionVars false
namespace Go.X
open Go.Proofs
namespace TreeR
open _root_.Go.X.Tree TreeA TreeB TreeC TreeD TreeE TreeF TreeL
def keysR (n : Int) (b : Nat) (ks : List Key) : SP := ex fun s : Sl => blk b [.int .i64 n, .sl s] ^ arr s KR ks
instance (n : Int) (b : Nat) (ks : List Key) : NoR (keysR n b ks) := by unfold keysR; infer_instance
theorem _root_.Go.X.Own.keysR {w0 w : World} {S0 R0 : Nat → Prop} {F G : SP} {ks : List Key} (h : Own w0 S0 R0 w F) (n : Int) (b : Nat) [t : TakeK (TreeR.keysR n) b F ks G] : ∃ s, Own w0 S0 R0 w (blk b [.int .i64 n, .sl s] ^ arr s KR ks ^ G) := by
  obtain ⟨s, h⟩ := (h.le t.le).exP
  exact ⟨s, h.le (star_assoc _ _ _)⟩
theorem _root_.Go.X.Own.mkKeysR {w0 w : World} {S0 R0 : Nat → Prop} {F G : SP} (h : Own w0 S0 R0 w F) (n : Int) (b : Nat) (s : Sl) (ks : List Key) [t : Take (blk b [.int .i64 n, .sl s] ^ arr s KR ks) F G] : Own w0 S0 R0 w (TreeR.keysR n b ks ^ G) :=
  (h.le t.le).toEx (f := fun s : Sl => blk b [.int .i64 n, .sl s] ^ arr s KR ks) s
section
variable (n : Int) (b : Nat) (ks : List Key)
theorem rhas_tri (hl : ks.length ≤ 4294967296) (k : Key) : Tri Try.prog N_canterref04_Keys_Has [.lf (.ptr (some ⟨b, 0⟩)), .agg (Ks.mk [.int .u64, .int .u64] k)] [.lf .bool] (keysR n b ks) (fun r => pur (r = decide (k ∈ ks)) (keysR n b ks)) :=
  tri_0 (call_canterref04_Keys_Has _ k) fun w0 S R h => by
    unfold W_canterref04_Keys_Has
    obtain ⟨s, h⟩ := h.keysR n b
    refine w_new h fun n1 w h => w_drw h fun w h => w_ldAll (x := k) h rfl (w_deref (w_ld h rfl ?_))
    refine w_callL (A := emp) (Q := rarr s KR ks) (Keys.key_in_tri s k ks hl) h fun r w h => ?_
    obtain ⟨hr, h⟩ := h.purP
    refine Own.retP ?_ (h.mkKeysR n b s ks).keep
    rw [Bool.eq_iff_iff, decide_eq_true_eq]; exact hr
theorem rmin_tri : Tri Try.prog N_canterref04_Keys_Min [.lf (.ptr (some ⟨b, 0⟩))] [.agg [.int .u64, .int .u64], .lf .bool] (keysR n b ks) (fun r => pur (r = minF ks) (keysR n b ks)) :=
  tri_0 (call_canterref04_Keys_Min _) fun w0 S R h => by
    unfold W_canterref04_Keys_Min
    obtain ⟨s, h⟩ := h.keysR n b
    have hl := (h.drop.rd (s := s)).2
    refine w_new h fun n1 w h => w_deref (w_ld h rfl (w_ite (fun c => ?_) fun c => ?_))
    · have c : ((s.len : Nat) : Int) = 0 := by simpa using c
      have hk : ks = [] := List.eq_nil_of_length_eq_zero (by omega)
      refine w_setAll h (by rfl) fun w h => w_ldAll (b := n1) (x := ((0, 0) : Int × Int)) h rfl ?_
      exact Own.retP (by rw [hk]; rfl) (h.mkKeysR n b s ks).keep
    · have c : ((s.len : Nat) : Int) ≠ 0 := by simpa using c
      obtain ⟨k, l, hk⟩ : ∃ k l, ks = k :: l := by
        cases ks with
        | nil => simp at hl; omega
        | cons k l => exact ⟨k, l, rfl⟩
      refine w_deref (w_ld h rfl (w_idx (s := s) h (by omega) (by rw [hk]; simp) (w_ldE h s 0 (y := k) (by rw [hk]; rfl) rfl ?_)))
      refine w_setAll h (by rfl) fun w h => w_ldAll (b := n1) (x := k) h rfl ?_
      exact Own.retP (by rw [hk]; rfl) (h.mkKeysR n b s ks).keep
theorem rnext_tri (hl : ks.length ≤ 4294967296) (k : Key) : Tri Try.prog N_canterref04_Keys_Next [.lf (.ptr (some ⟨b, 0⟩)), .agg (Ks.mk [.int .u64, .int .u64] k)] [.agg [.int .u64, .int .u64], .lf .bool] (keysR n b ks) (fun r => pur (r = nextF ks k) (keysR n b ks)) :=
  tri_0 (call_canterref04_Keys_Next _ k) fun w0 S R h => by
    unfold W_canterref04_Keys_Next
    obtain ⟨s, h⟩ := h.keysR n b
    have hls := (h.drop.rd (s := s)).2
    refine w_new h fun n1 w h => w_new h fun n2 w h => ?_
    refine w_loop (fun _ : Int => blk n2 [.int .u64 (0:Int), .int .u64 (0:Int)] ^ blk n1 (Ks.mk [.int .u64, .int .u64] k) ^ blk b [.int .i64 n, .sl s] ^ arr s KR ks) (fun i : Int => (0 ≤ i ∧ i ≤ ks.length) ∧ ks.find? (klt k) = (ks.drop i.toNat).find? (klt k)) (fun i : Int => ks.length - i.toNat) h.fin ⟨⟨Int.le_refl 0, by show (0:Int) ≤ _; omega⟩, rfl⟩ ?_
    rintro (i : Int) w ⟨⟨i0, i1⟩, hf⟩ h
    refine w_deref (w_ld h rfl (w_ite (fun c => ?_) fun c => ?_))
    · have c : i < ((s.len : Nat) : Int) := of_decide_eq_true c
      have hi : i.toNat < ks.length := by omega
      refine w_drw h fun w h => w_ldAll (b := n1) (x := k) h rfl (w_deref (w_ld h rfl (w_idx (s := s) h i0 hi (w_ldE h s i.toNat (at_some hi) rfl ?_))))
      refine w_call (less_tri k ks[i.toNat]) h fun r w h => ?_
      obtain ⟨hr, h⟩ := h.purP; rw [hr]
      rw [List.drop_eq_getElem_cons hi] at hf
      refine w_ite (fun c2 => ?_) fun c2 => ?_
      · refine w_deref (w_ld h rfl (w_idx (s := s) h i0 hi (w_ldE h s i.toNat (at_some hi) rfl ?_)))
        refine w_setAll h (by rfl) fun w h => w_ldAll (b := n2) (x := ks[i.toNat]) h rfl ?_
        refine Own.retP ?_ (h.mkKeysR n b s ks).keep
        unfold nextF
        rw [hf, List.find?_cons_of_pos c2]
      · rw [List.find?_cons_of_neg (by rw [c2]; simp)] at hf
        have e : (i + 1).toNat = i.toNat + 1 := by omega
        rw [wi (n := i + 1) (by omega) (by omega)]
        exact ⟨⟨⟨⟨by show 0 ≤ i + 1; omega, by show i + 1 ≤ _; omega⟩, by show _ = (ks.drop (i + 1).toNat).find? _; rw [e]; exact hf⟩, h.fin⟩, by show _ - (i + 1).toNat < _; omega⟩
    · have c : ¬ i < ((s.len : Nat) : Int) := of_decide_eq_false c
      have hi : i.toNat = ks.length := by omega
      rw [hi, List.drop_length] at hf
      refine w_setAll h (by rfl) fun w h => w_ldAll (b := n2) (x := ((0, 0) : Int × Int)) h rfl ?_
      refine Own.retP ?_ (h.mkKeysR n b s ks).keep
      unfold nextF
      rw [hf]; rfl
theorem rplace_tri (hl : ks.length ≤ 4294967296) (k : Key) : Tri Try.prog N_canterref04_Keys_place [.lf (.ptr (some ⟨b, 0⟩)), .agg (Ks.mk [.int .u64, .int .u64] k)] [.lf (.int .i64)] (keysR n b ks) (fun r => pur (r = ((ks.takeWhile (fun m => klt m k)).length : Int)) (keysR n b ks)) :=
  tri_0 (call_canterref04_Keys_place _ k) fun w0 S R h => by
    unfold W_canterref04_Keys_place
    obtain ⟨s, h⟩ := h.keysR n b
    have hls := (h.drop.rd (s := s)).2
    refine w_new h fun n1 w h => ?_
    refine w_loop (fun _ : Int => blk n1 (Ks.mk [.int .u64, .int .u64] k) ^ blk b [.int .i64 n, .sl s] ^ arr s KR ks) (fun i : Int => (0 ≤ i ∧ i ≤ ks.length) ∧ (ks.takeWhile (fun m => klt m k)).length = i.toNat + ((ks.drop i.toNat).takeWhile (fun m => klt m k)).length) (fun i : Int => ks.length - i.toNat) h.fin ⟨⟨Int.le_refl 0, by show (0:Int) ≤ _; omega⟩, by simp⟩ ?_
    rintro (i : Int) w ⟨⟨i0, i1⟩, hf⟩ h
    refine w_drw h fun w h => w_deref (w_ld h rfl (w_ite (fun c => ?_) fun c => ?_))
    · have c : i < ((s.len : Nat) : Int) := of_decide_eq_true c
      have hi : i.toNat < ks.length := by omega
      refine w_ldAll (b := n1) (x := k) h rfl (w_deref (w_ld h rfl (w_idx (s := s) h i0 hi (w_ldE h s i.toNat (at_some hi) rfl ?_))))
      refine w_call (less_tri ks[i.toNat] k) h fun r w h => ?_
      obtain ⟨hr, h⟩ := h.purP; rw [hr]
      rw [List.drop_eq_getElem_cons hi] at hf
      refine w_ite (fun c2 => ?_) fun c2 => ?_
      · have c2 : klt ks[i.toNat] k = true := c2
        simp only [List.takeWhile_cons, c2, if_true, List.length_cons] at hf
        have e : (i + 1).toNat = i.toNat + 1 := by omega
        rw [wi (n := i + 1) (by omega) (by omega)]
        exact ⟨⟨⟨⟨by show 0 ≤ i + 1; omega, by show i + 1 ≤ _; omega⟩, by show _ = (i + 1).toNat + ((ks.drop (i + 1).toNat).takeWhile _).length; rw [e]; omega⟩, h.fin⟩, by show _ - (i + 1).toNat < _; omega⟩
      · have c2 : klt ks[i.toNat] k = false := c2
        simp only [List.takeWhile_cons, c2, Bool.false_eq_true, if_false, List.length_nil] at hf
        exact Own.retP (by show (i : Int) = ((ks.takeWhile (fun m => klt m k)).length : Int); omega) (h.mkKeysR n b s ks).keep
    · have c : ¬ i < ((s.len : Nat) : Int) := of_decide_eq_false c
      have hi : i.toNat = ks.length := by omega
      rw [hi, List.drop_length, List.takeWhile_nil, List.length_nil] at hf
      exact Own.retP (by show (i : Int) = ((ks.takeWhile (fun m => klt m k)).length : Int); omega) (h.mkKeysR n b s ks).keep
theorem take_place (k : Key) : ks.take (ks.takeWhile (fun m => klt m k)).length = ks.takeWhile (fun m => klt m k) := by
  have e := List.takeWhile_append_dropWhile (p := fun m => klt m k) (l := ks)
  conv => lhs; arg 2; rw [← e]
  rw [List.take_left]
theorem drop_place (k : Key) : ks.drop (ks.takeWhile (fun m => klt m k)).length = ks.dropWhile (fun m => klt m k) := by
  have e := List.takeWhile_append_dropWhile (p := fun m => klt m k) (l := ks)
  conv => lhs; arg 2; rw [← e]
  rw [List.drop_left]
theorem w_both {A B : WP} {w : World} (h : A w) (k : B w) : both A B w := ⟨h, k⟩
theorem rins_tri (hl : ks.length ≤ 4096) (k : Key) : Tri Try.prog N_canterref04_Keys_Insert [.lf (.ptr (some ⟨b, 0⟩)), .agg (Ks.mk [.int .u64, .int .u64] k)] [.lf (.int .i64)] (keysR n b ks) (fun r => pur (r = (insK (room n) ks k).1) (keysR n b (insK (room n) ks k).2)) :=
  tri_0 (call_canterref04_Keys_Insert _ k) fun w0 S R h => by
    unfold W_canterref04_Keys_Insert insK
    refine w_new h fun n1 w h => w_ldAll (x := k) h rfl ?_
    refine w_call (rhas_tri n b ks (by omega) k) h fun r w h => ?_
    obtain ⟨hr, h⟩ := h.purP; rw [hr]
    refine w_ite (fun c => ?_) fun c => ?_
    · rw [if_pos (of_decide_eq_true c)]
      exact Own.retP rfl h.keep
    rw [if_neg (of_decide_eq_false c)]
    obtain ⟨s, h⟩ := h.keysR n b
    have hls := (h.drop.rd (s := s)).2
    refine w_drw h fun w h => w_deref (w_deref (w_ld h rfl (w_ld h rfl ?_)))
    have er : (if (if (4096:Int) < n then (4096:Int) else n) > (0:Int) then (if (4096:Int) < n then (4096:Int) else n) else (0:Int)) = room n := by unfold room; (repeat' split) <;> omega
    dsimp only
    rw [er]
    refine w_ite (fun c => ?_) fun c => ?_
    · have c : ((s.len : Nat) : Int) ≥ room n := of_decide_eq_true c
      rw [if_pos (by omega)]
      exact Own.retP rfl (h.mkKeysR n b s ks).keep
    have c : ¬ ((s.len : Nat) : Int) ≥ room n := of_decide_eq_false c
    rw [if_neg (by omega)]
    have h := h.mkKeysR n b s ks
    refine w_ldAll (b := n1) (x := k) h rfl ?_
    refine w_call (rplace_tri n b ks (by omega) k) h fun r w h => ?_
    obtain ⟨hr, h⟩ := h.purP; rw [hr]
    obtain ⟨s, h⟩ := h.keysR n b
    have hls := (h.drop.rd (s := s)).2
    obtain ⟨p, hp⟩ : ∃ p, p = (ks.takeWhile (fun m => klt m k)).length := ⟨_, rfl⟩
    have htk : ks.take p = ks.takeWhile (fun m => klt m k) := by rw [hp]; exact take_place ks k
    have hdk : ks.drop p = ks.dropWhile (fun m => klt m k) := by rw [hp]; exact drop_place ks k
    have hpl : p ≤ ks.length := by rw [hp, ← htk, List.length_take]; omega
    unfold putK
    rw [← hp, ← htk, ← hdk]
    clear hr htk hdk hp
    have hN : Nrm s := (h.drop).nrm s
    have hcap := own_cap (s := s) h.drop
    have h := h.nil KR
    have h : Own w0 S R w (arr ⟨none, 0, 0⟩ KR [] ^ blk b [.int .i64 n, .sl s] ^ arr s KR ks ^ blk n1 (Ks.mk [.int .u64, .int .u64] k) ^ emp) := h.fin
    refine w_drw h fun w h => w_ldAll (b := n1) (x := k) h rfl (w_deref (w_deref (w_ld h rfl (w_ld h rfl ?_))))
    repeat' (first
      | (refine w_chkAll (b := n1) h ?_)
      | (refine w_chk h rfl ?_)
      | (refine w_slcR (s := s) h hN 0 p s.cap rfl rfl rfl rfl (by omega) (by omega) (by omega) (by omega) fun _ _ => ?_)
      | (refine w_slcR (s := s) h hN p ks.length s.cap rfl rfl hls.symm rfl (by omega) (by omega) (by omega) (by omega) fun _ _ => ?_)
      | (refine w_app (s := ⟨none, 0, 0⟩) (x := s.sub 0 p s.cap 2) (r := rd_sub s _ KR ks 0 p s.cap (by omega) (by omega) (by omega)) h rfl (by simp; omega) fun s16 w _ h => ?_; have h := h.arrEq (s := s16) (K := KR) (ys := ks.take p) (by simp))
      | (refine w_new h fun n17 w h => ?_; have h := h.blkArr n17 KR [k] rfl (by simp))
      | (refine w_app (x := ⟨some ⟨_, 0⟩, 1, 1⟩) h rfl (by simp; omega) fun s18 w _ h => ?_)
      | (refine w_app (x := s.sub p ks.length s.cap 2) (r := rd_sub s _ KR ks p ks.length s.cap (by omega) (by omega) (by omega)) h rfl (by simp; omega) fun s20 w _ h => ?_; have h := h.arrEq (s := s20) (K := KR) (ys := ks.take p ++ k :: ks.drop p) (by simp))
      | (refine w_deref ?_)
      | (refine w_set h rfl fun w h => ?_; dsimp only [upd, over] at h; exact Own.retP rfl (h.mkKeysR n b s20 (ks.take p ++ k :: ks.drop p)).keep)
      | (refine w_both ?_ ?_))
/-- The place of a key that is there. -/
theorem del_place (hs : Srt ks) {k : Key} (hk : k ∈ ks) : (ks.takeWhile (fun m => klt m k)).length < ks.length ∧ ks.erase k = ks.take (ks.takeWhile (fun m => klt m k)).length ++ ks.drop ((ks.takeWhile (fun m => klt m k)).length + 1) := by
  obtain ⟨a, c, rfl⟩ := List.append_of_mem hk
  have hm := hs.mid (m := k)
  have e : (a ++ k :: c).takeWhile (fun m => klt m k) = a := by
    rw [List.takeWhile_append_of_pos (fun x hx => hm.1 x hx), List.takeWhile_cons_of_neg (by simp [klt_irr]), List.append_nil]
  have hna : k ∉ a := fun hx => by have := hm.1 k hx; rw [klt_irr] at this; cases this
  rw [e, erase_mid hna]
  constructor
  · simp
  · rw [List.take_left]
    congr 1
    have : a.length + 1 = (a ++ [k]).length := by simp
    have e2 : a ++ k :: c = (a ++ [k]) ++ c := by simp
    rw [e2, this, List.drop_left]
theorem rdel_tri (hs : Srt ks) (hl : ks.length ≤ 4096) (k : Key) : Tri Try.prog N_canterref04_Keys_Delete [.lf (.ptr (some ⟨b, 0⟩)), .agg (Ks.mk [.int .u64, .int .u64] k)] [.lf (.int .i64)] (keysR n b ks) (fun r => pur (r = (delK ks k).1) (keysR n b (delK ks k).2)) :=
  tri_0 (call_canterref04_Keys_Delete _ k) fun w0 S R h => by
    unfold W_canterref04_Keys_Delete delK
    refine w_new h fun n1 w h => w_ldAll (x := k) h rfl ?_
    refine w_call (rhas_tri n b ks (by omega) k) h fun r w h => ?_
    obtain ⟨hr, h⟩ := h.purP; rw [hr]
    refine w_ite (fun c => ?_) fun c => ?_
    · have c : k ∉ ks := by simpa using c
      rw [if_neg c]
      exact Own.retP rfl h.keep
    have c : k ∈ ks := by simpa using c
    rw [if_pos c]
    refine w_ldAll (b := n1) (x := k) h rfl ?_
    refine w_call (rplace_tri n b ks (by omega) k) h fun r w h => ?_
    obtain ⟨hr, h⟩ := h.purP; rw [hr]
    obtain ⟨s, h⟩ := h.keysR n b
    have hls := (h.drop.rd (s := s)).2
    obtain ⟨hpl, he⟩ := del_place ks hs c
    rw [he]
    obtain ⟨p, hp⟩ : ∃ p, p = (ks.takeWhile (fun m => klt m k)).length := ⟨_, rfl⟩
    rw [← hp] at hpl ⊢
    clear hr he hp
    have hN : Nrm s := (h.drop).nrm s
    have hcap := own_cap (s := s) h.drop
    have h := h.nil KR
    have h : Own w0 S R w (arr ⟨none, 0, 0⟩ KR [] ^ blk b [.int .i64 n, .sl s] ^ arr s KR ks ^ blk n1 (Ks.mk [.int .u64, .int .u64] k) ^ emp) := h.fin
    have ew : IntKind.i64.wrap ((p : Int) + 1) = ((p + 1 : Nat) : Int) := by rw [wi (by omega) (by omega)]; omega
    rw [ew]
    refine w_drw h fun w h => w_deref (w_deref (w_ld h rfl (w_ld h rfl ?_)))
    repeat' (first
      | (refine w_chkAll (b := n1) h ?_)
      | (refine w_chk h rfl ?_)
      | (refine w_slcR (s := s) h hN 0 p s.cap rfl rfl rfl rfl (by omega) (by omega) (by omega) (by omega) fun _ _ => ?_)
      | (refine w_slcR (s := s) h hN (p + 1) ks.length s.cap rfl rfl hls.symm rfl (by omega) (by omega) (by omega) (by omega) fun _ _ => ?_)
      | (refine w_app (s := ⟨none, 0, 0⟩) (x := s.sub 0 p s.cap 2) (r := rd_sub s _ KR ks 0 p s.cap (by omega) (by omega) (by omega)) h rfl (by simp; omega) fun s16 w _ h => ?_; have h := h.arrEq (s := s16) (K := KR) (ys := ks.take p) (by simp))
      | (refine w_app (x := s.sub (p + 1) ks.length s.cap 2) (r := rd_sub s _ KR ks (p + 1) ks.length s.cap (by omega) (by omega) (by omega)) h rfl (by simp; omega) fun s20 w _ h => ?_; have h := h.arrEq (s := s20) (K := KR) (ys := ks.take p ++ ks.drop (p + 1)) (by simp))
      | (refine w_deref ?_)
      | (refine w_set h rfl fun w h => ?_; dsimp only [upd, over] at h; exact Own.retP rfl (h.mkKeysR n b s20 (ks.take p ++ ks.drop (p + 1))).keep)
      | (refine w_both ?_ ?_))
end
end TreeR

end Go.X
