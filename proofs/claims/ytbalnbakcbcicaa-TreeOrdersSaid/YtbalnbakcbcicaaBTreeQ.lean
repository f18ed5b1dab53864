/- Contracts and plain facts: TreeQ. -/
import Derived.Test.YtbalnbakcbcicaaBPlain
import Derived.Test.YtbalnbakcbcicaaBTreeM
import Derived.Test.YtbalnbakcbcicaaBTreeN
import Derived.Test.YtbalnbakcbcicaaBTreeA
import Derived.Test.YtbalnbakcbcicaaBTreeB
import Derived.Test.YtbalnbakcbcicaaBTreeC
import Derived.Test.YtbalnbakcbcicaaBTreeD
import Derived.Test.YtbalnbakcbcicaaBKeys
import Derived.Test.YtbalnbakcbcicaaBTreeF
import Derived.Test.YtbalnbakcbcicaaBTreeL
import Derived.Test.YtbalnbakcbcicaaXw
import Derived.Test.YtbalnbakcbcicaaK
import Derived.Test.YtbalnbakcbcicaaF0
set_option linter.unusedVariables false
set_option linter.unusedSimpArgs false
set_option linter.unusedSectionVars false
namespace Go.X
open Go.Proofs
namespace TreeQ
open _root_.Go.X.Tree TreeA TreeB TreeC TreeD TreeF TreeL
theorem nodup_sub {a b : List Key} (ha : Srt a) (h : ∀ x ∈ a, x ∈ b) : a.length ≤ b.length := List.Nodup.length_le_of_subset ha.nodup h
theorem orders_tri (o : Sl) (zs : List Key) (st : Int) (hz : zs.length ≤ 9223372036854775807) (hN : Nrm o) (hcap : o.len ≤ o.cap) : Tri Try.prog N_canterlaw05_TreeOrders [.lf (.sl o), .lf (.int .i64 st)] [.lf .bool] (rarr o KR zs) (fun r => pur (r = true) emp) :=
  tri_0 (call_canterlaw05_TreeOrders o st) fun w0 S R h => by
    unfold W_canterlaw05_TreeOrders
    have h : Own w0 S R w0 (rarr o KR zs ^ emp) := h.le (star_emp _)
    have hlo := (h.rd (s := o)).2
    refine w_call (new_tri 4096) h fun r w h => ?_
    obtain ⟨t, h⟩ := h.exP
    obtain ⟨hr, h⟩ := h.purP
    rw [hr]
    have hr0 : room 4096 = 4096 := by decide
    rw [hr0] at h
    refine w_call awake_tri h fun r w h => ?_
    obtain ⟨hr, h⟩ := h.purP; rw [hr]
    refine w_ite (fun c => ?_) fun c => ?_
    · refine w_call awake_tri h fun r w h => ?_
      obtain ⟨hr, h⟩ := h.purP; rw [hr]
      exact Own.retP rfl h.emp'
    have c : ¬ ((o.len : Nat) : Int) > 200 := by simpa using c
    have h : Own w0 S R w (tree 4096 t [] ^ rarr o KR zs ^ emp) := h.fin
    refine w_loopE (fun (_ : Int) (ks : List Key) => tree 4096 t ks ^ rarr o KR zs ^ emp) (fun (i : Int) ks => (0 ≤ i ∧ i ≤ zs.length) ∧ (∀ x, x ∈ ks ↔ x ∈ zs.take i.toNat)) (fun (i : Int) _ => zs.length - i.toNat) [] h ⟨⟨by simp, by simp⟩, by simp⟩ ?_
    rintro K (i : Int) ks w ⟨⟨i0, i1⟩, hm⟩ h hK
    obtain ⟨hsrt, hlen⟩ := tree_srt (rm := 4096) (t := t) h
    have hks := nodup_sub hsrt (b := zs.take i.toNat) fun x hx => (hm x).1 hx
    rw [List.length_take] at hks
    refine w_ite (fun c2 => ?_) fun c2 => ?_
    · have c2 : i < ((o.len : Nat) : Int) := of_decide_eq_true c2
      have hi : i.toNat < zs.length := by omega
      have e1 : (i + 1).toNat = i.toNat + 1 := by omega
      refine w_idx (s := o) h i0 hi (w_ldE h o i.toNat (at_some hi) rfl ?_)
      refine w_call (insert_tri t 4096 ks zs[i.toNat]) h fun r w h => ?_
      obtain ⟨hr, h⟩ := h.purP; rw [hr]
      refine w_drw h fun w h => ?_
      rw [wi (n := i + 1) (by omega) (by omega)]
      by_cases hk : zs[i.toNat] ∈ ks
      · have e : insK 4096 ks zs[i.toNat] = (6, ks) := by unfold insK; rw [if_pos hk]
        rw [e] at h ⊢
        refine w_ite (fun _ => ?_) fun c => (by cases c)
        refine w_ite (fun c => (by cases c)) fun _ => ?_
        have h : Own w0 S R w (rarr o KR zs ^ tree 4096 t ks ^ emp) := h.fin
        refine w_idx (s := o) h i0 hi (w_ldE h o i.toNat (at_some hi) rfl ?_)
        refine w_slcR (s := o) h hN 0 i.toNat o.cap rfl rfl (by show i = ((i.toNat : Nat) : Int); omega) rfl (by omega) (by omega) (by omega) (by omega) fun hl1 hrd => ?_
        refine w_chkA h o i.toNat 0 zs[i.toNat] (at_some hi) rfl (by decide) rfl ?_
        refine w_callL (A := emp) (Q := rarr (o.sub 0 i.toNat o.cap 2) KR ((zs.take i.toNat).drop 0)) (hl := ⟨(lend_rarr (o.sub 0 i.toNat o.cap 2) KR ((zs.take i.toNat).drop 0) _ (t := hrd)).lend⟩) (Keys.key_in_tri _ zs[i.toNat] ((zs.take i.toNat).drop 0) (by simp; omega)) h fun r w h => ?_
        obtain ⟨hr, h⟩ := h.purP
        have hr : r = true := hr.2 (by rw [List.drop_zero]; exact (hm _).1 hk)
        rw [hr]
        refine w_ite (fun c => (by cases c)) fun _ => ?_
        refine hK (i + 1) ks w ⟨⟨by omega, by omega⟩, fun x => ?_⟩ h.fin (by show _ - (i + 1).toNat < _; omega)
        rw [e1, List.take_add_one, at_some hi, List.mem_append, hm x]
        simp only [Option.toList_some, List.mem_singleton]
        exact ⟨.inl, fun h => h.elim id fun e => by rw [e]; exact (hm _).1 hk⟩
      · have e : insK 4096 ks zs[i.toNat] = (0, putK ks zs[i.toNat]) := by unfold insK; rw [if_neg hk, if_neg (by omega)]
        rw [e] at h ⊢
        refine w_ite (fun c => (by cases c)) fun _ => ?_
        refine hK (i + 1) (putK ks zs[i.toNat]) w ⟨⟨by omega, by omega⟩, fun x => ?_⟩ h.fin (by show _ - (i + 1).toNat < _; omega)
        rw [e1, List.take_add_one, at_some hi, List.mem_append, mem_put, hm x]
        simp only [Option.toList_some, List.mem_singleton]
        exact Or.comm
    · have c2 : ¬ i < ((o.len : Nat) : Int) := of_decide_eq_false c2
      have hi : i.toNat = zs.length := by omega
      rw [hi, List.take_length] at hm
      rw [hi] at hks
      have ew : IntKind.i64.wrap (((o.len : Nat) : Int) + 1) = ((zs.length : Nat) : Int) + 1 := by rw [hlo]; exact wi (by omega) (by omega)
      rw [ew]
      refine w_call (all_tri _) h fun f w h => ?_
      obtain ⟨n, h⟩ := h.exP
      obtain ⟨hf, h⟩ := h.purP
      rw [hf]
      refine w_call (Keys.key_hall_tri (mkAll n) _ ks ((zs.length : Int) + 1) (all_iter n t 4096 ks) rfl (by omega)) h fun q w h => ?_
      have e : takeN ks ((zs.length : Int) + 1) = ks := by unfold takeN; exact List.take_of_length_le (by omega)
      rw [e] at h
      have h : Own w0 S R w (arr q KR ks ^ tree 4096 t ks ^ rarr o KR zs ^ emp) := h.fin
      have hlq := (h.rd (s := q)).2
      refine w_call (min_tri t 4096 ks) h fun r w h => ?_
      obtain ⟨hr, h⟩ := h.purP; rw [hr]
      refine w_new h fun n16 w h => w_setAll h (by rfl) fun w h => ?_
      -- what is next at a place
      obtain ⟨at', hat⟩ : ∃ at' : Nat → Key × Bool, ∀ j, at' j = match ks[j]? with | some m => (m, true) | none => ((0, 0), false) := ⟨fun j => match ks[j]? with | some m => (m, true) | none => ((0, 0), false), fun j => rfl⟩
      have hat0 : minF ks = at' 0 := by
        rw [hat]
        cases ks with
        | nil => rfl
        | cons k l => rfl
      rw [hat0] at h ⊢
      have h : Own w0 S R w (blk n16 (Ks.mk KR (at' 0).1) ^ arr q KR ks ^ tree 4096 t ks ^ rarr o KR zs ^ emp) := h.fin
      refine w_loop (fun (y : Bool × Int) => blk n16 (Ks.mk KR (at' y.2.toNat).1) ^ arr q KR ks ^ tree 4096 t ks ^ rarr o KR zs ^ emp) (fun (y : Bool × Int) => (0 ≤ y.2 ∧ y.2 ≤ ks.length) ∧ y.1 = (at' y.2.toNat).2) (fun (y : Bool × Int) => ks.length - y.2.toNat) h ⟨⟨by show (0 : Int) ≤ 0; omega, by show (0 : Int) ≤ _; omega⟩, rfl⟩ ?_
      rintro (⟨is, j⟩ : Bool × Int) w ⟨⟨j0, j1⟩, his⟩ h
      dsimp only at j0 j1 his h ⊢
      refine w_ite (fun c3 => ?_) fun c3 => ?_
      · have c3 : j < ((q.len : Nat) : Int) := of_decide_eq_true c3
        have hj : j.toNat < ks.length := by omega
        have ea : at' j.toNat = (ks[j.toNat], true) := by rw [hat, at_some hj]
        rw [ea] at h his
        have his : is = true := his
        rw [his]
        have hmem : ks[j.toNat] ∈ zs := (hm _).1 (List.getElem_mem hj)
        have e1 : (j + 1).toNat = j.toNat + 1 := by omega
        refine w_join h (fun _ => blk n16 (Ks.mk KR ks[j.toNat]) ^ arr q KR ks ^ tree 4096 t ks ^ rarr o KR zs ^ emp) (fun y : Bool => y = false) (fun (y : Bool) w hy h => ?_) ?_
        · rw [hy]
          refine w_ite (fun c => (by cases c)) fun _ => ?_
          refine w_ldAll (b := n16) (x := ks[j.toNat]) h rfl (w_call (next_tri t 4096 ks ks[j.toNat]) h fun r w h => ?_)
          obtain ⟨hr, h⟩ := h.purP; rw [hr]
          have en : nextF ks ks[j.toNat] = at' (j.toNat + 1) := (next_at hsrt (at_some hj)).trans (hat _).symm
          rw [en]
          refine w_setAll h (by rfl) fun w h => ?_
          rw [wi (n := j + 1) (by omega) (by omega)]
          refine ⟨⟨⟨⟨by show (0 : Int) ≤ j + 1; omega, by show j + 1 ≤ _; omega⟩, by show (at' (j.toNat + 1)).2 = (at' (j + 1).toNat).2; rw [e1]⟩, ?_⟩, by show _ - (j + 1).toNat < _; omega⟩
          show Own w0 S R w (blk n16 (Ks.mk KR (at' (j + 1).toNat).1) ^ arr q KR ks ^ tree 4096 t ks ^ rarr o KR zs ^ emp)
          rw [e1]
          exact h.fin
        · refine w_drw h fun w h => w_ite (fun c => (by cases c)) fun _ => ?_
          refine w_ldAll (b := n16) (x := ks[j.toNat]) h rfl (w_idx (s := q) h j0 hj (w_ldE h q j.toNat (at_some hj) rfl ?_))
          refine w_ite (fun c => (by simp at c)) fun _ => ?_
          refine w_ldAll (b := n16) (x := ks[j.toNat]) h rfl ?_
          refine w_callL (A := emp) (Q := rarr o KR zs) (Keys.key_in_tri o ks[j.toNat] zs (by omega)) h fun r w h => ?_
          obtain ⟨hr, h⟩ := h.purP
          have hr : r = true := hr.2 hmem
          rw [hr]
          refine w_ite (fun c => (by cases c)) fun _ => ?_
          refine w_ite (fun c => ?_) fun _ => ?_
          · have c : j > 0 := of_decide_eq_true c
            refine w_ldAll (b := n16) (x := ks[j.toNat]) h rfl ?_
            have ej : IntKind.i64.wrap (j - 1) = ((j.toNat - 1 : Nat) : Int) := by rw [wi (by omega) (by omega)]; omega
            have hj' : j.toNat - 1 < ks.length := by omega
            rw [ej]
            refine w_idx (s := q) h (by omega) (by rw [Int.toNat_natCast]; exact hj') (w_ldE h q (j.toNat - 1) (at_some hj') (by rw [Int.toNat_natCast]; rfl) ?_)
            refine w_call (less_tri ks[j.toNat - 1] ks[j.toNat]) h fun r w h => ?_
            obtain ⟨hr, h⟩ := h.purP
            have hl := (List.pairwise_iff_getElem.1 hsrt) (j.toNat - 1) j.toNat hj' hj (by omega)
            rw [hr, hl]
            exact ⟨rfl, h.fin⟩
          · exact ⟨rfl, h.fin⟩
      · have c3 : ¬ j < ((q.len : Nat) : Int) := of_decide_eq_false c3
        have hj : j.toNat = ks.length := by omega
        have ea : at' j.toNat = ((0, 0), false) := by rw [hat, hj, List.getElem?_eq_none (Nat.le_refl _)]
        rw [ea] at his
        have his : is = false := his
        rw [his]
        refine w_ite (fun _ => ?_) fun c => (by cases c)
        refine w_call (len_tri t 4096 ks) h fun r w h => ?_
        obtain ⟨hr, h⟩ := h.purP; rw [hr]
        refine w_ite (fun _ => ?_) fun c => ?_
        · refine w_call (low_tri t 4096 ks) h fun r w h => ?_
          obtain ⟨hr, h⟩ := h.purP; rw [hr]
          refine w_ite (fun _ => ?_) fun c => (by cases c)
          refine w_call (all_tri _) h fun f w h => ?_
          obtain ⟨n2, h⟩ := h.exP
          obtain ⟨hf, h⟩ := h.purP
          rw [hf]
          have hm20 := modr st (m := 20) (by omega) (by omega)
          generalize IntKind.i64.wrap ((IntKind.u64.wrap st).tmod 20) = v at hm20 ⊢
          rw [wi (n := 1 + v) (by omega) (by omega)]
          refine w_call (Keys.key_hall_tri (mkAll n2) _ ks (1 + v) (all_iter n2 t 4096 ks) rfl (by omega)) h fun q2 w h => ?_
          have h : Own w0 S R w (arr q2 KR (takeN ks (1 + v)) ^ emp) := h.fin
          have hl2 := (h.rd (s := q2)).2
          refine Own.retP ?_ h.emp'
          rw [beq_iff_eq, hl2, hlq]
          unfold takeN
          rw [List.length_take]
          split <;> omega
        · exfalso
          have c : (((q.len : Nat) : Int) == (ks.length : Int)) = false := c
          rw [hlq] at c; simp at c
end TreeQ

end Go.X
