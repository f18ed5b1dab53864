/- Contracts and plain facts: TreeP. -/
import Derived.Test.YtbalnbakcbcicaaBPlain
import Derived.Test.YtbalnbakcbcicaaBTreeM
import Derived.Test.YtbalnbakcbcicaaBTreeN
import Derived.Test.YtbalnbakcbcicaaBTreeA
import Derived.Test.YtbalnbakcbcicaaBTreeB
import Derived.Test.YtbalnbakcbcicaaBTreeC
import Derived.Test.YtbalnbakcbcicaaBTreeD
import Derived.Test.YtbalnbakcbcicaaBTreeE
import Derived.Test.YtbalnbakcbcicaaBKeys
import Derived.Test.YtbalnbakcbcicaaBTreeF
import Derived.Test.YtbalnbakcbcicaaBTreeL
import Derived.Test.YtbalnbakcbcicaaBTreeR
import Derived.Test.YtbalnbakcbcicaaXw
import Derived.Test.YtbalnbakcbcicaaK
import Derived.Test.YtbalnbakcbcicaaF0
set_option linter.unusedVariables false
set_option linter.unusedSimpArgs false
set_option linter.unusedSectionVars false
namespace Go.X
open Go.Proofs
namespace TreeP
open _root_.Go.X.Tree TreeA TreeB TreeC TreeD TreeE TreeF TreeL TreeR
theorem plays_tri (d : Int) (o : Sl) (zs : List (Int × Int × Int)) (a : Key) : Tri Try.prog N_canterlaw05_TreePlays [.lf (.int .i64 d), .lf (.sl o), .agg (Ks.mk [.int .u64, .int .u64] a)] [.lf .bool] (rarr o [.int .i64, .int .u64, .int .u64] zs) (fun r => pur (r = true) emp) :=
  tri_0 (call_canterlaw05_TreePlays d o a) fun w0 S R h => by
    unfold W_canterlaw05_TreePlays
    have hlo := (h.le (star_emp _)).rd (s := o) |>.2
    refine w_new h fun n1 w h => ?_
    refine w_call (new_tri d) h fun r w h => ?_
    obtain ⟨t, h⟩ := h.exP
    obtain ⟨hr, h⟩ := h.purP
    rw [hr]
    refine w_new h fun n3 w h => ?_
    have h := (h.nil KR).mkKeysR d n3 ⟨none, 0, 0⟩ []
    refine w_call awake_tri h fun r w h => ?_
    obtain ⟨hr, h⟩ := h.purP; rw [hr]
    refine w_ite (fun c => (by cases c)) fun _ => ?_
    have h : Own w0 S R w (tree (room d) t [] ^ keysR d n3 [] ^ blk n1 (Ks.mk [.int .u64, .int .u64] a) ^ rarr o [.int .i64, .int .u64, .int .u64] zs) := h.fin
    refine w_loopE (fun (_ : Int) (ks : List Key) => tree (room d) t ks ^ keysR d n3 ks ^ blk n1 (Ks.mk [.int .u64, .int .u64] a) ^ rarr o [.int .i64, .int .u64, .int .u64] zs) (fun (i : Int) _ => 0 ≤ i ∧ i ≤ 120) (fun (i : Int) _ => (120 - i).toNat) [] h ⟨by simp, by simp⟩ ?_
    rintro K (i : Int) ks w ⟨i0, i1⟩ h hK
    obtain ⟨hsrt, hlen⟩ := tree_srt (rm := room d) (t := t) h
    refine w_ite (fun c => ?_) fun c => ?_
    · have c : i < ((o.len : Nat) : Int) ∧ i < 120 := by simpa using c
      have hi : i.toNat < zs.length := by omega
      obtain ⟨z, hz⟩ : ∃ z, zs[i.toNat]? = some z := ⟨_, at_some hi⟩
      obtain ⟨zk, k⟩ := z
      refine w_idx (s := o) h i0 hi (w_ldE h o i.toNat hz rfl ?_)
      refine w_new h fun n9 w h => w_setAll h (by rfl) fun w h => ?_
      obtain ⟨ks', hk'⟩ : ∃ ks', ks' = if zk = 1 then (delK ks k).2 else (insK (room d) ks k).2 := ⟨_, rfl⟩
      have h : Own w0 S R w (blk n9 [.int .i64 zk, .int .u64 k.1, .int .u64 k.2] ^ tree (room d) t ks ^ keysR d n3 ks ^ blk n1 (Ks.mk [.int .u64, .int .u64] a) ^ rarr o [.int .i64, .int .u64, .int .u64] zs) := h
      refine w_join h (fun _ => blk n9 [.int .i64 zk, .int .u64 k.1, .int .u64 k.2] ^ tree (room d) t ks' ^ keysR d n3 ks' ^ blk n1 (Ks.mk [.int .u64, .int .u64] a) ^ rarr o [.int .i64, .int .u64, .int .u64] zs) (fun y : Bool => y = true) (fun (y : Bool) w hy h => ?_) ?_
      · rw [hy]
        obtain ⟨hsrt', hlen'⟩ := tree_srt (rm := room d) (t := t) h
        refine w_call (min_tri t (room d) ks') h fun r w h => ?_
        obtain ⟨hr, h⟩ := h.purP; rw [hr]
        refine w_new h fun n22 w h => w_setAll h (by rfl) fun w h => ?_
        refine w_call (rmin_tri d n3 ks') h fun r w h => ?_
        obtain ⟨hr, h⟩ := h.purP; rw [hr]
        refine w_new h fun n24 w h => w_setAll h (by rfl) fun w h => ?_
        have h : Own w0 S R w (blk n24 (Ks.mk [.int .u64, .int .u64] (minF ks').1) ^ blk n22 (Ks.mk [.int .u64, .int .u64] (minF ks').1) ^ blk n9 [.int .i64 zk, .int .u64 k.1, .int .u64 k.2] ^ tree (room d) t ks' ^ keysR d n3 ks' ^ blk n1 (Ks.mk [.int .u64, .int .u64] a) ^ rarr o [.int .i64, .int .u64, .int .u64] zs) := h.fin
        refine w_join h (fun _ => blk n9 [.int .i64 zk, .int .u64 k.1, .int .u64 k.2] ^ tree (room d) t ks' ^ keysR d n3 ks' ^ blk n1 (Ks.mk [.int .u64, .int .u64] a) ^ rarr o [.int .i64, .int .u64, .int .u64] zs) (fun y : Bool => y = false) (fun (y : Bool) w hy h => ?_) ?_
        · rw [hy]
          refine w_ite (fun c => (by cases c)) fun _ => ?_
          refine w_ld (x := k) h rfl (w_call (next_tri t (room d) ks' k) h fun r w h => ?_)
          obtain ⟨hr, h⟩ := h.purP; rw [hr]
          refine w_new h fun n39 w h => w_setAll h (by rfl) fun w h => ?_
          refine w_ld (p := ⟨n9, 1⟩) (x := k) h rfl (w_call (rnext_tri d n3 ks' (by omega) k) h fun r w h => ?_)
          obtain ⟨hr, h⟩ := h.purP; rw [hr]
          refine w_new h fun n42 w h => w_setAll h (by rfl) fun w h => ?_
          refine w_ldAll (b := n39) (x := (nextF ks' k).1) h rfl (w_ldAll (b := n42) (x := (nextF ks' k).1) h rfl ?_)
          refine w_ite (fun c => (by simp at c)) fun _ => ?_
          rw [wi (n := i + 1) (by omega) (by omega)]
          exact hK (i + 1) ks' w ⟨by omega, by omega⟩ h.fin (by show (120 - (i + 1)).toNat < _; omega)
        · refine w_drw h fun w h => w_ite (fun c => (by cases c)) fun _ => ?_
          refine w_ldAll (b := n22) (x := (minF ks').1) h rfl (w_ldAll (b := n24) (x := (minF ks').1) h rfl ?_)
          refine w_ite (fun c => (by simp at c)) fun _ => w_ite (fun c => (by simp at c)) fun _ => ?_
          obtain ⟨s, h⟩ := h.keysR d n3
          have hls := (h.drop.rd (s := s)).2
          refine w_deref (w_ld h rfl (w_call (len_tri t (room d) ks') h fun r w h => ?_))
          obtain ⟨hr, h⟩ := h.purP; rw [hr]
          refine w_chk h rfl (w_ite (fun c => ?_) fun _ => ?_)
          · have c : ((ks'.length : Int) != ((s.len : Nat) : Int)) = true := c
            rw [hls] at c; simp at c
          refine w_call (low_tri t (room d) ks') h fun r w h => ?_
          obtain ⟨hr, h⟩ := h.purP; rw [hr]
          refine w_ite (fun c => (by cases c)) fun _ => ?_
          refine w_ld (p := ⟨n9, 1⟩) (x := k) h rfl (w_ld (p := ⟨n9, 1⟩) (x := k) h rfl ?_)
          refine w_call (hasI_tri t (room d) ks' k) h fun r w h => ?_
          obtain ⟨hr, h⟩ := h.purP; rw [hr]
          refine w_chk (p := ⟨n9, 1⟩) h rfl ?_
          have h := h.mkKeysR d n3 s ks'
          refine w_call (rhas_tri d n3 ks' (by omega) k) h fun r w h => ?_
          obtain ⟨hr, h⟩ := h.purP; rw [hr]
          exact ⟨by simp, h.fin⟩
      · refine w_ld h rfl (w_ite (fun c => ?_) fun c => ?_)
        · have c : zk = 1 := by simpa using c
          rw [if_pos c] at hk'
          rw [hk']
          refine w_drw h fun w h => w_ld (x := k) h rfl (w_ld (p := ⟨n9, 1⟩) (x := k) h rfl ?_)
          refine w_call (delete_tri t (room d) ks k) h fun r w h => ?_
          obtain ⟨hr, h⟩ := h.purP; rw [hr]
          refine w_chk (p := ⟨n9, 1⟩) h rfl ?_
          refine w_call (rdel_tri d n3 ks hsrt hlen k) h fun r w h => ?_
          obtain ⟨hr, h⟩ := h.purP; rw [hr]
          exact ⟨by simp, h.fin⟩
        · have c : ¬ zk = 1 := by simpa using c
          rw [if_neg c] at hk'
          rw [hk']
          refine w_drw h fun w h => w_ld (x := k) h rfl (w_ld (p := ⟨n9, 1⟩) (x := k) h rfl ?_)
          refine w_call (insert_tri t (room d) ks k) h fun r w h => ?_
          obtain ⟨hr, h⟩ := h.purP; rw [hr]
          refine w_chk (p := ⟨n9, 1⟩) h rfl ?_
          refine w_call (rins_tri d n3 ks hlen k) h fun r w h => ?_
          obtain ⟨hr, h⟩ := h.purP; rw [hr]
          exact ⟨by simp, h.fin⟩
    · refine w_ldAll (b := n1) (x := a) h rfl (w_call (next_tri t (room d) ks a) h fun r w h => ?_)
      obtain ⟨hr, h⟩ := h.purP; rw [hr]
      refine w_new h fun n47 w h => w_setAll h (by rfl) fun w h => ?_
      refine w_ldAll (b := n1) (x := a) h rfl (w_call (rnext_tri d n3 ks (by omega) a) h fun r w h => ?_)
      obtain ⟨hr, h⟩ := h.purP; rw [hr]
      refine w_new h fun n50 w h => w_setAll h (by rfl) fun w h => w_drw h fun w h => ?_
      refine w_ldAll (b := n47) (x := (nextF ks a).1) h rfl (w_ldAll (b := n50) (x := (nextF ks a).1) h rfl ?_)
      refine w_ite (fun _ => ?_) fun c => (by simp at c)
      refine w_ite (fun _ => ?_) fun c => (by simp at c)
      refine w_ldAll (b := n1) (x := a) h rfl (w_ldAll (b := n1) (x := a) h rfl ?_)
      refine w_call (hasI_tri t (room d) ks a) h fun r w h => ?_
      obtain ⟨hr, h⟩ := h.purP; rw [hr]
      refine w_chkAll (b := n1) h ?_
      refine w_call (rhas_tri d n3 ks (by omega) a) h fun r w h => ?_
      obtain ⟨hr, h⟩ := h.purP; rw [hr]
      refine w_ite (fun _ => ?_) fun c => (by simp at c)
      obtain ⟨s, h⟩ := h.keysR d n3
      refine w_deref (w_ld h rfl (w_call (all_tri _) h fun f w h => ?_))
      obtain ⟨n, h⟩ := h.exP
      obtain ⟨hf, h⟩ := h.purP
      rw [hf]
      refine w_chk h rfl (w_call (Keys.key_hall_tri (mkAll n) _ ks 4097 (all_iter n t (room d) ks) rfl (by omega)) h fun r w h => ?_)
      have e : takeN ks 4097 = ks := by unfold takeN; exact List.take_of_length_le (by omega)
      have h : Own w0 S R w (arr r KR (takeN ks 4097) ^ blk n3 [.int .i64 d, .sl s] ^ arr s KR ks ^ emp) := h.fin
      rw [e] at h
      refine w_chk h rfl ?_
      refine w_callL (A := emp) (Q := rarr r KR ks ^ rarr s KR ks) (Keys.key_plain_tri r s ks ks (by omega)) h fun r w h => ?_
      obtain ⟨hr, h⟩ := h.purP
      exact Own.retP (hr.2 rfl) h.emp'
end TreeP

end Go.X
