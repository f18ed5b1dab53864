/- Contracts and plain facts: TreeS. -/
import Derived.Test.YtbalnbakcbcicaaBPlain
import Derived.Test.YtbalnbakcbcicaaBTreeM
import Derived.Test.YtbalnbakcbcicaaBTreeN
import Derived.Test.YtbalnbakcbcicaaBTreeA
import Derived.Test.YtbalnbakcbcicaaBTreeB
import Derived.Test.YtbalnbakcbcicaaBTreeC
import Derived.Test.YtbalnbakcbcicaaBTreeD
import Derived.Test.YtbalnbakcbcicaaBTreeE
import Derived.Test.YtbalnbakcbcicaaBKeys
import Derived.Test.YtbalnbakcbcicaaBTreeF
import Derived.Test.YtbalnbakcbcicaaBTreeL
import Derived.Test.YtbalnbakcbcicaaBTreeQ
import Derived.Test.YtbalnbakcbcicaaXw
import Derived.Test.YtbalnbakcbcicaaK
import Derived.Test.YtbalnbakcbcicaaF0
set_option linter.unusedVariables false
set_option linter.unusedSimpArgs false
set_option linter.unusedSectionVars false
namespace Go.X
open Go.Proofs
namespace TreeS
open _root_.Go.X.Tree TreeA TreeB TreeC TreeD TreeE TreeF TreeL TreeQ
/-! ### Lines of keys -/
/-! ### Turned about -/
theorem turned_tri (d o : Sl) (zs : List Key) (gs : List Bool) (hgs : gs.length ≤ 9223372036854775807) (hzs : zs.length ≤ 9223372036854775807) : Tri Try.prog N_canterlaw05_TreeTurned [.lf (.sl d), .lf (.sl o)] [.lf .bool] (rarr d KR zs ^ rarr o KB gs) (fun r => pur (r = true) emp) :=
  tri_0 (call_canterlaw05_TreeTurned d o) fun w0 S R h => by
    unfold W_canterlaw05_TreeTurned
    have h : Own w0 S R w0 (rarr d KR zs ^ rarr o KB gs ^ emp) := h.le (star_mono Le.rfl (star_emp _))
    have hld := (h.rd (s := d)).2
    have hlo := (h.drop.rd (s := o)).2
    refine w_ite (fun c => ?_) fun c => ?_
    · refine w_call awake_tri h fun r w h => ?_
      obtain ⟨hr, h⟩ := h.purP; rw [hr]
      exact Own.retP rfl h.emp'
    have c : ¬ ((d.len : Nat) : Int) > 100 := of_decide_eq_false c
    have hr0 : room 200 = 200 := by decide
    refine w_call (new_tri 200) h fun r w h => ?_
    obtain ⟨tx, h⟩ := h.exP
    obtain ⟨hr, h⟩ := h.purP
    rw [hr]
    refine w_call (new_tri 200) h fun r w h => ?_
    obtain ⟨ty, h⟩ := h.exP
    obtain ⟨hr, h⟩ := h.purP
    rw [hr]
    rw [hr0] at h
    refine w_call awake_tri h fun r w h => ?_
    obtain ⟨hr, h⟩ := h.purP; rw [hr]
    refine w_ite (fun c => (by cases c)) fun _ => ?_
    obtain ⟨n, hn⟩ : ∃ n : Nat, n = zs.length := ⟨_, rfl⟩
    have hdn : ((d.len : Nat) : Int) = (n : Int) := by omega
    rw [hdn] at c ⊢
    have hw1 : IntKind.i64.wrap ((n : Int) - 1) = (n : Int) - 1 := wi (by omega) (by omega)
    rw [hw1]
    have ins : ∀ (ks : List Key) (k : Key), ks.length < 200 → (∀ x, x ∈ (insK 200 ks k).2 ↔ x = k ∨ x ∈ ks) := fun ks k hl x => by
      unfold insK
      split
      · rename_i hk
        exact ⟨.inr, fun h => h.elim (fun e => e ▸ hk) id⟩
      · rw [if_neg (by omega)]; exact mem_put ks k x
    have h : Own w0 S R w (tree 200 tx [] ^ tree 200 ty [] ^ rarr d KR zs ^ rarr o KB gs ^ emp) := h.fin
    refine w_loopE (fun (_ : Int) (x : List Key × List Key) => tree 200 tx x.1 ^ tree 200 ty x.2 ^ rarr d KR zs ^ rarr o KB gs ^ emp) (fun (i : Int) (x : List Key × List Key) => (0 ≤ i ∧ i ≤ n) ∧ (∀ k, k ∈ x.1 ↔ k ∈ zs.take i.toNat) ∧ ∀ k, k ∈ x.2 ↔ k ∈ zs.drop (n - i.toNat)) (fun (i : Int) _ => n - i.toNat) ([], []) h ⟨⟨by simp, by show (0 : Int) ≤ n; omega⟩, by simp, fun k => by simp [hn]⟩ ?_
    rintro K (i : Int) ⟨kx, ky⟩ w ⟨⟨i0, i1⟩, hx, hy⟩ h hK
    dsimp only at hx hy h
    have hsx := (tree_srt (rm := 200) (t := tx) h).1
    have hsy := (tree_srt (rm := 200) (t := ty) h.drop).1
    refine w_ite (fun c2 => ?_) fun c2 => ?_
    · have c2 : i < (n : Int) := of_decide_eq_true c2
      have hi : i.toNat < zs.length := by omega
      have hi2 : n - 1 - i.toNat < zs.length := by omega
      have e1 : (i + 1).toNat = i.toNat + 1 := by omega
      have ek : IntKind.i64.wrap ((n : Int) - 1 - i) = ((n - 1 - i.toNat : Nat) : Int) := by rw [wi (by omega) (by omega)]; omega
      have hlx := nodup_sub hsx (b := zs.take i.toNat) fun k hk => (hx k).1 hk
      have hly := nodup_sub hsy (b := zs.drop (n - i.toNat)) fun k hk => (hy k).1 hk
      rw [List.length_take] at hlx
      rw [List.length_drop] at hly
      have h : Own w0 S R w (rarr d KR zs ^ tree 200 tx kx ^ tree 200 ty ky ^ rarr o KB gs ^ emp) := h.fin
      refine w_idx (s := d) h i0 hi (w_ldE h d i.toNat (at_some hi) rfl ?_)
      refine w_call (insert_tri tx 200 kx zs[i.toNat]) h fun r w h => ?_
      obtain ⟨hr, h⟩ := h.purP
      have h : Own w0 S R w (rarr d KR zs ^ tree 200 tx (insK 200 kx zs[i.toNat]).2 ^ tree 200 ty ky ^ rarr o KB gs ^ emp) := h.fin
      rw [ek]
      refine w_idx (s := d) h (by omega) (by rw [Int.toNat_natCast]; exact hi2) (w_ldE h d (n - 1 - i.toNat) (at_some hi2) (by rw [Int.toNat_natCast]; rfl) ?_)
      refine w_call (insert_tri ty 200 ky zs[n - 1 - i.toNat]) h fun r w h => ?_
      obtain ⟨hr, h⟩ := h.purP
      rw [wi (n := i + 1) (by omega) (by omega)]
      refine hK (i + 1) ((insK 200 kx zs[i.toNat]).2, (insK 200 ky zs[n - 1 - i.toNat]).2) w ⟨⟨by omega, by omega⟩, fun k => ?_, fun k => ?_⟩ h.fin (by show n - (i + 1).toNat < _; omega)
      · rw [ins kx _ (by omega), hx k, e1, List.take_add_one, at_some hi, List.mem_append]
        simp only [Option.toList_some, List.mem_singleton]
        exact Or.comm
      · rw [ins ky _ (by omega), hy k, e1, show n - (i.toNat + 1) = n - 1 - i.toNat by omega, List.drop_eq_getElem_cons hi2, List.mem_cons, show n - 1 - i.toNat + 1 = n - i.toNat by omega]
    have c2 : ¬ i < (n : Int) := of_decide_eq_false c2
    have hin : i.toNat = n := by omega
    rw [hin] at hx hy
    have hx : ∀ k, k ∈ kx ↔ k ∈ zs := fun k => by rw [hx k, List.take_of_length_le (by omega)]
    have hy : ∀ k, k ∈ ky ↔ k ∈ zs := fun k => by rw [hy k, Nat.sub_self, List.drop_zero]
    clear hin i0 i1 c2 hK
    -- which are gone
    obtain ⟨gn, hgn⟩ : ∃ gn : Nat → Key → Prop, ∀ j k, gn j k ↔ gs[j]? = some true ∧ zs[j]? = some k := ⟨fun j k => gs[j]? = some true ∧ zs[j]? = some k, fun _ _ => Iff.rfl⟩
    have del : ∀ (ks : List Key) (k : Key), Srt ks → (∀ x, x ∈ (delK ks k).2 ↔ x ≠ k ∧ x ∈ ks) := fun ks k hs x => by
      unfold delK
      split
      · exact (hs.nodup.mem_erase_iff)
      · rename_i hk
        exact ⟨fun h => ⟨fun e => hk (e ▸ h), h⟩, fun h => h.2⟩
    refine w_loopE (fun (_ : Int) (x : List Key × List Key) => tree 200 tx x.1 ^ tree 200 ty x.2 ^ rarr d KR zs ^ rarr o KB gs ^ emp) (fun (i : Int) (x : List Key × List Key) => (0 ≤ i ∧ i ≤ n) ∧ (∀ k, k ∈ x.1 ↔ k ∈ zs ∧ ∀ j, j < i.toNat → ¬ gn j k) ∧ ∀ k, k ∈ x.2 ↔ k ∈ zs ∧ ∀ j, n - i.toNat ≤ j → ¬ gn j k) (fun (i : Int) _ => n - i.toNat) (kx, ky) h ⟨⟨by simp, by show (0 : Int) ≤ n; omega⟩, fun k => by simpa using hx k, fun k => ?_⟩ ?_
    · rw [hy k]
      refine ⟨fun hk => ⟨hk, fun j hj hg => ?_⟩, fun hk => hk.1⟩
      have := (List.getElem?_eq_some_iff.1 ((hgn j k).1 hg).2).1
      have hj : n - 0 ≤ j := hj
      omega
    clear hx hy hsx hsy h
    rintro K (i : Int) ⟨kx, ky⟩ w ⟨⟨i0, i1⟩, hx, hy⟩ h hK
    dsimp only at hx hy h
    have hsx := (tree_srt (rm := 200) (t := tx) h).1
    have hsy := (tree_srt (rm := 200) (t := ty) h.drop).1
    refine w_ite (fun c2 => ?_) fun c2 => ?_
    · have c2 : i < (n : Int) := of_decide_eq_true c2
      have hi : i.toNat < zs.length := by omega
      have hi2 : n - 1 - i.toNat < zs.length := by omega
      have e1 : (i + 1).toNat = i.toNat + 1 := by omega
      have ek : IntKind.i64.wrap ((n : Int) - 1 - i) = ((n - 1 - i.toNat : Nat) : Int) := by rw [wi (by omega) (by omega)]; omega
      rw [ek]
      obtain ⟨kx', hkx'⟩ : ∃ kx', kx' = if gs[i.toNat]? = some true then (delK kx zs[i.toNat]).2 else kx := ⟨_, rfl⟩
      have h : Own w0 S R w (rarr o KB gs ^ tree 200 tx kx ^ tree 200 ty ky ^ rarr d KR zs ^ emp) := h.fin
      refine w_join h (fun _ => rarr o KB gs ^ tree 200 tx kx' ^ tree 200 ty ky ^ rarr d KR zs ^ emp) (fun _ => True) (fun _ w _ h => ?_) ?_
      · refine w_join h (fun _ => rarr o KB gs ^ tree 200 tx kx' ^ tree 200 ty ky ^ rarr d KR zs ^ emp) (fun y : Bool => y = true ↔ gs[n - 1 - i.toNat]? = some true) (fun (y : Bool) w hy2 h => ?_) ?_
        · rw [wi (n := i + 1) (by omega) (by omega)]
          have hx' : ∀ k, k ∈ kx' ↔ k ∈ zs ∧ ∀ j, j < (i + 1).toNat → ¬ gn j k := fun k => by
            rw [hkx', e1]
            split
            · rename_i hg
              rw [del kx _ hsx, hx k]
              constructor
              · rintro ⟨h1, h2, h3⟩
                refine ⟨h2, fun j hj hgk => ?_⟩
                by_cases e : j = i.toNat
                · subst e
                  have := ((hgn _ k).1 hgk).2
                  rw [at_some hi] at this
                  exact h1 (Option.some.inj this).symm
                · exact h3 j (by omega) hgk
              · rintro ⟨h2, h3⟩
                refine ⟨fun e => h3 i.toNat (by omega) ((hgn _ _).2 ⟨hg, by rw [e, at_some hi]⟩), h2, fun j hj => h3 j (by omega)⟩
            · rename_i hg
              rw [hx k]
              refine ⟨fun ⟨h2, h3⟩ => ⟨h2, fun j hj hgk => ?_⟩, fun ⟨h2, h3⟩ => ⟨h2, fun j hj => h3 j (by omega)⟩⟩
              by_cases e : j = i.toNat
              · subst e; exact hg ((hgn _ k).1 hgk).1
              · exact h3 j (by omega) hgk
          have hy' : ∀ (ky' : List Key), (gs[n - 1 - i.toNat]? = some true → ky' = (delK ky zs[n - 1 - i.toNat]).2) → (gs[n - 1 - i.toNat]? ≠ some true → ky' = ky) → ∀ k, k ∈ ky' ↔ k ∈ zs ∧ ∀ j, n - (i + 1).toNat ≤ j → ¬ gn j k := fun ky' q1 q2 k => by
            rw [e1]
            by_cases hg : gs[n - 1 - i.toNat]? = some true
            · rw [q1 hg, del ky _ hsy, hy k]
              constructor
              · rintro ⟨h1, h2, h3⟩
                refine ⟨h2, fun j hj hgk => ?_⟩
                by_cases e : j = n - 1 - i.toNat
                · subst e
                  have := ((hgn _ k).1 hgk).2
                  rw [at_some hi2] at this
                  exact h1 (Option.some.inj this).symm
                · exact h3 j (by omega) hgk
              · rintro ⟨h2, h3⟩
                refine ⟨fun e => h3 (n - 1 - i.toNat) (by omega) ((hgn _ _).2 ⟨hg, by rw [e, at_some hi2]⟩), h2, fun j hj => h3 j (by omega)⟩
            · rw [q2 hg, hy k]
              refine ⟨fun ⟨h2, h3⟩ => ⟨h2, fun j hj hgk => ?_⟩, fun ⟨h2, h3⟩ => ⟨h2, fun j hj => h3 j (by omega)⟩⟩
              by_cases e : j = n - 1 - i.toNat
              · subst e; exact hg ((hgn _ k).1 hgk).1
              · exact h3 j (by omega) hgk
          refine w_ite (fun c3 => ?_) fun c3 => ?_
          · have hg := hy2.1 c3
            refine w_idx (s := d) h.drop.drop.drop (by omega) (by rw [Int.toNat_natCast]; exact hi2) (w_ldE h.drop.drop.drop d (n - 1 - i.toNat) (at_some hi2) (by rw [Int.toNat_natCast]; rfl) ?_)
            refine w_call (delete_tri ty 200 ky zs[n - 1 - i.toNat]) h fun r w h => ?_
            obtain ⟨hr, h⟩ := h.purP
            exact hK (i + 1) (kx', (delK ky zs[n - 1 - i.toNat]).2) w ⟨⟨by omega, by omega⟩, hx', hy' _ (fun _ => rfl) fun hne => absurd hg hne⟩ h.fin (by show n - (i + 1).toNat < _; omega)
          · have hg : gs[n - 1 - i.toNat]? ≠ some true := fun e => by rw [hy2.2 e] at c3; cases c3
            exact hK (i + 1) (kx', ky) w ⟨⟨by omega, by omega⟩, hx', hy' _ (fun e => absurd e hg) fun _ => rfl⟩ h.fin (by show n - (i + 1).toNat < _; omega)
        · refine w_ite (fun c3 => ?_) fun c3 => ?_
          · have c3 : ((n - 1 - i.toNat : Nat) : Int) < ((o.len : Nat) : Int) := of_decide_eq_true c3
            have hg : n - 1 - i.toNat < gs.length := by omega
            refine w_idx (s := o) h (by omega) (by rw [Int.toNat_natCast]; exact hg) (w_ldE h o (n - 1 - i.toNat) (at_some hg) (by rw [Int.toNat_natCast]; rfl) ?_)
            exact ⟨by rw [at_some hg, Option.some.injEq], h⟩
          · have c3 : ¬ ((n - 1 - i.toNat : Nat) : Int) < ((o.len : Nat) : Int) := of_decide_eq_false c3
            exact ⟨by rw [List.getElem?_eq_none (by omega)]; simp, h⟩
      · refine w_join h (fun _ => rarr o KB gs ^ tree 200 tx kx ^ tree 200 ty ky ^ rarr d KR zs ^ emp) (fun y : Bool => y = true ↔ gs[i.toNat]? = some true) (fun (y : Bool) w hy2 h => ?_) ?_
        · refine w_ite (fun c3 => ?_) fun c3 => ?_
          · have hg := hy2.1 c3
            rw [if_pos hg] at hkx'
            rw [hkx']
            refine w_idx (s := d) h.drop.drop.drop i0 hi (w_ldE h.drop.drop.drop d i.toNat (at_some hi) rfl ?_)
            refine w_call (delete_tri tx 200 kx zs[i.toNat]) h fun r w h => ?_
            obtain ⟨hr, h⟩ := h.purP
            exact ⟨trivial, h.fin⟩
          · have hg : gs[i.toNat]? ≠ some true := fun e => by rw [hy2.2 e] at c3; cases c3
            rw [if_neg hg] at hkx'
            rw [hkx']
            exact ⟨trivial, h⟩
        · refine w_ite (fun c3 => ?_) fun c3 => ?_
          · have c3 : i < ((o.len : Nat) : Int) := of_decide_eq_true c3
            have hg : i.toNat < gs.length := by omega
            refine w_idx (s := o) h i0 hg (w_ldE h o i.toNat (at_some hg) rfl ?_)
            exact ⟨by rw [at_some hg, Option.some.injEq], h⟩
          · have c3 : ¬ i < ((o.len : Nat) : Int) := of_decide_eq_false c3
            exact ⟨by rw [List.getElem?_eq_none (by omega)]; simp, h⟩
    have c2 : ¬ i < (n : Int) := of_decide_eq_false c2
    have hin : i.toNat = n := by omega
    rw [hin] at hx hy
    have hx : ∀ k, k ∈ kx ↔ k ∈ zs ∧ ∀ j, ¬ gn j k := fun k => by
      rw [hx k]
      refine ⟨fun ⟨h2, h3⟩ => ⟨h2, fun j hg => ?_⟩, fun ⟨h2, h3⟩ => ⟨h2, fun j _ => h3 j⟩⟩
      have := (List.getElem?_eq_some_iff.1 ((hgn j k).1 hg).2).1
      exact h3 j (by omega) hg
    have hy : ∀ k, k ∈ ky ↔ k ∈ zs ∧ ∀ j, ¬ gn j k := fun k => by
      rw [hy k]
      exact ⟨fun ⟨h2, h3⟩ => ⟨h2, fun j => h3 j (by omega)⟩, fun ⟨h2, h3⟩ => ⟨h2, fun j _ => h3 j⟩⟩
    have hxy : kx = ky := srt_ext hsx hsy fun k => by rw [hx k, hy k]
    rw [← hxy] at h
    have hlk : kx.length ≤ 200 := by
      have := nodup_sub hsx (b := zs) fun k hk => ((hx k).1 hk).1
      omega
    clear hxy hy hsy hin i0 i1 c2 hK
    have h : Own w0 S R w (rarr d KR zs ^ rarr o KB gs ^ tree 200 tx kx ^ tree 200 ty kx ^ emp) := h.fin
    refine w_loop (fun (_ : Int) => rarr d KR zs ^ rarr o KB gs ^ tree 200 tx kx ^ tree 200 ty kx ^ emp) (fun (i : Int) => 0 ≤ i ∧ i ≤ n) (fun (i : Int) => n - i.toNat) h ⟨Int.le_refl 0, by show (0 : Int) ≤ n; omega⟩ ?_
    clear h
    rintro (i : Int) w ⟨i0, i1⟩ h
    refine w_ite (fun c2 => ?_) fun c2 => ?_
    · have c2 : i < (n : Int) := of_decide_eq_true c2
      have hi : i.toNat < zs.length := by omega
      refine w_loop (fun (_ : Bool × Int) => rarr d KR zs ^ rarr o KB gs ^ tree 200 tx kx ^ tree 200 ty kx ^ emp) (fun (y : Bool × Int) => (0 ≤ y.2 ∧ y.2 ≤ n) ∧ (y.1 = true ↔ ∀ j, j < y.2.toNat → ¬ gn j zs[i.toNat])) (fun (y : Bool × Int) => n - y.2.toNat) h ⟨⟨Int.le_refl 0, by show (0 : Int) ≤ n; omega⟩, ⟨fun _ j hj => by have hj : j < 0 := hj; omega, fun _ => rfl⟩⟩ ?_
      rintro (⟨wn, j⟩ : Bool × Int) w ⟨⟨j0, j1⟩, hj⟩ h
      dsimp only at j0 j1 hj ⊢
      refine w_ite (fun c3 => ?_) fun c3 => ?_
      · have c3 : j < (n : Int) ∧ j < ((o.len : Nat) : Int) := by simpa using c3
        have hjz : j.toNat < zs.length := by omega
        have hjg : j.toNat < gs.length := by omega
        have e1 : (j + 1).toNat = j.toNat + 1 := by omega
        have nxt : ∀ b : Bool, (b = true ↔ wn = true ∧ ¬ gn j.toNat zs[i.toNat]) → (b = true ↔ ∀ m, m < (j + 1).toNat → ¬ gn m zs[i.toNat]) := fun b hb => by
          rw [hb, hj, e1]
          refine ⟨fun ⟨h1, h2⟩ m hm => ?_, fun h1 => ⟨fun m hm => h1 m (by omega), h1 _ (by omega)⟩⟩
          by_cases e : m = j.toNat
          · rw [e]; exact h2
          · exact h1 m (by omega)
        rw [wi (n := j + 1) (by omega) (by omega)]
        refine w_drw h fun w h => w_ite (fun c4 => ?_) fun c4 => ?_
        · have h' := h.drop
          refine w_idx (s := o) h' j0 hjg (w_ldE h' o j.toNat (at_some hjg) rfl ?_)
          refine w_ite (fun c5 => ?_) fun c5 => ?_
          · have c5 : gs[j.toNat] = false := by simpa using c5
            refine ⟨⟨⟨⟨by show 0 ≤ j + 1; omega, by show j + 1 ≤ (n : Int); omega⟩, nxt true ⟨fun _ => ⟨c4, fun hg => ?_⟩, fun _ => rfl⟩⟩, h⟩, by show n - (j + 1).toNat < _; omega⟩
            have := ((hgn _ _).1 hg).1
            rw [at_some hjg, c5] at this
            cases this
          · have c5 : gs[j.toNat] = true := by simpa using c5
            refine w_idx (s := d) h j0 hjz (w_idx (s := d) h i0 hi (w_ldE h d j.toNat (at_some hjz) rfl (w_ldE h d i.toNat (at_some hi) rfl ?_)))
            refine ⟨⟨⟨⟨by show 0 ≤ j + 1; omega, by show j + 1 ≤ (n : Int); omega⟩, nxt _ ?_⟩, h⟩, by show n - (j + 1).toNat < _; omega⟩
            rw [hgn, at_some hjg, at_some hjz, c5]
            rw [Bool.not_eq_true', ← Bool.not_eq_true, key_beq]
            simp [c4]
        · have c4 : wn = false := c4
          refine ⟨⟨⟨⟨by show 0 ≤ j + 1; omega, by show j + 1 ≤ (n : Int); omega⟩, nxt false (by rw [c4]; simp)⟩, h⟩, by show n - (j + 1).toNat < _; omega⟩
      · have c3 : ¬ (j < (n : Int) ∧ j < ((o.len : Nat) : Int)) := by simpa using c3
        have hwn : wn = decide (zs[i.toNat] ∈ kx) := by
          rw [Bool.eq_iff_iff, decide_eq_true_eq, hj, hx]
          refine ⟨fun h1 => ⟨List.getElem_mem hi, fun m hg => ?_⟩, fun h1 m _ => h1.2 m⟩
          have q1 := (List.getElem?_eq_some_iff.1 ((hgn _ _).1 hg).2).1
          have q2 := (List.getElem?_eq_some_iff.1 ((hgn _ _).1 hg).1).1
          exact h1 m (by omega) hg
        rw [hwn]
        refine w_idx (s := d) h i0 hi (w_ldE h d i.toNat (at_some hi) rfl ?_)
        refine w_call (hasI_tri tx 200 kx zs[i.toNat]) h fun r w h => ?_
        obtain ⟨hr, h⟩ := h.purP; rw [hr]
        refine w_ite (fun c => (by simp at c)) fun _ => ?_
        have h : Own w0 S R w (rarr d KR zs ^ rarr o KB gs ^ tree 200 tx kx ^ tree 200 ty kx ^ emp) := h.fin
        refine w_idx (s := d) h i0 hi (w_ldE h d i.toNat (at_some hi) rfl ?_)
        refine w_call (hasI_tri ty 200 kx zs[i.toNat]) h fun r w h => ?_
        obtain ⟨hr, h⟩ := h.purP; rw [hr]
        refine w_ite (fun c => (by simp at c)) fun _ => ?_
        rw [wi (n := i + 1) (by omega) (by omega)]
        exact ⟨⟨⟨by show 0 ≤ i + 1; omega, by show i + 1 ≤ (n : Int); omega⟩, h.fin⟩, by show n - (i + 1).toNat < _; omega⟩
    · refine w_call (len_tri tx 200 kx) h fun r w h => ?_
      obtain ⟨hr, h⟩ := h.purP; rw [hr]
      refine w_call (len_tri ty 200 kx) h fun r w h => ?_
      obtain ⟨hr, h⟩ := h.purP; rw [hr]
      refine w_ite (fun _ => ?_) fun c => (by simp at c)
      have e : takeN kx 300 = kx := by unfold takeN; exact List.take_of_length_le (by omega)
      refine w_call (all_tri _) h fun f w h => ?_
      obtain ⟨n1, h⟩ := h.exP
      obtain ⟨hf, h⟩ := h.purP
      rw [hf]
      refine w_call (Keys.key_hall_tri (mkAll n1) _ kx 300 (all_iter n1 tx 200 kx) rfl (by omega)) h fun q1 w h => ?_
      refine w_call (all_tri _) h fun f w h => ?_
      obtain ⟨n2, h⟩ := h.exP
      obtain ⟨hf, h⟩ := h.purP
      rw [hf]
      refine w_call (Keys.key_hall_tri (mkAll n2) _ kx 300 (all_iter n2 ty 200 kx) rfl (by omega)) h fun q2 w h => ?_
      rw [e] at h
      have h : Own w0 S R w (arr q1 KR kx ^ arr q2 KR kx ^ tree 200 tx kx ^ tree 200 ty kx ^ emp) := h.fin
      refine w_callL (A := emp) (Q := rarr q1 KR kx ^ rarr q2 KR kx) (Keys.key_plain_tri q1 q2 kx kx (by omega)) h fun r w h => ?_
      obtain ⟨hr, h⟩ := h.purP
      have hr : r = true := hr.2 rfl
      rw [hr]
      refine w_ite (fun _ => ?_) fun c => (by cases c)
      refine w_call (low_tri tx 200 kx) h fun r w h => ?_
      obtain ⟨hr, h⟩ := h.purP; rw [hr]
      refine w_ite (fun _ => ?_) fun c => (by cases c)
      refine w_call (low_tri ty 200 kx) h fun r w h => ?_
      obtain ⟨hr, h⟩ := h.purP; rw [hr]
      exact Own.retP rfl h.emp'
end TreeS

end Go.X
