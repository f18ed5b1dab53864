/- The plain part of a shallow reading of Go code: typed leaves of values, the words in which a function's weakest precondition is written, and what each says of the world. -/
import Derived.RangeFuncKeeps
import Derived.RangeFuncLeaves
import Derived.KernelRfl
import Derived.WalkKit
namespace Go.X

structure Pt where
  b : Nat
  o : Nat
structure Sl where
  p : Option Pt
  len : Nat
  cap : Nat
inductive Fv where
  | nil
  | mk (fn : Fn) (first captured : List Value)
inductive CK where
  | int (k : IntKind) | bool | ptr | sl | str | fn
abbrev CK.T : CK → Type
  | .int _ => Int
  | .bool => Bool
  | .ptr => Option Pt
  | .sl => Sl
  | .str => ByteArray
  | .fn => Fv
inductive Lf where
  | int (k : IntKind) (n : Int) | bool (b : Bool) | ptr (p : Option Pt) | sl (s : Sl) | str (s : ByteArray) | fn (f : Fv)
abbrev Pt.addr (p : Pt) : Addr := ⟨p.b, p.o, none⟩
/-- Pairs of numbers, one behind the other. -/
def unp : Nat → Nat × Nat
  | 0 => (0, 0)
  | n + 1 => match (unp n).1 with
    | 0 => ((unp n).2 + 1, 0)
    | a + 1 => (a, (unp n).2 + 1)
def tri : Nat → Nat
  | 0 => 0
  | n + 1 => tri n + n + 1
theorem unp_tri : ∀ (s b : Nat), b ≤ s → unp (tri s + b) = (s - b, b)
  | s, b + 1, h => by
    have := unp_tri s b (by omega)
    rw [← Nat.add_assoc]
    simp only [unp, this]
    obtain ⟨c, hc⟩ : ∃ c, s - b = c + 1 := ⟨s - b - 1, by omega⟩
    rw [hc]
    simp only [Prod.mk.injEq, and_true]
    omega
  | 0, 0, _ => rfl
  | s + 1, 0, _ => by
    have := unp_tri s s (Nat.le_refl _)
    rw [Nat.sub_self] at this
    show unp (tri s + s + 1) = _
    simp only [unp, this]
    simp
theorem unp_inj : ∀ n : Nat, n = tri ((unp n).1 + (unp n).2) + (unp n).2
  | 0 => rfl
  | n + 1 => by
    have := unp_inj n
    simp only [unp]
    cases h : (unp n).1 with
    | zero =>
      rw [h] at this
      simp only [Nat.add_zero, tri]
      simp only [Nat.zero_add] at this
      omega
    | succ a =>
      rw [h] at this
      simp only
      rw [show a + ((unp n).2 + 1) = a + 1 + (unp n).2 by omega]
      omega
theorem unp_hit (a b : Nat) : ∃ n, unp n = (a, b) := ⟨tri (a + b) + b, by rw [unp_tri _ _ (by omega)]; simp⟩
/-- Places that are none, of empty slices. -/
def oddA (n : Nat) : Addr := ⟨(unp n).1, (unp (unp n).2).1, some (unp (unp n).2).2⟩
theorem unp_eq {n m : Nat} (h1 : (unp n).1 = (unp m).1) (h2 : (unp n).2 = (unp m).2) : n = m := by rw [unp_inj n, unp_inj m, h1, h2]
theorem oddA_inj {n m : Nat} (h : oddA n = oddA m) : n = m := by
  simp only [oddA, Addr.mk.injEq, Option.some.injEq] at h
  exact unp_eq h.1 (unp_eq h.2.1 h.2.2)
theorem oddA_hit (b o k : Nat) : ∃ n, oddA n = ⟨b, o, some k⟩ := by
  obtain ⟨m, hm⟩ := unp_hit o k
  obtain ⟨n, hn⟩ := unp_hit b m
  exact ⟨n, by simp [oddA, hn, hm]⟩
/-- An empty slice that stands at a place that is none; its capacity names the place. -/
def Sl.odd (s : Sl) : Bool := s.p.isNone && (Nat.beq s.len 0 && !(Nat.beq s.cap 0))
def Sl.cp (s : Sl) : Nat := cond s.odd 0 s.cap
def Sl.isNil (s : Sl) : Bool := s.p.isNone && !s.odd
def Sl.enc (s : Sl) : Value := match s.odd with
  | true => .slice (some (oddA (s.cap - 1))) 0 0
  | false => .slice (s.p.map Pt.addr) s.len s.cap
theorem Sl.odd_of {s : Sl} (h : s.odd = true) : s.p = none ∧ s.len = 0 ∧ s.cap ≠ 0 := by
  simp only [Sl.odd, Bool.and_eq_true, Bool.not_eq_true', Option.isNone_iff_eq_none] at h
  exact ⟨h.1, Nat.eq_of_beq_eq_true h.2.1, fun e => by have := h.2.2; rw [e] at this; cases this⟩
theorem Sl.enc_n {s : Sl} (h : s.odd = false) : s.enc = .slice (s.p.map Pt.addr) s.len s.cap := by unfold Sl.enc; rw [h]
theorem Sl.enc_some (q : Pt) (l c : Nat) : Sl.enc ⟨some q, l, c⟩ = .slice (some q.addr) l c := rfl
theorem Sl.norm_p {s : Sl} {q : Pt} (h : s.p = some q) : s.odd = false := by simp [Sl.odd, h]
theorem Sl.norm_c {s : Sl} (h : s.cap = 0) : s.odd = false := by
  rw [Sl.odd, h]; simp
theorem Sl.enc_p {s : Sl} {q : Pt} (h : s.p = some q) : s.enc = .slice (some q.addr) s.len s.cap := by rw [Sl.enc_n (Sl.norm_p h), h]; rfl
/-- Whatever it is, its length is told. -/
theorem Sl.enc_len (s : Sl) : ∃ a c, s.enc = .slice a s.len c ∧ (s.odd = false → a = s.p.map Pt.addr ∧ c = s.cap) ∧ c = s.cp ∧ (a = none ↔ s.isNil = true) := by
  cases h : s.odd with
  | true =>
    obtain ⟨h1, h2, _⟩ := Sl.odd_of h
    refine ⟨some (oddA (s.cap - 1)), 0, by unfold Sl.enc; rw [h, h2], fun h => (by cases h), by rw [Sl.cp, h]; rfl, ?_⟩
    rw [Sl.isNil, h]; simp
  | false => exact ⟨s.p.map Pt.addr, s.cap, Sl.enc_n h, fun _ => ⟨rfl, rfl⟩, by rw [Sl.cp, h]; rfl, by rw [Sl.isNil, h]; simp⟩
theorem Sl.enc_inj {s t : Sl} (h : s.enc = t.enc) : s = t := by
  have inj : ∀ {p q : Option Pt}, p.map Pt.addr = q.map Pt.addr → p = q := by
    intro p q h
    cases p <;> cases q <;> simp at h ⊢
    rename_i p q
    cases p; cases q; simp at h; simp [h]
  have nspot : ∀ (p : Option Pt) (n : Nat), some (oddA n) ≠ p.map Pt.addr := by
    intro p n h
    cases p <;> simp [oddA, Pt.addr] at h
  unfold Sl.enc at h
  cases hs : s.odd with
  | true => cases ht : t.odd with
    | true =>
      simp only [hs, ht, Value.slice.injEq, Option.some.injEq, and_true] at h
      obtain ⟨a1, a2, a3⟩ := Sl.odd_of hs
      obtain ⟨b1, b2, b3⟩ := Sl.odd_of ht
      have e := oddA_inj h
      have hc : s.cap = t.cap := by omega
      cases s; cases t
      simp only at a1 a2 b1 b2 hc
      rw [a1, a2, b1, b2, hc]
    | false =>
      simp only [hs, ht, Value.slice.injEq] at h
      exact absurd h.1 (nspot _ _)
  | false => cases ht : t.odd with
    | true =>
      simp only [hs, ht, Value.slice.injEq] at h
      exact absurd h.1.symm (nspot _ _)
    | false =>
      simp only [hs, ht, Value.slice.injEq] at h
      cases s; cases t
      simp only at h
      rw [inj h.1, h.2.1, h.2.2]
def Fv.enc : Fv → Value
  | .nil => .nilFunc
  | .mk f a c => .func f a.toArray c.toArray
def Lf.enc : Lf → Value
  | .int k n => .int k n
  | .bool b => .bool b
  | .ptr p => .pointer (p.map Pt.addr)
  | .sl s => s.enc
  | .str s => .string s
  | .fn f => f.enc
def CK.mk : (c : CK) → c.T → Lf
  | .int k, n => .int k n
  | .bool, b => .bool b
  | .ptr, p => .ptr p
  | .sl, s => .sl s
  | .str, s => .str s
  | .fn, f => .fn f
def CK.un : (c : CK) → Lf → Option c.T
  | .int k, .int k' n => if k = k' then some n else none
  | .bool, .bool b => some b
  | .ptr, .ptr p => some p
  | .sl, .sl s => some s
  | .str, .str s => some s
  | .fn, .fn f => some f
  | _, _ => none
abbrev Ks := List CK
abbrev Ks.T : List CK → Type
  | [] => Unit
  | [c] => c.T
  | c :: d :: r => c.T × Ks.T (d :: r)
def Ks.mk : (cs : List CK) → Ks.T cs → List Lf
  | [], _ => []
  | [c], x => [c.mk x]
  | c :: d :: r, x => c.mk x.1 :: Ks.mk (d :: r) x.2
def Ks.un : (cs : List CK) → List Lf → Option (Ks.T cs)
  | [], [] => some ()
  | [c], [l] => c.un l
  | c :: d :: r, l :: ls => match c.un l with
    | some x => match Ks.un (d :: r) ls with
      | some y => some (x, y)
      | none => none
    | none => none
  | _, _ => none

inductive V1 where
  | lf (l : Lf)
  | agg (ls : List Lf)
def V1.enc : V1 → Value
  | .lf l => l.enc
  | .agg ls => .agg (ls.map Lf.enc).toArray
def V1.lfs : V1 → List Lf
  | .lf l => [l]
  | .agg ls => ls
inductive TV where
  | one (v : V1)
  | tup (vs : List V1)
def TV.enc : TV → Value
  | .one v => v.enc
  | .tup vs => .tuple (vs.map V1.enc).toArray

/-- A result, or an argument: a leaf, or an aggregate of leaves. -/
inductive Sh where
  | lf (c : CK)
  | agg (cs : List CK)
abbrev Sh.T : Sh → Type
  | .lf c => c.T
  | .agg cs => Ks.T cs
def Sh.mk : (s : Sh) → s.T → V1
  | .lf c, x => .lf (c.mk x)
  | .agg cs, x => .agg (Ks.mk cs x)
abbrev Rs.T : List Sh → Type
  | [] => Unit
  | [s] => s.T
  | s :: t :: r => s.T × Rs.T (t :: r)
def Rs.mk : (rs : List Sh) → Rs.T rs → List V1
  | [], _ => []
  | [s], x => [s.mk x]
  | s :: t :: r, x => s.mk x.1 :: Rs.mk (t :: r) x.2
def retTV : List V1 → TV
  | [v] => .one v
  | vs => .tup vs
def Sh.un : (s : Sh) → V1 → Option s.T
  | .lf c, .lf l => c.un l
  | .agg cs, .agg ls => Ks.un cs ls
  | _, _ => none
def Rs.un : (rs : List Sh) → List V1 → Option (Rs.T rs)
  | [], [] => some ()
  | [s], [v] => s.un v
  | s :: t :: r, v :: vs => match s.un v with
    | some x => match Rs.un (t :: r) vs with
      | some y => some (x, y)
      | none => none
    | none => none
  | _, _ => none

theorem CK.un_some {c : CK} {l : Lf} {x : c.T} (h : c.un l = some x) : c.mk x = l := by
  cases c <;> cases l <;> simp_all [CK.un, CK.mk]
theorem Ks.un_some : ∀ {cs : List CK} {ls : List Lf} {x : Ks.T cs}, Ks.un cs ls = some x → Ks.mk cs x = ls
  | [], [], _, _ => rfl
  | [], _ :: _, _, h => by simp [Ks.un] at h
  | [c], [], _, h => by simp [Ks.un] at h
  | [c], [l], x, h => by simp only [Ks.un] at h; simp only [Ks.mk]; rw [CK.un_some h]
  | [c], _ :: _ :: _, _, h => by simp [Ks.un] at h
  | c :: d :: r, [], _, h => by simp [Ks.un] at h
  | c :: d :: r, l :: ls, x, h => by
    simp only [Ks.un] at h
    split at h
    · rename_i y hy
      split at h
      · rename_i z hz
        cases h
        simp only [Ks.mk]
        rw [CK.un_some hy, Ks.un_some hz]
      · cases h
    · cases h
theorem Sh.un_some {s : Sh} {v : V1} {x : s.T} (h : s.un v = some x) : s.mk x = v := by
  cases s with
  | lf c => cases v with
    | lf l => simp only [Sh.un] at h; simp only [Sh.mk]; rw [CK.un_some h]
    | agg ls => simp [Sh.un] at h
  | agg cs => cases v with
    | lf l => simp [Sh.un] at h
    | agg ls => simp only [Sh.un] at h; simp only [Sh.mk]; rw [Ks.un_some h]
theorem Rs.un_some : ∀ {rs : List Sh} {vs : List V1} {x : Rs.T rs}, Rs.un rs vs = some x → Rs.mk rs x = vs
  | [], [], _, _ => rfl
  | [], _ :: _, _, h => by simp [Rs.un] at h
  | [c], [], _, h => by simp [Rs.un] at h
  | [c], [l], x, h => by simp only [Rs.un] at h; simp only [Rs.mk]; rw [Sh.un_some h]
  | [c], _ :: _ :: _, _, h => by simp [Rs.un] at h
  | c :: d :: r, [], _, h => by simp [Rs.un] at h
  | c :: d :: r, l :: ls, x, h => by
    simp only [Rs.un] at h
    split at h
    · rename_i y hy
      split at h
      · rename_i z hz
        cases h
        simp only [Rs.mk]
        rw [Sh.un_some hy, Rs.un_some hz]
      · cases h
    · cases h

/-! ### What is said of a world -/

/-- From a place on these leaves stand. -/
def Reads (w : World) (b : Nat) : Nat → List Lf → Prop
  | _, [] => True
  | o, l :: ls => w.cell? ⟨b, o, none⟩ = some l.enc ∧ Reads w b (o + 1) ls
/-- A block of cells, whole, that may be written. -/
def Blk (w : World) (b : Nat) (L : List Lf) : Prop := ∃ T, w.heap[b]? = some (.cells (L.map Lf.enc).toArray T (0, 0))
abbrev openD : Obj := .deferred (some [])
/-- Nothing but the blocks in S has turned; new blocks may have come. -/
structure Ext (S : Nat → Prop) (w w' : World) : Prop where
  os : w'.os = w.os
  tape : w'.tape = w.tape
  output : w'.output = w.output
  size : w.heap.size ≤ w'.heap.size
  same : ∀ k, k < w.heap.size → ¬ S k → w'.heap[k]? = w.heap[k]?
  opn : ∀ k : Nat, w.heap[k]? = some openD → w'.heap[k]? = some openD
/-- Open blocks of deferred calls stay open; no block goes. -/
structure Dfr (w w' : World) : Prop where
  size : w.heap.size ≤ w'.heap.size
  opn : ∀ k : Nat, w.heap[k]? = some openD → w'.heap[k]? = some openD
def no1 : Nat → Prop := fun _ => False
abbrev at1 (b : Nat) : Nat → Prop := fun k => k = b

theorem Dfr.refl (w : World) : Dfr w w := ⟨Nat.le_refl _, fun _ h => h⟩
theorem Dfr.trans {a b c : World} (h : Dfr a b) (k : Dfr b c) : Dfr a c := ⟨Nat.le_trans h.size k.size, fun i hi => k.opn i (h.opn i hi)⟩
theorem Ext.dfr {S : Nat → Prop} {w w' : World} (h : Ext S w w') : Dfr w w' := ⟨h.size, h.opn⟩
theorem Ext.refl (S : Nat → Prop) (w : World) : Ext S w w := ⟨rfl, rfl, rfl, Nat.le_refl _, fun _ _ _ => rfl, fun _ h => h⟩
theorem Ext.mono {S S' : Nat → Prop} {w w' : World} (h : Ext S w w') (hs : ∀ k, k < w.heap.size → S k → S' k) : Ext S' w w' :=
  ⟨h.os, h.tape, h.output, h.size, fun k hk hn => h.same k hk fun e => hn (hs k hk e), h.opn⟩
theorem Ext.trans {S : Nat → Prop} {a b c : World} (h : Ext S a b) (k : Ext S b c) : Ext S a c :=
  ⟨k.os.trans h.os, k.tape.trans h.tape, k.output.trans h.output, Nat.le_trans h.size k.size,
    fun i hi hn => (k.same i (Nat.lt_of_lt_of_le hi h.size) hn).trans (h.same i hi hn), fun i hi => k.opn i (h.opn i hi)⟩
/-- Two steps, the second one in whatever else is new. -/
theorem Ext.trans' {S S' : Nat → Prop} {a b c : World} (h : Ext S a b) (k : Ext S' b c) (hs : ∀ i, i < a.heap.size → S' i → S i) : Ext S a c :=
  ⟨k.os.trans h.os, k.tape.trans h.tape, k.output.trans h.output, Nat.le_trans h.size k.size,
    fun i hi hn => (k.same i (Nat.lt_of_lt_of_le hi h.size) fun e => hn (hs i hi e)).trans (h.same i hi hn), fun i hi => k.opn i (h.opn i hi)⟩
theorem Ext.below {w w' : World} (h : Ext no1 w w') : RowKit.Below w.heap.size w w' :=
  ⟨h.os, h.tape, h.output, h.size, fun k hk => h.same k hk (fun e => e)⟩

theorem Blk.lt {w : World} {b : Nat} {L : List Lf} (h : Blk w b L) : b < w.heap.size := by
  obtain ⟨T, h⟩ := h
  exact (Array.getElem?_eq_some_iff.1 h).1
theorem Blk.ext {S : Nat → Prop} {w w' : World} {b : Nat} {L : List Lf} (h : Blk w b L) (e : Ext S w w') (hb : ¬ S b) : Blk w' b L := by
  have hl := h.lt
  obtain ⟨T, h⟩ := h
  exact ⟨T, by rw [e.same b hl hb]; exact h⟩
theorem Pt.addr_inj {p q : Pt} (h : p.addr = q.addr) : p = q := by
  cases p; cases q; simp [Pt.addr] at h; simp [h]
theorem optAddr_inj {p q : Option Pt} (h : p.map Pt.addr = q.map Pt.addr) : p = q := by
  cases p <;> cases q <;> simp at h ⊢
  exact Pt.addr_inj (by simp [h])
theorem Fv.enc_inj {f g : Fv} (h : f.enc = g.enc) : f = g := by
  cases f <;> cases g <;> simp [Fv.enc] at h ⊢
  exact h
theorem Lf.enc_inj {a b : Lf} (h : a.enc = b.enc) : a = b := by
  cases a with
  | ptr p => cases b with
    | ptr q => simp [Lf.enc] at h; rw [optAddr_inj h]
    | fn g => cases g <;> simp [Lf.enc, Fv.enc] at h
    | sl t =>
      obtain ⟨x, c, hx, _⟩ := t.enc_len
      simp [Lf.enc, hx] at h
    | _ => simp [Lf.enc] at h
  | sl s =>
    obtain ⟨x, c, hx, _⟩ := s.enc_len
    cases b with
    | sl t => exact congrArg Lf.sl (Sl.enc_inj (by simpa [Lf.enc] using h))
    | fn g => cases g <;> simp [Lf.enc, Fv.enc, hx] at h
    | _ => simp [Lf.enc, hx] at h
  | fn f => cases b with
    | fn g => rw [Fv.enc_inj h]
    | sl t =>
      obtain ⟨x, c, hx, _⟩ := t.enc_len
      cases f <;> simp [Lf.enc, Fv.enc, hx] at h
    | _ => cases f <;> simp [Lf.enc, Fv.enc] at h
  | _ => cases b with
    | fn g => cases g <;> simp [Lf.enc, Fv.enc] at h
    | sl t =>
      obtain ⟨x, c, hx, _⟩ := t.enc_len
      simp [Lf.enc, hx] at h
    | _ => simp [Lf.enc] at h <;> simp [h]
theorem cell_of_blk {w : World} {b : Nat} {L : List Lf} (h : Blk w b L) (o : Nat) : w.cell? ⟨b, o, none⟩ = (L[o]?).map Lf.enc := by
  obtain ⟨T, h⟩ := h
  simp [World.cell?, h]
theorem frozen_of_blk {w : World} {b : Nat} {L : List Lf} (h : Blk w b L) (o : Nat) : w.frozen? ⟨b, o, none⟩ = false := by
  obtain ⟨T, h⟩ := h
  simp [World.frozen?, h]
/-- A part of a block. -/
theorem Blk.reads {w : World} {b : Nat} {L : List Lf} (h : Blk w b L) : ∀ (ls : List Lf) (o : Nat), (∀ i, i < ls.length → L[o + i]? = ls[i]?) → Reads w b o ls
  | [], _, _ => trivial
  | l :: ls, o, hh => by
    refine ⟨?_, h.reads ls (o + 1) fun i hi => ?_⟩
    · have := hh 0 (by simp)
      rw [cell_of_blk h]
      simp at this
      simp [this]
    · have := hh (i + 1) (by simp; omega)
      rw [show o + 1 + i = o + (i + 1) by omega, this]
      simp
theorem Reads.ext {S : Nat → Prop} {w w' : World} (e : Ext S w w') {b : Nat} (hb : ¬ S b) (hl : b < w.heap.size) : ∀ {o : Nat} {ls : List Lf}, Reads w b o ls → Reads w' b o ls
  | _, [], _ => trivial
  | o, l :: ls, h => ⟨by rw [← h.1]; exact World.cell?_of_block (e.same b hl hb), Reads.ext e hb hl h.2⟩

def splice (L : List Lf) (o : Nat) (ls : List Lf) : List Lf := L.take o ++ ls ++ L.drop (o + ls.length)
theorem splice_one (L : List Lf) (o : Nat) (l : Lf) (h : o < L.length) : splice L o [l] = L.set o l := by
  unfold splice
  rw [List.set_eq_take_append_cons_drop, if_pos h]
  simp
theorem splice_length {L : List Lf} {o : Nat} {ls : List Lf} (h : o + ls.length ≤ L.length) : (splice L o ls).length = L.length := by
  unfold splice; simp; omega

/-- These elements, of so many leaves each, in a slice that may be written: whole blocks alone. -/
def SlOwn (w : World) (s : Sl) (sz : Nat) (L : List Lf) : Prop :=
  (s.len = 0 ∧ s.cap = 0 ∧ L = []) ∨
  ∃ q C, s.p = some q ∧ Blk w q.b C ∧ s.len ≤ s.cap ∧ s.cap ≠ 0 ∧ q.o + s.cap * sz ≤ C.length ∧ L.length = s.len * sz ∧ ∀ i, i < L.length → C[q.o + i]? = L[i]?
/-- These elements in a slice that may be read. -/
def SlRd (w : World) (s : Sl) (sz : Nat) (M : List Lf) : Prop := M.length = s.len * sz ∧ (s.p = none → s.len = 0) ∧ ∀ q, s.p = some q → Reads w q.b q.o M
def Sl.own (s : Sl) : Nat → Prop := fun k => ∃ q, s.p = some q ∧ k = q.b ∧ s.cap ≠ 0
def Sl.sub (s : Sl) (l h m sz : Nat) : Sl := ⟨if m = l then s.p else s.p.map fun q => ⟨q.b, q.o + l * sz⟩, h - l, m - l⟩
def bnd (x : Option Int) (d n : Nat) : Prop := match x with | some i => i = n | none => n = d
def rep (n : Nat) (zs : List Lf) : List Lf := (List.replicate n zs).flatten

/-! ### The words of a weakest precondition -/
abbrev WP := World → Prop

abbrev wno : WP := fun _ => False
abbrev ite' (c : Bool) (A B : WP) : WP := fun w => cond c (A w) (B w)
abbrev req (p : Prop) (A : WP) : WP := fun w => p ∧ A w
abbrev deref (p : Option Pt) (K : Pt → WP) : WP := fun w => ∃ q, p = some q ∧ K q w
abbrev fderef (f : Fv) (A : WP) : WP := fun w => (∃ n a c, f = .mk (.func n) a c ∨ f = .mk (.yield n) a c) ∧ A w
abbrev idx (s : Sl) (i : Int) (n : Nat) (K : Pt → WP) : WP := fun w => ∃ q, s.p = some q ∧ (0 ≤ i ∧ i < s.len) ∧ K ⟨q.b, q.o + i.toNat * n⟩ w
abbrev ld (cs : List CK) (p : Pt) (K : Ks.T cs → WP) : WP := fun w => ∃ x, Reads w p.b p.o (Ks.mk cs x) ∧ K x w
abbrev st (p : Pt) (ls : List Lf) (A : WP) : WP := fun w => ∃ L, Blk w p.b L ∧ p.o + ls.length ≤ L.length ∧
  ∀ w', Ext (at1 p.b) w w' → Blk w' p.b (splice L p.o ls) → w'.heap.size = w.heap.size → A w'
abbrev new (ls : List Lf) (K : Nat → WP) : WP := fun w => ∀ w', Ext no1 w w' → Blk w' w.heap.size ls → w'.heap.size = w.heap.size + 1 → K w.heap.size w'

abbrev app (sz : Nat) (s x : Sl) (K : Sl → WP) : WP := fun w => ∃ L M, SlOwn w s sz L ∧ SlRd w x sz M ∧ s.len + x.len ≤ 4294967296 ∧
  ∀ w' s', Ext s.own w w' → SlOwn w' s' sz (L ++ M) → s'.len = s.len + x.len → (∀ k, s'.own k → s.own k ∨ w.heap.size ≤ k) →
    (s.cap < s.len + x.len → Ext no1 w w' ∧ ∀ k, s'.own k → w.heap.size ≤ k) → (s.len + x.len ≤ s.cap → s' = ⟨s.p, s.len + x.len, s.cap⟩ ∧ w'.heap.size = w.heap.size) → K s' w'
abbrev appz (zs : List Lf) (sz : Nat) (s : Sl) (n : Int) (K : Sl → WP) : WP := fun w => ∃ L, SlOwn w s sz L ∧ (0 ≤ n ∧ (s.len : Int) + n ≤ 4294967296) ∧
  ∀ w' s', Ext s.own w w' → SlOwn w' s' sz (L ++ rep n.toNat zs) → s'.len = s.len + n.toNat → (∀ k, s'.own k → s.own k ∨ w.heap.size ≤ k) → K s' w'
abbrev mk (zs : List Lf) (len cap : Int) (K : Sl → WP) : WP := fun w => (0 ≤ len ∧ len ≤ cap ∧ cap ≤ 4294967296) ∧
  ∀ w', Ext no1 w w' → Blk w' w.heap.size (rep cap.toNat zs) → w'.heap.size = w.heap.size + 1 → K ⟨some ⟨w.heap.size, 0⟩, len.toNat, cap.toNat⟩ w'
abbrev slc (s : Sl) (lo hi mx : Option Int) (sz : Nat) (K : Sl → WP) : WP := fun w => (s.odd = false ∧ (s.cap ≠ 0 → s.p ≠ none)) ∧ ∃ l h m : Nat, bnd lo 0 l ∧ bnd hi s.len h ∧ bnd mx s.cap m ∧ (l ≤ h ∧ h ≤ m ∧ m ≤ s.cap) ∧ K (s.sub l h m sz) w
abbrev clr (zs : List Lf) (s : Sl) (A : WP) : WP := fun w => ((s.p = none ∨ s.len = 0) ∧ A w) ∨ ∃ q C, s.p = some q ∧ s.len ≠ 0 ∧ Blk w q.b C ∧ q.o + s.len * zs.length ≤ C.length ∧
  ∀ w', Ext (at1 q.b) w w' → Blk w' q.b (splice C q.o (rep s.len zs)) → w'.heap.size = w.heap.size → A w'
abbrev ixa (cs : List CK) (ls : List Lf) (i : Int) (n sz : Nat) (K : Ks.T cs → WP) : WP := fun w => (0 ≤ i ∧ i < n) ∧ ∃ x, Ks.mk cs x = (ls.drop (i.toNat * sz)).take sz ∧ K x w
abbrev bidx (s : ByteArray) (i : Int) (K : Int → WP) : WP := fun w => ∃ b : UInt8, (0 ≤ i ∧ s[i.toNat]? = some b) ∧ K b.toNat w
abbrev chk (p : Pt) (ls : List Lf) (A : WP) : WP := fun w => Reads w p.b p.o ls ∧ A w
abbrev both (A B : WP) : WP := fun w => A w ∧ B w
abbrev drw (A : WP) : WP := fun w => ∀ w', Ext no1 w w' → w'.heap.size = w.heap.size → A w'

/-- It has a body. -/
def ent (P : Program) (f : FuncId) : Bool := match P.funcs[f]? with
  | some fn => fn.name != "runtime.NumGoroutine" && fn.body.isSome
  | none => false
def CallE (P : Program) (f : FuncId) (args : List Value) (w : World) (R : Value → World → Prop) : Prop :=
  ent P f = true ∧ CallsIn Fence.wide 0 P f args.toArray w fun e w' => ∃ v, e = .returned v ∧ R v w'
/-- Entered, or (a function for which the model stands in) answered at once. -/
inductive CallX (P : Program) (f : FuncId) (args : List Value) (w : World) (R : Value → World → Prop) : Prop
  | enters (h : CallE P f args w R) : CallX P f args w R
  | now (v : Value) (w' : World) (h : (callFunc f args.toArray).run P w = .ok (.value v) w') (hR : R v w') : CallX P f args w R
def CallV (P : Program) (f : Fv) (args : List Value) (w : World) (R : Value → World → Prop) : Prop :=
  match f with
  | .mk (.func g) first captured => CallE P g (first ++ args ++ captured) w R
  | .mk (.yield l) [] _ => ∃ fn tmps assign body, (Instr.yield l args.toArray).run P w = .ok (.round l fn tmps assign body) w ∧
      RoundIn Fence.wide 0 P l fn tmps assign body w fun e w' => ∃ v, e = .returned v ∧ R v w'
  | _ => False
def CallG (P : Program) (f : Fv) (args : List Value) (w : World) (R : Value → World → Prop) : Prop :=
  match f with
  | .mk (.func g) first captured => CallE P g (first ++ args ++ captured) w R
  | _ => False
theorem CallE.mono {P : Program} {f : FuncId} {args : List Value} {w : World} {R R' : Value → World → Prop} (h : CallE P f args w R) (hr : ∀ v w', R v w' → R' v w') : CallE P f args w R' :=
  ⟨h.1, h.2.mono fun _ w' ⟨v, hv, r⟩ => ⟨v, hv, hr v w' r⟩⟩
theorem CallX.mono {P : Program} {f : FuncId} {args : List Value} {w : World} {R R' : Value → World → Prop} (h : CallX P f args w R) (hr : ∀ v w', R v w' → R' v w') : CallX P f args w R' :=
  match h with
  | .enters h => .enters (h.mono hr)
  | .now v w' h1 h2 => .now v w' h1 (hr _ _ h2)
/-- A function that has a body is entered. -/
theorem CallX.e {P : Program} {f : FuncId} {args : List Value} {w : World} {R : Value → World → Prop} (h : CallX P f args w R) (he : ent P f = true) : CallE P f args w R := by
  rcases h with h | ⟨v, w', h1, _⟩
  · exact h
  unfold ent at he
  unfold callFunc at h1
  simp only [Sem.run_bind, run_program, Result.andThen_ok] at h1
  split at he
  · rename_i fn hf
    simp only [Bool.and_eq_true, bne_iff_ne, ne_eq] at he
    have hb : fn.body.isNone = false := by cases hh : fn.body <;> simp [hh] at he ⊢
    simp [hf, he.1, hb] at h1
  · cases he
theorem CallV.mono {P : Program} {f : Fv} {args : List Value} {w : World} {R R' : Value → World → Prop} (h : CallV P f args w R) (hr : ∀ v w', R v w' → R' v w') : CallV P f args w R' := by
  unfold CallV at *
  split at h
  · exact h.mono hr
  · obtain ⟨fn, tmps, as, body, h1, h2⟩ := h
    exact ⟨fn, tmps, as, body, h1, h2.mono fun _ w' ⟨v, hv, r⟩ => ⟨v, hv, hr v w' r⟩⟩
  · exact h.elim
theorem CallG.mono {P : Program} {f : Fv} {args : List Value} {w : World} {R R' : Value → World → Prop} (h : CallG P f args w R) (hr : ∀ v w', R v w' → R' v w') : CallG P f args w R' := by
  unfold CallG at *
  split at h
  · exact h.mono hr
  · exact h.elim
abbrev call (P : Program) (f : FuncId) (args : List V1) (rs : List Sh) (K : Rs.T rs → WP) : WP := fun w =>
  CallX P f (args.map V1.enc) w fun v w' => ∃ x, v = (retTV (Rs.mk rs x)).enc ∧ Dfr w w' ∧ K x w'
abbrev callv (P : Program) (f : Fv) (args : List V1) (rs : List Sh) (K : Rs.T rs → WP) : WP := fun w =>
  CallV P f (args.map V1.enc) w fun v w' => ∃ x, v = (retTV (Rs.mk rs x)).enc ∧ Dfr w w' ∧ K x w'
abbrev loop (cs : List CK) (x₀ : Ks.T cs) (B : (Ks.T cs → WP) → Ks.T cs → WP) : WP := fun w =>
  ∃ (I : Ks.T cs → WP) (μ : Ks.T cs → World → Nat), I x₀ w ∧ ∀ x w, I x w → B (fun y w' => I y w' ∧ μ y w' < μ x w) x w
abbrev join (cs : List CK) (A : (Ks.T cs → WP) → WP) (K : Ks.T cs → WP) : WP := fun w =>
  ∃ J : Ks.T cs → WP, (∀ x w', J x w' → K x w') ∧ A J w
end Go.X
