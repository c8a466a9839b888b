/- Plain data told by their types; contracts with a frame; more rules (for the law Vf). -/
import Derived.Test.YtofmaoickidjcaaVfXl
set_option linter.all false
/-! # Plain data told by their types; contracts with a frame -/
namespace Go.Sx
open Go.RowKit

/-- what a slice's (pointer's, map's) value holds beside what it reads as: an address, a capacity, the headers of the elements -/
inductive Hd where
  | z
  | mk (a : Option Addr) (cap : Nat) (sub : Nat → Nat → Hd)
namespace Hd
def a : Hd → Option Addr
  | z => none
  | mk a _ _ => a
def cap : Hd → Nat
  | z => 0
  | mk _ c _ => c
def sub : Hd → Nat → Nat → Hd
  | z => fun _ _ => z
  | mk _ _ s => s
end Hd
abbrev Hs := Nat → Hd
def hf : List Hd → Hs
  | [], _ => .z
  | h :: _, 0 => h
  | _ :: r, k + 1 => hf r k
def sh (i : Nat) (h : Hs) : Hs := fun k => h (i + k)
def ab : Option Addr → Nat
  | some a => a.block
  | none => 0
def ao : Option Addr → Nat
  | some a => a.off
  | none => 0

/-- a type: how its values are laid -/
structure Ty (α : Type) where
  sz : Nat
  agg : Bool
  zero : α
  enc : α → Hs → List Value
  rd : World → α → Hs → Prop
  len : ∀ x h, (enc x h).length = sz
  one : ∀ x h, allOne (enc x h) = true
  ext : ∀ {w w' x h}, rd w x h → Ext No w w' → rd w' x h
  isz : agg = false → sz = 1
  rdz : ∀ w, rd w zero (fun _ => .z)
def Ty.val {α : Type} (t : Ty α) (x : α) (h : Hs) : Value := valAt t.agg (t.enc x h)

def tInt (k : IntKind) : Ty Int := { sz := 1, agg := false, zero := 0, enc := fun x _ => [.int k x], rd := fun _ _ _ => True, len := fun _ _ => rfl, one := fun _ _ => rfl, ext := fun _ _ => trivial, isz := fun _ => rfl, rdz := fun _ => trivial }
def tBool : Ty Bool := { sz := 1, agg := false, zero := false, enc := fun x _ => [.bool x], rd := fun _ _ _ => True, len := fun _ _ => rfl, one := fun _ _ => rfl, ext := fun _ _ => trivial, isz := fun _ => rfl, rdz := fun _ => trivial }
def tStr : Ty ByteArray := { sz := 1, agg := false, zero := ⟨#[]⟩, enc := fun x _ => [.string x], rd := fun _ _ _ => True, len := fun _ _ => rfl, one := fun _ _ => rfl, ext := fun _ _ => trivial, isz := fun _ => rfl, rdz := fun _ => trivial }

section
variable {α : Type}
/-- a slice's form -/
def hdOk (n : Nat) (q : Hd) : Prop := (q.cap = 0 ∧ n = 0) ∨ (q.a = some ⟨ab q.a, ao q.a, none⟩ ∧ n ≤ q.cap)
theorem hdOk.z : hdOk 0 .z := .inl ⟨rfl, rfl⟩
/-- a slice reads as a list -/
def slR (t : Ty α) (w : World) (l : List α) (q : Hd) : Prop :=
  (l.length ≤ 9223372036854775807 ∧ hdOk l.length q) ∧ ∀ i x, l[i]? = some x → q.a = some ⟨ab q.a, ao q.a, none⟩ ∧ RowAt w (ab q.a) (ao q.a + i * t.sz) (t.enc x (q.sub i)) ∧ t.rd w x (q.sub i)
theorem slR.ext {t : Ty α} {w w' : World} {l : List α} {q : Hd} (h : slR t w l q) (e : Ext No w w') : slR t w' l q :=
  ⟨h.1, fun i x hx => ⟨(h.2 i x hx).1, (h.2 i x hx).2.1.ext e (fun _ x => x), t.ext (h.2 i x hx).2.2 e⟩⟩
theorem slR.nil (t : Ty α) (w : World) : slR t w [] .z := ⟨⟨by simp, hdOk.z⟩, fun i x h => by simp at h⟩
def tSl (t : Ty α) : Ty (List α) := { sz := 1, agg := false, zero := [], enc := fun l h => [.slice (h 0).a l.length (h 0).cap], rd := fun w l h => slR t w l (h 0), len := fun _ _ => rfl, one := fun _ _ => rfl, ext := fun h e => slR.ext h e, isz := fun _ => rfl, rdz := fun w => slR.nil t w }

def rdS (t : Ty α) (w : World) (l : List α) (hh : Nat → Hs) : Prop := ∀ i x, l[i]? = some x → t.rd w x (hh i)
theorem rdS.nil {t : Ty α} {w : World} {hh : Nat → Hs} : rdS t w [] hh := fun i x h => by simp at h
def snocS (n : Nat) (hh : Nat → Hs) (h : Hs) : Nat → Hs := fun i => if i = n then h else hh i
theorem rdS.snoc {t : Ty α} {w : World} {l : List α} {hh : Nat → Hs} {x : α} {h : Hs} (hl : rdS t w l hh) (hx : t.rd w x h) : rdS t w (l ++ [x]) (snocS l.length hh h) := fun i y hy => by
  unfold snocS
  rw [List.getElem?_append] at hy
  split at hy
  · rename_i hlt
    rw [if_neg (by omega)]; exact hl i y hy
  · rename_i hge
    have : i - l.length = 0 := by
      cases hk : i - l.length with
      | zero => rfl
      | succ k => rw [hk] at hy; simp at hy
    rw [this] at hy
    simp at hy; subst hy
    rw [if_pos (by omega)]; exact hx

def encL (t : Ty α) : List α → (Nat → Hs) → List Value
  | [], _ => []
  | x :: r, hh => t.enc x (hh 0) ++ encL t r (fun i => hh (i + 1))
theorem encL_len (t : Ty α) : ∀ (l : List α) (hh : Nat → Hs), (encL t l hh).length = l.length * t.sz := by
  intro l
  induction l with
  | nil => intro _; simp [encL]
  | cons x r ih => intro hh; simp [encL, ih, t.len, Nat.succ_mul]; omega
theorem encL_congr (t : Ty α) : ∀ (l : List α) (hh hh' : Nat → Hs), (∀ i, i < l.length → hh i = hh' i) → encL t l hh = encL t l hh' := by
  intro l
  induction l with
  | nil => intros; rfl
  | cons x r ih =>
    intro hh hh' h
    rw [encL, encL, h 0 (by simp), ih _ _ (fun i hi => h (i + 1) (by simp; omega))]
theorem encL_append (t : Ty α) : ∀ (l l' : List α) (hh : Nat → Hs), encL t (l ++ l') hh = encL t l hh ++ encL t l' (fun i => hh (l.length + i)) := by
  intro l
  induction l with
  | nil => intro l' hh; simp [encL]
  | cons x r ih =>
    intro l' hh
    simp only [List.cons_append, encL, ih, List.append_assoc, List.length_cons]
    congr 2
    apply encL_congr
    intro i _
    show hh _ = hh _
    congr 1
    omega
theorem encL_snoc (t : Ty α) (l : List α) (x : α) (hh : Nat → Hs) (h : Hs) : encL t (l ++ [x]) (snocS l.length hh h) = encL t l hh ++ t.enc x h := by
  rw [encL_append]
  have h1 : encL t l (snocS l.length hh h) = encL t l hh := encL_congr t l _ _ (fun i hi => by unfold snocS; rw [if_neg (by omega)])
  rw [h1]
  simp [encL, snocS]
theorem encL_one (t : Ty α) : ∀ (l : List α) (hh : Nat → Hs), allOne (encL t l hh) = true := by
  intro l
  induction l with
  | nil => intro _; rfl
  | cons x r ih =>
    intro hh
    have h1 := t.one x (hh 0)
    have h2 := ih (fun i => hh (i + 1))
    simp only [encL, allOne, List.all_append, Bool.and_eq_true] at *
    exact ⟨h1, h2⟩
theorem encL_cut (t : Ty α) : ∀ (l : List α) (hh : Nat → Hs) (i : Nat) (x : α), l[i]? = some x → cut (encL t l hh) (i * t.sz) t.sz = t.enc x (hh i) := by
  intro l
  induction l with
  | nil => intro _ i x h; simp at h
  | cons y r ih =>
    intro hh i x h
    cases i with
    | zero => simp at h; subst h; simp [cut, encL, ← t.len y (hh 0)]
    | succ i =>
      have := ih (fun i => hh (i + 1)) i x (by simpa using h)
      simp only [cut, encL] at *
      rw [List.drop_append, t.len, show (i + 1) * t.sz - t.sz = i * t.sz by rw [Nat.succ_mul]; omega, List.drop_of_length_le (by rw [t.len, Nat.succ_mul]; omega), List.nil_append]
      exact this

/-- a row of one's own -/
abbrev rowE (t : Ty α) (e : TypeId) (l : List α) (q : Hd) : Ent := .row e t.sz (.slice q.a l.length q.cap) l.length (encL t l q.sub)
theorem slR_row {t : Ty α} {w : World} {e : TypeId} {l : List α} {q : Hd} (h : w.ownsRow 0 e t.sz (.slice q.a l.length q.cap) l.length (encL t l q.sub)) (hs : rdS t w l q.sub) : slR t w l q := by
  rcases h.2 with ⟨h1, h2⟩ | ⟨g, cap, cur, h1, _, hg, h2, h3, h4, h5⟩
  · have : l = [] := List.length_eq_zero_iff.1 h2
    subst this
    simp only [Value.slice.injEq] at h1
    exact ⟨⟨by simp, .inl ⟨h1.2.2, rfl⟩⟩, fun i x h => by simp at h⟩
  · simp only [Value.slice.injEq] at h1
    obtain ⟨ha, _, hc⟩ := h1
    refine ⟨⟨by unfold maxLen at h3; omega, .inr ⟨by rw [ha]; rfl, by rw [hc]; exact h2⟩⟩, fun i x hx => ⟨by rw [ha]; rfl, ?_, hs i x hx⟩⟩
    have hi := (List.getElem?_eq_some_iff.1 hx).1
    have hle : (i + 1) * t.sz ≤ l.length * t.sz := Nat.mul_le_mul_right _ hi
    rw [Nat.succ_mul] at hle
    have h' : w.ownsRow 0 e t.sz (.slice (some ⟨g, 0, none⟩) l.length cap) l.length (encL t l q.sub) := ⟨h.1, .inr ⟨g, cap, cur, rfl, Nat.zero_le _, hg, h2, h3, h4, h5⟩⟩
    have := ownsRow_at h' (o := i * t.sz) (k := t.sz) (by rw [encL_len]; exact hle)
    rw [encL_cut t l q.sub i x hx] at this
    rw [ha]
    show RowAt w g (0 + i * t.sz) _
    rwa [Nat.zero_add]
end

/-! ## Plain functions that may fail -/
def lget {α : Type} (l : List α) (i : Int) : Option α := if 0 ≤ i then l[i.toNat]? else none
theorem lget_some {α : Type} {l : List α} {i : Int} {x : α} (h : lget l i = some x) : 0 ≤ i ∧ l[i.toNat]? = some x := by
  unfold lget at h; split at h
  · exact ⟨by assumption, h⟩
  · cases h
theorem lget_lt {α : Type} {l : List α} {i : Int} {x : α} (h : lget l i = some x) : 0 ≤ i ∧ i < l.length := by
  obtain ⟨h0, h1⟩ := lget_some h
  have := (List.getElem?_eq_some_iff.1 h1).1
  omega
def aget {α : Type} {n : Nat} (v : Vector α n) (i : Int) : Option α := if h : 0 ≤ i ∧ i.toNat < n then some (v[i.toNat]'h.2) else none
theorem aget_some {α : Type} {n : Nat} {v : Vector α n} {i : Int} {x : α} (h : aget v i = some x) : ∃ h : i.toNat < n, 0 ≤ i ∧ v[i.toNat] = x := by
  unfold aget at h; split at h
  · rename_i hh; simp at h; exact ⟨hh.2, hh.1, h⟩
  · cases h
def aset {α : Type} {n : Nat} (v : Vector α n) (i : Int) (x : α) : Option (Vector α n) := if h : 0 ≤ i ∧ i.toNat < n then some (v.set i.toNat x h.2) else none
theorem aset_some {α : Type} {n : Nat} {v v' : Vector α n} {i : Int} {x : α} (h : aset v i x = some v') : ∃ h : i.toNat < n, 0 ≤ i ∧ v.set i.toNat x = v' := by
  unfold aset at h; split at h
  · rename_i hh; simp at h; exact ⟨hh.2, hh.1, h⟩
  · cases h
def sget (s : ByteArray) (i : Int) : Option Int := if h : 0 ≤ i ∧ i.toNat < s.size then some (s[i.toNat]'h.2).toNat else none
theorem sget_some {s : ByteArray} {i : Int} {x : Int} (h : sget s i = some x) : ∃ h : i.toNat < s.size, 0 ≤ i ∧ ((s[i.toNat]'h).toNat : Int) = x := by
  unfold sget at h; split at h
  · rename_i hh; simp at h; exact ⟨hh.2, hh.1, h⟩
  · cases h
/-- an append that memory has room for -/
def appG {α : Type} (bytes : Nat) (l : List α) (x : α) : Option (List α) := if (l.length + 1) * bytes ≤ 140737488355328 then some (l ++ [x]) else none
theorem appG_some {α : Type} {b : Nat} {l l' : List α} {x : α} (h : appG b l x = some l') : (l.length + 1) * b ≤ 140737488355328 ∧ l ++ [x] = l' := by
  unfold appG at h; split at h
  · simp at h; exact ⟨by assumption, h⟩
  · cases h
def appsG {α : Type} (bytes : Nat) (l l2 : List α) : Option (List α) := if (l.length + l2.length) * bytes ≤ 140737488355328 then some (l ++ l2) else none
theorem appsG_some {α : Type} {b : Nat} {l l2 l' : List α} (h : appsG b l l2 = some l') : (l.length + l2.length) * b ≤ 140737488355328 ∧ l ++ l2 = l' := by
  unfold appsG at h; split at h
  · simp at h; exact ⟨by assumption, h⟩
  · cases h
def guardP (p : Prop) [Decidable p] : Option Unit := if p then some () else none
theorem guardP_some {p : Prop} [Decidable p] {u : Unit} (h : guardP p = some u) : p := by unfold guardP at h; split at h; assumption; cases h
def w64 (x : Int) : Int := IntKind.i64.wrap x
theorem w64_id {x : Int} (h : -9223372036854775808 ≤ x ∧ x ≤ 9223372036854775807) : w64 x = x := IntWalk.i64_in _ h

def loopN {S E : Type} (f : S → Option (S ⊕ E)) : Nat → S → Option E
  | 0, _ => none
  | n + 1, s => match f s with
    | none => none
    | some (.inl s') => loopN f n s'
    | some (.inr e) => some e
def nextL {S E : Type} (f : S → Option (S ⊕ E)) (n : Nat) (e : E) : S ⊕ E → Prop
  | .inl s' => loopN f n s' = some e
  | .inr e' => e' = e
theorem loopN_some {S E : Type} {f : S → Option (S ⊕ E)} {n : Nat} {s : S} {e : E} (h : loopN f n s = some e) : ∃ n' y, n = n' + 1 ∧ f s = some y ∧ nextL f n' e y := by
  cases n with
  | zero => cases h
  | succ n =>
    unfold loopN at h
    split at h
    · cases h
    · rename_i s' hs; exact ⟨n, _, rfl, hs, h⟩
    · rename_i e' hs; exact ⟨n, _, rfl, hs, Option.some.inj h⟩
def FUEL : Nat := 1000000000000000000000
theorem bindS {α β : Type} {x : Option α} {f : α → Option β} {r : β} (h : Option.bind x f = some r) : ∃ a, x = some a ∧ f a = some r := by
  cases x with
  | none => cases h
  | some a => exact ⟨a, rfl, h⟩
theorem iteT {α : Type} {c : Bool} {A B : Option α} {r : α} (hc : c = true) (h : (if c = true then A else B) = some r) : A = some r := by rwa [if_pos hc] at h
theorem iteF {α : Type} {c : Bool} {A B : Option α} {r : α} (hc : c = false) (h : (if c = true then A else B) = some r) : B = some r := by rwa [if_neg (by rw [hc]; exact Bool.false_ne_true)] at h
def andThen {A L : Type} (x : Option (A ⊕ L)) (k : A → Option L) : Option L := match x with
  | none => none
  | some (.inl a) => k a
  | some (.inr l) => some l
def afterS {A L : Type} (k : A → Option L) (r : L) : A ⊕ L → Prop
  | .inl a => k a = some r
  | .inr l => l = r
theorem andThen_some {A L : Type} {x : Option (A ⊕ L)} {k : A → Option L} {r : L} (h : andThen x k = some r) : ∃ e, x = some e ∧ afterS k r e := by
  unfold andThen at h
  split at h
  · cases h
  · exact ⟨_, rfl, h⟩
  · exact ⟨_, rfl, Option.some.inj h⟩

/-! ## Contracts with a frame -/
section
variable {P : Program} {n : Nat} {Q : Exit → Act → World → Prop} {fr : Fr} {m : Mem} {Φ : World → Prop}

/-- the caller's memory, as one entry -/
abbrev frame (D : Mem) : Ent := .frm (bsAll D) (MemOk D)
theorem MemOk.sup {D : Mem} {w : World} (h : MemOk D w) : Sup (MemOk D) (fun g => g ∉ bsAll D) w := fun _ e => h.ext e (fun _ hg x => x hg)
theorem frame_ok {D : Mem} {w : World} (h : MemOk D w) : (frame D).ok w := ⟨fun _ hg => h.lt hg, h.sup⟩
theorem memOk_iff {m : Mem} {w : World} : MemOk m w ↔ (∀ b, (bsAll m).count b ≤ 1) ∧ ∀ e, e ∈ m → e.ok w := ⟨fun h => ⟨nodup_count.1 h.nodup, h.ok⟩, fun h => ⟨nodup_count.2 h.1, h.2⟩⟩
theorem bsAll_append (a b : Mem) : bsAll (a ++ b) = bsAll a ++ bsAll b := by simp [bsAll]
theorem bsAll_cons (e : Ent) (b : Mem) : bsAll (e :: b) = e.bs ++ bsAll b := by simp [bsAll]
theorem frame_mem {D R : Mem} {w : World} : MemOk (frame D :: R) w ↔ MemOk (D ++ R) w := by
  constructor
  · intro h
    refine ⟨by have := h.nodup; rw [bsAll_cons] at this; rw [bsAll_append]; exact this, fun e he => ?_⟩
    rcases List.mem_append.1 he with he | he
    · exact (h.ok (frame D) (by simp)).2.out.ok e he
    · exact h.ok e (by simp [he])
  · intro h
    refine ⟨by have := h.nodup; rw [bsAll_append] at this; rw [bsAll_cons]; exact this, fun e he => ?_⟩
    rcases List.mem_cons.1 he with rfl | he
    · exact frame_ok (h.pre)
    · exact h.ok e (List.mem_append.2 (.inr he))
theorem frame_gs {D R : Mem} {k : Nat} : gs (frame D :: R) k ↔ gs (D ++ R) k := by
  unfold gs; rw [bsAll_cons, bsAll_append]; exact Iff.rfl
theorem MemOk.frameAt {m D : Mem} {w : World} {i : Nat} (h : MemOk m w) (hi : m[i]? = some (frame D)) : MemOk D w :=
  (h.ok (frame D) (List.mem_of_getElem? hi)).2.out

def deadAll : List Nat → Mem → Mem
  | [], m => m
  | i :: r, m => deadAll r (m.set i (.rows []))
def setAll : List Nat → Mem → Mem → Mem
  | i :: r, e :: o, m => setAll r o (m.set i e)
  | _, _, m => m
/-- places taken out -/
theorem out_one {E R : Mem} {i : Nat} {e : Ent} {w : World} (hi : E[i]? = some e) : MemOk (E ++ R) w ↔ MemOk (E.set i (.rows []) ++ e :: R) w := by
  have hc : ∀ b, (bsAll (E ++ R)).count b = (bsAll (E.set i (.rows []) ++ e :: R)).count b := fun b => by
    have := count_bsAll_set (e' := .rows []) hi b
    simp only [bsAll_append, bsAll_cons, List.count_append] at *
    have h0 : (Ent.rows []).bs = [] := rfl
    rw [h0] at this
    simp only [List.count_nil] at this
    omega
  rw [memOk_iff, memOk_iff]
  constructor
  · rintro ⟨h1, h2⟩
    refine ⟨fun b => by rw [← hc]; exact h1 b, fun en hen => ?_⟩
    rcases List.mem_append.1 hen with h | h
    · rcases List.mem_or_eq_of_mem_set h with h | rfl
      · exact h2 en (List.mem_append.2 (.inl h))
      · exact fun r hr => by simp at hr
    · rcases List.mem_cons.1 h with rfl | h
      · exact h2 en (List.mem_append.2 (.inl (List.mem_of_getElem? hi)))
      · exact h2 en (List.mem_append.2 (.inr h))
  · rintro ⟨h1, h2⟩
    refine ⟨fun b => by rw [hc]; exact h1 b, fun en hen => ?_⟩
    rcases List.mem_append.1 hen with h | h
    · obtain ⟨j, hj⟩ := List.getElem?_of_mem h
      by_cases ij : i = j
      · subst ij; rw [hi] at hj; cases hj; exact h2 e (by simp)
      · exact h2 en (List.mem_append.2 (.inl (List.mem_of_getElem? (i := j) (by rw [List.getElem?_set_ne ij]; exact hj))))
    · exact h2 en (by simp [h])
theorem out_gs {E R : Mem} {i : Nat} {e : Ent} {k : Nat} (hi : E[i]? = some e) : gs (E ++ R) k ↔ gs (E.set i (.rows []) ++ e :: R) k := by
  unfold gs
  rw [← List.count_pos_iff, ← List.count_pos_iff]
  have := count_bsAll_set (e' := .rows []) hi k
  simp only [bsAll_append, bsAll_cons, List.count_append] at *
  have h0 : (Ent.rows []).bs = [] := rfl
  rw [h0] at this
  simp only [List.count_nil] at this
  omega
/-- these entries (at these places) and the rest -/
def Outs : List Nat → List Ent → Mem → Mem → Prop
  | [], [], E, D => D = E
  | i :: r, e :: os, E, D => E[i]? = some e ∧ Outs r os (E.set i (.rows [])) D
  | _, _, _, _ => False
theorem Outs.nil {E : Mem} : Outs [] [] E E := rfl
theorem Outs.cons {i : Nat} {r : List Nat} {e : Ent} {os : List Ent} {E D : Mem} (h : E[i]? = some e) (h2 : Outs r os (E.set i (.rows [])) D) : Outs (i :: r) (e :: os) E D := ⟨h, h2⟩
theorem mid_iff {w : World} {a b c : Mem} {e : Ent} : (MemOk (a ++ (b ++ e :: c)) w ↔ MemOk (a ++ (e :: (b ++ c))) w) ∧ ∀ k, gs (a ++ (b ++ e :: c)) k ↔ gs (a ++ (e :: (b ++ c))) k := by
  have hc : ∀ x, (bsAll (a ++ (b ++ e :: c))).count x = (bsAll (a ++ (e :: (b ++ c)))).count x := fun x => by
    simp only [bsAll_append, bsAll_cons, List.count_append]; omega
  have hm : ∀ x, x ∈ a ++ (b ++ e :: c) ↔ x ∈ a ++ (e :: (b ++ c)) := fun x => by
    simp only [List.mem_append, List.mem_cons]
    constructor
    · rintro (h | h | h | h)
      · exact .inl h
      · exact .inr (.inr (.inl h))
      · exact .inr (.inl h)
      · exact .inr (.inr (.inr h))
    · rintro (h | h | h | h)
      · exact .inl h
      · exact .inr (.inr (.inl h))
      · exact .inr (.inl h)
      · exact .inr (.inr (.inr h))
  refine ⟨?_, fun k => by unfold gs; rw [← List.count_pos_iff, ← List.count_pos_iff, hc]⟩
  rw [memOk_iff, memOk_iff]
  exact ⟨fun ⟨h1, h2⟩ => ⟨fun x => by rw [← hc]; exact h1 x, fun x hx => h2 x ((hm x).2 hx)⟩, fun ⟨h1, h2⟩ => ⟨fun x => by rw [hc]; exact h1 x, fun x hx => h2 x ((hm x).1 hx)⟩⟩
theorem outs_iff {w : World} : ∀ {idx : List Nat} {E D : Mem} {os R : List Ent}, Outs idx os E D → ((MemOk (E ++ R) w ↔ MemOk (D ++ (os ++ R)) w) ∧ ∀ k, gs (E ++ R) k ↔ gs (D ++ (os ++ R)) k) := by
  intro idx
  induction idx with
  | nil =>
    intro E D os R h
    cases os with
    | nil => cases h; simp
    | cons e os => exact h.elim
  | cons i r ih =>
    intro E D os R h
    cases os with
    | nil => exact h.elim
    | cons e os =>
      obtain ⟨hi, h⟩ := h
      obtain ⟨h1, h2⟩ := ih (R := e :: R) h
      obtain ⟨h3, h4⟩ := mid_iff (w := w) (a := D) (b := os) (e := e) (c := R)
      exact ⟨((out_one hi).trans h1).trans h3, fun k => ((out_gs hi).trans (h2 k)).trans (h4 k)⟩

/-- a callee's contract: with the objects that it is handed and may change, and what is new -/
def SpecK (P : Program) (f : FuncId) (args : List Value) (D objs : Mem) (Φ : World → Prop) {X : Type} (V : X → Value) (O N : X → Mem) (Ψ : X → World → Prop) : Prop :=
  CallK P f args (frame D :: objs) Φ (fun v' m' Φ' => ∃ x, v' = V x ∧ m' = frame D :: (O x ++ N x) ∧ Φ' = Ψ x)

/-- a call: E the caller's memory, E' x what it is behind the call (less what is new); D both less the objects -/
theorem SpecK.call {f args} {E D objs : Mem} {X : Type} {V : X → Value} {O N : X → Mem} {Ψ : X → World → Prop} (idx : List Nat) (E' : X → Mem) (h1 : Outs idx objs E D) (h2 : ∀ x, Outs idx (O x) (E' x) D)
    (h : SpecK P f args D objs Φ V O N Ψ) : CallK P f args E Φ (fun v' m' Φ' => ∃ x, v' = V x ∧ m' = E' x ++ N x ∧ Φ' = Ψ x) := fun w hm hs => by
  obtain ⟨k1, k2⟩ := outs_iff (R := []) (w := w) h1
  simp only [List.append_nil] at k1 k2
  have hm' : MemOk (frame D :: objs) w := frame_mem.2 (k1.1 hm)
  have hs' : Sup Φ (gs (frame D :: objs)) w := hs.less (fun k _ hk => (k2 k).2 (frame_gs.1 hk))
  refine (h w hm' hs').mono ?_
  rintro e w' ⟨v, m', Φ', rfl, ⟨x, rfl, rfl, rfl⟩, hm2, hs2⟩
  obtain ⟨j1, j2⟩ := outs_iff (R := N x) (w := w') (h2 x)
  exact ⟨_, _, _, rfl, ⟨x, rfl, rfl, rfl⟩, j1.2 (frame_mem.1 hm2), hs2.less (fun k _ hk => frame_gs.2 ((j2 k).1 hk))⟩
/-- .. that is handed no object -/
theorem SpecK.call0 {f args} {E : Mem} {X : Type} {V : X → Value} {N : X → Mem} {Ψ : X → World → Prop} (h : SpecK P f args E [] Φ V (fun _ => []) N Ψ) :
    CallK P f args E Φ (fun v' m' Φ' => ∃ x, v' = V x ∧ m' = E ++ N x ∧ Φ' = Ψ x) :=
  SpecK.call (D := E) (objs := []) (O := fun _ => []) [] (fun _ => E) rfl (fun _ => rfl) h
/-- .. nor hands back new memory that is the caller's own -/
theorem SpecK.callV {f args} {E : Mem} {X : Type} {V : X → Value} {Ψ : X → World → Prop} (h : SpecK P f args E [] Φ V (fun _ => []) (fun _ => []) Ψ) :
    CallK P f args E Φ (fun v' m' Φ' => ∃ x, v' = V x ∧ m' = E ∧ Φ' = Ψ x) := fun w hm hs => (SpecK.call0 h w hm hs).mono fun _ _ ⟨v, m', Φ', he, ⟨x, h1, h2, h3⟩, h4⟩ => ⟨v, m', Φ', he, ⟨x, h1, by simpa using h2, h3⟩, h4⟩

def KP (K : Value → Mem → (World → Prop) → Prop) : Ending → World → Prop := fun e w' => ∃ v m' Φ', e = .returned v ∧ K v m' Φ' ∧ MemOk m' w' ∧ Sup Φ' (gs m') w'
theorem enterK {fn : Func} {f : FuncId} {c : Code} {args : List Value} {K} (hf : P.funcs[f]? = some fn) (hb : fn.body = some c) (hn : fn.ntmps = n) (hle : Nat.ble args.length n = true)
    (h : CW P n c (bodyPost P fn (KP K)) (argFr 0 args) m (fun w => Φ w ∧ True)) : CallK P f args m Φ K := fun _ hm hs => enter hf hb hn hle hm (hs.imp (fun _ h => ⟨h, trivial⟩)) h

/-- these entries alone, and what is known of the rest -/
theorem Sat.pick {a w} {m' : Mem} {Ψ : World → Prop} (h : Sat n fr m Φ a w) (L : List Nat) (hL : L.Nodup) (hm : pickM L m = m') (hΨ : ∀ w, Φ w → Ψ w) : Sat n fr m' Ψ a w := by
  subst hm
  refine ⟨h.fits, h.mem.pick hL, (h.sup.less (fun k _ hk => ?_)).imp hΨ⟩
  obtain ⟨e, he, hg⟩ := mem_bsAll.1 hk
  obtain ⟨i, _, hi⟩ := mem_pickM L m e he
  exact mem_bsAll.2 ⟨e, List.mem_of_getElem? hi, hg⟩
theorem QC.pick {e : Exit} {m' : Mem} {Ψ : World → Prop} (L : List Nat) (hL : L.Nodup) (hm : pickM L m = m') (hΨ : ∀ w, Φ w → Ψ w) (h : QC n Q e fr m' Ψ) : QC n Q e fr m Φ := fun a w hs => h a w (hs.pick L hL hm hΨ)
section
variable {fn : Func} {K : Value → Mem → (World → Prop) → Prop}
theorem retK0 {e : Exit} (he : e = .ret ∨ e = .normal) (hr : fn.results = #[]) (h : K (.tuple #[]) m Φ) : QC n (bodyPost P fn (KP K)) e fr m Φ :=
  ret0 he hr (fun _ hm _ hs => ⟨_, m, Φ, rfl, h, hm, hs⟩)
theorem retK1 {r v} (hr : fn.results = #[r]) (hv : RV P fr m Φ r v) (h : K v m Φ) : QC n (bodyPost P fn (KP K)) .ret fr m Φ :=
  ret1 hr hv (fun _ hm _ hs => ⟨_, m, Φ, rfl, h, hm, hs⟩)
theorem retK2 {r1 r2 v1 v2} (hr : fn.results = #[r1, r2]) (h1 : RV P fr m Φ r1 v1) (h2 : RV P fr m Φ r2 v2) (h : K (.tuple #[v1, v2]) m Φ) : QC n (bodyPost P fn (KP K)) .ret fr m Φ :=
  ret2 hr h1 h2 (fun _ hm _ hs => ⟨_, m, Φ, rfl, h, hm, hs⟩)
theorem retK3 {r1 r2 r3 v1 v2 v3} (hr : fn.results = #[r1, r2, r3]) (h1 : RV P fr m Φ r1 v1) (h2 : RV P fr m Φ r2 v2) (h3 : RV P fr m Φ r3 v3) (h : K (.tuple #[v1, v2, v3]) m Φ) : QC n (bodyPost P fn (KP K)) .ret fr m Φ :=
  ret3 hr h1 h2 h3 (fun _ hm _ hs => ⟨_, m, Φ, rfl, h, hm, hs⟩)
end
/-- the results are read; then what is not the callee's to hand back is let go -/
theorem KP.weak {K K' : Value → Mem → (World → Prop) → Prop} (L : List Nat) (hL : L.Nodup) {v : Value} {m' : Mem} {Ψ : World → Prop} (hm : pickM L m = m') (hΨ : ∀ w, Φ w → Ψ w) (h : K v m' Ψ) :
    ∀ w, MemOk m w → Sup Φ (gs m) w → KP K (.returned v) w := fun w hmo hs => by
  subst hm
  refine ⟨v, _, Ψ, rfl, h, hmo.pick hL, (hs.less (fun k _ hk => ?_)).imp hΨ⟩
  obtain ⟨e, he, hg⟩ := mem_bsAll.1 hk
  obtain ⟨i, _, hi⟩ := mem_pickM L m e he
  exact mem_bsAll.2 ⟨e, List.mem_of_getElem? hi, hg⟩
section
variable {fn : Func} {K : Value → Mem → (World → Prop) → Prop} {m' : Mem} {Ψ : World → Prop}
theorem retP0 {e : Exit} (L : List Nat) (hL : L.Nodup) (he : e = .ret ∨ e = .normal) (hr : fn.results = #[]) (hm : pickM L m = m') (hΨ : ∀ w, Φ w → Ψ w) (h : K (.tuple #[]) m' Ψ) : QC n (bodyPost P fn (KP K)) e fr m Φ :=
  ret0 he hr (fun w hmo _ hs => KP.weak (K' := K) L hL hm hΨ h w hmo hs)
theorem retP1 {r v} (L : List Nat) (hL : L.Nodup) (hr : fn.results = #[r]) (hv : RV P fr m Φ r v) (hm : pickM L m = m') (hΨ : ∀ w, Φ w → Ψ w) (h : K v m' Ψ) : QC n (bodyPost P fn (KP K)) .ret fr m Φ :=
  ret1 hr hv (fun w hmo _ hs => KP.weak (K' := K) L hL hm hΨ h w hmo hs)
theorem retP2 {r1 r2 v1 v2} (L : List Nat) (hL : L.Nodup) (hr : fn.results = #[r1, r2]) (h1 : RV P fr m Φ r1 v1) (h2 : RV P fr m Φ r2 v2) (hm : pickM L m = m') (hΨ : ∀ w, Φ w → Ψ w) (h : K (.tuple #[v1, v2]) m' Ψ) : QC n (bodyPost P fn (KP K)) .ret fr m Φ :=
  ret2 hr h1 h2 (fun w hmo _ hs => KP.weak (K' := K) L hL hm hΨ h w hmo hs)
theorem retP3 {r1 r2 r3 v1 v2 v3} (L : List Nat) (hL : L.Nodup) (hr : fn.results = #[r1, r2, r3]) (h1 : RV P fr m Φ r1 v1) (h2 : RV P fr m Φ r2 v2) (h3 : RV P fr m Φ r3 v3) (hm : pickM L m = m') (hΨ : ∀ w, Φ w → Ψ w) (h : K (.tuple #[v1, v2, v3]) m' Ψ) : QC n (bodyPost P fn (KP K)) .ret fr m Φ :=
  ret3 hr h1 h2 h3 (fun w hmo _ hs => KP.weak (K' := K) L hL hm hΨ h w hmo hs)
end

/-- two ways that meet again -/
theorem CW.meetS {x y : Code} {X : Type} (L : List Nat) (F : X → Fr) (M : X → List (Nat × Ent)) (Ψ : X → World → Prop) (I : X → Prop)
    (h1 : CW P n x (Exit.then (Head n (fun x => F x ++ Sx.keep L fr) (fun x => upds (M x) m) Ψ I) Q) fr m Φ) (h2 : ∀ z, I z → CW P n y Q (F z ++ Sx.keep L fr) (upds (M z) m) (Ψ z)) : CW P n (.seq x y) Q fr m Φ :=
  CW.meet (fun x => F x ++ Sx.keep L fr) (fun x => upds (M x) m) Ψ I h1 h2

/-- what is known, told besides -/
theorem CW.fact {c : Code} {p : World → Prop} (hp : ∀ w, Φ w → p w) (h : CW P n c Q fr m (fun w => Φ w ∧ p w)) : CW P n c Q fr m Φ := fun a w hs => h a w ⟨hs.fits, hs.mem, hs.sup.imp (fun w h => ⟨h, hp w h⟩)⟩
theorem RO.fact {ops : Array Oper} {C : Fr → Mem → (World → Prop) → Prop} {l : List Oper} {p : World → Prop} (hp : ∀ w, Φ w → p w) (h : RO P ops n C l fr m (fun w => Φ w ∧ p w)) : RO P ops n C l fr m Φ := fun Q hq a w hs =>
  h Q hq a w ⟨hs.fits, hs.mem, hs.sup.imp (fun w h => ⟨h, hp w h⟩)⟩
theorem RD.fact {ops : Array Oper} {C : Fr → Mem → (World → Prop) → Prop} {mS : Mem} {ΦS : World → Prop} {fuel : Nat} {listed : Array Bool} {p : World → Prop} (hp : ∀ w, Φ w → p w) (h : RD P ops n mS ΦS C fuel listed fr m (fun w => Φ w ∧ p w)) : RD P ops n mS ΦS C fuel listed fr m Φ := fun Q h1 hq a w hs hS =>
  h Q h1 hq a w ⟨hs.fits, hs.mem, hs.sup.imp (fun w h => ⟨h, hp w h⟩)⟩ hS

/-- a row is let go: it is read alone from now on -/
theorem freeze_sat {α : Type} {a : Act} {w : World} {t : Ty α} {e : TypeId} {l : List α} {q : Hd} (i : Nat) (hi : m[i]? = some (rowE t e l q)) (hsub : ∀ w, Φ w → rdS t w l q.sub) (hs : Sat n fr m Φ a w) :
    Sat n fr (m.set i (.rows [])) (fun w => Φ w ∧ slR t w l q) a w := by
  have hm0 : MemOk (m ++ []) w := by rw [List.append_nil]; exact hs.mem
  have h1 := (out_one hi).1 hm0
  have hg : ∀ k, gs (m.set i (.rows [])) k → gs m k := fun k hk => by
    have := (out_gs (R := []) (k := k) hi).2 (by unfold gs at *; rw [bsAll_append]; exact List.mem_append.2 (.inl hk))
    simpa using this
  refine ⟨hs.fits, h1.pre, fun w' ew => ⟨hs.sup w' (ew.mono (fun k _ hk => hg k hk)), ?_⟩⟩
  have hrow : (rowE t e l q).ok w := hs.mem.ok _ (List.mem_of_getElem? hi)
  have hrow' : w'.ownsRow 0 e t.sz (.slice q.a l.length q.cap) l.length (encL t l q.sub) := ownsRow_ext hrow ew (fun g hg' hx => by
    have hn := h1.nodup
    rw [bsAll_append, List.nodup_append] at hn
    exact hn.2.2 g hx g (by rw [bsAll_cons]; simp [Ent.bs, hg']) rfl)
  exact slR_row hrow' (hsub w' (hs.sup w' (ew.mono (fun k _ hk => hg k hk))))
theorem CW.freeze {α : Type} {c : Code} {t : Ty α} {e : TypeId} {l : List α} {q : Hd} (i : Nat) (hi : m[i]? = some (rowE t e l q)) (hsub : ∀ w, Φ w → rdS t w l q.sub) (h : CW P n c Q fr (m.set i (.rows [])) (fun w => Φ w ∧ slR t w l q)) : CW P n c Q fr m Φ :=
  fun a w hs => h a w (freeze_sat i hi hsub hs)
theorem QC.freeze {α : Type} {ex : Exit} {t : Ty α} {e : TypeId} {l : List α} {q : Hd} (i : Nat) (hi : m[i]? = some (rowE t e l q)) (hsub : ∀ w, Φ w → rdS t w l q.sub) (h : QC n Q ex fr (m.set i (.rows [])) (fun w => Φ w ∧ slR t w l q)) : QC n Q ex fr m Φ :=
  fun a w hs => h a w (freeze_sat i hi hsub hs)
theorem RO.freeze {α : Type} {ops : Array Oper} {C : Fr → Mem → (World → Prop) → Prop} {os : List Oper} {t : Ty α} {e : TypeId} {l : List α} {q : Hd} (i : Nat) (hi : m[i]? = some (rowE t e l q)) (hsub : ∀ w, Φ w → rdS t w l q.sub)
    (h : RO P ops n C os fr (m.set i (.rows [])) (fun w => Φ w ∧ slR t w l q)) : RO P ops n C os fr m Φ := fun Q hq a w hs => h Q hq a w (freeze_sat i hi hsub hs)
theorem RD.freeze {α : Type} {ops : Array Oper} {C : Fr → Mem → (World → Prop) → Prop} {mS : Mem} {ΦS : World → Prop} {fuel : Nat} {listed : Array Bool} {t : Ty α} {e : TypeId} {l : List α} {q : Hd} (i : Nat) (hi : m[i]? = some (rowE t e l q)) (hsub : ∀ w, Φ w → rdS t w l q.sub)
    (h : RD P ops n mS ΦS C fuel listed fr (m.set i (.rows [])) (fun w => Φ w ∧ slR t w l q)) : RD P ops n mS ΦS C fuel listed fr m Φ := fun Q h1 hq a w hs hS => h Q h1 hq a w (freeze_sat i hi hsub hs) hS

/-- memory told otherwise -/
theorem CW.mem {c : Code} {m' : Mem} (hm : m = m') (h : CW P n c Q fr m' Φ) : CW P n c Q fr m Φ := hm ▸ h
theorem RO.mem {ops : Array Oper} {C : Fr → Mem → (World → Prop) → Prop} {l : List Oper} {m' : Mem} (hm : m = m') (h : RO P ops n C l fr m' Φ) : RO P ops n C l fr m Φ := hm ▸ h
theorem RD.mem {ops : Array Oper} {C : Fr → Mem → (World → Prop) → Prop} {mS : Mem} {ΦS : World → Prop} {fuel : Nat} {listed : Array Bool} {m' : Mem} (hm : m = m') (h : RD P ops n mS ΦS C fuel listed fr m' Φ) : RD P ops n mS ΦS C fuel listed fr m Φ := hm ▸ h
end

/-! ## Operations -/
section
variable {P : Program} {n : Nat} {fr : Fr} {m : Mem} {Φ : World → Prop} {d : Option Tmp} {ty : TypeId} {pos : String} {af : Array Edge} {gd : Option (Nat × Bool)} {α : Type}

theorem PV.idxQ {x y tt e kk} {ix : Int} {t : Ty α} {l : List α} {q : Hd} {x0 : α} (hu : P.underlying tt = some (.slice e)) (hk : ∀ w, (sizeOf e).run P w = .ok t.sz w) (hs : ∀ w, MemOk m w → Φ w → slR t w l q)
    (hx : ev fr x = some (.slice q.a l.length q.cap)) (hy : ev fr y = some (.int kk ix)) (hg : lget l ix = some x0) : PV P fr m Φ ⟨d, .indexAddr tt x y, ty, pos, af, gd⟩ (.pointer (some ⟨ab q.a, ao q.a + ix.toNat * t.sz, none⟩)) := fun a n w hf hm hΦ => by
  have ha := ((hs w hm hΦ).2 _ _ (lget_some hg).2).1
  rw [ha] at hx
  have := PV.idxS (P := P) (fr := fr) (m := m) (Φ := Φ) (d := d) (ty := ty) (pos := pos) (af := af) (gd := gd) hu hk hx hy (lget_lt hg).1 (lget_lt hg).2
  exact this a n w hf hm hΦ
theorem PV.loadQ {x tt off k g o bb} {t : Ty α} {l : List α} {q : Hd} {x0 : α} {ix : Int} {cs : List Value} (hT : TF P tt bb k) (hs : ∀ w, MemOk m w → Φ w → slR t w l q) (hg : lget l ix = some x0) (hx : ev fr x = some (.pointer (some ⟨g, o, none⟩))) (hgg : g = ab q.a) (ho : o = ao q.a + ix.toNat * t.sz + off)
    (hc : cut (t.enc x0 (q.sub ix.toNat)) off k = cs) (hlen : cs.length = k) (hb : bb = false → k = 1) : PV P fr m Φ ⟨d, .load tt x, ty, pos, af, gd⟩ (valAt bb cs) := by
  subst hgg ho
  exact PV.loadE hT hx (fun w hm hΦ => by have := (((hs w hm hΦ).2 _ _ (lget_some hg).2).2.1).sub off k; rwa [hc] at this) hlen hb
theorem cut_self {l : List Value} {k : Nat} (h : l.length = k) : cut l 0 k = l := by simp [cut, ← h]

/-- append to a row of one's own, out of a known block -/
theorem EV.appQ {s x tt e bytes gx cx} {i0 : TypeInfo} {z : Value} {t : Ty α} {l l' : List α} {q : Hd} {y : α} {hy : Hs} (i j : Nat) (ht : P.underlying tt = some (.slice e)) (hi0 : P.info? e = some i0) (hz : i0.zero = some z) (hsize : i0.size = t.sz) (hby : i0.bytes = bytes)
    (hzs : z.cells.size = t.sz) (hsz : 0 < t.sz) (hs : ev fr s = some (.slice q.a l.length q.cap)) (hm : m[i]? = some (rowE t e l q)) (hx : ev fr x = some (.slice (some ⟨gx, 0, none⟩) 1 cx)) (hmx : m[j]? = some (.blk gx (t.enc y hy))) (hg : appG bytes l y = some l') (h8 : 1 ≤ bytes) :
    EV P n fr m Φ ⟨d, .call ⟨.builtin .append, #[s, x], #[tt, tt]⟩, ty, pos, af, gd⟩ (fun v' m' Φ' => ∃ a cap, v' = .slice a l'.length cap ∧ m' = m.set i (rowE t e l' (.mk a cap (snocS l.length q.sub hy))) ∧ Φ' = Φ) := fun a w next Q hf hmo hsup hk => by
  obtain ⟨hb, rfl⟩ := appG_some hg
  have h1 : (l.length + 1) * 1 ≤ (l.length + 1) * bytes := Nat.mul_le_mul_left _ h8
  refine EV.append (news := t.enc y hy) i j ht hi0 hz hsize hby hzs hsz hs hm hx hmx (by rw [Nat.one_mul]; exact cut_self (t.len _ _)) (by rw [t.len, Nat.one_mul]) (t.one _ _) (by omega) (by omega) hb a w next Q hf hmo hsup ?_
  rintro v' m' Φ' w' ⟨g, cap, rfl, rfl, rfl⟩ hm' hs'
  refine hk _ _ _ w' ⟨some ⟨g, 0, none⟩, cap, by simp, ?_, rfl⟩ hm' hs'
  show _ = m.set i (Ent.row e t.sz _ _ (encL t (l ++ [y]) (snocS l.length q.sub hy)))
  rw [encL_snoc]
  simp
  rfl
end
end Go.Sx
namespace Go.Sx
open Go.RowKit
abbrev pq (g : Nat) : Hd := .mk (some ⟨g, 0, none⟩) 0 (fun _ _ => .z)
def mb (q : Hd) : Option Nat := match q.a with
  | some a => some a.block
  | none => none
abbrev shrI (k : IntKind) (p q : Int) : Int := p.fdiv (2 ^ (Min.min q.toNat k.bits))
section
variable {P : Program} {n : Nat} {Q : Exit → Act → World → Prop} {fr : Fr} {m : Mem} {Φ : World → Prop}
theorem afterS_inl {A L : Type} {k : A → Option L} {r : L} {a : A} (h : afterS k r (.inl a)) : k a = some r := h
theorem afterS_inr {A L : Type} {k : A → Option L} {r l : L} (h : afterS k r (.inr l)) : l = r := h
theorem nextL_inl {S E : Type} {f : S → Option (S ⊕ E)} {n : Nat} {e : E} {s : S} (h : nextL f n e (.inl s)) : loopN f n s = some e := h
theorem nextL_inr {S E : Type} {f : S → Option (S ⊕ E)} {n : Nat} {e l : E} (h : nextL f n e (.inr l)) : l = e := h
theorem CW.meetN {x y : Code} {X : Type} (L : List Nat) (F : X → Fr) (M : X → List (Nat × Ent)) (N : X → Mem) (Ψ : X → World → Prop) (I : X → Prop)
    (h1 : CW P n x (Exit.then (Head n (fun x => F x ++ Sx.keep L fr) (fun x => upds (M x) m ++ N x) Ψ I) Q) fr m Φ) (h2 : ∀ z, I z → CW P n y Q (F z ++ Sx.keep L fr) (upds (M z) m ++ N z) (Ψ z)) : CW P n (.seq x y) Q fr m Φ :=
  CW.meet (fun x => F x ++ Sx.keep L fr) (fun x => upds (M x) m ++ N x) Ψ I h1 h2
theorem Sat.pickF {a w} {fr' : Fr} {m' : Mem} {Ψ : World → Prop} (h : Sat n fr m Φ a w) (L : List Nat) (hL : L.Nodup) (hf : Subs fr fr') (hm : pickM L m = m') (hΨ : ∀ w, Φ w → Ψ w) : Sat n fr' m' Ψ a w :=
  let h' := h.pick L hL hm hΨ
  ⟨h'.fits.sub hf, h'.mem, h'.sup⟩
theorem QC.meetP {X : Type} {F : X → Fr} {M : X → Mem} {Ψ : X → World → Prop} {I : X → Prop} (y : X) (hI : I y) (L : List Nat) (hL : L.Nodup) (hf : Subs fr (F y)) (hm : pickM L m = M y) (hΨ : ∀ w, Φ w → Ψ y w) : QC n (Exit.then (Head n F M Ψ I) Q) .normal fr m Φ :=
  fun _ _ hs => ⟨y, hI, hs.pickF L hL hf hm hΨ⟩
theorem QC.roundP {X : Type} {F : X → Fr} {M : X → Mem} {Ψ : X → World → Prop} {I : X → Prop} {μ : X → Nat} {x : X} (y : X) (hI : I y) (hμ : μ y < μ x) (L : List Nat) (hL : L.Nodup) (hf : Subs fr (F y)) (hm : pickM L m = M y) (hΨ : ∀ w, Φ w → Ψ y w) : QC n (Exit.then (Round n F M Ψ I μ x) Q) .normal fr m Φ :=
  fun _ _ hs => ⟨y, hI, hμ, hs.pickF L hL hf hm hΨ⟩
theorem QC.row {ex : Exit} (e size : Nat) (h : QC n Q ex fr (m ++ [.row e size (.slice none 0 0) 0 []]) Φ) : QC n Q ex fr m Φ := fun a w hs =>
  h a w ⟨hs.fits, hs.mem.push (by intro en hen; simp at hen; subst hen; exact World.ownsRow_nil w 0 e size) (by simp [bsAll, Ent.bs, Value.ownBlock]) (by simp [bsAll, Ent.bs, Value.ownBlock]),
    hs.sup.less (fun k _ hk => by unfold gs at *; rw [bsAll, List.flatMap_append] at hk; simpa [Ent.bs, Value.ownBlock, bsAll] using hk)⟩
theorem RD.row {ops : Array Oper} {C : Fr → Mem → (World → Prop) → Prop} {mS : Mem} {ΦS : World → Prop} {fuel : Nat} {listed : Array Bool} (e size : Nat) (h : RD P ops n mS ΦS C fuel listed fr (m ++ [.row e size (.slice none 0 0) 0 []]) Φ) : RD P ops n mS ΦS C fuel listed fr m Φ := fun Q h1 hq a w hs hS =>
  h Q h1 hq a w ⟨hs.fits, hs.mem.push (by intro en hen; simp at hen; subst hen; exact World.ownsRow_nil w 0 e size) (by simp [bsAll, Ent.bs, Value.ownBlock]) (by simp [bsAll, Ent.bs, Value.ownBlock]),
    hs.sup.less (fun k _ hk => by unfold gs at *; rw [bsAll, List.flatMap_append] at hk; simpa [Ent.bs, Value.ownBlock, bsAll] using hk)⟩ hS
theorem St.of' {l L' : List Nat} {m m' : Mem} {Φ ΦS : World → Prop} (hl : L'.Nodup) (hp : pickM L' m' = pickM l m) (hΦ : ∀ w, Φ w → ΦS w) : ∀ w, MemOk m' w → Φ w → St (pickM l m) ΦS w :=
  fun w hm h => ⟨hp ▸ hm.pick hl, hΦ w h⟩
end
section
variable {P : Program} {n : Nat} {fr : Fr} {m : Mem} {Φ : World → Prop} {d : Option Tmp} {ty : TypeId} {pos : String} {af : Array Edge} {gd : Option (Nat × Bool)} {α : Type}
theorem EV.buildRowQ {tt e len z} {t : Ty α} {l : List α} {ixs : List (Nat × Operand)} {xs : List Operand} {vs : List Value} (hl : l.length = len) (h0k : 0 < t.sz) (hu : P.underlying tt = some (.slice e)) (hk : ∀ w, (sizeOf e).run P w = .ok t.sz w) (hz : ∀ w, (zeroValue e).run P w = .ok z w)
    (hixs : ixs = (xs.zipIdx 0).map fun p => (p.2, p.1)) (hv : evs fr xs = some vs) (hlen : vs.length = len) (hcs : vs.map (fun v => v.cells.toList.length) = vs.map (fun _ => t.sz)) (hfl : flat vs = encL t l (fun _ _ => .z)) (hsmall : Nat.ble (len * t.sz) 16777216 = true := by rfl) :
    EV P n fr m Φ ⟨d, .buildSlice tt len ixs.toArray, ty, pos, af, gd⟩ (fun v' m' Φ' => ∃ g, v' = .slice (some ⟨g, 0, none⟩) l.length len ∧ m' = m ++ [rowE t e l (.mk (some ⟨g, 0, none⟩) len (fun _ _ => .z))] ∧ Φ' = Φ) := fun a w next Q hf hm hs hkk => by
  refine EV.buildRow h0k hsmall hu hk hz hixs hv hlen hcs a w next Q hf hm hs ?_
  rintro v' m' Φ' w' ⟨g, rfl, rfl, rfl⟩ h1 h2
  refine hkk _ _ _ w' ⟨g, by rw [hl], ?_, rfl⟩ h1 h2
  show _ = m ++ [Ent.row e t.sz (.slice (some ⟨g, 0, none⟩) l.length len) l.length (encL t l (fun _ _ => .z))]
  rw [hl, hfl]
end
end Go.Sx

namespace Go.Sx
open Go.RowKit
/-! ## Parts of slices; appends of slices -/
def lsl {α : Type} (l : List α) (lo hi : Int) : Option (List α) := if 0 ≤ lo ∧ lo ≤ hi ∧ hi ≤ l.length then some ((l.drop lo.toNat).take (hi.toNat - lo.toNat)) else none
theorem lsl_some {α : Type} {l l' : List α} {lo hi : Int} (h : lsl l lo hi = some l') : (0 ≤ lo ∧ lo ≤ hi ∧ hi ≤ l.length) ∧ (l.drop lo.toNat).take (hi.toNat - lo.toNat) = l' := by
  unfold lsl at h; split at h
  · simp at h; exact ⟨by assumption, h⟩
  · cases h
theorem lsl_len {α : Type} {l l' : List α} {lo hi : Int} (h : lsl l lo hi = some l') : l'.length = hi.toNat - lo.toNat := by
  obtain ⟨⟨h1, h2, h3⟩, rfl⟩ := lsl_some h
  simp; omega
theorem lsl_get {α : Type} {l l' : List α} {lo hi : Int} (h : lsl l lo hi = some l') {i : Nat} {x : α} (hx : l'[i]? = some x) : l[lo.toNat + i]? = some x := by
  obtain ⟨_, rfl⟩ := lsl_some h
  rw [List.getElem?_take] at hx
  split at hx
  · rwa [List.getElem?_drop] at hx
  · simp at hx
def subA (k lo cap : Nat) : Option Addr → Option Addr
  | none => none
  | some A => some (if cap = lo then A else ⟨A.block, A.off + lo * k, none⟩)
def subQ (k lo : Nat) (q : Hd) : Hd := .mk (subA k lo q.cap q.a) (q.cap - lo) (fun i => q.sub (lo + i))
section
variable {α : Type}
theorem slR.sub {t : Ty α} {w : World} {l l' : List α} {q : Hd} {lo hi : Int} (h : slR t w l q) (hg : lsl l lo hi = some l') : slR t w l' (subQ t.sz lo.toNat q) := by
  have hlen := lsl_len hg
  obtain ⟨h1, h2, h3⟩ := (lsl_some hg).1
  refine ⟨⟨by have := h.1.1; omega, ?_⟩, fun i x hx => ?_⟩
  · rcases h.1.2 with ⟨hc, hn⟩ | ⟨ha, hc⟩
    · left; refine ⟨by show q.cap - _ = 0; omega, by omega⟩
    · right
      refine ⟨?_, by show _ ≤ q.cap - _; omega⟩
      show subA _ _ _ q.a = some ⟨ab (subA _ _ _ q.a), ao (subA _ _ _ q.a), none⟩
      rw [ha]
      simp only [subA]
      split <;> rfl
  · have hl := lsl_get hg hx
    obtain ⟨ha, hr, hrd⟩ := h.2 _ _ hl
    have hi' := (List.getElem?_eq_some_iff.1 hl).1
    have hcap : ¬ q.cap = lo.toNat := by
      rcases h.1.2 with ⟨_, hn⟩ | ⟨_, hc⟩ <;> omega
    have he : subA t.sz lo.toNat q.cap q.a = some ⟨ab q.a, ao q.a + lo.toNat * t.sz, none⟩ := by
      rw [ha]; simp only [subA, if_neg hcap]; rfl
    refine ⟨?_, ?_, hrd⟩
    · show subA _ _ _ q.a = some ⟨ab (subA _ _ _ q.a), ao (subA _ _ _ q.a), none⟩
      rw [he]; rfl
    · show RowAt w (ab (subA _ _ _ q.a)) (ao (subA _ _ _ q.a) + i * t.sz) _
      rw [he]
      show RowAt w (ab q.a) (ao q.a + lo.toNat * t.sz + i * t.sz) (t.enc x (q.sub (lo.toNat + i)))
      rw [Nat.add_assoc, ← Nat.add_mul]; exact hr
/-- all cells of a slice -/
theorem slR.row {t : Ty α} {w : World} {l : List α} {q : Hd} (h : slR t w l q) (hsz : 0 < t.sz) : RowAt w (ab q.a) (ao q.a) (encL t l q.sub) := by
  intro i v hv
  have hlt := (List.getElem?_eq_some_iff.1 hv).1
  rw [encL_len] at hlt
  have hj : i / t.sz < l.length := Nat.div_lt_of_lt_mul (by rw [Nat.mul_comm]; exact hlt)
  have hx : l[i / t.sz]? = some l[i / t.sz] := List.getElem?_eq_getElem hj
  have hc := encL_cut t l q.sub _ _ hx
  have hr := (h.2 _ _ hx).2.1
  have hm : i / t.sz * t.sz + i % t.sz = i := by rw [Nat.mul_comm]; exact Nat.div_add_mod i t.sz
  have := hr (i % t.sz) v (by
    rw [← hc]; unfold cut
    rw [List.getElem?_take, if_pos (Nat.mod_lt _ hsz), List.getElem?_drop, hm]; exact hv)
  rw [Nat.add_assoc, hm] at this
  exact this
def appS (n : Nat) (hh hh' : Nat → Hs) : Nat → Hs := fun i => if i < n then hh i else hh' (i - n)
theorem encL_app (t : Ty α) (l l' : List α) (hh hh' : Nat → Hs) : encL t (l ++ l') (appS l.length hh hh') = encL t l hh ++ encL t l' hh' := by
  rw [encL_append]
  rw [encL_congr t l (appS l.length hh hh') hh (fun i hi => by unfold appS; rw [if_pos hi])]
  rw [encL_congr t l' (fun i => appS l.length hh hh' (l.length + i)) hh' (fun i hi => by unfold appS; rw [if_neg (by omega)]; congr 1; omega)]
theorem rdS.app {t : Ty α} {w : World} {l l' : List α} {hh hh' : Nat → Hs} (h : rdS t w l hh) (h' : rdS t w l' hh') : rdS t w (l ++ l') (appS l.length hh hh') := fun i y hy => by
  unfold appS
  rw [List.getElem?_append] at hy
  split at hy
  · rename_i hlt; rw [if_pos hlt]; exact h i y hy
  · rename_i hge; rw [if_neg hge]; exact h' _ y hy
theorem slR.rdS {t : Ty α} {w : World} {l : List α} {q : Hd} (h : slR t w l q) : rdS t w l q.sub := fun i x hx => (h.2 i x hx).2.2
end
section
variable {P : Program} {n : Nat} {fr : Fr} {m : Mem} {Φ : World → Prop} {d : Option Tmp} {ty : TypeId} {pos : String} {af : Array Edge} {gd : Option (Nat × Bool)} {α : Type}
/-- append of a slice to a row of one's own -/
theorem EV.appQL {s x tt e bytes} {i0 : TypeInfo} {z : Value} {t : Ty α} {l l2 l' : List α} {q q2 : Hd} (i : Nat) (ht : P.underlying tt = some (.slice e)) (hk : ∀ w, (sizeOf e).run P w = .ok t.sz w) (hi0 : P.info? e = some i0) (hz : i0.zero = some z) (hsize : i0.size = t.sz) (hby : i0.bytes = bytes)
    (hzs : z.cells.size = t.sz) (hsz : 0 < t.sz) (hs : ev fr s = some (.slice q.a l.length q.cap)) (hm : m[i]? = some (rowE t e l q)) (hx : ev fr x = some (.slice q2.a l2.length q2.cap)) (hsrc : ∀ w, MemOk m w → Φ w → slR t w l2 q2) (hg : appsG bytes l l2 = some l') (h8 : 1 ≤ bytes) :
    EV P n fr m Φ ⟨d, .call ⟨.builtin .append, #[s, x], #[tt, tt]⟩, ty, pos, af, gd⟩ (fun v' m' Φ' => ∃ a cap, v' = .slice a l'.length cap ∧ m' = m.set i (rowE t e l' (.mk a cap (appS l.length q.sub q2.sub))) ∧ Φ' = Φ) := fun a w next Q hf hmo hsup hk2 => by
  obtain ⟨hb, rfl⟩ := appsG_some hg
  have h1 : (l.length + l2.length) * 1 ≤ (l.length + l2.length) * bytes := Nat.mul_le_mul_left _ h8
  cases hl2 : l2 with
  | nil =>
    subst hl2
    refine EV.append0 i ht hk hs hm hx a w next Q hf hmo hsup ?_
    rintro v' m' Φ' w' ⟨rfl, rfl, rfl⟩ hm' hs'
    refine hk2 _ _ _ w' ⟨q.a, q.cap, by simp, ?_, rfl⟩ hm' hs'
    have : rowE t e (l ++ []) (.mk q.a q.cap (appS l.length q.sub q2.sub)) = rowE t e l q := by
      show Ent.row e t.sz (.slice q.a (l ++ []).length q.cap) (l ++ []).length (encL t (l ++ []) (appS l.length q.sub q2.sub)) = _
      rw [encL_app]; simp [encL]
    rw [this]
    obtain ⟨hlt, he⟩ := List.getElem?_eq_some_iff.1 hm
    rw [← he, List.set_getElem_self]
  | cons y r =>
    have hne : l2 ≠ [] := by rw [hl2]; simp
    have hsr := hsrc w hmo hsup.out
    have ha := (hsr.2 0 y (by rw [hl2]; rfl)).1
    rw [ha] at hx
    refine EV.appendE (news := encL t l2 q2.sub) i ht hi0 hz hsize hby hzs hsz hs hm hx (fun w hm hΦ => (hsrc w hm hΦ).row hsz) (encL_len _ _ _) (encL_one _ _ _) (by rw [hl2]; simp) (by omega) hb a w next Q hf hmo hsup ?_
    rintro v' m' Φ' w' ⟨g, cap, rfl, rfl, rfl⟩ hm' hs'
    refine hk2 _ _ _ w' ⟨some ⟨g, 0, none⟩, cap, by simp, ?_, rfl⟩ hm' hs'
    show _ = m.set i (Ent.row e t.sz _ _ (encL t (l ++ l2) (appS l.length q.sub q2.sub)))
    rw [encL_app]
    simp
    rfl
theorem PV.sliceQ_ln {x y tt e kk} {t : Ty α} {l l' : List α} {q : Hd} {lo : Int} (hu : P.underlying tt = some (.slice e)) (hk : ∀ w, (sizeOf e).run P w = .ok t.sz w) (hs : ∀ w, MemOk m w → Φ w → slR t w l q) (hx : ev fr x = some (.slice q.a l.length q.cap)) (hy : ev fr y = some (.int kk lo)) (hg : lsl l lo l.length = some l') :
    PV P fr m Φ ⟨d, .slice tt x (some y) none none, ty, pos, af, gd⟩ (.slice (subQ t.sz lo.toNat q).a l'.length (subQ t.sz lo.toNat q).cap) := fun a n w hf hm hΦ => by
  obtain ⟨h1, h2, h3⟩ := (lsl_some hg).1
  have hlen := lsl_len hg
  have hu' : ∀ w, (underlying tt).run P w = .ok (.slice e) w := fun w => by simp [underlying, hu]
  rcases (hs w hm hΦ).1.2 with ⟨hc, hn⟩ | ⟨ha, hc⟩
  · have h0 : lo = 0 := by omega
    have hl' : l'.length = 0 := by omega
    rw [hc, hn] at hx
    subst h0
    rcases ha : q.a with _ | A
    rotate_left
    · rw [ha] at hx
      have e : Value.slice (subQ t.sz (0 : Int).toNat q).a l'.length (subQ t.sz (0 : Int).toNat q).cap = .slice (some A) 0 0 := by
        show Value.slice (subA _ _ _ q.a) _ (q.cap - _) = _
        rw [ha, hc, hl']; rfl
      rw [e]
      simp [execOp, hf.ev hx, hf.ev hy, Instr.sliceAt, Instr.slice, hu', hk, Instr.sliceBounds, Instr.sliceBound, asIntOf]
    rw [ha] at hx
    have := PV.slice_nil (P := P) (fr := fr) (m := m) (Φ := Φ) (d := d) (ty := ty) (pos := pos) (af := af) (gd := gd) hu hk hx hy
    rw [this a n w hf hm hΦ]
    have e : Value.slice (subQ t.sz (0 : Int).toNat q).a l'.length (subQ t.sz (0 : Int).toNat q).cap = .slice none 0 0 := by
      show Value.slice (subA _ _ _ q.a) _ (q.cap - _) = _
      rw [ha, hc, hl']; rfl
    rw [e]
  · rw [ha] at hx
    have := PV.slice_xn (P := P) (fr := fr) (m := m) (Φ := Φ) (d := d) (ty := ty) (pos := pos) (af := af) (gd := gd) hu hk hx hy ⟨h1, h2⟩
    rw [this a n w hf hm hΦ]
    have e : Value.slice (subQ t.sz lo.toNat q).a l'.length (subQ t.sz lo.toNat q).cap = subSl (ab q.a) (ao q.a) t.sz lo.toNat l.length q.cap := by
      show Value.slice (subA _ _ _ q.a) _ (q.cap - _) = _
      rw [ha, hlen]
      simp only [subSl, subA, Int.toNat_natCast]
      rfl
    rw [e]
theorem PV.sliceQ_nh {x y tt e kk} {t : Ty α} {l l' : List α} {q : Hd} {hi : Int} (hu : P.underlying tt = some (.slice e)) (hk : ∀ w, (sizeOf e).run P w = .ok t.sz w) (hs : ∀ w, MemOk m w → Φ w → slR t w l q) (hx : ev fr x = some (.slice q.a l.length q.cap)) (hy : ev fr y = some (.int kk hi)) (hg : lsl l 0 hi = some l') :
    PV P fr m Φ ⟨d, .slice tt x none (some y) none, ty, pos, af, gd⟩ (.slice q.a l'.length q.cap) := fun a n w hf hm hΦ => by
  obtain ⟨h1, h2, h3⟩ := (lsl_some hg).1
  have hlen := lsl_len hg
  have hu' : ∀ w, (underlying tt).run P w = .ok (.slice e) w := fun w => by simp [underlying, hu]
  rcases (hs w hm hΦ).1.2 with ⟨hc, hn⟩ | ⟨ha, hc⟩
  · have h0 : hi = 0 := by omega
    have hl' : l'.length = 0 := by omega
    rw [hc, hn] at hx
    subst h0
    rw [hc, hl']
    rcases ha : q.a with _ | A <;> rw [ha] at hx <;>
    simp [execOp, hf.ev hx, hf.ev hy, Instr.sliceAt, Instr.slice, hu', hk, Instr.sliceBounds, Instr.sliceBound, asIntOf]
  · rw [ha] at hx
    have := PV.slice_nx (P := P) (fr := fr) (m := m) (Φ := Φ) (d := d) (ty := ty) (pos := pos) (af := af) (gd := gd) hu hk hx hy ⟨h2, by omega⟩
    rw [this a n w hf hm hΦ, ha, hlen]; rfl
end
/-! ## Maps -/
section
variable {κ β : Type}
def mpL (kv : κ → Value) (tv : Ty β) : List (κ × β) → (Nat → Hs) → List (Value × Value)
  | [], _ => []
  | p :: r, hh => (kv p.1, tv.val p.2 (hh 0)) :: mpL kv tv r (fun i => hh (i + 1))
abbrev mpE (kv : κ → Value) (tv : Ty β) (g : Nat) (l : List (κ × β)) (hh : Nat → Hs) : Ent := .mp g (mpL kv tv l hh)
theorem mpL_len (kv : κ → Value) (tv : Ty β) : ∀ (l : List (κ × β)) (hh : Nat → Hs), (mpL kv tv l hh).length = l.length := by
  intro l; induction l with
  | nil => intro _; rfl
  | cons p r ih => intro hh; simp [mpL, ih]
theorem mpL_get (kv : κ → Value) (tv : Ty β) : ∀ (l : List (κ × β)) (hh : Nat → Hs) (i : Nat), (mpL kv tv l hh)[i]? = (l[i]?).map (fun p => (kv p.1, tv.val p.2 (hh i))) := by
  intro l; induction l with
  | nil => intro _ i; simp [mpL]
  | cons p r ih =>
    intro hh i
    cases i with
    | zero => simp [mpL]
    | succ i => simp [mpL, ih]
theorem mpL_congr (kv : κ → Value) (tv : Ty β) {l : List (κ × β)} {hh hh' : Nat → Hs} (h : ∀ i, i < l.length → hh i = hh' i) : mpL kv tv l hh = mpL kv tv l hh' := by
  apply List.ext_getElem?
  intro i
  rw [mpL_get, mpL_get]
  by_cases hi : i < l.length
  · rw [h i hi]
  · rw [List.getElem?_eq_none (by omega)]; rfl
variable [DecidableEq κ]
def mfind (l : List (κ × β)) (k : κ) : Option Nat := l.findIdx? (fun p => decide (p.1 = k))
def mget (l : List (κ × β)) (k : κ) : Option β := (l.find? (fun p => decide (p.1 = k))).map (·.2)
def mgetH (l : List (κ × β)) (hh : Nat → Hs) (k : κ) : Hs := match mfind l k with
  | some i => hh i
  | none => fun _ => .z
def mput (l : List (κ × β)) (k : κ) (v : β) : List (κ × β) := match mfind l k with
  | some i => l.set i (k, v)
  | none => l ++ [(k, v)]
def mputH (l : List (κ × β)) (hh : Nat → Hs) (k : κ) (h : Hs) : Nat → Hs := match mfind l k with
  | some i => fun j => if j = i then h else hh j
  | none => fun j => if j = l.length then h else hh j
theorem mfind_some {l : List (κ × β)} {k : κ} {i : Nat} (h : mfind l k = some i) : ∃ v, l[i]? = some (k, v) ∧ mget l k = some v := by
  unfold mfind at h
  induction l generalizing i with
  | nil => simp at h
  | cons p r ih =>
    rw [List.findIdx?_cons] at h
    by_cases hp : p.1 = k
    · simp [hp] at h; subst h; exact ⟨p.2, by simp [← hp], by simp [mget, hp]⟩
    · simp [hp] at h
      obtain ⟨j, hj, rfl⟩ := h
      obtain ⟨v, h1, h2⟩ := ih hj
      exact ⟨v, by simpa using h1, by simpa [mget, hp] using h2⟩
theorem mfind_none {l : List (κ × β)} {k : κ} (h : mfind l k = none) : (∀ p ∈ l, p.1 ≠ k) ∧ mget l k = none := by
  unfold mfind at h
  rw [List.findIdx?_eq_none_iff] at h
  have h' : ∀ p ∈ l, p.1 ≠ k := fun p hp => by simpa using h p hp
  refine ⟨h', ?_⟩
  unfold mget
  rw [List.find?_eq_none.2 (fun p hp => by simpa using h' p hp)]; rfl
def mpR (tv : Ty β) (w : World) (l : List (κ × β)) (hh : Nat → Hs) : Prop := ∀ i p, l[i]? = some p → tv.rd w p.2 (hh i)
omit [DecidableEq κ] in
theorem mpR.nil {tv : Ty β} {w : World} {hh : Nat → Hs} : mpR tv w ([] : List (κ × β)) hh := fun i p h => by simp at h
theorem mpR.get {tv : Ty β} {w : World} {l : List (κ × β)} {hh : Nat → Hs} (h : mpR tv w l hh) (k : κ) : tv.rd w ((mget l k).getD tv.zero) (mgetH l hh k) := by
  unfold mgetH
  cases hf : mfind l k with
  | none => rw [(mfind_none hf).2]; exact tv.rdz w
  | some i => obtain ⟨v, h1, h2⟩ := mfind_some hf; rw [h2]; exact h i _ h1
theorem mpR.put {tv : Ty β} {w : World} {l : List (κ × β)} {hh : Nat → Hs} {k : κ} {v : β} {hv : Hs} (h : mpR tv w l hh) (hr : tv.rd w v hv) : mpR tv w (mput l k v) (mputH l hh k hv) := by
  unfold mput mputH
  cases hf : mfind l k with
  | none =>
    intro i p hp
    simp only at hp ⊢
    rw [List.getElem?_append] at hp
    split at hp
    · rw [if_neg (by omega)]; exact h i p hp
    · have : i - l.length = 0 := by
        cases hk : i - l.length with
        | zero => rfl
        | succ k => rw [hk] at hp; simp at hp
      rw [this] at hp; simp at hp; subst hp
      rw [if_pos (by omega)]; exact hr
  | some j =>
    intro i p hp
    simp only at hp ⊢
    rw [List.getElem?_set] at hp
    by_cases e : j = i
    · subst e
      simp at hp; obtain ⟨_, rfl⟩ := hp
      rw [if_pos rfl]; exact hr
    · rw [if_neg e] at hp
      rw [if_neg (fun x => e x.symm)]; exact h i p hp
end
section
variable {P : Program} {n : Nat} {fr : Fr} {m : Mem} {Φ : World → Prop} {d : Option Tmp} {ty : TypeId} {pos : String} {af : Array Edge} {gd : Option (Nat × Bool)} {κ β : Type} [DecidableEq κ] {kt et : TypeId} {dom : Value → Prop}
omit [DecidableEq κ] in
theorem mpL_dom {kv : κ → Value} {tv : Ty β} {l : List (κ × β)} {hh : Nat → Hs} (hk : ∀ k, dom (kv k)) : ∀ p ∈ mpL kv tv l hh, dom p.1 := fun p hp => by
  obtain ⟨i, hi⟩ := List.getElem?_of_mem hp
  rw [mpL_get] at hi
  cases hl : l[i]? with
  | none => rw [hl] at hi; simp at hi
  | some q => rw [hl] at hi; simp at hi; subst hi; exact hk _
theorem mpL_MGet {kv : κ → Value} {tv : Ty β} (hinj : ∀ a b, kv a = kv b → a = b) (l : List (κ × β)) (hh : Nat → Hs) (k : κ) : MGet (mpL kv tv l hh) (kv k) ((mget l k).map (fun v => tv.val v (mgetH l hh k))) := by
  unfold mgetH
  cases hf : mfind l k with
  | some i =>
    obtain ⟨v, h1, h2⟩ := mfind_some hf
    rw [h2]
    exact List.mem_of_getElem? (i := i) (by rw [mpL_get, h1]; rfl)
  | none =>
    obtain ⟨h1, h2⟩ := mfind_none hf
    rw [h2]
    intro p hp e
    obtain ⟨i, hi⟩ := List.getElem?_of_mem hp
    rw [mpL_get] at hi
    cases hl : l[i]? with
    | none => rw [hl] at hi; simp at hi
    | some q => rw [hl] at hi; simp at hi; subst hi; exact h1 q (List.mem_of_getElem? hl) (hinj _ _ e)
theorem mpL_MPut {kv : κ → Value} {tv : Ty β} (hinj : ∀ a b, kv a = kv b → a = b) (l : List (κ × β)) (hh : Nat → Hs) (k : κ) (v : β) (hv : Hs) : MPut (mpL kv tv l hh) (kv k) (tv.val v hv) (mpL kv tv (mput l k v) (mputH l hh k hv)) := by
  unfold mput mputH
  cases hf : mfind l k with
  | some i =>
    obtain ⟨v0, h1, h2⟩ := mfind_some hf
    have hlt := (List.getElem?_eq_some_iff.1 h1).1
    refine .inl ⟨i, tv.val v0 (hh i), by rw [mpL_get, h1]; rfl, ?_⟩
    apply List.ext_getElem?
    intro j
    rw [mpL_get, List.getElem?_set, List.getElem?_set, mpL_len]
    by_cases e : i = j
    · subst e; simp [hlt]
    · rw [if_neg e, if_neg e, mpL_get]
      simp only [if_neg (fun x => e x.symm : ¬ j = i)]
  | none =>
    obtain ⟨h1, h2⟩ := mfind_none hf
    refine .inr ⟨?_, ?_⟩
    · intro p hp e
      obtain ⟨i, hi⟩ := List.getElem?_of_mem hp
      rw [mpL_get] at hi
      cases hl : l[i]? with
      | none => rw [hl] at hi; simp at hi
      | some q => rw [hl] at hi; simp at hi; subst hi; exact h1 q (List.mem_of_getElem? hl) (hinj _ _ e)
    · apply List.ext_getElem?
      intro j
      rw [mpL_get, List.getElem?_append, List.getElem?_append, mpL_len]
      by_cases e : j < l.length
      · rw [if_pos e, if_pos e, mpL_get]
        simp only [if_neg (by omega : ¬ j = l.length)]
      · rw [if_neg e, if_neg e]
        cases hk : j - l.length with
        | zero => simp [show j = l.length by omega]
        | succ k => simp
theorem PV.lookupQ {x y tt g k} {kv : κ → Value} {tv : Ty β} {l : List (κ × β)} {hh : Nat → Hs} (i : Nat) (K : KeyT P kt dom) (hdom : ∀ k, dom (kv k)) (hinj : ∀ a b, kv a = kv b → a = b) (ht : P.underlying tt = some (.map kt et)) (hz : ∀ w, (zeroValue et).run P w = .ok (tv.val tv.zero (fun _ => .z)) w)
    (hx : ev fr x = some (.map (some g))) (hy : ev fr y = some (kv k)) (hm : m[i]? = some (mpE kv tv g l hh)) : PV P fr m Φ ⟨d, .lookup tt x y false, ty, pos, af, gd⟩ (tv.val ((mget l k).getD tv.zero) (mgetH l hh k)) := by
  have := PV.lookup (fr := fr) (Φ := Φ) (d := d) (ty := ty) (pos := pos) (af := af) (gd := gd) (ok := false) i K ht hz hx hy hm (mpL_dom hdom) (hdom k) (mpL_MGet hinj l hh k)
  refine PV.to this ?_
  cases hf : mfind l k with
  | none => rw [(mfind_none hf).2]; simp [mgetH, hf]
  | some j => obtain ⟨v, h1, h2⟩ := mfind_some hf; rw [h2]; simp
theorem PV.lookupQ2 {x y tt g k} {kv : κ → Value} {tv : Ty β} {l : List (κ × β)} {hh : Nat → Hs} (i : Nat) (K : KeyT P kt dom) (hdom : ∀ k, dom (kv k)) (hinj : ∀ a b, kv a = kv b → a = b) (ht : P.underlying tt = some (.map kt et)) (hz : ∀ w, (zeroValue et).run P w = .ok (tv.val tv.zero (fun _ => .z)) w)
    (hx : ev fr x = some (.map (some g))) (hy : ev fr y = some (kv k)) (hm : m[i]? = some (mpE kv tv g l hh)) : PV P fr m Φ ⟨d, .lookup tt x y true, ty, pos, af, gd⟩ (.tuple #[tv.val ((mget l k).getD tv.zero) (mgetH l hh k), .bool (mget l k).isSome]) := by
  have := PV.lookup (fr := fr) (Φ := Φ) (d := d) (ty := ty) (pos := pos) (af := af) (gd := gd) (ok := true) i K ht hz hx hy hm (mpL_dom hdom) (hdom k) (mpL_MGet hinj l hh k)
  refine PV.to this ?_
  cases hf : mfind l k with
  | none => rw [(mfind_none hf).2]; simp [mgetH, hf]
  | some j => obtain ⟨v, h1, h2⟩ := mfind_some hf; rw [h2]; simp
theorem EV.mapUpdQ {x y z tt g k v} {kv : κ → Value} {tv : Ty β} {l : List (κ × β)} {hh : Nat → Hs} {hv : Hs} (i : Nat) (K : KeyT P kt dom) (hdom : ∀ k, dom (kv k)) (hinj : ∀ a b, kv a = kv b → a = b) (ht : P.underlying tt = some (.map kt et)) (hx : ev fr x = some (.map (some g))) (hy : ev fr y = some (kv k)) (hz : ev fr z = some (tv.val v hv)) (hm : m[i]? = some (mpE kv tv g l hh)) :
    EV P n fr m Φ ⟨none, .mapUpdate tt x y z, ty, pos, af, gd⟩ (fun v' m' Φ' => m' = m.set i (mpE kv tv g (mput l k v) (mputH l hh k hv)) ∧ Φ' = Φ) :=
  EV.mapUpdate i K ht hx hy hz hm (mpL_dom hdom) (hdom k) (mpL_MPut hinj l hh k v hv)
omit [DecidableEq κ] in
theorem PV.lenMapQ {x tt g} {kv : κ → Value} {tv : Ty β} {l : List (κ × β)} {hh : Nat → Hs} (i : Nat) (ht : P.underlying tt = some (.map kt et)) (hx : ev fr x = some (.map (some g))) (hm : m[i]? = some (mpE kv tv g l hh)) :
    PV P fr m Φ ⟨d, .call ⟨.builtin .len, #[x], #[tt]⟩, ty, pos, af, gd⟩ (.int .i64 l.length) := (PV.lenMap i ht hx hm).to (by rw [mpL_len])
end
theorem str_dom (k : ByteArray) : isStr (.string k) := ⟨k, rfl⟩
theorem str_inj (a b : ByteArray) (h : Value.string a = .string b) : a = b := by cases h; rfl
end Go.Sx
namespace Go.Sx
open Go.RowKit
section
variable {P : Program} {n : Nat} {fr : Fr} {m : Mem} {Φ : World → Prop} {d : Option Tmp} {ty : TypeId} {pos : String} {af : Array Edge} {gd : Option (Nat × Bool)} {α : Type}
/-- a block's array, read as a slice -/
theorem slR_arr {t : Ty α} {N i g o : Nat} {v : Vector α N} {w : World} {A : List Value} (hm : MemOk m w) (hi : m[i]? = some (.blk g A)) (hc : ∀ n (hn : n < N), cut A (o + n * t.sz) t.sz = t.enc v[n] (fun _ => .z)) (hrd : ∀ x, t.rd w x (fun _ => .z)) (hN : N ≤ 9223372036854775807) :
    slR t w v.toList (.mk (some ⟨g, o, none⟩) N (fun _ _ => .z)) := by
  refine ⟨⟨by simpa using hN, .inr ⟨rfl, by simp [Hd.cap]⟩⟩, fun i x hx => ⟨rfl, ?_, hrd x⟩⟩
  have hlt : i < N := by have := (List.getElem?_eq_some_iff.1 hx).1; simpa using this
  have : v[i] = x := by have := (List.getElem?_eq_some_iff.1 hx).2; simpa using this
  subst this
  have := hm.row hi (o + i * t.sz) t.sz
  rw [hc i hlt] at this
  exact this
theorem EV.callV2 {t f xs ts vs} {pre caps : List Value} {K : Value → Mem → (World → Prop) → Prop} (hc : ∀ args w, (callFunc f args).run P w = .ok (.enter f args) w) (hf : ev fr t = some (.func (.func f) pre.toArray caps.toArray)) (hv : evs fr xs = some vs) (h : CallK P f (pre ++ vs ++ caps) m Φ K) :
    EV P n fr m Φ ⟨d, .call ⟨.value t, xs.toArray, ts⟩, ty, pos, af, gd⟩ K := fun a w next Q hfit hm hs hk => by
  have he := hfit.evs hv
  have hf' : a.eval t = .func (.func f) pre.toArray caps.toArray := hfit.ev hf
  have hr : (execOp a.eval ⟨d, .call ⟨.value t, xs.toArray, ts⟩, ty, pos, af, gd⟩).run P w = .ok (.enter f (pre ++ vs ++ caps).toArray) w := by
    simp only [execOp, resolve, hf', Deferred.ofValue, Sem.run_bind, Sem.run_pure, Result.andThen_ok, invoke, List.map_toArray, he]
    simp [hc]
  simp only [Oper.wp, hr, Oper.upon]
  refine (h w hm hs).mono ?_
  rintro e w' ⟨v, m', Φ', rfl, hK, hm', hs'⟩
  exact hk v m' Φ' w' hK hm' hs'
end
end Go.Sx
namespace Go.Sx
open Go.RowKit
section
variable {P : Program} {n : Nat} {fr : Fr} {m : Mem} {Φ : World → Prop} {d : Option Tmp} {ty : TypeId} {pos : String} {af : Array Edge} {gd : Option (Nat × Bool)} {α : Type}
theorem slR.sub0 {t : Ty α} {w : World} {l l' : List α} {q : Hd} {hi : Int} (h : slR t w l q) (hg : lsl l 0 hi = some l') : slR t w l' q := by
  have hlen := lsl_len hg
  obtain ⟨h1, h2, h3⟩ := (lsl_some hg).1
  refine ⟨⟨by have := h.1.1; omega, ?_⟩, fun i x hx => ?_⟩
  · rcases h.1.2 with ⟨hc, hn⟩ | ⟨ha, hc⟩
    · exact .inl ⟨hc, by omega⟩
    · exact .inr ⟨ha, by omega⟩
  · have := lsl_get hg hx
    simp only [Int.toNat_zero, Nat.zero_add] at this
    exact h.2 _ _ this
end
end Go.Sx
namespace Go.Sx
open Go.RowKit
def insG {α : Type} (l : List α) (i : Int) (x : α) : Option (List α) := if 0 ≤ i ∧ i ≤ l.length ∧ l.length < 100000 then some (l.take i.toNat ++ x :: l.drop i.toNat) else none
theorem insG_some {α : Type} {l l' : List α} {i : Int} {x : α} (h : insG l i x = some l') : (0 ≤ i ∧ i ≤ l.length ∧ l.length < 100000) ∧ l.take i.toNat ++ x :: l.drop i.toNat = l' := by
  unfold insG at h; split at h
  · simp at h; exact ⟨by assumption, h⟩
  · cases h
def insS (k : Nat) (hh : Nat → Hs) (h : Hs) : Nat → Hs := fun i => if i < k then hh i else if i = k then h else hh (i - 1)
theorem insAt_encL {α : Type} (t : Ty α) (l : List α) (hh : Nat → Hs) (y : α) (hy : Hs) (k : Nat) (hk : k ≤ l.length) : insAt (encL t l hh) (k * t.sz) (t.enc y hy) = encL t (l.take k ++ y :: l.drop k) (insS k hh hy) := by
  have h1 : encL t l hh = encL t (l.take k) hh ++ encL t (l.drop k) (fun i => hh (k + i)) := by
    conv => lhs; rw [← List.take_append_drop k l]
    rw [encL_append]
    have : (l.take k).length = k := by simp; omega
    rw [this]
  have hlen : (encL t (l.take k) hh).length = k * t.sz := by rw [encL_len]; simp; rw [Nat.min_eq_left hk]
  unfold insAt
  rw [h1, List.take_left' hlen, List.drop_left' hlen, encL_append]
  have hl : (l.take k).length = k := by simp; omega
  rw [hl, encL_congr t (l.take k) (insS k hh hy) hh (fun i hi => by unfold insS; rw [if_pos (by omega)])]
  rw [List.append_assoc]
  congr 1
  show _ = t.enc y (insS k hh hy (k + 0)) ++ encL t (l.drop k) (fun i => insS k hh hy (k + (i + 1)))
  have e1 : insS k hh hy (k + 0) = hy := by unfold insS; rw [if_neg (by omega), if_pos (by omega)]
  rw [e1, encL_congr t (l.drop k) (fun i => insS k hh hy (k + (i + 1))) (fun i => hh (k + i)) (fun i _ => by unfold insS; rw [if_neg (by omega), if_neg (by omega)]; congr 1)]
theorem rdS.ins {α : Type} {t : Ty α} {w : World} {l : List α} {hh : Nat → Hs} {y : α} {hy : Hs} {k : Nat} (h : rdS t w l hh) (hr : t.rd w y hy) (hk : k ≤ l.length) : rdS t w (l.take k ++ y :: l.drop k) (insS k hh hy) := fun i x hx => by
  have hl : (l.take k).length = k := by simp; omega
  unfold insS
  rw [List.getElem?_append, hl] at hx
  split at hx
  · rename_i hlt
    rw [if_pos hlt]
    rw [List.getElem?_take, if_pos hlt] at hx
    exact h i x hx
  · rename_i hge
    rw [if_neg hge]
    cases hj : i - k with
    | zero => rw [hj] at hx; simp at hx; subst hx; rw [if_pos (by omega)]; exact hr
    | succ j =>
      rw [hj] at hx
      simp only [List.getElem?_cons_succ, List.getElem?_drop] at hx
      rw [if_neg (by omega)]
      have : i - 1 = k + j := by omega
      rw [this]; exact h _ x hx
section
variable {P : Program} {n : Nat} {fr : Fr} {m : Mem} {Φ : World → Prop} {d : Option Tmp} {ty : TypeId} {pos : String} {af : Array Edge} {gd : Option (Nat × Bool)} {α : Type}
theorem EV.insQ {f xs ts e gx} {t : Ty α} {l l' : List α} {q : Hd} {y : α} {hy : Hs} {ix : Int} (i j : Nat) (hc : ∀ args w, (callFunc f args).run P w = .ok (.enter f args) w)
    (hv : evs fr xs = some [.slice q.a l.length q.cap, .int .i64 ix, .slice (some ⟨gx, 0, none⟩) 1 1]) (hm : m[i]? = some (rowE t e l q)) (hmx : m[j]? = some (.blk gx (t.enc y hy))) (hij : i ≠ j) (hg : insG l ix y = some l')
    (hI : ∀ (k : Nat) (w : World), k ≤ l.length → l.length < 100000 → MemOk [rowE t e l q, .blk gx (t.enc y hy)] w → Calls P f (List.toArray [.slice q.a l.length q.cap, .int .i64 k, .slice (some ⟨gx, 0, none⟩) 1 1]) w fun e' w' => ∃ v' n' xs', e' = .returned v' ∧ (n' = l.length + 1 ∧ xs' = insAt (encL t l q.sub) (k * t.sz) (t.enc y hy) ∧ RowV v' n') ∧ w'.ownsRow 0 e t.sz v' n' xs' ∧ (∀ g, v'.ownBlock = some g → (Value.slice q.a l.length q.cap).ownBlock = some g ∨ w.heap.size ≤ g) ∧ Ext (fun g => (Value.slice q.a l.length q.cap).ownBlock = some g) w w') :
    EV P n fr m Φ ⟨d, .call ⟨.value (.func f), xs.toArray, ts⟩, ty, pos, af, gd⟩ (fun v' m' Φ' => ∃ a cap, v' = .slice a l'.length cap ∧ m' = m.set i (rowE t e l' (.mk a cap (insS ix.toNat q.sub hy))) ∧ Φ' = Φ) := fun a w next Q hf hmo hs hk => by
  obtain ⟨⟨h1, h2, h3⟩, rfl⟩ := insG_some hg
  have hix : ix = (ix.toNat : Int) := by omega
  have hkl : ix.toNat ≤ l.length := by omega
  have hv' : evs fr xs = some [.slice q.a l.length q.cap, .int .i64 (ix.toNat : Int), .slice (some ⟨gx, 0, none⟩) 1 1] := by rw [← hix]; exact hv
  refine EV.call (K := _) hc hv' (CallK.row (B := .blk gx (t.enc y hy)) i j hm hmx hij (fun w1 h => hI ix.toNat w1 hkl h3 h)) a w next Q hf hmo hs ?_
  rintro v' m' Φ' w' ⟨n', xs', ⟨rfl, rfl, hV⟩, rfl, rfl⟩ hm' hs'
  rcases hV with ⟨_, h0⟩ | ⟨g, cap, rfl⟩
  · simp at h0
  · have hlen : (l.take ix.toNat ++ y :: l.drop ix.toNat).length = l.length + 1 := by simp; omega
    refine hk _ _ _ w' ⟨some ⟨g, 0, none⟩, cap, by rw [hlen], ?_, rfl⟩ hm' hs'
    show _ = m.set i (Ent.row e t.sz (.slice (some ⟨g, 0, none⟩) (l.take ix.toNat ++ y :: l.drop ix.toNat).length cap) (l.take ix.toNat ++ y :: l.drop ix.toNat).length (encL t _ (insS ix.toNat q.sub hy)))
    rw [hlen, insAt_encL t l q.sub y hy _ hkl]
end
end Go.Sx
namespace Go.Sx
open Go.RowKit
section
variable {P : Program} {n : Nat} {fr : Fr} {m mS : Mem} {Φ ΦS : World → Prop} {ops : Array Oper} {C : Fr → Mem → (World → Prop) → Prop} {fuel : Nat} {listed : Array Bool} {k : Nat} {α : Type}
theorem Up.row (e size : Nat) (h : Up P ops n mS ΦS C fuel listed fr (m ++ [.row e size (.slice none 0 0) 0 []]) Φ k) : Up P ops n mS ΦS C fuel listed fr m Φ k := fun Q h1 hq a w hs hS =>
  h Q h1 hq a w ⟨hs.fits, hs.mem.push (by intro en hen; simp at hen; subst hen; exact World.ownsRow_nil w 0 e size) (by simp [bsAll, Ent.bs, Value.ownBlock]) (by simp [bsAll, Ent.bs, Value.ownBlock]),
    hs.sup.less (fun k _ hk => by unfold gs at *; rw [bsAll, List.flatMap_append] at hk; simpa [Ent.bs, Value.ownBlock, bsAll] using hk)⟩ hS
theorem Up.freeze {t : Ty α} {e : TypeId} {l : List α} {q : Hd} (i : Nat) (hi : m[i]? = some (rowE t e l q)) (hsub : ∀ w, Φ w → rdS t w l q.sub)
    (h : Up P ops n mS ΦS C fuel listed fr (m.set i (.rows [])) (fun w => Φ w ∧ slR t w l q) k) : Up P ops n mS ΦS C fuel listed fr m Φ k := fun Q h1 hq a w hs hS => h Q h1 hq a w (freeze_sat i hi hsub hs) hS
end
end Go.Sx
namespace Go.Sx
section
variable {P : Program} {n : Nat} {Q : Exit → Act → World → Prop} {fr : Fr} {m : Mem} {Φ : World → Prop}
theorem CW.loopE {c : Code} {X : Type} (F : X → Fr) (M : X → Mem) (Ψ : X → World → Prop) (I : X → Prop) (μ : X → Nat) (x0 : X) (hI : I x0)
    (hf : Subs fr (F x0)) (hm : m = M x0) (hΨ : ∀ w, Φ w → Ψ x0 w)
    (step : ∀ x, I x → CW P n c (Exit.then (Round n F M Ψ I μ x) Q) (F x) (M x) (Ψ x)) : CW P n (.loop c) Q fr m Φ :=
  CW.loop F M Ψ I μ x0 hI (e := []) hf (by simpa using hm) hΨ step
end
end Go.Sx
namespace Go.Sx
section
variable {P : Program} {fr : Fr} {m : Mem} {Φ : World → Prop} {d : Option Tmp} {ty : TypeId} {pos : String} {af : Array Edge} {gd : Option (Nat × Bool)}
theorem PV.fieldV {x s f k ft bb off} {fs : Array Field} {A l : List Value} (hu : P.underlying s = some (.struct fs)) (hf : (fs[f]?).map (fun x => (x.offset, x.type)) = some (off, ft)) (hT : TF P ft bb k) (hx : ev fr x = some (.agg A.toArray)) (hl : cut A off k = l) (hlen : l.length = k) (hb : bb = false → k = 1) :
    PV P fr m Φ ⟨d, .field s x f, ty, pos, af, gd⟩ (valAt bb l) := fun a n w hfit _ _ => by
  have hu' : ∀ w, (underlying s).run P w = .ok (.struct fs) w := fun w => by simp [underlying, hu]
  cases hfd : fs[f]? with
  | none => simp [hfd] at hf
  | some fd =>
    simp [hfd] at hf
    obtain ⟨rfl, rfl⟩ := hf
    simp [execOp, hfit.ev hx, Instr.field, hu', hfd, asAgg, run_part hT hl hlen hb]
end
end Go.Sx
namespace Go.Sx
theorem rdS.snocG {α : Type} {t : Ty α} {w : World} {b : Nat} {l l' : List α} {hh : Nat → Hs} {x : α} (h : Hs) (hg : appG b l x = some l') (hl : rdS t w l hh) (hx : t.rd w x h) : rdS t w l' (snocS l.length hh h) := by
  obtain ⟨_, rfl⟩ := appG_some hg; exact rdS.snoc hl hx
theorem rdS.appG {α : Type} {t : Ty α} {w : World} {b : Nat} {l l2 l' : List α} {hh : Nat → Hs} {q2 : Hd} (hg : appsG b l l2 = some l') (h : rdS t w l hh) (h' : slR t w l2 q2) : rdS t w l' (appS l.length hh q2.sub) := by
  obtain ⟨_, rfl⟩ := appsG_some hg; exact rdS.app h h'.rdS
theorem rdS.insG {α : Type} {t : Ty α} {w : World} {l l' : List α} {hh : Nat → Hs} {y : α} {ix : Int} (hy : Hs) (hg : insG l ix y = some l') (h : rdS t w l hh) (hr : t.rd w y hy) : rdS t w l' (insS ix.toNat hh hy) := by
  obtain ⟨⟨h1, h2, h3⟩, rfl⟩ := insG_some hg; exact rdS.ins h hr (by omega)
end Go.Sx
