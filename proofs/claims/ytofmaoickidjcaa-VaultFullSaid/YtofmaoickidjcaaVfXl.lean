/- A small program logic over the model: rules for the operations of a walk, with memory that is known whole (for the law Vf). -/
import Derived.WalkKit
import Derived.OrdersHeld
import Derived.Deep.RegionHeld3
import Derived.Deep.AppendLies
import Derived.Lib.AppendZerosOnto
import Derived.Lib.Overlaps
import Derived.Maps.RangeRun
set_option linter.all false
namespace Go.Sx
open Go.RowKit

/-! ## Frames -/
abbrev Fr := List (Nat × Value)
def look : Fr → Nat → Option Value
  | [], _ => none
  | (k, v) :: r, t => match Nat.beq k t with | true => some v | false => look r t

def ev (fr : Fr) : Operand → Option Value
  | .tmp t => look fr t
  | .const v => some v
  | .global g => some (.pointer (some ⟨g, 0, none⟩))
  | .func f => some (.func (.func f) #[] #[])

def evs (fr : Fr) : List Operand → Option (List Value)
  | [] => some []
  | x :: r => match ev fr x with
    | some v => match evs fr r with
      | some vs => some (v :: vs)
      | none => none
    | none => none

structure Fits (n : Nat) (fr : Fr) (a : Act) : Prop where
  size : a.tmps.size = n
  defers : a.defers = []
  get : ∀ t v, look fr t = some v → a.tmps[t]? = some v

theorem Fits.ev {n fr a x v} (h : Fits n fr a) (hx : ev fr x = some v) : a.eval x = v := by
  cases x with
  | tmp t => simp only [Sx.ev] at hx; simp [Act.eval, h.get t v hx]
  | const c => simpa [Sx.ev, Act.eval] using hx
  | global g => simpa [Sx.ev, Act.eval] using hx
  | func f => simpa [Sx.ev, Act.eval] using hx

theorem Fits.evs {n fr a} (h : Fits n fr a) : ∀ {xs vs}, evs fr xs = some vs → xs.map a.eval = vs := by
  intro xs
  induction xs with
  | nil => intro vs hx; simp [Sx.evs] at hx; simp [hx]
  | cons x r ih =>
    intro vs hx
    simp only [Sx.evs] at hx
    split at hx
    · rename_i v hv
      split at hx
      · rename_i vs' hvs
        simp only [Option.some.injEq] at hx
        subst hx
        simp [h.ev hv, ih hvs]
      · simp at hx
    · simp at hx

theorem look_cons {fr : Fr} {d t : Nat} {v : Value} : look ((d, v) :: fr) t = if d = t then some v else look fr t := by
  simp only [look]
  by_cases h : d = t
  · subst h; simp [Nat.beq_refl]
  · have : Nat.beq d t = false := by
      cases hb : Nat.beq d t
      · rfl
      · exact absurd (Nat.eq_of_beq_eq_true hb) h
    simp [this, h]

theorem Fits.put {n fr a d v} (h : Fits n fr a) (hd : d < n) : Fits n ((d, v) :: fr) (a.put (some d) v) := by
  refine ⟨by simp [Act.put, h.size], by simp [Act.put, h.defers], ?_⟩
  intro t u ht
  rw [look_cons] at ht
  simp only [Act.put]
  by_cases e : d = t
  · subst e
    simp at ht
    subst ht
    simp [h.size, hd]
  · simp [e] at ht
    rw [Array.getElem?_setIfInBounds_ne e]
    exact h.get t u ht

theorem Fits.putNone {n fr a v} (h : Fits n fr a) : Fits n fr (a.put none v) := h

def Subs (fr : Fr) : Fr → Prop
  | [] => True
  | (k, v) :: r => look fr k = some v ∧ Subs fr r

theorem Subs.get {fr : Fr} : ∀ {fr'}, Subs fr fr' → ∀ t v, look fr' t = some v → look fr t = some v := by
  intro fr'
  induction fr' with
  | nil => intro _ t v h; simp [look] at h
  | cons p r ih =>
    obtain ⟨k, u⟩ := p
    intro hs t v h
    rw [look_cons] at h
    by_cases e : k = t
    · subst e; simp at h; subst h; exact hs.1
    · simp [e] at h; exact ih hs.2 t v h

theorem Fits.sub {n fr fr' a} (h : Fits n fr a) (hs : Subs fr fr') : Fits n fr' a :=
  ⟨h.size, h.defers, fun t v ht => h.get t v (hs.get t v ht)⟩

/-! ## Worlds -/
structure Ext (X : Nat → Prop) (w w' : World) : Prop where
  os : w'.os = w.os
  tape : w'.tape = w.tape
  output : w'.output = w.output
  size : w.heap.size ≤ w'.heap.size
  block : ∀ k, k < w.heap.size → ¬ X k → w'.heap[k]? = w.heap[k]?

abbrev No : Nat → Prop := fun _ => False

theorem Ext.refl (X) (w) : Ext X w w := ⟨rfl, rfl, rfl, Nat.le_refl _, fun _ _ _ => rfl⟩
theorem Ext.trans {X Y Z : Nat → Prop} {w w1 w2} (h : Ext X w w1) (h' : Ext Y w1 w2) (hX : ∀ k, k < w.heap.size → X k → Z k) (hY : ∀ k, k < w.heap.size → Y k → Z k) : Ext Z w w2 :=
  ⟨h'.os.trans h.os, h'.tape.trans h.tape, h'.output.trans h.output, Nat.le_trans h.size h'.size,
   fun k hk hz => (h'.block k (Nat.lt_of_lt_of_le hk h.size) (fun y => hz (hY k hk y))).trans (h.block k hk (fun x => hz (hX k hk x)))⟩
theorem Ext.tr {X : Nat → Prop} {w w1 w2} (h : Ext X w w1) (h' : Ext X w1 w2) : Ext X w w2 := h.trans h' (fun _ _ x => x) (fun _ _ x => x)
theorem Ext.mono {X Y : Nat → Prop} {w w'} (h : Ext X w w') (hX : ∀ k, k < w.heap.size → X k → Y k) : Ext Y w w' :=
  ⟨h.os, h.tape, h.output, h.size, fun k hk hy => h.block k hk (fun x => hy (hX k hk x))⟩
theorem Ext.below {w w'} (h : Ext No w w') : Below w.heap.size w w' := ⟨h.os, h.tape, h.output, h.size, fun k hk => h.block k hk (fun x => x)⟩
theorem Ext.drew (X) (w : World) : Ext X w w.drew := ⟨rfl, rfl, rfl, Nat.le_refl _, fun _ _ _ => rfl⟩
theorem Ext.alloc (X) (w : World) (o : Obj) : Ext X w (w.alloc o) :=
  ⟨rfl, rfl, rfl, by simp, fun k hk _ => by show (w.heap.push o)[k]? = _; rw [Array.getElem?_push]; simp [Nat.ne_of_lt hk]⟩

def Sup (Φ : World → Prop) (X : Nat → Prop) (w : World) : Prop := ∀ w', Ext X w w' → Φ w'
theorem Sup.out {Φ X w} (h : Sup Φ X w) : Φ w := h w (Ext.refl _ _)
theorem Sup.imp {Φ Ψ : World → Prop} {X w} (h : Sup Φ X w) (hi : ∀ w, Φ w → Ψ w) : Sup Ψ X w := fun w' e => hi _ (h w' e)
theorem Sup.and {Φ Ψ : World → Prop} {X w} (h : Sup Φ X w) (h' : Sup Ψ X w) : Sup (fun w => Φ w ∧ Ψ w) X w := fun w' e => ⟨h w' e, h' w' e⟩
theorem Sup.step {Φ : World → Prop} {X Y Z : Nat → Prop} {w w1} (h : Sup Φ X w) (e : Ext Y w w1) (hY : ∀ k, k < w.heap.size → Y k → X k) (hZ : ∀ k, k < w.heap.size → Z k → X k) : Sup Φ Z w1 :=
  fun w2 e2 => h w2 (e.trans e2 hY hZ)
theorem Sup.less {Φ : World → Prop} {X Y : Nat → Prop} {w} (h : Sup Φ X w) (hY : ∀ k, k < w.heap.size → Y k → X k) : Sup Φ Y w := fun w' e => h w' (e.mono hY)

/-! ## What is known whole: blocks, and rows of one's own -/
structure ORow where
  e : Nat
  size : Nat
  v : Value
  n : Nat
  xs : List Value
/-- a map's block -/
def MapAt (w : World) (g : Nat) (l : List (Value × Value)) (es : Array MapEntry) (clock : Nat) : Prop :=
  w.heap[g]? = some (.map es clock) ∧ es.toList.map (fun e => (e.key, e.val)) = l ∧ (l.map (·.1)).Nodup ∧ (es.toList.map (·.born)).Nodup ∧ ∀ e ∈ es.toList, e.born < clock
inductive Ent where
  /-- a block, and its cells -/
  | blk (g : Nat) (A : List Value)
  /-- a slice that nobody else has: its element's type and size, its value, its length, its cells -/
  | row (e size : Nat) (v : Value) (n : Nat) (xs : List Value)
  /-- a block of elements of a type, and its cells -/
  | opn (e g : Nat) (A : List Value)
  /-- many rows -/
  | rows (rs : List ORow)
  /-- a map: keys and values, in whatever order -/
  | mp (g : Nat) (l : List (Value × Value))
  /-- a map that is ranged over: its block, the iterator's, its entries, the keys that are left, the last one -/
  | rng (g r : Nat) (l : List (Value × Value)) (left : List Value) (cur : Option Value)
  /-- something else that hangs on these blocks alone -/
  | frm (bs : List Nat) (p : World → Prop)
def ORow.bs (r : ORow) : List Nat := match r.v.ownBlock with
    | some g => [g]
    | none => []
def Ent.bs : Ent → List Nat
  | .blk g _ => [g]
  | .row _ _ v _ _ => match v.ownBlock with
    | some g => [g]
    | none => []
  | .opn _ g _ => [g]
  | .rows rs => rs.flatMap ORow.bs
  | .mp g _ => [g]
  | .rng g r _ _ _ => [g, r]
  | .frm bs _ => bs
def Ent.ok (w : World) : Ent → Prop
  | .blk g A => ∃ T, w.heap[g]? = some (Obj.cells A.toArray T (0, 0))
  | .row e size v n xs => w.ownsRow 0 e size v n xs
  | .opn e g A => w.heap[g]? = some (Obj.cells A.toArray e (0, 0))
  | .rows rs => ∀ r ∈ rs, w.ownsRow 0 r.e r.size r.v r.n r.xs
  | .mp g l => ∃ es clock, MapAt w g l es clock
  | .rng g r l left cur => ∃ es clock seen, MapAt w g l es clock ∧ w.heap[r]? = some (.mapIter (some g) clock seen clock) ∧ left = (es.toList.filter (fun e => !seen.contains e.born)).map (·.key) ∧
      match cur with
      | none => True
      | some k => ∃ e ∈ es.toList, e.key = k ∧ seen.back? = some e.born
  | .frm bs p => (∀ g, g ∈ bs → g < w.heap.size) ∧ Sup p (fun g => g ∉ bs) w
abbrev Mem := List Ent
def bsAll (m : Mem) : List Nat := m.flatMap Ent.bs
def gs (m : Mem) : Nat → Prop := fun b => b ∈ bsAll m
structure MemOk (m : Mem) (w : World) : Prop where
  nodup : (bsAll m).Nodup
  ok : ∀ e, e ∈ m → e.ok w

theorem Ent.ok.lt {w : World} {e : Ent} (h : e.ok w) {g : Nat} (hg : g ∈ e.bs) : g < w.heap.size := by
  cases e with
  | blk g' A =>
    obtain ⟨T, hT⟩ := h
    simp [Ent.bs] at hg
    subst hg
    exact (Array.getElem?_eq_some_iff.1 hT).1
  | row e size v n xs =>
    simp only [Ent.bs] at hg
    split at hg
    · rename_i g' hg'
      simp at hg
      subst hg
      exact (World.ownsRow.lt h g hg').2
    · simp at hg
  | opn e g' A =>
    simp [Ent.bs] at hg
    subst hg
    exact (Array.getElem?_eq_some_iff.1 (show w.heap[g]? = some (Obj.cells A.toArray e (0, 0)) from h)).1
  | rows rs =>
    simp only [Ent.bs, List.mem_flatMap] at hg
    obtain ⟨r, hr, hg⟩ := hg
    unfold ORow.bs at hg
    split at hg
    · rename_i g' hg'
      simp at hg
      subst hg
      exact (World.ownsRow.lt (h r hr) g hg').2
    · simp at hg
  | mp g' l =>
    obtain ⟨es, clock, hm⟩ := h
    simp [Ent.bs] at hg
    subst hg
    exact (Array.getElem?_eq_some_iff.1 hm.1).1
  | rng g' r l left cur =>
    obtain ⟨es, clock, seen, hm, hr, _⟩ := h
    simp [Ent.bs] at hg
    rcases hg with rfl | rfl
    · exact (Array.getElem?_eq_some_iff.1 hm.1).1
    · exact (Array.getElem?_eq_some_iff.1 hr).1
  | frm bs p => exact h.1 g hg

theorem ownsRow_ext {w w' : World} {X : Nat → Prop} {e size n : Nat} {v : Value} {xs : List Value} (h : w.ownsRow 0 e size v n xs) (hx : Ext X w w') (hX : ∀ g, v.ownBlock = some g → ¬ X g) : w'.ownsRow 0 e size v n xs := by
  refine ⟨h.1, ?_⟩
  rcases h.2 with hn | ⟨g, cap, cur, rfl, hb, hgg, rest⟩
  · exact .inl hn
  · refine .inr ⟨g, cap, cur, rfl, hb, ?_, rest⟩
    rw [hx.block g (Array.getElem?_eq_some_iff.1 hgg).1 (hX g (by simp [Value.ownBlock])), hgg]
theorem MapAt.ext {w w' : World} {X : Nat → Prop} {g l es clock} (h : MapAt w g l es clock) (hx : Ext X w w') (hX : ¬ X g) : MapAt w' g l es clock :=
  ⟨by rw [hx.block g (Array.getElem?_eq_some_iff.1 h.1).1 hX, h.1], h.2⟩
theorem Ent.ok.ext {w w' : World} {X : Nat → Prop} {e : Ent} (h : e.ok w) (hx : Ext X w w') (hX : ∀ g, g ∈ e.bs → ¬ X g) : e.ok w' := by
  cases e with
  | blk g A =>
    obtain ⟨T, hT⟩ := h
    exact ⟨T, by rw [hx.block g (Ent.ok.lt (e := .blk g A) ⟨T, hT⟩ (by simp [Ent.bs])) (hX g (by simp [Ent.bs])), hT]⟩
  | row e size v n xs =>
    refine ⟨h.1, ?_⟩
    rcases h.2 with hn | ⟨g, cap, cur, rfl, hb, hgg, rest⟩
    · exact .inl hn
    · refine .inr ⟨g, cap, cur, rfl, hb, ?_, rest⟩
      rw [hx.block g (Array.getElem?_eq_some_iff.1 hgg).1 (hX g (by simp [Ent.bs, Value.ownBlock])), hgg]
  | opn e g A =>
    show w'.heap[g]? = _
    rw [hx.block g (Ent.ok.lt (e := .opn e g A) h (by simp [Ent.bs])) (hX g (by simp [Ent.bs]))]
    exact h
  | rows rs =>
    intro r hr
    exact ownsRow_ext (h r hr) hx (fun g hg => hX g (by simp only [Ent.bs, List.mem_flatMap]; exact ⟨r, hr, by simp [ORow.bs, hg]⟩))
  | mp g l =>
    obtain ⟨es, clock, hm⟩ := h
    exact ⟨es, clock, hm.ext hx (hX g (by simp [Ent.bs]))⟩
  | rng g r l left cur =>
    obtain ⟨es, clock, seen, hm, hr, rest⟩ := h
    exact ⟨es, clock, seen, hm.ext hx (hX g (by simp [Ent.bs])), by rw [hx.block r (Array.getElem?_eq_some_iff.1 hr).1 (hX r (by simp [Ent.bs])), hr], rest⟩
  | frm bs p => exact ⟨fun g hg => Nat.lt_of_lt_of_le (h.1 g hg) hx.size, h.2.step hx (fun g _ hg hb => hX g hb hg) (fun _ _ x => x)⟩

theorem mem_bsAll {m : Mem} {g : Nat} : g ∈ bsAll m ↔ ∃ e ∈ m, g ∈ e.bs := by simp [bsAll, List.mem_flatMap]

theorem MemOk.lt {m w g} (h : MemOk m w) (hg : gs m g) : g < w.heap.size := by
  obtain ⟨e, he, hg⟩ := mem_bsAll.1 hg
  exact (h.ok e he).lt hg

theorem MemOk.ext {m w w' X} (h : MemOk m w) (e : Ext X w w') (hX : ∀ g, gs m g → ¬ X g) : MemOk m w' :=
  ⟨h.nodup, fun en hen => (h.ok en hen).ext e (fun g hg => hX g (mem_bsAll.2 ⟨en, hen, hg⟩))⟩

theorem MemOk.at {m : Mem} {w : World} {i g : Nat} {A : List Value} (h : MemOk m w) (hi : m[i]? = some (.blk g A)) : ∃ T, w.heap[g]? = some (Obj.cells A.toArray T (0, 0)) :=
  h.ok (.blk g A) (List.mem_of_getElem? hi)
theorem MemOk.rowAt {m : Mem} {w : World} {i e size n : Nat} {v : Value} {xs : List Value} (h : MemOk m w) (hi : m[i]? = some (.row e size v n xs)) : w.ownsRow 0 e size v n xs :=
  h.ok (.row e size v n xs) (List.mem_of_getElem? hi)

theorem MemOk.push {m w} {es : Mem} (h : MemOk m w) (hes : ∀ e, e ∈ es → e.ok w) (hn : (bsAll es).Nodup) (hd : ∀ g, g ∈ bsAll es → ¬ gs m g) : MemOk (m ++ es) w := by
  refine ⟨?_, ?_⟩
  · rw [bsAll, List.flatMap_append]
    rw [List.nodup_append]
    refine ⟨h.nodup, hn, ?_⟩
    intro a ha b hb e
    subst e
    exact hd a hb ha
  · intro e he
    rcases List.mem_append.1 he with he | he
    · exact h.ok e he
    · exact hes e he

theorem MemOk.pre {m m' w} (h : MemOk (m ++ m') w) : MemOk m w := by
  refine ⟨?_, fun e he => h.ok e (List.mem_append.2 (.inl he))⟩
  have := h.nodup
  rw [bsAll, List.flatMap_append, List.nodup_append] at this
  exact this.1
theorem gs_pre {m m' : Mem} {k : Nat} (h : gs m k) : gs (m ++ m') k := by
  unfold gs at *; rw [bsAll, List.flatMap_append]; exact List.mem_append.2 (.inl h)

structure Sat (n : Nat) (fr : Fr) (m : Mem) (Φ : World → Prop) (a : Act) (w : World) : Prop where
  fits : Fits n fr a
  mem : MemOk m w
  sup : Sup Φ (gs m) w

theorem Sat.phi {n fr m Φ a w} (h : Sat n fr m Φ a w) : Φ w := h.sup.out

theorem Sat.drew {n fr m Φ a w} (h : Sat n fr m Φ a w) : Sat n fr m Φ a w.drew :=
  ⟨h.fits, h.mem.ext (Ext.drew No w) (fun _ _ x => x), h.sup.step (Ext.drew No w) (fun _ _ x => x.elim) (fun _ _ x => x)⟩

/-- weakening -/
theorem Sat.weak {n fr m Φ a w fr' m' e} {Ψ : World → Prop} (h : Sat n fr m Φ a w) (hf : Subs fr fr') (hm : m = m' ++ e) (hΨ : ∀ w, Φ w → Ψ w) : Sat n fr' m' Ψ a w := by
  subst hm
  exact ⟨h.fits.sub hf, h.mem.pre, (h.sup.less (fun k _ hA => gs_pre hA)).imp hΨ⟩


/-! ## Code -/
section
variable {P : Program} {n : Nat} {Q : Exit → Act → World → Prop} {fr : Fr} {m : Mem} {Φ : World → Prop}

def CW (P : Program) (n : Nat) (c : Code) (Q : Exit → Act → World → Prop) (fr : Fr) (m : Mem) (Φ : World → Prop) : Prop :=
  ∀ a w, Sat n fr m Φ a w → c.wp P Q a w
def QC (n : Nat) (Q : Exit → Act → World → Prop) (e : Exit) (fr : Fr) (m : Mem) (Φ : World → Prop) : Prop :=
  ∀ a w, Sat n fr m Φ a w → Q e a w

theorem CW.weak {c : Code} {fr' m' e} {Ψ : World → Prop} (hf : Subs fr fr') (hm : m = m' ++ e) (hΨ : ∀ w, Φ w → Ψ w) (h : CW P n c Q fr' m' Ψ) : CW P n c Q fr m Φ :=
  fun a w hs => h a w (hs.weak hf hm hΨ)

/-- what is known of a state is used: pure facts that follow from it -/
theorem CW.know {c : Code} {p : Prop} (hp : ∀ w, MemOk m w → Φ w → p) (h : p → CW P n c Q fr m Φ) : CW P n c Q fr m Φ :=
  fun a w hs => h (hp w hs.mem hs.phi) a w hs

theorem CW.skip (h : QC n Q .normal fr m Φ) : CW P n .skip Q fr m Φ := fun a w hs => wp_skip (h a w hs)
theorem CW.exit {id} (h : QC n Q (.exit id) fr m Φ) : CW P n (.exit id) Q fr m Φ := fun a w hs => wp_exit (h a w hs)
theorem CW.ret (h : QC n Q .ret fr m Φ) : CW P n .ret Q fr m Φ := fun a w hs => wp_ret (h a w hs)
theorem CW.block {id c} (h : CW P n c (Exit.inBlock id Q) fr m Φ) : CW P n (.block id c) Q fr m Φ := fun a w hs => wp_block (h a w hs)
theorem CW.seq {x y} (h : CW P n x (Exit.then (y.wp P Q) Q) fr m Φ) : CW P n (.seq x y) Q fr m Φ := fun a w hs => wp_seq (h a w hs)
theorem CW.cond {c x y} {b : Bool} (hc : ev fr c = some (.bool b)) (ht : b = true → CW P n x Q fr m Φ) (hf : b = false → CW P n y Q fr m Φ) : CW P n (.cond c x y) Q fr m Φ :=
  fun a w hs => wp_cond_split (hs.fits.ev hc) (fun h => ht h a w hs) (fun h => hf h a w hs)
theorem CW.condT {c x y} (hc : ev fr c = some (.bool true)) (ht : CW P n x Q fr m Φ) : CW P n (.cond c x y) Q fr m Φ :=
  fun a w hs => wp_cond_true (hs.fits.ev hc) (ht a w hs)
theorem CW.condF {c x y} (hc : ev fr c = some (.bool false)) (hf : CW P n y Q fr m Φ) : CW P n (.cond c x y) Q fr m Φ :=
  fun a w hs => wp_cond_false (hs.fits.ev hc) (hf a w hs)

theorem QC.then_n {y : Code} (h : CW P n y Q fr m Φ) : QC n (Exit.then (y.wp P Q) Q) .normal fr m Φ := h
theorem QC.then_x {K} {id} (h : QC n Q (.exit id) fr m Φ) : QC n (Exit.then K Q) (.exit id) fr m Φ := h
theorem QC.then_r {K} (h : QC n Q .ret fr m Φ) : QC n (Exit.then K Q) .ret fr m Φ := h
theorem QC.blk_n {id} (h : QC n Q .normal fr m Φ) : QC n (Exit.inBlock id Q) .normal fr m Φ := h
theorem QC.blk_r {id} (h : QC n Q .ret fr m Φ) : QC n (Exit.inBlock id Q) .ret fr m Φ := h
theorem QC.blk_x {id} (h : QC n Q .normal fr m Φ) : QC n (Exit.inBlock id Q) (.exit id) fr m Φ := fun a w hs => by
  simp only [Exit.inBlock, if_true]; exact h a w hs
theorem QC.blk_y {id id'} (hne : id' ≠ id) (h : QC n Q (.exit id') fr m Φ) : QC n (Exit.inBlock id Q) (.exit id') fr m Φ := fun a w hs => by
  simp only [Exit.inBlock, if_neg hne]; exact h a w hs

/-- a loop: what holds at each round's head -/
def Head {X : Type} (n : Nat) (F : X → Fr) (M : X → Mem) (Ψ : X → World → Prop) (I : X → Prop) (a : Act) (w : World) : Prop :=
  ∃ y, I y ∧ Sat n (F y) (M y) (Ψ y) a w
def Round {X : Type} (n : Nat) (F : X → Fr) (M : X → Mem) (Ψ : X → World → Prop) (I : X → Prop) (μ : X → Nat) (x : X) (a : Act) (w : World) : Prop :=
  ∃ y, I y ∧ μ y < μ x ∧ Sat n (F y) (M y) (Ψ y) a w

theorem CW.loop {c : Code} {X : Type} (F : X → Fr) (M : X → Mem) (Ψ : X → World → Prop) (I : X → Prop) (μ : X → Nat) (x0 : X) (hI : I x0) {e : Mem}
    (hf : Subs fr (F x0)) (hm : m = M x0 ++ e) (hΨ : ∀ w, Φ w → Ψ x0 w)
    (step : ∀ x, I x → CW P n c (Exit.then (Round n F M Ψ I μ x) Q) (F x) (M x) (Ψ x)) : CW P n (.loop c) Q fr m Φ := by
  intro a0 w0 hs0 b kk cs
  have key : ∀ k x a w, μ x = k → I x → Sat n (F x) (M x) (Ψ x) a w →
      ∃ e a' w', Q e a' w' ∧ Arrives P (lone (b.at a (.code c :: .inLoop c :: kk)) cs w) b kk cs e a' w' := by
    intro k
    induction k using Nat.strongRecOn with
    | _ k ih =>
      intro x a w hk hIx hs
      obtain ⟨e₁, a₁, w₁, hq, harr⟩ := step x hIx a w hs b (.inLoop c :: kk) cs
      cases e₁ with
      | normal =>
        obtain ⟨y, hy, hlt, hs'⟩ := hq
        obtain ⟨e₂, a₂, w₂, hq₂, harr₂⟩ := ih (μ y) (hk ▸ hlt) y a₁ w₁ rfl hy hs'
        exact ⟨e₂, a₂, w₂, hq₂, .of_steps (Steps.trans harr (.one step_inLoop)) harr₂⟩
      | exit id => exact ⟨_, a₁, w₁, hq, .pass (x := .inLoop c) rfl (fun _ _ => .inl (by simp)) harr⟩
      | goto l => exact ⟨_, a₁, w₁, hq, .pass (x := .inLoop c) rfl (fun _ _ => .inl (by simp)) harr⟩
      | ret => exact ⟨_, a₁, w₁, hq, .pass (x := .inLoop c) rfl (fun _ _ => .inl (by simp)) harr⟩
      | panic ch => exact ⟨_, a₁, w₁, hq, .pass (x := .inLoop c) rfl (fun _ _ => .inl (by simp)) harr⟩
      | outgrown => exact ⟨_, a₁, w₁, hq, .pass (x := .inLoop c) rfl (fun _ _ => .inl (by simp)) harr⟩
  obtain ⟨e, a', w', hq, harr⟩ := key _ x0 a0 w0 rfl hI (hs0.weak hf hm hΨ)
  exact ⟨e, a', w', hq, .of_steps (.one step_loop) harr⟩

theorem QC.round {X : Type} {F : X → Fr} {M : X → Mem} {Ψ : X → World → Prop} {I : X → Prop} {μ : X → Nat} {x : X} (y : X) (hI : I y) (hμ : μ y < μ x) {e : Mem}
    (hf : Subs fr (F y)) (hm : m = M y ++ e) (hΨ : ∀ w, Φ w → Ψ y w) : QC n (Exit.then (Round n F M Ψ I μ x) Q) .normal fr m Φ :=
  fun _ _ hs => ⟨y, hI, hμ, hs.weak hf hm hΨ⟩

/-- two ways that meet again: what holds there -/
theorem CW.meet {x y : Code} {X : Type} (F : X → Fr) (M : X → Mem) (Ψ : X → World → Prop) (I : X → Prop)
    (h1 : CW P n x (Exit.then (Head n F M Ψ I) Q) fr m Φ) (h2 : ∀ z, I z → CW P n y Q (F z) (M z) (Ψ z)) : CW P n (.seq x y) Q fr m Φ := by
  refine CW.seq (fun a w hs => wp_mono (h1 a w hs) ?_)
  intro e a w hq
  cases e with
  | normal => obtain ⟨z, hz, hs⟩ := hq; exact h2 z hz a w hs
  | _ => exact hq
theorem QC.meet {X : Type} {F : X → Fr} {M : X → Mem} {Ψ : X → World → Prop} {I : X → Prop} (y : X) (hI : I y) {e : Mem}
    (hf : Subs fr (F y)) (hm : m = M y ++ e) (hΨ : ∀ w, Φ w → Ψ y w) : QC n (Exit.then (Head n F M Ψ I) Q) .normal fr m Φ :=
  fun _ _ hs => ⟨y, hI, hs.weak hf hm hΨ⟩


end

/-! ## Loads and stores in memory -/
structure TF (P : Program) (t : TypeId) (b : Bool) (k : Nat) : Prop where
  agg : ∀ w, (isAgg t).run P w = .ok b w
  size : ∀ w, (sizeOf t).run P w = .ok k w

/-- the value of a row of cells, read at a type -/
def valAt (b : Bool) (l : List Value) : Value := match b with
  | true => .agg l.toArray
  | false => match l with
    | v :: _ => v
    | [] => undef

/-- these cells stand there -/
def RowAt (w : World) (b o : Nat) (l : List Value) : Prop := ∀ i v, l[i]? = some v → w.cell? ⟨b, o + i, none⟩ = some v

theorem addr_add (b o i : Nat) : (⟨b, o, none⟩ : Addr).add i = ⟨b, o + i, none⟩ := by
  unfold Addr.add; split <;> simp_all

theorem run_loadCellsFrom {P : Program} {w : World} {b o : Nat} : ∀ (l : List Value) (i : Nat) (acc : Array Value), (∀ j v, l[j]? = some v → w.cell? ⟨b, o + (i + j), none⟩ = some v) →
    (loadCellsFrom ⟨b, o, none⟩ i l.length acc).run P w = .ok (acc ++ l.toArray) w := by
  intro l
  induction l with
  | nil => intro i acc _; simp [loadCellsFrom]
  | cons v r ih =>
    intro i acc h
    have h0 := h 0 v rfl
    simp only [Nat.add_zero] at h0
    simp only [List.length_cons, loadCellsFrom, Sem.run_bind, run_load, addr_add, h0, Result.andThen_ok]
    rw [ih (i + 1) (acc.push v) (fun j u hj => by have := h (j + 1) u (by simpa using hj); rw [show i + 1 + j = i + (j + 1) by omega]; exact this)]
    simp

theorem run_loadVar_row {P : Program} {w : World} {t : TypeId} {g k o : Nat} {b : Bool} {l : List Value} (ht : TF P t b k) (hl : l.length = k) (hb : b = false → k = 1) (h : RowAt w g o l) :
    (loadVar t ⟨g, o, none⟩).run P w = .ok (valAt b l) w := by
  cases b with
  | true =>
    have := run_loadCellsFrom (P := P) (w := w) (b := g) (o := o) l 0 #[] (fun j v hj => by simpa using h j v hj)
    simp only [loadVar, Sem.run_bind, ht.agg, ht.size, Result.andThen_ok, if_true, loadCells, ← hl, this]
    simp [valAt]
  | false =>
    have hk := hb rfl
    match l, hl with
    | [v], _ =>
      have h0 := h 0 v rfl
      simp only [Nat.add_zero] at h0
      simp only [loadVar, Sem.run_bind, ht.agg, Result.andThen_ok, Bool.false_eq_true, if_false, run_load, h0, valAt]
    | [], hl => simp at hl; omega
    | _ :: _ :: _, hl => simp at hl; omega

theorem RowAt.ext {w w' : World} {X : Nat → Prop} {b o : Nat} {l : List Value} (h : RowAt w b o l) (e : Ext X w w') (hX : l ≠ [] → ¬ X b) : RowAt w' b o l := by
  intro i v hv
  have hlt := World.block_lt_of_cell? w _ (h i v hv)
  have hne : l ≠ [] := by intro e; subst e; simp at hv
  have := h i v hv
  unfold World.cell? at *
  rw [e.block b hlt (hX hne)]
  exact this

/-- a piece of a known block -/
def cut (A : List Value) (o k : Nat) : List Value := (A.drop o).take k

theorem rowAt_local {w : World} {g : Nat} {A : List Value} {T : TypeId} {fz : Nat × Nat} (h : w.heap[g]? = some (Obj.cells A.toArray T fz)) (o k : Nat) : RowAt w g o (cut A o k) := by
  intro i v hv
  have : (cut A o k)[i]? = some v := hv
  simp only [cut, List.getElem?_take] at this
  split at this
  · simp only [List.getElem?_drop] at this
    simp [World.cell?, h, this]
  · simp at this

theorem MemOk.row {m : Mem} {w : World} {i g : Nat} {A : List Value} (h : MemOk m w) (hi : m[i]? = some (.blk g A)) (o k : Nat) : RowAt w g o (cut A o k) := by
  obtain ⟨T, hT⟩ := h.at hi
  exact rowAt_local hT o k

/-- a block written over, from o on -/
def wr (A : List Value) (o : Nat) : List Value → List Value
  | [] => A
  | v :: r => wr (A.set o v) (o + 1) r

theorem wr_length (l : List Value) : ∀ (A : List Value) (o : Nat), (wr A o l).length = A.length := by
  induction l with
  | nil => intros; rfl
  | cons v r ih => intro A o; simp [wr, ih]

def allOne (l : List Value) : Bool := l.all Value.oneCell'

theorem setCell_cells {w : World} {g o : Nat} {A : List Value} {T : TypeId} {fz : Nat × Nat} {v : Value} (h : w.heap[g]? = some (Obj.cells A.toArray T fz)) :
    (w.setCell ⟨g, o, none⟩ v).heap[g]? = some (Obj.cells (A.set o v).toArray T fz) := by
  simp [World.setCell, Array.getElem?_modify, h]

theorem Ext.setCell (w : World) (g o : Nat) (v : Value) : Ext (· = g) w (w.setCell ⟨g, o, none⟩ v) :=
  ⟨rfl, rfl, rfl, by simp, fun k _ hk => by simp only [World.setCell, Array.getElem?_modify]; rw [if_neg (fun e => hk e.symm)]⟩

theorem run_storeCells {P : Program} : ∀ (l : List Value) (w : World) (g o i : Nat) (A : List Value) (T : TypeId), w.heap[g]? = some (Obj.cells A.toArray T (0, 0)) → allOne l = true → o + i + l.length ≤ A.length →
    ∃ w', (storeCells ⟨g, o, none⟩ l i).run P w = .ok () w' ∧ w'.heap[g]? = some (Obj.cells (wr A (o + i) l).toArray T (0, 0)) ∧ Ext (· = g) w w' := by
  intro l
  induction l with
  | nil => intro w g o i A T h _ _; exact ⟨w, by simp [storeCells], h, Ext.refl _ _⟩
  | cons v r ih =>
    intro w g o i A T h hone hlen
    simp only [allOne, List.all_cons, Bool.and_eq_true] at hone
    simp only [List.length_cons] at hlen
    have hc : w.cell? ⟨g, o + i, none⟩ = some A[o + i] := by
      simp [World.cell?, h]
    have hf : w.frozen? ⟨g, o + i, none⟩ = false := by simp [World.frozen?, h]
    obtain ⟨w', hr, hb, he⟩ := ih (w.setCell ⟨g, o + i, none⟩ v) g o (i + 1) (A.set (o + i) v) T (setCell_cells h) (by simpa [allOne] using hone.2) (by simp; omega)
    refine ⟨w', ?_, ?_, (Ext.setCell w g (o + i) v).tr he⟩
    · simp only [storeCells, Sem.run_bind, addr_add, run_store P w _ v _ hone.1, hc, hf, Bool.false_eq_true, if_false, Result.andThen_ok]
      exact hr
    · simpa [wr, Nat.add_assoc] using hb

theorem run_storeVar {P : Program} {w : World} {t : TypeId} {b : Bool} {k g o : Nat} {A : List Value} {T : TypeId} {v : Value} (ht : TF P t b k) (h : w.heap[g]? = some (Obj.cells A.toArray T (0, 0)))
    (hk : v.cells.toList.length = k) (hone : allOne v.cells.toList = true) (hlen : o + k ≤ A.length) :
    ∃ w', (storeVar t ⟨g, o, none⟩ v).run P w = .ok () w' ∧ w'.heap[g]? = some (Obj.cells (wr A o v.cells.toList).toArray T (0, 0)) ∧ Ext (· = g) w w' := by
  obtain ⟨w', hr, hb, he⟩ := run_storeCells (P := P) v.cells.toList w g o 0 A T h hone (by omega)
  refine ⟨w', ?_, by simpa using hb, he⟩
  simp only [storeVar, Sem.run_bind, ht.size, Result.andThen_ok]
  rw [if_neg (by simp at hk; omega)]
  exact hr

/-! ## Operations that only yield a value -/
section
variable {P : Program} {fr : Fr} {m : Mem} {Φ : World → Prop}

def PV (P : Program) (fr : Fr) (m : Mem) (Φ : World → Prop) (o : Oper) (v : Value) : Prop :=
  ∀ (a : Act) (n : Nat) (w : World), Fits n fr a → MemOk m w → Φ w → (execOp a.eval o).run P w = .ok (.value v) w

variable {d : Option Tmp} {ty : TypeId} {pos : String} {af : Array Edge} {gd : Option (Nat × Bool)}

theorem PV.move {x v} (h : ev fr x = some v) : PV P fr m Φ ⟨d, .move x, ty, pos, af, gd⟩ v := fun a n w hf _ _ => by
  simp [execOp, hf.ev h]
theorem PV.assign {x v} (h : ev fr x = some v) : PV P fr m Φ ⟨d, .assign x, ty, pos, af, gd⟩ v := fun a n w hf _ _ => by
  simp [execOp, hf.ev h]
theorem PV.pickT {c x y v} (hc : ev fr c = some (.bool true)) (h : ev fr x = some v) : PV P fr m Φ ⟨d, .pick c x y, ty, pos, af, gd⟩ v := fun a n w hf _ _ => by
  simp [execOp, hf.ev h, hf.ev hc, asBool]
theorem PV.pickF {c x y v} (hc : ev fr c = some (.bool false)) (h : ev fr y = some v) : PV P fr m Φ ⟨d, .pick c x y, ty, pos, af, gd⟩ v := fun a n w hf _ _ => by
  simp [execOp, hf.ev h, hf.ev hc, asBool]
theorem PV.nilCheck {x a'} (h : ev fr x = some (.pointer (some a'))) : PV P fr m Φ ⟨d, .nilCheck x, ty, pos, af, gd⟩ (.pointer (some a')) := fun a n w hf _ _ => by
  simp [execOp, hf.ev h]
theorem PV.extract {x i v} {vs : List Value} (h : ev fr x = some (.tuple vs.toArray)) (hi : vs[i]? = some v) : PV P fr m Φ ⟨d, .extract x i, ty, pos, af, gd⟩ v := fun a n w hf _ _ => by
  simp [execOp, hf.ev h, Instr.extract, hi]
theorem PV.not {x b t} (h : ev fr x = some (.bool b)) : PV P fr m Φ ⟨d, .unOp .not t x, ty, pos, af, gd⟩ (.bool (!b)) := fun a n w hf _ _ => by
  simp [execOp, hf.ev h, Op.unary]


/-- the address of a field -/
structure FA (P : Program) (s f off : Nat) : Prop where
  at_ : ∀ b o w, (Instr.fieldAt s (.pointer (some ⟨b, o, none⟩)) f).run P w = .ok (.pointer (some ⟨b, o + off, none⟩)) w
theorem FA.mk' {P : Program} {s f k off ft : Nat} {fs : Array Field} (hu : P.underlying s = some (.struct fs)) (hf : (fs[f]?).map (fun x => (x.offset, x.type)) = some (off, ft)) (hs : ∀ w, (sizeOf ft).run P w = .ok k w) (hk : k ≠ 0) : FA P s f off :=
  ⟨fun b o w => by
    have hu' : ∀ w, (underlying s).run P w = .ok (.struct fs) w := fun w => by simp [underlying, hu]
    cases hfd : fs[f]? with
    | none => simp [hfd] at hf
    | some fd =>
      simp [hfd] at hf
      obtain ⟨rfl, rfl⟩ := hf
      simp [Instr.fieldAt, hu', hfd, Instr.sureAddr, fieldPlace, hs, hk, addr_add]⟩

theorem PV.fieldAddr {x s f off b o} (hF : FA P s f off) (h : ev fr x = some (.pointer (some ⟨b, o, none⟩))) : PV P fr m Φ ⟨d, .fieldAddr s x f, ty, pos, af, gd⟩ (.pointer (some ⟨b, o + off, none⟩)) := fun a n w hf _ _ => by
  simp [execOp, hf.ev h, hF.at_]

theorem PV.idxS {x y t e k b o len cap kk} {ix : Int} (hu : P.underlying t = some (.slice e)) (hk : ∀ w, (sizeOf e).run P w = .ok k w) (hx : ev fr x = some (.slice (some ⟨b, o, none⟩) len cap)) (hy : ev fr y = some (.int kk ix))
    (h0 : 0 ≤ ix) (h1 : ix < len) : PV P fr m Φ ⟨d, .indexAddr t x y, ty, pos, af, gd⟩ (.pointer (some ⟨b, o + ix.toNat * k, none⟩)) := fun a n w hf _ _ => by
  have hu' : ∀ w, (underlying t).run P w = .ok (.slice e) w := fun w => by simp [underlying, hu]
  simp [execOp, hf.ev hx, hf.ev hy, Instr.indexAt, hu', asIntOf, h0, h1, hk, addr_add]

theorem PV.idxA {x y t e k b o kk} {len : Nat} {ix : Int} (hu : P.underlying t = some (.array len e)) (hk : ∀ w, (sizeOf e).run P w = .ok k w) (hx : ev fr x = some (.pointer (some ⟨b, o, none⟩))) (hy : ev fr y = some (.int kk ix))
    (h0 : 0 ≤ ix) (h1 : ix < len) : PV P fr m Φ ⟨d, .indexAddr t x y, ty, pos, af, gd⟩ (.pointer (some ⟨b, o + ix.toNat * k, none⟩)) := fun a n w hf _ _ => by
  have hu' : ∀ w, (underlying t).run P w = .ok (.array len e) w := fun w => by simp [underlying, hu]
  simp [execOp, hf.ev hx, hf.ev hy, Instr.indexAt, hu', asIntOf, h0, h1, hk, addr_add, Instr.sureAddr]

/-- an element of an array's value -/
theorem PV.index {x y t e k kk bb} {len : Nat} {ix : Int} {A l : List Value} (hu : P.underlying t = some (.array len e)) (hT : TF P e bb k) (hx : ev fr x = some (.agg A.toArray)) (hy : ev fr y = some (.int kk ix))
    (h0 : 0 ≤ ix) (h1 : ix < len) (hl : cut A (ix.toNat * k) k = l) (hlen : l.length = k) (hb : bb = false → k = 1) : PV P fr m Φ ⟨d, .index t x y, ty, pos, af, gd⟩ (valAt bb l) := fun a n w hf _ _ => by
  have hu' : ∀ w, (underlying t).run P w = .ok (.array len e) w := fun w => by simp [underlying, hu]
  cases bb with
  | true =>
    simp [execOp, hf.ev hx, hf.ev hy, Instr.index, hu', asIntOf, h0, h1, hT.size, hT.agg, part, valAt]
    rw [← hl, cut, List.take_drop]
  | false =>
    have hk := hb rfl
    subst hk
    match l, hlen with
    | [v], _ =>
      have : A[ix.toNat]? = some v := by
        have : (cut A (ix.toNat * 1) 1)[0]? = some v := by rw [hl]; rfl
        simpa [cut, List.getElem?_take, List.getElem?_drop] using this
      simp [execOp, hf.ev hx, hf.ev hy, Instr.index, hu', asIntOf, h0, h1, hT.size, hT.agg, part, valAt, this]

theorem PV.indexStr {x y t kk} {ix : Int} {s : ByteArray} (hu : P.underlying t = some .string) (hx : ev fr x = some (.string s)) (hy : ev fr y = some (.int kk ix))
    (h0 : 0 ≤ ix) (h1 : ix.toNat < s.size) : PV P fr m Φ ⟨d, .index t x y, ty, pos, af, gd⟩ (.int .u8 (s[ix.toNat]'h1).toNat) := fun a n w hf _ _ => by
  have hu' : ∀ w, (underlying t).run P w = .ok .string w := fun w => by simp [underlying, hu]
  have : s[ix.toNat]? = some (s[ix.toNat]'h1) := by simp [h1]
  simp [execOp, hf.ev hx, hf.ev hy, Instr.index, hu', asIntOf, h0, this]

/-- a load from a known block -/
theorem PV.loadM {x t k g o bb} {A l : List Value} (i : Nat) (hT : TF P t bb k) (hx : ev fr x = some (.pointer (some ⟨g, o, none⟩))) (hm : m[i]? = some (.blk g A)) (hl : cut A o k = l) (hlen : l.length = k) (hb : bb = false → k = 1) :
    PV P fr m Φ ⟨d, .load t x, ty, pos, af, gd⟩ (valAt bb l) := fun a n w hf hm' _ => by
  have hr := hm'.row hm o k
  rw [hl] at hr
  simp [execOp, hf.ev hx, Instr.loadAt, Instr.sureAddr, run_loadVar_row hT hlen hb hr]

/-- a load from elsewhere -/
theorem PV.loadE {x t k g o bb} {l : List Value} (hT : TF P t bb k) (hx : ev fr x = some (.pointer (some ⟨g, o, none⟩))) (hr : ∀ w, MemOk m w → Φ w → RowAt w g o l) (hlen : l.length = k) (hb : bb = false → k = 1) :
    PV P fr m Φ ⟨d, .load t x, ty, pos, af, gd⟩ (valAt bb l) := fun a n w hf hm' hΦ => by
  simp [execOp, hf.ev hx, Instr.loadAt, Instr.sureAddr, run_loadVar_row hT hlen hb (hr w hm' hΦ)]

theorem PV.lenS {x t e a' len cap} (hu : P.underlying t = some (.slice e)) (hx : ev fr x = some (.slice a' len cap)) : PV P fr m Φ ⟨d, .call ⟨.builtin .len, #[x], #[t]⟩, ty, pos, af, gd⟩ (.int .i64 len) := fun a n w hf _ _ => by
  have hu' : ∀ w, (underlying t).run P w = .ok (.slice e) w := fun w => by simp [underlying, hu]
  simp [execOp, resolve, invoke, builtin, Builtin.len_, hf.ev hx, hu', goInt]
theorem PV.lenStr {x t s} (hu : P.underlying t = some .string) (hx : ev fr x = some (.string s)) : PV P fr m Φ ⟨d, .call ⟨.builtin .len, #[x], #[t]⟩, ty, pos, af, gd⟩ (.int .i64 s.size) := fun a n w hf _ _ => by
  have hu' : ∀ w, (underlying t).run P w = .ok .string w := fun w => by simp [underlying, hu]
  simp [execOp, resolve, invoke, builtin, Builtin.len_, hf.ev hx, hu', goInt]
theorem PV.max {x y k ts} {p q : Int} (hx : ev fr x = some (.int k p)) (hy : ev fr y = some (.int k q)) : PV P fr m Φ ⟨d, .call ⟨.builtin .max, #[x, y], ts⟩, ty, pos, af, gd⟩ (.int k (max p q)) := fun a n w hf _ _ => by
  simp [execOp, resolve, invoke, builtin, Builtin.max_, Builtin.max2, hf.ev hx, hf.ev hy]; split <;> omega
theorem PV.min {x y k ts} {p q : Int} (hx : ev fr x = some (.int k p)) (hy : ev fr y = some (.int k q)) : PV P fr m Φ ⟨d, .call ⟨.builtin .min, #[x, y], ts⟩, ty, pos, af, gd⟩ (.int k (min p q)) := fun a n w hf _ _ => by
  simp [execOp, resolve, invoke, builtin, Builtin.min_, Builtin.min2, hf.ev hx, hf.ev hy]; split <;> omega

section arith
variable {x y : Operand} {t u : TypeId} {k : IntKind} {p q : Int}
theorem eqGuard_int (op : BinOp) (a b : Int) (k k' : IntKind) (w : World) : (eqGuard op t x y (.int k a) (.int k' b)).run P w = .ok () w := by
  unfold eqGuard; split <;> simp
theorem PV.add (hx : ev fr x = some (.int .i64 p)) (hy : ev fr y = some (.int .i64 q)) (h : -9223372036854775808 ≤ p + q ∧ p + q ≤ 9223372036854775807) : PV P fr m Φ ⟨d, .binOp .add t x y u, ty, pos, af, gd⟩ (.int .i64 (p + q)) := fun a n w hf _ _ => by
  simp [execOp, hf.ev hx, hf.ev hy, eqGuard_int, binOp, Op.intArith, IntWalk.i64_in _ h]
theorem PV.sub (hx : ev fr x = some (.int .i64 p)) (hy : ev fr y = some (.int .i64 q)) (h : -9223372036854775808 ≤ p - q ∧ p - q ≤ 9223372036854775807) : PV P fr m Φ ⟨d, .binOp .sub t x y u, ty, pos, af, gd⟩ (.int .i64 (p - q)) := fun a n w hf _ _ => by
  simp [execOp, hf.ev hx, hf.ev hy, eqGuard_int, binOp, Op.intArith, IntWalk.i64_in _ h]
theorem PV.mul (hx : ev fr x = some (.int .i64 p)) (hy : ev fr y = some (.int .i64 q)) (h : -9223372036854775808 ≤ p * q ∧ p * q ≤ 9223372036854775807) : PV P fr m Φ ⟨d, .binOp .mul t x y u, ty, pos, af, gd⟩ (.int .i64 (p * q)) := fun a n w hf _ _ => by
  simp [execOp, hf.ev hx, hf.ev hy, eqGuard_int, binOp, Op.intArith, IntWalk.i64_in _ h]
theorem PV.addW (hx : ev fr x = some (.int k p)) (hy : ev fr y = some (.int k q)) : PV P fr m Φ ⟨d, .binOp .add t x y u, ty, pos, af, gd⟩ (.int k (k.wrap (p + q))) := fun a n w hf _ _ => by
  simp [execOp, hf.ev hx, hf.ev hy, eqGuard_int, binOp, Op.intArith]
theorem PV.subW (hx : ev fr x = some (.int k p)) (hy : ev fr y = some (.int k q)) : PV P fr m Φ ⟨d, .binOp .sub t x y u, ty, pos, af, gd⟩ (.int k (k.wrap (p - q))) := fun a n w hf _ _ => by
  simp [execOp, hf.ev hx, hf.ev hy, eqGuard_int, binOp, Op.intArith]
theorem PV.mulW (hx : ev fr x = some (.int k p)) (hy : ev fr y = some (.int k q)) : PV P fr m Φ ⟨d, .binOp .mul t x y u, ty, pos, af, gd⟩ (.int k (k.wrap (p * q))) := fun a n w hf _ _ => by
  simp [execOp, hf.ev hx, hf.ev hy, eqGuard_int, binOp, Op.intArith]
theorem PV.rem (hx : ev fr x = some (.int k p)) (hy : ev fr y = some (.int k q)) (h : q ≠ 0) : PV P fr m Φ ⟨d, .binOp .rem t x y u, ty, pos, af, gd⟩ (.int k (p.tmod q)) := fun a n w hf _ _ => by
  simp [execOp, hf.ev hx, hf.ev hy, eqGuard_int, binOp, Op.intDiv, h]
theorem PV.quoW (hx : ev fr x = some (.int k p)) (hy : ev fr y = some (.int k q)) (h : q ≠ 0) : PV P fr m Φ ⟨d, .binOp .quo t x y u, ty, pos, af, gd⟩ (.int k (k.wrap (p.tdiv q))) := fun a n w hf _ _ => by
  simp [execOp, hf.ev hx, hf.ev hy, eqGuard_int, binOp, Op.intDiv, h]
theorem PV.lss (hx : ev fr x = some (.int k p)) (hy : ev fr y = some (.int k q)) : PV P fr m Φ ⟨d, .binOp .lss t x y u, ty, pos, af, gd⟩ (.bool (decide (p < q))) := fun a n w hf _ _ => by
  simp [execOp, hf.ev hx, hf.ev hy, eqGuard_int, binOp, Op.intCmp]
theorem PV.leq (hx : ev fr x = some (.int k p)) (hy : ev fr y = some (.int k q)) : PV P fr m Φ ⟨d, .binOp .leq t x y u, ty, pos, af, gd⟩ (.bool (decide (p ≤ q))) := fun a n w hf _ _ => by
  simp [execOp, hf.ev hx, hf.ev hy, eqGuard_int, binOp, Op.intCmp]
theorem PV.gtr (hx : ev fr x = some (.int k p)) (hy : ev fr y = some (.int k q)) : PV P fr m Φ ⟨d, .binOp .gtr t x y u, ty, pos, af, gd⟩ (.bool (decide (q < p))) := fun a n w hf _ _ => by
  simp [execOp, hf.ev hx, hf.ev hy, eqGuard_int, binOp, Op.intCmp]
theorem PV.geq (hx : ev fr x = some (.int k p)) (hy : ev fr y = some (.int k q)) : PV P fr m Φ ⟨d, .binOp .geq t x y u, ty, pos, af, gd⟩ (.bool (decide (q ≤ p))) := fun a n w hf _ _ => by
  simp [execOp, hf.ev hx, hf.ev hy, eqGuard_int, binOp, Op.intCmp]
theorem PV.eql (hx : ev fr x = some (.int k p)) (hy : ev fr y = some (.int k q)) : PV P fr m Φ ⟨d, .binOp .eql t x y u, ty, pos, af, gd⟩ (.bool (decide (p = q))) := fun a n w hf _ _ => by
  simp [execOp, hf.ev hx, hf.ev hy, eqGuard_int, binOp, Op.intCmp, BEq.beq]
theorem PV.neq (hx : ev fr x = some (.int k p)) (hy : ev fr y = some (.int k q)) : PV P fr m Φ ⟨d, .binOp .neq t x y u, ty, pos, af, gd⟩ (.bool (decide (p ≠ q))) := fun a n w hf _ _ => by
  simp [execOp, hf.ev hx, hf.ev hy, eqGuard_int, binOp, Op.intCmp, bne, BEq.beq]
theorem PV.conv {k'} (hu : P.underlying u = some (.int k')) (ht : ∃ tt, P.underlying t = some tt) (hx : ev fr x = some (.int k p)) : PV P fr m Φ ⟨d, .convert t u x, ty, pos, af, gd⟩ (.int k' (k'.wrap p)) := fun a n w hf _ _ => by
  obtain ⟨tt, ht⟩ := ht
  have hu' : ∀ w, (underlying u).run P w = .ok (.int k') w := fun w => by simp [underlying, hu]
  have ht' : ∀ w, (underlying t).run P w = .ok tt w := fun w => by simp [underlying, ht]
  simp [execOp, hf.ev hx, convert, hu', ht', Conv.intToInt]
end arith

end

/-! ## Operations that do something -/
section
variable {P : Program} {n : Nat} {fr : Fr} {m : Mem} {Φ : World → Prop}

def EV (P : Program) (n : Nat) (fr : Fr) (m : Mem) (Φ : World → Prop) (o : Oper) (K : Value → Mem → (World → Prop) → Prop) : Prop :=
  ∀ (a : Act) (w : World) (next : Act → World → Prop) (Q : Exit → Act → World → Prop), Fits n fr a → MemOk m w → Sup Φ (gs m) w →
    (∀ v m' Φ' w', K v m' Φ' → MemOk m' w' → Sup Φ' (gs m') w' → next (a.put o.dst v) w') → o.wp P a w next Q

theorem EV.ofPV {o v} (h : PV P fr m Φ o v) : EV P n fr m Φ o (fun v' m' Φ' => v' = v ∧ m' = m ∧ Φ' = Φ) := fun a w next Q hf hm hs hk => by
  simp only [Oper.wp, h a n w hf hm hs.out, Oper.upon]
  exact hk v m Φ w ⟨rfl, rfl, rfl⟩ hm hs

variable {d : Option Tmp} {ty : TypeId} {pos : String} {af : Array Edge} {gd : Option (Nat × Bool)}

/-- a new block -/
theorem new_block {m : Mem} {Φ : World → Prop} {w : World} (hm : MemOk m w) (hs : Sup Φ (gs m) w) (cells : List Value) (T : TypeId) :
    MemOk (m ++ [.blk w.heap.size cells]) (w.alloc (.cells cells.toArray T)) ∧ Sup Φ (gs (m ++ [.blk w.heap.size cells])) (w.alloc (.cells cells.toArray T)) := by
  refine ⟨(hm.ext (Ext.alloc No w _) (fun _ _ x => x)).push ?_ (by simp [bsAll, Ent.bs]) ?_, ?_⟩
  · intro e he; simp at he; subst he; exact ⟨T, heap_alloc_new w _⟩
  · intro g hg h; simp [bsAll, Ent.bs] at hg; subst hg; exact Nat.lt_irrefl _ (hm.lt h)
  · refine hs.step (Ext.alloc No w _) (fun _ _ x => x.elim) ?_
    intro k hk hA
    unfold gs at hA
    rw [bsAll, List.flatMap_append] at hA
    rcases List.mem_append.1 hA with h | h
    · exact h
    · simp [Ent.bs] at h; omega

theorem EV.box {x v e} (hx : ev fr x = some v) : EV P n fr m Φ ⟨d, .box e x, ty, pos, af, gd⟩ (fun v' m' Φ' => ∃ g, v' = .pointer (some ⟨g, 0, none⟩) ∧ m' = m ++ [.blk g v.cells.toList] ∧ Φ' = Φ) := fun a w next Q hf hm hs hk => by
  have hr : (execOp a.eval ⟨d, .box e x, ty, pos, af, gd⟩).run P w = .ok (.value (.pointer (some ⟨w.heap.size, 0, none⟩))) (w.alloc (.cells v.cells.toList.toArray e)) := by
    simp [execOp, hf.ev hx, Instr.box, newVar, newRow]
  simp only [Oper.wp, hr, Oper.upon]
  obtain ⟨h1, h2⟩ := new_block hm hs v.cells.toList e
  exact hk _ _ _ _ ⟨w.heap.size, rfl, rfl, rfl⟩ h1 h2

theorem EV.alloc {e z} (hz : ∀ w, (zeroValue e).run P w = .ok z w) : EV P n fr m Φ ⟨d, .alloc e, ty, pos, af, gd⟩ (fun v' m' Φ' => ∃ g, v' = .pointer (some ⟨g, 0, none⟩) ∧ m' = m ++ [.blk g z.cells.toList] ∧ Φ' = Φ) := fun a w next Q hf hm hs hk => by
  have hr : (execOp a.eval ⟨d, .alloc e, ty, pos, af, gd⟩).run P w = .ok (.value (.pointer (some ⟨w.heap.size, 0, none⟩))) (w.alloc (.cells z.cells.toList.toArray e)) := by
    simp [execOp, Instr.alloc, hz, newVar, newRow]
  simp only [Oper.wp, hr, Oper.upon]
  obtain ⟨h1, h2⟩ := new_block hm hs z.cells.toList e
  exact hk _ _ _ _ ⟨w.heap.size, rfl, rfl, rfl⟩ h1 h2

theorem bsAll_set {m : Mem} {i : Nat} {e e' : Ent} (h : m[i]? = some e) (hb : e'.bs = e.bs) : bsAll (m.set i e') = bsAll m := by
  induction m generalizing i with
  | nil => simp at h
  | cons x r ih =>
    cases i with
    | zero => simp at h; subst h; simp [bsAll, hb]
    | succ i => simp at h; have := ih h; simp [bsAll] at *; exact this
theorem nodup_at {m : Mem} {i j : Nat} {e e' : Ent} {g : Nat} (hn : (bsAll m).Nodup) (hi : m[i]? = some e) (hj : m[j]? = some e') (hg : g ∈ e.bs) (hg' : g ∈ e'.bs) : i = j := by
  induction m generalizing i j with
  | nil => simp at hi
  | cons x r ih =>
    rw [bsAll, List.flatMap_cons, List.nodup_append] at hn
    obtain ⟨_, h2, h3⟩ := hn
    cases i with
    | zero =>
      simp at hi; subst hi
      cases j with
      | zero => rfl
      | succ j => simp at hj; exact absurd rfl (h3 g hg g (mem_bsAll.2 ⟨e', List.mem_of_getElem? hj, hg'⟩))
    | succ i =>
      simp at hi
      cases j with
      | zero => simp at hj; subst hj; exact absurd rfl (h3 g hg' g (mem_bsAll.2 ⟨e, List.mem_of_getElem? hi, hg⟩))
      | succ j => simp at hj; rw [ih h2 hi hj]
theorem MemOk.set {m : Mem} {w w' : World} {i : Nat} {e e' : Ent} {X : Nat → Prop} (h : MemOk m w) (hi : m[i]? = some e) (hx : Ext X w w') (hX : ∀ g, X g → g ∈ e.bs) (hb : e'.bs = e.bs) (hok : e'.ok w') : MemOk (m.set i e') w' := by
  refine ⟨by rw [bsAll_set hi hb]; exact h.nodup, ?_⟩
  intro en hm
  obtain ⟨j, hj⟩ := List.getElem?_of_mem hm
  rw [List.getElem?_set] at hj
  by_cases ee : i = j
  · subst ee
    have := (List.getElem?_eq_some_iff.1 hi).1
    simp [this] at hj
    subst hj; exact hok
  · simp [ee] at hj
    exact (h.ok en (List.mem_of_getElem? hj)).ext hx (fun g hg hXg => ee (nodup_at h.nodup hi hj (hX g hXg) hg))

theorem EV.store {x y t k g o b} {A : List Value} {v : Value} (i : Nat) (hT : TF P t b k) (hx : ev fr x = some (.pointer (some ⟨g, o, none⟩))) (hy : ev fr y = some v) (hm : m[i]? = some (.blk g A))
    (hk : v.cells.toList.length = k) (hone : allOne v.cells.toList = true) (hlen : o + k ≤ A.length) :
    EV P n fr m Φ ⟨d, .store t x y, ty, pos, af, gd⟩ (fun v' m' Φ' => v' = undef ∧ m' = m.set i (.blk g (wr A o v.cells.toList)) ∧ Φ' = Φ) := fun a w next Q hf hmo hs hkk => by
  obtain ⟨T, hT'⟩ := hmo.at hm
  obtain ⟨w', hr, hb, he⟩ := run_storeVar (P := P) (v := v) hT hT' hk hone hlen
  have hr' : (execOp a.eval ⟨d, .store t x y, ty, pos, af, gd⟩).run P w = .ok .skip w' := by
    simp [execOp, hf.ev hx, hf.ev hy, Instr.storeAt, Instr.sureAddr, hr]
  simp only [Oper.wp, hr', Oper.upon]
  refine hkk _ _ _ _ ⟨rfl, rfl, rfl⟩ (hmo.set hm he (fun g e => by subst e; simp [Ent.bs]) rfl ⟨T, hb⟩) ?_
  unfold gs
  rw [bsAll_set (e' := .blk g (wr A o v.cells.toList)) hm rfl]
  exact hs.step he (fun k _ e => by subst e; exact mem_bsAll.2 ⟨_, List.mem_of_getElem? hm, by simp [Ent.bs]⟩) (fun _ _ x => x)

/-- a call by its contract, which tells what is known behind it -/
def CallK (P : Program) (f : FuncId) (args : List Value) (m : Mem) (Φ : World → Prop) (K : Value → Mem → (World → Prop) → Prop) : Prop :=
  ∀ w, MemOk m w → Sup Φ (gs m) w → Calls P f args.toArray w fun e w' => ∃ v m' Φ', e = .returned v ∧ K v m' Φ' ∧ MemOk m' w' ∧ Sup Φ' (gs m') w'

theorem EV.call {f xs ts vs} {K : Value → Mem → (World → Prop) → Prop} (hc : ∀ args w, (callFunc f args).run P w = .ok (.enter f args) w) (hv : evs fr xs = some vs) (h : CallK P f vs m Φ K) :
    EV P n fr m Φ ⟨d, .call ⟨.value (.func f), xs.toArray, ts⟩, ty, pos, af, gd⟩ K := fun a w next Q hf hm hs hk => by
  have he := hf.evs hv
  have hr : (execOp a.eval ⟨d, .call ⟨.value (.func f), xs.toArray, ts⟩, ty, pos, af, gd⟩).run P w = .ok (.enter f vs.toArray) w := by
    simp [execOp, resolve, Deferred.ofValue, Act.eval, invoke, hc, he]
  simp only [Oper.wp, hr, Oper.upon]
  refine (h w hm hs).mono ?_
  rintro e w' ⟨v, m', Φ', rfl, hK, hm', hs'⟩
  exact hk v m' Φ' w' hK hm' hs'

/-- a callee that leaves all that was there as it was, and of whose answer only the value is told -/
theorem CallK.val {f args v} (h : ∀ w, MemOk m w → Φ w → Calls P f (List.toArray args) w fun e w' => e = .returned v ∧ Ext No w w') : CallK P f args m Φ (fun v' m' Φ' => v' = v ∧ m' = m ∧ Φ' = Φ) :=
  fun w hm hs => (h w hm hs.out).mono fun _ _ ⟨he, hx⟩ => ⟨v, m, Φ, he, ⟨rfl, rfl, rfl⟩, hm.ext hx (fun _ _ x => x), hs.step hx (fun _ _ x => x.elim) (fun _ _ x => x)⟩

/-- .. of whose answer is told what it is, and what lies in new memory -/
def Own (B : Nat) (F : World → Prop) (w : World) : Prop := Sup F (fun b => b < B) w

theorem CallK.own {f args} {R : Value → (World → Prop) → Prop} (h : ∀ w, MemOk m w → Φ w → Calls P f (List.toArray args) w fun e w' => ∃ v F, e = .returned v ∧ R v F ∧ Own w.heap.size F w' ∧ Ext No w w') :
    CallK P f args m Φ (fun v' m' Φ' => ∃ F, R v' F ∧ m' = m ∧ Φ' = fun w => Φ w ∧ F w) :=
  fun w hm hs => (h w hm hs.out).mono fun _ _ ⟨v, F, he, hR, hF, hx⟩ =>
    ⟨v, m, _, he, ⟨F, hR, rfl, rfl⟩, hm.ext hx (fun _ _ x => x),
      (hs.step hx (fun _ _ x => x.elim) (fun _ _ x => x)).and (hF.less (fun _ _ hk => hm.lt hk))⟩
end

/-! ## Regions whose order is written -/
section
variable {P : Program} {n : Nat} {Q : Exit → Act → World → Prop} {fr : Fr} {m : Mem} {Φ : World → Prop} {ops : Array Oper} {C : Fr → Mem → (World → Prop) → Prop}

def RO (P : Program) (ops : Array Oper) (n : Nat) (C : Fr → Mem → (World → Prop) → Prop) (l : List Oper) (fr : Fr) (m : Mem) (Φ : World → Prop) : Prop :=
  ∀ Q : Exit → Act → World → Prop, (∀ fr' m' Φ' a' w', C fr' m' Φ' → Sat n fr' m' Φ' a' w' → Q .normal a' w') → ∀ a w, Sat n fr m Φ a w → wpList P ops Q l a w

theorem CW.region {id} {l : List Oper} (h : RO P l.toArray n (fun fr' m' Φ' => QC n Q .normal fr' m' Φ') l fr m Φ) : CW P n (.region id l.toArray false) Q fr m Φ :=
  fun a w hs => wp_region_lit (h Q (fun _ _ _ a' w' hc hs' => hc a' w' hs') a w hs)

/-- a region, and what stands behind it -/
theorem CW.reg {id} {l : List Oper} {y : Code} (h : RO P l.toArray n (fun fr' m' Φ' => CW P n y Q fr' m' Φ') l fr m Φ) : CW P n (.seq (.region id l.toArray false) y) Q fr m Φ :=
  CW.seq (CW.region h)

theorem RO.nil (h : C fr m Φ) : RO P ops n C [] fr m Φ := fun _ hq _ _ hs => wpList_nil (hq _ _ _ _ _ h hs)

/-- it is carried out -/
def Wt (ops : Array Oper) (fr : Fr) (o : Oper) : Prop := o.guard = none ∨ ∃ j b t u, o.guard = some (j, b) ∧ ops[j]? = some u ∧ u.dst = some t ∧ look fr t = some (.bool b)
theorem Wt.no {fr : Fr} {o : Oper} (h : o.guard = none) : Wt ops fr o := .inl h
theorem Wt.yes {fr : Fr} {o : Oper} {j b t u} (h : o.guard = some (j, b)) (h1 : ops[j]? = some u) (h2 : u.dst = some t) (h3 : look fr t = some (.bool b)) : Wt ops fr o := .inr ⟨j, b, t, u, h, h1, h2, h3⟩
theorem Wt.wanted {fr : Fr} {o : Oper} {a : Act} (h : Wt ops fr o) (hf : Fits n fr a) : Region.wanted o (yielded ops a.tmps) = true := by
  rcases h with h | ⟨j, b, t, u, h, h1, h2, h3⟩
  · simp [Region.wanted, h]
  · have := hf.get t _ h3
    simp [Region.wanted, h, yielded, h1, h2, this]
/-- it is left out -/
def Un (ops : Array Oper) (fr : Fr) (o : Oper) : Prop := ∃ j b t u v, o.guard = some (j, b) ∧ ops[j]? = some u ∧ u.dst = some t ∧ look fr t = some v ∧ (v = .bool (!b) ∨ v = undef)
theorem Un.mk {fr : Fr} {o : Oper} {j b t u} (h : o.guard = some (j, b)) (h1 : ops[j]? = some u) (h2 : u.dst = some t) (h3 : look fr t = some (.bool (!b))) : Un ops fr o := ⟨j, b, t, u, _, h, h1, h2, h3, .inl rfl⟩
theorem Un.undef {fr : Fr} {o : Oper} {j b t u} (h : o.guard = some (j, b)) (h1 : ops[j]? = some u) (h2 : u.dst = some t) (h3 : look fr t = some Go.undef) : Un ops fr o := ⟨j, b, t, u, _, h, h1, h2, h3, .inr rfl⟩
theorem Un.unwanted {fr : Fr} {o : Oper} {a : Act} (h : Un ops fr o) (hf : Fits n fr a) : Region.wanted o (yielded ops a.tmps) = false := by
  obtain ⟨j, b, t, u, v, h, h1, h2, h3, h4⟩ := h
  have := hf.get t _ h3
  rcases h4 with rfl | rfl
  · simp [Region.wanted, h, yielded, h1, h2, this]
  · simp [Region.wanted, h, yielded, h1, h2, this, Go.undef]

def upd (fr : Fr) (d : Option Tmp) (v : Value) : Fr := match d with
  | some t => (t, v) :: fr
  | none => fr
def dstOk (n : Nat) : Option Tmp → Bool
  | some t => Nat.blt t n
  | none => true
theorem Fits.upd {a : Act} {d v} (h : Fits n fr a) (hd : dstOk n d = true) : Fits n (upd fr d v) (a.put d v) := by
  cases d with
  | none => exact h
  | some t => exact h.put (by simpa [dstOk, Nat.blt_eq] using hd)

theorem RO.val {o v rest} (hw : Wt ops fr o) (hd : dstOk n o.dst = true) (h : PV P fr m Φ o v) (hr : RO P ops n C rest (upd fr o.dst v) m Φ) : RO P ops n C (o :: rest) fr m Φ := fun Q hq a w hs => by
  unfold wpList
  rw [if_pos (hw.wanted hs.fits)]
  refine .inl ?_
  simp only [Oper.wp, h a n w hs.fits hs.mem hs.phi, Oper.upon]
  exact hr Q hq _ _ ⟨hs.fits.upd hd, hs.mem, hs.sup⟩

theorem RO.skip {o rest} (hw : Un ops fr o) (hd : dstOk n o.dst = true) (hr : RO P ops n C rest (upd fr o.dst undef) m Φ) : RO P ops n C (o :: rest) fr m Φ := fun Q hq a w hs => by
  unfold wpList
  rw [if_neg (by simp [hw.unwanted hs.fits])]
  exact hr Q hq _ _ ⟨hs.fits.upd hd, hs.mem, hs.sup⟩

theorem RO.eff {o K rest} (hw : Wt ops fr o) (hd : dstOk n o.dst = true) (h : EV P n fr m Φ o K) (hr : ∀ v m' Φ', K v m' Φ' → RO P ops n C rest (upd fr o.dst v) m' Φ') : RO P ops n C (o :: rest) fr m Φ := fun Q hq a w hs => by
  unfold wpList
  rw [if_pos (hw.wanted hs.fits)]
  exact .inl (h a w _ Q hs.fits hs.mem hs.sup (fun v m' Φ' w' hK hm hs' => hr v m' Φ' hK Q hq _ _ ⟨hs.fits.upd hd, hm, hs'⟩))

/-- a slot's bool is told apart -/
theorem RO.split {l t} {b : Bool} (h : look fr t = some (.bool b)) (ht : b = true → RO P ops n C l ((t, .bool true) :: fr) m Φ) (hf : b = false → RO P ops n C l ((t, .bool false) :: fr) m Φ) : RO P ops n C l fr m Φ := by
  have key : ∀ c, b = c → ∀ a w, Sat n fr m Φ a w → Sat n ((t, .bool c) :: fr) m Φ a w := fun c hc a w hs => by
    refine ⟨⟨hs.fits.size, hs.fits.defers, ?_⟩, hs.mem, hs.sup⟩
    intro t' v' hl
    rw [look_cons] at hl
    by_cases e : t = t'
    · subst e; simp at hl; subst hl; rw [← hc]; exact hs.fits.get _ _ h
    · simp [e] at hl; exact hs.fits.get _ _ hl
  cases b with
  | true => exact fun Q hq a w hs => ht rfl Q hq a w (key true rfl a w hs)
  | false => exact fun Q hq a w hs => hf rfl Q hq a w (key false rfl a w hs)

theorem RO.weak {l fr' m' e} {Ψ : World → Prop} (hf : Subs fr fr') (hm : m = m' ++ e) (hΨ : ∀ w, Φ w → Ψ w) (h : RO P ops n C l fr' m' Ψ) : RO P ops n C l fr m Φ :=
  fun Q hq a w hs => h Q hq a w (hs.weak hf hm hΨ)
theorem RO.know {l} {p : Prop} (hp : ∀ w, MemOk m w → Φ w → p) (h : p → RO P ops n C l fr m Φ) : RO P ops n C l fr m Φ :=
  fun Q hq a w hs => h (hp w hs.mem hs.phi) Q hq a w hs
end

/-! ## Regions whose order is drawn -/
section
variable {P : Program} {n : Nat} {Q : Exit → Act → World → Prop} {fr : Fr} {m mS : Mem} {Φ ΦS : World → Prop} {ops : Array Oper} {C : Fr → Mem → (World → Prop) → Prop} {fuel : Nat} {listed : Array Bool}

/-- what stands still in the whole region -/
def St (mS : Mem) (ΦS : World → Prop) (w : World) : Prop := MemOk mS w ∧ ΦS w

def RD (P : Program) (ops : Array Oper) (n : Nat) (mS : Mem) (ΦS : World → Prop) (C : Fr → Mem → (World → Prop) → Prop) (fuel : Nat) (listed : Array Bool) (fr : Fr) (m : Mem) (Φ : World → Prop) : Prop :=
  ∀ Q : Exit → Act → World → Prop, (∀ c a w, Q (.panic c) a w → False) → (∀ fr' m' Φ' a' w', C fr' m' Φ' → Sat n fr' m' Φ' a' w' → Q .normal a' w') →
    ∀ a w, Sat n fr m Φ a w → St mS ΦS w → wpAnyH P .any ops Q (St mS ΦS) fuel listed a w

theorem CW.regionD {id} (mS : Mem) (ΦS : World → Prop) (hm : P.follows .mixedOrders = true) (hS : ∀ w, MemOk m w → Φ w → St mS ΦS w)
    (h : RD P ops n mS ΦS (fun fr' m' Φ' => QC n Q .normal fr' m' Φ') ops.size (Array.replicate ops.size false) fr m Φ) : CW P n (.region id ops true) Q fr m Φ := fun a w hs => by
  refine wp_region_noPanic (wp_region_held hm (S := St mS ΦS) ?_)
  have hd : Sat n fr m Φ a w.drew := hs.drew
  exact h (NoPanic Q) (fun _ _ _ h => h) (fun _ _ _ a' w' hc hs' => hc a' w' hs') a _ hd (hS _ hd.mem hd.phi)

theorem CW.regD {id} {y : Code} (mS : Mem) (ΦS : World → Prop) (hm : P.follows .mixedOrders = true) (hS : ∀ w, MemOk m w → Φ w → St mS ΦS w)
    (h : RD P ops n mS ΦS (fun fr' m' Φ' => CW P n y Q fr' m' Φ') ops.size (Array.replicate ops.size false) fr m Φ) : CW P n (.seq (.region id ops true) y) Q fr m Φ :=
  CW.seq (CW.regionD mS ΦS hm hS h)

theorem RD.take (i : Nat) {oi : Oper} {v : Value} (hi : ops[i]? = some oi) (hs : Region.noSelect ops = true) (hf : Region.free .any ops listed i = true) (hr : (Region.ready .any ops listed).contains i = true)
    (hw : Wt ops fr oi) (hd : dstOk n oi.dst = true) (hv : PV P fr mS ΦS oi v) (h : RD P ops n mS ΦS C fuel (listed.setIfInBounds i true) (upd fr oi.dst v) m Φ) : RD P ops n mS ΦS C (fuel + 1) listed fr m Φ := fun Q hp hq a w hsat hS =>
  wpAnyH_take hi hs hf hr (fun c _ w hx => (hp c _ w hx).elim) (.inl ⟨hw.wanted hsat.fits, fun w' hw' => hv a n w' hsat.fits hw'.1 hw'.2⟩) hS
    (h Q hp hq _ _ ⟨hsat.fits.upd hd, hsat.mem, hsat.sup⟩ hS)

theorem RD.takeNo (i : Nat) {oi : Oper} (hi : ops[i]? = some oi) (hs : Region.noSelect ops = true) (hf : Region.free .any ops listed i = true) (hr : (Region.ready .any ops listed).contains i = true)
    (hw : Un ops fr oi) (hd : dstOk n oi.dst = true) (h : RD P ops n mS ΦS C fuel (listed.setIfInBounds i true) (upd fr oi.dst undef) m Φ) : RD P ops n mS ΦS C (fuel + 1) listed fr m Φ := fun Q hp hq a w hsat hS =>
  wpAnyH_take hi hs hf hr (fun c _ w hx => (hp c _ w hx).elim) (.inr ⟨hw.unwanted hsat.fits, rfl⟩) hS
    (h Q hp hq _ _ ⟨hsat.fits.upd hd, hsat.mem, hsat.sup⟩ hS)

/-- operation i comes up next: it is carried out -/
def Up (P : Program) (ops : Array Oper) (n : Nat) (mS : Mem) (ΦS : World → Prop) (C : Fr → Mem → (World → Prop) → Prop) (fuel : Nat) (listed : Array Bool) (fr : Fr) (m : Mem) (Φ : World → Prop) (i : Nat) : Prop :=
  ∀ Q : Exit → Act → World → Prop, (∀ c a w, Q (.panic c) a w → False) → (∀ fr' m' Φ' a' w', C fr' m' Φ' → Sat n fr' m' Φ' a' w' → Q .normal a' w') →
    ∀ a w, Sat n fr m Φ a w → St mS ΦS w → wpOp P ops Q i (fun a' w' => St mS ΦS w' ∧ wpAnyH P .any ops Q (St mS ΦS) fuel (listed.setIfInBounds i true) a' w') a w

theorem RD.one (i : Nat) (hr : Region.ready .any ops listed = [i]) (h : Up P ops n mS ΦS C fuel listed fr m Φ i) : RD P ops n mS ΦS C (fuel + 1) listed fr m Φ := fun Q hp hq a w hsat hS =>
  wpAnyH_all hr (by simp) (fun j hj => by simp at hj; subst hj; exact h Q hp hq a w hsat hS)
theorem RD.two (i j : Nat) (hr : Region.ready .any ops listed = [i, j]) (h : Up P ops n mS ΦS C fuel listed fr m Φ i) (h' : Up P ops n mS ΦS C fuel listed fr m Φ j) : RD P ops n mS ΦS C (fuel + 1) listed fr m Φ := fun Q hp hq a w hsat hS =>
  wpAnyH_all hr (by simp) (fun k hk => by simp at hk; rcases hk with rfl | rfl; exact h Q hp hq a w hsat hS; exact h' Q hp hq a w hsat hS)
theorem RD.three (i j k : Nat) (hr : Region.ready .any ops listed = [i, j, k]) (h : Up P ops n mS ΦS C fuel listed fr m Φ i) (h' : Up P ops n mS ΦS C fuel listed fr m Φ j) (h'' : Up P ops n mS ΦS C fuel listed fr m Φ k) : RD P ops n mS ΦS C (fuel + 1) listed fr m Φ := fun Q hp hq a w hsat hS =>
  wpAnyH_all hr (by simp) (fun l hl => by simp at hl; rcases hl with rfl | rfl | rfl; exact h Q hp hq a w hsat hS; exact h' Q hp hq a w hsat hS; exact h'' Q hp hq a w hsat hS)

theorem Up.eff {i : Nat} {o : Oper} {K} (hi : ops[i]? = some o) (hw : Wt ops fr o) (hd : dstOk n o.dst = true) (h : EV P n fr m Φ o K) (hS : ∀ v m' Φ', K v m' Φ' → ∀ w, MemOk m' w → Φ' w → St mS ΦS w)
    (hr : ∀ v m' Φ', K v m' Φ' → RD P ops n mS ΦS C fuel (listed.setIfInBounds i true) (upd fr o.dst v) m' Φ') : Up P ops n mS ΦS C fuel listed fr m Φ i := fun Q hp hq a w hsat _ => by
  unfold wpOp
  simp only [hi]
  rw [if_pos (hw.wanted hsat.fits)]
  refine .inl (h a w _ Q hsat.fits hsat.mem hsat.sup (fun v m' Φ' w' hK hm hs' => ?_))
  have h1 := hS v m' Φ' hK w' hm hs'.out
  exact ⟨h1, hr v m' Φ' hK Q hp hq _ _ ⟨hsat.fits.upd hd, hm, hs'⟩ h1⟩

theorem Up.val {i : Nat} {o : Oper} {v} (hi : ops[i]? = some o) (hw : Wt ops fr o) (hd : dstOk n o.dst = true) (h : PV P fr m Φ o v)
    (hr : RD P ops n mS ΦS C fuel (listed.setIfInBounds i true) (upd fr o.dst v) m Φ) : Up P ops n mS ΦS C fuel listed fr m Φ i := fun Q hp hq a w hsat hS => by
  unfold wpOp
  simp only [hi]
  rw [if_pos (hw.wanted hsat.fits)]
  refine .inl ?_
  simp only [Oper.wp, h a n w hsat.fits hsat.mem hsat.phi, Oper.upon]
  exact ⟨hS, hr Q hp hq _ _ ⟨hsat.fits.upd hd, hsat.mem, hsat.sup⟩ hS⟩

theorem Up.skip {i : Nat} {o : Oper} (hi : ops[i]? = some o) (hw : Un ops fr o) (hd : dstOk n o.dst = true)
    (hr : RD P ops n mS ΦS C fuel (listed.setIfInBounds i true) (upd fr o.dst undef) m Φ) : Up P ops n mS ΦS C fuel listed fr m Φ i := fun Q hp hq a w hsat hS => by
  unfold wpOp
  simp only [hi]
  rw [if_neg (by simp [hw.unwanted hsat.fits])]
  exact ⟨hS, hr Q hp hq _ _ ⟨hsat.fits.upd hd, hsat.mem, hsat.sup⟩ hS⟩

theorem RD.done (hr : Region.ready .any ops listed = []) (h : C fr m Φ) : RD P ops n mS ΦS C fuel listed fr m Φ := fun Q _ hq a w hsat _ =>
  wpAnyH_done hr (hq _ _ _ _ _ h hsat) fuel

theorem RD.split {t} {b : Bool} (h : look fr t = some (.bool b)) (ht : b = true → RD P ops n mS ΦS C fuel listed ((t, .bool true) :: fr) m Φ) (hf : b = false → RD P ops n mS ΦS C fuel listed ((t, .bool false) :: fr) m Φ) : RD P ops n mS ΦS C fuel listed fr m Φ := by
  have key : ∀ c, b = c → ∀ a w, Sat n fr m Φ a w → Sat n ((t, .bool c) :: fr) m Φ a w := fun c hc a w hs => by
    refine ⟨⟨hs.fits.size, hs.fits.defers, ?_⟩, hs.mem, hs.sup⟩
    intro t' v' hl
    rw [look_cons] at hl
    by_cases e : t = t'
    · subst e; simp at hl; subst hl; rw [← hc]; exact hs.fits.get _ _ h
    · simp [e] at hl; exact hs.fits.get _ _ hl
  cases b with
  | true => exact fun Q hp hq a w hs hS => ht rfl Q hp hq a w (key true rfl a w hs) hS
  | false => exact fun Q hp hq a w hs hS => hf rfl Q hp hq a w (key false rfl a w hs) hS
theorem RD.know {p : Prop} (hp : ∀ w, MemOk m w → Φ w → p) (h : p → RD P ops n mS ΦS C fuel listed fr m Φ) : RD P ops n mS ΦS C fuel listed fr m Φ :=
  fun Q hp' hq a w hs => h (hp w hs.mem hs.phi) Q hp' hq a w hs
end

/-! ## Entering, returning -/
section
variable {P : Program} {n : Nat} {fr : Fr} {m : Mem} {Φ : World → Prop} {fn : Func} {R : Ending → World → Prop}

def argFr : Nat → List Value → Fr
  | _, [] => []
  | i, v :: r => (i, v) :: argFr (i + 1) r

theorem look_argFr : ∀ (l : List Value) (i t : Nat) (v : Value), look (argFr i l) t = some v → i ≤ t ∧ l[t - i]? = some v := by
  intro l
  induction l with
  | nil => intro i t v h; simp [argFr, look] at h
  | cons u r ih =>
    intro i t v h
    rw [argFr, look_cons] at h
    by_cases e : i = t
    · subst e; simp at h; simp [h]
    · simp [e] at h
      obtain ⟨h1, h2⟩ := ih (i + 1) t v h
      refine ⟨by omega, ?_⟩
      rw [show t - i = (t - (i + 1)) + 1 by omega]
      simpa using h2

theorem enter {f : FuncId} {c : Code} {args : List Value} {w : World} (hf : P.funcs[f]? = some fn) (hb : fn.body = some c) (hn : fn.ntmps = n) (hle : Nat.ble args.length n = true) (hm : MemOk m w) (hs : Sup Φ (gs m) w)
    (h : CW P n c (bodyPost P fn R) (argFr 0 args) m Φ) : Calls P f args.toArray w R := by
  have hle' := Nat.le_of_ble_eq_true hle
  refine calls_of_wp hf hb (h _ w ⟨⟨?_, rfl, ?_⟩, hm, hs⟩)
  · simp [hn]; omega
  · intro t v ht
    obtain ⟨_, h2⟩ := look_argFr args 0 t v ht
    simp only [Nat.sub_zero] at h2
    have hlt := (List.getElem?_eq_some_iff.1 h2).1
    rw [Array.getElem?_append_left (by simpa using hlt)]
    simpa using h2

/-- a result variable's value -/
def RV (P : Program) (fr : Fr) (m : Mem) (Φ : World → Prop) (r : ResultVar) (v : Value) : Prop :=
  match r with
  | .tmp t => look fr t = some v
  | .cell t T => ∃ g o b k l, look fr t = some (.pointer (some ⟨g, o, none⟩)) ∧ TF P T b k ∧ l.length = k ∧ (b = false → k = 1) ∧ v = valAt b l ∧ ∀ w, MemOk m w → Φ w → RowAt w g o l
theorem RV.tmp {t v} (h : look fr t = some v) : RV P fr m Φ (.tmp t) v := h
theorem RV.cell {t T g b k} {A : List Value} (i : Nat) (h : look fr t = some (.pointer (some ⟨g, 0, none⟩))) (hT : TF P T b k) (hm : m[i]? = some (.blk g A)) (hl : A.length = k) (hb : b = false → k = 1) : RV P fr m Φ (.cell t T) (valAt b A) :=
  ⟨g, 0, b, k, A, h, hT, hl, hb, rfl, fun w hw _ => by have := hw.row hm 0 k; rwa [show cut A 0 k = A by simp [cut, ← hl]] at this⟩

theorem ret0 {e : Exit} (he : e = .ret ∨ e = .normal) (hr : fn.results = #[]) (h : ∀ w, MemOk m w → Φ w → Sup Φ (gs m) w → R (.returned (.tuple #[])) w) : QC n (bodyPost P fn R) e fr m Φ := fun a w hs => by
  have hres : (results fn a.tmps).run P w = .ok (.tuple #[]) w := by simp [results, hr]
  rcases he with rfl | rfl <;> exact ⟨hs.fits.defers, _, hres, h w hs.mem hs.phi hs.sup⟩

theorem RV.one {a : Act} {w : World} {r : ResultVar} {v : Value} (h : RV P fr m Φ r v) (hs : Sat n fr m Φ a w) :
    (∃ t, r = .tmp t ∧ a.tmps[t]? = some v) ∨ (∃ t T p, r = .cell t T ∧ a.tmps[t]? = some (.pointer (some p)) ∧ (loadVar T p).run P w = .ok v w) := by
  cases r with
  | tmp t => exact .inl ⟨t, rfl, hs.fits.get t v h⟩
  | cell t T =>
    obtain ⟨g, o, b, k, l, h1, hT, hl, hb, rfl, hr⟩ := h
    exact .inr ⟨t, T, _, rfl, hs.fits.get t _ h1, run_loadVar_row hT hl hb (hr w hs.mem hs.phi)⟩
theorem ret1 {r v} (hr : fn.results = #[r]) (hv : RV P fr m Φ r v) (h : ∀ w, MemOk m w → Φ w → Sup Φ (gs m) w → R (.returned v) w) : QC n (bodyPost P fn R) .ret fr m Φ := fun a w hs => by
  have hres : (results fn a.tmps).run P w = .ok v w := by
    rcases hv.one hs with ⟨t, rfl, e⟩ | ⟨t, T, p, rfl, e, e'⟩ <;> simp [results, asAddr, *]
  exact ⟨hs.fits.defers, v, hres, h w hs.mem hs.phi hs.sup⟩
theorem ret2 {r1 r2 v1 v2} (hr : fn.results = #[r1, r2]) (h1 : RV P fr m Φ r1 v1) (h2 : RV P fr m Φ r2 v2) (h : ∀ w, MemOk m w → Φ w → Sup Φ (gs m) w → R (.returned (.tuple #[v1, v2])) w) : QC n (bodyPost P fn R) .ret fr m Φ := fun a w hs => by
  have hres : (results fn a.tmps).run P w = .ok (.tuple #[v1, v2]) w := by
    rcases h1.one hs with ⟨t, rfl, e⟩ | ⟨t, T, p, rfl, e, e'⟩ <;> rcases h2.one hs with ⟨t2, rfl, f⟩ | ⟨t2, T2, p2, rfl, f, f'⟩ <;> simp [results, asAddr, *]
  exact ⟨hs.fits.defers, _, hres, h w hs.mem hs.phi hs.sup⟩
theorem ret3 {r1 r2 r3 v1 v2 v3} (hr : fn.results = #[r1, r2, r3]) (h1 : RV P fr m Φ r1 v1) (h2 : RV P fr m Φ r2 v2) (h3 : RV P fr m Φ r3 v3) (h : ∀ w, MemOk m w → Φ w → Sup Φ (gs m) w → R (.returned (.tuple #[v1, v2, v3])) w) : QC n (bodyPost P fn R) .ret fr m Φ := fun a w hs => by
  have hres : (results fn a.tmps).run P w = .ok (.tuple #[v1, v2, v3]) w := by
    rcases h1.one hs with ⟨t, rfl, e⟩ | ⟨t, T, p, rfl, e, e'⟩ <;> rcases h2.one hs with ⟨t2, rfl, f⟩ | ⟨t2, T2, p2, rfl, f, f'⟩ <;> rcases h3.one hs with ⟨t3, rfl, g⟩ | ⟨t3, T3, p3, rfl, g, g'⟩ <;> simp [results, asAddr, *]
  exact ⟨hs.fits.defers, _, hres, h w hs.mem hs.phi hs.sup⟩
end
end Go.Sx
namespace Go.Sx
open Go.RowKit
section
variable {P : Program} {n : Nat} {Q : Exit → Act → World → Prop} {fr : Fr} {m : Mem} {Φ : World → Prop}

/-- a frame with these slots alone -/
def keep : List Nat → Fr → Fr
  | [], _ => []
  | t :: r, fr => match look fr t with
    | some v => (t, v) :: keep r fr
    | none => keep r fr
theorem look_keep : ∀ (L : List Nat) (fr : Fr) (t : Nat) (v : Value), look (keep L fr) t = some v → look fr t = some v := by
  intro L
  induction L with
  | nil => intro fr t v h; simp [keep, look] at h
  | cons u r ih =>
    intro fr t v h
    unfold keep at h
    split at h
    · rename_i x hx
      rw [look_cons] at h
      by_cases e : u = t
      · subst e; simp at h; subst h; exact hx
      · simp [e] at h; exact ih fr t v h
    · exact ih fr t v h
theorem Fits.keep {L : List Nat} {a : Act} (h : Fits n fr a) : Fits n (keep L fr) a := ⟨h.size, h.defers, fun t v ht => h.get t v (look_keep L fr t v ht)⟩
theorem Sat.keep {L : List Nat} {a : Act} {w : World} (h : Sat n fr m Φ a w) : Sat n (keep L fr) m Φ a w := ⟨h.fits.keep, h.mem, h.sup⟩
theorem CW.keep {c : Code} (L : List Nat) (h : CW P n c Q (keep L fr) m Φ) : CW P n c Q fr m Φ := fun a w hs => h a w hs.keep

/-- what is known otherwise -/
def upds : List (Nat × Ent) → Mem → Mem
  | [], m => m
  | (i, e) :: r, m => upds r (m.set i e)

/-- a loop, told by what changes -/
theorem CW.loopS {c : Code} {X : Type} (L : List Nat) (F : X → Fr) (M : X → List (Nat × Ent)) (I : X → Prop) (μ : X → Nat) (x0 : X) (hI : I x0)
    (hf : Subs fr (F x0 ++ Sx.keep L fr)) (hm : m = upds (M x0) m)
    (step : ∀ x, I x → CW P n c (Exit.then (Round n (fun x => F x ++ Sx.keep L fr) (fun x => upds (M x) m) (fun _ => Φ) I μ x) Q) (F x ++ Sx.keep L fr) (upds (M x) m) Φ) : CW P n (.loop c) Q fr m Φ :=
  CW.loop (fun x => F x ++ Sx.keep L fr) (fun x => upds (M x) m) (fun _ => Φ) I μ x0 hI (e := []) hf (by simpa using hm) (fun _ h => h) step
/-- .. and what is known besides -/
theorem CW.loopΨ {c : Code} {X : Type} (L : List Nat) (F : X → Fr) (M : X → List (Nat × Ent)) (Ψ : X → World → Prop) (I : X → Prop) (μ : X → Nat) (x0 : X) (hI : I x0)
    (hf : Subs fr (F x0 ++ Sx.keep L fr)) (hm : m = upds (M x0) m) (hΨ : ∀ w, Φ w → Ψ x0 w)
    (step : ∀ x, I x → CW P n c (Exit.then (Round n (fun x => F x ++ Sx.keep L fr) (fun x => upds (M x) m) Ψ I μ x) Q) (F x ++ Sx.keep L fr) (upds (M x) m) (Ψ x)) : CW P n (.loop c) Q fr m Φ :=
  CW.loop (fun x => F x ++ Sx.keep L fr) (fun x => upds (M x) m) Ψ I μ x0 hI (e := []) hf (by simpa using hm) hΨ step

/-- these of the known blocks -/
def pickM : List Nat → Mem → Mem
  | [], _ => []
  | i :: r, m => match m[i]? with
    | some p => p :: pickM r m
    | none => pickM r m
theorem mem_pickM : ∀ (l : List Nat) (m : Mem) (p : Ent), p ∈ pickM l m → ∃ i ∈ l, m[i]? = some p := by
  intro l
  induction l with
  | nil => intro m p h; simp [pickM] at h
  | cons i r ih =>
    intro m p h
    unfold pickM at h
    split at h
    · rename_i q hq
      rcases List.mem_cons.1 h with rfl | h
      · exact ⟨i, by simp, hq⟩
      · obtain ⟨j, hj, e⟩ := ih m p h; exact ⟨j, by simp [hj], e⟩
    · obtain ⟨j, hj, e⟩ := ih m p h; exact ⟨j, by simp [hj], e⟩
theorem bs_nodup {m : Mem} {i : Nat} {e : Ent} (hn : (bsAll m).Nodup) (hi : m[i]? = some e) : e.bs.Nodup := by
  induction m generalizing i with
  | nil => simp at hi
  | cons x r ih =>
    rw [bsAll, List.flatMap_cons, List.nodup_append] at hn
    cases i with
    | zero => simp at hi; subst hi; exact hn.1
    | succ i => simp at hi; exact ih hn.2.1 hi
theorem MemOk.pick {l : List Nat} {m : Mem} {w : World} (h : MemOk m w) (hl : l.Nodup) : MemOk (pickM l m) w := by
  refine ⟨?_, fun e he => by obtain ⟨i, _, e'⟩ := mem_pickM l m _ he; exact h.ok e (List.mem_of_getElem? e')⟩
  induction l with
  | nil => simp [pickM, bsAll]
  | cons i r ih =>
    have hr := List.nodup_cons.1 hl
    unfold pickM
    split
    · rename_i q hq
      rw [bsAll, List.flatMap_cons, List.nodup_append]
      refine ⟨bs_nodup h.nodup hq, ih hr.2, ?_⟩
      intro a ha b hb e
      subst e
      obtain ⟨p, hp, hp'⟩ := mem_bsAll.1 hb
      obtain ⟨j, hj, e'⟩ := mem_pickM r m p hp
      have := nodup_at h.nodup hq e' ha hp'
      subst this
      exact hr.1 hj
    · exact ih hr.2
theorem St.of {l : List Nat} {m m' : Mem} {Φ ΦS : World → Prop} (hl : l.Nodup) (hp : pickM l m' = pickM l m) (hΦ : ∀ w, Φ w → ΦS w) : ∀ w, MemOk m' w → Φ w → St (pickM l m) ΦS w :=
  fun w hm h => ⟨hp ▸ hm.pick hl, hΦ w h⟩
theorem CW.drop {c : Code} {m' e : Mem} (hm : m = m' ++ e) (h : CW P n c Q fr m' Φ) : CW P n c Q fr m Φ := fun a w hs =>
  h a w ⟨hs.fits, (hm ▸ hs.mem).pre, (hs.sup.less (fun k _ hA => hm ▸ gs_pre hA))⟩
end
end Go.Sx
namespace Go.Sx
theorem MemOk.nil {w : World} : MemOk [] w := ⟨by simp [bsAll], fun _ h => by simp at h⟩
theorem Sup.start (w : World) : Sup (Ext No w) (gs []) w := fun w' e => e.mono (fun k _ hA => by simp [gs, bsAll] at hA)
end Go.Sx
/-! ## Equality -/
namespace Go.Sx
section
variable {P : Program}
theorem run_part {t bb k} {A l : List Value} {o : Nat} (hT : TF P t bb k) (hl : cut A o k = l) (hlen : l.length = k) (hb : bb = false → k = 1) (w : World) : (part t A.toArray o).run P w = .ok (valAt bb l) w := by
  cases bb with
  | true =>
    simp [part, hT.size, hT.agg, valAt]
    rw [← hl, cut, List.take_drop]
  | false =>
    have hk := hb rfl
    subst hk
    match l, hlen with
    | [v], _ =>
      have : A[o]? = some v := by
        have : (cut A o 1)[0]? = some v := by rw [hl]; rfl
        simpa [cut, List.getElem?_take, List.getElem?_drop] using this
      simp [part, hT.agg, valAt, this]

def EqOf (P : Program) (d : Nat) (t : TypeId) (x y : Value) (b : Bool) : Prop := ∀ w, (Op.equalIn d t x y).run P w = .ok b w
theorem EqOf.int {d t k k'} {a b : Int} (h : P.underlying t = some (.int k')) : EqOf P (d + 1) t (.int k a) (.int k b) (decide (a = b)) := fun w => by
  simp [Op.equalIn, run_underlying h, BEq.beq]
theorem EqOf.str {d t} {a b : ByteArray} (h : P.underlying t = some .string) : EqOf P (d + 1) t (.string a) (.string b) (decide (a = b)) := fun w => by
  have : (a == b) = decide (a = b) := by
    obtain ⟨⟨x⟩⟩ := a
    obtain ⟨⟨y⟩⟩ := b
    show ((⟨x⟩ : Array UInt8) == ⟨y⟩) = _
    rw [Bool.eq_iff_iff]; simp
  simp [Op.equalIn, run_underlying h, this]
def EqFs (P : Program) (d : Nat) (xs ys : List Value) : List Field → Bool → Prop
  | [], b => b = true
  | f :: r, b => ∃ bb k l1 l2 b1 b2, f.name ≠ "_" ∧ TF P f.type bb k ∧ cut xs f.offset k = l1 ∧ cut ys f.offset k = l2 ∧ l1.length = k ∧ l2.length = k ∧ (bb = false → k = 1) ∧ EqOf P d f.type (valAt bb l1) (valAt bb l2) b1 ∧ EqFs P d xs ys r b2 ∧ b = (b1 && b2)
theorem EqFs.cons {d xs ys} {f : Field} {r bb k l1 l2 b1 b2} (hn : f.name ≠ "_") (hT : TF P f.type bb k) (h1 : cut xs f.offset k = l1) (h2 : cut ys f.offset k = l2) (h3 : l1.length = k) (h4 : l2.length = k) (hb : bb = false → k = 1)
    (he : EqOf P d f.type (valAt bb l1) (valAt bb l2) b1) (hr : EqFs P d xs ys r b2) : EqFs P d xs ys (f :: r) (b1 && b2) := ⟨bb, k, l1, l2, b1, b2, hn, hT, h1, h2, h3, h4, hb, he, hr, rfl⟩
theorem EqFs.nil {d xs ys} : EqFs P d xs ys [] true := rfl

theorem EqOf.struct {d t b} {xs ys : List Value} {fs : List Field} (ht : P.underlying t = some (.struct fs.toArray)) (hp : P.stoodInHeld t = false) (h : EqFs P d xs ys fs b) : EqOf P (d + 1) t (.agg xs.toArray) (.agg ys.toArray) b := fun w => by
  simp only [Op.equalIn, Sem.run_bind, run_underlying ht, Result.andThen_ok, run_program, hp, Bool.false_eq_true, if_false]
  rw [← Array.forIn_toList]
  clear ht
  simp only [List.toList_toArray]
  induction fs generalizing b with
  | nil => simp only [EqFs] at h; simp [h]
  | cons f fs ih =>
    obtain ⟨bb, k, l1, l2, b1, b2, hn, hT, h1, h2, h3, h4, hb, he, hr, rfl⟩ := h
    simp only [List.forIn_cons, Sem.run_bind, Sem.run_ite]
    rw [if_pos hn]
    simp only [Sem.run_bind, run_part hT h1 h3 hb, run_part hT h2 h4 hb, Result.andThen_ok, he w]
    cases b1 with
    | false => simp
    | true =>
      simp only [Bool.not_true, Bool.false_eq_true, if_false, Sem.run_pure, Result.andThen_ok, Bool.true_and]
      exact ih hr

theorem EqOf.array {d t e bb k} {n : Nat} {xs ys : List Value} {f : Nat → Bool} {g1 g2 : Nat → List Value} (ht : P.underlying t = some (.array n e)) (hT : TF P e bb k) (hb : bb = false → k = 1)
    (h1 : ∀ i, i < n → cut xs (i * k) k = g1 i ∧ (g1 i).length = k) (h2 : ∀ i, i < n → cut ys (i * k) k = g2 i ∧ (g2 i).length = k)
    (h : ∀ i, i < n → EqOf P d e (valAt bb (g1 i)) (valAt bb (g2 i)) (f i)) : EqOf P (d + 1) t (.agg xs.toArray) (.agg ys.toArray) ((List.range n).all f) := fun w => by
  simp only [Op.equalIn, Sem.run_bind, run_underlying ht, Result.andThen_ok, hT.size, Std.Legacy.Range.forIn_eq_forIn_range', Std.Legacy.Range.size, Nat.sub_zero, Nat.add_one_sub_one, Nat.div_one]
  rw [List.range_eq_range']
  have hmem : ∀ i ∈ List.range' 0 n, i < n := fun i hi => by simp at hi; omega
  generalize List.range' 0 n = is at *
  induction is with
  | nil => simp
  | cons j is ih =>
    have hj := hmem j (by simp)
    obtain ⟨c1, l1⟩ := h1 j hj
    obtain ⟨c2, l2⟩ := h2 j hj
    simp only [List.forIn_cons, Sem.run_bind, run_part hT c1 l1 hb, run_part hT c2 l2 hb, Result.andThen_ok, h j hj w, List.all_cons]
    cases f j with
    | false => simp
    | true =>
      simp only [Bool.not_true, Bool.false_eq_true, if_false, Sem.run_pure, Result.andThen_ok, Bool.true_and]
      exact ih (fun i hi => hmem i (by simp [hi]))

theorem PV.eqlAgg {fr m Φ d ty pos af gd t u x y b} {xs ys : List Value} (hg : P.eqGuardType P.depth t = false) (hx : ev fr x = some (.agg xs.toArray)) (hy : ev fr y = some (.agg ys.toArray)) (h : EqOf P 10000 t (.agg xs.toArray) (.agg ys.toArray) b) :
    PV P fr m Φ ⟨d, .binOp .eql t x y u, ty, pos, af, gd⟩ (.bool b) := fun a n w hf _ _ => by
  simp [execOp, hf.ev hx, hf.ev hy, run_eqGuard_agg w .eql t x y _ _ hg, run_eql_struct, h w]
theorem PV.neqAgg {fr m Φ d ty pos af gd t u x y b} {xs ys : List Value} (hg : P.eqGuardType P.depth t = false) (hx : ev fr x = some (.agg xs.toArray)) (hy : ev fr y = some (.agg ys.toArray)) (h : EqOf P 10000 t (.agg xs.toArray) (.agg ys.toArray) b) :
    PV P fr m Φ ⟨d, .binOp .neq t x y u, ty, pos, af, gd⟩ (.bool (!b)) := fun a n w hf _ _ => by
  simp [execOp, hf.ev hx, hf.ev hy, run_eqGuard_agg w .neq t x y _ _ hg, run_neq_struct, h w]

/-! ## Building -/
def flat (vs : List Value) : List Value := vs.flatMap (fun v => v.cells.toList)
theorem foldl_set (l : List Value) : ∀ (A : List Value) (off j : Nat), off + j + l.length ≤ A.length →
    ((l.zipIdx j).foldl (fun cs (p : Value × Nat) => cs.setIfInBounds (off + p.2) p.1) A.toArray) = (wr A (off + j) l).toArray := by
  induction l with
  | nil => intro A off j _; rfl
  | cons v r ih =>
    intro A off j h
    simp only [List.length_cons] at h
    simp only [List.zipIdx_cons, List.foldl_cons, wr]
    rw [show A.toArray.setIfInBounds (off + j) v = (A.set (off + j) v).toArray by simp]
    rw [ih (A.set (off + j) v) off (j + 1) (by simp; omega), Nat.add_assoc]

theorem fill_step (place : Nat → Option (Nat × Nat)) {i off k : Nat} {A : List Value} {v : Value} {rest} (hp : place i = some (off, k)) (hk : v.cells.toList.length = k) (ho : off + k ≤ A.length) :
    Instr.fill place A.toArray ((i, v) :: rest) = Instr.fill place (wr A off v.cells.toList).toArray rest := by
  have hs : v.cells.size = k := by simpa using hk
  rw [Instr.fill, hp]
  simp only
  rw [if_neg (by simp [hs]; omega)]
  congr 1
  have h2 := foldl_set v.cells.toList A off 0 (by omega)
  simp only [Nat.add_zero] at h2
  rw [← h2]
  rw [← Array.foldl_toList]
  simp [Array.toList_zipIdx]

/-- fields laid one by one: (the field's number, its place, its size) -/
def bld : List (Nat × Nat × Nat) → List Value → List Value → List Value
  | (_, off, _) :: r, v :: vs, A => bld r vs (wr A off v.cells.toList)
  | _, _, A => A
def bldOk (n : Nat) : List (Nat × Nat × Nat) → List Value → Prop
  | (_, off, k) :: r, v :: vs => v.cells.toList.length = k ∧ Nat.ble (off + k) n = true ∧ bldOk n r vs
  | [], [] => True
  | _, _ => False
theorem fill_bld (place : Nat → Option (Nat × Nat)) : ∀ (ps : List (Nat × Nat × Nat)) (vs A : List Value), (∀ p ∈ ps, place p.1 = some p.2) → bldOk A.length ps vs →
    Instr.fill place A.toArray ((ps.map (·.1)).zip vs) = some (bld ps vs A).toArray := by
  intro ps
  induction ps with
  | nil => intro vs A _ h; cases vs with | nil => rfl | cons _ _ => exact h.elim
  | cons p r ih =>
    intro vs A hp h
    obtain ⟨i, off, k⟩ := p
    cases vs with
    | nil => exact h.elim
    | cons v vs =>
      obtain ⟨h1, h2, h3⟩ := h
      simp only [List.map_cons, List.zip_cons_cons]
      rw [fill_step place (hp (i, off, k) (by simp)) h1 (Nat.le_of_ble_eq_true h2), ih vs _ (fun q hq => hp q (by simp [hq])) (by rw [wr_length]; exact h3)]
      rfl

/-- what a type's fields are -/
structure BT (P : Program) (t : TypeId) (zero : List Value) (place : Nat → Option (Nat × Nat)) : Prop where
  build : ∀ (parts : Array (Nat × Value)) (cells : Array Value) w, Instr.fill place zero.toArray parts.toList = some cells → (Instr.build t parts).run P w = .ok (.agg cells) w
theorem BT.mkS {t zero fs} {places : Array (Nat × Nat)} (hz : ∀ w, (zeroValue t).run P w = .ok (.agg (List.toArray zero)) w) (hu : P.underlying t = some (.struct fs))
    (hpl : ∀ w, (fs.mapM (m := Sem) fun f => do pure (f.offset, ← sizeOf f.type)).run P w = .ok places w) : BT P t zero (fun i => places[i]?) := ⟨fun parts cells w h => by
  have hu' : ∀ w, (underlying t).run P w = .ok (.struct fs) w := fun w => by simp [underlying, hu]
  simp only [Instr.build, Sem.run_bind, hz, hu', Result.andThen_ok, hpl, Value.cells, h, Sem.run_pure]⟩
theorem BT.mkA {t zero e n k} (hz : ∀ w, (zeroValue t).run P w = .ok (.agg (List.toArray zero)) w) (hu : P.underlying t = some (.array n e))
    (hk : ∀ w, (sizeOf e).run P w = .ok k w) : BT P t zero (fun i => some (i * k, k)) := ⟨fun parts cells w h => by
  have hu' : ∀ w, (underlying t).run P w = .ok (.array n e) w := fun w => by simp [underlying, hu]
  simp only [Instr.build, Sem.run_bind, hz, hu', Result.andThen_ok, hk, Value.cells, h, Sem.run_pure]⟩

theorem PV.build {fr m Φ d ty pos af gd t zero place} {ixs : List (Nat × Operand)} {xs : List Operand} {vs : List Value} (ps : List (Nat × Nat × Nat)) (hB : BT P t zero place) (hxs : ixs.map (·.2) = xs) (hi : ixs.map (·.1) = ps.map (·.1))
    (hv : evs fr xs = some vs) (hp : ∀ p ∈ ps, place p.1 = some p.2) (ho : bldOk zero.length ps vs) : PV P fr m Φ ⟨d, .build t ixs.toArray, ty, pos, af, gd⟩ (.agg (bld ps vs zero).toArray) := fun a n w hf _ _ => by
  have he := hf.evs hv
  have hparts : (ixs.toArray.map fun (p : Nat × Operand) => (p.1, a.eval p.2)).toList = (ps.map (·.1)).zip vs := by
    rw [← hi, ← he, ← hxs]
    simp [List.zip_map, List.map_map]
    clear hi hxs he hv
    induction ixs with
    | nil => rfl
    | cons p r ih => simp [ih]
  have := hB.build (ixs.toArray.map fun (p : Nat × Operand) => (p.1, a.eval p.2)) _ w (by rw [hparts]; exact fill_bld place ps vs zero hp ho)
  simp only [execOp, Sem.run_bind, this, Result.andThen_ok, Sem.run_pure]

theorem zip_fill (k : Nat) : ∀ (vs done rest : List Value) (i : Nat), (∀ v ∈ vs, v.cells.toList.length = k) → done.length = i * k → rest.length = vs.length * k →
    Instr.fill (fun i => some (i * k, k)) (done ++ rest).toArray ((vs.zipIdx i).map fun p => (p.2, p.1)) = some (done ++ flat vs).toArray := by
  intro vs
  induction vs with
  | nil => intro done rest i _ _ hr; simp at hr; subst hr; simp [Instr.fill, flat]
  | cons v vs ih =>
    intro done rest i hv hd hr
    simp only [List.length_cons] at hr
    have hvk := hv v (by simp)
    have hmul : (vs.length + 1) * k = vs.length * k + k := Nat.succ_mul _ _
    simp only [List.zipIdx_cons, List.map_cons]
    rw [fill_step (fun i => some (i * k, k)) rfl hvk (by simp; omega)]
    have hw : ∀ (l D R : List Value), l.length ≤ R.length → wr (D ++ R) D.length l = D ++ l ++ R.drop l.length := by
      intro l
      induction l with
      | nil => intro D R _; simp [wr]
      | cons x l ihl =>
        intro D R hR
        cases R with
        | nil => simp at hR
        | cons y R =>
          simp only [List.length_cons] at hR
          simp only [wr]
          rw [show (D ++ y :: R).set D.length x = (D ++ [x]) ++ R by simp]
          have := ihl (D ++ [x]) R (by omega)
          simp only [List.length_append, List.length_cons, List.length_nil, Nat.zero_add] at this
          rw [this]; simp
    rw [← hd, hw _ _ _ (by omega)]
    have := ih (done ++ v.cells.toList) (rest.drop v.cells.toList.length) (i + 1) (fun u hu => hv u (by simp [hu])) (by simp [hvk, hd, Nat.succ_mul] at *) (by rw [List.length_drop]; omega)
    rw [this]
    simp [flat]

theorem EV.buildSlice {n fr m Φ d ty pos af gd t e k len z} {ixs : List (Nat × Operand)} {xs : List Operand} {vs : List Value} (hsmall : Nat.ble (len * k) 16777216 = true) (hu : P.underlying t = some (.slice e)) (hk : ∀ w, (sizeOf e).run P w = .ok k w) (hz : ∀ w, (zeroValue e).run P w = .ok z w)
    (hixs : ixs = (xs.zipIdx 0).map fun p => (p.2, p.1)) (hv : evs fr xs = some vs) (hlen : vs.length = len) (hcs : vs.map (fun v => v.cells.toList.length) = vs.map (fun _ => k)) :
    EV P n fr m Φ ⟨d, .buildSlice t len ixs.toArray, ty, pos, af, gd⟩ (fun v' m' Φ' => ∃ g, v' = .slice (some ⟨g, 0, none⟩) len len ∧ m' = m ++ [.blk g (flat vs)] ∧ Φ' = Φ) := fun a w next Q hf hm hs hkk => by
  have he := hf.evs hv
  have hu' : ∀ w, (underlying t).run P w = .ok (.slice e) w := fun w => by simp [underlying, hu]
  have hcell : ∀ v ∈ vs, v.cells.toList.length = k := by
    intro v hv'
    have := List.map_inj_left.1 hcs v hv'
    exact this
  have hparts : (ixs.toArray.map fun (p : Nat × Operand) => (p.1, a.eval p.2)).toList = (vs.zipIdx 0).map fun p => (p.2, p.1) := by
    rw [hixs, ← he]
    simp [List.zipIdx_map, List.map_map, Function.comp_def]
  have hr : (execOp a.eval ⟨d, .buildSlice t len ixs.toArray, ty, pos, af, gd⟩).run P w = .ok (.value (.slice (some ⟨w.heap.size, 0, none⟩) len len)) (w.alloc (.cells (flat vs).toArray e)) := by
    have hfill : ∀ (R : List Value), R.length = len * k → Instr.fill (fun i => some (i * k, k)) R.toArray ((vs.zipIdx 0).map fun p => (p.2, p.1)) = some (flat vs).toArray := fun R hR => by
      have := zip_fill k vs [] R 0 hcell (by simp) (by rw [hR, hlen])
      simpa using this
    have hle := Nat.le_of_ble_eq_true hsmall
    simp only [execOp, Instr.buildSlice, Sem.run_bind, hu', hk, Result.andThen_ok, Sem.run_ite]
    rw [if_neg (by omega)]
    by_cases h0 : len * k = 0
    · have := hfill ((Array.range 0).map (fun x => (#[] : Array Value)[x % (#[] : Array Value).size]!)).toList (by simp [h0])
      simp only [Array.toArray_toList] at this
      simp only [h0, if_true, Sem.run_pure, Result.andThen_ok, hparts]
      rw [this]
      simp [newRow]
    · have := hfill ((Array.range (len * k)).map (z.cells[· % z.cells.size]!)).toList (by simp)
      simp only [Array.toArray_toList] at this
      simp only [h0, if_false, Sem.run_bind, hz, Sem.run_pure, Result.andThen_ok, hparts]
      rw [this]
      simp [newRow]
  simp only [Oper.wp, hr, Oper.upon]
  obtain ⟨h1, h2⟩ := new_block hm hs (flat vs) e
  exact hkk _ _ _ _ ⟨w.heap.size, rfl, rfl, rfl⟩ h1 h2
end
end Go.Sx
namespace Go.Sx
section
variable {P : Program} {n : Nat} {fr : Fr} {m : Mem} {Φ : World → Prop} {d : Option Tmp} {ty : TypeId} {pos : String} {af : Array Edge} {gd : Option (Nat × Bool)}
/-- a store, with what the block is then -/
theorem EV.storeB {x y t k g o b} {A B : List Value} {v : Value} (i : Nat) (hT : TF P t b k) (hx : ev fr x = some (.pointer (some ⟨g, o, none⟩))) (hy : ev fr y = some v) (hm : m[i]? = some (.blk g A))
    (hk : v.cells.toList.length = k) (hone : allOne v.cells.toList = true) (hlen : o + k ≤ A.length) (hB : wr A o v.cells.toList = B) :
    EV P n fr m Φ ⟨d, .store t x y, ty, pos, af, gd⟩ (fun v' m' Φ' => v' = undef ∧ m' = m.set i (.blk g B) ∧ Φ' = Φ) := by
  subst hB; exact EV.store i hT hx hy hm hk hone hlen
end
end Go.Sx
/-! ## Slices that are read -/
namespace Go.Sx
/-- a slice's value reads as a list -/
def SlE {α : Type} (enc : α → List Value) (sz : Nat) (w : World) (s : Value) (l : List α) : Prop :=
  ∃ a cap, s = .slice a l.length cap ∧ (l = [] ∨ ∃ b o, a = some ⟨b, o, none⟩ ∧ ∀ i x, l[i]? = some x → RowAt w b (o + i * sz) (enc x))
/-- .. out of memory from block B on -/
def SlN {α : Type} (B : Nat) (enc : α → List Value) (sz : Nat) (w : World) (s : Value) (l : List α) : Prop :=
  ∃ a cap, s = .slice a l.length cap ∧ (l = [] ∨ ∃ b o, a = some ⟨b, o, none⟩ ∧ B ≤ b ∧ ∀ i x, l[i]? = some x → RowAt w b (o + i * sz) (enc x))
section
variable {α : Type} {enc : α → List Value} {sz B : Nat} {w w' : World} {s : Value} {l : List α}
theorem SlN.sl (h : SlN B enc sz w s l) : SlE enc sz w s l := by
  obtain ⟨a, cap, e, h⟩ := h
  exact ⟨a, cap, e, h.imp id fun ⟨b, o, e, _, h⟩ => ⟨b, o, e, h⟩⟩
theorem SlE.old (h : SlE enc sz w s l) (e : Ext No w w') : SlE enc sz w' s l := by
  obtain ⟨a, cap, e1, h⟩ := h
  exact ⟨a, cap, e1, h.imp id fun ⟨b, o, e2, h⟩ => ⟨b, o, e2, fun i x hx => (h i x hx).ext e (fun _ x => x)⟩⟩
theorem SlN.mono {B' : Nat} (h : SlN B enc sz w s l) (hB : B' ≤ B) : SlN B' enc sz w s l := by
  obtain ⟨a, cap, e, h⟩ := h
  exact ⟨a, cap, e, h.imp id fun ⟨b, o, e, hb, h⟩ => ⟨b, o, e, Nat.le_trans hB hb, h⟩⟩
theorem SlN.ext {X : Nat → Prop} (h : SlN B enc sz w s l) (e : Ext X w w') (hX : ∀ b, B ≤ b → ¬ X b) : SlN B enc sz w' s l := by
  obtain ⟨a, cap, e1, h⟩ := h
  exact ⟨a, cap, e1, h.imp id fun ⟨b, o, e2, hb, h⟩ => ⟨b, o, e2, hb, fun i x hx => (h i x hx).ext e (fun _ => hX b hb)⟩⟩
theorem SlN.sup {X : Nat → Prop} (h : SlN B enc sz w s l) (hX : ∀ b, B ≤ b → ¬ X b) : Sup (fun w => SlN B enc sz w s l) X w := fun _ e => h.ext e hX
theorem SlN.own (h : SlN B enc sz w s l) : Own B (fun w => SlN B enc sz w s l) w := fun _ e => h.ext e (fun b hb hx => absurd hx (Nat.not_lt.2 hb))
theorem SlE.nil (w : World) (cap : Nat) : SlE enc sz w (.slice none 0 cap) [] := ⟨none, cap, rfl, .inl rfl⟩
theorem SlN.nil (w : World) (cap : Nat) : SlN B enc sz w (.slice none 0 cap) [] := ⟨none, cap, rfl, .inl rfl⟩
theorem flat_cut (enc : α → List Value) (sz : Nat) (hsz : ∀ x, (enc x).length = sz) : ∀ (l : List α) (i : Nat) (x : α), l[i]? = some x → cut (l.flatMap enc) (i * sz) sz = enc x := by
  intro l
  induction l with
  | nil => intro i x h; simp at h
  | cons y r ih =>
    intro i x h
    cases i with
    | zero => simp at h; subst h; simp [cut, ← hsz y]
    | succ i =>
      have := ih i x (by simpa using h)
      simp only [cut, List.flatMap_cons] at *
      rw [List.drop_append, hsz, show (i + 1) * sz - sz = i * sz by rw [Nat.succ_mul]; omega, List.drop_of_length_le (by rw [hsz, Nat.succ_mul]; omega), List.nil_append]
      exact this
/-- a block that was laid out of a list -/
theorem SlE.ofBlock {m : Mem} {i g : Nat} {A : List Value} {cap : Nat} (hsz : ∀ x, (enc x).length = sz) (hm : MemOk m w) (hi : m[i]? = some (.blk g A)) (hA : A = l.flatMap enc) : SlE enc sz w (.slice (some ⟨g, 0, none⟩) l.length cap) l := by
  refine ⟨_, cap, rfl, .inr ⟨g, 0, rfl, fun j x hx => ?_⟩⟩
  have := hm.row hi (j * sz) sz
  rw [hA, flat_cut enc sz hsz l j x hx] at this
  rwa [Nat.zero_add]
end
end Go.Sx
namespace Go.Sx
section
variable {P : Program} {n : Nat} {fr : Fr} {m : Mem} {Φ : World → Prop} {d : Option Tmp} {ty : TypeId} {pos : String} {af : Array Edge} {gd : Option (Nat × Bool)}

/-- a callee that hands back new memory: what it hands back is the caller's own -/
theorem CallK.new {f args} {R : Value → Mem → Prop} (h : ∀ w, MemOk m w → Φ w → Calls P f (List.toArray args) w fun e w' => ∃ v es, e = .returned v ∧ R v es ∧ MemOk es w' ∧ (∀ g, gs es g → w.heap.size ≤ g) ∧ Ext No w w') :
    CallK P f args m Φ (fun v' m' Φ' => ∃ es, R v' es ∧ m' = m ++ es ∧ Φ' = Φ) := fun w hm hs => (h w hm hs.out).mono fun _ w' ⟨v, es, he, hR, hes, hge, hx⟩ => by
  refine ⟨v, _, Φ, he, ⟨es, hR, rfl, rfl⟩, (hm.ext hx (fun _ _ x => x)).push hes.ok hes.nodup (fun g hg hgm => absurd (hm.lt hgm) (Nat.not_lt.2 (hge g hg))), ?_⟩
  refine hs.step hx (fun _ _ x => x.elim) ?_
  intro k hk hA
  unfold gs at hA
  rw [bsAll, List.flatMap_append] at hA
  rcases List.mem_append.1 hA with h | h
  · exact h
  · exact absurd hk (Nat.not_lt.2 (hge k h))

/-- a call of a function's value -/
theorem EV.callV {t f xs ts vs} {caps : List Value} {K : Value → Mem → (World → Prop) → Prop} (hc : ∀ args w, (callFunc f args).run P w = .ok (.enter f args) w) (hf : look fr t = some (.func (.func f) #[] caps.toArray)) (hv : evs fr xs = some vs) (h : CallK P f (vs ++ caps) m Φ K) :
    EV P n fr m Φ ⟨d, .call ⟨.value (.tmp t), xs.toArray, ts⟩, ty, pos, af, gd⟩ K := fun a w next Q hfit hm hs hk => by
  have he := hfit.evs hv
  have hf' : a.eval (.tmp t) = .func (.func f) #[] caps.toArray := hfit.ev (x := .tmp t) hf
  have hr : (execOp a.eval ⟨d, .call ⟨.value (.tmp t), xs.toArray, ts⟩, ty, pos, af, gd⟩).run P w = .ok (.enter f (vs ++ caps).toArray) w := by
    simp only [execOp, resolve, hf', Deferred.ofValue, Sem.run_bind, Sem.run_pure, Result.andThen_ok, invoke, List.map_toArray, he]
    simp [hc]
  simp only [Oper.wp, hr, Oper.upon]
  refine (h w hm hs).mono ?_
  rintro e w' ⟨v, m', Φ', rfl, hK, hm', hs'⟩
  exact hk v m' Φ' w' hK hm' hs'

theorem PV.makeFunc {f : Fn} {xs ys vs us} (hx : evs fr xs = some vs) (hy : evs fr ys = some us) : PV P fr m Φ ⟨d, .makeFunc f xs.toArray ys.toArray, ty, pos, af, gd⟩ (.func f vs.toArray us.toArray) := fun a n w hf _ _ => by
  simp [execOp, Instr.makeFunc, hf.evs hx, hf.evs hy]
theorem PV.convTo {x t u k k'} {p q : Int} (hu : P.underlying u = some (.int k')) (ht : ∃ tt, P.underlying t = some tt) (hx : ev fr x = some (.int k p)) (hq : k'.wrap p = q) : PV P fr m Φ ⟨d, .convert t u x, ty, pos, af, gd⟩ (.int k' q) := by
  subst hq; exact PV.conv hu ht hx
theorem PV.shrTo {x y t u k k'} {p q r : Int} (hx : ev fr x = some (.int k p)) (hy : ev fr y = some (.int k' q)) (h0 : 0 ≤ q) (hr : p.fdiv (2 ^ (Min.min q.toNat k.bits)) = r) : PV P fr m Φ ⟨d, .binOp .shr t x y u, ty, pos, af, gd⟩ (.int k r) := fun a n w hf _ _ => by
  simp [execOp, hf.ev hx, hf.ev hy, eqGuard_int, binOp, Op.shift, Int.not_lt.2 h0, hr]
theorem PV.to {o : Oper} {v v' : Value} (h : PV P fr m Φ o v) (e : v = v') : PV P fr m Φ o v' := e ▸ h
theorem PV.eqlStr {x y t u} {p q : ByteArray} (hx : ev fr x = some (.string p)) (hy : ev fr y = some (.string q)) : PV P fr m Φ ⟨d, .binOp .eql t x y u, ty, pos, af, gd⟩ (.bool (decide (p = q))) := fun a n w hf _ _ => by
  have : (p.toList == q.toList) = decide (p = q) := by
    rw [← beq_toListBytes]
    obtain ⟨⟨x⟩⟩ := p
    obtain ⟨⟨y⟩⟩ := q
    show ((⟨x⟩ : Array UInt8) == ⟨y⟩) = _
    rw [Bool.eq_iff_iff]; simp
  simp [execOp, hf.ev hx, hf.ev hy, eqGuard, binOp, Op.stringOp, this]
theorem PV.neqStr {x y t u} {p q : ByteArray} (hx : ev fr x = some (.string p)) (hy : ev fr y = some (.string q)) : PV P fr m Φ ⟨d, .binOp .neq t x y u, ty, pos, af, gd⟩ (.bool (decide (p ≠ q))) := fun a n w hf _ _ => by
  have : (p.toList == q.toList) = decide (p = q) := by
    rw [← beq_toListBytes]
    obtain ⟨⟨x⟩⟩ := p
    obtain ⟨⟨y⟩⟩ := q
    show ((⟨x⟩ : Array UInt8) == ⟨y⟩) = _
    rw [Bool.eq_iff_iff]; simp
  simp [execOp, hf.ev hx, hf.ev hy, eqGuard, binOp, Op.stringOp, this]
theorem run_eq_ptr {t e a'} (hu : P.underlying t = some (.pointer e)) (w : World) : (Op.equal t (.pointer a') (.pointer none)).run P w = .ok a'.isNone w := by
  have key : ∀ d, (Op.equalIn (d + 1) t (.pointer a') (.pointer none)).run P w = .ok a'.isNone w := fun d => by
    cases a' <;> simp [Op.equalIn, run_underlying hu]
  exact key 9999
theorem PV.eqlPtr {x y t u e a'} (hu : P.underlying t = some (.pointer e)) (hx : ev fr x = some (.pointer a')) (hy : ev fr y = some (.pointer none)) : PV P fr m Φ ⟨d, .binOp .eql t x y u, ty, pos, af, gd⟩ (.bool a'.isNone) := fun a n w hf _ _ => by
  have h1 : (eqGuard .eql t x y (.pointer a') (.pointer none)).run P w = .ok () w := by cases a' <;> rfl
  have h2 : binOp .eql t (.pointer a') (.pointer none) = (do pure (.bool (← Op.equal t (.pointer a') (.pointer none)))) := by cases a' <;> rfl
  simp [execOp, hf.ev hx, hf.ev hy, h1, h2, run_eq_ptr hu w]
theorem PV.neqPtr {x y t u e a'} (hu : P.underlying t = some (.pointer e)) (hx : ev fr x = some (.pointer a')) (hy : ev fr y = some (.pointer none)) : PV P fr m Φ ⟨d, .binOp .neq t x y u, ty, pos, af, gd⟩ (.bool (!a'.isNone)) := fun a n w hf _ _ => by
  have h1 : (eqGuard .neq t x y (.pointer a') (.pointer none)).run P w = .ok () w := by cases a' <;> rfl
  have h2 : binOp .neq t (.pointer a') (.pointer none) = (do pure (.bool (!(← Op.equal t (.pointer a') (.pointer none))))) := by cases a' <;> rfl
  simp [execOp, hf.ev hx, hf.ev hy, h1, h2, run_eq_ptr hu w]

/-- a row of one's own, read -/
theorem ownsRow_at {w : World} {B e size : Nat} {g o k n cap : Nat} {xs : List Value} (h : w.ownsRow B e size (.slice (some ⟨g, 0, none⟩) n cap) n xs) (hk : o + k ≤ xs.length) : RowAt w g o (cut xs o k) := by
  rcases h.2 with ⟨hn, _⟩ | ⟨g', cap', cur, hv, hb, hg, h1, h2, h3, h4⟩
  · cases hn
  · cases hv
    intro i v hv
    simp only [cut, List.getElem?_take] at hv
    split at hv
    · simp only [List.getElem?_drop] at hv
      rw [← h4, List.getElem?_take] at hv
      split at hv
      · simp [World.cell?, hg]; simpa using hv
      · simp at hv
    · simp at hv
theorem PV.loadR {x t k g o bb e size nn cap} {xs l : List Value} (i : Nat) (hT : TF P t bb k) (hx : ev fr x = some (.pointer (some ⟨g, o, none⟩))) (hm : m[i]? = some (.row e size (.slice (some ⟨g, 0, none⟩) nn cap) nn xs)) (hl : cut xs o k = l) (hle : o + k ≤ xs.length) (hlen : l.length = k) (hb : bb = false → k = 1) :
    PV P fr m Φ ⟨d, .load t x, ty, pos, af, gd⟩ (valAt bb l) := PV.loadE hT hx (fun w hm' _ => by have := ownsRow_at (hm'.rowAt hm) hle; rwa [hl] at this) hlen hb

theorem set_new {N : Nat} {e e' : Ent} (hn' : e'.bs.Nodup) (hsub : ∀ g, g ∈ e'.bs → g ∈ e.bs ∨ N ≤ g) : ∀ {m : Mem} {i : Nat}, (bsAll m).Nodup → (∀ g, g ∈ bsAll m → g < N) → m[i]? = some e →
    (bsAll (m.set i e')).Nodup ∧ (∀ g, g ∈ bsAll (m.set i e') → g ∈ bsAll m ∨ N ≤ g) := by
  intro m
  induction m with
  | nil => intro i _ _ hi; simp at hi
  | cons x r ih =>
    intro i hn hlt hi
    have hn0 := hn
    rw [bsAll, List.flatMap_cons, List.nodup_append] at hn
    obtain ⟨h1, h2, h3⟩ := hn
    have hx : ∀ g, g ∈ x.bs → g < N := fun g hg => hlt g (mem_bsAll.2 ⟨x, by simp, hg⟩)
    have hr : ∀ g, g ∈ bsAll r → g < N := fun g hg => by obtain ⟨q, hq, hg⟩ := mem_bsAll.1 hg; exact hlt g (mem_bsAll.2 ⟨q, by simp [hq], hg⟩)
    cases i with
    | zero =>
      simp at hi; subst hi
      simp only [List.set_cons_zero]
      constructor
      · rw [bsAll, List.flatMap_cons, List.nodup_append]
        refine ⟨hn', h2, ?_⟩
        intro a ha b hb e
        subst e
        rcases hsub a ha with h | h
        · exact h3 a h a hb rfl
        · exact absurd (hr a hb) (Nat.not_lt.2 h)
      · intro g hg
        rw [bsAll, List.flatMap_cons] at hg
        rcases List.mem_append.1 hg with hg | hg
        · rcases hsub g hg with h | h
          · exact .inl (mem_bsAll.2 ⟨x, by simp, h⟩)
          · exact .inr h
        · obtain ⟨q, hq, hg⟩ := mem_bsAll.1 hg; exact .inl (mem_bsAll.2 ⟨q, by simp [hq], hg⟩)
    | succ i =>
      simp at hi
      obtain ⟨k1, k2⟩ := ih h2 hr hi
      simp only [List.set_cons_succ]
      constructor
      · rw [bsAll, List.flatMap_cons, List.nodup_append]
        refine ⟨h1, k1, ?_⟩
        intro a ha b hb e
        subst e
        rcases k2 a hb with h | h
        · exact h3 a ha a h rfl
        · exact absurd (hx a ha) (Nat.not_lt.2 h)
      · intro g hg
        rw [bsAll, List.flatMap_cons] at hg
        rcases List.mem_append.1 hg with hg | hg
        · exact .inl (mem_bsAll.2 ⟨x, by simp, hg⟩)
        · rcases k2 g hg with h | h
          · obtain ⟨q, hq, h⟩ := mem_bsAll.1 h; exact .inl (mem_bsAll.2 ⟨q, by simp [hq], h⟩)
          · exact .inr h

/-- an entry that may have gone to a new block -/
theorem MemOk.setNew {m : Mem} {Φ : World → Prop} {w w' : World} {i : Nat} {e e' : Ent} {X : Nat → Prop} (h : MemOk m w) (hs : Sup Φ (gs m) w) (hi : m[i]? = some e) (hx : Ext X w w') (hX : ∀ g, X g → g ∈ e.bs) (hn' : e'.bs.Nodup) (hb : ∀ g, g ∈ e'.bs → g ∈ e.bs ∨ w.heap.size ≤ g) (hok : e'.ok w') :
    MemOk (m.set i e') w' ∧ Sup Φ (gs (m.set i e')) w' := by
  obtain ⟨k1, k2⟩ := set_new hn' hb h.nodup (fun g hg => h.lt hg) hi
  refine ⟨⟨k1, ?_⟩, ?_⟩
  · intro en hm
    obtain ⟨j, hj⟩ := List.getElem?_of_mem hm
    rw [List.getElem?_set] at hj
    by_cases ee : i = j
    · subst ee
      have := (List.getElem?_eq_some_iff.1 hi).1
      simp [this] at hj
      subst hj; exact hok
    · simp [ee] at hj
      exact (h.ok en (List.mem_of_getElem? hj)).ext hx (fun g hg hXg => ee (nodup_at h.nodup hi hj (hX g hXg) hg))
  · refine hs.step hx (fun k _ hk => mem_bsAll.2 ⟨e, List.mem_of_getElem? hi, hX k hk⟩) ?_
    intro k hk hg
    rcases k2 k hg with h | h
    · exact h
    · exact absurd hk (Nat.not_lt.2 h)

/-- append to a row of one's own, out of cells that are known -/
theorem EV.appendE {s x t e size bytes gx ox kx cx nn} {i0 : TypeInfo} {z v : Value} {xs news : List Value} (i : Nat) (ht : P.underlying t = some (.slice e)) (hi0 : P.info? e = some i0) (hz : i0.zero = some z) (hsize : i0.size = size) (hby : i0.bytes = bytes)
    (hzs : z.cells.size = size) (hsz : 0 < size) (hs : ev fr s = some v) (hm : m[i]? = some (.row e size v nn xs)) (hx : ev fr x = some (.slice (some ⟨gx, ox, none⟩) kx cx)) (hsrc : ∀ w, MemOk m w → Φ w → RowAt w gx ox news) (hnl : news.length = kx * size)
    (h1 : allOne news = true) (hkx : 0 < kx) (h63 : nn + kx ≤ 9223372036854775807) (hbytes : (nn + kx) * bytes ≤ 140737488355328) :
    EV P n fr m Φ ⟨d, .call ⟨.builtin .append, #[s, x], #[t, t]⟩, ty, pos, af, gd⟩ (fun v' m' Φ' => ∃ g cap, v' = .slice (some ⟨g, 0, none⟩) (nn + kx) cap ∧ m' = m.set i (.row e size (.slice (some ⟨g, 0, none⟩) (nn + kx) cap) (nn + kx) (xs ++ news)) ∧ Φ' = Φ) := fun a w next Q hf hmo hsup hk => by
  have hown := hmo.rowAt hm
  have hrow := hsrc w hmo hsup.out
  refine wp_append_lies w s x t rfl 0 e i0 z size bytes ht hi0 hz hsize hby hzs hsz v nn xs (hf.ev hs) hown ⟨gx, ox, none⟩ kx cx news (hf.ev hx) hnl (fun q u hu => by rw [addr_add]; exact hrow q u hu) (by simpa [allOne] using h1) hkx (by unfold maxLen; omega) hbytes (Nat.zero_le _) _ rfl ?_
  intro g cap w' hown' hgrow hlie _
  have hX : Ext (fun b => v.ownBlock = some b) w w' := ⟨hgrow.os, hgrow.tape, hgrow.output, hgrow.size, fun k hk hx => hgrow.block k hk (fun e => hx e.symm)⟩
  obtain ⟨k1, k2⟩ := hmo.setNew (e' := .row e size (.slice (some ⟨g, 0, none⟩) (nn + kx) cap) (nn + kx) (xs ++ news)) hsup hm hX (fun b hb => by simp [Ent.bs, hb]) (by simp [Ent.bs, Value.ownBlock]) (by
    intro b hb
    simp [Ent.bs, Value.ownBlock] at hb
    subst hb
    rcases hlie with h | h
    · left; simp [Ent.bs, h]
    · right; omega) hown'
  exact hk _ _ Φ w' ⟨g, cap, rfl, rfl, rfl⟩ k1 k2
/-- append to a row of one's own, out of a known block -/
theorem EV.append {s x t e size bytes gx ox kx cx nn} {i0 : TypeInfo} {z v : Value} {xs A news : List Value} (i j : Nat) (ht : P.underlying t = some (.slice e)) (hi0 : P.info? e = some i0) (hz : i0.zero = some z) (hsize : i0.size = size) (hby : i0.bytes = bytes)
    (hzs : z.cells.size = size) (hsz : 0 < size) (hs : ev fr s = some v) (hm : m[i]? = some (.row e size v nn xs)) (hx : ev fr x = some (.slice (some ⟨gx, ox, none⟩) kx cx)) (hmx : m[j]? = some (.blk gx A)) (hnews : cut A ox (kx * size) = news) (hnl : news.length = kx * size)
    (h1 : allOne news = true) (hkx : 0 < kx) (h63 : nn + kx ≤ 9223372036854775807) (hbytes : (nn + kx) * bytes ≤ 140737488355328) :
    EV P n fr m Φ ⟨d, .call ⟨.builtin .append, #[s, x], #[t, t]⟩, ty, pos, af, gd⟩ (fun v' m' Φ' => ∃ g cap, v' = .slice (some ⟨g, 0, none⟩) (nn + kx) cap ∧ m' = m.set i (.row e size (.slice (some ⟨g, 0, none⟩) (nn + kx) cap) (nn + kx) (xs ++ news)) ∧ Φ' = Φ) :=
  EV.appendE i ht hi0 hz hsize hby hzs hsz hs hm hx (fun w hmo _ => by have := hmo.row hmx ox (kx * size); rwa [hnews] at this) hnl h1 hkx h63 hbytes

/-- a row of one's own that is nothing yet -/
theorem CW.row {c : Code} {Q : Exit → Act → World → Prop} (e size : Nat) (h : CW P n c Q fr (m ++ [.row e size (.slice none 0 0) 0 []]) Φ) : CW P n c Q fr m Φ := fun a w hs =>
  h a w ⟨hs.fits, hs.mem.push (by intro en hen; simp at hen; subst hen; exact World.ownsRow_nil w 0 e size) (by simp [bsAll, Ent.bs, Value.ownBlock]) (by simp [bsAll, Ent.bs, Value.ownBlock]),
    hs.sup.less (fun k _ hk => by unfold gs at *; rw [bsAll, List.flatMap_append] at hk; simpa [Ent.bs, Value.ownBlock, bsAll] using hk)⟩
theorem RO.row {ops : Array Oper} {C : Fr → Mem → (World → Prop) → Prop} {l : List Oper} (e size : Nat) (h : RO P ops n C l fr (m ++ [.row e size (.slice none 0 0) 0 []]) Φ) : RO P ops n C l fr m Φ := fun Q hq a w hs =>
  h Q hq a w ⟨hs.fits, hs.mem.push (by intro en hen; simp at hen; subst hen; exact World.ownsRow_nil w 0 e size) (by simp [bsAll, Ent.bs, Value.ownBlock]) (by simp [bsAll, Ent.bs, Value.ownBlock]),
    hs.sup.less (fun k _ hk => by unfold gs at *; rw [bsAll, List.flatMap_append] at hk; simpa [Ent.bs, Value.ownBlock, bsAll] using hk)⟩
/-- what a row's value looks like -/
theorem ownsRow_form {w : World} {B e size n : Nat} {v : Value} {xs : List Value} (h : w.ownsRow B e size v n xs) : (v = .slice none 0 0 ∧ n = 0 ∧ xs = []) ∨ ∃ g cap, v = .slice (some ⟨g, 0, none⟩) n cap := by
  have hl := h.1
  rcases h.2 with ⟨h1, h2⟩ | ⟨g, cap, cur, h1, _⟩
  · left; refine ⟨h1, h2, ?_⟩; subst h2; simp at hl; exact hl
  · exact .inr ⟨g, cap, h1⟩
theorem ownsRow_len {w : World} {B e size n : Nat} {v : Value} {xs : List Value} (h : w.ownsRow B e size v n xs) : xs.length = n * size := h.1
/-- a row of one's own reads as a list -/
theorem SlE.ofRow {α : Type} {enc : α → List Value} {w : World} {B e size : Nat} {v : Value} {l : List α} (hsz : ∀ x, (enc x).length = size) (h : w.ownsRow B e size v l.length (l.flatMap enc)) : SlE enc size w v l := by
  rcases ownsRow_form h with ⟨rfl, h2, h3⟩ | ⟨g, cap, rfl⟩
  · have : l = [] := List.length_eq_zero_iff.1 h2
    subst this
    exact SlE.nil w 0
  · refine ⟨_, cap, rfl, .inr ⟨g, 0, rfl, fun j x hx => ?_⟩⟩
    have hj := (List.getElem?_eq_some_iff.1 hx).1
    have hlen : (l.flatMap enc).length = l.length * size := h.1
    have hle : (j + 1) * size ≤ l.length * size := Nat.mul_le_mul_right _ hj
    rw [Nat.succ_mul] at hle
    have := ownsRow_at h (o := j * size) (k := size) (by omega)
    rw [flat_cut enc size hsz l j x hx] at this
    rwa [Nat.zero_add]
end
end Go.Sx
namespace Go.Sx
theorem PV.shr {P : Program} {fr m Φ d ty pos af gd x y t u k k'} {p q : Int} (hx : ev fr x = some (.int k p)) (hy : ev fr y = some (.int k' q)) (h0 : 0 ≤ q) : PV P fr m Φ ⟨d, .binOp .shr t x y u, ty, pos, af, gd⟩ (.int k (p.fdiv (2 ^ (Min.min q.toNat k.bits)))) := PV.shrTo hx hy h0 rfl
end Go.Sx
namespace Go.Sx
theorem RowAt.sub {w : World} {b o : Nat} {l : List Value} (h : RowAt w b o l) (j k : Nat) : RowAt w b (o + j) (cut l j k) := by
  intro i v hv
  simp only [cut, List.getElem?_take] at hv
  split at hv
  · simp only [List.getElem?_drop] at hv
    rw [Nat.add_assoc]; exact h (j + i) v hv
  · simp at hv
end Go.Sx

/-! ## Rows laid open; copy; append of zeros; what is fresh -/
namespace Go.Sx
section
variable {P : Program} {n : Nat} {fr : Fr} {m : Mem} {Φ : World → Prop} {Q : Exit → Act → World → Prop} {d : Option Tmp} {ty : TypeId} {pos : String} {af : Array Edge} {gd : Option (Nat × Bool)}

/-- what is known told otherwise -/
theorem CW.reMem {c : Code} {X : Type} (m' : X → Mem) (hX : ∀ w, MemOk m w → ∃ x, MemOk (m' x) w ∧ ∀ g, gs (m' x) g → gs m g) (h : ∀ x, CW P n c Q fr (m' x) Φ) : CW P n c Q fr m Φ := fun a w hs => by
  obtain ⟨x, h1, h2⟩ := hX w hs.mem
  exact h x a w ⟨hs.fits, h1, hs.sup.less (fun k _ hk => h2 k hk)⟩
theorem RO.reMem {ops : Array Oper} {C : Fr → Mem → (World → Prop) → Prop} {l : List Oper} {X : Type} (m' : X → Mem) (hX : ∀ w, MemOk m w → ∃ x, MemOk (m' x) w ∧ ∀ g, gs (m' x) g → gs m g) (h : ∀ x, RO P ops n C l fr (m' x) Φ) : RO P ops n C l fr m Φ := fun Q hq a w hs => by
  obtain ⟨x, h1, h2⟩ := hX w hs.mem
  exact h x Q hq a w ⟨hs.fits, h1, hs.sup.less (fun k _ hk => h2 k hk)⟩

/-- a row laid open -/
structure Spare (size n cap : Nat) (xs : List Value) where
  sp : List Value
  len : (xs ++ sp).length = cap * size
  le : n ≤ cap
  max : cap ≤ 9223372036854775807
theorem open_row {w : World} {e size n cap g : Nat} {xs : List Value} (i : Nat) (hi : m[i]? = some (.row e size (.slice (some ⟨g, 0, none⟩) n cap) n xs)) (h : MemOk m w) :
    ∃ x : Spare size n cap xs, MemOk (m.set i (.opn e g (xs ++ x.sp))) w ∧ ∀ k, gs (m.set i (.opn e g (xs ++ x.sp))) k → gs m k := by
  have hr := h.rowAt hi
  rcases hr.2 with ⟨hn, _⟩ | ⟨g', cap', cur, hv, hb, hg, h1, h2, h3, h4⟩
  · cases hn
  · cases hv
    have hcur : xs ++ cur.toList.drop (n * size) = cur.toList := by rw [← h4, List.take_append_drop]
    refine ⟨⟨cur.toList.drop (n * size), by rw [hcur]; simpa using h3, h1, h2⟩, ?_, ?_⟩
    · refine h.set (X := No) hi (Ext.refl _ _) (fun _ hx => hx.elim) rfl ?_
      show w.heap[g]? = _
      rw [hcur, hg]
    · intro k hk
      unfold gs at *
      rwa [bsAll_set (e' := .opn e g _) hi rfl] at hk
/-- .. and shut -/
theorem shut_row {w : World} {e size cap g : Nat} {A : List Value} (i n : Nat) (hi : m[i]? = some (.opn e g A)) (hl : A.length = cap * size) (hn : n ≤ cap) (hc : cap ≤ 9223372036854775807) (h : MemOk m w) :
    ∃ _ : Unit, MemOk (m.set i (.row e size (.slice (some ⟨g, 0, none⟩) n cap) n (A.take (n * size)))) w ∧ ∀ k, gs (m.set i (.row e size (.slice (some ⟨g, 0, none⟩) n cap) n (A.take (n * size)))) k → gs m k := by
  have ho : w.heap[g]? = some (Obj.cells A.toArray e (0, 0)) := h.ok (.opn e g A) (List.mem_of_getElem? hi)
  refine ⟨(), ?_, ?_⟩
  · refine h.set (X := No) hi (Ext.refl _ _) (fun _ hx => hx.elim) rfl ?_
    refine ⟨?_, .inr ⟨g, cap, A.toArray, rfl, Nat.zero_le _, ho, hn, by unfold maxLen; omega, by simpa using hl, rfl⟩⟩
    rw [List.length_take, hl]
    exact Nat.min_eq_left (Nat.mul_le_mul_right _ hn)
  · intro k hk
    unfold gs at *
    rwa [bsAll_set (e' := .row e size (.slice (some ⟨g, 0, none⟩) n cap) n (A.take (n * size))) hi rfl] at hk

theorem MemOk.opn {w : World} {i e g : Nat} {A : List Value} (h : MemOk m w) (hi : m[i]? = some (.opn e g A)) (o k : Nat) : RowAt w g o (cut A o k) :=
  rowAt_local (T := e) (fz := (0, 0)) (h.ok (.opn e g A) (List.mem_of_getElem? hi)) o k

theorem PV.capS {x t e a' len cap} (hu : P.underlying t = some (.slice e)) (hx : ev fr x = some (.slice a' len cap)) : PV P fr m Φ ⟨d, .call ⟨.builtin .cap, #[x], #[t]⟩, ty, pos, af, gd⟩ (.int .i64 cap) := fun a n w hf _ _ => by
  have hu' : ∀ w, (underlying t).run P w = .ok (.slice e) w := fun w => by simp [underlying, hu]
  simp [execOp, resolve, invoke, builtin, Builtin.cap_, hf.ev hx, hu', goInt]

/-- a slice's slice -/
def subSl (b o k lo hi cap : Nat) : Value := .slice (some (if cap = lo then ⟨b, o, none⟩ else ⟨b, o + lo * k, none⟩)) (hi - lo) (cap - lo)
theorem PV.slice_xn {x y t e k b o len cap kk} {lo : Int} (hu : P.underlying t = some (.slice e)) (hk : ∀ w, (sizeOf e).run P w = .ok k w) (hx : ev fr x = some (.slice (some ⟨b, o, none⟩) len cap)) (hy : ev fr y = some (.int kk lo)) (h : 0 ≤ lo ∧ lo ≤ len) :
    PV P fr m Φ ⟨d, .slice t x (some y) none none, ty, pos, af, gd⟩ (subSl b o k lo.toNat len cap) := fun a n w hf _ _ => by
  have hu' : ∀ w, (underlying t).run P w = .ok (.slice e) w := fun w => by simp [underlying, hu]
  by_cases hc : cap = lo.toNat <;> simp [execOp, hf.ev hx, hf.ev hy, Instr.sliceAt, Instr.slice, hu', hk, Instr.sliceBounds, Instr.sliceBound, asIntOf, h.1, h.2, subSl, hc, addr_add]
theorem PV.slice_xl {x y t e k b o len cap kk} {lo : Int} (hu : P.underlying t = some (.slice e)) (hk : ∀ w, (sizeOf e).run P w = .ok k w) (hx : ev fr x = some (.slice (some ⟨b, o, none⟩) len cap)) (hy : ev fr y = some (.int kk lo)) (h : 0 ≤ lo ∧ lo ≤ len ∧ lo.toNat < cap) :
    PV P fr m Φ ⟨d, .slice t x (some y) none none, ty, pos, af, gd⟩ (.slice (some ⟨b, o + lo.toNat * k, none⟩) (len - lo.toNat) (cap - lo.toNat)) := by
  have := PV.slice_xn (d := d) (ty := ty) (pos := pos) (af := af) (gd := gd) (m := m) (Φ := Φ) hu hk hx hy ⟨h.1, h.2.1⟩
  have hne : ¬ cap = lo.toNat := by omega
  simpa [subSl, hne] using this
theorem PV.slice_nil {x y t e k kk} (hu : P.underlying t = some (.slice e)) (hk : ∀ w, (sizeOf e).run P w = .ok k w) (hx : ev fr x = some (.slice none 0 0)) (hy : ev fr y = some (.int kk 0)) :
    PV P fr m Φ ⟨d, .slice t x (some y) none none, ty, pos, af, gd⟩ (.slice none 0 0) := fun a n w hf _ _ => by
  have hu' : ∀ w, (underlying t).run P w = .ok (.slice e) w := fun w => by simp [underlying, hu]
  simp [execOp, hf.ev hx, hf.ev hy, Instr.sliceAt, Instr.slice, hu', hk, Instr.sliceBounds, Instr.sliceBound, asIntOf]
theorem PV.slice_nx {x y t e k b o len cap kk} {hi : Int} (hu : P.underlying t = some (.slice e)) (hk : ∀ w, (sizeOf e).run P w = .ok k w) (hx : ev fr x = some (.slice (some ⟨b, o, none⟩) len cap)) (hy : ev fr y = some (.int kk hi)) (h : 0 ≤ hi ∧ hi ≤ cap) :
    PV P fr m Φ ⟨d, .slice t x none (some y) none, ty, pos, af, gd⟩ (.slice (some ⟨b, o, none⟩) hi.toNat cap) := fun a n w hf _ _ => by
  have hu' : ∀ w, (underlying t).run P w = .ok (.slice e) w := fun w => by simp [underlying, hu]
  by_cases hc : cap = 0
  · have h0 : hi = 0 := by omega
    subst hc h0
    simp [execOp, hf.ev hx, hf.ev hy, Instr.sliceAt, Instr.slice, hu', hk, Instr.sliceBounds, Instr.sliceBound, asIntOf, addr_add]
  · simp [execOp, hf.ev hx, hf.ev hy, Instr.sliceAt, Instr.slice, hu', hk, Instr.sliceBounds, Instr.sliceBound, asIntOf, h.1, h.2, hc, addr_add]

/-- copy into a block that is known -/
theorem EV.copy {x y t e size g o dl dc b so sl sc} {A news B : List Value} (i : Nat) (hu : P.underlying t = some (.slice e)) (hk : ∀ w, (sizeOf e).run P w = .ok size w) (hx : ev fr x = some (.slice (some ⟨g, o, none⟩) dl dc)) (hy : ev fr y = some (.slice (some ⟨b, so, none⟩) sl sc))
    (hm : m[i]? = some (.opn e g A)) (hsrc : ∀ w, MemOk m w → Φ w → RowAt w b so news) (hn : news.length = Nat.min sl dl * size) (hone : allOne news = true) (hfit : o + news.length ≤ A.length) (hB : wr A o news = B) :
    EV P n fr m Φ ⟨d, .call ⟨.builtin .copy, #[x, y], #[t, t]⟩, ty, pos, af, gd⟩ (fun v' m' Φ' => v' = .int .i64 (Nat.min sl dl) ∧ m' = m.set i (.opn e g B) ∧ Φ' = Φ) := fun a w next Q hf hmo hs hkk => by
  have hu' : ∀ w, (underlying t).run P w = .ok (.slice e) w := fun w => by simp [underlying, hu]
  have ho : w.heap[g]? = some (Obj.cells A.toArray e (0, 0)) := hmo.ok (.opn e g A) (List.mem_of_getElem? hm)
  obtain ⟨w', hr, hb, he⟩ := run_storeCells (P := P) news w g o 0 A e ho hone (by omega)
  have hload : (loadCells ⟨b, so, none⟩ (Nat.min sl dl * size)).run P w = .ok news.toArray w := by
    have := run_loadCellsFrom (P := P) (w := w) (b := b) (o := so) news 0 #[] (fun j v hj => by simpa using hsrc w hmo hs.out j v hj)
    rw [loadCells, ← hn]; simpa using this
  have hr' : (execOp a.eval ⟨d, .call ⟨.builtin .copy, #[x, y], #[t, t]⟩, ty, pos, af, gd⟩).run P w = .ok (.value (.int .i64 (Nat.min sl dl))) w' := by
    simp [execOp, resolve, invoke, builtin, Builtin.copy_, hf.ev hx, hf.ev hy, hu', hk, Builtin.lenOf, Builtin.firstCells, hload, hr, goInt]
  simp only [Oper.wp, hr', Oper.upon]
  subst hB
  refine hkk _ _ _ _ ⟨rfl, rfl, rfl⟩ (hmo.set hm he (fun g' e' => by subst e'; simp [Ent.bs]) rfl (by show w'.heap[g]? = _; simpa using hb)) ?_
  unfold gs
  rw [bsAll_set (e' := .opn e g (wr A o news)) hm rfl]
  exact hs.step he (fun k _ e' => by subst e'; exact mem_bsAll.2 ⟨_, List.mem_of_getElem? hm, by simp [Ent.bs]⟩) (fun _ _ x => x)

/-- 'append(s[:i], make([]T, k)...)' where there is no room -/
theorem EV.appendZ {x y t tn e size bytes b o sl sc k kq kn} {i0 : TypeInfo} {z : Value} {olds : List Value} {kv : Int} (hu : P.underlying t = some (.slice e)) (hun : P.underlying tn = some (.int kn)) (hi0 : P.info? e = some i0) (hz : i0.zero = some z) (hsize : i0.size = size) (hby : i0.bytes = bytes) (hzs : z.cells.size = size)
    (hx : ev fr x = some (.slice (some ⟨b, o, none⟩) sl sc)) (hy : ev fr y = some (.int kq kv)) (hkv : kv = (k : Nat)) (hold : ∀ w, MemOk m w → Φ w → RowAt w b o olds) (hol : olds.length = sl * size)
    (h0 : 0 < k) (hs0 : 0 < size) (hg : sc < sl + k) (h63 : sl + k ≤ 9223372036854775807) (hbytes : (sl + k) * bytes ≤ 140737488355328) :
    EV P n fr m Φ ⟨d, .call ⟨.builtin .append, #[x, y], #[t, tn]⟩, ty, pos, af, gd⟩ (fun v' m' Φ' => ∃ g cap R, v' = .slice (some ⟨g, 0, none⟩) (sl + k) cap ∧ m' = m ++ [.opn e g (olds ++ R)] ∧ Φ' = Φ ∧ (olds ++ R).length = cap * size ∧ sl + k ≤ cap ∧ cap ≤ 9223372036854775807) := fun a w next Q hf hmo hs hkk => by
  have hload : ∀ w', w'.heap = w.heap → (Builtin.firstCells i0.size sl (.slice (some ⟨b, o, none⟩) sl sc)).run P w' = .ok olds.toArray w' := fun w' hw' => by
    have := run_loadCellsFrom (P := P) (w := w') (b := b) (o := o) olds 0 #[] (fun j v hj => by have := hold w hmo hs.out j v hj; unfold World.cell? at *; rw [hw']; simpa using this)
    rw [Builtin.firstCells, loadCells, hsize, ← hol]; simpa using this
  have hr := Lib.run_append_grow_zeros (P := P) w t tn ty e i0 z kq kn hu hun hi0 hz (some ⟨b, o, none⟩) sl sc olds (hload w.drew rfl) k h0 (by omega) hg (by omega) (by
    rw [hby]
    have : k * bytes ≤ (sl + k) * bytes := Nat.mul_le_mul_right _ (by omega)
    omega) (by rw [hby]; exact growslice_fits hg hbytes)
  have hr' : (execOp a.eval ⟨d, .call ⟨.builtin .append, #[x, y], #[t, tn]⟩, ty, pos, af, gd⟩).run P w = .ok (.value (.slice (some ⟨w.heap.size, 0, none⟩) (sl + k) (grownCap w (sl + k) sc e)))
      (w.drew.alloc (.cells (olds.toArray ++ Builtin.zeroCells z.cells k ++ Builtin.zeroCells z.cells (grownCap w (sl + k) sc e - (sl + k))) e)) := by
    subst hkv
    simp only [execOp, resolve, invoke, builtin, Sem.run_bind, Sem.run_pure, Result.andThen_ok, List.map_toArray, List.map_cons, List.map_nil, hf.ev hx, hf.ev hy, hr]
  have hge := grownCap_ge w (sl + k) sc e
  have hcm : grownCap w (sl + k) sc e ≤ maxLen := grownCap_le_maxLen w (sl + k) sc e (by unfold maxLen; omega)
  simp only [Oper.wp, hr', Oper.upon]
  have hd : MemOk m w.drew ∧ Sup Φ (gs m) w.drew := ⟨hmo.ext (Ext.drew No w) (fun _ _ x => x), hs.step (Ext.drew No w) (fun _ _ x => x.elim) (fun _ _ x => x)⟩
  let R := (Builtin.zeroCells z.cells k).toList ++ (Builtin.zeroCells z.cells (grownCap w (sl + k) sc e - (sl + k))).toList
  have hR : (olds.toArray ++ Builtin.zeroCells z.cells k ++ Builtin.zeroCells z.cells (grownCap w (sl + k) sc e - (sl + k))) = (olds ++ R).toArray := by
    simp [R]
  rw [hR]
  have hlen : (olds ++ R).length = grownCap w (sl + k) sc e * size := by
    simp only [R, List.length_append, Array.length_toList, size_zeroCells, hzs, hol, ← Nat.add_mul]
    congr 1; omega
  refine hkk _ _ Φ _ ⟨w.heap.size, grownCap w (sl + k) sc e, R, rfl, rfl, rfl, hlen, hge, by unfold maxLen at hcm; omega⟩ ?_ ?_
  · refine (hd.1.ext (Ext.alloc No w.drew _) (fun _ _ x => x)).push ?_ (by simp [bsAll, Ent.bs]) ?_
    · intro en he; simp at he; subst he
      exact heap_alloc_new w.drew _
    · intro g hg h; simp [bsAll, Ent.bs] at hg; subst hg; exact Nat.lt_irrefl _ (hmo.lt h)
  · refine hd.2.step (Ext.alloc No w.drew _) (fun _ _ x => x.elim) ?_
    intro k' hk' hA
    unfold gs at hA
    rw [bsAll, List.flatMap_append] at hA
    rcases List.mem_append.1 hA with h | h
    · exact h
    · simp [Ent.bs] at h; subst h; exact absurd hk' (Nat.lt_irrefl _)

/-- slices.overlaps of a block elsewhere and one's own -/
theorem EV.overlaps {x y t tr e size f ga oa la ca gb ob lb cb eb} {B : List Value} {fn : Func} {ts} (j : Nat) (hf0 : P.funcs[f]? = some fn) (hname : (fn.name == "runtime.NumGoroutine") = false) (hb : fn.body.isNone = true) (hn : Extern.findNext fn = none) (he : Extern.find fn = some (Extern.SlicesOverlaps.overlaps #[t, t] #[tr]))
    (hu : P.underlying t = some (.slice e)) (hk : ∀ w, (sizeOf e).run P w = .ok size w) (hx : ev fr x = some (.slice (some ⟨ga, oa, none⟩) la ca)) (hy : ev fr y = some (.slice (some ⟨gb, ob, none⟩) lb cb)) (hi : ∀ w, MemOk m w → Φ w → ∃ A T, w.heap[ga]? = some (Obj.cells A T (0, 0))) (hgab : ga ≠ gb) (hj : m[j]? = some (.opn eb gb B)) (hB : B ≠ []) :
    EV P n fr m Φ ⟨d, .call ⟨.value (.func f), #[x, y], ts⟩, ty, pos, af, gd⟩ (fun v' m' Φ' => v' = .bool false ∧ m' = m ∧ Φ' = Φ) := fun a w next Q hf hmo hs hkk => by
  obtain ⟨A, T, hA⟩ := hi w hmo hs.out
  have hB' : w.heap[gb]? = some (Obj.cells B.toArray eb (0, 0)) := hmo.ok (.opn eb gb B) (List.mem_of_getElem? hj)
  have hr := Lib.run_overlaps_apart (P := P) w t tr e hu size hk ⟨ga, oa, none⟩ ⟨gb, ob, none⟩ la ca lb cb hgab T eb A.size B.length (by simp [World.shape?, hA]) (by simp [World.shape?, hB']) (by simpa using hB) (by simp [World.frozen?, hA]) (by simp [World.frozen?, hA])
  have hr' : (execOp a.eval ⟨d, .call ⟨.value (.func f), #[x, y], ts⟩, ty, pos, af, gd⟩).run P w = .ok (.value (.bool false)) w := by
    have hff : a.eval (.func f) = Value.func (.func f) #[] #[] := rfl
    simp only [execOp, resolve, hff, Deferred.ofValue, invoke, Sem.run_bind, Sem.run_pure, Result.andThen_ok, List.map_toArray, List.map_cons, List.map_nil, hf.ev hx, hf.ev hy, Array.append_empty, Array.empty_append]
    rw [run_callFunc_extern hf0 hname hb hn he, hr]
    rfl
  simp only [Oper.wp, hr', Oper.upon]
  exact hkk _ _ _ _ ⟨rfl, rfl, rfl⟩ hmo hs

/-- what a predicate on memory says of blocks that may change: they are new -/
theorem Sup.fresh {w w' : World} {X Y : Nat → Prop} (h : Sup (Ext X w) Y w') {g : Nat} (hY : Y g) (hg : g < w.heap.size) : X g := by
  by_cases hX : X g
  · exact hX
  · exfalso
    have h0 := h.out
    have hg' : g < w'.heap.size := Nat.lt_of_lt_of_le hg h0.size
    have key : ∀ o : Obj, w.heap[g]? = some o := fun o => by
      have e : Ext Y w' { w' with heap := w'.heap.setIfInBounds g o } := ⟨rfl, rfl, rfl, by simp, fun k _ hk => by
        show (w'.heap.setIfInBounds g o)[k]? = _
        rw [Array.getElem?_setIfInBounds_ne (fun e => hk (by rw [← e]; exact hY))]⟩
      have := (h _ e).block g hg hX
      rw [← this]
      show (w'.heap.setIfInBounds g o)[g]? = _
      simp [hg']
    have h1 := key (.cells #[] 0 (0, 0))
    have h2 := key (.cells #[] 1 (0, 0))
    rw [h1] at h2
    simp at h2

/-- a callee that writes over a row (and a known block that it is handed): m's places i (the row), j (the block) -/
theorem CallK.row {f args e size nn} {v : Value} {xs : List Value} {B : Ent} {R : Value → Nat → List Value → Prop} (i j : Nat) (hi : m[i]? = some (.row e size v nn xs)) (hj : m[j]? = some B) (hij : i ≠ j)
    (h : ∀ w, MemOk [.row e size v nn xs, B] w → Calls P f (List.toArray args) w fun e' w' => ∃ v' n' xs', e' = .returned v' ∧ R v' n' xs' ∧ w'.ownsRow 0 e size v' n' xs' ∧ (∀ g, v'.ownBlock = some g → v.ownBlock = some g ∨ w.heap.size ≤ g) ∧ Ext (fun g => v.ownBlock = some g) w w') :
    CallK P f args m Φ (fun v' m' Φ' => ∃ n' xs', R v' n' xs' ∧ m' = m.set i (.row e size v' n' xs') ∧ Φ' = Φ) := fun w hm hs => by
  have h2 : MemOk [.row e size v nn xs, B] w := by
    refine ⟨?_, fun en hen => ?_⟩
    · have := hm.pick (l := [i, j]) (by simp [hij])
      have hp : pickM [i, j] m = [.row e size v nn xs, B] := by simp [pickM, hi, hj]
      rw [hp] at this; exact this.nodup
    · simp at hen
      rcases hen with rfl | rfl
      · exact hm.ok _ (List.mem_of_getElem? hi)
      · exact hm.ok _ (List.mem_of_getElem? hj)
  refine (h w h2).mono ?_
  rintro e' w' ⟨v', n', xs', he, hR, hown, hb, hx⟩
  obtain ⟨k1, k2⟩ := hm.setNew (e' := .row e size v' n' xs') hs hi hx (fun g hg => by simp [Ent.bs, hg]) (by simp only [Ent.bs]; split <;> simp) (by
    intro g hg
    simp only [Ent.bs] at hg
    split at hg
    · rename_i g' hg'
      simp at hg; subst hg
      rcases hb g hg' with h | h
      · left; simp [Ent.bs, h]
      · right; exact h
    · simp at hg) hown
  exact ⟨v', _, Φ, he, ⟨n', xs', hR, rfl, rfl⟩, k1, k2⟩
/-- what was written over -/
theorem wr_eq (l : List Value) : ∀ (A : List Value) (o : Nat), o + l.length ≤ A.length → wr A o l = A.take o ++ l ++ A.drop (o + l.length) := by
  induction l with
  | nil => intro A o h; simp [wr]
  | cons v l ih =>
    intro A o h
    simp only [List.length_cons] at h
    rw [wr, ih _ _ (by simp; omega)]
    have h2 : o < A.length := by omega
    rw [List.take_set, List.drop_set_of_lt (by omega)]
    rw [show List.take (o + 1) A = List.take o A ++ [A[o]] from by rw [List.take_succ_eq_append_getElem h2]]
    rw [List.set_append_right _ _ (by simp; omega)]
    simp [Nat.min_eq_left (Nat.le_of_lt h2), Nat.add_comm, Nat.add_left_comm]
/-- a row with something laid in -/
def insAt (xs : List Value) (k : Nat) (cs : List Value) : List Value := xs.take k ++ cs ++ xs.drop k
theorem insAt_end (xs cs : List Value) (k : Nat) (h : xs.length = k) : insAt xs k cs = xs ++ cs := by subst h; simp [insAt]
/-- shifted, then laid in -/
theorem insAt_shift (xs sp cs : List Value) (k c N : Nat) (hc : cs.length = c) (hk : k ≤ xs.length) (hs : xs.length + c ≤ (xs ++ sp).length) (hN : N = xs.length + c) :
    (wr (wr (xs ++ sp) (k + c) (cut (xs ++ sp) k (xs.length - k))) k cs).take N = insAt xs k cs := by
  have h1 : (cut (xs ++ sp) k (xs.length - k)) = xs.drop k := by
    unfold cut
    rw [List.drop_append_of_le_length hk, List.take_append_of_le_length (by simp), List.take_of_length_le (by simp)]
  rw [h1]
  have hd : (xs.drop k).length = xs.length - k := by simp
  rw [wr_eq (xs.drop k) _ _ (by omega), wr_eq cs _ _ (by simp at hs ⊢; omega)]
  subst hN
  have e1 : (List.take (k + c) (xs ++ sp) ++ xs.drop k ++ (xs ++ sp).drop (k + c + (xs.drop k).length)).take k = xs.take k := by
    rw [List.append_assoc, List.take_append_of_le_length (by simp at hs ⊢; omega), List.take_take, Nat.min_eq_left (by omega), List.take_append_of_le_length hk]
  have e2 : (List.take (k + c) (xs ++ sp) ++ xs.drop k ++ (xs ++ sp).drop (k + c + (xs.drop k).length)).drop (k + cs.length) = xs.drop k ++ (xs ++ sp).drop (k + c + (xs.drop k).length) := by
    rw [List.append_assoc, List.drop_append_of_le_length (by simp at hs ⊢; omega), hc, List.drop_of_length_le (by simp; omega)]
    simp
  rw [e1, e2]
  unfold insAt
  rw [← List.append_assoc, List.take_append_of_le_length (by simp; omega), List.take_of_length_le (by simp; omega)]
/-- laid out anew -/
theorem insAt_grow (xs R cs : List Value) (k c N : Nat) (hc : cs.length = c) (hk : k ≤ xs.length) (hR : xs.length + c ≤ (xs.take k ++ R).length) (hN : N = xs.length + c) :
    (wr (wr (xs.take k ++ R) k cs) (k + c) (xs.drop k)).take N = insAt xs k cs := by
  have hk2 : (xs.take k).length = k := by simp; omega
  rw [wr_eq cs _ _ (by omega)]
  have e1 : (xs.take k ++ R).take k = xs.take k := by rw [List.take_append_of_le_length (by omega), List.take_take, Nat.min_self]
  rw [e1]
  have hl2 : (xs.take k ++ cs).length = k + c := by simp [hc]; omega
  rw [wr_eq _ _ _ (by simp at hR ⊢; omega)]
  have e2 : (xs.take k ++ cs ++ (xs.take k ++ R).drop (k + cs.length)).take (k + c) = xs.take k ++ cs := by
    rw [List.take_append_of_le_length (by omega), List.take_of_length_le (by omega)]
  rw [e2, List.take_append_of_le_length (by simp; omega), List.take_of_length_le (by simp; omega)]
  rfl
end
end Go.Sx
namespace Go.Sx
theorem allOne_cut {A : List Value} (h : allOne A = true) (o k : Nat) : allOne (cut A o k) = true := by
  unfold allOne cut at *
  rw [List.all_eq_true] at *
  exact fun x hx => h x (List.mem_of_mem_drop (List.mem_of_mem_take hx))
theorem allOne_cut2 {A B : List Value} (h : allOne A = true) {o k : Nat} (hk : o + k ≤ A.length) : allOne (cut (A ++ B) o k) = true := by
  have : cut (A ++ B) o k = cut A o k := by
    unfold cut
    rw [List.drop_append_of_le_length (by omega), List.take_append_of_le_length (by simp; omega)]
  rw [this]; exact allOne_cut h o k
end Go.Sx
namespace Go.Sx
theorem own_fresh {X : Nat → Prop} {m : Mem} {w w' : World} (hs : Sup (Ext X w) (gs m) w') {i e size n : Nat} {v : Value} {xs : List Value} (hi : m[i]? = some (.row e size v n xs)) : ∀ g, v.ownBlock = some g → X g ∨ w.heap.size ≤ g := fun g hg => by
  have hY : gs m g := mem_bsAll.2 ⟨_, List.mem_of_getElem? hi, by simp [Ent.bs, hg]⟩
  rcases Nat.lt_or_ge g w.heap.size with hlt | hge
  · exact .inl (hs.fresh hY hlt)
  · exact .inr hge
end Go.Sx
namespace Go.Sx
theorem slice_eq {g o o' l l' c c' : Nat} (h1 : o = o') (h2 : l = l') (h3 : c = c') : (Value.slice (some ⟨g, o, none⟩) l c) = .slice (some ⟨g, o', none⟩) l' c' := by subst h1 h2 h3; rfl
end Go.Sx
namespace Go.Sx
theorem cut_len {A : List Value} {o k : Nat} (h : o + k ≤ A.length) : (cut A o k).length = k := by simp [cut]; omega
theorem cut_end {A : List Value} {o k : Nat} (h : A.length ≤ o + k) : cut A o k = A.drop o := by unfold cut; rw [List.take_of_length_le (by simp; omega)]
end Go.Sx
namespace Go.Sx
/-- one entry alone -/
theorem MemOk.one {m : Mem} {w : World} {i : Nat} {e : Ent} (h : MemOk m w) (hi : m[i]? = some e) : MemOk [e] w := by
  have := h.pick (l := [i]) (by simp)
  have hp : pickM [i] m = [e] := by simp [pickM, hi]
  rwa [hp] at this
theorem row_gs {e size n g : Nat} {v : Value} {xs : List Value} (h : gs [.row e size v n xs] g) : v.ownBlock = some g := by
  simp only [gs, bsAll, List.flatMap_cons, List.flatMap_nil, List.append_nil, Ent.bs] at h
  split at h
  · rename_i b hb; simp at h; subst h; exact hb
  · simp at h
end Go.Sx
namespace Go.Sx
/-- what a row's value looks like -/
def RowV (v : Value) (n : Nat) : Prop := (v = .slice none 0 0 ∧ n = 0) ∨ ∃ g cap, v = .slice (some ⟨g, 0, none⟩) n cap
theorem RowV.nil : RowV (.slice none 0 0) 0 := .inl ⟨rfl, rfl⟩
theorem RowV.slice {v : Value} {n : Nat} (h : RowV v n) : ∃ a cap, v = .slice a n cap := by
  rcases h with ⟨h1, h2⟩ | ⟨g, cap, h⟩
  · exact ⟨none, 0, by rw [h1, h2]⟩
  · exact ⟨_, _, h⟩
theorem RowV.some {v : Value} {n : Nat} (h : RowV v n) (h0 : 0 < n) : ∃ g cap, v = .slice (some ⟨g, 0, none⟩) n cap := by
  rcases h with ⟨_, h2⟩ | h
  · omega
  · exact h
theorem ownsRow_V {w : World} {B e size n : Nat} {v : Value} {xs : List Value} (h : w.ownsRow B e size v n xs) : RowV v n := by
  rcases ownsRow_form h with ⟨h1, h2, _⟩ | h
  · exact .inl ⟨h1, h2⟩
  · exact .inr h
/-- a new row that holds a list -/
def NewRow {α : Type} (e size : Nat) (enc : α → List Value) (l : List α) (v : Value) (es : Mem) : Prop := es = [.row e size v l.length (l.flatMap enc)] ∧ RowV v l.length
theorem NewRow.ret {α : Type} {e size : Nat} {enc : α → List Value} {l : List α} {v : Value} {m : Mem} {w w' : World} {i : Nat} (hm : MemOk m w') (hs : Sup (Ext No w) (gs m) w') (hi : m[i]? = some (.row e size v l.length (l.flatMap enc))) :
    ∃ es, NewRow e size enc l v es ∧ MemOk es w' ∧ (∀ g, gs es g → w.heap.size ≤ g) :=
  ⟨_, ⟨rfl, ownsRow_V (hm.rowAt hi)⟩, hm.one hi, fun g hg => (own_fresh hs hi g (row_gs hg)).resolve_left (fun h => h)⟩
theorem NewRow.nil {α : Type} {e size : Nat} {enc : α → List Value} {w w' : World} : ∃ es, NewRow e size enc ([] : List α) (.slice none 0 0) es ∧ MemOk es w' ∧ (∀ g, gs es g → w.heap.size ≤ g) :=
  ⟨_, ⟨rfl, .nil⟩, ⟨by simp [bsAll, Ent.bs, Value.ownBlock], fun en hen => by simp at hen; subst hen; exact World.ownsRow_nil w' 0 e size⟩, fun g hg => by have := row_gs hg; simp [Value.ownBlock] at this⟩
/-- an element of a row of one's own -/
theorem row_elem {α : Type} {enc : α → List Value} {l : List α} {w : World} {e size n g cap i : Nat} {x : α} {m : Mem} {j : Nat} {v : Value} (hsz : ∀ x, (enc x).length = size) (hm : MemOk m w) (hj : m[j]? = some (.row e size v l.length (l.flatMap enc))) (hv : v = .slice (some ⟨g, 0, none⟩) n cap) (hx : l[i]? = some x) : RowAt w g (0 + i * size) (enc x) := by
  have h := hm.rowAt hj
  obtain ⟨a, c, h1, h2⟩ := SlE.ofRow hsz h
  rw [hv] at h1
  cases h1
  rcases h2 with rfl | ⟨b, o, h3, h4⟩
  · simp at hx
  · cases h3
    exact h4 i x hx
end Go.Sx
namespace Go.Sx
section
variable {P : Program} {n : Nat} {fr : Fr} {m : Mem} {Φ : World → Prop} {Q : Exit → Act → World → Prop} {d : Option Tmp} {ty : TypeId} {pos : String} {af : Array Edge} {gd : Option (Nat × Bool)}
theorem run_eq_slice {t e a' l c l' c'} (hu : P.underlying t = some (.slice e)) (w : World) : (Op.equal t (.slice a' l c) (.slice none l' c')).run P w = .ok a'.isNone w := by
  have key : ∀ d, (Op.equalIn (d + 1) t (.slice a' l c) (.slice none l' c')).run P w = .ok a'.isNone w := fun d => by
    cases a' <;> simp [Op.equalIn, run_underlying hu]
  exact key 9999
theorem flat_len {k : Nat} : ∀ {vs : List Value}, (∀ v ∈ vs, v.cells.toList.length = k) → (flat vs).length = vs.length * k
  | [], _ => by simp [flat]
  | v :: r, h => by
    have h1 := h v (by simp)
    have h2 := flat_len (vs := r) (fun u hu => h u (by simp [hu]))
    simp only [flat, List.flatMap_cons, List.length_append, List.length_cons] at *
    rw [h1, h2, Nat.succ_mul]; omega
theorem PV.eqlSl {x y t u e a' l c l' c'} (hu : P.underlying t = some (.slice e)) (hx : ev fr x = some (.slice a' l c)) (hy : ev fr y = some (.slice none l' c')) : PV P fr m Φ ⟨d, .binOp .eql t x y u, ty, pos, af, gd⟩ (.bool a'.isNone) := fun a n w hf _ _ => by
  have h1 := run_eq_slice (P := P) (a' := a') (l := l) (c := c) (l' := l') (c' := c') hu w
  simp [execOp, hf.ev hx, hf.ev hy, eqGuard, binOp, h1]
theorem run_append_zero {t ty e sz k cap} {base : Option Addr} {a c} (hu : P.underlying t = some (.slice e)) (hk : ∀ w, (sizeOf e).run P w = .ok sz w) (hle : k ≤ cap) (w : World) :
    (Builtin.append_ #[t, t] ty #[.slice base k cap, .slice a 0 c]).run P w = .ok (.slice base k cap) w := by
  cases a <;> cases base <;> simp [Builtin.append_, run_underlying hu, hk, Builtin.lenOf, hle, Builtin.firstCells, loadCells, loadCellsFrom, storeCells]
theorem EV.buildRow {t e k len z} {ixs : List (Nat × Operand)} {xs : List Operand} {vs : List Value} (h0k : 0 < k) (hsmall : Nat.ble (len * k) 16777216 = true) (hu : P.underlying t = some (.slice e)) (hk : ∀ w, (sizeOf e).run P w = .ok k w) (hz : ∀ w, (zeroValue e).run P w = .ok z w)
    (hixs : ixs = (xs.zipIdx 0).map fun p => (p.2, p.1)) (hv : evs fr xs = some vs) (hlen : vs.length = len) (hcs : vs.map (fun v => v.cells.toList.length) = vs.map (fun _ => k)) :
    EV P n fr m Φ ⟨d, .buildSlice t len ixs.toArray, ty, pos, af, gd⟩ (fun v' m' Φ' => ∃ g, v' = .slice (some ⟨g, 0, none⟩) len len ∧ m' = m ++ [.row e k (.slice (some ⟨g, 0, none⟩) len len) len (flat vs)] ∧ Φ' = Φ) := fun a w next Q hf hm hs hkk => by
  have he := hf.evs hv
  have hu' : ∀ w, (underlying t).run P w = .ok (.slice e) w := fun w => by simp [underlying, hu]
  have hcell : ∀ v ∈ vs, v.cells.toList.length = k := by
    intro v hv'
    have := List.map_inj_left.1 hcs v hv'
    exact this
  have hparts : (ixs.toArray.map fun (p : Nat × Operand) => (p.1, a.eval p.2)).toList = (vs.zipIdx 0).map fun p => (p.2, p.1) := by
    rw [hixs, ← he]
    simp [List.zipIdx_map, List.map_map, Function.comp_def]
  have hr : (execOp a.eval ⟨d, .buildSlice t len ixs.toArray, ty, pos, af, gd⟩).run P w = .ok (.value (.slice (some ⟨w.heap.size, 0, none⟩) len len)) (w.alloc (.cells (flat vs).toArray e)) := by
    have hfill : ∀ (R : List Value), R.length = len * k → Instr.fill (fun i => some (i * k, k)) R.toArray ((vs.zipIdx 0).map fun p => (p.2, p.1)) = some (flat vs).toArray := fun R hR => by
      have := zip_fill k vs [] R 0 hcell (by simp) (by rw [hR, hlen])
      simpa using this
    have hle := Nat.le_of_ble_eq_true hsmall
    simp only [execOp, Instr.buildSlice, Sem.run_bind, hu', hk, Result.andThen_ok, Sem.run_ite]
    rw [if_neg (by omega)]
    by_cases h0 : len * k = 0
    · have := hfill ((Array.range 0).map (fun x => (#[] : Array Value)[x % (#[] : Array Value).size]!)).toList (by simp [h0])
      simp only [Array.toArray_toList] at this
      simp only [h0, if_true, Sem.run_pure, Result.andThen_ok, hparts]
      rw [this]
      simp [newRow]
    · have := hfill ((Array.range (len * k)).map (z.cells[· % z.cells.size]!)).toList (by simp)
      simp only [Array.toArray_toList] at this
      simp only [h0, if_false, Sem.run_bind, hz, Sem.run_pure, Result.andThen_ok, hparts]
      rw [this]
      simp [newRow]
  simp only [Oper.wp, hr, Oper.upon]
  have hfl : (flat vs).length = len * k := by rw [flat_len hcell, hlen]
  refine hkk _ _ Φ _ ⟨w.heap.size, rfl, rfl, rfl⟩ ?_ ?_
  · refine (hm.ext (Ext.alloc No w _) (fun _ _ x => x)).push ?_ (by simp [bsAll, Ent.bs, Value.ownBlock]) ?_
    · intro en hen; simp at hen; subst hen
      refine ⟨hfl, .inr ⟨w.heap.size, len, (flat vs).toArray, rfl, Nat.zero_le _, heap_alloc_new w _, Nat.le_refl _, ?_, by simpa using hfl, ?_⟩⟩
      · have hsm := Nat.le_of_ble_eq_true hsmall
        unfold maxLen
        have : len ≤ len * k := Nat.le_mul_of_pos_right _ h0k
        omega
      · show List.take (len * k) (flat vs) = flat vs
        rw [← hfl, List.take_length]
    · intro g hg h
      simp [bsAll, Ent.bs, Value.ownBlock] at hg; subst hg; exact Nat.lt_irrefl _ (hm.lt h)
  · refine hs.step (Ext.alloc No w _) (fun _ _ x => x.elim) ?_
    intro k' hk' hA
    unfold gs at hA
    rw [bsAll, List.flatMap_append] at hA
    rcases List.mem_append.1 hA with h | h
    · exact h
    · simp [Ent.bs, Value.ownBlock] at h; subst h; exact absurd hk' (Nat.lt_irrefl _)
theorem set_same {m : Mem} {i : Nat} {e : Ent} (h : m[i]? = some e) : m = m.set i e := by
  obtain ⟨hlt, rfl⟩ := List.getElem?_eq_some_iff.1 h
  simp
theorem rowAt_flat {α : Type} {enc : α → List Value} {size b o : Nat} {l : List α} {w : World} (hsz : ∀ x, (enc x).length = size) (h : ∀ i x, l[i]? = some x → RowAt w b (o + i * size) (enc x)) : RowAt w b o (l.flatMap enc) := by
  induction l generalizing o with
  | nil => intro i v hv; simp at hv
  | cons x r ih =>
    intro i v hv
    rw [List.flatMap_cons, List.getElem?_append] at hv
    split at hv
    · have := h 0 x rfl i v hv
      simpa using this
    · rename_i hge
      have h2 := ih (o := o + size) (fun j y hj => by
        have := h (j + 1) y hj
        rwa [Nat.succ_mul, Nat.add_comm (j * size), ← Nat.add_assoc] at this)
      have := h2 (i - (enc x).length) v hv
      rwa [hsz, Nat.add_assoc, Nat.add_sub_cancel' (by rw [hsz] at hge; omega)] at this
theorem EV.append0 {s x t e size nn a' cx} {v : Value} {xs : List Value} (i : Nat) (hu : P.underlying t = some (.slice e)) (hk : ∀ w, (sizeOf e).run P w = .ok size w) (hs : ev fr s = some v) (hm : m[i]? = some (.row e size v nn xs)) (hx : ev fr x = some (.slice a' 0 cx)) :
    EV P n fr m Φ ⟨d, .call ⟨.builtin .append, #[s, x], #[t, t]⟩, ty, pos, af, gd⟩ (fun v' m' Φ' => v' = v ∧ m' = m ∧ Φ' = Φ) := fun a w next Q hf hmo hsup hkk => by
  have hrow := hmo.rowAt hm
  obtain ⟨base, cap, hv, hle⟩ : ∃ base cap, v = .slice base nn cap ∧ nn ≤ cap := by
    rcases hrow.2 with ⟨h1, h2⟩ | ⟨g, cap, cur, h1, _, _, h2, _⟩
    · exact ⟨none, 0, by rw [h1, h2], by omega⟩
    · exact ⟨_, cap, h1, h2⟩
  have hr : (execOp a.eval ⟨d, .call ⟨.builtin .append, #[s, x], #[t, t]⟩, ty, pos, af, gd⟩).run P w = .ok (.value v) w := by
    have := run_append_zero (P := P) (t := t) (ty := ty) (base := base) (a := a') (c := cx) hu hk hle w
    simp only [execOp, resolve, invoke, builtin, Sem.run_bind, Sem.run_pure, Result.andThen_ok, List.map_toArray, List.map_cons, List.map_nil, hf.ev hs, hf.ev hx, hv, this]
  simp only [Oper.wp, hr, Oper.upon]
  exact hkk _ _ _ _ ⟨rfl, rfl, rfl⟩ hmo hsup
/-- append of a list that is read elsewhere, of whatever length -/
theorem EV.appendL {α : Type} {enc : α → List Value} {ys l : List α} {s x t e size bytes} {i0 : TypeInfo} {z v xv : Value} (i : Nat) (ht : P.underlying t = some (.slice e)) (hk : ∀ w, (sizeOf e).run P w = .ok size w) (hi0 : P.info? e = some i0) (hz : i0.zero = some z) (hsize : i0.size = size) (hby : i0.bytes = bytes)
    (hzs : z.cells.size = size) (hsz : 0 < size) (he1 : ∀ x, (enc x).length = size) (he2 : ∀ x, allOne (enc x) = true) (hs : ev fr s = some v) (hm : m[i]? = some (.row e size v ys.length (ys.flatMap enc))) (hx : ev fr x = some xv) (hform : ∃ a' cx, xv = .slice a' l.length cx) (hsrc : ∀ w, MemOk m w → Φ w → SlE enc size w xv l)
    (h63 : ys.length + l.length ≤ 9223372036854775807) (hbytes : (ys.length + l.length) * bytes ≤ 140737488355328) :
    EV P n fr m Φ ⟨d, .call ⟨.builtin .append, #[s, x], #[t, t]⟩, ty, pos, af, gd⟩ (fun v' m' Φ' => RowV v' (ys ++ l).length ∧ (v' = .slice none 0 0 → v = .slice none 0 0) ∧ m' = m.set i (.row e size v' (ys ++ l).length ((ys ++ l).flatMap enc)) ∧ Φ' = Φ) := fun a w next Q hf hmo hsup hkk => by
  obtain ⟨a', cx, rfl⟩ := hform
  rcases List.eq_nil_or_concat l with rfl | ⟨_, _, hl⟩
  · refine EV.append0 i ht hk hs hm hx a w next Q hf hmo hsup ?_
    rintro _ _ _ w' ⟨rfl, rfl, rfl⟩ h1 h2
    refine hkk _ _ _ _ ⟨?_, fun h => h, ?_, rfl⟩ h1 h2
    · rw [List.append_nil]; exact ownsRow_V (hmo.rowAt hm)
    · rw [List.append_nil]; exact set_same hm
  · have hne : l ≠ [] := by rw [hl]; simp
    have hpos : 0 < l.length := List.length_pos_iff.2 hne
    obtain ⟨a1, c1, hxv, hr⟩ := hsrc w hmo hsup.out
    obtain ⟨b, o, rfl, hr⟩ := hr.resolve_left hne
    cases hxv
    have hfl : ∀ l : List α, (l.flatMap enc).length = l.length * size := fun l => by
      induction l with
      | nil => simp
      | cons x r ih => simp only [List.flatMap_cons, List.length_append, List.length_cons, ih, he1, Nat.succ_mul]; omega
    refine EV.appendE (news := l.flatMap enc) i ht hi0 hz hsize hby hzs hsz hs hm hx ?_ (hfl l) ?_ hpos h63 hbytes a w next Q hf hmo hsup ?_
    · intro w1 hm1 h1
      obtain ⟨a2, c2, hxv2, hr2⟩ := hsrc w1 hm1 h1
      obtain ⟨b2, o2, e2, hr2⟩ := hr2.resolve_left hne
      cases hxv2
      cases e2
      exact rowAt_flat he1 hr2
    · unfold allOne
      rw [List.all_eq_true]
      intro u hu
      obtain ⟨x, _, hx⟩ := List.mem_flatMap.1 hu
      have := he2 x
      unfold allOne at this
      rw [List.all_eq_true] at this
      exact this u hx
    · rintro _ _ _ w' ⟨g, cap, rfl, rfl, rfl⟩ h1 h2
      rw [← List.length_append, ← List.flatMap_append] at h1 h2
      exact hkk _ _ _ _ ⟨.inr ⟨g, cap, by rw [List.length_append]⟩, fun h => by simp at h, by rw [List.length_append], rfl⟩ (by simpa using h1) (by simpa using h2)
end
end Go.Sx
set_option maxRecDepth 20000
namespace Go.Sx
open Go.ChangeMaps (setBlock)
section
variable {P : Program} {n : Nat} {fr : Fr} {m : Mem} {Φ : World → Prop} {Q : Exit → Act → World → Prop} {d : Option Tmp} {ty : TypeId} {pos : String} {af : Array Edge} {gd : Option (Nat × Bool)}
/-- what is needed of a key's type -/
structure KeyT (P : Program) (kt : TypeId) (dom : Value → Prop) : Prop where
  check : ∀ b v w, dom v → (Instr.checkKey b 10000 kt v).run P w = .ok () w
  hit : ∀ k (es : List MapEntry) i e w, dom k → (∀ e ∈ es, dom e.key) → es[i]? = some e → e.key = k → (∀ j e, j < i → es[j]? = some e → e.key ≠ k) → (Instr.findKey kt k es).run P w = .ok (some (i, e.val)) w
  miss : ∀ k (es : List MapEntry) w, dom k → (∀ e ∈ es, dom e.key) → (∀ e ∈ es, e.key ≠ k) → (Instr.findKey kt k es).run P w = .ok none w
  bits : ∀ v, dom v → Instr.sameBits 10000 v v = true

theorem findNow_hit {kind : TypeDesc} {k : Value} : ∀ (es : List MapEntry) (i o : Nat) (e : MapEntry), (∀ e ∈ es, e.key = k → Instr.sameNow kind k e.key = some true) → (∀ e ∈ es, e.key ≠ k → Instr.sameNow kind k e.key = some false) → es[i]? = some e → e.key = k → (∀ j e, j < i → es[j]? = some e → e.key ≠ k) → Instr.findNow kind k es o = some (some (o + i, e.val)) := by
  intro es
  induction es with
  | nil => intro i o e _ _ h; simp at h
  | cons x r ih =>
    intro i o e h1 h2 hi hk hj
    cases i with
    | zero =>
      simp at hi; subst hi
      simp [Instr.findNow, h1 x (by simp) hk]
    | succ i =>
      have hx := hj 0 x (by omega) rfl
      simp only [Instr.findNow, h2 x (by simp) hx]
      rw [ih i (o + 1) e (fun e he => h1 e (by simp [he])) (fun e he => h2 e (by simp [he])) (by simpa using hi) hk (fun j e hlt hje => hj (j + 1) e (by omega) (by simpa using hje))]
      simp; omega
theorem findNow_miss {kind : TypeDesc} {k : Value} : ∀ (es : List MapEntry) (o : Nat), (∀ e ∈ es, Instr.sameNow kind k e.key = some false) → Instr.findNow kind k es o = some none := by
  intro es
  induction es with
  | nil => intro o _; rfl
  | cons x r ih => intro o h; simp only [Instr.findNow, h x (by simp)]; exact ih _ (fun e he => h e (by simp [he]))
theorem keyNow {kt : TypeId} {kind : TypeDesc} {dom : Value → Prop} (hu : P.underlying kt = some kind) (hc : ∀ b v w, dom v → (Instr.checkKey b 10000 kt v).run P w = .ok () w)
    (h1 : ∀ a, dom a → Instr.sameNow kind a a = some true) (h2 : ∀ a b, dom a → dom b → a ≠ b → Instr.sameNow kind b a = some false) (hb : ∀ v, dom v → Instr.sameBits 10000 v v = true) : KeyT P kt dom where
  check := hc
  hit := fun k es i e w hk hes hi he hj => by
    have := findNow_hit (kind := kind) (k := k) es i 0 e (fun e he hek => by rw [hek]; exact h1 k hk) (fun e he hek => h2 _ _ (hes e he) hk hek) hi he hj
    simp [Instr.findKey, run_underlying hu, this]
  miss := fun k es w hk hes hj => by
    have := findNow_miss (kind := kind) (k := k) es 0 (fun e he => h2 _ _ (hes e he) hk (hj e he))
    simp [Instr.findKey, run_underlying hu, this]
  bits := hb
def isStr (v : Value) : Prop := ∃ s, v = .string s
theorem strKey {kt : TypeId} (hu : P.underlying kt = some .string) : KeyT P kt isStr := keyNow hu
  (by
    rintro b _ w ⟨s, rfl⟩
    have key : ∀ d, (Instr.checkKey b (d + 1) kt (.string s)).run P w = .ok () w := fun d => by simp [Instr.checkKey, run_underlying hu]
    exact key 9999)
  (by rintro _ ⟨⟨⟨s⟩⟩, rfl⟩; simp only [Instr.sameNow, Option.some.injEq]; show ((⟨s⟩ : Array UInt8) == ⟨s⟩) = true; simp)
  (by
    rintro _ _ ⟨s, rfl⟩ ⟨t, rfl⟩ hne
    have : ¬ t = s := fun e => hne (by rw [e])
    obtain ⟨⟨x⟩⟩ := s
    obtain ⟨⟨y⟩⟩ := t
    simp only [Instr.sameNow, Option.some.injEq]
    show ((⟨y⟩ : Array UInt8) == ⟨x⟩) = false
    rw [Bool.eq_false_iff]
    intro h
    exact this (by rw [eq_of_beq h]))
  (by rintro _ ⟨⟨⟨s⟩⟩, rfl⟩; show ((⟨s⟩ : Array UInt8) == ⟨s⟩) = true; simp)
def isI64 (v : Value) : Prop := ∃ n, v = .int .i64 n
theorem intKey {kt : TypeId} (hu : P.underlying kt = some (.int .i64)) : KeyT P kt isI64 := keyNow hu
  (by
    rintro b _ w ⟨s, rfl⟩
    have key : ∀ d, (Instr.checkKey b (d + 1) kt (.int .i64 s)).run P w = .ok () w := fun d => by simp [Instr.checkKey, run_underlying hu]
    exact key 9999)
  (by rintro _ ⟨s, rfl⟩; simp [Instr.sameNow])
  (by rintro _ _ ⟨s, rfl⟩ ⟨t, rfl⟩ hne; have : ¬ t = s := fun e => hne (by rw [e]); simp [Instr.sameNow, this])
  (by rintro _ ⟨s, rfl⟩; simp [Instr.sameBits])

/-! maps as lists -/
def MGet (l : List (Value × Value)) (k : Value) : Option Value → Prop
  | some v => (k, v) ∈ l
  | none => ∀ p ∈ l, p.1 ≠ k
def MPut (l : List (Value × Value)) (k v : Value) (l' : List (Value × Value)) : Prop := (∃ i v0, l[i]? = some (k, v0) ∧ l' = l.set i (k, v)) ∨ ((∀ p ∈ l, p.1 ≠ k) ∧ l' = l ++ [(k, v)])
def MDel (l : List (Value × Value)) (k : Value) (l' : List (Value × Value)) : Prop := (∃ i v0, l[i]? = some (k, v0) ∧ l' = l.eraseIdx i) ∨ ((∀ p ∈ l, p.1 ≠ k) ∧ l' = l)
variable {kt et : TypeId} {dom : Value → Prop}
theorem MapAt.keys {w g l es clock} (h : MapAt w g l es clock) (hd : ∀ p ∈ l, dom p.1) : ∀ e ∈ es.toList, dom e.key := fun e he => by
  have := hd (e.key, e.val) (by rw [← h.2.1]; exact List.mem_map.2 ⟨e, he, rfl⟩)
  exact this
theorem MapAt.find_hit {w g l es clock k i v0} (K : KeyT P kt dom) (h : MapAt w g l es clock) (hd : ∀ p ∈ l, dom p.1) (hi : l[i]? = some (k, v0)) (w' : World) : (Instr.findKey kt k es.toList).run P w' = .ok (some (i, v0)) w' := by
  obtain ⟨h1, h2, h3, h4, h5⟩ := h
  have hk : dom k := hd _ (List.mem_of_getElem? hi)
  have hes : ∀ e ∈ es.toList, dom e.key := MapAt.keys ⟨h1, h2, h3, h4, h5⟩ hd
  rw [← h2, List.getElem?_map] at hi
  rcases he : es.toList[i]? with _ | e
  · rw [he] at hi; simp at hi
  · rw [he] at hi; simp at hi
    obtain ⟨e1, e2⟩ := hi
    rw [← e2]
    refine K.hit k es.toList i e w' hk hes he e1 ?_
    intro j e' hj hje hk'
    have n1 : (l.map (·.1))[i]? = some k := by rw [← h2]; simp [List.getElem?_map, he, e1]
    have n2 : (l.map (·.1))[j]? = some k := by rw [← h2]; simp [List.getElem?_map, hje, hk']
    have hil := (List.getElem?_eq_some_iff.1 n1).1
    have := (List.getElem?_inj hil h3).1 (n1.trans n2.symm)
    omega
theorem MapAt.find_miss {w g l es clock k} (K : KeyT P kt dom) (h : MapAt w g l es clock) (hd : ∀ p ∈ l, dom p.1) (hk : dom k) (hn : ∀ p ∈ l, p.1 ≠ k) (w' : World) : (Instr.findKey kt k es.toList).run P w' = .ok none w' := by
  refine K.miss k es.toList w' hk (h.keys hd) (fun e he => ?_)
  have := hn (e.key, e.val) (by rw [← h.2.1]; exact List.mem_map.2 ⟨e, he, rfl⟩)
  exact this
/-- the value at a key, or the zero value -/
theorem PV.lookup {t x y ok g k z} {l : List (Value × Value)} {o : Option Value} (i : Nat) (K : KeyT P kt dom) (ht : P.underlying t = some (.map kt et)) (hz : ∀ w, (zeroValue et).run P w = .ok z w) (hx : ev fr x = some (.map (some g))) (hy : ev fr y = some k) (hm : m[i]? = some (.mp g l)) (hd : ∀ p ∈ l, dom p.1) (hk : dom k) (ho : MGet l k o) :
    PV P fr m Φ ⟨d, .lookup t x y ok, ty, pos, af, gd⟩ (if ok then .tuple #[o.getD z, .bool o.isSome] else o.getD z) := fun a n w hf hmo _ => by
  obtain ⟨es, clock, hma⟩ := hmo.ok _ (List.mem_of_getElem? hm)
  have hg : (getObj g).run P w = .ok (.map es clock) w := by simp [getObj, Sem.run, hma.1]
  cases o with
  | some v =>
    obtain ⟨j, hj⟩ := List.getElem?_of_mem ho
    have hfind := hma.find_hit K hd hj w
    have hc := K.check es.isEmpty k w hk
    have hl : (Instr.lookup t (.map (some g)) k ok).run P w = .ok (if ok then .tuple #[v, .bool true] else v) w := by
      unfold Instr.lookup
      rw [Sem.run_bind, run_underlying ht, Result.andThen_ok]
      show ((getObj g >>= _ : Sem Value).run P w) = _
      cases ok <;> simp only [Sem.run_bind, hg, Result.andThen_ok, hc, hfind, Sem.run_pure] <;> rfl
    simp only [execOp, hf.ev hx, hf.ev hy, Sem.run_bind, hl, Result.andThen_ok, Sem.run_pure, Option.getD_some, Option.isSome_some]
  | none =>
    have hfind := hma.find_miss K hd hk ho w
    have hc := K.check es.isEmpty k w hk
    have hl : (Instr.lookup t (.map (some g)) k ok).run P w = .ok (if ok then .tuple #[z, .bool false] else z) w := by
      unfold Instr.lookup
      rw [Sem.run_bind, run_underlying ht, Result.andThen_ok]
      show ((getObj g >>= _ : Sem Value).run P w) = _
      cases ok <;> simp only [Sem.run_bind, hg, Result.andThen_ok, hc, hfind, hz, Sem.run_pure] <;> rfl
    simp only [execOp, hf.ev hx, hf.ev hy, Sem.run_bind, hl, Result.andThen_ok, Sem.run_pure, Option.getD_none, Option.isSome_none]
theorem PV.lenMap {t x g} {l : List (Value × Value)} (i : Nat) (ht : P.underlying t = some (.map kt et)) (hx : ev fr x = some (.map (some g))) (hm : m[i]? = some (.mp g l)) :
    PV P fr m Φ ⟨d, .call ⟨.builtin .len, #[x], #[t]⟩, ty, pos, af, gd⟩ (.int .i64 l.length) := fun a n w hf hmo _ => by
  obtain ⟨es, clock, hma⟩ := hmo.ok _ (List.mem_of_getElem? hm)
  have hg : (getObj g).run P w = .ok (.map es clock) w := by simp [getObj, Sem.run, hma.1]
  have hl : es.size = l.length := by rw [← hma.2.1]; simp
  simp [execOp, resolve, invoke, builtin, Builtin.len_, run_underlying ht, hf.ev hx, hg, goInt, hl]
theorem EV.makeMap {t} : EV P n fr m Φ ⟨d, .makeMap t none, ty, pos, af, gd⟩ (fun v' m' Φ' => ∃ g, v' = .map (some g) ∧ m' = m ++ [.mp g []] ∧ Φ' = Φ) := fun a w next Q hf hm hs hkk => by
  have hr : (execOp a.eval ⟨d, .makeMap t none, ty, pos, af, gd⟩).run P w = .ok (.value (.map (some w.heap.size))) (w.alloc (.map #[] 0)) := by
    have h1 : (newObj (.map #[] 0)).run P w = .ok w.heap.size (w.alloc (.map #[] 0)) := rfl
    have h2 : (Instr.makeMap t none).run P w = .ok (.map (some w.heap.size)) (w.alloc (.map #[] 0)) := by
      unfold Instr.makeMap
      simp only [Sem.run_bind, h1, Result.andThen_ok, Sem.run_pure]
    simp only [execOp, Option.map_none, Sem.run_bind, h2, Result.andThen_ok, Sem.run_pure]
  simp only [Oper.wp, hr, Oper.upon]
  refine hkk _ _ Φ _ ⟨w.heap.size, rfl, rfl, rfl⟩ ?_ ?_
  · refine (hm.ext (Ext.alloc No w _) (fun _ _ x => x)).push ?_ (by simp [bsAll, Ent.bs]) ?_
    · intro en hen; simp at hen; subst hen
      exact ⟨#[], 0, heap_alloc_new w _, rfl, by simp, by simp, by simp⟩
    · intro g hg h
      simp [bsAll, Ent.bs] at hg; subst hg; exact Nat.lt_irrefl _ (hm.lt h)
  · refine hs.step (Ext.alloc No w _) (fun _ _ x => x.elim) ?_
    intro k' hk' hA
    unfold gs at hA
    rw [bsAll, List.flatMap_append] at hA
    rcases List.mem_append.1 hA with h | h
    · exact h
    · simp [Ent.bs] at h; subst h; exact absurd hk' (Nat.lt_irrefl _)
theorem set_at_same {α : Type} {l : List α} {j : Nat} {x : α} (h : l[j]? = some x) : l.set j x = l := by
  obtain ⟨hlt, rfl⟩ := List.getElem?_eq_some_iff.1 h
  simp
theorem born_modify (k v : Value) : ∀ (l : List MapEntry) (j : Nat), (l.modify j fun e => { e with key := k, val := v }).map (·.born) = l.map (·.born)
  | [], _ => by simp
  | e :: r, 0 => by simp
  | e :: r, j + 1 => by simp [List.modify_succ_cons, born_modify k v r j]
theorem kv_modify (k v : Value) : ∀ (l : List MapEntry) (j : Nat), (l.modify j fun e => { e with key := k, val := v }).map (fun e => (e.key, e.val)) = (l.map (fun e => (e.key, e.val))).set j (k, v)
  | [], _ => by simp
  | e :: r, 0 => by simp
  | e :: r, j + 1 => by simp [List.modify_succ_cons, kv_modify k v r j]
theorem MapAt.lt {w g l es clock} (h : MapAt w g l es clock) : g < w.heap.size := (Array.getElem?_eq_some_iff.1 h.1).1
theorem setBlock_at {w : World} {g : Nat} (h : g < w.heap.size) (o : Obj) : (setBlock w g o).heap[g]? = some o := by simp [setBlock, h]
theorem Ext.setBlock (w : World) (g : Nat) (o : Obj) : Ext (· = g) w (setBlock w g o) :=
  ⟨rfl, rfl, rfl, by simp [Go.ChangeMaps.setBlock], fun k _ hk => by show (w.heap.setIfInBounds g o)[k]? = _; rw [Array.getElem?_setIfInBounds_ne (fun e => hk e.symm)]⟩
/-- an entry of one's own written over, its blocks being the same -/
theorem upd_ent {m : Mem} {Φ : World → Prop} {w w' : World} {i : Nat} {e e' : Ent} {X : Nat → Prop} (h : MemOk m w) (hs : Sup Φ (gs m) w) (hi : m[i]? = some e) (hx : Ext X w w') (hX : ∀ g, X g → g ∈ e.bs) (hb : e'.bs = e.bs) (hok : e'.ok w') : MemOk (m.set i e') w' ∧ Sup Φ (gs (m.set i e')) w' := by
  refine ⟨h.set hi hx hX hb hok, ?_⟩
  unfold gs
  rw [bsAll_set hi hb]
  exact hs.step hx (fun k _ hk => mem_bsAll.2 ⟨e, List.mem_of_getElem? hi, hX k hk⟩) (fun _ _ x => x)
theorem run_setObj_map {w : World} {g : Nat} {es : Array MapEntry} {c : Nat} (hr : w.heap[g]? = some (.map es c)) (o' : Array MapEntry) (c' : Nat) : (setObj g (.map o' c')).run P w = .ok () (setBlock w g (.map o' c')) := by
  simp [setObj, Sem.run, hr, setBlock]
/-- m[k] = v -/
theorem EV.mapUpdate {t x y z g k v} {l l' : List (Value × Value)} (i : Nat) (K : KeyT P kt dom) (ht : P.underlying t = some (.map kt et)) (hx : ev fr x = some (.map (some g))) (hy : ev fr y = some k) (hz : ev fr z = some v) (hm : m[i]? = some (.mp g l)) (hd : ∀ p ∈ l, dom p.1) (hk : dom k) (ho : MPut l k v l') :
    EV P n fr m Φ ⟨none, .mapUpdate t x y z, ty, pos, af, gd⟩ (fun v' m' Φ' => m' = m.set i (.mp g l') ∧ Φ' = Φ) := fun a w next Q hf hmo hs hkk => by
  obtain ⟨es, clock, hma⟩ := hmo.ok _ (List.mem_of_getElem? hm)
  have hg : (getObj g).run P w = .ok (.map es clock) w := by simp [getObj, Sem.run, hma.1]
  have hc := K.check false k w hk
  obtain ⟨h1, h2, h3, h4, h5⟩ := id hma
  rcases ho with ⟨j, v0, hj, rfl⟩ | ⟨hn, rfl⟩
  · have hfind := hma.find_hit K hd hj w
    have hes : (es[j]?).map (·.key) = some k := by
      have : (es.toList.map (fun e => (e.key, e.val)))[j]? = some (k, v0) := by rw [h2]; exact hj
      rw [List.getElem?_map] at this
      rw [← Array.getElem?_toList]
      cases he : es.toList[j]? with
      | none => rw [he] at this; simp at this
      | some e => rw [he] at this; simp at this; simp [this.1]
    have hstay : (Instr.keyThatStays k k).run P w = .ok k w := by simp only [Instr.keyThatStays, K.bits k hk, if_true, Sem.run_pure]
    have hr : (execOp a.eval ⟨none, .mapUpdate t x y z, ty, pos, af, gd⟩).run P w = .ok .skip (setBlock w g (.map (es.modify j fun e => { e with key := k, val := v }) clock)) := by
      simp only [execOp, hf.ev hx, hf.ev hy, hf.ev hz, Instr.mapUpdate, Sem.run_bind, run_underlying ht, Result.andThen_ok, hg, hc, hfind, hes, Option.getD_some, hstay, run_setObj_map hma.1, Sem.run_pure]
    simp only [Oper.wp, hr, Oper.upon]
    obtain ⟨k1, k2⟩ := upd_ent (e' := .mp g (l.set j (k, v))) hmo hs hm (Ext.setBlock w g _) (fun _ h => by simp [Ent.bs, h]) rfl ⟨es.modify j fun e => { e with key := k, val := v }, clock, setBlock_at hma.lt _, by rw [Array.toList_modify, kv_modify, h2], by
        rw [List.map_set]
        have : (l.map (·.1)).set j k = l.map (·.1) := set_at_same (by simp [hj])
        rw [this]; exact h3, by
        rw [Array.toList_modify]
        have : (es.toList.modify j fun e => { e with key := k, val := v }).map (·.born) = es.toList.map (·.born) := born_modify _ _ _ _
        rw [this]; exact h4, by
        intro e he
        rw [Array.toList_modify] at he
        have h6 : e.born ∈ (es.toList.modify j fun e => { e with key := k, val := v }).map (·.born) := List.mem_map.2 ⟨e, he, rfl⟩
        rw [born_modify] at h6
        obtain ⟨e', he', h7⟩ := List.mem_map.1 h6
        rw [← h7]; exact h5 e' he'⟩
    exact hkk undef _ _ _ ⟨rfl, rfl⟩ k1 k2
  · have hfind := hma.find_miss K hd hk hn w
    have hr : (execOp a.eval ⟨none, .mapUpdate t x y z, ty, pos, af, gd⟩).run P w = .ok .skip (setBlock w g (.map (es.push { key := k, val := v, born := clock }) (clock + 1))) := by
      simp only [execOp, hf.ev hx, hf.ev hy, hf.ev hz, Instr.mapUpdate, Sem.run_bind, run_underlying ht, Result.andThen_ok, hg, hc, hfind, run_setObj_map hma.1, Sem.run_pure]
    simp only [Oper.wp, hr, Oper.upon]
    obtain ⟨k1, k2⟩ := upd_ent (e' := .mp g (l ++ [(k, v)])) hmo hs hm (Ext.setBlock w g _) (fun _ h => by simp [Ent.bs, h]) rfl ⟨es.push { key := k, val := v, born := clock }, clock + 1, setBlock_at hma.lt _, by simp [h2], by
        rw [List.map_append, List.nodup_append]
        refine ⟨h3, by simp, ?_⟩
        intro p hp q hq e
        simp at hq
        obtain ⟨p', hp', rfl⟩ := List.mem_map.1 hp
        exact hn p' hp' (e.trans hq), by
        simp only [Array.toList_push, List.map_append, List.map_cons, List.map_nil]
        rw [List.nodup_append]
        refine ⟨h4, by simp, ?_⟩
        intro p hp q hq e
        simp at hq
        obtain ⟨p', hp', rfl⟩ := List.mem_map.1 hp
        have := h5 p' hp'
        omega, by
        intro e he
        simp at he
        rcases he with he | rfl
        · have := h5 e (by simpa using he); omega
        · simp⟩
    exact hkk undef _ _ _ ⟨rfl, rfl⟩ k1 k2
end
end Go.Sx
namespace Go.Sx
theorem MemOk.rowsAt {m : Mem} {w : World} {i : Nat} {rs : List ORow} {r : ORow} (h : MemOk m w) (hi : m[i]? = some (.rows rs)) (hr : r ∈ rs) : w.ownsRow 0 r.e r.size r.v r.n r.xs :=
  h.ok (.rows rs) (List.mem_of_getElem? hi) r hr
theorem nodup_count {l : List Nat} : l.Nodup ↔ ∀ a, l.count a ≤ 1 := List.nodup_iff_count
/-- fewer rows than another list -/
structure LessR (rs' rs : List ORow) : Prop where
  mem : ∀ r ∈ rs', r ∈ rs
  cnt : ∀ b, (rs'.flatMap ORow.bs).count b ≤ (rs.flatMap ORow.bs).count b
theorem LessR.refl (rs : List ORow) : LessR rs rs := ⟨fun _ h => h, fun _ => Nat.le_refl _⟩
theorem LessR.trans {a b c : List ORow} (h : LessR a b) (h' : LessR b c) : LessR a c := ⟨fun r hr => h'.mem r (h.mem r hr), fun b => Nat.le_trans (h.cnt b) (h'.cnt b)⟩
theorem LessR.append {a b a' b' : List ORow} (h : LessR a b) (h' : LessR a' b') : LessR (a ++ a') (b ++ b') :=
  ⟨fun r hr => by rcases List.mem_append.1 hr with x | x; exact List.mem_append.2 (.inl (h.mem r x)); exact List.mem_append.2 (.inr (h'.mem r x)), fun x => by simp only [List.flatMap_append, List.count_append]; have := h.cnt x; have := h'.cnt x; omega⟩
theorem LessR.perm {a b : List ORow} (h : a.Perm b) : LessR a b := ⟨fun _ hr => h.mem_iff.1 hr, fun x => Nat.le_of_eq ((h.flatMap_right ORow.bs).count_eq x)⟩
theorem LessR.sub {a b : List ORow} (h : a.Sublist b) : LessR a b := by
  induction h with
  | slnil => exact LessR.refl _
  | cons x h ih => exact ⟨fun r hr => List.mem_cons_of_mem _ (ih.mem r hr), fun b => by simp only [List.flatMap_cons, List.count_append]; have := ih.cnt b; omega⟩
  | cons_cons x h ih => exact ⟨fun r hr => by rcases List.mem_cons.1 hr with rfl | hr; exact List.mem_cons_self; exact List.mem_cons_of_mem _ (ih.mem r hr), fun b => by simp only [List.flatMap_cons, List.count_append]; have := ih.cnt b; omega⟩
theorem LessR.set {rs : List ORow} {r : ORow} : ∀ {p : Nat}, LessR (rs.set p r) (r :: rs) := by
  induction rs with
  | nil => intro p; exact ⟨fun x hx => by simp at hx, fun b => by simp⟩
  | cons x rs ih =>
    intro p
    cases p with
    | zero => exact ⟨fun y hy => by simp at hy ⊢; rcases hy with h | h; exact .inl h; exact .inr (.inr h), fun b => by simp only [List.set_cons_zero, List.flatMap_cons, List.count_append]; omega⟩
    | succ p =>
      have := ih (p := p)
      exact ⟨fun y hy => by
        simp only [List.set_cons_succ, List.mem_cons] at hy ⊢
        rcases hy with h | h
        · exact .inr (.inl h)
        · rcases List.mem_cons.1 (this.mem y h) with h | h
          · exact .inl h
          · exact .inr (.inr h), fun b => by
        have := this.cnt b
        simp only [List.set_cons_succ, List.flatMap_cons, List.count_append] at *
        omega⟩
theorem count_bsAll_set {m : Mem} {i : Nat} {e e' : Ent} (h : m[i]? = some e) (b : Nat) : (bsAll (m.set i e')).count b + e.bs.count b = (bsAll m).count b + e'.bs.count b := by
  induction m generalizing i with
  | nil => simp at h
  | cons x r ih =>
    cases i with
    | zero =>
      simp at h; subst h
      simp only [List.set_cons_zero, bsAll, List.flatMap_cons, List.count_append]; omega
    | succ i =>
      simp at h
      have := ih h
      simp only [List.set_cons_succ, bsAll, List.flatMap_cons, List.count_append] at *; omega
/-- told otherwise: places i and j -/
theorem reMem2 {m : Mem} {i j : Nat} {a b a' b' : Ent} (hi : m[i]? = some a) (hj : m[j]? = some b) (hij : i ≠ j) (hok : ∀ w, a.ok w → b.ok w → a'.ok w ∧ b'.ok w) (hc : ∀ x, (a'.bs ++ b'.bs).count x ≤ (a.bs ++ b.bs).count x) {w : World} (h : MemOk m w) :
    ∃ _ : Unit, MemOk ((m.set j b').set i a') w ∧ ∀ g, gs ((m.set j b').set i a') g → gs m g := by
  have hi' : (m.set j b')[i]? = some a := by rw [List.getElem?_set_ne (Ne.symm hij)]; exact hi
  have hcnt : ∀ x, (bsAll ((m.set j b').set i a')).count x ≤ (bsAll m).count x := fun x => by
    have h1 := count_bsAll_set (e' := a') hi' x
    have h2 := count_bsAll_set (e' := b') hj x
    have h3 := hc x
    simp only [List.count_append] at h3
    omega
  obtain ⟨ha, hb⟩ := hok w (h.ok _ (List.mem_of_getElem? hi)) (h.ok _ (List.mem_of_getElem? hj))
  refine ⟨(), ⟨nodup_count.2 fun x => Nat.le_trans (hcnt x) (nodup_count.1 h.nodup x), fun en hen => ?_⟩, fun g hg => ?_⟩
  · rcases List.mem_or_eq_of_mem_set hen with hen | rfl
    · rcases List.mem_or_eq_of_mem_set hen with hen | rfl
      · exact h.ok en hen
      · exact hb
    · exact ha
  · unfold gs at *
    have := List.count_pos_iff.2 hg
    exact List.count_pos_iff.1 (Nat.lt_of_lt_of_le this (hcnt g))
/-- a row laid among the rows (or in the place of some of them) -/
theorem absorb {m : Mem} {i j e size n : Nat} {v : Value} {xs : List Value} {rs rs' : List ORow} (hi : m[i]? = some (.rows rs)) (hj : m[j]? = some (.row e size v n xs)) (hij : i ≠ j) (hl : LessR rs' (⟨e, size, v, n, xs⟩ :: rs)) {w : World} (h : MemOk m w) :
    ∃ _ : Unit, MemOk ((m.set j (.rows [])).set i (.rows rs')) w ∧ ∀ g, gs ((m.set j (.rows [])).set i (.rows rs')) g → gs m g :=
  reMem2 (a' := .rows rs') (b' := .rows []) hi hj hij (fun w ha hb => ⟨fun r hr => by
    rcases List.mem_cons.1 (hl.mem r hr) with rfl | h
    · exact hb
    · exact ha r h, fun r hr => by simp at hr⟩) (fun x => by
      have := hl.cnt x
      simp only [Ent.bs, List.flatMap_nil, List.append_nil, List.flatMap_cons, List.count_append] at *
      simp only [ORow.bs] at this
      omega) h
end Go.Sx
namespace Go.Sx
section
variable {P : Program} {n : Nat} {fr : Fr} {m : Mem} {Φ : World → Prop} {d : Option Tmp} {ty : TypeId} {pos : String} {af : Array Edge} {gd : Option (Nat × Bool)}
/-- an array, whole, as a slice -/
theorem PV.sliceArr {x t e k b o} {len : Nat} (hu : P.underlying t = some (.array len e)) (hk : ∀ w, (sizeOf e).run P w = .ok k w) (hx : ev fr x = some (.pointer (some ⟨b, o, none⟩))) (h0 : len ≠ 0) :
    PV P fr m Φ ⟨d, .slice t x none none none, ty, pos, af, gd⟩ (.slice (some ⟨b, o, none⟩) len len) := fun a n w hf _ _ => by
  have hu' : ∀ w, (underlying t).run P w = .ok (.array len e) w := fun w => by simp [underlying, hu]
  simp [execOp, hf.ev hx, Instr.sliceAt, Instr.slice, hu', hk, Instr.sliceBounds, Instr.sliceBound, h0, addr_add, Instr.sureAddr]
def xorI (k : IntKind) (a b : Int) : Int := k.wrap ((BitVec.ofInt k.bits a ^^^ BitVec.ofInt k.bits b).toNat)
theorem PV.xor {x y t u k} {p q : Int} (hx : ev fr x = some (.int k p)) (hy : ev fr y = some (.int k q)) : PV P fr m Φ ⟨d, .binOp .xor t x y u, ty, pos, af, gd⟩ (.int k (xorI k p q)) := fun a n w hf _ _ => by
  simp [execOp, hf.ev hx, hf.ev hy, eqGuard_int, binOp, Op.intBits, xorI]
end
end Go.Sx
namespace Go.Sx
section
variable {P : Program} {n : Nat} {fr : Fr} {m : Mem} {Φ : World → Prop} {d : Option Tmp} {ty : TypeId} {pos : String} {af : Array Edge} {gd : Option (Nat × Bool)}
/-- a whole block written over -/
theorem wr_all (l : List Value) : ∀ (A : List Value), A.length = l.length → wr A 0 l = l := by
  intro A h
  rw [wr_eq l A 0 (by omega)]
  simp [← h]
theorem EV.storeW {x y t k g b} {A : List Value} {v : Value} (i : Nat) (hT : TF P t b k) (hx : ev fr x = some (.pointer (some ⟨g, 0, none⟩))) (hy : ev fr y = some v) (hm : m[i]? = some (.blk g A))
    (hk : v.cells.toList.length = k) (hone : allOne v.cells.toList = true) (hlen : A.length = k) {B : List Value} (hB : v.cells.toList = B) :
    EV P n fr m Φ ⟨d, .store t x y, ty, pos, af, gd⟩ (fun v' m' Φ' => v' = undef ∧ m' = m.set i (.blk g B) ∧ Φ' = Φ) := by
  have := EV.store (P := P) (n := n) (m := m) (Φ := Φ) (d := d) (ty := ty) (pos := pos) (af := af) (gd := gd) (x := x) (y := y) (t := t) i hT hx hy hm hk hone (by omega)
  rwa [wr_all _ _ (by omega), hB] at this
theorem cells_valAt (l : List Value) : (valAt true l).cells.toList = l := rfl
theorem cells_agg (l : List Value) : (Value.agg l.toArray).cells.toList = l := rfl
theorem EV.boxB {x v e} {B : List Value} (hx : ev fr x = some v) (hB : v.cells.toList = B) : EV P n fr m Φ ⟨d, .box e x, ty, pos, af, gd⟩ (fun v' m' Φ' => ∃ g, v' = .pointer (some ⟨g, 0, none⟩) ∧ m' = m ++ [.blk g B] ∧ Φ' = Φ) := by
  subst hB; exact EV.box hx
theorem EV.allocB {e z} {B : List Value} (hz : ∀ w, (zeroValue e).run P w = .ok z w) (hB : z.cells.toList = B) : EV P n fr m Φ ⟨d, .alloc e, ty, pos, af, gd⟩ (fun v' m' Φ' => ∃ g, v' = .pointer (some ⟨g, 0, none⟩) ∧ m' = m ++ [.blk g B] ∧ Φ' = Φ) := by
  subst hB; exact EV.alloc hz
end
end Go.Sx
namespace Go.Sx
/-! pieces laid in: told so that reading them is short -/
def spl (A : List Value) (o : Nat) (l : List Value) : List Value := A.take o ++ (l ++ A.drop (o + l.length))
theorem wr_spl {A l : List Value} {o : Nat} (h : o + l.length ≤ A.length) : wr A o l = spl A o l := by rw [wr_eq l A o h, spl, List.append_assoc]
theorem spl_length {A l : List Value} {o : Nat} (h : o + l.length ≤ A.length) : (spl A o l).length = A.length := by rw [← wr_spl h, wr_length]
def bldS : List (Nat × Nat × Nat) → List Value → List Value → List Value
  | (_, off, _) :: r, v :: vs, A => bldS r vs (spl A off v.cells.toList)
  | _, _, A => A
theorem bld_bldS : ∀ {ps : List (Nat × Nat × Nat)} {vs A : List Value}, bldOk A.length ps vs → bld ps vs A = bldS ps vs A
  | [], [], _, _ => rfl
  | [], _ :: _, _, h => h.elim
  | _ :: _, [], _, h => h.elim
  | (i, off, k) :: r, v :: vs, A, h => by
    obtain ⟨h1, h2, h3⟩ := h
    have hle : off + v.cells.toList.length ≤ A.length := by rw [h1]; exact Nat.le_of_ble_eq_true h2
    rw [bld, bldS, wr_spl hle]
    exact bld_bldS (by rw [spl_length hle]; exact h3)
section
variable {P : Program} {n : Nat} {fr : Fr} {m : Mem} {Φ : World → Prop} {d : Option Tmp} {ty : TypeId} {pos : String} {af : Array Edge} {gd : Option (Nat × Bool)}
theorem PV.buildS {t zero place} {B : List Value} {ixs : List (Nat × Operand)} {xs : List Operand} {vs : List Value} (ps : List (Nat × Nat × Nat)) (hB : BT P t zero place) (hxs : ixs.map (·.2) = xs) (hi : ixs.map (·.1) = ps.map (·.1))
    (hv : evs fr xs = some vs) (hp : ∀ p ∈ ps, place p.1 = some p.2) (ho : bldOk zero.length ps vs) (he : bldS ps vs zero = B) : PV P fr m Φ ⟨d, .build t ixs.toArray, ty, pos, af, gd⟩ (.agg B.toArray) := by
  have := PV.build (fr := fr) (m := m) (Φ := Φ) (d := d) (ty := ty) (pos := pos) (af := af) (gd := gd) (t := t) ps hB hxs hi hv hp ho
  rwa [bld_bldS ho, he] at this
theorem EV.storeS {x y t k g o b} {A B : List Value} {v : Value} (i : Nat) (hT : TF P t b k) (hx : ev fr x = some (.pointer (some ⟨g, o, none⟩))) (hy : ev fr y = some v) (hm : m[i]? = some (.blk g A))
    (hk : v.cells.toList.length = k) (hone : allOne v.cells.toList = true) (hlen : o + k ≤ A.length) (hB : v.cells.toList = B) :
    EV P n fr m Φ ⟨d, .store t x y, ty, pos, af, gd⟩ (fun v' m' Φ' => v' = undef ∧ m' = m.set i (.blk g (spl A o B)) ∧ Φ' = Φ) := by
  have := EV.store (P := P) (n := n) (m := m) (Φ := Φ) (d := d) (ty := ty) (pos := pos) (af := af) (gd := gd) (x := x) (y := y) (t := t) i hT hx hy hm hk hone hlen
  rwa [wr_spl (by omega), hB] at this
end
end Go.Sx
