/- A part of the proof: Sl (for the law Vf). -/
import Derived.Test.YtofmaoickidjcaaVfZl
import Derived.Shelf.Sort.Plain
set_option linter.all false
/-! # slices.Sort of strings -/
namespace Go.Sx
open Go.RowKit Go.Sort Go.Proofs
def sortL (l : List ByteArray) : List ByteArray := ((l.map (fun b => b.data.toList)).mergeSort (fun x y => decide (x ≤ y))).map (fun b => ⟨b.toArray⟩)
def sortG (l : List ByteArray) : Option (List ByteArray) := if l.length < 1000000 then some (sortL l) else none
theorem sortG_some {l l' : List ByteArray} (h : sortG l = some l') : l.length < 1000000 ∧ sortL l = l' := by
  unfold sortG at h
  split at h
  · rename_i hl; exact ⟨hl, Option.some.inj h⟩
  · cases h
theorem encL_str (l : List ByteArray) : ∀ hh, encL tStr l hh = l.map Value.string := by
  induction l with
  | nil => intro _; rfl
  | cons x r ih => intro hh; show Value.string x :: encL tStr r _ = _; rw [ih]; rfl
theorem sortL_len (l : List ByteArray) : (sortL l).length = l.length := by simp [sortL, List.length_mergeSort]
theorem sortG_len {l l' : List ByteArray} (h : sortG l = some l') : l.length = l'.length := by rw [← (sortG_some h).2, sortL_len]
section
variable {P : Program} {n : Nat} {fr : Fr} {m : Mem} {Φ : World → Prop} {d : Option Tmp} {ty : TypeId} {pos : String} {af : Array Edge} {gd : Option (Nat × Bool)}
theorem putRow_heap {w : World} {g : Nat} {cur : Array Value} {e : TypeId} {k : Nat} {D : Array (List UInt8)} {os : Array Obj} (h : w.heap[g]? = some (.cells cur e (0, 0))) :
    (grow (putRow encStr (Sort.ahead w k) g 0 D) os).heap[g]? = some (.cells (putCells encStr 0 D cur) e (0, 0)) := by
  have hg := (Array.getElem?_eq_some_iff.1 h).1
  simp only [grow, putRow, mapBlock, Sort.ahead]
  rw [Array.getElem?_append_left (by simpa using hg), Array.getElem?_modify, if_pos rfl, h]; rfl
theorem putRow_ext {w : World} {g : Nat} {k : Nat} {D : Array (List UInt8)} {os : Array Obj} : Ext (fun b => b = g) w (grow (putRow encStr (Sort.ahead w k) g 0 D) os) := by
  refine ⟨rfl, rfl, rfl, ?_, ?_⟩
  · simp [grow, putRow, mapBlock, Sort.ahead]
  · intro b hb hn
    simp only [grow, putRow, mapBlock, Sort.ahead]
    rw [Array.getElem?_append_left (by simpa using hb), Array.getElem?_modify, if_neg (fun e => hn e.symm)]
theorem EV.sortQ {f xs ts e} {l l' : List ByteArray} {q : Hd} (i : Nat) (hc : ∀ args w, (callFunc f args).run P w = .ok (.enter f args) w)
    (hv : evs fr xs = some [.slice q.a l.length q.cap]) (hm : m[i]? = some (rowE tStr e l q)) (hg : sortG l = some l')
    (hN : ∀ (p : Option Addr) (cap : Nat) (w : World), Calls P f #[.slice p 0 cap] w fun e w' => e = .returned (.tuple #[]) ∧ w' = w)
    (hS : ∀ (blk off cap : Nat) (ss : List (List UInt8)) (w : World), Holds encStr w blk off ss.toArray → blk < w.heap.size → ss.length < 4611686018427387904 →
      Calls P f #[.slice (some ⟨blk, off, none⟩) ss.length cap] w fun e w' => e = .returned (.tuple #[]) ∧ ∃ n os, w' = grow (putRow encStr (Sort.ahead w n) blk off (ss.mergeSort fun x y => decide (x ≤ y)).toArray) os) :
    EV P n fr m Φ ⟨d, .call ⟨.value (.func f), xs.toArray, ts⟩, ty, pos, af, gd⟩ (fun v' m' Φ' => v' = .tuple #[] ∧ m' = m.set i (rowE tStr e l' q) ∧ Φ' = Φ) := by
  obtain ⟨hlen, rfl⟩ := sortG_some hg
  refine EV.call (K := _) hc hv (fun w hmo hs => ?_)
  have hrow : w.ownsRow 0 e 1 (.slice q.a l.length q.cap) l.length (encL tStr l q.sub) := hmo.ok _ (List.mem_of_getElem? hm)
  have hsame : ∀ (l2 : List ByteArray), (rowE tStr e l2 q).bs = (rowE tStr e l q).bs := by
    intro l2; simp only [rowE, Ent.bs]
    rcases hq : q.a with _ | a <;> rfl
  obtain ⟨hxl, hcase⟩ := hrow
  rcases hcase with ⟨h1, h2⟩ | ⟨g, cap, cur, h1, _, hgg, h3, h4, h5, h6⟩
  · obtain rfl := List.length_eq_zero_iff.1 h2
    simp only [Value.slice.injEq] at h1
    refine (hN q.a q.cap w).mono ?_
    rintro e' w' ⟨rfl, rfl⟩
    have hs0 : sortL [] = [] := List.length_eq_zero_iff.1 (by rw [sortL_len]; rfl)
    rw [hs0]
    have hset : m.set i (rowE tStr e [] q) = m := by
      apply List.ext_getElem?
      intro j
      rw [List.getElem?_set]
      split
      · rename_i hij; subst hij
        rw [hm, if_pos (List.getElem?_eq_some_iff.1 hm).1]
      · rfl
    exact ⟨_, _, _, rfl, ⟨rfl, rfl, rfl⟩, by rw [hset]; exact hmo, by rw [hset]; exact hs⟩
  · simp only [Value.slice.injEq] at h1
    obtain ⟨hqa, _, hqc⟩ := h1
    have hcur : cur.toList.take l.length = l.map Value.string := by rw [← encL_str l q.sub]; simpa using h6
    have hsz : cur.size = cap := by simpa using h5
    have hss : (l.map (fun b => b.data.toList)).length = l.length := by simp
    have hH : Holds encStr w g 0 (l.map (fun b => b.data.toList)).toArray := by
      intro j hj
      have hj' : j < l.length := by simpa using hj
      refine ⟨?_, ?_⟩
      · simp only [World.cell?, hgg, Nat.zero_add]
        have hc1 : cur[j]? = some (Value.string l[j]) := by
          have : (cur.toList.take l.length)[j]? = (l.map Value.string)[j]? := by rw [hcur]
          rw [List.getElem?_take, if_pos hj', Array.getElem?_toList] at this
          rw [this]; simp [hj']
        simp only [Option.isSome_none, Bool.false_eq_true, if_false, hc1]
        rw [getElem!_pos _ j hj]
        simp
      · simp [World.frozen?, hgg]
    have hcall := hS g 0 q.cap (l.map (fun b => b.data.toList)) w hH (Array.getElem?_eq_some_iff.1 hgg).1 (by rw [hss]; omega)
    rw [hss, ← hqa] at hcall
    refine hcall.mono ?_
    rintro e' w' ⟨rfl, k, os, rfl⟩
    have hD : ((l.map (fun b => b.data.toList)).mergeSort fun x y => decide (x ≤ y)).toArray.size = l.length := by simp [List.length_mergeSort]
    obtain ⟨k1, k2⟩ := upd_ent (X := fun b => b = g) (e' := rowE tStr e (sortL l) q) hmo hs hm (putRow_ext (k := k) (D := ((l.map (fun b => b.data.toList)).mergeSort fun x y => decide (x ≤ y)).toArray) (os := os)) (fun b hb => by
        obtain rfl : b = g := hb
        simp only [rowE, Ent.bs, hqa, Value.ownBlock]; simp) (hsame _) (by
        refine ⟨by rw [encL_len], .inr ⟨g, cap, _, by rw [hqa, ← hqc], Nat.zero_le _, putRow_heap hgg, by rw [sortL_len]; exact h3, h4, by simp [putCells, hsz, tStr], ?_⟩⟩
        rw [encL_str, sortL_len]
        show (putCells encStr 0 _ cur).toList.take (l.length * 1) = _
        rw [Nat.mul_one]
        apply List.ext_getElem?
        intro j
        rw [List.getElem?_take]
        split
        · rename_i hj
          have hjc : j < cur.size := by omega
          have hjD : j < ((l.map (fun b => b.data.toList)).mergeSort fun x y => decide (x ≤ y)).length := by simpa [List.length_mergeSort] using hj
          rw [Array.getElem?_toList]
          simp only [putCells, Array.getElem?_mapIdx, Nat.zero_le, Nat.zero_add, hD, hj, and_self, if_true, Nat.sub_zero, sortL, List.map_map, List.getElem?_map]
          rw [Array.getElem?_eq_getElem hjc, List.getElem?_eq_getElem hjD]
          simp only [Option.map_some]
          rw [getElem!_pos _ j (by rw [hD]; exact hj)]
          simp
        · rename_i hj
          rw [List.getElem?_eq_none (by simp [sortL_len]; omega)])
    exact ⟨_, _, _, rfl, ⟨rfl, rfl, rfl⟩, k1, k2⟩
/-- '<' on strings -/
def sltB (p q : ByteArray) : Bool := decide (p.data.toList < q.data.toList)
def sleB (p q : ByteArray) : Bool := sltB p q || decide (p = q)
theorem bytesLess_lt : ∀ (x y : List UInt8), Op.bytesLess x y = decide (x < y)
  | [], [] => by simp [Op.bytesLess]
  | _ :: _, [] => by simp [Op.bytesLess]
  | [], _ :: _ => by simp [Op.bytesLess]
  | a :: x, b :: y => by
    rw [Op.bytesLess, bytesLess_lt x y]
    simp only [List.cons_lt_cons_iff]
    by_cases h1 : a < b <;> by_cases h2 : a = b <;> by_cases h3 : x < y <;> simp [h1, h2, h3]
theorem less_eq (p q : ByteArray) : Op.bytesLess p.toList q.toList = sltB p q := by rw [bytesLess_lt, Lib.toList_data, Lib.toList_data]; rfl
theorem eqBytes (p q : ByteArray) : (p.toList == q.toList) = decide (p = q) := by
  rw [← beq_toListBytes]
  obtain ⟨⟨x⟩⟩ := p
  obtain ⟨⟨y⟩⟩ := q
  show ((⟨x⟩ : Array UInt8) == ⟨y⟩) = _
  rw [Bool.eq_iff_iff]; simp
theorem PV.lssStr {x y t u} {p q : ByteArray} (hx : ev fr x = some (.string p)) (hy : ev fr y = some (.string q)) : PV P fr m Φ ⟨d, .binOp .lss t x y u, ty, pos, af, gd⟩ (.bool (sltB p q)) := fun a n w hf _ _ => by
  simp [execOp, hf.ev hx, hf.ev hy, eqGuard, binOp, Op.stringOp, less_eq]
theorem PV.leqStr {x y t u} {p q : ByteArray} (hx : ev fr x = some (.string p)) (hy : ev fr y = some (.string q)) : PV P fr m Φ ⟨d, .binOp .leq t x y u, ty, pos, af, gd⟩ (.bool (sleB p q)) := fun a n w hf _ _ => by
  simp [execOp, hf.ev hx, hf.ev hy, eqGuard, binOp, Op.stringOp, less_eq, eqBytes, sleB]
theorem PV.gtrStr {x y t u} {p q : ByteArray} (hx : ev fr x = some (.string p)) (hy : ev fr y = some (.string q)) : PV P fr m Φ ⟨d, .binOp .gtr t x y u, ty, pos, af, gd⟩ (.bool (!sleB p q)) := fun a n w hf _ _ => by
  simp [execOp, hf.ev hx, hf.ev hy, eqGuard, binOp, Op.stringOp, less_eq, eqBytes, sleB]
theorem PV.geqStr {x y t u} {p q : ByteArray} (hx : ev fr x = some (.string p)) (hy : ev fr y = some (.string q)) : PV P fr m Φ ⟨d, .binOp .geq t x y u, ty, pos, af, gd⟩ (.bool (!sltB p q)) := fun a n w hf _ _ => by
  simp [execOp, hf.ev hx, hf.ev hy, eqGuard, binOp, Op.stringOp, less_eq]
/-- bytes as a string -/
def strB (l : List Int) : ByteArray := l.foldl (fun s n => s.push (UInt8.ofNat n.toNat)) ByteArray.empty
theorem pushAll {w : World} : ∀ (l : List Int) (s : ByteArray), (forIn (m := Sem) (l.map (Value.int .u8)) s (fun c r => (match c with
      | .int .u8 n => pure (.yield (r.push (UInt8.ofNat n.toNat)))
      | _ => do
        stuck "bytesToString: byte expected"
        pure (.yield r)))).run P w = .ok (l.foldl (fun s n => s.push (UInt8.ofNat n.toNat)) s) w := by
  intro l
  induction l with
  | nil => intro s; simp
  | cons x r ih => intro s; simp only [List.map_cons, List.forIn_cons, Sem.run_bind, Sem.run_pure, Result.andThen_ok, List.foldl_cons]; exact ih _
theorem PV.bytesStr {x t u e} {l : List Int} {q : Hd} (ht : P.underlying t = some (.slice e)) (hu : P.underlying u = some .string) (he : P.underlying e = some (.int .u8)) (hsrc : ∀ w, MemOk m w → Φ w → slR (tInt .u8) w l q) (hx : ev fr x = some (.slice q.a l.length q.cap)) :
    PV P fr m Φ ⟨d, .convert t u x, ty, pos, af, gd⟩ (.string (strB l)) := fun a n w hf hm hΦ => by
  have hs := hsrc w hm hΦ
  have hu' : ∀ w, (underlying u).run P w = .ok .string w := fun w => by simp [underlying, hu]
  have ht' : ∀ w, (underlying t).run P w = .ok (.slice e) w := fun w => by simp [underlying, ht]
  have he' : ∀ w, (underlying e).run P w = .ok (.int .u8) w := fun w => by simp [underlying, he]
  rcases l with _ | ⟨x0, r⟩
  · rcases hs.1.2 with ⟨_, _⟩ | ⟨h1, h2⟩
    · rcases h1 : q.a with _ | A <;> rw [h1] at hx <;>
      simp [execOp, hf.ev hx, convert, hu', ht', he', Conv.bytesToString, strB, loadCells, loadCellsFrom]
    · rw [h1] at hx
      simp [execOp, hf.ev hx, convert, hu', ht', he', Conv.bytesToString, strB, loadCells, loadCellsFrom]
  · have hqa := (hs.2 0 x0 rfl).1
    have hrow : ∀ j v, ((x0 :: r).map (Value.int .u8))[j]? = some v → w.cell? ⟨ab q.a, ao q.a + (0 + j), none⟩ = some v := by
      intro j v hj
      rw [List.getElem?_map] at hj
      cases hk : (x0 :: r)[j]? with
      | none => rw [hk] at hj; cases hj
      | some y =>
        rw [hk] at hj
        obtain rfl := Option.some.inj hj
        have := (hs.2 j y hk).2.1 0 (Value.int .u8 y) rfl
        simpa [tInt] using this
    have hload := run_loadCellsFrom (P := P) (w := w) (b := ab q.a) (o := ao q.a) ((x0 :: r).map (Value.int .u8)) 0 #[] hrow
    rw [hqa] at hx
    have hl : ((x0 :: r).map (Value.int .u8)).length = (x0 :: r).length := by simp
    rw [hl] at hload
    have hp := pushAll (P := P) (w := w) (x0 :: r) ByteArray.empty
    simp only [execOp, hf.ev hx, convert, Sem.run_bind, hu', ht', Result.andThen_ok, he', Conv.bytesToString, loadCells, hload]
    simp only [Array.empty_append, List.forIn_toArray]
    exact (congrArg (fun z => (Result.andThen z (fun a w' => Sem.run P (pure (Value.string a)) w')).andThen (fun a w' => Sem.run P (pure (Next.value a)) w')) hp).trans rfl
end
end Go.Sx
