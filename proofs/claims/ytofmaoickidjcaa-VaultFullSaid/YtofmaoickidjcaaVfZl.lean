/- A part of the proof: Zl (for the law Vf). -/
import Derived.Test.YtofmaoickidjcaaVfYl
set_option linter.all false
/-! # Maps that are ranged over -/
namespace Go.Sx
open Go.RowKit
def foldR {K S L : Type} (f : K → S → Option (S ⊕ L)) : List K → S → Option (S ⊕ L)
  | [], s => some (.inl s)
  | k :: r, s => match f k s with
    | none => none
    | some (.inl s') => foldR f r s'
    | some (.inr e) => some (.inr e)
open Classical in
/-- what comes out whatever the order -/
noncomputable def ordFree {K R : Type} (g : List K → Option R) (ks : List K) : Option R := if ∀ π, π.Perm ks → g π = g ks then g ks else none
theorem ordFree_all {K R : Type} {g : List K → Option R} {ks : List K} {r : R} (h : ordFree g ks = some r) : ∀ π, π.Perm ks → g π = some r := by
  unfold ordFree at h
  split at h
  · rename_i ha; intro π hp; rw [ha π hp, h]
  · cases h
theorem ordFree_eq {K R : Type} {g : List K → Option R} {ks : List K} {r : R} (h : ∀ π, π.Perm ks → g π = some r) : ordFree g ks = some r := by
  unfold ordFree
  rw [if_pos (fun π hp => by rw [h π hp, h ks (List.Perm.refl _)])]
  exact h ks (List.Perm.refl _)
def afterR {K S L : Type} (f : K → S → Option (S ⊕ L)) (kk : S → Option L) (r : L) (left : List K) : S ⊕ L → Prop
  | .inl s' => ∀ π, π.Perm left → andThen (foldR f π s') kk = some r
  | .inr l => l = r
theorem foldR_step {K S L : Type} {f : K → S → Option (S ⊕ L)} {kk : S → Option L} {r : L} {pre post : List K} {s : S} {k : K} (h : ∀ π, π.Perm (pre ++ k :: post) → andThen (foldR f π s) kk = some r) :
    ∃ y, f k s = some y ∧ afterR f kk r (pre ++ post) y := by
  have hp : ∀ π, π.Perm (pre ++ post) → (k :: π).Perm (pre ++ k :: post) := fun π hπ => (hπ.cons k).trans List.perm_middle.symm
  have h0 := h _ (hp _ (List.Perm.refl _))
  simp only [foldR] at h0
  cases hf : f k s with
  | none => rw [hf] at h0; simp [andThen] at h0
  | some y =>
    refine ⟨y, rfl, ?_⟩
    cases y with
    | inl s' => intro π hπ; have := h _ (hp π hπ); simpa only [foldR, hf] using this
    | inr l => rw [hf] at h0; show l = r; simpa [andThen] using h0
theorem afterR_inl {K S L : Type} {f : K → S → Option (S ⊕ L)} {kk : S → Option L} {r : L} {left : List K} {s : S} (h : afterR f kk r left (.inl s)) : ∀ π, π.Perm left → andThen (foldR f π s) kk = some r := h
theorem afterR_inr {K S L : Type} {f : K → S → Option (S ⊕ L)} {kk : S → Option L} {r l : L} {left : List K} (h : afterR f kk r left (.inr l)) : l = r := h
theorem foldR_nil {K S L : Type} {f : K → S → Option (S ⊕ L)} {kk : S → Option L} {r : L} {s : S} (h : ∀ π, π.Perm ([] : List K) → andThen (foldR f π s) kk = some r) : kk s = some r := h [] (List.Perm.refl _)

section
variable {P : Program} {n : Nat} {Q : Exit → Act → World → Prop} {fr : Fr} {m : Mem} {Φ : World → Prop} {d : Option Tmp} {ty : TypeId} {pos : String} {af : Array Edge} {gd : Option (Nat × Bool)} {kt et : TypeId}
theorem rng_ok {w : World} {g r : Nat} {l : List (Value × Value)} {left : List Value} {cur : Option Value} : (Ent.rng g r l left cur).ok w ↔ ∃ es clock seen, MapAt w g l es clock ∧ w.heap[r]? = some (.mapIter (some g) clock seen clock) ∧ left = (es.toList.filter (fun e => !seen.contains e.born)).map (·.key) ∧
      match cur with
      | none => True
      | some k => ∃ e ∈ es.toList, e.key = k ∧ seen.back? = some e.born := Iff.rfl
/-- an entry that takes a new block more -/
theorem MemOk.grow {w w' : World} {i : Nat} {e e' : Ent} {X : Nat → Prop} (h : MemOk m w) (hs : Sup Φ (gs m) w) (hi : m[i]? = some e) (hx : Ext X w w') (hX : ∀ g, X g → g ∈ e.bs) (hn' : e'.bs.Nodup) (hb : ∀ g, g ∈ e'.bs → g ∈ e.bs ∨ w.heap.size ≤ g) (hok : e'.ok w') :
    MemOk (m.set i e') w' ∧ Sup Φ (gs (m.set i e')) w' := h.setNew hs hi hx hX hn' hb hok
theorem EV.rangeM {x t g} {l : List (Value × Value)} (i : Nat) (ht : P.underlying t = some (.map kt et)) (hx : ev fr x = some (.map (some g))) (hm : m[i]? = some (.mp g l)) :
    EV P n fr m Φ ⟨d, .range t x, ty, pos, af, gd⟩ (fun v' m' Φ' => ∃ r, v' = .pointer (some ⟨r, 0, none⟩) ∧ m' = m.set i (.rng g r l (l.map (·.1)) none) ∧ Φ' = Φ) := fun a w next Q hf hmo hs hkk => by
  obtain ⟨es, clock, hma⟩ := hmo.ok _ (List.mem_of_getElem? hm)
  have hg : (getObj g).run P w = .ok (.map es clock) w := by simp [getObj, Sem.run, hma.1]
  have hn : (newObj (.mapIter (some g) clock #[] clock)).run P w = .ok w.heap.size (w.alloc (.mapIter (some g) clock #[] clock)) := rfl
  have hr : (execOp a.eval ⟨d, .range t x, ty, pos, af, gd⟩).run P w = .ok (.value (.pointer (some ⟨w.heap.size, 0, none⟩))) (w.alloc (.mapIter (some g) clock #[] clock)) := by
    simp only [execOp, hf.ev hx, Instr.range, Sem.run_bind, run_underlying ht, Result.andThen_ok, hg, Sem.run_pure, hn]
  simp only [Oper.wp, hr, Oper.upon]
  have hgl : g < w.heap.size := (Array.getElem?_eq_some_iff.1 hma.1).1
  obtain ⟨k1, k2⟩ := hmo.setNew (e' := .rng g w.heap.size l (l.map (·.1)) none) hs hm (Ext.alloc No w _) (fun _ h => h.elim) (by simp [Ent.bs]; omega) (by
    intro b hb; simp [Ent.bs] at hb; rcases hb with rfl | rfl
    · left; simp [Ent.bs]
    · right; exact Nat.le_refl _) ⟨es, clock, #[], hma.ext (Ext.alloc No w _) (fun x => x), heap_alloc_new w _, by
      rw [← hma.2.1, List.map_map, List.filter_eq_self.2 (fun x _ => by simp)]; rfl, trivial⟩
  exact hkk _ _ _ _ ⟨_, rfl, rfl, rfl⟩ k1 k2
theorem filter_push {es : List MapEntry} {seen : Array Nat} {e : MapEntry} (hn : (es.map (·.born)).Nodup) (he : e ∈ es) (hs : seen.contains e.born = false) :
    ∃ pre post, es.filter (fun x => !seen.contains x.born) = pre ++ e :: post ∧ es.filter (fun x => !(seen.push e.born).contains x.born) = pre ++ post := by
  have hm : e ∈ es.filter (fun x => !seen.contains x.born) := List.mem_filter.2 ⟨he, by rw [hs]; rfl⟩
  obtain ⟨pre, post, hpp⟩ := List.append_of_mem hm
  refine ⟨pre, post, hpp, ?_⟩
  have hsub : (pre ++ e :: post).Sublist es := hpp ▸ List.filter_sublist
  have hnd : ((pre ++ e :: post).map (·.born)).Nodup := hn.sublist (hsub.map _)
  rw [List.map_append, List.map_cons, List.nodup_append] at hnd
  obtain ⟨_, h2, h3⟩ := hnd
  rw [List.nodup_cons] at h2
  have e1 : es.filter (fun x => !(seen.push e.born).contains x.born) = (es.filter (fun x => !seen.contains x.born)).filter (fun x => decide (x.born ≠ e.born)) := by
    rw [List.filter_filter]
    apply List.filter_congr
    intro x _
    rw [Bool.eq_iff_iff]
    simp [Array.contains_push]
    exact and_comm
  rw [e1, hpp, List.filter_append, List.filter_cons_of_neg (by simp)]
  congr 1
  · rw [List.filter_eq_self]
    intro x hx
    simp only [ne_eq, decide_not, Bool.not_eq_true', decide_eq_false_iff_not]
    exact fun h => h3 _ (List.mem_map.2 ⟨x, hx, rfl⟩) _ (List.mem_cons_self) h
  · rw [List.filter_eq_self]
    intro x hx
    simp only [ne_eq, decide_not, Bool.not_eq_true', decide_eq_false_iff_not]
    exact fun h => h2.1 (h ▸ List.mem_map.2 ⟨x, hx, rfl⟩)
theorem EV.nextM {x g r} {l : List (Value × Value)} {left : List Value} {cur : Option Value} (i : Nat) (hx : ev fr x = some (.pointer (some ⟨r, 0, none⟩))) (hm : m[i]? = some (.rng g r l left cur)) :
    EV P n fr m Φ ⟨d, .next x false, ty, pos, af, gd⟩ (fun v' m' Φ' => (left = [] ∧ v' = .tuple #[.bool false] ∧ m' = m ∧ Φ' = Φ) ∨ (∃ pre k post v, left = pre ++ k :: post ∧ (k, v) ∈ l ∧ v' = .tuple #[.bool true, k, v] ∧ m' = m.set i (.rng g r l (pre ++ post) (some k)) ∧ Φ' = Φ)) := fun a w next Q hf hmo hs hkk => by
  obtain ⟨es, clock, seen, hma, hr, hleft, hcur⟩ := hmo.ok _ (List.mem_of_getElem? hm)
  obtain ⟨h1, h2, h3, h4, h5⟩ := id hma
  have hkn : (es.toList.map (·.key)).Nodup := by
    have : es.toList.map (·.key) = l.map (·.1) := by rw [← h2, List.map_map]; rfl
    rw [this]; exact h3
  rcases run_next_at (P := P) w ty r g clock clock seen es clock hr h1 h5 (Nat.le_refl _) with ⟨h0, hrun⟩ | ⟨e, he, w1, hw1, hrun⟩
  · have hr' : (execOp a.eval ⟨d, .next x false, ty, pos, af, gd⟩).run P w = .ok (.value (.tuple #[.bool false])) w := by simp [execOp, hf.ev hx, hrun]
    simp only [Oper.wp, hr', Oper.upon]
    refine hkk _ _ _ _ (.inl ⟨?_, rfl, rfl, rfl⟩) hmo hs
    rw [hleft]
    have : (leftOf es seen).toList = [] := by simpa using h0
    unfold leftOf at this
    rw [Array.toList_filter] at this
    rw [this]; rfl
  · have hr' : (execOp a.eval ⟨d, .next x false, ty, pos, af, gd⟩).run P w = .ok (.value (.tuple #[.bool true, e.key, e.val])) (ChangeMaps.setBlock w1 r (.mapIter (some g) clock (seen.push e.born) clock)) := by simp [execOp, hf.ev hx, hrun]
    simp only [Oper.wp, hr', Oper.upon]
    have hmem : e ∈ es.toList ∧ seen.contains e.born = false := by
      have : e ∈ (leftOf es seen).toList := he
      unfold leftOf at this
      rw [Array.toList_filter] at this
      simpa using this
    have hE1 : Ext No w w1 := by
      rcases hw1 with rfl | rfl
      · exact Ext.refl _ _
      · exact Ext.drew _ _
    have hrg : r ≠ g := by
      intro e; subst e
      rw [h1] at hr; cases hr
    have hE : Ext (fun b => b = r) w (ChangeMaps.setBlock w1 r (.mapIter (some g) clock (seen.push e.born) clock)) := (hE1.mono (fun _ _ x => x.elim)).tr ((Ext.setBlock w1 r _).mono (fun _ _ x => x))
    have hr1 : w1.heap[r]? = some (.mapIter (some g) clock seen clock) := by rw [hE1.block r (Array.getElem?_eq_some_iff.1 hr).1 (fun x => x), hr]
    obtain ⟨pre, post, hp1, hp2⟩ := filter_push h4 hmem.1 hmem.2
    have hl : left = pre.map (·.key) ++ e.key :: post.map (·.key) := by rw [hleft, hp1]; simp
    obtain ⟨k1, k2⟩ := hmo.setNew (e' := .rng g r l (pre.map (·.key) ++ post.map (·.key)) (some e.key)) hs hm hE (fun b hb => by subst hb; simp [Ent.bs]) (by simp [Ent.bs]; exact fun h => hrg h.symm) (fun b hb => .inl hb) ⟨es, clock, seen.push e.born, hma.ext hE (fun x => hrg x.symm), setBlock_at (Array.getElem?_eq_some_iff.1 hr1).1 _, by
      rw [hp2, List.map_append], ⟨e, hmem.1, rfl, by simp⟩⟩
    refine hkk _ _ _ _ (.inr ⟨_, e.key, _, e.val, hl, ?_, rfl, rfl, rfl⟩) k1 k2
    rw [← h2]; exact List.mem_map.2 ⟨e, hmem.1, rfl⟩
theorem nodup_inj {α : Type _} {l : List α} (h : l.Nodup) {p q : Nat} {hp : p < l.length} {hq : q < l.length} (e : l[p] = l[q]) : p = q := by
  have h' := List.pairwise_iff_getElem.1 h
  rcases Nat.lt_trichotomy p q with hl | rfl | hl
  · exact absurd e (h' p q hp hq hl)
  · rfl
  · exact absurd e.symm (h' q p hq hp hl)
theorem PV.entryM {x g r k v} {l : List (Value × Value)} {left : List Value} (i : Nat) (hx : ev fr x = some (.pointer (some ⟨r, 0, none⟩))) (hm : m[i]? = some (.rng g r l left (some k))) (hkv : (k, v) ∈ l) :
    PV P fr m Φ ⟨d, .entry x, ty, pos, af, gd⟩ (.tuple #[k, v]) := fun a n w hf hmo _ => by
  obtain ⟨es, clock, seen, hma, hr, hleft, e, he, hek, hback⟩ := hmo.ok _ (List.mem_of_getElem? hm)
  obtain ⟨h1, h2, h3, h4, h5⟩ := id hma
  obtain ⟨seen', rfl⟩ : ∃ s' : Array Nat, seen = s'.push e.born := by
    obtain ⟨s', hs'⟩ := Array.back?_eq_some_iff.1 hback
    exact ⟨s', hs'⟩
  have hv : e.val = v := by
    rw [← h2] at hkv
    obtain ⟨e', he', hee⟩ := List.mem_map.1 hkv
    simp only [Prod.mk.injEq] at hee
    have hkn : (es.toList.map (·.key)).Nodup := by
      have : es.toList.map (·.key) = l.map (·.1) := by rw [← h2, List.map_map]; rfl
      rw [this]; exact h3
    have : e' = e := by
      obtain ⟨p, hp, hpe⟩ := List.getElem_of_mem he'
      obtain ⟨q, hq, hqe⟩ := List.getElem_of_mem he
      have hpq : (es.toList.map (·.key))[p]'(by simpa using hp) = (es.toList.map (·.key))[q]'(by simpa using hq) := by simp only [List.getElem_map]; rw [hpe, hqe, hee.1, hek]
      have := nodup_inj hkn hpq
      subst this; rw [← hpe, hqe]
    rw [← this]; exact hee.2
  have := run_entry_at (P := P) w r g clock seen' es clock e hr h1 he h4
  simp [execOp, hf.ev hx, this, hek, hv]
/-- the loop is over -/
theorem CW.unrange {c : Code} {g r} {l : List (Value × Value)} {left : List Value} {cur : Option Value} (i : Nat) (hm : m[i]? = some (.rng g r l left cur)) (h : CW P n c Q fr (m.set i (.mp g l)) Φ) : CW P n c Q fr m Φ := fun a w hs => by
  obtain ⟨es, clock, seen, hma, _⟩ := hs.mem.ok _ (List.mem_of_getElem? hm)
  obtain ⟨k1, k2⟩ := hs.mem.setNew (e' := .mp g l) hs.sup hm (Ext.refl No w) (fun _ h => h.elim) (by simp [Ent.bs]) (fun b hb => .inl (by simp [Ent.bs] at hb ⊢; exact .inl hb)) ⟨es, clock, hma⟩
  exact h a w ⟨hs.fits, k1, k2⟩
theorem QC.unrange {ex : Exit} {g r} {l : List (Value × Value)} {left : List Value} {cur : Option Value} (i : Nat) (hm : m[i]? = some (.rng g r l left cur)) (h : QC n Q ex fr (m.set i (.mp g l)) Φ) : QC n Q ex fr m Φ := fun a w hs => by
  obtain ⟨es, clock, seen, hma, _⟩ := hs.mem.ok _ (List.mem_of_getElem? hm)
  obtain ⟨k1, k2⟩ := hs.mem.setNew (e' := .mp g l) hs.sup hm (Ext.refl No w) (fun _ h => h.elim) (by simp [Ent.bs]) (fun b hb => .inl (by simp [Ent.bs] at hb ⊢; exact .inl hb)) ⟨es, clock, hma⟩
  exact h a w ⟨hs.fits, k1, k2⟩
theorem eraseIdx_split {α : Type _} {l : List α} {j : Nat} {x : α} (h : l[j]? = some x) : l = l.take j ++ x :: l.drop (j + 1) ∧ l.eraseIdx j = l.take j ++ l.drop (j + 1) := by
  obtain ⟨hj, rfl⟩ := List.getElem?_eq_some_iff.1 h
  refine ⟨?_, List.eraseIdx_eq_take_drop_succ ..⟩
  rw [← List.drop_eq_getElem_cons hj, List.take_append_drop]
theorem EV.deleteM {x y tt tk g r k v0 j} {l : List (Value × Value)} {left : List Value} {dom : Value → Prop} (i : Nat) (K : KeyT P kt dom) (ht : P.underlying tt = some (.map kt et)) (hx : ev fr x = some (.map (some g))) (hy : ev fr y = some k) (hm : m[i]? = some (.rng g r l left (some k))) (hd : ∀ p ∈ l, dom p.1) (hj : l[j]? = some (k, v0)) :
    EV P n fr m Φ ⟨d, .call ⟨.builtin .delete, #[x, y], #[tt, tk]⟩, ty, pos, af, gd⟩ (fun v' m' Φ' => m' = m.set i (.rng g r (l.eraseIdx j) left none) ∧ Φ' = Φ) := fun a w next Q hf hmo hs hkk => by
  obtain ⟨es, clock, seen, hma, hr, hleft, e, he, hek, hback⟩ := hmo.ok _ (List.mem_of_getElem? hm)
  have hdk : dom k := hd _ (List.mem_of_getElem? hj)
  have hg : (getObj g).run P w = .ok (.map es clock) w := by simp [getObj, Sem.run, hma.1]
  have hc := K.check es.isEmpty k w hdk
  have hfind := hma.find_hit K hd hj w
  obtain ⟨h1, h2, h3, h4, h5⟩ := id hma
  have hrun : (execOp a.eval ⟨d, .call ⟨.builtin .delete, #[x, y], #[tt, tk]⟩, ty, pos, af, gd⟩).run P w = .ok (.value (.tuple #[])) (ChangeMaps.setBlock w g (.map (es.eraseIdxIfInBounds j) clock)) := by
    simp [execOp, resolve, invoke, builtin, Builtin.delete_, run_underlying ht, hf.ev hx, hf.ev hy, hg, hc, hfind, run_setObj_map hma.1]
  simp only [Oper.wp, hrun, Oper.upon]
  have hej : es.toList[j]? = some e := by
    have hkn : (es.toList.map (·.key)).Nodup := by
      have : es.toList.map (·.key) = l.map (·.1) := by rw [← h2, List.map_map]; rfl
      rw [this]; exact h3
    have : (es.toList.map (fun e => (e.key, e.val)))[j]? = some (k, v0) := by rw [h2]; exact hj
    rw [List.getElem?_map] at this
    cases he' : es.toList[j]? with
    | none => rw [he'] at this; simp at this
    | some e' =>
      rw [he'] at this; simp at this
      obtain ⟨hjl, hje⟩ := List.getElem?_eq_some_iff.1 he'
      obtain ⟨q, hq, hqe⟩ := List.getElem_of_mem he
      have hpq : (es.toList.map (·.key))[j]'(by simpa using hjl) = (es.toList.map (·.key))[q]'(by simpa using hq) := by simp only [List.getElem_map]; rw [hje, hqe, hek, this.1]
      have := nodup_inj hkn hpq
      subst this; rw [← hje, hqe]
  have htl : (es.eraseIdxIfInBounds j).toList = es.toList.eraseIdx j := by simp
  have hsub : (es.toList.eraseIdx j).Sublist es.toList := List.eraseIdx_sublist ..
  obtain ⟨hs1, hs2⟩ := eraseIdx_split hej
  have hseen : seen.contains e.born = true := by
    obtain ⟨s', hs'⟩ := Array.back?_eq_some_iff.1 hback
    rw [hs']; simp
  have hrg : r ≠ g := by
    intro e; subst e
    rw [h1] at hr; cases hr
  have hE : Ext (fun b => b = g) w (ChangeMaps.setBlock w g (.map (es.eraseIdxIfInBounds j) clock)) := Ext.setBlock w g _
  have hll : (es.toList.eraseIdx j).map (fun e => (e.key, e.val)) = l.eraseIdx j := by
    obtain ⟨_, hl2⟩ := eraseIdx_split hj
    rw [hl2, hs2, List.map_append, ← h2, List.map_take, List.map_drop]
  obtain ⟨k1, k2⟩ := hmo.setNew (e' := .rng g r (l.eraseIdx j) left none) hs hm hE (fun b hb => by subst hb; simp [Ent.bs]) (by simp [Ent.bs]; exact fun h => hrg h.symm) (fun b hb => .inl hb) ⟨es.eraseIdxIfInBounds j, clock, seen, ⟨setBlock_at hma.lt _, by rw [htl, hll], h3.sublist ((List.eraseIdx_sublist ..).map _), by rw [htl]; exact h4.sublist (hsub.map _), fun e' he' => h5 e' (hsub.subset (by rw [← htl]; exact he'))⟩, by rw [hE.block r (Array.getElem?_eq_some_iff.1 hr).1 hrg, hr], by
    rw [hleft, htl, hs2]
    conv => lhs; rw [hs1]
    rw [List.filter_append, List.filter_append, List.filter_cons_of_neg (by rw [hseen]; simp)], trivial⟩
  exact hkk _ _ _ _ ⟨rfl, rfl⟩ k1 k2
/-- nothing is known of the last key any more -/
theorem QC.uncur {ex : Exit} {g r} {l : List (Value × Value)} {left : List Value} {cur : Option Value} (i : Nat) (hm : m[i]? = some (.rng g r l left cur)) (h : QC n Q ex fr (m.set i (.rng g r l left none)) Φ) : QC n Q ex fr m Φ := fun a w hs => by
  obtain ⟨es, clock, seen, h1, h2, h3, _⟩ := hs.mem.ok _ (List.mem_of_getElem? hm)
  obtain ⟨k1, k2⟩ := hs.mem.setNew (e' := .rng g r l left none) hs.sup hm (Ext.refl No w) (fun _ h => h.elim) (by
    have hrg : r ≠ g := by
      intro e; subst e
      rw [h1.1] at h2; cases h2
    simp [Ent.bs]; exact fun h => hrg h.symm) (fun b hb => .inl hb) ⟨es, clock, seen, h1, h2, h3, trivial⟩
  exact h a w ⟨hs.fits, k1, k2⟩
end
section
variable {P : Program} {n : Nat} {Q : Exit → Act → World → Prop} {fr : Fr} {m : Mem} {Φ : World → Prop} {d : Option Tmp} {ty : TypeId} {pos : String} {af : Array Edge} {gd : Option (Nat × Bool)} {kt et : TypeId} {κ β : Type} {dom : Value → Prop}
abbrev rngE (kv : κ → Value) (tv : Ty β) (g r : Nat) (l : List (κ × β)) (hh : Nat → Hs) (left : List κ) (cur : Option κ) : Ent := .rng g r (mpL kv tv l hh) (left.map kv) (cur.map kv)
theorem mpL_keys (kv : κ → Value) (tv : Ty β) : ∀ (l : List (κ × β)) (hh : Nat → Hs), (mpL kv tv l hh).map (·.1) = (l.map (·.1)).map kv := by
  intro l; induction l with
  | nil => intro _; rfl
  | cons p r ih => intro hh; simp [mpL, ih]
theorem EV.rangeQ {x t g} {kv : κ → Value} {tv : Ty β} {l : List (κ × β)} {hh : Nat → Hs} (i : Nat) (ht : P.underlying t = some (.map kt et)) (hx : ev fr x = some (.map (some g))) (hm : m[i]? = some (mpE kv tv g l hh)) :
    EV P n fr m Φ ⟨d, .range t x, ty, pos, af, gd⟩ (fun v' m' Φ' => ∃ r, v' = .pointer (some ⟨r, 0, none⟩) ∧ m' = m.set i (rngE kv tv g r l hh (l.map (·.1)) none) ∧ Φ' = Φ) := by
  have := EV.rangeM (n := n) (d := d) (ty := ty) (pos := pos) (af := af) (gd := gd) (Φ := Φ) i ht hx hm
  rw [mpL_keys] at this
  exact this
theorem EV.nextQ {x g r} {kv : κ → Value} {tv : Ty β} {l : List (κ × β)} {hh : Nat → Hs} {left : List κ} {cur : Option κ} [DecidableEq κ] (i : Nat) (hinj : ∀ a b, kv a = kv b → a = b) (hx : ev fr x = some (.pointer (some ⟨r, 0, none⟩))) (hm : m[i]? = some (rngE kv tv g r l hh left cur)) :
    EV P n fr m Φ ⟨d, .next x false, ty, pos, af, gd⟩ (fun v' m' Φ' => (left = [] ∧ v' = .tuple #[.bool false] ∧ m' = m ∧ Φ' = Φ) ∨ (∃ pre k post v, left = pre ++ k :: post ∧ v' = .tuple #[.bool true, kv k, v] ∧ m' = m.set i (rngE kv tv g r l hh (pre ++ post) (some k)) ∧ Φ' = Φ)) := fun a w next Q hf hmo hs hkk => by
  refine EV.nextM i hx hm a w next Q hf hmo hs ?_
  intro v' m' Φ' w' hp
  refine hkk v' m' Φ' w' ?_
  rcases hp with ⟨h1, h2, h3, h4⟩ | ⟨pre, k, post, v, h1, _, h2, h3, h4⟩
  · exact .inl ⟨List.map_eq_nil_iff.1 h1, h2, h3, h4⟩
  · obtain ⟨pre', rest, rfl, rfl, hc⟩ := List.map_eq_append_iff.1 h1
    obtain ⟨k', post', rfl, rfl, rfl⟩ := List.map_eq_cons_iff.1 hc
    exact .inr ⟨pre', k', post', v, rfl, h2, by rw [h3, ← List.map_append]; rfl, h4⟩
theorem PV.entryQ {x g r} {kv : κ → Value} {tv : Ty β} {l : List (κ × β)} {hh : Nat → Hs} {left : List κ} {k : κ} [DecidableEq κ] (i : Nat) (hinj : ∀ a b, kv a = kv b → a = b) (hx : ev fr x = some (.pointer (some ⟨r, 0, none⟩))) (hm : m[i]? = some (rngE kv tv g r l hh left (some k))) :
    PV P fr m Φ ⟨d, .entry x, ty, pos, af, gd⟩ (.tuple #[kv k, tv.val ((mget l k).getD tv.zero) (mgetH l hh k)]) := fun a n w hf hmo hΦ => by
  have hmem : kv k ∈ (mpL kv tv l hh).map (·.1) := by
    obtain ⟨es, clock, seen, hma, hr, hleft, e, he, hek, hback⟩ := hmo.ok _ (List.mem_of_getElem? hm)
    rw [← hma.2.1, List.map_map]
    exact List.mem_map.2 ⟨e, he, hek⟩
  rw [mpL_keys] at hmem
  obtain ⟨k', hk', hkk⟩ := List.mem_map.1 hmem
  obtain rfl := hinj _ _ hkk
  cases hf2 : mfind l k' with
  | none => obtain ⟨p, hp, hpk⟩ := List.mem_map.1 hk'; exact absurd hpk ((mfind_none hf2).1 p hp)
  | some j =>
    obtain ⟨v, hv1, hv2⟩ := mfind_some hf2
    have : (kv k', tv.val v (hh j)) ∈ mpL kv tv l hh := List.mem_of_getElem? (i := j) (by rw [mpL_get, hv1]; rfl)
    have h := PV.entryM (P := P) (Φ := Φ) (d := d) (ty := ty) (pos := pos) (af := af) (gd := gd) i hx hm this a n w hf hmo hΦ
    rw [h, hv2]; simp [mgetH, hf2]
def mdel [DecidableEq κ] (l : List (κ × β)) (k : κ) : List (κ × β) := match mfind l k with
  | some i => l.eraseIdx i
  | none => l
def mdelH [DecidableEq κ] (l : List (κ × β)) (hh : Nat → Hs) (k : κ) : Nat → Hs := match mfind l k with
  | some i => fun j => if j < i then hh j else hh (j + 1)
  | none => hh
theorem mpL_erase (kv : κ → Value) (tv : Ty β) (l : List (κ × β)) (hh : Nat → Hs) (i : Nat) : (mpL kv tv l hh).eraseIdx i = mpL kv tv (l.eraseIdx i) (fun j => if j < i then hh j else hh (j + 1)) := by
  apply List.ext_getElem?
  intro j
  rw [List.getElem?_eraseIdx, mpL_get, mpL_get, mpL_get, List.getElem?_eraseIdx]
  split <;> rfl
theorem mpR.del [DecidableEq κ] {tv : Ty β} {w : World} {l : List (κ × β)} {hh : Nat → Hs} {k : κ} (h : mpR tv w l hh) : mpR tv w (mdel l k) (mdelH l hh k) := by
  unfold mdel mdelH
  cases hf : mfind l k with
  | none => exact h
  | some i =>
    intro j p hp
    simp only at hp ⊢
    rw [List.getElem?_eraseIdx] at hp
    split at hp
    · rename_i hj; rw [if_pos hj]; exact h j p hp
    · rename_i hj; rw [if_neg hj]; exact h (j + 1) p hp
theorem EV.deleteQ {x y tt tk g r k} {kv : κ → Value} {tv : Ty β} {l : List (κ × β)} {hh : Nat → Hs} {left : List κ} [DecidableEq κ] (i : Nat) (K : KeyT P kt dom) (hdom : ∀ k, dom (kv k)) (hinj : ∀ a b, kv a = kv b → a = b) (ht : P.underlying tt = some (.map kt et)) (hx : ev fr x = some (.map (some g))) (hy : ev fr y = some (kv k)) (hm : m[i]? = some (rngE kv tv g r l hh left (some k))) :
    EV P n fr m Φ ⟨d, .call ⟨.builtin .delete, #[x, y], #[tt, tk]⟩, ty, pos, af, gd⟩ (fun v' m' Φ' => m' = m.set i (rngE kv tv g r (mdel l k) (mdelH l hh k) left none) ∧ Φ' = Φ) := fun a w next Q hf hmo hs hkk => by
  have hmem : kv k ∈ (mpL kv tv l hh).map (·.1) := by
    obtain ⟨es, clock, seen, hma, hr, hleft, e, he, hek, hback⟩ := hmo.ok _ (List.mem_of_getElem? hm)
    rw [← hma.2.1, List.map_map]
    exact List.mem_map.2 ⟨e, he, hek⟩
  rw [mpL_keys] at hmem
  obtain ⟨k', hk', hkk'⟩ := List.mem_map.1 hmem
  obtain rfl := hinj _ _ hkk'
  cases hf2 : mfind l k' with
  | none => obtain ⟨p, hp, hpk⟩ := List.mem_map.1 hk'; exact absurd hpk ((mfind_none hf2).1 p hp)
  | some j =>
    obtain ⟨v, hv1, hv2⟩ := mfind_some hf2
    refine EV.deleteM (v0 := tv.val v (hh j)) (j := j) i K ht hx hy hm (mpL_dom hdom) (by rw [mpL_get, hv1]; rfl) a w next Q hf hmo hs ?_
    intro v' m' Φ' w' hp
    refine hkk v' m' Φ' w' ?_
    obtain ⟨h1, h2⟩ := hp
    refine ⟨?_, h2⟩
    rw [h1, mpL_erase]
    simp only [mdel, mdelH, hf2]
    rfl
theorem midlt {α : Type _} {pre post : List α} {k : α} : (pre ++ post).length < (pre ++ k :: post).length := by simp
end
end Go.Sx
