/- The contract of slices.Insert at one value (for the law Vf). -/
import Derived.Test.YtofmaoickidjcaaVfFacts
set_option linter.all false
namespace Go.Proofs.Ytofmaoickidjcaa
open Go Go.Sx
set_option maxHeartbeats 400000
set_option maxRecDepth 4000

theorem overlaps_Value : ∃ fn, Try.prog.funcs[119]? = some fn ∧ (fn.name == "runtime.NumGoroutine") = false ∧ fn.body.isNone = true ∧ Extern.findNext fn = none ∧ Extern.find fn = some (Extern.SlicesOverlaps.overlaps #[38, 38] #[4]) := ⟨_, Try.func119, by kernel_rfl, by kernel_rfl, by kernel_rfl, by kernel_rfl⟩
theorem Insert_Value_nil  (i g : Nat) (xs cs : List Value) (w : World) (h : MemOk [.row 80 3 (.slice none 0 0) 0 xs, .blk g cs] w) (hc : cs.length = 3) (h1 : allOne cs = true) (h1x : allOne xs = true) (hi : i ≤ 0) : Calls Try.prog 95 #[(.slice none 0 0), .int .i64 i, .slice (some ⟨g, 0, none⟩) 1 1] w fun e w' => ∃ v', e = .returned v' ∧ w'.ownsRow 0 80 3 v' (0 + 1) (insAt xs (i * 3) cs) ∧ (∀ g, v'.ownBlock = some g → ((.slice none 0 0) : Value).ownBlock = some g ∨ w.heap.size ≤ g) ∧ Ext (fun g => ((.slice none 0 0) : Value).ownBlock = some g) w w' := by
  obtain ⟨Tg, hTg⟩ := h.at (i := 1) rfl
  have hrow := h.rowAt (i := 0) rfl
  have h0lt : g < w.heap.size := h.lt (mem_bsAll.2 ⟨.blk g cs, by simp, by simp [Ent.bs]⟩)
  have hlen := ownsRow_len hrow
  have hval : RowAt w g 0 cs := by
    have := rowAt_local hTg 0 cs.length
    rwa [show cut cs 0 cs.length = cs by simp [cut]] at this
  have hx0 : xs = [] := by simpa using hlen
  obtain rfl : i = 0 := by omega
  subst hx0
  have hgne : ¬ (Value.slice none 0 0).ownBlock = some g := by simp [Value.ownBlock]
  refine enter (m := [.row 80 3 (.slice none 0 0) 0 []]) (Φ := Ext (fun g => (Value.slice none 0 0).ownBlock = some g) w) Try.func95 rfl Try.ntmps95 rfl ⟨by simp [bsAll, Ent.bs, Value.ownBlock], fun en hen => by simp at hen; subst hen; exact hrow⟩ (fun w' e => e.mono (fun k _ hk => by simpa [gs, bsAll, Ent.bs, Value.ownBlock] using hk)) ?_
  refine CW.reg ?_
  refine RO.val (Wt.no rfl) rfl (PV.assign rfl) ?_
  refine RO.nil ?_
  refine CW.reg ?_
  refine RO.val (Wt.no rfl) rfl (PV.move rfl) ?_
  refine RO.val (Wt.no rfl) rfl (PV.move rfl) ?_
  refine RO.val (Wt.no rfl) rfl (PV.slice_nil Try.underlying38 Try.sizeOf80 rfl rfl) ?_
  refine RO.nil ?_
  refine CW.reg ?_
  refine RO.val (Wt.no rfl) rfl (PV.move rfl) ?_
  refine RO.val (Wt.no rfl) rfl (PV.lenS Try.underlying38 rfl) ?_
  refine RO.val (Wt.no rfl) rfl (PV.assign rfl) ?_
  refine RO.nil ?_
  refine CW.seq ?_
  refine CW.reg ?_
  refine RO.val (Wt.no rfl) rfl (PV.move rfl) ?_
  refine RO.val (Wt.no rfl) rfl (PV.eql rfl rfl) ?_
  refine RO.nil ?_
  refine CW.cond rfl (fun hc16 => ?_) (fun hc16 => ?_)
  · try simp only [decide_eq_true_eq, decide_eq_false_iff_not, Bool.not_eq_true', Bool.not_eq_false', Int.not_lt, Int.not_le, ne_eq, Decidable.not_not, reduceCtorEq, not_false_eq_true] at hc16
    exact absurd hc16 (by decide)
  · try simp only [decide_eq_true_eq, decide_eq_false_iff_not, Bool.not_eq_true', Bool.not_eq_false', Int.not_lt, Int.not_le, ne_eq, Decidable.not_not, reduceCtorEq, not_false_eq_true] at hc16
    refine CW.skip ?_
    refine QC.then_n ?_
    refine CW.reg ?_
    refine RO.val (Wt.no rfl) rfl (PV.move rfl) ?_
    refine RO.val (Wt.no rfl) rfl (PV.lenS Try.underlying38 rfl) ?_
    refine RO.val (Wt.no rfl) rfl (PV.assign rfl) ?_
    refine RO.nil ?_
    refine CW.seq ?_
    refine CW.reg ?_
    refine RO.val (Wt.no rfl) rfl (PV.move rfl) ?_
    refine RO.val (Wt.no rfl) rfl (PV.move rfl) ?_
    refine RO.val (Wt.no rfl) rfl (PV.eql rfl rfl) ?_
    refine RO.nil ?_
    refine CW.cond rfl (fun hc22 => ?_) (fun hc22 => ?_)
    · try simp only [decide_eq_true_eq, decide_eq_false_iff_not, Bool.not_eq_true', Bool.not_eq_false', Int.not_lt, Int.not_le, ne_eq, Decidable.not_not, reduceCtorEq, not_false_eq_true] at hc22
      refine CW.reg ?_
      refine RO.val (Wt.no rfl) rfl (PV.move rfl) ?_
      refine RO.val (Wt.no rfl) rfl (PV.move rfl) ?_
      refine RO.eff (Wt.no rfl) rfl (EV.appendE (news := cs) (size := 3) (bytes := 32) 0 Try.underlying38 Try.inf80 rfl rfl rfl rfl (by decide) rfl rfl rfl (fun w1 hm h => (show RowAt w g 0 cs from hval).ext h (fun _ hx => hgne hx)) (by rw [hc]) h1 (by decide) (by omega) (by omega)) ?_
      rintro _ _ _ ⟨g25, cap25, rfl, rfl, rfl⟩
      refine RO.val (Wt.no rfl) rfl (PV.assign rfl) ?_
      refine RO.nil ?_
      refine CW.ret ?_
      refine QC.then_r ?_
      refine ret1 rfl (RV.tmp rfl) (fun w' hm hΦ hs => ?_)
      have hx : insAt [] (0 * 3) cs = [] ++ cs := by simp [insAt]
      rw [hx]
      exact ⟨_, rfl, hm.rowAt (i := 0) rfl, own_fresh hs (i := 0) rfl, hΦ⟩
    · try simp only [decide_eq_true_eq, decide_eq_false_iff_not, Bool.not_eq_true', Bool.not_eq_false', Int.not_lt, Int.not_le, ne_eq, Decidable.not_not, reduceCtorEq, not_false_eq_true] at hc22
      simp at hc22

theorem Insert_Value_some (g0 n c0 : Nat) (i g : Nat) (xs cs : List Value) (w : World) (h : MemOk [.row 80 3 (.slice (some ⟨g0, 0, none⟩) n c0) n xs, .blk g cs] w) (hc : cs.length = 3) (h1 : allOne cs = true) (h1x : allOne xs = true) (hi : i ≤ n) (hn : n < 100000) : Calls Try.prog 95 #[(.slice (some ⟨g0, 0, none⟩) n c0), .int .i64 i, .slice (some ⟨g, 0, none⟩) 1 1] w fun e w' => ∃ v', e = .returned v' ∧ w'.ownsRow 0 80 3 v' (n + 1) (insAt xs (i * 3) cs) ∧ (∀ g, v'.ownBlock = some g → ((.slice (some ⟨g0, 0, none⟩) n c0) : Value).ownBlock = some g ∨ w.heap.size ≤ g) ∧ Ext (fun g => ((.slice (some ⟨g0, 0, none⟩) n c0) : Value).ownBlock = some g) w w' := by
  obtain ⟨Tg, hTg⟩ := h.at (i := 1) rfl
  have hrow := h.rowAt (i := 0) rfl
  have h0lt : g < w.heap.size := h.lt (mem_bsAll.2 ⟨.blk g cs, by simp, by simp [Ent.bs]⟩)
  have hlen := ownsRow_len hrow
  have hval : RowAt w g 0 cs := by
    have := rowAt_local hTg 0 cs.length
    rwa [show cut cs 0 cs.length = cs by simp [cut]] at this
  have hgne : ¬ g0 = g := by
    have := h.nodup
    simpa [bsAll, Ent.bs, Value.ownBlock] using this
  have hgne2 : ¬ (Value.slice (some ⟨g0, 0, none⟩) n c0).ownBlock = some g := by simp [Value.ownBlock, hgne]
  have hval2 : ∀ w1, Ext (fun g => (Value.slice (some ⟨g0, 0, none⟩) n c0).ownBlock = some g) w w1 → RowAt w1 g 0 cs := fun w1 hx => (show RowAt w g 0 cs from hval).ext hx (fun _ hb => hgne2 hb)
  have hcapn : n ≤ c0 ∧ c0 ≤ 9223372036854775807 := by
    rcases hrow.2 with ⟨h1, _⟩ | ⟨g', cap', cur, hv, hb, hg, h1, h2, h3, h4⟩
    · cases h1
    · cases hv; exact ⟨h1, h2⟩
  refine enter (m := [.row 80 3 (.slice (some ⟨g0, 0, none⟩) n c0) n xs]) (Φ := Ext (fun g => (Value.slice (some ⟨g0, 0, none⟩) n c0).ownBlock = some g) w) Try.func95 rfl Try.ntmps95 rfl ⟨by simp [bsAll, Ent.bs, Value.ownBlock], fun en hen => by simp at hen; subst hen; exact hrow⟩ (fun w' e => e.mono (fun k _ hk => by simpa [gs, bsAll, Ent.bs, Value.ownBlock, eq_comm] using hk)) ?_
  refine CW.reg ?_
  refine RO.val (Wt.no rfl) rfl (PV.assign rfl) ?_
  refine RO.nil ?_
  refine CW.reg ?_
  refine RO.val (Wt.no rfl) rfl (PV.move rfl) ?_
  refine RO.val (Wt.no rfl) rfl (PV.move rfl) ?_
  refine RO.val (Wt.no rfl) rfl (PV.slice_xn Try.underlying38 Try.sizeOf80 rfl rfl (by omega)) ?_
  refine RO.nil ?_
  refine CW.reg ?_
  refine RO.val (Wt.no rfl) rfl (PV.move rfl) ?_
  refine RO.val (Wt.no rfl) rfl (PV.lenS Try.underlying38 rfl) ?_
  refine RO.val (Wt.no rfl) rfl (PV.assign rfl) ?_
  refine RO.nil ?_
  refine CW.seq ?_
  refine CW.reg ?_
  refine RO.val (Wt.no rfl) rfl (PV.move rfl) ?_
  refine RO.val (Wt.no rfl) rfl (PV.eql rfl rfl) ?_
  refine RO.nil ?_
  refine CW.cond rfl (fun hc16 => ?_) (fun hc16 => ?_)
  · try simp only [decide_eq_true_eq, decide_eq_false_iff_not, Bool.not_eq_true', Bool.not_eq_false', Int.not_lt, Int.not_le, ne_eq, Decidable.not_not, reduceCtorEq, not_false_eq_true] at hc16
    exact absurd hc16 (by decide)
  · try simp only [decide_eq_true_eq, decide_eq_false_iff_not, Bool.not_eq_true', Bool.not_eq_false', Int.not_lt, Int.not_le, ne_eq, Decidable.not_not, reduceCtorEq, not_false_eq_true] at hc16
    refine CW.skip ?_
    refine QC.then_n ?_
    refine CW.reg ?_
    refine RO.val (Wt.no rfl) rfl (PV.move rfl) ?_
    refine RO.val (Wt.no rfl) rfl (PV.lenS Try.underlying38 rfl) ?_
    refine RO.val (Wt.no rfl) rfl (PV.assign rfl) ?_
    refine RO.nil ?_
    refine CW.seq ?_
    refine CW.reg ?_
    refine RO.val (Wt.no rfl) rfl (PV.move rfl) ?_
    refine RO.val (Wt.no rfl) rfl (PV.move rfl) ?_
    refine RO.val (Wt.no rfl) rfl (PV.eql rfl rfl) ?_
    refine RO.nil ?_
    refine CW.cond rfl (fun hc22 => ?_) (fun hc22 => ?_)
    · try simp only [decide_eq_true_eq, decide_eq_false_iff_not, Bool.not_eq_true', Bool.not_eq_false', Int.not_lt, Int.not_le, ne_eq, Decidable.not_not, reduceCtorEq, not_false_eq_true] at hc22
      refine CW.reg ?_
      refine RO.val (Wt.no rfl) rfl (PV.move rfl) ?_
      refine RO.val (Wt.no rfl) rfl (PV.move rfl) ?_
      refine RO.eff (Wt.no rfl) rfl (EV.appendE (news := cs) (size := 3) (bytes := 32) 0 Try.underlying38 Try.inf80 rfl rfl rfl rfl (by decide) rfl rfl rfl (fun w1 hm h => hval2 w1 h) (by rw [hc]) h1 (by decide) (by omega) (by omega)) ?_
      rintro _ _ _ ⟨g25, cap25, rfl, rfl, rfl⟩
      refine RO.val (Wt.no rfl) rfl (PV.assign rfl) ?_
      refine RO.nil ?_
      refine CW.ret ?_
      refine QC.then_r ?_
      refine ret1 rfl (RV.tmp rfl) (fun w' hm hΦ hs => ?_)
      obtain rfl : i = n := by omega
      rw [insAt_end _ _ _ hlen]
      exact ⟨_, rfl, hm.rowAt (i := 0) rfl, own_fresh hs (i := 0) rfl, hΦ⟩
    · try simp only [decide_eq_true_eq, decide_eq_false_iff_not, Bool.not_eq_true', Bool.not_eq_false', Int.not_lt, Int.not_le, ne_eq, Decidable.not_not, reduceCtorEq, not_false_eq_true] at hc22
      refine CW.skip ?_
      refine QC.then_n ?_
      refine CW.seq ?_
      refine CW.reg ?_
      refine RO.val (Wt.no rfl) rfl (PV.move rfl) ?_
      refine RO.val (Wt.no rfl) rfl (PV.move rfl) ?_
      refine RO.val (Wt.no rfl) rfl (PV.add rfl rfl (by omega)) ?_
      refine RO.val (Wt.no rfl) rfl (PV.move rfl) ?_
      refine RO.val (Wt.no rfl) rfl (PV.capS Try.underlying38 rfl) ?_
      refine RO.val (Wt.no rfl) rfl (PV.gtr rfl rfl) ?_
      refine RO.nil ?_
      refine CW.cond rfl (fun hc31 => ?_) (fun hc31 => ?_)
      · try simp only [decide_eq_true_eq, decide_eq_false_iff_not, Bool.not_eq_true', Bool.not_eq_false', Int.not_lt, Int.not_le, ne_eq, Decidable.not_not, reduceCtorEq, not_false_eq_true] at hc31
        refine CW.reg ?_
        refine RO.val (Wt.no rfl) rfl (PV.move rfl) ?_
        refine RO.val (Wt.no rfl) rfl (PV.move rfl) ?_
        have hin : i < n := by omega
        refine RO.val (Wt.no rfl) rfl (PV.to (PV.slice_nx Try.underlying38 Try.sizeOf80 rfl rfl (by omega)) (slice_eq (by omega) (by omega) (by omega) : _ = Value.slice (some ⟨g0, 0, none⟩) i c0)) ?_
        refine RO.val (Wt.no rfl) rfl (PV.move rfl) ?_
        refine RO.val (Wt.no rfl) rfl (PV.move rfl) ?_
        refine RO.val (Wt.no rfl) rfl (PV.add rfl rfl (by omega)) ?_
        refine RO.val (Wt.no rfl) rfl (PV.move rfl) ?_
        refine RO.val (Wt.no rfl) rfl (PV.sub rfl rfl (by omega)) ?_
        refine RO.eff (Wt.no rfl) rfl (EV.appendZ (size := 3) (bytes := 32) (k := n + 1 - i) (olds := cut xs 0 (i * 3)) Try.underlying38 Try.underlying3 Try.inf80 rfl rfl rfl rfl rfl rfl (by omega) (fun w1 hm h => ownsRow_at (hm.rowAt (i := 0) rfl) (by omega)) (by simp [cut]; omega) (by omega) (by decide) (by omega) (by omega) (by omega)) ?_
        rintro _ _ _ ⟨g9, cap9, R9, rfl, rfl, rfl, hl9, hc9, hm9⟩
        rw [show i + (n + 1 - i) = n + 1 by omega] at hc9 ⊢
        refine RO.val (Wt.no rfl) rfl (PV.assign rfl) ?_
        refine RO.nil ?_
        refine CW.reg ?_
        refine RO.val (Wt.no rfl) rfl (PV.move rfl) ?_
        refine RO.val (Wt.no rfl) rfl (PV.move rfl) ?_
        refine RO.val (Wt.no rfl) rfl (PV.to (PV.slice_xl Try.underlying38 Try.sizeOf80 rfl rfl (by omega)) (slice_eq (by omega) (by omega) (by omega) : _ = Value.slice (some ⟨g9, i * 3, none⟩) (n + 1 - i) (cap9 - i))) ?_
        refine RO.val (Wt.no rfl) rfl (PV.move rfl) ?_
        refine RO.eff (Wt.no rfl) rfl (EV.copy (news := cs) 1 Try.underlying38 Try.sizeOf80 rfl rfl rfl (fun w1 hm h => hval2 w1 h) (by rw [hc]; simp only [Nat.min_def]; split <;> omega) h1 (by omega) rfl) ?_
        rintro _ _ _ ⟨rfl, rfl, rfl⟩
        refine RO.nil ?_
        refine CW.regD (pickM [0] _) _ (by kernel_rfl) (St.of (by decide) rfl (fun _ h => h)) ?_
        refine RD.take 0 rfl (by kernel_rfl) (by kernel_rfl) (by kernel_rfl) (Wt.no rfl) rfl (PV.move rfl) ?_
        refine RD.take 1 rfl (by kernel_rfl) (by kernel_rfl) (by kernel_rfl) (Wt.no rfl) rfl (PV.move rfl) ?_
        refine RD.take 2 rfl (by kernel_rfl) (by kernel_rfl) (by kernel_rfl) (Wt.no rfl) rfl (PV.move rfl) ?_
        refine RD.take 3 rfl (by kernel_rfl) (by kernel_rfl) (by kernel_rfl) (Wt.no rfl) rfl (PV.add rfl rfl (by omega)) ?_
        refine RD.take 4 rfl (by kernel_rfl) (by kernel_rfl) (by kernel_rfl) (Wt.no rfl) rfl (PV.to (PV.slice_xl Try.underlying38 Try.sizeOf80 rfl rfl (by omega)) (slice_eq (by omega) (by omega) (by omega) : _ = Value.slice (some ⟨g9, i * 3 + 3, none⟩) (n - i) (cap9 - (i + 1)))) ?_
        refine RD.take 5 rfl (by kernel_rfl) (by kernel_rfl) (by kernel_rfl) (Wt.no rfl) rfl (PV.move rfl) ?_
        refine RD.take 6 rfl (by kernel_rfl) (by kernel_rfl) (by kernel_rfl) (Wt.no rfl) rfl (PV.move rfl) ?_
        refine RD.take 7 rfl (by kernel_rfl) (by kernel_rfl) (by kernel_rfl) (Wt.no rfl) rfl (PV.to (PV.slice_xl Try.underlying38 Try.sizeOf80 rfl rfl (by omega)) (slice_eq (by omega) (by omega) (by omega) : _ = Value.slice (some ⟨g0, i * 3, none⟩) (n - i) (c0 - i))) ?_
        refine RD.one 8 (by kernel_rfl) ?_
        refine Up.eff rfl (Wt.no rfl) rfl (EV.copy (news := cut xs (i * 3) ((n - i) * 3)) 1 Try.underlying38 Try.sizeOf80 rfl rfl rfl (fun w1 hm h => ownsRow_at (hm.rowAt (i := 0) rfl) (by omega)) (by rw [cut_len (by omega)]; congr 1; exact (Nat.min_eq_left (by omega)).symm) (allOne_cut h1x _ _) (by rw [cut_len (by omega), wr_length, hl9]; omega) rfl) ?_ ?_
        · rintro _ _ _ ⟨rfl, rfl, rfl⟩; exact St.of (by decide) rfl (fun _ h => h)
        rintro _ _ _ ⟨rfl, rfl, rfl⟩
        refine RD.done (by kernel_rfl) ?_
        refine CW.reg ?_
        refine RO.val (Wt.no rfl) rfl (PV.move rfl) ?_
        refine RO.val (Wt.no rfl) rfl (PV.assign rfl) ?_
        refine RO.nil ?_
        refine CW.ret ?_
        refine QC.then_r ?_
        refine ret1 rfl (RV.tmp rfl) (fun w' hm hΦ hs => ?_)
        have hB : (wr (wr (cut xs 0 (i * 3) ++ R9) (i * 3) cs) (i * 3 + 3) (cut xs (i * 3) ((n - i) * 3))).take ((n + 1) * 3) = insAt xs (i * 3) cs := by
          rw [cut_end (A := xs) (o := i * 3) (by omega)]
          exact insAt_grow xs R9 cs (i * 3) 3 _ hc (by omega) (by rw [show xs.take (i * 3) = cut xs 0 (i * 3) from rfl, hl9]; omega) (by omega)
        obtain ⟨_, hm2, hsub⟩ := shut_row 1 (n + 1) rfl (by rw [wr_length, wr_length]; exact hl9) (by omega) hm9 hm
        refine ⟨_, rfl, ?_, own_fresh (hs.less (fun k _ h => hsub k h)) (i := 1) rfl, hΦ⟩
        have := hm2.rowAt (i := 1) rfl
        rwa [hB] at this
      · try simp only [decide_eq_true_eq, decide_eq_false_iff_not, Bool.not_eq_true', Bool.not_eq_false', Int.not_lt, Int.not_le, ne_eq, Decidable.not_not, reduceCtorEq, not_false_eq_true] at hc31
        refine CW.skip ?_
        refine QC.then_n ?_
        refine CW.reg ?_
        have hin : i < n := by omega
        refine RO.reMem _ (fun w1 hm => open_row (i := 0) rfl hm) (fun sp => ?_)
        obtain ⟨sp, hspl, hsple, hspm⟩ := sp
        refine RO.val (Wt.no rfl) rfl (PV.move rfl) ?_
        refine RO.val (Wt.no rfl) rfl (PV.move rfl) ?_
        refine RO.val (Wt.no rfl) rfl (PV.move rfl) ?_
        refine RO.val (Wt.no rfl) rfl (PV.add rfl rfl (by omega)) ?_
        refine RO.val (Wt.no rfl) rfl (PV.to (PV.slice_nx Try.underlying38 Try.sizeOf80 rfl rfl (by omega)) (slice_eq (by omega) (by omega) (by omega) : _ = Value.slice (some ⟨g0, 0, none⟩) (n + 1) c0)) ?_
        refine RO.val (Wt.no rfl) rfl (PV.assign rfl) ?_
        refine RO.nil ?_
        refine CW.seq ?_
        refine CW.reg ?_
        refine RO.val (Wt.no rfl) rfl (PV.move rfl) ?_
        refine RO.val (Wt.no rfl) rfl (PV.move rfl) ?_
        refine RO.val (Wt.no rfl) rfl (PV.move rfl) ?_
        refine RO.val (Wt.no rfl) rfl (PV.move rfl) ?_
        refine RO.val (Wt.no rfl) rfl (PV.add rfl rfl (by omega)) ?_
        refine RO.val (Wt.no rfl) rfl (PV.to (PV.slice_xl Try.underlying38 Try.sizeOf80 rfl rfl (by omega)) (slice_eq (by omega) (by omega) (by omega) : _ = Value.slice (some ⟨g0, i * 3 + 3, none⟩) (n - i) (c0 - (i + 1)))) ?_
        refine RO.eff (Wt.no rfl) rfl ((have ⟨fn, q1, q2, q3, q4, q5⟩ := overlaps_Value; EV.overlaps 0 q1 q2 q3 q4 q5 Try.underlying38 Try.sizeOf80 rfl rfl (fun w1 hm h => ⟨_, Tg, (h.block g (h0lt) hgne2).trans hTg⟩) (Ne.symm hgne) rfl (by intro hb; rw [hb] at hspl; simp at hspl; omega))) ?_
        rintro _ _ _ ⟨rfl, rfl, rfl⟩
        refine RO.val (Wt.no rfl) rfl (PV.not rfl) ?_
        refine RO.nil ?_
        refine CW.condT rfl ?_
        refine CW.regD (pickM [] _) _ (by kernel_rfl) (St.of (by decide) rfl (fun _ h => h)) ?_
        refine RD.take 0 rfl (by kernel_rfl) (by kernel_rfl) (by kernel_rfl) (Wt.no rfl) rfl (PV.move rfl) ?_
        refine RD.take 1 rfl (by kernel_rfl) (by kernel_rfl) (by kernel_rfl) (Wt.no rfl) rfl (PV.move rfl) ?_
        refine RD.take 2 rfl (by kernel_rfl) (by kernel_rfl) (by kernel_rfl) (Wt.no rfl) rfl (PV.move rfl) ?_
        refine RD.take 3 rfl (by kernel_rfl) (by kernel_rfl) (by kernel_rfl) (Wt.no rfl) rfl (PV.add rfl rfl (by omega)) ?_
        refine RD.take 4 rfl (by kernel_rfl) (by kernel_rfl) (by kernel_rfl) (Wt.no rfl) rfl (PV.to (PV.slice_xl Try.underlying38 Try.sizeOf80 rfl rfl (by omega)) (slice_eq (by omega) (by omega) (by omega) : _ = Value.slice (some ⟨g0, i * 3 + 3, none⟩) (n - i) (c0 - (i + 1)))) ?_
        refine RD.take 5 rfl (by kernel_rfl) (by kernel_rfl) (by kernel_rfl) (Wt.no rfl) rfl (PV.move rfl) ?_
        refine RD.take 6 rfl (by kernel_rfl) (by kernel_rfl) (by kernel_rfl) (Wt.no rfl) rfl (PV.move rfl) ?_
        refine RD.take 7 rfl (by kernel_rfl) (by kernel_rfl) (by kernel_rfl) (Wt.no rfl) rfl (PV.to (PV.slice_xl Try.underlying38 Try.sizeOf80 rfl rfl (by omega)) (slice_eq (by omega) (by omega) (by omega) : _ = Value.slice (some ⟨g0, i * 3, none⟩) (n + 1 - i) (c0 - i))) ?_
        refine RD.one 8 (by kernel_rfl) ?_
        refine Up.eff rfl (Wt.no rfl) rfl (EV.copy (news := cut (xs ++ sp) (i * 3) ((n - i) * 3)) 0 Try.underlying38 Try.sizeOf80 rfl rfl rfl (fun w1 hm h => hm.opn (i := 0) rfl _ _) (by rw [cut_len (by omega)]; congr 1; exact (Nat.min_eq_right (by omega)).symm) (allOne_cut2 h1x (by omega)) (by rw [cut_len (by omega), hspl]; omega) rfl) ?_ ?_
        · rintro _ _ _ ⟨rfl, rfl, rfl⟩; exact St.of (by decide) rfl (fun _ h => h)
        rintro _ _ _ ⟨rfl, rfl, rfl⟩
        refine RD.done (by kernel_rfl) ?_
        refine CW.reg ?_
        refine RO.val (Wt.no rfl) rfl (PV.move rfl) ?_
        refine RO.val (Wt.no rfl) rfl (PV.move rfl) ?_
        refine RO.val (Wt.no rfl) rfl (PV.to (PV.slice_xl Try.underlying38 Try.sizeOf80 rfl rfl (by omega)) (slice_eq (by omega) (by omega) (by omega) : _ = Value.slice (some ⟨g0, i * 3, none⟩) (n + 1 - i) (c0 - i))) ?_
        refine RO.val (Wt.no rfl) rfl (PV.move rfl) ?_
        refine RO.eff (Wt.no rfl) rfl (EV.copy (news := cs) 0 Try.underlying38 Try.sizeOf80 rfl rfl rfl (fun w1 hm h => hval2 w1 h) (by rw [hc]; simp only [Nat.min_def]; split <;> omega) h1 (by simp [wr_length]; omega) rfl) ?_
        rintro _ _ _ ⟨rfl, rfl, rfl⟩
        refine RO.nil ?_
        refine CW.reg ?_
        refine RO.val (Wt.no rfl) rfl (PV.move rfl) ?_
        refine RO.val (Wt.no rfl) rfl (PV.assign rfl) ?_
        refine RO.nil ?_
        refine CW.ret ?_
        refine QC.then_r ?_
        refine ret1 rfl (RV.tmp rfl) (fun w' hm hΦ hs => ?_)
        have hB : (wr (wr (xs ++ sp) (i * 3 + 3) (cut (xs ++ sp) (i * 3) ((n - i) * 3))) (i * 3) cs).take ((n + 1) * 3) = insAt xs (i * 3) cs := by
          rw [show (n - i) * 3 = xs.length - i * 3 by omega]
          exact insAt_shift xs sp cs (i * 3) 3 _ hc (by omega) (by rw [hspl]; omega) (by omega)
        obtain ⟨_, hm2, hsub⟩ := shut_row 0 (n + 1) rfl (by rw [wr_length, wr_length]; exact hspl) (by omega) hspm hm
        refine ⟨_, rfl, ?_, own_fresh (hs.less (fun k _ h => hsub k h)) (i := 0) rfl, hΦ⟩
        have := hm2.rowAt (i := 0) rfl
        rwa [hB] at this

theorem Insert_Value {v0 : Value} {n i g : Nat} {xs cs : List Value} (w : World) (h : MemOk [.row 80 3 v0 n xs, .blk g cs] w) (hc : cs.length = 3) (h1 : allOne cs = true) (h1x : allOne xs = true) (hi : i ≤ n) (hn : n < 100000) : Calls Try.prog 95 #[v0, .int .i64 i, .slice (some ⟨g, 0, none⟩) 1 1] w fun e w' => ∃ v' n' xs', e = .returned v' ∧ (n' = n + 1 ∧ xs' = insAt xs (i * 3) cs ∧ RowV v' n') ∧ w'.ownsRow 0 80 3 v' n' xs' ∧ (∀ g, v'.ownBlock = some g → v0.ownBlock = some g ∨ w.heap.size ≤ g) ∧ Ext (fun g => v0.ownBlock = some g) w w' := by
  rcases ownsRow_form (h.rowAt (i := 0) rfl) with ⟨rfl, rfl, rfl⟩ | ⟨g0, cap, rfl⟩
  · exact (Insert_Value_nil i g [] cs w h hc h1 h1x hi).mono fun e w' ⟨v', a, b, c⟩ => ⟨v', _, _, a, ⟨rfl, rfl, ownsRow_V b⟩, b, c⟩
  · exact (Insert_Value_some g0 n cap i g xs cs w h hc h1 h1x hi hn).mono fun e w' ⟨v', a, b, c⟩ => ⟨v', _, _, a, ⟨rfl, rfl, ownsRow_V b⟩, b, c⟩
theorem overlaps_write : ∃ fn, Try.prog.funcs[99]? = some fn ∧ (fn.name == "runtime.NumGoroutine") = false ∧ fn.body.isNone = true ∧ Extern.findNext fn = none ∧ Extern.find fn = some (Extern.SlicesOverlaps.overlaps #[122, 122] #[4]) := ⟨_, Try.func99, by kernel_rfl, by kernel_rfl, by kernel_rfl, by kernel_rfl⟩
theorem Insert_write_nil  (i g : Nat) (xs cs : List Value) (w : World) (h : MemOk [.row 125 11 (.slice none 0 0) 0 xs, .blk g cs] w) (hc : cs.length = 11) (h1 : allOne cs = true) (h1x : allOne xs = true) (hi : i ≤ 0) : Calls Try.prog 66 #[(.slice none 0 0), .int .i64 i, .slice (some ⟨g, 0, none⟩) 1 1] w fun e w' => ∃ v', e = .returned v' ∧ w'.ownsRow 0 125 11 v' (0 + 1) (insAt xs (i * 11) cs) ∧ (∀ g, v'.ownBlock = some g → ((.slice none 0 0) : Value).ownBlock = some g ∨ w.heap.size ≤ g) ∧ Ext (fun g => ((.slice none 0 0) : Value).ownBlock = some g) w w' := by
  obtain ⟨Tg, hTg⟩ := h.at (i := 1) rfl
  have hrow := h.rowAt (i := 0) rfl
  have h0lt : g < w.heap.size := h.lt (mem_bsAll.2 ⟨.blk g cs, by simp, by simp [Ent.bs]⟩)
  have hlen := ownsRow_len hrow
  have hval : RowAt w g 0 cs := by
    have := rowAt_local hTg 0 cs.length
    rwa [show cut cs 0 cs.length = cs by simp [cut]] at this
  have hx0 : xs = [] := by simpa using hlen
  obtain rfl : i = 0 := by omega
  subst hx0
  have hgne : ¬ (Value.slice none 0 0).ownBlock = some g := by simp [Value.ownBlock]
  refine enter (m := [.row 125 11 (.slice none 0 0) 0 []]) (Φ := Ext (fun g => (Value.slice none 0 0).ownBlock = some g) w) Try.func66 rfl Try.ntmps66 rfl ⟨by simp [bsAll, Ent.bs, Value.ownBlock], fun en hen => by simp at hen; subst hen; exact hrow⟩ (fun w' e => e.mono (fun k _ hk => by simpa [gs, bsAll, Ent.bs, Value.ownBlock] using hk)) ?_
  refine CW.reg ?_
  refine RO.val (Wt.no rfl) rfl (PV.assign rfl) ?_
  refine RO.nil ?_
  refine CW.reg ?_
  refine RO.val (Wt.no rfl) rfl (PV.move rfl) ?_
  refine RO.val (Wt.no rfl) rfl (PV.move rfl) ?_
  refine RO.val (Wt.no rfl) rfl (PV.slice_nil Try.underlying122 Try.sizeOf125 rfl rfl) ?_
  refine RO.nil ?_
  refine CW.reg ?_
  refine RO.val (Wt.no rfl) rfl (PV.move rfl) ?_
  refine RO.val (Wt.no rfl) rfl (PV.lenS Try.underlying122 rfl) ?_
  refine RO.val (Wt.no rfl) rfl (PV.assign rfl) ?_
  refine RO.nil ?_
  refine CW.seq ?_
  refine CW.reg ?_
  refine RO.val (Wt.no rfl) rfl (PV.move rfl) ?_
  refine RO.val (Wt.no rfl) rfl (PV.eql rfl rfl) ?_
  refine RO.nil ?_
  refine CW.cond rfl (fun hc16 => ?_) (fun hc16 => ?_)
  · try simp only [decide_eq_true_eq, decide_eq_false_iff_not, Bool.not_eq_true', Bool.not_eq_false', Int.not_lt, Int.not_le, ne_eq, Decidable.not_not, reduceCtorEq, not_false_eq_true] at hc16
    exact absurd hc16 (by decide)
  · try simp only [decide_eq_true_eq, decide_eq_false_iff_not, Bool.not_eq_true', Bool.not_eq_false', Int.not_lt, Int.not_le, ne_eq, Decidable.not_not, reduceCtorEq, not_false_eq_true] at hc16
    refine CW.skip ?_
    refine QC.then_n ?_
    refine CW.reg ?_
    refine RO.val (Wt.no rfl) rfl (PV.move rfl) ?_
    refine RO.val (Wt.no rfl) rfl (PV.lenS Try.underlying122 rfl) ?_
    refine RO.val (Wt.no rfl) rfl (PV.assign rfl) ?_
    refine RO.nil ?_
    refine CW.seq ?_
    refine CW.reg ?_
    refine RO.val (Wt.no rfl) rfl (PV.move rfl) ?_
    refine RO.val (Wt.no rfl) rfl (PV.move rfl) ?_
    refine RO.val (Wt.no rfl) rfl (PV.eql rfl rfl) ?_
    refine RO.nil ?_
    refine CW.cond rfl (fun hc22 => ?_) (fun hc22 => ?_)
    · try simp only [decide_eq_true_eq, decide_eq_false_iff_not, Bool.not_eq_true', Bool.not_eq_false', Int.not_lt, Int.not_le, ne_eq, Decidable.not_not, reduceCtorEq, not_false_eq_true] at hc22
      refine CW.reg ?_
      refine RO.val (Wt.no rfl) rfl (PV.move rfl) ?_
      refine RO.val (Wt.no rfl) rfl (PV.move rfl) ?_
      refine RO.eff (Wt.no rfl) rfl (EV.appendE (news := cs) (size := 11) (bytes := 96) 0 Try.underlying122 Try.inf125 rfl rfl rfl rfl (by decide) rfl rfl rfl (fun w1 hm h => (show RowAt w g 0 cs from hval).ext h (fun _ hx => hgne hx)) (by rw [hc]) h1 (by decide) (by omega) (by omega)) ?_
      rintro _ _ _ ⟨g25, cap25, rfl, rfl, rfl⟩
      refine RO.val (Wt.no rfl) rfl (PV.assign rfl) ?_
      refine RO.nil ?_
      refine CW.ret ?_
      refine QC.then_r ?_
      refine ret1 rfl (RV.tmp rfl) (fun w' hm hΦ hs => ?_)
      have hx : insAt [] (0 * 11) cs = [] ++ cs := by simp [insAt]
      rw [hx]
      exact ⟨_, rfl, hm.rowAt (i := 0) rfl, own_fresh hs (i := 0) rfl, hΦ⟩
    · try simp only [decide_eq_true_eq, decide_eq_false_iff_not, Bool.not_eq_true', Bool.not_eq_false', Int.not_lt, Int.not_le, ne_eq, Decidable.not_not, reduceCtorEq, not_false_eq_true] at hc22
      simp at hc22

theorem Insert_write_some (g0 n c0 : Nat) (i g : Nat) (xs cs : List Value) (w : World) (h : MemOk [.row 125 11 (.slice (some ⟨g0, 0, none⟩) n c0) n xs, .blk g cs] w) (hc : cs.length = 11) (h1 : allOne cs = true) (h1x : allOne xs = true) (hi : i ≤ n) (hn : n < 100000) : Calls Try.prog 66 #[(.slice (some ⟨g0, 0, none⟩) n c0), .int .i64 i, .slice (some ⟨g, 0, none⟩) 1 1] w fun e w' => ∃ v', e = .returned v' ∧ w'.ownsRow 0 125 11 v' (n + 1) (insAt xs (i * 11) cs) ∧ (∀ g, v'.ownBlock = some g → ((.slice (some ⟨g0, 0, none⟩) n c0) : Value).ownBlock = some g ∨ w.heap.size ≤ g) ∧ Ext (fun g => ((.slice (some ⟨g0, 0, none⟩) n c0) : Value).ownBlock = some g) w w' := by
  obtain ⟨Tg, hTg⟩ := h.at (i := 1) rfl
  have hrow := h.rowAt (i := 0) rfl
  have h0lt : g < w.heap.size := h.lt (mem_bsAll.2 ⟨.blk g cs, by simp, by simp [Ent.bs]⟩)
  have hlen := ownsRow_len hrow
  have hval : RowAt w g 0 cs := by
    have := rowAt_local hTg 0 cs.length
    rwa [show cut cs 0 cs.length = cs by simp [cut]] at this
  have hgne : ¬ g0 = g := by
    have := h.nodup
    simpa [bsAll, Ent.bs, Value.ownBlock] using this
  have hgne2 : ¬ (Value.slice (some ⟨g0, 0, none⟩) n c0).ownBlock = some g := by simp [Value.ownBlock, hgne]
  have hval2 : ∀ w1, Ext (fun g => (Value.slice (some ⟨g0, 0, none⟩) n c0).ownBlock = some g) w w1 → RowAt w1 g 0 cs := fun w1 hx => (show RowAt w g 0 cs from hval).ext hx (fun _ hb => hgne2 hb)
  have hcapn : n ≤ c0 ∧ c0 ≤ 9223372036854775807 := by
    rcases hrow.2 with ⟨h1, _⟩ | ⟨g', cap', cur, hv, hb, hg, h1, h2, h3, h4⟩
    · cases h1
    · cases hv; exact ⟨h1, h2⟩
  refine enter (m := [.row 125 11 (.slice (some ⟨g0, 0, none⟩) n c0) n xs]) (Φ := Ext (fun g => (Value.slice (some ⟨g0, 0, none⟩) n c0).ownBlock = some g) w) Try.func66 rfl Try.ntmps66 rfl ⟨by simp [bsAll, Ent.bs, Value.ownBlock], fun en hen => by simp at hen; subst hen; exact hrow⟩ (fun w' e => e.mono (fun k _ hk => by simpa [gs, bsAll, Ent.bs, Value.ownBlock, eq_comm] using hk)) ?_
  refine CW.reg ?_
  refine RO.val (Wt.no rfl) rfl (PV.assign rfl) ?_
  refine RO.nil ?_
  refine CW.reg ?_
  refine RO.val (Wt.no rfl) rfl (PV.move rfl) ?_
  refine RO.val (Wt.no rfl) rfl (PV.move rfl) ?_
  refine RO.val (Wt.no rfl) rfl (PV.slice_xn Try.underlying122 Try.sizeOf125 rfl rfl (by omega)) ?_
  refine RO.nil ?_
  refine CW.reg ?_
  refine RO.val (Wt.no rfl) rfl (PV.move rfl) ?_
  refine RO.val (Wt.no rfl) rfl (PV.lenS Try.underlying122 rfl) ?_
  refine RO.val (Wt.no rfl) rfl (PV.assign rfl) ?_
  refine RO.nil ?_
  refine CW.seq ?_
  refine CW.reg ?_
  refine RO.val (Wt.no rfl) rfl (PV.move rfl) ?_
  refine RO.val (Wt.no rfl) rfl (PV.eql rfl rfl) ?_
  refine RO.nil ?_
  refine CW.cond rfl (fun hc16 => ?_) (fun hc16 => ?_)
  · try simp only [decide_eq_true_eq, decide_eq_false_iff_not, Bool.not_eq_true', Bool.not_eq_false', Int.not_lt, Int.not_le, ne_eq, Decidable.not_not, reduceCtorEq, not_false_eq_true] at hc16
    exact absurd hc16 (by decide)
  · try simp only [decide_eq_true_eq, decide_eq_false_iff_not, Bool.not_eq_true', Bool.not_eq_false', Int.not_lt, Int.not_le, ne_eq, Decidable.not_not, reduceCtorEq, not_false_eq_true] at hc16
    refine CW.skip ?_
    refine QC.then_n ?_
    refine CW.reg ?_
    refine RO.val (Wt.no rfl) rfl (PV.move rfl) ?_
    refine RO.val (Wt.no rfl) rfl (PV.lenS Try.underlying122 rfl) ?_
    refine RO.val (Wt.no rfl) rfl (PV.assign rfl) ?_
    refine RO.nil ?_
    refine CW.seq ?_
    refine CW.reg ?_
    refine RO.val (Wt.no rfl) rfl (PV.move rfl) ?_
    refine RO.val (Wt.no rfl) rfl (PV.move rfl) ?_
    refine RO.val (Wt.no rfl) rfl (PV.eql rfl rfl) ?_
    refine RO.nil ?_
    refine CW.cond rfl (fun hc22 => ?_) (fun hc22 => ?_)
    · try simp only [decide_eq_true_eq, decide_eq_false_iff_not, Bool.not_eq_true', Bool.not_eq_false', Int.not_lt, Int.not_le, ne_eq, Decidable.not_not, reduceCtorEq, not_false_eq_true] at hc22
      refine CW.reg ?_
      refine RO.val (Wt.no rfl) rfl (PV.move rfl) ?_
      refine RO.val (Wt.no rfl) rfl (PV.move rfl) ?_
      refine RO.eff (Wt.no rfl) rfl (EV.appendE (news := cs) (size := 11) (bytes := 96) 0 Try.underlying122 Try.inf125 rfl rfl rfl rfl (by decide) rfl rfl rfl (fun w1 hm h => hval2 w1 h) (by rw [hc]) h1 (by decide) (by omega) (by omega)) ?_
      rintro _ _ _ ⟨g25, cap25, rfl, rfl, rfl⟩
      refine RO.val (Wt.no rfl) rfl (PV.assign rfl) ?_
      refine RO.nil ?_
      refine CW.ret ?_
      refine QC.then_r ?_
      refine ret1 rfl (RV.tmp rfl) (fun w' hm hΦ hs => ?_)
      obtain rfl : i = n := by omega
      rw [insAt_end _ _ _ hlen]
      exact ⟨_, rfl, hm.rowAt (i := 0) rfl, own_fresh hs (i := 0) rfl, hΦ⟩
    · try simp only [decide_eq_true_eq, decide_eq_false_iff_not, Bool.not_eq_true', Bool.not_eq_false', Int.not_lt, Int.not_le, ne_eq, Decidable.not_not, reduceCtorEq, not_false_eq_true] at hc22
      refine CW.skip ?_
      refine QC.then_n ?_
      refine CW.seq ?_
      refine CW.reg ?_
      refine RO.val (Wt.no rfl) rfl (PV.move rfl) ?_
      refine RO.val (Wt.no rfl) rfl (PV.move rfl) ?_
      refine RO.val (Wt.no rfl) rfl (PV.add rfl rfl (by omega)) ?_
      refine RO.val (Wt.no rfl) rfl (PV.move rfl) ?_
      refine RO.val (Wt.no rfl) rfl (PV.capS Try.underlying122 rfl) ?_
      refine RO.val (Wt.no rfl) rfl (PV.gtr rfl rfl) ?_
      refine RO.nil ?_
      refine CW.cond rfl (fun hc31 => ?_) (fun hc31 => ?_)
      · try simp only [decide_eq_true_eq, decide_eq_false_iff_not, Bool.not_eq_true', Bool.not_eq_false', Int.not_lt, Int.not_le, ne_eq, Decidable.not_not, reduceCtorEq, not_false_eq_true] at hc31
        refine CW.reg ?_
        refine RO.val (Wt.no rfl) rfl (PV.move rfl) ?_
        refine RO.val (Wt.no rfl) rfl (PV.move rfl) ?_
        have hin : i < n := by omega
        refine RO.val (Wt.no rfl) rfl (PV.to (PV.slice_nx Try.underlying122 Try.sizeOf125 rfl rfl (by omega)) (slice_eq (by omega) (by omega) (by omega) : _ = Value.slice (some ⟨g0, 0, none⟩) i c0)) ?_
        refine RO.val (Wt.no rfl) rfl (PV.move rfl) ?_
        refine RO.val (Wt.no rfl) rfl (PV.move rfl) ?_
        refine RO.val (Wt.no rfl) rfl (PV.add rfl rfl (by omega)) ?_
        refine RO.val (Wt.no rfl) rfl (PV.move rfl) ?_
        refine RO.val (Wt.no rfl) rfl (PV.sub rfl rfl (by omega)) ?_
        refine RO.eff (Wt.no rfl) rfl (EV.appendZ (size := 11) (bytes := 96) (k := n + 1 - i) (olds := cut xs 0 (i * 11)) Try.underlying122 Try.underlying3 Try.inf125 rfl rfl rfl rfl rfl rfl (by omega) (fun w1 hm h => ownsRow_at (hm.rowAt (i := 0) rfl) (by omega)) (by simp [cut]; omega) (by omega) (by decide) (by omega) (by omega) (by omega)) ?_
        rintro _ _ _ ⟨g9, cap9, R9, rfl, rfl, rfl, hl9, hc9, hm9⟩
        rw [show i + (n + 1 - i) = n + 1 by omega] at hc9 ⊢
        refine RO.val (Wt.no rfl) rfl (PV.assign rfl) ?_
        refine RO.nil ?_
        refine CW.reg ?_
        refine RO.val (Wt.no rfl) rfl (PV.move rfl) ?_
        refine RO.val (Wt.no rfl) rfl (PV.move rfl) ?_
        refine RO.val (Wt.no rfl) rfl (PV.to (PV.slice_xl Try.underlying122 Try.sizeOf125 rfl rfl (by omega)) (slice_eq (by omega) (by omega) (by omega) : _ = Value.slice (some ⟨g9, i * 11, none⟩) (n + 1 - i) (cap9 - i))) ?_
        refine RO.val (Wt.no rfl) rfl (PV.move rfl) ?_
        refine RO.eff (Wt.no rfl) rfl (EV.copy (news := cs) 1 Try.underlying122 Try.sizeOf125 rfl rfl rfl (fun w1 hm h => hval2 w1 h) (by rw [hc]; simp only [Nat.min_def]; split <;> omega) h1 (by omega) rfl) ?_
        rintro _ _ _ ⟨rfl, rfl, rfl⟩
        refine RO.nil ?_
        refine CW.regD (pickM [0] _) _ (by kernel_rfl) (St.of (by decide) rfl (fun _ h => h)) ?_
        refine RD.take 0 rfl (by kernel_rfl) (by kernel_rfl) (by kernel_rfl) (Wt.no rfl) rfl (PV.move rfl) ?_
        refine RD.take 1 rfl (by kernel_rfl) (by kernel_rfl) (by kernel_rfl) (Wt.no rfl) rfl (PV.move rfl) ?_
        refine RD.take 2 rfl (by kernel_rfl) (by kernel_rfl) (by kernel_rfl) (Wt.no rfl) rfl (PV.move rfl) ?_
        refine RD.take 3 rfl (by kernel_rfl) (by kernel_rfl) (by kernel_rfl) (Wt.no rfl) rfl (PV.add rfl rfl (by omega)) ?_
        refine RD.take 4 rfl (by kernel_rfl) (by kernel_rfl) (by kernel_rfl) (Wt.no rfl) rfl (PV.to (PV.slice_xl Try.underlying122 Try.sizeOf125 rfl rfl (by omega)) (slice_eq (by omega) (by omega) (by omega) : _ = Value.slice (some ⟨g9, i * 11 + 11, none⟩) (n - i) (cap9 - (i + 1)))) ?_
        refine RD.take 5 rfl (by kernel_rfl) (by kernel_rfl) (by kernel_rfl) (Wt.no rfl) rfl (PV.move rfl) ?_
        refine RD.take 6 rfl (by kernel_rfl) (by kernel_rfl) (by kernel_rfl) (Wt.no rfl) rfl (PV.move rfl) ?_
        refine RD.take 7 rfl (by kernel_rfl) (by kernel_rfl) (by kernel_rfl) (Wt.no rfl) rfl (PV.to (PV.slice_xl Try.underlying122 Try.sizeOf125 rfl rfl (by omega)) (slice_eq (by omega) (by omega) (by omega) : _ = Value.slice (some ⟨g0, i * 11, none⟩) (n - i) (c0 - i))) ?_
        refine RD.one 8 (by kernel_rfl) ?_
        refine Up.eff rfl (Wt.no rfl) rfl (EV.copy (news := cut xs (i * 11) ((n - i) * 11)) 1 Try.underlying122 Try.sizeOf125 rfl rfl rfl (fun w1 hm h => ownsRow_at (hm.rowAt (i := 0) rfl) (by omega)) (by rw [cut_len (by omega)]; congr 1; exact (Nat.min_eq_left (by omega)).symm) (allOne_cut h1x _ _) (by rw [cut_len (by omega), wr_length, hl9]; omega) rfl) ?_ ?_
        · rintro _ _ _ ⟨rfl, rfl, rfl⟩; exact St.of (by decide) rfl (fun _ h => h)
        rintro _ _ _ ⟨rfl, rfl, rfl⟩
        refine RD.done (by kernel_rfl) ?_
        refine CW.reg ?_
        refine RO.val (Wt.no rfl) rfl (PV.move rfl) ?_
        refine RO.val (Wt.no rfl) rfl (PV.assign rfl) ?_
        refine RO.nil ?_
        refine CW.ret ?_
        refine QC.then_r ?_
        refine ret1 rfl (RV.tmp rfl) (fun w' hm hΦ hs => ?_)
        have hB : (wr (wr (cut xs 0 (i * 11) ++ R9) (i * 11) cs) (i * 11 + 11) (cut xs (i * 11) ((n - i) * 11))).take ((n + 1) * 11) = insAt xs (i * 11) cs := by
          rw [cut_end (A := xs) (o := i * 11) (by omega)]
          exact insAt_grow xs R9 cs (i * 11) 11 _ hc (by omega) (by rw [show xs.take (i * 11) = cut xs 0 (i * 11) from rfl, hl9]; omega) (by omega)
        obtain ⟨_, hm2, hsub⟩ := shut_row 1 (n + 1) rfl (by rw [wr_length, wr_length]; exact hl9) (by omega) hm9 hm
        refine ⟨_, rfl, ?_, own_fresh (hs.less (fun k _ h => hsub k h)) (i := 1) rfl, hΦ⟩
        have := hm2.rowAt (i := 1) rfl
        rwa [hB] at this
      · try simp only [decide_eq_true_eq, decide_eq_false_iff_not, Bool.not_eq_true', Bool.not_eq_false', Int.not_lt, Int.not_le, ne_eq, Decidable.not_not, reduceCtorEq, not_false_eq_true] at hc31
        refine CW.skip ?_
        refine QC.then_n ?_
        refine CW.reg ?_
        have hin : i < n := by omega
        refine RO.reMem _ (fun w1 hm => open_row (i := 0) rfl hm) (fun sp => ?_)
        obtain ⟨sp, hspl, hsple, hspm⟩ := sp
        refine RO.val (Wt.no rfl) rfl (PV.move rfl) ?_
        refine RO.val (Wt.no rfl) rfl (PV.move rfl) ?_
        refine RO.val (Wt.no rfl) rfl (PV.move rfl) ?_
        refine RO.val (Wt.no rfl) rfl (PV.add rfl rfl (by omega)) ?_
        refine RO.val (Wt.no rfl) rfl (PV.to (PV.slice_nx Try.underlying122 Try.sizeOf125 rfl rfl (by omega)) (slice_eq (by omega) (by omega) (by omega) : _ = Value.slice (some ⟨g0, 0, none⟩) (n + 1) c0)) ?_
        refine RO.val (Wt.no rfl) rfl (PV.assign rfl) ?_
        refine RO.nil ?_
        refine CW.seq ?_
        refine CW.reg ?_
        refine RO.val (Wt.no rfl) rfl (PV.move rfl) ?_
        refine RO.val (Wt.no rfl) rfl (PV.move rfl) ?_
        refine RO.val (Wt.no rfl) rfl (PV.move rfl) ?_
        refine RO.val (Wt.no rfl) rfl (PV.move rfl) ?_
        refine RO.val (Wt.no rfl) rfl (PV.add rfl rfl (by omega)) ?_
        refine RO.val (Wt.no rfl) rfl (PV.to (PV.slice_xl Try.underlying122 Try.sizeOf125 rfl rfl (by omega)) (slice_eq (by omega) (by omega) (by omega) : _ = Value.slice (some ⟨g0, i * 11 + 11, none⟩) (n - i) (c0 - (i + 1)))) ?_
        refine RO.eff (Wt.no rfl) rfl ((have ⟨fn, q1, q2, q3, q4, q5⟩ := overlaps_write; EV.overlaps 0 q1 q2 q3 q4 q5 Try.underlying122 Try.sizeOf125 rfl rfl (fun w1 hm h => ⟨_, Tg, (h.block g (h0lt) hgne2).trans hTg⟩) (Ne.symm hgne) rfl (by intro hb; rw [hb] at hspl; simp at hspl; omega))) ?_
        rintro _ _ _ ⟨rfl, rfl, rfl⟩
        refine RO.val (Wt.no rfl) rfl (PV.not rfl) ?_
        refine RO.nil ?_
        refine CW.condT rfl ?_
        refine CW.regD (pickM [] _) _ (by kernel_rfl) (St.of (by decide) rfl (fun _ h => h)) ?_
        refine RD.take 0 rfl (by kernel_rfl) (by kernel_rfl) (by kernel_rfl) (Wt.no rfl) rfl (PV.move rfl) ?_
        refine RD.take 1 rfl (by kernel_rfl) (by kernel_rfl) (by kernel_rfl) (Wt.no rfl) rfl (PV.move rfl) ?_
        refine RD.take 2 rfl (by kernel_rfl) (by kernel_rfl) (by kernel_rfl) (Wt.no rfl) rfl (PV.move rfl) ?_
        refine RD.take 3 rfl (by kernel_rfl) (by kernel_rfl) (by kernel_rfl) (Wt.no rfl) rfl (PV.add rfl rfl (by omega)) ?_
        refine RD.take 4 rfl (by kernel_rfl) (by kernel_rfl) (by kernel_rfl) (Wt.no rfl) rfl (PV.to (PV.slice_xl Try.underlying122 Try.sizeOf125 rfl rfl (by omega)) (slice_eq (by omega) (by omega) (by omega) : _ = Value.slice (some ⟨g0, i * 11 + 11, none⟩) (n - i) (c0 - (i + 1)))) ?_
        refine RD.take 5 rfl (by kernel_rfl) (by kernel_rfl) (by kernel_rfl) (Wt.no rfl) rfl (PV.move rfl) ?_
        refine RD.take 6 rfl (by kernel_rfl) (by kernel_rfl) (by kernel_rfl) (Wt.no rfl) rfl (PV.move rfl) ?_
        refine RD.take 7 rfl (by kernel_rfl) (by kernel_rfl) (by kernel_rfl) (Wt.no rfl) rfl (PV.to (PV.slice_xl Try.underlying122 Try.sizeOf125 rfl rfl (by omega)) (slice_eq (by omega) (by omega) (by omega) : _ = Value.slice (some ⟨g0, i * 11, none⟩) (n + 1 - i) (c0 - i))) ?_
        refine RD.one 8 (by kernel_rfl) ?_
        refine Up.eff rfl (Wt.no rfl) rfl (EV.copy (news := cut (xs ++ sp) (i * 11) ((n - i) * 11)) 0 Try.underlying122 Try.sizeOf125 rfl rfl rfl (fun w1 hm h => hm.opn (i := 0) rfl _ _) (by rw [cut_len (by omega)]; congr 1; exact (Nat.min_eq_right (by omega)).symm) (allOne_cut2 h1x (by omega)) (by rw [cut_len (by omega), hspl]; omega) rfl) ?_ ?_
        · rintro _ _ _ ⟨rfl, rfl, rfl⟩; exact St.of (by decide) rfl (fun _ h => h)
        rintro _ _ _ ⟨rfl, rfl, rfl⟩
        refine RD.done (by kernel_rfl) ?_
        refine CW.reg ?_
        refine RO.val (Wt.no rfl) rfl (PV.move rfl) ?_
        refine RO.val (Wt.no rfl) rfl (PV.move rfl) ?_
        refine RO.val (Wt.no rfl) rfl (PV.to (PV.slice_xl Try.underlying122 Try.sizeOf125 rfl rfl (by omega)) (slice_eq (by omega) (by omega) (by omega) : _ = Value.slice (some ⟨g0, i * 11, none⟩) (n + 1 - i) (c0 - i))) ?_
        refine RO.val (Wt.no rfl) rfl (PV.move rfl) ?_
        refine RO.eff (Wt.no rfl) rfl (EV.copy (news := cs) 0 Try.underlying122 Try.sizeOf125 rfl rfl rfl (fun w1 hm h => hval2 w1 h) (by rw [hc]; simp only [Nat.min_def]; split <;> omega) h1 (by simp [wr_length]; omega) rfl) ?_
        rintro _ _ _ ⟨rfl, rfl, rfl⟩
        refine RO.nil ?_
        refine CW.reg ?_
        refine RO.val (Wt.no rfl) rfl (PV.move rfl) ?_
        refine RO.val (Wt.no rfl) rfl (PV.assign rfl) ?_
        refine RO.nil ?_
        refine CW.ret ?_
        refine QC.then_r ?_
        refine ret1 rfl (RV.tmp rfl) (fun w' hm hΦ hs => ?_)
        have hB : (wr (wr (xs ++ sp) (i * 11 + 11) (cut (xs ++ sp) (i * 11) ((n - i) * 11))) (i * 11) cs).take ((n + 1) * 11) = insAt xs (i * 11) cs := by
          rw [show (n - i) * 11 = xs.length - i * 11 by omega]
          exact insAt_shift xs sp cs (i * 11) 11 _ hc (by omega) (by rw [hspl]; omega) (by omega)
        obtain ⟨_, hm2, hsub⟩ := shut_row 0 (n + 1) rfl (by rw [wr_length, wr_length]; exact hspl) (by omega) hspm hm
        refine ⟨_, rfl, ?_, own_fresh (hs.less (fun k _ h => hsub k h)) (i := 0) rfl, hΦ⟩
        have := hm2.rowAt (i := 0) rfl
        rwa [hB] at this

theorem Insert_write {v0 : Value} {n i g : Nat} {xs cs : List Value} (w : World) (h : MemOk [.row 125 11 v0 n xs, .blk g cs] w) (hc : cs.length = 11) (h1 : allOne cs = true) (h1x : allOne xs = true) (hi : i ≤ n) (hn : n < 100000) : Calls Try.prog 66 #[v0, .int .i64 i, .slice (some ⟨g, 0, none⟩) 1 1] w fun e w' => ∃ v' n' xs', e = .returned v' ∧ (n' = n + 1 ∧ xs' = insAt xs (i * 11) cs ∧ RowV v' n') ∧ w'.ownsRow 0 125 11 v' n' xs' ∧ (∀ g, v'.ownBlock = some g → v0.ownBlock = some g ∨ w.heap.size ≤ g) ∧ Ext (fun g => v0.ownBlock = some g) w w' := by
  rcases ownsRow_form (h.rowAt (i := 0) rfl) with ⟨rfl, rfl, rfl⟩ | ⟨g0, cap, rfl⟩
  · exact (Insert_write_nil i g [] cs w h hc h1 h1x hi).mono fun e w' ⟨v', a, b, c⟩ => ⟨v', _, _, a, ⟨rfl, rfl, ownsRow_V b⟩, b, c⟩
  · exact (Insert_write_some g0 n cap i g xs cs w h hc h1 h1x hi hn).mono fun e w' ⟨v', a, b, c⟩ => ⟨v', _, _, a, ⟨rfl, rfl, ownsRow_V b⟩, b, c⟩
end Go.Proofs.Ytofmaoickidjcaa