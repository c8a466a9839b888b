/- A part of the proof: Walk (for the law Te). -/
import Derived.Test.YtofmaoickidjcaaProg
import Derived.Test.YtofmaoickidjcaaTeIns
import Derived.Test.YtofmaoickidjcaaTePlain
import Derived.Test.YtofmaoickidjcaaTeWalk0
set_option linter.all false
namespace Go.Proofs.Ytofmaoickidjcaa
open Go Go.Sx Go.S
set_option maxHeartbeats 1000000
set_option maxRecDepth 4000
theorem W_bag_May {D : Mem} {Φ : World → Prop} (a1 : S.Bag) (b1_0 : Hd) {r : Bool} (h : S.bag_May a1 = some r) (hR : ∀ w, MemOk D w → Φ w → (slR S.t_Val w a1.Values b1_0)) :
    SpecK Try.prog 73 [.agg (S.t_Bag.enc a1 (hf [b1_0])).toArray] D [] Φ (fun x : Unit => .bool r) (fun x => []) (fun x => []) (fun _ => Φ) := by
  refine enterK Try.func73 rfl Try.ntmps73 rfl ?_
  unfold S.bag_May at h
  refine CW.reg ?_
  refine RO.eff (Wt.no rfl) rfl (EV.boxB (B := S.t_Bag.enc a1 (hf [b1_0])) rfl rfl) ?_
  rintro _ _ _ ⟨g1, rfl, rfl, rfl⟩
  refine RO.val (Wt.no rfl) rfl (PV.assign rfl) ?_
  refine RO.nil ?_
  refine CW.seq ?_
  replace h := bindS h
  obtain ⟨e31, h, hk30⟩ := h
  refine CW.meet (X := Bool) (fun x => [(1, .pointer (some ⟨g1, 0, none⟩)), (2, .bool false), (14, .bool x)]) (fun x => [frame D, .blk g1 (S.t_Bag.enc a1 (hf [b1_0]))]) (fun x w => (Φ w ∧ True)) (fun x => S.bag_May_j1 a1 x = some r) ?_ ?_
  · skip
    replace h := bindS h
    obtain ⟨v32, hx33, h⟩ := h
    by_cases hb34 : (!v32) = true
    · replace h := iteT hb34 h
      refine CW.region ?_
      refine RO.val (Wt.no rfl) rfl (PV.fieldAddr Try.fa40_0 rfl) ?_
      refine RO.val (Wt.no rfl) rfl (PV.loadM (l := S.t_A8_int.enc a1.Known (hf [])) 1 Try.TF37 rfl rfl (cut_Bag_Known _ _) rfl (by decide)) ?_
      refine RO.eff (Wt.no rfl) rfl (EV.call (K := _) Try.call63 rfl (SpecK.callV (W_clock_May a1.Known hx33))) ?_
      rintro _ _ _ ⟨_, rfl, rfl, rfl⟩
      refine RO.val (Wt.no rfl) rfl (PV.not rfl) ?_
      refine RO.val (Wt.no rfl) rfl ((PV.move rfl).to (congrArg Value.bool hb34)) ?_
      refine RO.skip (Un.mk rfl rfl rfl rfl) rfl ?_
      refine RO.skip (Un.mk rfl rfl rfl rfl) rfl ?_
      refine RO.skip (Un.mk rfl rfl rfl rfl) rfl ?_
      refine RO.skip (Un.mk rfl rfl rfl rfl) rfl ?_
      refine RO.val (Wt.no rfl) rfl (PV.pickT rfl rfl) ?_
      refine RO.nil ?_
      obtain rfl := Option.some.inj h
      refine QC.meetP true hk30 [0, 1] (by decide) (by exact ⟨rfl, rfl, rfl, trivial⟩) rfl (fun w hΦ => hΦ)
    · replace hb34 := Bool.eq_false_iff.2 hb34
      replace h := iteF hb34 h
      refine CW.region ?_
      refine RO.val (Wt.no rfl) rfl (PV.fieldAddr Try.fa40_0 rfl) ?_
      refine RO.val (Wt.no rfl) rfl (PV.loadM (l := S.t_A8_int.enc a1.Known (hf [])) 1 Try.TF37 rfl rfl (cut_Bag_Known _ _) rfl (by decide)) ?_
      refine RO.eff (Wt.no rfl) rfl (EV.call (K := _) Try.call63 rfl (SpecK.callV (W_clock_May a1.Known hx33))) ?_
      rintro _ _ _ ⟨_, rfl, rfl, rfl⟩
      refine RO.val (Wt.no rfl) rfl (PV.not rfl) ?_
      refine RO.val (Wt.no rfl) rfl ((PV.move rfl).to (congrArg Value.bool hb34)) ?_
      refine RO.val (Wt.yes rfl rfl rfl rfl) rfl (PV.fieldAddr Try.fa40_1 rfl) ?_
      refine RO.val (Wt.yes rfl rfl rfl rfl) rfl (PV.loadM (l := [.slice b1_0.a a1.Values.length b1_0.cap]) 1 Try.TF38 rfl rfl (cut_Bag_Values _ _) rfl (by decide)) ?_
      refine RO.val (Wt.yes rfl rfl rfl rfl) rfl (PV.lenS Try.underlying38 rfl) ?_
      refine RO.val (Wt.yes rfl rfl rfl rfl) rfl (PV.gtr rfl rfl) ?_
      refine RO.val (Wt.no rfl) rfl (PV.pickF rfl rfl) ?_
      refine RO.nil ?_
      obtain rfl := Option.some.inj h
      refine QC.meetP (decide (32 < (a1.Values.length : Int))) hk30 [0, 1] (by decide) (by exact ⟨rfl, rfl, rfl, trivial⟩) rfl (fun w hΦ => hΦ)
  · rintro v3 h
    try dsimp only at h ⊢
    unfold S.bag_May_j1 at h
    refine CW.cond rfl (fun hb4 => ?_) (fun hb4 => ?_)
    · replace h := iteT hb4 h
      subst hb4
      refine CW.reg ?_
      refine RO.val (Wt.no rfl) rfl (PV.assign rfl) ?_
      refine RO.nil ?_
      refine CW.ret ?_
      refine QC.then_r ?_
      obtain rfl := Option.some.inj h
      exact retP1 (Ψ := Φ) [0] (by decide) rfl (RV.tmp rfl) rfl (fun w hΦ => hΦ.1) ⟨(), rfl, rfl, rfl⟩
    · replace h := iteF hb4 h
      subst hb4
      refine CW.skip ?_
      refine QC.then_n ?_
      replace h := andThen_some h
      obtain ⟨e7, h, hk6⟩ := h
      refine CW.meet (X := Unit) (fun x => [(2, .bool false)]) (fun x => [frame D, .blk g1 (S.t_Bag.enc a1 (hf [b1_0]))]) (fun x w => (Φ w ∧ True)) (fun x => S.bag_May_j3 = some r) ?_ ?_
      · skip
        refine CW.reg ?_
        refine RO.val (Wt.no rfl) rfl (PV.fieldAddr Try.fa40_1 rfl) ?_
        refine RO.val (Wt.no rfl) rfl (PV.loadM (l := [.slice b1_0.a a1.Values.length b1_0.cap]) 1 Try.TF38 rfl rfl (cut_Bag_Values _ _) rfl (by decide)) ?_
        refine RO.val (Wt.no rfl) rfl (PV.lenS Try.underlying38 rfl) ?_
        refine RO.val (Wt.no rfl) rfl (PV.move rfl) ?_
        refine RO.nil ?_
        refine CW.block ?_
        refine CW.loopE (X := Nat × Int) (fun x => [(1, .pointer (some ⟨g1, 0, none⟩)), (2, .bool false), (16, .slice b1_0.a a1.Values.length b1_0.cap), (17, .int .i64 (a1.Values.length : Int)), (18, .int .i64 x.2)]) (fun x => [frame D, .blk g1 (S.t_Bag.enc a1 (hf [b1_0]))]) (fun x w => (Φ w ∧ True)) (fun x => loopN (S.bag_May_l4 a1) x.1 x.2 = some e7) (fun x => x.1) (FUEL, 0) h (by exact ⟨rfl, rfl, rfl, rfl, rfl, trivial⟩) rfl (fun w hΦ => hΦ) ?_
        rintro ⟨n15', v12⟩ hI13
        try dsimp only at hI13 ⊢
        obtain ⟨n15, y14, rfl, h, hk16⟩ := loopN_some hI13
        unfold S.bag_May_l4 at h
        try dsimp only at h
        refine CW.reg ?_
        refine RO.val (Wt.no rfl) rfl (PV.lss rfl rfl) ?_
        refine RO.nil ?_
        refine CW.seq ?_
        refine CW.cond rfl (fun hb17 => ?_) (fun hb17 => ?_)
        · replace h := iteT hb17 h
          refine CW.skip ?_
          refine QC.then_n ?_
          refine CW.seq ?_
          refine CW.block ?_
          replace h := bindS h
          obtain ⟨v18, hx19, h⟩ := h
          refine CW.reg ?_
          refine RO.val (Wt.no rfl) rfl (PV.move rfl) ?_
          refine RO.val (Wt.no rfl) rfl (PV.idxQ (t := S.t_Val) (l := a1.Values) (q := b1_0) Try.underlying38 Try.sizeOf80 (fun w hm hΦ => (hR w (hm.frameAt (i := 0) rfl) (hΦ.1))) rfl rfl hx19) ?_
          refine RO.val (Wt.no rfl) rfl (PV.loadQ (off := 0) (cs := S.t_Val.enc v18 (hf [])) (t := S.t_Val) (l := a1.Values) (q := b1_0) Try.TF80 (fun w hm hΦ => (hR w (hm.frameAt (i := 0) rfl) (hΦ.1))) hx19 rfl rfl rfl (cut_self (S.t_Val.len _ _)) rfl (by decide)) ?_
          refine RO.eff (Wt.no rfl) rfl (EV.allocB (B := S.t_Val.enc S.Val.z (hf [])) Try.zeroValue80 rfl) ?_
          rintro _ _ _ ⟨g20, rfl, rfl, rfl⟩
          refine RO.val (Wt.no rfl) rfl (PV.assign rfl) ?_
          refine RO.eff (Wt.no rfl) rfl (EV.storeW (B := S.t_Val.enc v18 (hf [])) 2 Try.TF80 rfl rfl rfl (by exact S.t_Val.len v18 (hf [])) (by exact S.t_Val.one v18 (hf [])) (S.t_Val.len S.Val.z (hf [])) rfl) ?_
          rintro _ _ _ ⟨rfl, rfl, rfl⟩
          refine RO.nil ?_
          replace h := bindS h
          obtain ⟨v21, hx22, h⟩ := h
          by_cases hb23 : (!v21) = true
          · replace h := iteT hb23 h
            refine CW.regD (pickM [0, 1, 2] _) _ (by kernel_rfl) (St.of (by decide) rfl (fun _ h => h)) ?_
            refine RD.take 0 rfl (by kernel_rfl) (by kernel_rfl) (by kernel_rfl) (Wt.no rfl) rfl (PV.loadM (l := S.t_Val.enc v18 (hf [])) 2 Try.TF80 rfl rfl (cut_self (S.t_Val.len _ _)) rfl (by decide)) ?_
            refine RD.take 1 rfl (by kernel_rfl) (by kernel_rfl) (by kernel_rfl) (Wt.no rfl) rfl (PV.fieldAddr Try.fa40_0 rfl) ?_
            refine RD.take 2 rfl (by kernel_rfl) (by kernel_rfl) (by kernel_rfl) (Wt.no rfl) rfl (PV.loadM (l := S.t_A8_int.enc a1.Known (hf [])) 1 Try.TF37 rfl rfl (cut_Bag_Known _ _) rfl (by decide)) ?_
            refine RD.one 3 (by kernel_rfl) ?_
            refine Up.eff rfl (Wt.no rfl) rfl (EV.call (K := _) Try.call103 rfl (SpecK.callV (W_bag_may v18 a1.Known hx22))) ?_ ?_
            · rintro _ _ _ ⟨_, rfl, rfl, rfl⟩; exact St.of' (by decide) (L' := [0, 1, 2]) rfl (fun _ h => h)
            rintro _ _ _ ⟨_, rfl, rfl, rfl⟩
            refine RD.take 4 rfl (by kernel_rfl) (by kernel_rfl) (by kernel_rfl) (Wt.no rfl) rfl (PV.not rfl) ?_
            refine RD.take 5 rfl (by kernel_rfl) (by kernel_rfl) (by kernel_rfl) (Wt.no rfl) rfl ((PV.move rfl).to (congrArg Value.bool hb23)) ?_
            refine RD.takeNo 6 rfl (by kernel_rfl) (by kernel_rfl) (by kernel_rfl) (Un.mk rfl rfl rfl rfl) rfl ?_
            refine RD.takeNo 7 rfl (by kernel_rfl) (by kernel_rfl) (by kernel_rfl) (Un.mk rfl rfl rfl rfl) rfl ?_
            refine RD.takeNo 8 rfl (by kernel_rfl) (by kernel_rfl) (by kernel_rfl) (Un.mk rfl rfl rfl rfl) rfl ?_
            refine RD.takeNo 9 rfl (by kernel_rfl) (by kernel_rfl) (by kernel_rfl) (Un.undef rfl rfl rfl rfl) rfl ?_
            refine RD.takeNo 10 rfl (by kernel_rfl) (by kernel_rfl) (by kernel_rfl) (Un.undef rfl rfl rfl rfl) rfl ?_
            refine RD.takeNo 11 rfl (by kernel_rfl) (by kernel_rfl) (by kernel_rfl) (Un.undef rfl rfl rfl rfl) rfl ?_
            refine RD.takeNo 12 rfl (by kernel_rfl) (by kernel_rfl) (by kernel_rfl) (Un.undef rfl rfl rfl rfl) rfl ?_
            refine RD.takeNo 13 rfl (by kernel_rfl) (by kernel_rfl) (by kernel_rfl) (Un.undef rfl rfl rfl rfl) rfl ?_
            refine RD.takeNo 14 rfl (by kernel_rfl) (by kernel_rfl) (by kernel_rfl) (Un.undef rfl rfl rfl rfl) rfl ?_
            refine RD.takeNo 15 rfl (by kernel_rfl) (by kernel_rfl) (by kernel_rfl) (Un.undef rfl rfl rfl rfl) rfl ?_
            refine RD.takeNo 16 rfl (by kernel_rfl) (by kernel_rfl) (by kernel_rfl) (Un.undef rfl rfl rfl rfl) rfl ?_
            refine RD.takeNo 17 rfl (by kernel_rfl) (by kernel_rfl) (by kernel_rfl) (Un.undef rfl rfl rfl rfl) rfl ?_
            refine RD.takeNo 18 rfl (by kernel_rfl) (by kernel_rfl) (by kernel_rfl) (Un.undef rfl rfl rfl rfl) rfl ?_
            refine RD.takeNo 19 rfl (by kernel_rfl) (by kernel_rfl) (by kernel_rfl) (Un.undef rfl rfl rfl rfl) rfl ?_
            refine RD.takeNo 20 rfl (by kernel_rfl) (by kernel_rfl) (by kernel_rfl) (Un.mk rfl rfl rfl rfl) rfl ?_
            refine RD.take 21 rfl (by kernel_rfl) (by kernel_rfl) (by kernel_rfl) (Wt.no rfl) rfl (PV.pickT rfl rfl) ?_
            refine RD.done (by kernel_rfl) ?_
            refine CW.condT rfl ?_
            refine CW.reg ?_
            refine RO.val (Wt.no rfl) rfl (PV.assign rfl) ?_
            refine RO.nil ?_
            refine CW.ret ?_
            refine QC.blk_r ?_
            refine QC.then_r ?_
            refine QC.then_r ?_
            refine QC.blk_r ?_
            refine QC.then_r ?_
            obtain rfl := Option.some.inj h
            obtain rfl := nextL_inr hk16
            obtain rfl := afterS_inr hk6
            exact retP1 (Ψ := Φ) [0] (by decide) rfl (RV.tmp rfl) rfl (fun w hΦ => hΦ.1) ⟨(), rfl, rfl, rfl⟩
          · replace hb23 := Bool.eq_false_iff.2 hb23
            replace h := iteF hb23 h
            by_cases hb24 : (decide (0 < v12)) = true
            · replace h := iteT hb24 h
              replace h := bindS h
              obtain ⟨v25, hx26, h⟩ := h
              replace h := bindS h
              obtain ⟨v27, hx28, h⟩ := h
              refine CW.regD (pickM [0, 1, 2] _) _ (by kernel_rfl) (St.of (by decide) rfl (fun _ h => h)) ?_
              refine RD.take 0 rfl (by kernel_rfl) (by kernel_rfl) (by kernel_rfl) (Wt.no rfl) rfl (PV.loadM (l := S.t_Val.enc v18 (hf [])) 2 Try.TF80 rfl rfl (cut_self (S.t_Val.len _ _)) rfl (by decide)) ?_
              refine RD.take 1 rfl (by kernel_rfl) (by kernel_rfl) (by kernel_rfl) (Wt.no rfl) rfl (PV.fieldAddr Try.fa40_0 rfl) ?_
              refine RD.take 2 rfl (by kernel_rfl) (by kernel_rfl) (by kernel_rfl) (Wt.no rfl) rfl (PV.loadM (l := S.t_A8_int.enc a1.Known (hf [])) 1 Try.TF37 rfl rfl (cut_Bag_Known _ _) rfl (by decide)) ?_
              refine RD.one 3 (by kernel_rfl) ?_
              refine Up.eff rfl (Wt.no rfl) rfl (EV.call (K := _) Try.call103 rfl (SpecK.callV (W_bag_may v18 a1.Known hx22))) ?_ ?_
              · rintro _ _ _ ⟨_, rfl, rfl, rfl⟩; exact St.of' (by decide) (L' := [0, 1, 2]) rfl (fun _ h => h)
              rintro _ _ _ ⟨_, rfl, rfl, rfl⟩
              refine RD.take 4 rfl (by kernel_rfl) (by kernel_rfl) (by kernel_rfl) (Wt.no rfl) rfl (PV.not rfl) ?_
              refine RD.take 5 rfl (by kernel_rfl) (by kernel_rfl) (by kernel_rfl) (Wt.no rfl) rfl ((PV.move rfl).to (congrArg Value.bool hb23)) ?_
              refine RD.take 6 rfl (by kernel_rfl) (by kernel_rfl) (by kernel_rfl) (Wt.yes rfl rfl rfl rfl) rfl (PV.move rfl) ?_
              refine RD.take 7 rfl (by kernel_rfl) (by kernel_rfl) (by kernel_rfl) (Wt.yes rfl rfl rfl rfl) rfl (PV.gtr rfl rfl) ?_
              refine RD.take 8 rfl (by kernel_rfl) (by kernel_rfl) (by kernel_rfl) (Wt.yes rfl rfl rfl rfl) rfl ((PV.move rfl).to (congrArg Value.bool hb24)) ?_
              refine RD.take 9 rfl (by kernel_rfl) (by kernel_rfl) (by kernel_rfl) (Wt.yes rfl rfl rfl rfl) rfl (PV.fieldAddr Try.fa40_1 rfl) ?_
              refine RD.take 10 rfl (by kernel_rfl) (by kernel_rfl) (by kernel_rfl) (Wt.yes rfl rfl rfl rfl) rfl (PV.loadM (l := [.slice b1_0.a a1.Values.length b1_0.cap]) 1 Try.TF38 rfl rfl (cut_Bag_Values _ _) rfl (by decide)) ?_
              refine RD.take 11 rfl (by kernel_rfl) (by kernel_rfl) (by kernel_rfl) (Wt.yes rfl rfl rfl rfl) rfl (PV.move rfl) ?_
              refine RD.take 12 rfl (by kernel_rfl) (by kernel_rfl) (by kernel_rfl) (Wt.yes rfl rfl rfl rfl) rfl (PV.subW rfl rfl) ?_
              refine RD.take 13 rfl (by kernel_rfl) (by kernel_rfl) (by kernel_rfl) (Wt.yes rfl rfl rfl rfl) rfl (PV.idxQ (t := S.t_Val) (l := a1.Values) (q := b1_0) Try.underlying38 Try.sizeOf80 (fun w hm hΦ => (hR w (hm.frameAt (i := 0) rfl) (hΦ.1))) rfl rfl hx26) ?_
              refine RD.take 14 rfl (by kernel_rfl) (by kernel_rfl) (by kernel_rfl) (Wt.yes rfl rfl rfl rfl) rfl (PV.fieldAddr Try.fa80_0 rfl) ?_
              refine RD.take 15 rfl (by kernel_rfl) (by kernel_rfl) (by kernel_rfl) (Wt.yes rfl rfl rfl rfl) rfl (PV.loadQ (off := 0 + 0) (cs := S.t_Dot.enc v25.Dot (hf [])) (t := S.t_Val) (l := a1.Values) (q := b1_0) Try.TF45 (fun w hm hΦ => (hR w (hm.frameAt (i := 0) rfl) (hΦ.1))) hx26 rfl rfl rfl (cut_Val_Dot _ _) rfl (by decide)) ?_
              refine RD.take 16 rfl (by kernel_rfl) (by kernel_rfl) (by kernel_rfl) (Wt.yes rfl rfl rfl rfl) rfl (PV.fieldAddr Try.fa80_0 rfl) ?_
              refine RD.take 17 rfl (by kernel_rfl) (by kernel_rfl) (by kernel_rfl) (Wt.yes rfl rfl rfl rfl) rfl (PV.loadM (l := S.t_Dot.enc v18.Dot (hf [])) 2 Try.TF45 rfl rfl (cut_Val_Dot _ _) rfl (by decide)) ?_
              refine RD.one 18 (by kernel_rfl) ?_
              refine Up.eff rfl (Wt.yes rfl rfl rfl rfl) rfl (EV.call (K := _) Try.call98 rfl (SpecK.callV (W_clock_Compare v25.Dot v18.Dot hx28))) ?_ ?_
              · rintro _ _ _ ⟨_, rfl, rfl, rfl⟩; exact St.of' (by decide) (L' := [0, 1, 2]) rfl (fun _ h => h)
              rintro _ _ _ ⟨_, rfl, rfl, rfl⟩
              refine RD.take 19 rfl (by kernel_rfl) (by kernel_rfl) (by kernel_rfl) (Wt.yes rfl rfl rfl rfl) rfl (PV.geq rfl rfl) ?_
              refine RD.take 20 rfl (by kernel_rfl) (by kernel_rfl) (by kernel_rfl) (Wt.yes rfl rfl rfl rfl) rfl (PV.pickT rfl rfl) ?_
              refine RD.take 21 rfl (by kernel_rfl) (by kernel_rfl) (by kernel_rfl) (Wt.no rfl) rfl (PV.pickF rfl rfl) ?_
              refine RD.done (by kernel_rfl) ?_
              refine CW.cond rfl (fun hb29 => ?_) (fun hb29 => ?_)
              · replace h := iteT hb29 h
                refine CW.reg ?_
                refine RO.val (Wt.no rfl) rfl (PV.assign rfl) ?_
                refine RO.nil ?_
                refine CW.ret ?_
                refine QC.blk_r ?_
                refine QC.then_r ?_
                refine QC.then_r ?_
                refine QC.blk_r ?_
                refine QC.then_r ?_
                obtain rfl := Option.some.inj h
                obtain rfl := nextL_inr hk16
                obtain rfl := afterS_inr hk6
                exact retP1 (Ψ := Φ) [0] (by decide) rfl (RV.tmp rfl) rfl (fun w hΦ => hΦ.1) ⟨(), rfl, rfl, rfl⟩
              · replace h := iteF hb29 h
                refine CW.skip ?_
                refine QC.blk_n ?_
                refine QC.then_n ?_
                refine CW.region ?_
                refine RO.val (Wt.no rfl) rfl (PV.addW rfl rfl) ?_
                refine RO.val (Wt.no rfl) rfl (PV.move rfl) ?_
                refine RO.nil ?_
                obtain rfl := Option.some.inj h
                refine QC.roundP (n15, (w64 (v12 + 1))) (nextL_inl hk16) (by exact Nat.lt_succ_self _) [0, 1] (by decide) (by exact ⟨rfl, rfl, rfl, rfl, rfl, trivial⟩) rfl (fun w hΦ => hΦ)
            · replace hb24 := Bool.eq_false_iff.2 hb24
              replace h := iteF hb24 h
              refine CW.regD (pickM [0, 1, 2] _) _ (by kernel_rfl) (St.of (by decide) rfl (fun _ h => h)) ?_
              refine RD.take 0 rfl (by kernel_rfl) (by kernel_rfl) (by kernel_rfl) (Wt.no rfl) rfl (PV.loadM (l := S.t_Val.enc v18 (hf [])) 2 Try.TF80 rfl rfl (cut_self (S.t_Val.len _ _)) rfl (by decide)) ?_
              refine RD.take 1 rfl (by kernel_rfl) (by kernel_rfl) (by kernel_rfl) (Wt.no rfl) rfl (PV.fieldAddr Try.fa40_0 rfl) ?_
              refine RD.take 2 rfl (by kernel_rfl) (by kernel_rfl) (by kernel_rfl) (Wt.no rfl) rfl (PV.loadM (l := S.t_A8_int.enc a1.Known (hf [])) 1 Try.TF37 rfl rfl (cut_Bag_Known _ _) rfl (by decide)) ?_
              refine RD.one 3 (by kernel_rfl) ?_
              refine Up.eff rfl (Wt.no rfl) rfl (EV.call (K := _) Try.call103 rfl (SpecK.callV (W_bag_may v18 a1.Known hx22))) ?_ ?_
              · rintro _ _ _ ⟨_, rfl, rfl, rfl⟩; exact St.of' (by decide) (L' := [0, 1, 2]) rfl (fun _ h => h)
              rintro _ _ _ ⟨_, rfl, rfl, rfl⟩
              refine RD.take 4 rfl (by kernel_rfl) (by kernel_rfl) (by kernel_rfl) (Wt.no rfl) rfl (PV.not rfl) ?_
              refine RD.take 5 rfl (by kernel_rfl) (by kernel_rfl) (by kernel_rfl) (Wt.no rfl) rfl ((PV.move rfl).to (congrArg Value.bool hb23)) ?_
              refine RD.take 6 rfl (by kernel_rfl) (by kernel_rfl) (by kernel_rfl) (Wt.yes rfl rfl rfl rfl) rfl (PV.move rfl) ?_
              refine RD.take 7 rfl (by kernel_rfl) (by kernel_rfl) (by kernel_rfl) (Wt.yes rfl rfl rfl rfl) rfl (PV.gtr rfl rfl) ?_
              refine RD.take 8 rfl (by kernel_rfl) (by kernel_rfl) (by kernel_rfl) (Wt.yes rfl rfl rfl rfl) rfl ((PV.move rfl).to (congrArg Value.bool hb24)) ?_
              refine RD.takeNo 9 rfl (by kernel_rfl) (by kernel_rfl) (by kernel_rfl) (Un.mk rfl rfl rfl rfl) rfl ?_
              refine RD.takeNo 10 rfl (by kernel_rfl) (by kernel_rfl) (by kernel_rfl) (Un.mk rfl rfl rfl rfl) rfl ?_
              refine RD.takeNo 11 rfl (by kernel_rfl) (by kernel_rfl) (by kernel_rfl) (Un.mk rfl rfl rfl rfl) rfl ?_
              refine RD.takeNo 12 rfl (by kernel_rfl) (by kernel_rfl) (by kernel_rfl) (Un.mk rfl rfl rfl rfl) rfl ?_
              refine RD.takeNo 13 rfl (by kernel_rfl) (by kernel_rfl) (by kernel_rfl) (Un.mk rfl rfl rfl rfl) rfl ?_
              refine RD.takeNo 14 rfl (by kernel_rfl) (by kernel_rfl) (by kernel_rfl) (Un.mk rfl rfl rfl rfl) rfl ?_
              refine RD.takeNo 15 rfl (by kernel_rfl) (by kernel_rfl) (by kernel_rfl) (Un.mk rfl rfl rfl rfl) rfl ?_
              refine RD.takeNo 16 rfl (by kernel_rfl) (by kernel_rfl) (by kernel_rfl) (Un.mk rfl rfl rfl rfl) rfl ?_
              refine RD.takeNo 17 rfl (by kernel_rfl) (by kernel_rfl) (by kernel_rfl) (Un.mk rfl rfl rfl rfl) rfl ?_
              refine RD.takeNo 18 rfl (by kernel_rfl) (by kernel_rfl) (by kernel_rfl) (Un.mk rfl rfl rfl rfl) rfl ?_
              refine RD.takeNo 19 rfl (by kernel_rfl) (by kernel_rfl) (by kernel_rfl) (Un.mk rfl rfl rfl rfl) rfl ?_
              refine RD.take 20 rfl (by kernel_rfl) (by kernel_rfl) (by kernel_rfl) (Wt.yes rfl rfl rfl rfl) rfl (PV.pickF rfl rfl) ?_
              refine RD.take 21 rfl (by kernel_rfl) (by kernel_rfl) (by kernel_rfl) (Wt.no rfl) rfl (PV.pickF rfl rfl) ?_
              refine RD.done (by kernel_rfl) ?_
              refine CW.condF rfl ?_
              refine CW.skip ?_
              refine QC.blk_n ?_
              refine QC.then_n ?_
              refine CW.region ?_
              refine RO.val (Wt.no rfl) rfl (PV.addW rfl rfl) ?_
              refine RO.val (Wt.no rfl) rfl (PV.move rfl) ?_
              refine RO.nil ?_
              obtain rfl := Option.some.inj h
              refine QC.roundP (n15, (w64 (v12 + 1))) (nextL_inl hk16) (by exact Nat.lt_succ_self _) [0, 1] (by decide) (by exact ⟨rfl, rfl, rfl, rfl, rfl, trivial⟩) rfl (fun w hΦ => hΦ)
        · replace h := iteF hb17 h
          refine CW.exit ?_
          refine QC.then_x ?_
          refine QC.then_x ?_
          refine QC.blk_x ?_
          obtain rfl := Option.some.inj h
          obtain rfl := nextL_inr hk16
          refine QC.meetP () (afterS_inl hk6) [0, 1] (by decide) (by exact ⟨rfl, trivial⟩) rfl (fun w hΦ => hΦ)
      · rintro ⟨⟩ h
        try dsimp only at h ⊢
        unfold S.bag_May_j3 at h
        refine CW.reg ?_
        refine RO.val (Wt.no rfl) rfl (PV.assign rfl) ?_
        refine RO.nil ?_
        refine CW.ret ?_
        obtain rfl := Option.some.inj h
        exact retP1 (Ψ := Φ) [0] (by decide) rfl (RV.tmp rfl) rfl (fun w hΦ => hΦ.1) ⟨(), rfl, rfl, rfl⟩

theorem W_ledger_May {D : Mem} {Φ : World → Prop} (a1 : S.Deed) (b1_0 : Hd) (b1_1 : Hd) {r : Bool} (h : S.ledger_May a1 = some r) (hR : ∀ w, Φ w → (slR S.t_Val w a1.Bag.Values b1_0 ∧ slR (tInt .i64) w a1.Ring.Plan.Targets b1_1)) :
    SpecK Try.prog 113 [.agg (S.t_Deed.enc a1 (hf [b1_0, b1_1])).toArray] D [] Φ (fun x : Unit => .bool r) (fun x => []) (fun x => []) (fun _ => Φ) := by
  refine enterK Try.func113 rfl Try.ntmps113 rfl ?_
  unfold S.ledger_May at h
  refine CW.reg ?_
  refine RO.eff (Wt.no rfl) rfl (EV.boxB (B := S.t_Deed.enc a1 (hf [b1_0, b1_1])) rfl rfl) ?_
  rintro _ _ _ ⟨g1, rfl, rfl, rfl⟩
  refine RO.val (Wt.no rfl) rfl (PV.assign rfl) ?_
  refine RO.nil ?_
  refine CW.seq ?_
  replace h := bindS h
  obtain ⟨v2, hx3, h⟩ := h
  replace h := bindS h
  obtain ⟨v7, hx8, h⟩ := h
  refine CW.regD (pickM [0, 1] _) _ (by kernel_rfl) (St.of (by decide) rfl (fun _ h => h)) ?_
  refine RD.take 0 rfl (by kernel_rfl) (by kernel_rfl) (by kernel_rfl) (Wt.no rfl) rfl (PV.loadM (l := S.t_Deed.enc a1 (hf [b1_0, b1_1])) 1 Try.TF106 rfl rfl (cut_self (S.t_Deed.len _ _)) rfl (by decide)) ?_
  refine RD.take 1 rfl (by kernel_rfl) (by kernel_rfl) (by kernel_rfl) (Wt.no rfl) rfl (PV.loadM (l := S.t_Deed.enc a1 (hf [b1_0, b1_1])) 1 Try.TF106 rfl rfl (cut_self (S.t_Deed.len _ _)) rfl (by decide)) ?_
  refine RD.one 2 (by kernel_rfl) ?_
  refine Up.eff rfl (Wt.no rfl) rfl (EV.call (K := _) Try.call140 rfl (SpecK.callV (W_ledger_named a1 b1_0 b1_1 hx3 (fun w hΦ => ⟨(hR w (hΦ.1)).1, (hR w (hΦ.1)).2⟩)))) ?_ ?_
  · rintro _ _ _ ⟨⟨q4, q5⟩, rfl, rfl, rfl⟩; exact St.of' (by decide) (L' := [0, 1]) rfl (fun _ h => h.1)
  rintro _ _ _ ⟨⟨q4, q5⟩, rfl, rfl, rfl⟩
  refine RD.one 3 (by kernel_rfl) ?_
  refine Up.eff rfl (Wt.no rfl) rfl (EV.call (K := _) Try.call139 rfl (SpecK.callV (W_ledger_Same a1 v2 b1_0 b1_1 q4 q5 hx8 (fun w hm hΦ => ⟨(hR w (hΦ.1.1)).1, (hR w (hΦ.1.1)).2, (hΦ.2.1), (hΦ.2.2)⟩)))) ?_ ?_
  · rintro _ _ _ ⟨_, rfl, rfl, rfl⟩; exact St.of' (by decide) (L' := [0, 1]) rfl (fun _ h => h.1)
  rintro _ _ _ ⟨_, rfl, rfl, rfl⟩
  refine RD.take 4 rfl (by kernel_rfl) (by kernel_rfl) (by kernel_rfl) (Wt.no rfl) rfl (PV.not rfl) ?_
  refine RD.done (by kernel_rfl) ?_
  refine CW.cond rfl (fun hb9 => ?_) (fun hb9 => ?_)
  · replace h := iteT hb9 h
    refine CW.reg ?_
    refine RO.val (Wt.no rfl) rfl (PV.assign rfl) ?_
    refine RO.nil ?_
    refine CW.ret ?_
    refine QC.then_r ?_
    obtain rfl := Option.some.inj h
    exact retP1 (Ψ := Φ) [0] (by decide) rfl (RV.tmp rfl) rfl (fun w hΦ => hΦ.1.1) ⟨(), rfl, rfl, rfl⟩
  · replace h := iteF hb9 h
    refine CW.skip ?_
    refine QC.then_n ?_
    refine CW.seq ?_
    refine CW.reg ?_
    refine RO.val (Wt.no rfl) rfl (PV.fieldAddr Try.fa106_0 rfl) ?_
    refine RO.val (Wt.no rfl) rfl (PV.loadM (l := [.int .i64 a1.Kind]) 1 Try.TF3 rfl rfl (cut_Deed_Kind _ _) rfl (by decide)) ?_
    refine RO.nil ?_
    refine CW.block ?_
    refine CW.reg ?_
    refine RO.val (Wt.no rfl) rfl (PV.eql rfl rfl) ?_
    refine RO.val (Wt.no rfl) rfl (PV.assign rfl) ?_
    refine RO.nil ?_
    refine CW.cond rfl (fun hb10 => ?_) (fun hb10 => ?_)
    · replace h := iteT hb10 h
      replace h := bindS h
      obtain ⟨v11, hx12, h⟩ := h
      refine CW.reg ?_
      refine RO.val (Wt.no rfl) rfl (PV.fieldAddr Try.fa106_1 rfl) ?_
      refine RO.val (Wt.no rfl) rfl (PV.loadM (l := [.int .i64 a1.N]) 1 Try.TF3 rfl rfl (cut_Deed_N _ _) rfl (by decide)) ?_
      refine RO.eff (Wt.no rfl) rfl (EV.call (K := _) Try.call141 rfl (SpecK.callV (W_ledger_within a1.N 1000000 hx12))) ?_
      rintro _ _ _ ⟨_, rfl, rfl, rfl⟩
      refine RO.val (Wt.no rfl) rfl (PV.assign rfl) ?_
      refine RO.nil ?_
      refine CW.ret ?_
      refine QC.blk_r ?_
      refine QC.then_r ?_
      obtain rfl := Option.some.inj h
      exact retP1 (Ψ := Φ) [0] (by decide) rfl (RV.tmp rfl) rfl (fun w hΦ => hΦ.1.1) ⟨(), rfl, rfl, rfl⟩
    · replace h := iteF hb10 h
      refine CW.reg ?_
      refine RO.val (Wt.no rfl) rfl (PV.eql rfl rfl) ?_
      refine RO.val (Wt.no rfl) rfl (PV.assign rfl) ?_
      refine RO.nil ?_
      refine CW.cond rfl (fun hb13 => ?_) (fun hb13 => ?_)
      · replace h := iteT hb13 h
        replace h := bindS h
        obtain ⟨v14, hx15, h⟩ := h
        refine CW.reg ?_
        refine RO.val (Wt.no rfl) rfl (PV.fieldAddr Try.fa106_4 rfl) ?_
        refine RO.val (Wt.no rfl) rfl (PV.loadM (l := S.t_Ring.enc a1.Ring (hf [b1_1])) 1 Try.TF33 rfl rfl (cut_Deed_Ring _ _) rfl (by decide)) ?_
        refine RO.eff (Wt.no rfl) rfl (EV.call (K := _) Try.call115 rfl (SpecK.callV (W_ring_May a1.Ring b1_1 hx15 (fun w hm hΦ => (hR w (hΦ.1.1)).2)))) ?_
        rintro _ _ _ ⟨_, rfl, rfl, rfl⟩
        refine RO.val (Wt.no rfl) rfl (PV.assign rfl) ?_
        refine RO.nil ?_
        refine CW.ret ?_
        refine QC.blk_r ?_
        refine QC.then_r ?_
        obtain rfl := Option.some.inj h
        exact retP1 (Ψ := Φ) [0] (by decide) rfl (RV.tmp rfl) rfl (fun w hΦ => hΦ.1.1) ⟨(), rfl, rfl, rfl⟩
      · replace h := iteF hb13 h
        refine CW.reg ?_
        refine RO.val (Wt.no rfl) rfl (PV.eql rfl rfl) ?_
        refine RO.val (Wt.no rfl) rfl (PV.assign rfl) ?_
        refine RO.nil ?_
        refine CW.cond rfl (fun hb16 => ?_) (fun hb16 => ?_)
        · replace h := iteT hb16 h
          replace h := bindS h
          obtain ⟨v17, hx18, h⟩ := h
          by_cases hb19 : v17 = true
          · replace h := iteT hb19 h
            subst hb19
            replace h := bindS h
            obtain ⟨v20, hx21, h⟩ := h
            by_cases hb22 : v20 = true
            · replace h := iteT hb22 h
              subst hb22
              replace h := bindS h
              obtain ⟨v23, hx24, h⟩ := h
              refine CW.reg ?_
              refine RO.val (Wt.no rfl) rfl (PV.fieldAddr Try.fa106_2 rfl) ?_
              refine RO.val (Wt.no rfl) rfl (PV.loadM (l := [.string a1.Key]) 1 Try.TF9 rfl rfl (cut_Deed_Key _ _) rfl (by decide)) ?_
              refine RO.val (Wt.no rfl) rfl (PV.lenStr Try.underlying9 rfl) ?_
              refine RO.val (Wt.no rfl) rfl (PV.subW rfl rfl) ?_
              refine RO.eff (Wt.no rfl) rfl (EV.call (K := _) Try.call141 rfl (SpecK.callV (W_ledger_within (w64 ((a1.Key.size : Int) - 1)) 31 hx18))) ?_
              rintro _ _ _ ⟨_, rfl, rfl, rfl⟩
              refine RO.val (Wt.no rfl) rfl (PV.move rfl) ?_
              refine RO.val (Wt.yes rfl rfl rfl rfl) rfl (PV.fieldAddr Try.fa106_3 rfl) ?_
              refine RO.val (Wt.yes rfl rfl rfl rfl) rfl (PV.loadM (l := S.t_Bag.enc a1.Bag (hf [b1_0])) 1 Try.TF40 rfl rfl (cut_Deed_Bag _ _) rfl (by decide)) ?_
              refine RO.eff (Wt.yes rfl rfl rfl rfl) rfl (EV.call (K := _) Try.call73 rfl (SpecK.callV (W_bag_May a1.Bag b1_0 hx21 (fun w hm hΦ => (hR w (hΦ.1.1)).1)))) ?_
              rintro _ _ _ ⟨_, rfl, rfl, rfl⟩
              refine RO.val (Wt.no rfl) rfl (PV.pickT rfl rfl) ?_
              refine RO.val (Wt.no rfl) rfl (PV.move rfl) ?_
              refine RO.val (Wt.yes rfl rfl rfl rfl) rfl (PV.fieldAddr Try.fa106_1 rfl) ?_
              refine RO.val (Wt.yes rfl rfl rfl rfl) rfl (PV.loadM (l := [.int .i64 a1.N]) 1 Try.TF3 rfl rfl (cut_Deed_N _ _) rfl (by decide)) ?_
              refine RO.eff (Wt.yes rfl rfl rfl rfl) rfl (EV.call (K := _) Try.call141 rfl (SpecK.callV (W_ledger_within a1.N 1000000 hx24))) ?_
              rintro _ _ _ ⟨_, rfl, rfl, rfl⟩
              refine RO.val (Wt.no rfl) rfl (PV.pickT rfl rfl) ?_
              refine RO.val (Wt.no rfl) rfl (PV.assign rfl) ?_
              refine RO.nil ?_
              refine CW.ret ?_
              refine QC.blk_r ?_
              refine QC.then_r ?_
              obtain rfl := Option.some.inj h
              exact retP1 (Ψ := Φ) [0] (by decide) rfl (RV.tmp rfl) rfl (fun w hΦ => hΦ.1.1) ⟨(), rfl, rfl, rfl⟩
            · replace hb22 := Bool.eq_false_iff.2 hb22
              replace h := iteF hb22 h
              subst hb22
              refine CW.reg ?_
              refine RO.val (Wt.no rfl) rfl (PV.fieldAddr Try.fa106_2 rfl) ?_
              refine RO.val (Wt.no rfl) rfl (PV.loadM (l := [.string a1.Key]) 1 Try.TF9 rfl rfl (cut_Deed_Key _ _) rfl (by decide)) ?_
              refine RO.val (Wt.no rfl) rfl (PV.lenStr Try.underlying9 rfl) ?_
              refine RO.val (Wt.no rfl) rfl (PV.subW rfl rfl) ?_
              refine RO.eff (Wt.no rfl) rfl (EV.call (K := _) Try.call141 rfl (SpecK.callV (W_ledger_within (w64 ((a1.Key.size : Int) - 1)) 31 hx18))) ?_
              rintro _ _ _ ⟨_, rfl, rfl, rfl⟩
              refine RO.val (Wt.no rfl) rfl (PV.move rfl) ?_
              refine RO.val (Wt.yes rfl rfl rfl rfl) rfl (PV.fieldAddr Try.fa106_3 rfl) ?_
              refine RO.val (Wt.yes rfl rfl rfl rfl) rfl (PV.loadM (l := S.t_Bag.enc a1.Bag (hf [b1_0])) 1 Try.TF40 rfl rfl (cut_Deed_Bag _ _) rfl (by decide)) ?_
              refine RO.eff (Wt.yes rfl rfl rfl rfl) rfl (EV.call (K := _) Try.call73 rfl (SpecK.callV (W_bag_May a1.Bag b1_0 hx21 (fun w hm hΦ => (hR w (hΦ.1.1)).1)))) ?_
              rintro _ _ _ ⟨_, rfl, rfl, rfl⟩
              refine RO.val (Wt.no rfl) rfl (PV.pickT rfl rfl) ?_
              refine RO.val (Wt.no rfl) rfl (PV.move rfl) ?_
              refine RO.skip (Un.mk rfl rfl rfl rfl) rfl ?_
              refine RO.skip (Un.mk rfl rfl rfl rfl) rfl ?_
              refine RO.skip (Un.mk rfl rfl rfl rfl) rfl ?_
              refine RO.val (Wt.no rfl) rfl (PV.pickF rfl rfl) ?_
              refine RO.val (Wt.no rfl) rfl (PV.assign rfl) ?_
              refine RO.nil ?_
              refine CW.ret ?_
              refine QC.blk_r ?_
              refine QC.then_r ?_
              obtain rfl := Option.some.inj h
              exact retP1 (Ψ := Φ) [0] (by decide) rfl (RV.tmp rfl) rfl (fun w hΦ => hΦ.1.1) ⟨(), rfl, rfl, rfl⟩
          · replace hb19 := Bool.eq_false_iff.2 hb19
            replace h := iteF hb19 h
            subst hb19
            refine CW.reg ?_
            refine RO.val (Wt.no rfl) rfl (PV.fieldAddr Try.fa106_2 rfl) ?_
            refine RO.val (Wt.no rfl) rfl (PV.loadM (l := [.string a1.Key]) 1 Try.TF9 rfl rfl (cut_Deed_Key _ _) rfl (by decide)) ?_
            refine RO.val (Wt.no rfl) rfl (PV.lenStr Try.underlying9 rfl) ?_
            refine RO.val (Wt.no rfl) rfl (PV.subW rfl rfl) ?_
            refine RO.eff (Wt.no rfl) rfl (EV.call (K := _) Try.call141 rfl (SpecK.callV (W_ledger_within (w64 ((a1.Key.size : Int) - 1)) 31 hx18))) ?_
            rintro _ _ _ ⟨_, rfl, rfl, rfl⟩
            refine RO.val (Wt.no rfl) rfl (PV.move rfl) ?_
            refine RO.skip (Un.mk rfl rfl rfl rfl) rfl ?_
            refine RO.skip (Un.mk rfl rfl rfl rfl) rfl ?_
            refine RO.skip (Un.mk rfl rfl rfl rfl) rfl ?_
            refine RO.val (Wt.no rfl) rfl (PV.pickF rfl rfl) ?_
            refine RO.val (Wt.no rfl) rfl (PV.move rfl) ?_
            refine RO.skip (Un.mk rfl rfl rfl rfl) rfl ?_
            refine RO.skip (Un.mk rfl rfl rfl rfl) rfl ?_
            refine RO.skip (Un.mk rfl rfl rfl rfl) rfl ?_
            refine RO.val (Wt.no rfl) rfl (PV.pickF rfl rfl) ?_
            refine RO.val (Wt.no rfl) rfl (PV.assign rfl) ?_
            refine RO.nil ?_
            refine CW.ret ?_
            refine QC.blk_r ?_
            refine QC.then_r ?_
            obtain rfl := Option.some.inj h
            exact retP1 (Ψ := Φ) [0] (by decide) rfl (RV.tmp rfl) rfl (fun w hΦ => hΦ.1.1) ⟨(), rfl, rfl, rfl⟩
        · replace h := iteF hb16 h
          refine CW.reg ?_
          refine RO.val (Wt.no rfl) rfl (PV.eql rfl rfl) ?_
          refine RO.val (Wt.no rfl) rfl (PV.assign rfl) ?_
          refine RO.nil ?_
          refine CW.cond rfl (fun hb25 => ?_) (fun hb25 => ?_)
          · replace h := iteT hb25 h
            replace h := bindS h
            obtain ⟨v26, hx27, h⟩ := h
            refine CW.reg ?_
            refine RO.val (Wt.no rfl) rfl (PV.fieldAddr Try.fa106_5 rfl) ?_
            refine RO.val (Wt.no rfl) rfl (PV.loadM (l := [.int .i64 a1.Part]) 1 Try.TF3 rfl rfl (cut_Deed_Part _ _) rfl (by decide)) ?_
            refine RO.eff (Wt.no rfl) rfl (EV.call (K := _) Try.call141 rfl (SpecK.callV (W_ledger_within a1.Part 15 hx27))) ?_
            rintro _ _ _ ⟨_, rfl, rfl, rfl⟩
            refine RO.val (Wt.no rfl) rfl (PV.assign rfl) ?_
            refine RO.nil ?_
            refine CW.ret ?_
            refine QC.blk_r ?_
            refine QC.then_r ?_
            obtain rfl := Option.some.inj h
            exact retP1 (Ψ := Φ) [0] (by decide) rfl (RV.tmp rfl) rfl (fun w hΦ => hΦ.1.1) ⟨(), rfl, rfl, rfl⟩
          · replace h := iteF hb25 h
            refine CW.skip ?_
            refine QC.blk_n ?_
            refine QC.then_n ?_
            refine CW.reg ?_
            refine RO.val (Wt.no rfl) rfl (PV.assign rfl) ?_
            refine RO.nil ?_
            refine CW.ret ?_
            obtain rfl := Option.some.inj h
            exact retP1 (Ψ := Φ) [0] (by decide) rfl (RV.tmp rfl) rfl (fun w hΦ => hΦ.1.1) ⟨(), rfl, rfl, rfl⟩

theorem W_ledger_Ledger_Room {D : Mem} {Φ : World → Prop} (a1 : S.ledger_Ledger) (ga1_0 : Nat) (b1_0 : Hd) {r : Int} (h : S.ledger_Ledger_Room a1 = some r) (hR : ∀ w, MemOk D w → Φ w → (rdS S.t_Deed w a1.l b1_0.sub)) :
    SpecK Try.prog 114 [.pointer (pq ga1_0).a] D [.blk ga1_0 (S.t_ledger_Ledger.enc a1 (hf [b1_0])), rowE S.t_Deed 106 a1.l b1_0] Φ (fun x : Unit => .int .i64 r) (fun x => [.blk ga1_0 (S.t_ledger_Ledger.enc a1 (hf [b1_0])), rowE S.t_Deed 106 a1.l b1_0]) (fun x => []) (fun _ => Φ) := by
  refine enterK Try.func114 rfl Try.ntmps114 rfl ?_
  unfold S.ledger_Ledger_Room at h
  refine CW.reg ?_
  refine RO.val (Wt.no rfl) rfl (PV.assign rfl) ?_
  refine RO.nil ?_
  refine CW.seq ?_
  refine CW.reg ?_
  refine RO.val (Wt.no rfl) rfl (PV.move rfl) ?_
  refine RO.val (Wt.no rfl) rfl ((PV.eqlPtr Try.underlying48 rfl rfl).to rfl) ?_
  refine RO.nil ?_
  refine CW.condF rfl ?_
  refine CW.skip ?_
  refine QC.then_n ?_
  refine CW.regD (pickM [0, 1, 2] _) _ (by kernel_rfl) (St.of (by decide) rfl (fun _ h => h)) ?_
  refine RD.take 0 rfl (by kernel_rfl) (by kernel_rfl) (by kernel_rfl) (Wt.no rfl) rfl (PV.move rfl) ?_
  refine RD.take 1 rfl (by kernel_rfl) (by kernel_rfl) (by kernel_rfl) (Wt.no rfl) rfl (PV.nilCheck rfl) ?_
  refine RD.take 2 rfl (by kernel_rfl) (by kernel_rfl) (by kernel_rfl) (Wt.no rfl) rfl (PV.fieldAddr Try.fa108_2 rfl) ?_
  refine RD.take 3 rfl (by kernel_rfl) (by kernel_rfl) (by kernel_rfl) (Wt.no rfl) rfl (PV.loadM (l := [.int .i64 a1.room_]) 1 Try.TF3 rfl rfl (cut_ledger_Ledger_room_ _ _) rfl (by decide)) ?_
  refine RD.take 4 rfl (by kernel_rfl) (by kernel_rfl) (by kernel_rfl) (Wt.no rfl) rfl (PV.move rfl) ?_
  refine RD.take 5 rfl (by kernel_rfl) (by kernel_rfl) (by kernel_rfl) (Wt.no rfl) rfl (PV.nilCheck rfl) ?_
  refine RD.take 6 rfl (by kernel_rfl) (by kernel_rfl) (by kernel_rfl) (Wt.no rfl) rfl (PV.fieldAddr Try.fa108_0 rfl) ?_
  refine RD.take 7 rfl (by kernel_rfl) (by kernel_rfl) (by kernel_rfl) (Wt.no rfl) rfl (PV.loadM (l := [.slice b1_0.a a1.l.length b1_0.cap]) 1 Try.TF103 rfl rfl (cut_ledger_Ledger_l _ _) rfl (by decide)) ?_
  refine RD.take 8 rfl (by kernel_rfl) (by kernel_rfl) (by kernel_rfl) (Wt.no rfl) rfl (PV.lenS Try.underlying103 rfl) ?_
  refine RD.take 9 rfl (by kernel_rfl) (by kernel_rfl) (by kernel_rfl) (Wt.no rfl) rfl (PV.subW rfl rfl) ?_
  refine RD.take 10 rfl (by kernel_rfl) (by kernel_rfl) (by kernel_rfl) (Wt.no rfl) rfl (PV.assign rfl) ?_
  refine RD.done (by kernel_rfl) ?_
  refine CW.ret ?_
  obtain rfl := Option.some.inj h
  exact retP1 (Ψ := Φ) [0, 1, 2] (by decide) rfl (RV.tmp rfl) rfl (fun w hΦ => hΦ.1) ⟨(), rfl, rfl, rfl⟩

theorem W_ledger_Ledger_Write {D : Mem} {Φ : World → Prop} (a1 : S.ledger_Ledger) (a2 : S.Deed) (ga1_0 : Nat) (b1_0 : Hd) (b2_0 : Hd) (b2_1 : Hd) {r : Int × S.ledger_Ledger} (h : S.ledger_Ledger_Write a1 a2 = some r) (hR : ∀ w, Φ w → (rdS S.t_Deed w a1.l b1_0.sub ∧ slR S.t_Val w a2.Bag.Values b2_0 ∧ slR (tInt .i64) w a2.Ring.Plan.Targets b2_1)) :
    SpecK Try.prog 87 [.pointer (pq ga1_0).a, .agg (S.t_Deed.enc a2 (hf [b2_0, b2_1])).toArray] D [.blk ga1_0 (S.t_ledger_Ledger.enc a1 (hf [b1_0])), rowE S.t_Deed 106 a1.l b1_0] Φ (fun x : Hd => .int .i64 r.1) (fun x => [.blk ga1_0 (S.t_ledger_Ledger.enc r.2 (hf [x])), rowE S.t_Deed 106 r.2.l x]) (fun x => []) (fun x w => Φ w ∧ (rdS S.t_Deed w r.2.l x.sub)) := by
  refine enterK Try.func87 rfl Try.ntmps87 rfl ?_
  unfold S.ledger_Ledger_Write at h
  refine CW.reg ?_
  refine RO.eff (Wt.no rfl) rfl (EV.boxB (B := S.t_Deed.enc a2 (hf [b2_0, b2_1])) rfl rfl) ?_
  rintro _ _ _ ⟨g1, rfl, rfl, rfl⟩
  refine RO.val (Wt.no rfl) rfl (PV.assign rfl) ?_
  refine RO.nil ?_
  refine CW.seq ?_
  refine CW.block ?_
  replace h := bindS h
  obtain ⟨v2, hx3, h⟩ := h
  refine CW.reg ?_
  refine RO.val (Wt.no rfl) rfl (PV.move rfl) ?_
  refine RO.val (Wt.no rfl) rfl ((PV.eqlPtr Try.underlying48 rfl rfl).to rfl) ?_
  refine RO.val (Wt.no rfl) rfl (PV.move rfl) ?_
  refine RO.val (Wt.yes rfl rfl rfl rfl) rfl (PV.loadM (l := S.t_Deed.enc a2 (hf [b2_0, b2_1])) 3 Try.TF106 rfl rfl (cut_self (S.t_Deed.len _ _)) rfl (by decide)) ?_
  refine RO.eff (Wt.yes rfl rfl rfl rfl) rfl (EV.call (K := _) Try.call113 rfl (SpecK.callV (W_ledger_May a2 b2_0 b2_1 hx3 (fun w hΦ => ⟨(hR w (hΦ.1)).2.1, (hR w (hΦ.1)).2.2⟩)))) ?_
  rintro _ _ _ ⟨_, rfl, rfl, rfl⟩
  refine RO.val (Wt.yes rfl rfl rfl rfl) rfl (PV.not rfl) ?_
  refine RO.val (Wt.no rfl) rfl (PV.pickF rfl rfl) ?_
  refine RO.val (Wt.no rfl) rfl (PV.assign rfl) ?_
  refine RO.nil ?_
  refine CW.cond rfl (fun hb4 => ?_) (fun hb4 => ?_)
  · replace h := iteT hb4 h
    refine CW.reg ?_
    refine RO.val (Wt.no rfl) rfl (PV.assign rfl) ?_
    refine RO.nil ?_
    refine CW.ret ?_
    refine QC.blk_r ?_
    refine QC.then_r ?_
    obtain rfl := Option.some.inj h
    exact retP1 (Ψ := fun w => Φ w ∧ (rdS S.t_Deed w a1.l b1_0.sub)) [0, 1, 2] (by decide) rfl (RV.tmp rfl) rfl (fun w hΦ => ⟨hΦ.1, (hR w (hΦ.1)).1⟩) ⟨b1_0, rfl, rfl, rfl⟩
  · replace h := iteF hb4 h
    replace h := bindS h
    obtain ⟨v5, hx6, h⟩ := h
    refine CW.reg ?_
    refine RO.val (Wt.no rfl) rfl (PV.move rfl) ?_
    refine RO.eff (Wt.no rfl) rfl (EV.call (K := _) Try.call114 rfl (SpecK.call [1, 2] (fun x : Unit => [frame D, .blk ga1_0 (S.t_ledger_Ledger.enc a1 (hf [b1_0])), rowE S.t_Deed 106 a1.l b1_0, .blk g1 (S.t_Deed.enc a2 (hf [b2_0, b2_1]))]) (Outs.cons rfl (Outs.cons rfl Outs.nil)) (fun _ => (Outs.cons rfl (Outs.cons rfl Outs.nil))) (W_ledger_Ledger_Room a1 ga1_0 b1_0 hx6 (fun w hm hΦ => (hR w (hΦ.1)).1)))) ?_
    rintro _ _ _ ⟨_, rfl, rfl, rfl⟩
    refine RO.val (Wt.no rfl) rfl (PV.eql rfl rfl) ?_
    refine RO.val (Wt.no rfl) rfl (PV.assign rfl) ?_
    refine RO.nil ?_
    refine CW.cond rfl (fun hb7 => ?_) (fun hb7 => ?_)
    · replace h := iteT hb7 h
      refine CW.reg ?_
      refine RO.val (Wt.no rfl) rfl (PV.assign rfl) ?_
      refine RO.nil ?_
      refine CW.ret ?_
      refine QC.blk_r ?_
      refine QC.then_r ?_
      obtain rfl := Option.some.inj h
      exact retP1 (Ψ := fun w => Φ w ∧ (rdS S.t_Deed w a1.l b1_0.sub)) [0, 1, 2] (by decide) rfl (RV.tmp rfl) rfl (fun w hΦ => ⟨hΦ.1, (hR w (hΦ.1)).1⟩) ⟨b1_0, rfl, rfl, rfl⟩
    · replace h := iteF hb7 h
      refine CW.skip ?_
      refine QC.blk_n ?_
      refine QC.then_n ?_
      replace h := bindS h
      obtain ⟨e13, h, hk12⟩ := h
      refine CW.meet (X := S.ledger_Ledger × (List S.Deed) × Hd) (fun x => [(4, .int .i64 0)]) (fun x => [frame D, .blk ga1_0 (S.t_ledger_Ledger.enc ({ x.1 with l := x.2.1 } : S.ledger_Ledger) (hf [x.2.2])), rowE S.t_Deed 106 x.2.1 x.2.2, .blk g1 (S.t_Deed.enc a2 (hf [b2_0, b2_1]))]) (fun x w => (Φ w ∧ True) ∧ (rdS S.t_Deed w x.2.1 x.2.2.sub)) (fun x => S.ledger_Ledger_Write_j1 x.1 x.2.1 = some r) ?_ ?_
      · skip
        replace h := bindS h
        obtain ⟨v14, hx15, h⟩ := h
        replace h := bindS h
        obtain ⟨v20, hx21, h⟩ := h
        refine CW.regionD (pickM [0, 3] _) _ (by kernel_rfl) (St.of (by decide) rfl (fun _ h => h)) ?_
        refine RD.take 0 rfl (by kernel_rfl) (by kernel_rfl) (by kernel_rfl) (Wt.no rfl) rfl (PV.move rfl) ?_
        refine RD.take 1 rfl (by kernel_rfl) (by kernel_rfl) (by kernel_rfl) (Wt.no rfl) rfl (PV.move rfl) ?_
        refine RD.take 2 rfl (by kernel_rfl) (by kernel_rfl) (by kernel_rfl) (Wt.no rfl) rfl (PV.nilCheck rfl) ?_
        refine RD.take 3 rfl (by kernel_rfl) (by kernel_rfl) (by kernel_rfl) (Wt.no rfl) rfl (PV.fieldAddr Try.fa108_0 rfl) ?_
        refine RD.take 5 rfl (by kernel_rfl) (by kernel_rfl) (by kernel_rfl) (Wt.no rfl) rfl (PV.loadM (l := S.t_Deed.enc a2 (hf [b2_0, b2_1])) 1 Try.TF106 rfl rfl (cut_self (S.t_Deed.len _ _)) rfl (by decide)) ?_
        refine RD.two 4 6 (by kernel_rfl) ?_ ?_
        · skip
          refine Up.val rfl (Wt.no rfl) rfl (PV.loadM (l := [.slice b1_0.a a1.l.length b1_0.cap]) 1 Try.TF103 rfl rfl (cut_ledger_Ledger_l _ _) rfl (by decide)) ?_
          refine RD.one 6 (by kernel_rfl) ?_
          refine Up.eff rfl (Wt.no rfl) rfl (EV.call (K := _) Try.call86 rfl (SpecK.callV (W_ledger_copied a2 b2_0 b2_1 hx15 (fun w hm hΦ => ⟨(hR w (hΦ.1)).2.1, (hR w (hΦ.1)).2.2⟩)))) ?_ ?_
          · rintro _ _ _ ⟨⟨q16, q17⟩, rfl, rfl, rfl⟩; exact St.of' (by decide) (L' := [0, 3]) rfl (fun _ h => h.1)
          rintro _ _ _ ⟨⟨q16, q17⟩, rfl, rfl, rfl⟩
          refine RD.one 7 (by kernel_rfl) ?_
          refine Up.eff rfl (Wt.no rfl) rfl (EV.buildSlice (xs := [.tmp 23]) rfl Try.underlying103 Try.sizeOf106 Try.zeroValue106 rfl rfl rfl rfl) ?_ ?_
          · rintro _ _ _ ⟨g19, rfl, rfl, rfl⟩; exact St.of' (by decide) (L' := [0, 3]) rfl (fun _ h => h.1)
          rintro _ _ _ ⟨g19, rfl, rfl, rfl⟩
          refine RD.one 8 (by kernel_rfl) ?_
          refine Up.eff rfl (Wt.no rfl) rfl (EV.appQ (bytes := 488) (t := S.t_Deed) (l := a1.l) (q := b1_0) (y := v14) (hy := hf [q16, q17]) 2 4 Try.underlying103 Try.inf106 rfl rfl rfl rfl (by decide) rfl rfl rfl rfl hx21 (by decide)) ?_ ?_
          · rintro _ _ _ ⟨a22, c23, rfl, rfl, rfl⟩; exact St.of' (by decide) (L' := [0, 3]) rfl (fun _ h => h.1)
          rintro _ _ _ ⟨a22, c23, rfl, rfl, rfl⟩
          refine RD.take 9 rfl (by kernel_rfl) (by kernel_rfl) (by kernel_rfl) (Wt.no rfl) rfl (PV.nilCheck rfl) ?_
          refine RD.take 10 rfl (by kernel_rfl) (by kernel_rfl) (by kernel_rfl) (Wt.no rfl) rfl (PV.fieldAddr Try.fa108_0 rfl) ?_
          refine RD.one 11 (by kernel_rfl) ?_
          refine Up.eff rfl (Wt.no rfl) rfl (EV.storeB (B := S.t_ledger_Ledger.enc ({ a1 with l := v20 } : S.ledger_Ledger) (hf [(Hd.mk a22 c23 (snocS a1.l.length b1_0.sub (hf [q16, q17])))])) 1 Try.TF103 rfl rfl rfl rfl rfl (by rw [S.t_ledger_Ledger.len]; decide) (wr_ledger_Ledger_l a1 b1_0 (Hd.mk a22 c23 (snocS a1.l.length b1_0.sub (hf [q16, q17]))) v20)) ?_ ?_
          · rintro _ _ _ ⟨rfl, rfl, rfl⟩; exact St.of' (by decide) (L' := [0, 3]) rfl (fun _ h => h.1)
          rintro _ _ _ ⟨rfl, rfl, rfl⟩
          refine RD.done (by kernel_rfl) ?_
          obtain rfl := Option.some.inj h
          refine QC.meetP (({ a1 with l := v20 } : S.ledger_Ledger), v20, (Hd.mk a22 c23 (snocS a1.l.length b1_0.sub (hf [q16, q17])))) hk12 [0, 1, 2, 3] (by decide) (by exact ⟨rfl, trivial⟩) rfl (fun w hΦ => ⟨hΦ.1, (rdS.snocG (hf [q16, q17]) hx21 (hR w (hΦ.1.1)).1 ⟨(hΦ.2.1), (hΦ.2.2)⟩)⟩)
        · skip
          refine Up.eff rfl (Wt.no rfl) rfl (EV.call (K := _) Try.call86 rfl (SpecK.callV (W_ledger_copied a2 b2_0 b2_1 hx15 (fun w hm hΦ => ⟨(hR w (hΦ.1)).2.1, (hR w (hΦ.1)).2.2⟩)))) ?_ ?_
          · rintro _ _ _ ⟨⟨q16, q17⟩, rfl, rfl, rfl⟩; exact St.of' (by decide) (L' := [0, 3]) rfl (fun _ h => h.1)
          rintro _ _ _ ⟨⟨q16, q17⟩, rfl, rfl, rfl⟩
          refine RD.two 4 7 (by kernel_rfl) ?_ ?_
          · skip
            refine Up.val rfl (Wt.no rfl) rfl (PV.loadM (l := [.slice b1_0.a a1.l.length b1_0.cap]) 1 Try.TF103 rfl rfl (cut_ledger_Ledger_l _ _) rfl (by decide)) ?_
            refine RD.one 7 (by kernel_rfl) ?_
            refine Up.eff rfl (Wt.no rfl) rfl (EV.buildSlice (xs := [.tmp 23]) rfl Try.underlying103 Try.sizeOf106 Try.zeroValue106 rfl rfl rfl rfl) ?_ ?_
            · rintro _ _ _ ⟨g19, rfl, rfl, rfl⟩; exact St.of' (by decide) (L' := [0, 3]) rfl (fun _ h => h.1)
            rintro _ _ _ ⟨g19, rfl, rfl, rfl⟩
            refine RD.one 8 (by kernel_rfl) ?_
            refine Up.eff rfl (Wt.no rfl) rfl (EV.appQ (bytes := 488) (t := S.t_Deed) (l := a1.l) (q := b1_0) (y := v14) (hy := hf [q16, q17]) 2 4 Try.underlying103 Try.inf106 rfl rfl rfl rfl (by decide) rfl rfl rfl rfl hx21 (by decide)) ?_ ?_
            · rintro _ _ _ ⟨a22, c23, rfl, rfl, rfl⟩; exact St.of' (by decide) (L' := [0, 3]) rfl (fun _ h => h.1)
            rintro _ _ _ ⟨a22, c23, rfl, rfl, rfl⟩
            refine RD.take 9 rfl (by kernel_rfl) (by kernel_rfl) (by kernel_rfl) (Wt.no rfl) rfl (PV.nilCheck rfl) ?_
            refine RD.take 10 rfl (by kernel_rfl) (by kernel_rfl) (by kernel_rfl) (Wt.no rfl) rfl (PV.fieldAddr Try.fa108_0 rfl) ?_
            refine RD.one 11 (by kernel_rfl) ?_
            refine Up.eff rfl (Wt.no rfl) rfl (EV.storeB (B := S.t_ledger_Ledger.enc ({ a1 with l := v20 } : S.ledger_Ledger) (hf [(Hd.mk a22 c23 (snocS a1.l.length b1_0.sub (hf [q16, q17])))])) 1 Try.TF103 rfl rfl rfl rfl rfl (by rw [S.t_ledger_Ledger.len]; decide) (wr_ledger_Ledger_l a1 b1_0 (Hd.mk a22 c23 (snocS a1.l.length b1_0.sub (hf [q16, q17]))) v20)) ?_ ?_
            · rintro _ _ _ ⟨rfl, rfl, rfl⟩; exact St.of' (by decide) (L' := [0, 3]) rfl (fun _ h => h.1)
            rintro _ _ _ ⟨rfl, rfl, rfl⟩
            refine RD.done (by kernel_rfl) ?_
            obtain rfl := Option.some.inj h
            refine QC.meetP (({ a1 with l := v20 } : S.ledger_Ledger), v20, (Hd.mk a22 c23 (snocS a1.l.length b1_0.sub (hf [q16, q17])))) hk12 [0, 1, 2, 3] (by decide) (by exact ⟨rfl, trivial⟩) rfl (fun w hΦ => ⟨hΦ.1, (rdS.snocG (hf [q16, q17]) hx21 (hR w (hΦ.1.1)).1 ⟨(hΦ.2.1), (hΦ.2.2)⟩)⟩)
          · skip
            refine Up.eff rfl (Wt.no rfl) rfl (EV.buildSlice (xs := [.tmp 23]) rfl Try.underlying103 Try.sizeOf106 Try.zeroValue106 rfl rfl rfl rfl) ?_ ?_
            · rintro _ _ _ ⟨g19, rfl, rfl, rfl⟩; exact St.of' (by decide) (L' := [0, 3]) rfl (fun _ h => h.1)
            rintro _ _ _ ⟨g19, rfl, rfl, rfl⟩
            refine RD.one 4 (by kernel_rfl) ?_
            refine Up.val rfl (Wt.no rfl) rfl (PV.loadM (l := [.slice b1_0.a a1.l.length b1_0.cap]) 1 Try.TF103 rfl rfl (cut_ledger_Ledger_l _ _) rfl (by decide)) ?_
            refine RD.one 8 (by kernel_rfl) ?_
            refine Up.eff rfl (Wt.no rfl) rfl (EV.appQ (bytes := 488) (t := S.t_Deed) (l := a1.l) (q := b1_0) (y := v14) (hy := hf [q16, q17]) 2 4 Try.underlying103 Try.inf106 rfl rfl rfl rfl (by decide) rfl rfl rfl rfl hx21 (by decide)) ?_ ?_
            · rintro _ _ _ ⟨a22, c23, rfl, rfl, rfl⟩; exact St.of' (by decide) (L' := [0, 3]) rfl (fun _ h => h.1)
            rintro _ _ _ ⟨a22, c23, rfl, rfl, rfl⟩
            refine RD.take 9 rfl (by kernel_rfl) (by kernel_rfl) (by kernel_rfl) (Wt.no rfl) rfl (PV.nilCheck rfl) ?_
            refine RD.take 10 rfl (by kernel_rfl) (by kernel_rfl) (by kernel_rfl) (Wt.no rfl) rfl (PV.fieldAddr Try.fa108_0 rfl) ?_
            refine RD.one 11 (by kernel_rfl) ?_
            refine Up.eff rfl (Wt.no rfl) rfl (EV.storeB (B := S.t_ledger_Ledger.enc ({ a1 with l := v20 } : S.ledger_Ledger) (hf [(Hd.mk a22 c23 (snocS a1.l.length b1_0.sub (hf [q16, q17])))])) 1 Try.TF103 rfl rfl rfl rfl rfl (by rw [S.t_ledger_Ledger.len]; decide) (wr_ledger_Ledger_l a1 b1_0 (Hd.mk a22 c23 (snocS a1.l.length b1_0.sub (hf [q16, q17]))) v20)) ?_ ?_
            · rintro _ _ _ ⟨rfl, rfl, rfl⟩; exact St.of' (by decide) (L' := [0, 3]) rfl (fun _ h => h.1)
            rintro _ _ _ ⟨rfl, rfl, rfl⟩
            refine RD.done (by kernel_rfl) ?_
            obtain rfl := Option.some.inj h
            refine QC.meetP (({ a1 with l := v20 } : S.ledger_Ledger), v20, (Hd.mk a22 c23 (snocS a1.l.length b1_0.sub (hf [q16, q17])))) hk12 [0, 1, 2, 3] (by decide) (by exact ⟨rfl, trivial⟩) rfl (fun w hΦ => ⟨hΦ.1, (rdS.snocG (hf [q16, q17]) hx21 (hR w (hΦ.1.1)).1 ⟨(hΦ.2.1), (hΦ.2.2)⟩)⟩)
      · rintro ⟨v9, v10, q11⟩ h
        try dsimp only at h ⊢
        unfold S.ledger_Ledger_Write_j1 at h
        refine CW.reg ?_
        refine RO.val (Wt.no rfl) rfl (PV.assign rfl) ?_
        refine RO.nil ?_
        refine CW.ret ?_
        obtain rfl := Option.some.inj h
        exact retP1 (Ψ := fun w => Φ w ∧ (rdS S.t_Deed w (({ v9 with l := v10 } : S.ledger_Ledger).l) q11.sub)) [0, 1, 2] (by decide) rfl (RV.tmp rfl) rfl (fun w hΦ => ⟨hΦ.1.1, (hΦ.2)⟩) ⟨q11, rfl, rfl, rfl⟩

theorem W_vault_Vault_write {D : Mem} {Φ : World → Prop} (a1 : S.vault_Vault) (a2 : S.Deed) (ga1_0 ga1_1 ga1_2 : Nat) (b1_0 : Hd) (b1_1 : Hd) (b1_2 : (Nat → Hs)) (b2_0 : Hd) (b2_1 : Hd) {r : Int × S.vault_Vault} (h : S.vault_Vault_write a1 a2 = some r) (hR : ∀ w, Φ w → (rdS S.t_Deed w a1.l.l b1_0.sub ∧ slR (tInt .i64) w a1.ring.Plan.Targets b1_1 ∧ mpR S.t_Bag w a1.bags b1_2 ∧ slR S.t_Val w a2.Bag.Values b2_0 ∧ slR (tInt .i64) w a2.Ring.Plan.Targets b2_1)) :
    SpecK Try.prog 54 [.pointer (pq ga1_0).a, .agg (S.t_Deed.enc a2 (hf [b2_0, b2_1])).toArray] D [.blk ga1_0 (S.t_vault_Vault.enc a1 (hf [(pq ga1_1), b1_1, (pq ga1_2)])), .blk ga1_1 (S.t_ledger_Ledger.enc a1.l (hf [b1_0])), rowE S.t_Deed 106 a1.l.l b1_0, mpE Value.string S.t_Bag ga1_2 a1.bags b1_2] Φ (fun x : Hd × Hd × (Nat → Hs) => .int .i64 r.1) (fun x => [.blk ga1_0 (S.t_vault_Vault.enc r.2 (hf [(pq ga1_1), x.2.1, (pq ga1_2)])), .blk ga1_1 (S.t_ledger_Ledger.enc r.2.l (hf [x.1])), rowE S.t_Deed 106 r.2.l.l x.1, mpE Value.string S.t_Bag ga1_2 r.2.bags x.2.2]) (fun x => []) (fun x w => Φ w ∧ (rdS S.t_Deed w r.2.l.l x.1.sub ∧ slR (tInt .i64) w r.2.ring.Plan.Targets x.2.1 ∧ mpR S.t_Bag w r.2.bags x.2.2)) := by
  refine enterK Try.func54 rfl Try.ntmps54 rfl ?_
  unfold S.vault_Vault_write at h
  refine CW.reg ?_
  refine RO.eff (Wt.no rfl) rfl (EV.boxB (B := S.t_Deed.enc a2 (hf [b2_0, b2_1])) rfl rfl) ?_
  rintro _ _ _ ⟨g1, rfl, rfl, rfl⟩
  refine RO.val (Wt.no rfl) rfl (PV.assign rfl) ?_
  refine RO.nil ?_
  refine CW.seq ?_
  refine CW.reg ?_
  refine RO.val (Wt.no rfl) rfl (PV.move rfl) ?_
  refine RO.val (Wt.no rfl) rfl ((PV.eqlPtr Try.underlying46 rfl rfl).to rfl) ?_
  refine RO.nil ?_
  refine CW.condF rfl ?_
  refine CW.skip ?_
  refine QC.then_n ?_
  replace h := bindS h
  obtain ⟨⟨v2, v3⟩, hx4, h⟩ := h
  dsimp only at h
  refine CW.regD (pickM [0, 1, 4, 5] _) _ (by kernel_rfl) (St.of (by decide) rfl (fun _ h => h)) ?_
  refine RD.take 0 rfl (by kernel_rfl) (by kernel_rfl) (by kernel_rfl) (Wt.no rfl) rfl (PV.move rfl) ?_
  refine RD.take 1 rfl (by kernel_rfl) (by kernel_rfl) (by kernel_rfl) (Wt.no rfl) rfl (PV.nilCheck rfl) ?_
  refine RD.take 2 rfl (by kernel_rfl) (by kernel_rfl) (by kernel_rfl) (Wt.no rfl) rfl (PV.fieldAddr Try.fa101_0 rfl) ?_
  refine RD.take 3 rfl (by kernel_rfl) (by kernel_rfl) (by kernel_rfl) (Wt.no rfl) rfl (PV.loadM (l := [.pointer (pq ga1_1).a]) 1 Try.TF48 rfl rfl (cut_vault_Vault_l _ _) rfl (by decide)) ?_
  refine RD.take 4 rfl (by kernel_rfl) (by kernel_rfl) (by kernel_rfl) (Wt.no rfl) rfl (PV.loadM (l := S.t_Deed.enc a2 (hf [b2_0, b2_1])) 3 Try.TF106 rfl rfl (cut_self (S.t_Deed.len _ _)) rfl (by decide)) ?_
  refine RD.one 5 (by kernel_rfl) ?_
  refine Up.eff rfl (Wt.no rfl) rfl (EV.call (K := _) Try.call87 rfl (SpecK.call [2, 3] (fun x : Hd => [frame D, .blk ga1_0 (S.t_vault_Vault.enc a1 (hf [(pq ga1_1), b1_1, (pq ga1_2)])), .blk ga1_1 (S.t_ledger_Ledger.enc v3 (hf [x])), rowE S.t_Deed 106 v3.l x, mpE Value.string S.t_Bag ga1_2 a1.bags b1_2, .blk g1 (S.t_Deed.enc a2 (hf [b2_0, b2_1]))]) (Outs.cons rfl (Outs.cons rfl Outs.nil)) (fun _ => (Outs.cons rfl (Outs.cons rfl Outs.nil))) (W_ledger_Ledger_Write a1.l a2 ga1_1 b1_0 b2_0 b2_1 hx4 (fun w hΦ => ⟨(hR w (hΦ.1)).1, (hR w (hΦ.1)).2.2.2.1, (hR w (hΦ.1)).2.2.2.2⟩)))) ?_ ?_
  · rintro _ _ _ ⟨q5, rfl, rfl, rfl⟩; exact St.of' (by decide) (L' := [0, 1, 4, 5]) rfl (fun _ h => h.1)
  rintro _ _ _ ⟨q5, rfl, rfl, rfl⟩
  refine RD.take 6 rfl (by kernel_rfl) (by kernel_rfl) (by kernel_rfl) (Wt.no rfl) rfl (PV.assign rfl) ?_
  refine RD.done (by kernel_rfl) ?_
  refine CW.seq ?_
  refine CW.reg ?_
  refine RO.val (Wt.no rfl) rfl (PV.move rfl) ?_
  refine RO.val (Wt.no rfl) rfl (PV.eql rfl rfl) ?_
  refine RO.nil ?_
  refine CW.cond rfl (fun hb7 => ?_) (fun hb7 => ?_)
  · replace h := iteT hb7 h
    replace h := bindS h
    obtain ⟨v8, hx9, h⟩ := h
    refine CW.region ?_
    refine RO.val (Wt.no rfl) rfl (PV.move rfl) ?_
    refine RO.val (Wt.no rfl) rfl (PV.loadM (l := S.t_Deed.enc a2 (hf [b2_0, b2_1])) 5 Try.TF106 rfl rfl (cut_self (S.t_Deed.len _ _)) rfl (by decide)) ?_
    refine RO.eff (Wt.no rfl) rfl (EV.call (K := _) Try.call52 rfl (SpecK.call [1, 2, 3, 4] (fun x : Hd × Hd × (Nat → Hs) => [frame D, .blk ga1_0 (S.t_vault_Vault.enc v8 (hf [(pq ga1_1), x.2.1, (pq ga1_2)])), .blk ga1_1 (S.t_ledger_Ledger.enc v8.l (hf [x.1])), rowE S.t_Deed 106 v8.l.l x.1, mpE Value.string S.t_Bag ga1_2 v8.bags x.2.2, .blk g1 (S.t_Deed.enc a2 (hf [b2_0, b2_1]))]) (Outs.cons rfl (Outs.cons rfl (Outs.cons rfl (Outs.cons rfl Outs.nil)))) (fun _ => (Outs.cons rfl (Outs.cons rfl (Outs.cons rfl (Outs.cons rfl Outs.nil))))) (W_vault_Vault_counts ({ a1 with l := v3 } : S.vault_Vault) a2 ga1_0 ga1_1 ga1_2 q5 b1_1 b1_2 b2_0 b2_1 hx9 (fun w hΦ => ⟨(hΦ.2), (hR w (hΦ.1.1)).2.1, (hR w (hΦ.1.1)).2.2.1, (hR w (hΦ.1.1)).2.2.2.1, (hR w (hΦ.1.1)).2.2.2.2⟩)))) ?_
    rintro _ _ _ ⟨⟨q10, q11, q12⟩, rfl, rfl, rfl⟩
    refine RO.nil ?_
    refine QC.then_n ?_
    refine CW.reg ?_
    refine RO.val (Wt.no rfl) rfl (PV.move rfl) ?_
    refine RO.val (Wt.no rfl) rfl (PV.assign rfl) ?_
    refine RO.nil ?_
    refine CW.ret ?_
    obtain rfl := Option.some.inj h
    exact retP1 (Ψ := fun w => Φ w ∧ (rdS S.t_Deed w v8.l.l q10.sub ∧ slR (tInt .i64) w v8.ring.Plan.Targets q11 ∧ mpR S.t_Bag w v8.bags q12)) [0, 1, 2, 3, 4] (by decide) rfl (RV.tmp rfl) rfl (fun w hΦ => ⟨hΦ.1.1.1, (hΦ.2.1), (hΦ.2.2.1), (hΦ.2.2.2)⟩) ⟨(q10, q11, q12), rfl, rfl, rfl⟩
  · replace h := iteF hb7 h
    refine CW.skip ?_
    refine QC.then_n ?_
    refine CW.reg ?_
    refine RO.val (Wt.no rfl) rfl (PV.move rfl) ?_
    refine RO.val (Wt.no rfl) rfl (PV.assign rfl) ?_
    refine RO.nil ?_
    refine CW.ret ?_
    obtain rfl := Option.some.inj h
    exact retP1 (Ψ := fun w => Φ w ∧ (rdS S.t_Deed w ((({ a1 with l := v3 } : S.vault_Vault).l).l) q5.sub ∧ slR (tInt .i64) w (((({ a1 with l := v3 } : S.vault_Vault).ring).Plan).Targets) b1_1 ∧ mpR S.t_Bag w (({ a1 with l := v3 } : S.vault_Vault).bags) b1_2)) [0, 1, 2, 3, 4] (by decide) rfl (RV.tmp rfl) rfl (fun w hΦ => ⟨hΦ.1.1, (hΦ.2), (hR w (hΦ.1.1)).2.1, (hR w (hΦ.1.1)).2.2.1⟩) ⟨(q5, b1_1, b1_2), rfl, rfl, rfl⟩

theorem W_vault_Vault_SetRing {D : Mem} {Φ : World → Prop} (a1 : S.vault_Vault) (a2 : S.Ring) (ga1_0 ga1_1 ga1_2 : Nat) (b1_0 : Hd) (b1_1 : Hd) (b1_2 : (Nat → Hs)) (b2_0 : Hd) {r : Int × S.vault_Vault} (h : S.vault_Vault_SetRing a1 a2 = some r) (hR : ∀ w, Φ w → (rdS S.t_Deed w a1.l.l b1_0.sub ∧ slR (tInt .i64) w a1.ring.Plan.Targets b1_1 ∧ mpR S.t_Bag w a1.bags b1_2 ∧ slR (tInt .i64) w a2.Plan.Targets b2_0)) :
    SpecK Try.prog 16 [.pointer (pq ga1_0).a, .agg (S.t_Ring.enc a2 (hf [b2_0])).toArray] D [.blk ga1_0 (S.t_vault_Vault.enc a1 (hf [(pq ga1_1), b1_1, (pq ga1_2)])), .blk ga1_1 (S.t_ledger_Ledger.enc a1.l (hf [b1_0])), rowE S.t_Deed 106 a1.l.l b1_0, mpE Value.string S.t_Bag ga1_2 a1.bags b1_2] Φ (fun x : Hd × Hd × (Nat → Hs) => .int .i64 r.1) (fun x => [.blk ga1_0 (S.t_vault_Vault.enc r.2 (hf [(pq ga1_1), x.2.1, (pq ga1_2)])), .blk ga1_1 (S.t_ledger_Ledger.enc r.2.l (hf [x.1])), rowE S.t_Deed 106 r.2.l.l x.1, mpE Value.string S.t_Bag ga1_2 r.2.bags x.2.2]) (fun x => []) (fun x w => Φ w ∧ (rdS S.t_Deed w r.2.l.l x.1.sub ∧ slR (tInt .i64) w r.2.ring.Plan.Targets x.2.1 ∧ mpR S.t_Bag w r.2.bags x.2.2)) := by
  refine enterK Try.func16 rfl Try.ntmps16 rfl ?_
  unfold S.vault_Vault_SetRing at h
  refine CW.reg ?_
  refine RO.eff (Wt.no rfl) rfl (EV.boxB (B := S.t_Ring.enc a2 (hf [b2_0])) rfl rfl) ?_
  rintro _ _ _ ⟨g1, rfl, rfl, rfl⟩
  refine RO.val (Wt.no rfl) rfl (PV.assign rfl) ?_
  refine RO.nil ?_
  replace h := bindS h
  obtain ⟨⟨v2, v3⟩, hx4, h⟩ := h
  dsimp only at h
  refine CW.reg ?_
  refine RO.val (Wt.no rfl) rfl (PV.move rfl) ?_
  refine RO.val (Wt.no rfl) rfl (PV.loadM (l := S.t_Ring.enc a2 (hf [b2_0])) 5 Try.TF33 rfl rfl (cut_self (S.t_Ring.len _ _)) rfl (by decide)) ?_
  refine RO.val (Wt.no rfl) rfl (PV.buildS (B := S.t_Deed.enc ({ S.Deed.z with Kind := 2, Ring := a2 } : S.Deed) (hf [Hd.z, b2_0])) (xs := [.const (.int .i64 2), .tmp 6]) [(0, 0, 1), (4, 12, 43)] Try.BT106 rfl rfl rfl (by decide) ⟨rfl, rfl, rfl, rfl, trivial⟩ rfl) ?_
  refine RO.eff (Wt.no rfl) rfl (EV.call (K := _) Try.call54 rfl (SpecK.call [1, 2, 3, 4] (fun x : Hd × Hd × (Nat → Hs) => [frame D, .blk ga1_0 (S.t_vault_Vault.enc v3 (hf [(pq ga1_1), x.2.1, (pq ga1_2)])), .blk ga1_1 (S.t_ledger_Ledger.enc v3.l (hf [x.1])), rowE S.t_Deed 106 v3.l.l x.1, mpE Value.string S.t_Bag ga1_2 v3.bags x.2.2, .blk g1 (S.t_Ring.enc a2 (hf [b2_0]))]) (Outs.cons rfl (Outs.cons rfl (Outs.cons rfl (Outs.cons rfl Outs.nil)))) (fun _ => (Outs.cons rfl (Outs.cons rfl (Outs.cons rfl (Outs.cons rfl Outs.nil))))) (W_vault_Vault_write a1 ({ S.Deed.z with Kind := 2, Ring := a2 } : S.Deed) ga1_0 ga1_1 ga1_2 b1_0 b1_1 b1_2 Hd.z b2_0 hx4 (fun w hΦ => ⟨(hR w (hΦ.1)).1, (hR w (hΦ.1)).2.1, (hR w (hΦ.1)).2.2.1, (slR.nil _ _), (hR w (hΦ.1)).2.2.2⟩)))) ?_
  rintro _ _ _ ⟨⟨q5, q6, q7⟩, rfl, rfl, rfl⟩
  refine RO.val (Wt.no rfl) rfl (PV.assign rfl) ?_
  refine RO.nil ?_
  refine CW.ret ?_
  obtain rfl := Option.some.inj h
  exact retP1 (Ψ := fun w => Φ w ∧ (rdS S.t_Deed w v3.l.l q5.sub ∧ slR (tInt .i64) w v3.ring.Plan.Targets q6 ∧ mpR S.t_Bag w v3.bags q7)) [0, 1, 2, 3, 4] (by decide) rfl (RV.tmp rfl) rfl (fun w hΦ => ⟨hΦ.1.1, (hΦ.2.1), (hΦ.2.2.1), (hΦ.2.2.2)⟩) ⟨(q5, q6, q7), rfl, rfl, rfl⟩

theorem W_ref7_MayVector {D : Mem} {Φ : World → Prop} (a1 : Vector Int 8) {r : Bool} (h : S.ref7_MayVector a1 = some r) :
    SpecK Try.prog 47 [.agg (S.t_A8_int.enc a1 (hf [])).toArray] D [] Φ (fun x : Unit => .bool r) (fun x => []) (fun x => []) (fun _ => Φ) := by
  refine enterK Try.func47 rfl Try.ntmps47 rfl ?_
  unfold S.ref7_MayVector at h
  refine CW.reg ?_
  refine RO.eff (Wt.no rfl) rfl (EV.boxB (B := S.t_A8_int.enc a1 (hf [])) rfl rfl) ?_
  rintro _ _ _ ⟨g1, rfl, rfl, rfl⟩
  refine RO.val (Wt.no rfl) rfl (PV.assign rfl) ?_
  refine RO.nil ?_
  replace h := andThen_some h
  obtain ⟨e4, h, hk3⟩ := h
  refine CW.meet (X := Unit) (fun x => [(2, .bool false)]) (fun x => [frame D, .blk g1 (S.t_A8_int.enc a1 (hf []))]) (fun x w => (Φ w ∧ True)) (fun x => S.ref7_MayVector_j2 = some r) ?_ ?_
  · skip
    refine CW.reg ?_
    refine RO.val (Wt.no rfl) rfl (PV.loadM (l := S.t_A8_int.enc a1 (hf [])) 1 Try.TF37 rfl rfl (cut_self (S.t_A8_int.len _ _)) rfl (by decide)) ?_
    refine RO.val (Wt.no rfl) rfl (PV.move rfl) ?_
    refine RO.nil ?_
    refine CW.block ?_
    refine CW.loopE (X := Nat × Int) (fun x => [(2, .bool false), (5, .agg (S.t_A8_int.enc a1 (hf [])).toArray), (6, .int .i64 x.2)]) (fun x => [frame D, .blk g1 (S.t_A8_int.enc a1 (hf []))]) (fun x w => (Φ w ∧ True)) (fun x => loopN (S.ref7_MayVector_l3 a1) x.1 x.2 = some e4) (fun x => x.1) (FUEL, 0) h (by exact ⟨rfl, rfl, rfl, trivial⟩) rfl (fun w hΦ => hΦ) ?_
    rintro ⟨n12', v9⟩ hI10
    try dsimp only at hI10 ⊢
    obtain ⟨n12, y11, rfl, h, hk13⟩ := loopN_some hI10
    unfold S.ref7_MayVector_l3 at h
    try dsimp only at h
    refine CW.reg ?_
    refine RO.val (Wt.no rfl) rfl (PV.lss rfl rfl) ?_
    refine RO.nil ?_
    refine CW.seq ?_
    refine CW.cond rfl (fun hb14 => ?_) (fun hb14 => ?_)
    · replace h := iteT hb14 h
      refine CW.skip ?_
      refine QC.then_n ?_
      refine CW.seq ?_
      refine CW.block ?_
      replace h := bindS h
      obtain ⟨v15, hx16, h⟩ := h
      obtain ⟨hn17, hn18, he19⟩ := aget_some hx16
      refine CW.reg ?_
      refine RO.val (Wt.no rfl) rfl (PV.index (l := [.int .i64 v15]) Try.underlying37 Try.TF3 rfl rfl hn18 (by omega) (by rw [idx_A8_int _ _ _ hn17, he19]) rfl (by decide)) ?_
      refine RO.val (Wt.no rfl) rfl (PV.assign rfl) ?_
      refine RO.nil ?_
      by_cases hb20 : (decide (v15 < 0)) = true
      · replace h := iteT hb20 h
        refine CW.reg ?_
        refine RO.val (Wt.no rfl) rfl (PV.move rfl) ?_
        refine RO.val (Wt.no rfl) rfl (PV.lss rfl rfl) ?_
        refine RO.val (Wt.no rfl) rfl ((PV.move rfl).to (congrArg Value.bool hb20)) ?_
        refine RO.skip (Un.mk rfl rfl rfl rfl) rfl ?_
        refine RO.skip (Un.mk rfl rfl rfl rfl) rfl ?_
        refine RO.val (Wt.no rfl) rfl (PV.pickT rfl rfl) ?_
        refine RO.nil ?_
        refine CW.condT rfl ?_
        refine CW.reg ?_
        refine RO.val (Wt.no rfl) rfl (PV.assign rfl) ?_
        refine RO.nil ?_
        refine CW.ret ?_
        refine QC.blk_r ?_
        refine QC.then_r ?_
        refine QC.then_r ?_
        refine QC.blk_r ?_
        refine QC.then_r ?_
        obtain rfl := Option.some.inj h
        obtain rfl := nextL_inr hk13
        obtain rfl := afterS_inr hk3
        exact retP1 (Ψ := Φ) [0] (by decide) rfl (RV.tmp rfl) rfl (fun w hΦ => hΦ.1) ⟨(), rfl, rfl, rfl⟩
      · replace hb20 := Bool.eq_false_iff.2 hb20
        replace h := iteF hb20 h
        refine CW.reg ?_
        refine RO.val (Wt.no rfl) rfl (PV.move rfl) ?_
        refine RO.val (Wt.no rfl) rfl (PV.lss rfl rfl) ?_
        refine RO.val (Wt.no rfl) rfl ((PV.move rfl).to (congrArg Value.bool hb20)) ?_
        refine RO.val (Wt.yes rfl rfl rfl rfl) rfl (PV.move rfl) ?_
        refine RO.val (Wt.yes rfl rfl rfl rfl) rfl (PV.gtr rfl rfl) ?_
        refine RO.val (Wt.no rfl) rfl (PV.pickF rfl rfl) ?_
        refine RO.nil ?_
        refine CW.cond rfl (fun hb21 => ?_) (fun hb21 => ?_)
        · replace h := iteT hb21 h
          refine CW.reg ?_
          refine RO.val (Wt.no rfl) rfl (PV.assign rfl) ?_
          refine RO.nil ?_
          refine CW.ret ?_
          refine QC.blk_r ?_
          refine QC.then_r ?_
          refine QC.then_r ?_
          refine QC.blk_r ?_
          refine QC.then_r ?_
          obtain rfl := Option.some.inj h
          obtain rfl := nextL_inr hk13
          obtain rfl := afterS_inr hk3
          exact retP1 (Ψ := Φ) [0] (by decide) rfl (RV.tmp rfl) rfl (fun w hΦ => hΦ.1) ⟨(), rfl, rfl, rfl⟩
        · replace h := iteF hb21 h
          refine CW.skip ?_
          refine QC.blk_n ?_
          refine QC.then_n ?_
          refine CW.region ?_
          refine RO.val (Wt.no rfl) rfl (PV.addW rfl rfl) ?_
          refine RO.val (Wt.no rfl) rfl (PV.move rfl) ?_
          refine RO.nil ?_
          obtain rfl := Option.some.inj h
          refine QC.roundP (n12, (w64 (v9 + 1))) (nextL_inl hk13) (by exact Nat.lt_succ_self _) [0, 1] (by decide) (by exact ⟨rfl, rfl, rfl, trivial⟩) rfl (fun w hΦ => hΦ)
    · replace h := iteF hb14 h
      refine CW.exit ?_
      refine QC.then_x ?_
      refine QC.then_x ?_
      refine QC.blk_x ?_
      obtain rfl := Option.some.inj h
      obtain rfl := nextL_inr hk13
      refine QC.meetP () (afterS_inl hk3) [0, 1] (by decide) (by exact ⟨rfl, trivial⟩) rfl (fun w hΦ => hΦ)
  · rintro ⟨⟩ h
    try dsimp only at h ⊢
    unfold S.ref7_MayVector_j2 at h
    refine CW.reg ?_
    refine RO.val (Wt.no rfl) rfl (PV.assign rfl) ?_
    refine RO.nil ?_
    refine CW.ret ?_
    obtain rfl := Option.some.inj h
    exact retP1 (Ψ := Φ) [0] (by decide) rfl (RV.tmp rfl) rfl (fun w hΦ => hΦ.1) ⟨(), rfl, rfl, rfl⟩

theorem W_ref7_Has {D : Mem} {Φ : World → Prop} (a1 : Vector Int 8) (a2 : S.Dot) {r : Bool} (h : S.ref7_Has a1 a2 = some r) :
    SpecK Try.prog 48 [.agg (S.t_A8_int.enc a1 (hf [])).toArray, .agg (S.t_Dot.enc a2 (hf [])).toArray] D [] Φ (fun x : Unit => .bool r) (fun x => []) (fun x => []) (fun _ => Φ) := by
  refine enterK Try.func48 rfl Try.ntmps48 rfl ?_
  unfold S.ref7_Has at h
  refine CW.reg ?_
  refine RO.eff (Wt.no rfl) rfl (EV.boxB (B := S.t_A8_int.enc a1 (hf [])) rfl rfl) ?_
  rintro _ _ _ ⟨g1, rfl, rfl, rfl⟩
  refine RO.eff (Wt.no rfl) rfl (EV.boxB (B := S.t_Dot.enc a2 (hf [])) rfl rfl) ?_
  rintro _ _ _ ⟨g2, rfl, rfl, rfl⟩
  refine RO.val (Wt.no rfl) rfl (PV.assign rfl) ?_
  refine RO.nil ?_
  replace h := bindS h
  obtain ⟨v3, hx4, h⟩ := h
  by_cases hb5 : v3 = true
  · replace h := iteT hb5 h
    subst hb5
    by_cases hb6 : (decide (1 ≤ a2.N)) = true
    · replace h := iteT hb6 h
      replace h := bindS h
      obtain ⟨v7, hx8, h⟩ := h
      obtain ⟨hn9, hn10, he11⟩ := aget_some hx8
      refine CW.regD (pickM [0, 1, 2] _) _ (by kernel_rfl) (St.of (by decide) rfl (fun _ h => h)) ?_
      refine RD.take 0 rfl (by kernel_rfl) (by kernel_rfl) (by kernel_rfl) (Wt.no rfl) rfl (PV.fieldAddr Try.fa45_0 rfl) ?_
      refine RD.take 1 rfl (by kernel_rfl) (by kernel_rfl) (by kernel_rfl) (Wt.no rfl) rfl (PV.loadM (l := [.int .i64 a2.Node]) 2 Try.TF3 rfl rfl (cut_Dot_Node _ _) rfl (by decide)) ?_
      refine RD.one 2 (by kernel_rfl) ?_
      refine Up.eff rfl (Wt.no rfl) rfl (EV.call (K := _) Try.call42 rfl (SpecK.callV (W_ref1_Node a2.Node hx4))) ?_ ?_
      · rintro _ _ _ ⟨_, rfl, rfl, rfl⟩; exact St.of' (by decide) (L' := [0, 1, 2]) rfl (fun _ h => h)
      rintro _ _ _ ⟨_, rfl, rfl, rfl⟩
      refine RD.take 3 rfl (by kernel_rfl) (by kernel_rfl) (by kernel_rfl) (Wt.no rfl) rfl (PV.move rfl) ?_
      refine RD.take 4 rfl (by kernel_rfl) (by kernel_rfl) (by kernel_rfl) (Wt.yes rfl rfl rfl rfl) rfl (PV.fieldAddr Try.fa45_1 rfl) ?_
      refine RD.take 5 rfl (by kernel_rfl) (by kernel_rfl) (by kernel_rfl) (Wt.yes rfl rfl rfl rfl) rfl (PV.loadM (l := [.int .i64 a2.N]) 2 Try.TF3 rfl rfl (cut_Dot_N _ _) rfl (by decide)) ?_
      refine RD.take 6 rfl (by kernel_rfl) (by kernel_rfl) (by kernel_rfl) (Wt.yes rfl rfl rfl rfl) rfl (PV.geq rfl rfl) ?_
      refine RD.take 7 rfl (by kernel_rfl) (by kernel_rfl) (by kernel_rfl) (Wt.no rfl) rfl (PV.pickT rfl rfl) ?_
      refine RD.take 8 rfl (by kernel_rfl) (by kernel_rfl) (by kernel_rfl) (Wt.no rfl) rfl ((PV.move rfl).to (congrArg Value.bool hb6)) ?_
      refine RD.take 9 rfl (by kernel_rfl) (by kernel_rfl) (by kernel_rfl) (Wt.yes rfl rfl rfl rfl) rfl (PV.fieldAddr Try.fa45_1 rfl) ?_
      refine RD.take 10 rfl (by kernel_rfl) (by kernel_rfl) (by kernel_rfl) (Wt.yes rfl rfl rfl rfl) rfl (PV.loadM (l := [.int .i64 a2.N]) 2 Try.TF3 rfl rfl (cut_Dot_N _ _) rfl (by decide)) ?_
      refine RD.take 11 rfl (by kernel_rfl) (by kernel_rfl) (by kernel_rfl) (Wt.yes rfl rfl rfl rfl) rfl (PV.fieldAddr Try.fa45_0 rfl) ?_
      refine RD.take 12 rfl (by kernel_rfl) (by kernel_rfl) (by kernel_rfl) (Wt.yes rfl rfl rfl rfl) rfl (PV.loadM (l := [.int .i64 a2.Node]) 2 Try.TF3 rfl rfl (cut_Dot_Node _ _) rfl (by decide)) ?_
      refine RD.take 13 rfl (by kernel_rfl) (by kernel_rfl) (by kernel_rfl) (Wt.yes rfl rfl rfl rfl) rfl (PV.idxA Try.underlying37 Try.sizeOf3 rfl rfl hn10 (by omega)) ?_
      refine RD.take 14 rfl (by kernel_rfl) (by kernel_rfl) (by kernel_rfl) (Wt.yes rfl rfl rfl rfl) rfl (PV.loadM (l := [.int .i64 v7]) 1 Try.TF3 rfl rfl (by rw [cut_A8_int_i _ _ _ hn9, he11]) rfl (by decide)) ?_
      refine RD.take 15 rfl (by kernel_rfl) (by kernel_rfl) (by kernel_rfl) (Wt.yes rfl rfl rfl rfl) rfl (PV.leq rfl rfl) ?_
      refine RD.take 16 rfl (by kernel_rfl) (by kernel_rfl) (by kernel_rfl) (Wt.no rfl) rfl (PV.pickT rfl rfl) ?_
      refine RD.take 17 rfl (by kernel_rfl) (by kernel_rfl) (by kernel_rfl) (Wt.no rfl) rfl (PV.assign rfl) ?_
      refine RD.done (by kernel_rfl) ?_
      refine CW.ret ?_
      obtain rfl := Option.some.inj h
      exact retP1 (Ψ := Φ) [0] (by decide) rfl (RV.tmp rfl) rfl (fun w hΦ => hΦ.1) ⟨(), rfl, rfl, rfl⟩
    · replace hb6 := Bool.eq_false_iff.2 hb6
      replace h := iteF hb6 h
      refine CW.regD (pickM [0, 1, 2] _) _ (by kernel_rfl) (St.of (by decide) rfl (fun _ h => h)) ?_
      refine RD.take 0 rfl (by kernel_rfl) (by kernel_rfl) (by kernel_rfl) (Wt.no rfl) rfl (PV.fieldAddr Try.fa45_0 rfl) ?_
      refine RD.take 1 rfl (by kernel_rfl) (by kernel_rfl) (by kernel_rfl) (Wt.no rfl) rfl (PV.loadM (l := [.int .i64 a2.Node]) 2 Try.TF3 rfl rfl (cut_Dot_Node _ _) rfl (by decide)) ?_
      refine RD.one 2 (by kernel_rfl) ?_
      refine Up.eff rfl (Wt.no rfl) rfl (EV.call (K := _) Try.call42 rfl (SpecK.callV (W_ref1_Node a2.Node hx4))) ?_ ?_
      · rintro _ _ _ ⟨_, rfl, rfl, rfl⟩; exact St.of' (by decide) (L' := [0, 1, 2]) rfl (fun _ h => h)
      rintro _ _ _ ⟨_, rfl, rfl, rfl⟩
      refine RD.take 3 rfl (by kernel_rfl) (by kernel_rfl) (by kernel_rfl) (Wt.no rfl) rfl (PV.move rfl) ?_
      refine RD.take 4 rfl (by kernel_rfl) (by kernel_rfl) (by kernel_rfl) (Wt.yes rfl rfl rfl rfl) rfl (PV.fieldAddr Try.fa45_1 rfl) ?_
      refine RD.take 5 rfl (by kernel_rfl) (by kernel_rfl) (by kernel_rfl) (Wt.yes rfl rfl rfl rfl) rfl (PV.loadM (l := [.int .i64 a2.N]) 2 Try.TF3 rfl rfl (cut_Dot_N _ _) rfl (by decide)) ?_
      refine RD.take 6 rfl (by kernel_rfl) (by kernel_rfl) (by kernel_rfl) (Wt.yes rfl rfl rfl rfl) rfl (PV.geq rfl rfl) ?_
      refine RD.take 7 rfl (by kernel_rfl) (by kernel_rfl) (by kernel_rfl) (Wt.no rfl) rfl (PV.pickT rfl rfl) ?_
      refine RD.take 8 rfl (by kernel_rfl) (by kernel_rfl) (by kernel_rfl) (Wt.no rfl) rfl ((PV.move rfl).to (congrArg Value.bool hb6)) ?_
      refine RD.takeNo 9 rfl (by kernel_rfl) (by kernel_rfl) (by kernel_rfl) (Un.mk rfl rfl rfl rfl) rfl ?_
      refine RD.takeNo 10 rfl (by kernel_rfl) (by kernel_rfl) (by kernel_rfl) (Un.mk rfl rfl rfl rfl) rfl ?_
      refine RD.takeNo 11 rfl (by kernel_rfl) (by kernel_rfl) (by kernel_rfl) (Un.mk rfl rfl rfl rfl) rfl ?_
      refine RD.takeNo 12 rfl (by kernel_rfl) (by kernel_rfl) (by kernel_rfl) (Un.mk rfl rfl rfl rfl) rfl ?_
      refine RD.takeNo 13 rfl (by kernel_rfl) (by kernel_rfl) (by kernel_rfl) (Un.mk rfl rfl rfl rfl) rfl ?_
      refine RD.takeNo 14 rfl (by kernel_rfl) (by kernel_rfl) (by kernel_rfl) (Un.mk rfl rfl rfl rfl) rfl ?_
      refine RD.takeNo 15 rfl (by kernel_rfl) (by kernel_rfl) (by kernel_rfl) (Un.mk rfl rfl rfl rfl) rfl ?_
      refine RD.take 16 rfl (by kernel_rfl) (by kernel_rfl) (by kernel_rfl) (Wt.no rfl) rfl (PV.pickF rfl rfl) ?_
      refine RD.take 17 rfl (by kernel_rfl) (by kernel_rfl) (by kernel_rfl) (Wt.no rfl) rfl (PV.assign rfl) ?_
      refine RD.done (by kernel_rfl) ?_
      refine CW.ret ?_
      obtain rfl := Option.some.inj h
      exact retP1 (Ψ := Φ) [0] (by decide) rfl (RV.tmp rfl) rfl (fun w hΦ => hΦ.1) ⟨(), rfl, rfl, rfl⟩
  · replace hb5 := Bool.eq_false_iff.2 hb5
    replace h := iteF hb5 h
    subst hb5
    refine CW.regD (pickM [0, 1, 2] _) _ (by kernel_rfl) (St.of (by decide) rfl (fun _ h => h)) ?_
    refine RD.take 0 rfl (by kernel_rfl) (by kernel_rfl) (by kernel_rfl) (Wt.no rfl) rfl (PV.fieldAddr Try.fa45_0 rfl) ?_
    refine RD.take 1 rfl (by kernel_rfl) (by kernel_rfl) (by kernel_rfl) (Wt.no rfl) rfl (PV.loadM (l := [.int .i64 a2.Node]) 2 Try.TF3 rfl rfl (cut_Dot_Node _ _) rfl (by decide)) ?_
    refine RD.one 2 (by kernel_rfl) ?_
    refine Up.eff rfl (Wt.no rfl) rfl (EV.call (K := _) Try.call42 rfl (SpecK.callV (W_ref1_Node a2.Node hx4))) ?_ ?_
    · rintro _ _ _ ⟨_, rfl, rfl, rfl⟩; exact St.of' (by decide) (L' := [0, 1, 2]) rfl (fun _ h => h)
    rintro _ _ _ ⟨_, rfl, rfl, rfl⟩
    refine RD.take 3 rfl (by kernel_rfl) (by kernel_rfl) (by kernel_rfl) (Wt.no rfl) rfl (PV.move rfl) ?_
    refine RD.takeNo 4 rfl (by kernel_rfl) (by kernel_rfl) (by kernel_rfl) (Un.mk rfl rfl rfl rfl) rfl ?_
    refine RD.takeNo 5 rfl (by kernel_rfl) (by kernel_rfl) (by kernel_rfl) (Un.mk rfl rfl rfl rfl) rfl ?_
    refine RD.takeNo 6 rfl (by kernel_rfl) (by kernel_rfl) (by kernel_rfl) (Un.mk rfl rfl rfl rfl) rfl ?_
    refine RD.take 7 rfl (by kernel_rfl) (by kernel_rfl) (by kernel_rfl) (Wt.no rfl) rfl (PV.pickF rfl rfl) ?_
    refine RD.take 8 rfl (by kernel_rfl) (by kernel_rfl) (by kernel_rfl) (Wt.no rfl) rfl (PV.move rfl) ?_
    refine RD.takeNo 9 rfl (by kernel_rfl) (by kernel_rfl) (by kernel_rfl) (Un.mk rfl rfl rfl rfl) rfl ?_
    refine RD.takeNo 10 rfl (by kernel_rfl) (by kernel_rfl) (by kernel_rfl) (Un.mk rfl rfl rfl rfl) rfl ?_
    refine RD.takeNo 11 rfl (by kernel_rfl) (by kernel_rfl) (by kernel_rfl) (Un.mk rfl rfl rfl rfl) rfl ?_
    refine RD.takeNo 12 rfl (by kernel_rfl) (by kernel_rfl) (by kernel_rfl) (Un.mk rfl rfl rfl rfl) rfl ?_
    refine RD.takeNo 13 rfl (by kernel_rfl) (by kernel_rfl) (by kernel_rfl) (Un.mk rfl rfl rfl rfl) rfl ?_
    refine RD.takeNo 14 rfl (by kernel_rfl) (by kernel_rfl) (by kernel_rfl) (Un.mk rfl rfl rfl rfl) rfl ?_
    refine RD.takeNo 15 rfl (by kernel_rfl) (by kernel_rfl) (by kernel_rfl) (Un.mk rfl rfl rfl rfl) rfl ?_
    refine RD.take 16 rfl (by kernel_rfl) (by kernel_rfl) (by kernel_rfl) (Wt.no rfl) rfl (PV.pickF rfl rfl) ?_
    refine RD.take 17 rfl (by kernel_rfl) (by kernel_rfl) (by kernel_rfl) (Wt.no rfl) rfl (PV.assign rfl) ?_
    refine RD.done (by kernel_rfl) ?_
    refine CW.ret ?_
    obtain rfl := Option.some.inj h
    exact retP1 (Ψ := Φ) [0] (by decide) rfl (RV.tmp rfl) rfl (fun w hΦ => hΦ.1) ⟨(), rfl, rfl, rfl⟩

theorem W_ref7_cmp {D : Mem} {Φ : World → Prop} (a1 : Int) (a2 : Int) {r : Int} (h : S.ref7_cmp a1 a2 = some r) :
    SpecK Try.prog 101 [.int .i64 a1, .int .i64 a2] D [] Φ (fun x : Unit => .int .i64 r) (fun x => []) (fun x => []) (fun _ => Φ) := by
  refine enterK Try.func101 rfl Try.ntmps101 rfl ?_
  unfold S.ref7_cmp at h
  refine CW.reg ?_
  refine RO.val (Wt.no rfl) rfl (PV.assign rfl) ?_
  refine RO.nil ?_
  refine CW.seq ?_
  refine CW.block ?_
  refine CW.reg ?_
  refine RO.val (Wt.no rfl) rfl (PV.move rfl) ?_
  refine RO.val (Wt.no rfl) rfl (PV.move rfl) ?_
  refine RO.val (Wt.no rfl) rfl (PV.lss rfl rfl) ?_
  refine RO.val (Wt.no rfl) rfl (PV.assign rfl) ?_
  refine RO.nil ?_
  refine CW.cond rfl (fun hb1 => ?_) (fun hb1 => ?_)
  · replace h := iteT hb1 h
    refine CW.reg ?_
    refine RO.val (Wt.no rfl) rfl (PV.assign rfl) ?_
    refine RO.nil ?_
    refine CW.ret ?_
    refine QC.blk_r ?_
    refine QC.then_r ?_
    obtain rfl := Option.some.inj h
    exact retP1 (Ψ := Φ) [0] (by decide) rfl (RV.tmp rfl) rfl (fun w hΦ => hΦ.1) ⟨(), rfl, rfl, rfl⟩
  · replace h := iteF hb1 h
    refine CW.reg ?_
    refine RO.val (Wt.no rfl) rfl (PV.move rfl) ?_
    refine RO.val (Wt.no rfl) rfl (PV.move rfl) ?_
    refine RO.val (Wt.no rfl) rfl (PV.gtr rfl rfl) ?_
    refine RO.val (Wt.no rfl) rfl (PV.assign rfl) ?_
    refine RO.nil ?_
    refine CW.cond rfl (fun hb2 => ?_) (fun hb2 => ?_)
    · replace h := iteT hb2 h
      refine CW.reg ?_
      refine RO.val (Wt.no rfl) rfl (PV.assign rfl) ?_
      refine RO.nil ?_
      refine CW.ret ?_
      refine QC.blk_r ?_
      refine QC.then_r ?_
      obtain rfl := Option.some.inj h
      exact retP1 (Ψ := Φ) [0] (by decide) rfl (RV.tmp rfl) rfl (fun w hΦ => hΦ.1) ⟨(), rfl, rfl, rfl⟩
    · replace h := iteF hb2 h
      refine CW.skip ?_
      refine QC.blk_n ?_
      refine QC.then_n ?_
      refine CW.reg ?_
      refine RO.val (Wt.no rfl) rfl (PV.assign rfl) ?_
      refine RO.nil ?_
      refine CW.ret ?_
      obtain rfl := Option.some.inj h
      exact retP1 (Ψ := Φ) [0] (by decide) rfl (RV.tmp rfl) rfl (fun w hΦ => hΦ.1) ⟨(), rfl, rfl, rfl⟩

theorem W_ref7_CompareDot {D : Mem} {Φ : World → Prop} (a1 : S.Dot) (a2 : S.Dot) {r : Int} (h : S.ref7_CompareDot a1 a2 = some r) :
    SpecK Try.prog 69 [.agg (S.t_Dot.enc a1 (hf [])).toArray, .agg (S.t_Dot.enc a2 (hf [])).toArray] D [] Φ (fun x : Unit => .int .i64 r) (fun x => []) (fun x => []) (fun _ => Φ) := by
  refine enterK Try.func69 rfl Try.ntmps69 rfl ?_
  unfold S.ref7_CompareDot at h
  refine CW.reg ?_
  refine RO.eff (Wt.no rfl) rfl (EV.boxB (B := S.t_Dot.enc a1 (hf [])) rfl rfl) ?_
  rintro _ _ _ ⟨g1, rfl, rfl, rfl⟩
  refine RO.eff (Wt.no rfl) rfl (EV.boxB (B := S.t_Dot.enc a2 (hf [])) rfl rfl) ?_
  rintro _ _ _ ⟨g2, rfl, rfl, rfl⟩
  refine RO.val (Wt.no rfl) rfl (PV.assign rfl) ?_
  refine RO.nil ?_
  refine CW.seq ?_
  refine CW.reg ?_
  refine RO.val (Wt.no rfl) rfl (PV.fieldAddr Try.fa45_0 rfl) ?_
  refine RO.val (Wt.no rfl) rfl (PV.loadM (l := [.int .i64 a1.Node]) 1 Try.TF3 rfl rfl (cut_Dot_Node _ _) rfl (by decide)) ?_
  refine RO.val (Wt.no rfl) rfl (PV.fieldAddr Try.fa45_0 rfl) ?_
  refine RO.val (Wt.no rfl) rfl (PV.loadM (l := [.int .i64 a2.Node]) 2 Try.TF3 rfl rfl (cut_Dot_Node _ _) rfl (by decide)) ?_
  refine RO.val (Wt.no rfl) rfl (PV.neq rfl rfl) ?_
  refine RO.nil ?_
  refine CW.cond rfl (fun hb3 => ?_) (fun hb3 => ?_)
  · replace h := iteT hb3 h
    replace h := bindS h
    obtain ⟨v4, hx5, h⟩ := h
    refine CW.reg ?_
    refine RO.val (Wt.no rfl) rfl (PV.fieldAddr Try.fa45_0 rfl) ?_
    refine RO.val (Wt.no rfl) rfl (PV.loadM (l := [.int .i64 a1.Node]) 1 Try.TF3 rfl rfl (cut_Dot_Node _ _) rfl (by decide)) ?_
    refine RO.val (Wt.no rfl) rfl (PV.fieldAddr Try.fa45_0 rfl) ?_
    refine RO.val (Wt.no rfl) rfl (PV.loadM (l := [.int .i64 a2.Node]) 2 Try.TF3 rfl rfl (cut_Dot_Node _ _) rfl (by decide)) ?_
    refine RO.eff (Wt.no rfl) rfl (EV.call (K := _) Try.call101 rfl (SpecK.callV (W_ref7_cmp a1.Node a2.Node hx5))) ?_
    rintro _ _ _ ⟨_, rfl, rfl, rfl⟩
    refine RO.val (Wt.no rfl) rfl (PV.assign rfl) ?_
    refine RO.nil ?_
    refine CW.ret ?_
    refine QC.then_r ?_
    obtain rfl := Option.some.inj h
    exact retP1 (Ψ := Φ) [0] (by decide) rfl (RV.tmp rfl) rfl (fun w hΦ => hΦ.1) ⟨(), rfl, rfl, rfl⟩
  · replace h := iteF hb3 h
    refine CW.skip ?_
    refine QC.then_n ?_
    replace h := bindS h
    obtain ⟨v6, hx7, h⟩ := h
    refine CW.reg ?_
    refine RO.val (Wt.no rfl) rfl (PV.fieldAddr Try.fa45_1 rfl) ?_
    refine RO.val (Wt.no rfl) rfl (PV.loadM (l := [.int .i64 a1.N]) 1 Try.TF3 rfl rfl (cut_Dot_N _ _) rfl (by decide)) ?_
    refine RO.val (Wt.no rfl) rfl (PV.fieldAddr Try.fa45_1 rfl) ?_
    refine RO.val (Wt.no rfl) rfl (PV.loadM (l := [.int .i64 a2.N]) 2 Try.TF3 rfl rfl (cut_Dot_N _ _) rfl (by decide)) ?_
    refine RO.eff (Wt.no rfl) rfl (EV.call (K := _) Try.call101 rfl (SpecK.callV (W_ref7_cmp a1.N a2.N hx7))) ?_
    rintro _ _ _ ⟨_, rfl, rfl, rfl⟩
    refine RO.val (Wt.no rfl) rfl (PV.assign rfl) ?_
    refine RO.nil ?_
    refine CW.ret ?_
    obtain rfl := Option.some.inj h
    exact retP1 (Ψ := Φ) [0] (by decide) rfl (RV.tmp rfl) rfl (fun w hΦ => hΦ.1) ⟨(), rfl, rfl, rfl⟩

theorem W_ref7_MayBag {D : Mem} {Φ : World → Prop} (a1 : S.Bag) (b1_0 : Hd) {r : Bool} (h : S.ref7_MayBag a1 = some r) (hR : ∀ w, MemOk D w → Φ w → (slR S.t_Val w a1.Values b1_0)) :
    SpecK Try.prog 46 [.agg (S.t_Bag.enc a1 (hf [b1_0])).toArray] D [] Φ (fun x : Unit => .bool r) (fun x => []) (fun x => []) (fun _ => Φ) := by
  refine enterK Try.func46 rfl Try.ntmps46 rfl ?_
  unfold S.ref7_MayBag at h
  refine CW.reg ?_
  refine RO.eff (Wt.no rfl) rfl (EV.boxB (B := S.t_Bag.enc a1 (hf [b1_0])) rfl rfl) ?_
  rintro _ _ _ ⟨g1, rfl, rfl, rfl⟩
  refine RO.val (Wt.no rfl) rfl (PV.assign rfl) ?_
  refine RO.nil ?_
  refine CW.seq ?_
  replace h := bindS h
  obtain ⟨e32, h, hk31⟩ := h
  refine CW.meet (X := Bool) (fun x => [(1, .pointer (some ⟨g1, 0, none⟩)), (2, .bool false), (14, .bool x)]) (fun x => [frame D, .blk g1 (S.t_Bag.enc a1 (hf [b1_0]))]) (fun x w => (Φ w ∧ True)) (fun x => S.ref7_MayBag_j1 a1 x = some r) ?_ ?_
  · skip
    replace h := bindS h
    obtain ⟨v33, hx34, h⟩ := h
    by_cases hb35 : (!v33) = true
    · replace h := iteT hb35 h
      refine CW.region ?_
      refine RO.val (Wt.no rfl) rfl (PV.fieldAddr Try.fa40_0 rfl) ?_
      refine RO.val (Wt.no rfl) rfl (PV.loadM (l := S.t_A8_int.enc a1.Known (hf [])) 1 Try.TF37 rfl rfl (cut_Bag_Known _ _) rfl (by decide)) ?_
      refine RO.eff (Wt.no rfl) rfl (EV.call (K := _) Try.call47 rfl (SpecK.callV (W_ref7_MayVector a1.Known hx34))) ?_
      rintro _ _ _ ⟨_, rfl, rfl, rfl⟩
      refine RO.val (Wt.no rfl) rfl (PV.not rfl) ?_
      refine RO.val (Wt.no rfl) rfl ((PV.move rfl).to (congrArg Value.bool hb35)) ?_
      refine RO.skip (Un.mk rfl rfl rfl rfl) rfl ?_
      refine RO.skip (Un.mk rfl rfl rfl rfl) rfl ?_
      refine RO.skip (Un.mk rfl rfl rfl rfl) rfl ?_
      refine RO.skip (Un.mk rfl rfl rfl rfl) rfl ?_
      refine RO.val (Wt.no rfl) rfl (PV.pickT rfl rfl) ?_
      refine RO.nil ?_
      obtain rfl := Option.some.inj h
      refine QC.meetP true hk31 [0, 1] (by decide) (by exact ⟨rfl, rfl, rfl, trivial⟩) rfl (fun w hΦ => hΦ)
    · replace hb35 := Bool.eq_false_iff.2 hb35
      replace h := iteF hb35 h
      refine CW.region ?_
      refine RO.val (Wt.no rfl) rfl (PV.fieldAddr Try.fa40_0 rfl) ?_
      refine RO.val (Wt.no rfl) rfl (PV.loadM (l := S.t_A8_int.enc a1.Known (hf [])) 1 Try.TF37 rfl rfl (cut_Bag_Known _ _) rfl (by decide)) ?_
      refine RO.eff (Wt.no rfl) rfl (EV.call (K := _) Try.call47 rfl (SpecK.callV (W_ref7_MayVector a1.Known hx34))) ?_
      rintro _ _ _ ⟨_, rfl, rfl, rfl⟩
      refine RO.val (Wt.no rfl) rfl (PV.not rfl) ?_
      refine RO.val (Wt.no rfl) rfl ((PV.move rfl).to (congrArg Value.bool hb35)) ?_
      refine RO.val (Wt.yes rfl rfl rfl rfl) rfl (PV.fieldAddr Try.fa40_1 rfl) ?_
      refine RO.val (Wt.yes rfl rfl rfl rfl) rfl (PV.loadM (l := [.slice b1_0.a a1.Values.length b1_0.cap]) 1 Try.TF38 rfl rfl (cut_Bag_Values _ _) rfl (by decide)) ?_
      refine RO.val (Wt.yes rfl rfl rfl rfl) rfl (PV.lenS Try.underlying38 rfl) ?_
      refine RO.val (Wt.yes rfl rfl rfl rfl) rfl (PV.gtr rfl rfl) ?_
      refine RO.val (Wt.no rfl) rfl (PV.pickF rfl rfl) ?_
      refine RO.nil ?_
      obtain rfl := Option.some.inj h
      refine QC.meetP (decide (32 < (a1.Values.length : Int))) hk31 [0, 1] (by decide) (by exact ⟨rfl, rfl, rfl, trivial⟩) rfl (fun w hΦ => hΦ)
  · rintro v3 h
    try dsimp only at h ⊢
    unfold S.ref7_MayBag_j1 at h
    refine CW.cond rfl (fun hb4 => ?_) (fun hb4 => ?_)
    · replace h := iteT hb4 h
      subst hb4
      refine CW.reg ?_
      refine RO.val (Wt.no rfl) rfl (PV.assign rfl) ?_
      refine RO.nil ?_
      refine CW.ret ?_
      refine QC.then_r ?_
      obtain rfl := Option.some.inj h
      exact retP1 (Ψ := Φ) [0] (by decide) rfl (RV.tmp rfl) rfl (fun w hΦ => hΦ.1) ⟨(), rfl, rfl, rfl⟩
    · replace h := iteF hb4 h
      subst hb4
      refine CW.skip ?_
      refine QC.then_n ?_
      replace h := andThen_some h
      obtain ⟨e7, h, hk6⟩ := h
      refine CW.meet (X := Unit) (fun x => [(2, .bool false)]) (fun x => [frame D, .blk g1 (S.t_Bag.enc a1 (hf [b1_0]))]) (fun x w => (Φ w ∧ True)) (fun x => S.ref7_MayBag_j3 = some r) ?_ ?_
      · skip
        refine CW.reg ?_
        refine RO.val (Wt.no rfl) rfl (PV.fieldAddr Try.fa40_1 rfl) ?_
        refine RO.val (Wt.no rfl) rfl (PV.loadM (l := [.slice b1_0.a a1.Values.length b1_0.cap]) 1 Try.TF38 rfl rfl (cut_Bag_Values _ _) rfl (by decide)) ?_
        refine RO.val (Wt.no rfl) rfl (PV.lenS Try.underlying38 rfl) ?_
        refine RO.val (Wt.no rfl) rfl (PV.move rfl) ?_
        refine RO.nil ?_
        refine CW.block ?_
        refine CW.loopE (X := Nat × Int) (fun x => [(1, .pointer (some ⟨g1, 0, none⟩)), (2, .bool false), (16, .slice b1_0.a a1.Values.length b1_0.cap), (17, .int .i64 (a1.Values.length : Int)), (18, .int .i64 x.2)]) (fun x => [frame D, .blk g1 (S.t_Bag.enc a1 (hf [b1_0]))]) (fun x w => (Φ w ∧ True)) (fun x => loopN (S.ref7_MayBag_l4 a1) x.1 x.2 = some e7) (fun x => x.1) (FUEL, 0) h (by exact ⟨rfl, rfl, rfl, rfl, rfl, trivial⟩) rfl (fun w hΦ => hΦ) ?_
        rintro ⟨n15', v12⟩ hI13
        try dsimp only at hI13 ⊢
        obtain ⟨n15, y14, rfl, h, hk16⟩ := loopN_some hI13
        unfold S.ref7_MayBag_l4 at h
        try dsimp only at h
        refine CW.reg ?_
        refine RO.val (Wt.no rfl) rfl (PV.lss rfl rfl) ?_
        refine RO.nil ?_
        refine CW.seq ?_
        refine CW.cond rfl (fun hb17 => ?_) (fun hb17 => ?_)
        · replace h := iteT hb17 h
          refine CW.skip ?_
          refine QC.then_n ?_
          refine CW.seq ?_
          refine CW.block ?_
          replace h := bindS h
          obtain ⟨v18, hx19, h⟩ := h
          refine CW.reg ?_
          refine RO.val (Wt.no rfl) rfl (PV.move rfl) ?_
          refine RO.val (Wt.no rfl) rfl (PV.idxQ (t := S.t_Val) (l := a1.Values) (q := b1_0) Try.underlying38 Try.sizeOf80 (fun w hm hΦ => (hR w (hm.frameAt (i := 0) rfl) (hΦ.1))) rfl rfl hx19) ?_
          refine RO.val (Wt.no rfl) rfl (PV.loadQ (off := 0) (cs := S.t_Val.enc v18 (hf [])) (t := S.t_Val) (l := a1.Values) (q := b1_0) Try.TF80 (fun w hm hΦ => (hR w (hm.frameAt (i := 0) rfl) (hΦ.1))) hx19 rfl rfl rfl (cut_self (S.t_Val.len _ _)) rfl (by decide)) ?_
          refine RO.eff (Wt.no rfl) rfl (EV.allocB (B := S.t_Val.enc S.Val.z (hf [])) Try.zeroValue80 rfl) ?_
          rintro _ _ _ ⟨g20, rfl, rfl, rfl⟩
          refine RO.val (Wt.no rfl) rfl (PV.assign rfl) ?_
          refine RO.eff (Wt.no rfl) rfl (EV.storeW (B := S.t_Val.enc v18 (hf [])) 2 Try.TF80 rfl rfl rfl (by exact S.t_Val.len v18 (hf [])) (by exact S.t_Val.one v18 (hf [])) (S.t_Val.len S.Val.z (hf [])) rfl) ?_
          rintro _ _ _ ⟨rfl, rfl, rfl⟩
          refine RO.nil ?_
          replace h := bindS h
          obtain ⟨v21, hx22, h⟩ := h
          by_cases hb23 : (!v21) = true
          · replace h := iteT hb23 h
            refine CW.regD (pickM [0, 1, 2] _) _ (by kernel_rfl) (St.of (by decide) rfl (fun _ h => h)) ?_
            refine RD.take 0 rfl (by kernel_rfl) (by kernel_rfl) (by kernel_rfl) (Wt.no rfl) rfl (PV.fieldAddr Try.fa40_0 rfl) ?_
            refine RD.take 1 rfl (by kernel_rfl) (by kernel_rfl) (by kernel_rfl) (Wt.no rfl) rfl (PV.loadM (l := S.t_A8_int.enc a1.Known (hf [])) 1 Try.TF37 rfl rfl (cut_Bag_Known _ _) rfl (by decide)) ?_
            refine RD.take 2 rfl (by kernel_rfl) (by kernel_rfl) (by kernel_rfl) (Wt.no rfl) rfl (PV.fieldAddr Try.fa80_0 rfl) ?_
            refine RD.take 3 rfl (by kernel_rfl) (by kernel_rfl) (by kernel_rfl) (Wt.no rfl) rfl (PV.loadM (l := S.t_Dot.enc v18.Dot (hf [])) 2 Try.TF45 rfl rfl (cut_Val_Dot _ _) rfl (by decide)) ?_
            refine RD.one 4 (by kernel_rfl) ?_
            refine Up.eff rfl (Wt.no rfl) rfl (EV.call (K := _) Try.call48 rfl (SpecK.callV (W_ref7_Has a1.Known v18.Dot hx22))) ?_ ?_
            · rintro _ _ _ ⟨_, rfl, rfl, rfl⟩; exact St.of' (by decide) (L' := [0, 1, 2]) rfl (fun _ h => h)
            rintro _ _ _ ⟨_, rfl, rfl, rfl⟩
            refine RD.take 5 rfl (by kernel_rfl) (by kernel_rfl) (by kernel_rfl) (Wt.no rfl) rfl (PV.not rfl) ?_
            refine RD.take 6 rfl (by kernel_rfl) (by kernel_rfl) (by kernel_rfl) (Wt.no rfl) rfl ((PV.move rfl).to (congrArg Value.bool hb23)) ?_
            refine RD.takeNo 7 rfl (by kernel_rfl) (by kernel_rfl) (by kernel_rfl) (Un.mk rfl rfl rfl rfl) rfl ?_
            refine RD.takeNo 8 rfl (by kernel_rfl) (by kernel_rfl) (by kernel_rfl) (Un.mk rfl rfl rfl rfl) rfl ?_
            refine RD.takeNo 9 rfl (by kernel_rfl) (by kernel_rfl) (by kernel_rfl) (Un.mk rfl rfl rfl rfl) rfl ?_
            refine RD.takeNo 10 rfl (by kernel_rfl) (by kernel_rfl) (by kernel_rfl) (Un.mk rfl rfl rfl rfl) rfl ?_
            refine RD.take 11 rfl (by kernel_rfl) (by kernel_rfl) (by kernel_rfl) (Wt.no rfl) rfl (PV.pickT rfl rfl) ?_
            refine RD.take 12 rfl (by kernel_rfl) (by kernel_rfl) (by kernel_rfl) (Wt.no rfl) rfl (PV.move rfl) ?_
            refine RD.takeNo 13 rfl (by kernel_rfl) (by kernel_rfl) (by kernel_rfl) (Un.mk rfl rfl rfl rfl) rfl ?_
            refine RD.takeNo 14 rfl (by kernel_rfl) (by kernel_rfl) (by kernel_rfl) (Un.mk rfl rfl rfl rfl) rfl ?_
            refine RD.takeNo 15 rfl (by kernel_rfl) (by kernel_rfl) (by kernel_rfl) (Un.mk rfl rfl rfl rfl) rfl ?_
            refine RD.takeNo 16 rfl (by kernel_rfl) (by kernel_rfl) (by kernel_rfl) (Un.undef rfl rfl rfl rfl) rfl ?_
            refine RD.takeNo 17 rfl (by kernel_rfl) (by kernel_rfl) (by kernel_rfl) (Un.undef rfl rfl rfl rfl) rfl ?_
            refine RD.takeNo 18 rfl (by kernel_rfl) (by kernel_rfl) (by kernel_rfl) (Un.undef rfl rfl rfl rfl) rfl ?_
            refine RD.takeNo 19 rfl (by kernel_rfl) (by kernel_rfl) (by kernel_rfl) (Un.undef rfl rfl rfl rfl) rfl ?_
            refine RD.takeNo 20 rfl (by kernel_rfl) (by kernel_rfl) (by kernel_rfl) (Un.undef rfl rfl rfl rfl) rfl ?_
            refine RD.takeNo 21 rfl (by kernel_rfl) (by kernel_rfl) (by kernel_rfl) (Un.undef rfl rfl rfl rfl) rfl ?_
            refine RD.takeNo 22 rfl (by kernel_rfl) (by kernel_rfl) (by kernel_rfl) (Un.undef rfl rfl rfl rfl) rfl ?_
            refine RD.takeNo 23 rfl (by kernel_rfl) (by kernel_rfl) (by kernel_rfl) (Un.undef rfl rfl rfl rfl) rfl ?_
            refine RD.takeNo 24 rfl (by kernel_rfl) (by kernel_rfl) (by kernel_rfl) (Un.undef rfl rfl rfl rfl) rfl ?_
            refine RD.takeNo 25 rfl (by kernel_rfl) (by kernel_rfl) (by kernel_rfl) (Un.undef rfl rfl rfl rfl) rfl ?_
            refine RD.takeNo 26 rfl (by kernel_rfl) (by kernel_rfl) (by kernel_rfl) (Un.undef rfl rfl rfl rfl) rfl ?_
            refine RD.takeNo 27 rfl (by kernel_rfl) (by kernel_rfl) (by kernel_rfl) (Un.mk rfl rfl rfl rfl) rfl ?_
            refine RD.take 28 rfl (by kernel_rfl) (by kernel_rfl) (by kernel_rfl) (Wt.no rfl) rfl (PV.pickT rfl rfl) ?_
            refine RD.done (by kernel_rfl) ?_
            refine CW.condT rfl ?_
            refine CW.reg ?_
            refine RO.val (Wt.no rfl) rfl (PV.assign rfl) ?_
            refine RO.nil ?_
            refine CW.ret ?_
            refine QC.blk_r ?_
            refine QC.then_r ?_
            refine QC.then_r ?_
            refine QC.blk_r ?_
            refine QC.then_r ?_
            obtain rfl := Option.some.inj h
            obtain rfl := nextL_inr hk16
            obtain rfl := afterS_inr hk6
            exact retP1 (Ψ := Φ) [0] (by decide) rfl (RV.tmp rfl) rfl (fun w hΦ => hΦ.1) ⟨(), rfl, rfl, rfl⟩
          · replace hb23 := Bool.eq_false_iff.2 hb23
            replace h := iteF hb23 h
            by_cases hb24 : (decide (64 < (v18.Data.size : Int))) = true
            · replace h := iteT hb24 h
              refine CW.regD (pickM [0, 1, 2] _) _ (by kernel_rfl) (St.of (by decide) rfl (fun _ h => h)) ?_
              refine RD.take 0 rfl (by kernel_rfl) (by kernel_rfl) (by kernel_rfl) (Wt.no rfl) rfl (PV.fieldAddr Try.fa40_0 rfl) ?_
              refine RD.take 1 rfl (by kernel_rfl) (by kernel_rfl) (by kernel_rfl) (Wt.no rfl) rfl (PV.loadM (l := S.t_A8_int.enc a1.Known (hf [])) 1 Try.TF37 rfl rfl (cut_Bag_Known _ _) rfl (by decide)) ?_
              refine RD.take 2 rfl (by kernel_rfl) (by kernel_rfl) (by kernel_rfl) (Wt.no rfl) rfl (PV.fieldAddr Try.fa80_0 rfl) ?_
              refine RD.take 3 rfl (by kernel_rfl) (by kernel_rfl) (by kernel_rfl) (Wt.no rfl) rfl (PV.loadM (l := S.t_Dot.enc v18.Dot (hf [])) 2 Try.TF45 rfl rfl (cut_Val_Dot _ _) rfl (by decide)) ?_
              refine RD.one 4 (by kernel_rfl) ?_
              refine Up.eff rfl (Wt.no rfl) rfl (EV.call (K := _) Try.call48 rfl (SpecK.callV (W_ref7_Has a1.Known v18.Dot hx22))) ?_ ?_
              · rintro _ _ _ ⟨_, rfl, rfl, rfl⟩; exact St.of' (by decide) (L' := [0, 1, 2]) rfl (fun _ h => h)
              rintro _ _ _ ⟨_, rfl, rfl, rfl⟩
              refine RD.take 5 rfl (by kernel_rfl) (by kernel_rfl) (by kernel_rfl) (Wt.no rfl) rfl (PV.not rfl) ?_
              refine RD.take 6 rfl (by kernel_rfl) (by kernel_rfl) (by kernel_rfl) (Wt.no rfl) rfl ((PV.move rfl).to (congrArg Value.bool hb23)) ?_
              refine RD.take 7 rfl (by kernel_rfl) (by kernel_rfl) (by kernel_rfl) (Wt.yes rfl rfl rfl rfl) rfl (PV.fieldAddr Try.fa80_1 rfl) ?_
              refine RD.take 8 rfl (by kernel_rfl) (by kernel_rfl) (by kernel_rfl) (Wt.yes rfl rfl rfl rfl) rfl (PV.loadM (l := [.string v18.Data]) 2 Try.TF9 rfl rfl (cut_Val_Data _ _) rfl (by decide)) ?_
              refine RD.take 9 rfl (by kernel_rfl) (by kernel_rfl) (by kernel_rfl) (Wt.yes rfl rfl rfl rfl) rfl (PV.lenStr Try.underlying9 rfl) ?_
              refine RD.take 10 rfl (by kernel_rfl) (by kernel_rfl) (by kernel_rfl) (Wt.yes rfl rfl rfl rfl) rfl (PV.gtr rfl rfl) ?_
              refine RD.take 11 rfl (by kernel_rfl) (by kernel_rfl) (by kernel_rfl) (Wt.no rfl) rfl (PV.pickF rfl rfl) ?_
              refine RD.take 12 rfl (by kernel_rfl) (by kernel_rfl) (by kernel_rfl) (Wt.no rfl) rfl ((PV.move rfl).to (congrArg Value.bool hb24)) ?_
              refine RD.takeNo 13 rfl (by kernel_rfl) (by kernel_rfl) (by kernel_rfl) (Un.mk rfl rfl rfl rfl) rfl ?_
              refine RD.takeNo 14 rfl (by kernel_rfl) (by kernel_rfl) (by kernel_rfl) (Un.mk rfl rfl rfl rfl) rfl ?_
              refine RD.takeNo 15 rfl (by kernel_rfl) (by kernel_rfl) (by kernel_rfl) (Un.mk rfl rfl rfl rfl) rfl ?_
              refine RD.takeNo 16 rfl (by kernel_rfl) (by kernel_rfl) (by kernel_rfl) (Un.undef rfl rfl rfl rfl) rfl ?_
              refine RD.takeNo 17 rfl (by kernel_rfl) (by kernel_rfl) (by kernel_rfl) (Un.undef rfl rfl rfl rfl) rfl ?_
              refine RD.takeNo 18 rfl (by kernel_rfl) (by kernel_rfl) (by kernel_rfl) (Un.undef rfl rfl rfl rfl) rfl ?_
              refine RD.takeNo 19 rfl (by kernel_rfl) (by kernel_rfl) (by kernel_rfl) (Un.undef rfl rfl rfl rfl) rfl ?_
              refine RD.takeNo 20 rfl (by kernel_rfl) (by kernel_rfl) (by kernel_rfl) (Un.undef rfl rfl rfl rfl) rfl ?_
              refine RD.takeNo 21 rfl (by kernel_rfl) (by kernel_rfl) (by kernel_rfl) (Un.undef rfl rfl rfl rfl) rfl ?_
              refine RD.takeNo 22 rfl (by kernel_rfl) (by kernel_rfl) (by kernel_rfl) (Un.undef rfl rfl rfl rfl) rfl ?_
              refine RD.takeNo 23 rfl (by kernel_rfl) (by kernel_rfl) (by kernel_rfl) (Un.undef rfl rfl rfl rfl) rfl ?_
              refine RD.takeNo 24 rfl (by kernel_rfl) (by kernel_rfl) (by kernel_rfl) (Un.undef rfl rfl rfl rfl) rfl ?_
              refine RD.takeNo 25 rfl (by kernel_rfl) (by kernel_rfl) (by kernel_rfl) (Un.undef rfl rfl rfl rfl) rfl ?_
              refine RD.takeNo 26 rfl (by kernel_rfl) (by kernel_rfl) (by kernel_rfl) (Un.undef rfl rfl rfl rfl) rfl ?_
              refine RD.takeNo 27 rfl (by kernel_rfl) (by kernel_rfl) (by kernel_rfl) (Un.mk rfl rfl rfl rfl) rfl ?_
              refine RD.take 28 rfl (by kernel_rfl) (by kernel_rfl) (by kernel_rfl) (Wt.no rfl) rfl (PV.pickT rfl rfl) ?_
              refine RD.done (by kernel_rfl) ?_
              refine CW.condT rfl ?_
              refine CW.reg ?_
              refine RO.val (Wt.no rfl) rfl (PV.assign rfl) ?_
              refine RO.nil ?_
              refine CW.ret ?_
              refine QC.blk_r ?_
              refine QC.then_r ?_
              refine QC.then_r ?_
              refine QC.blk_r ?_
              refine QC.then_r ?_
              obtain rfl := Option.some.inj h
              obtain rfl := nextL_inr hk16
              obtain rfl := afterS_inr hk6
              exact retP1 (Ψ := Φ) [0] (by decide) rfl (RV.tmp rfl) rfl (fun w hΦ => hΦ.1) ⟨(), rfl, rfl, rfl⟩
            · replace hb24 := Bool.eq_false_iff.2 hb24
              replace h := iteF hb24 h
              by_cases hb25 : (decide (0 < v12)) = true
              · replace h := iteT hb25 h
                replace h := bindS h
                obtain ⟨v26, hx27, h⟩ := h
                replace h := bindS h
                obtain ⟨v28, hx29, h⟩ := h
                refine CW.regD (pickM [0, 1, 2] _) _ (by kernel_rfl) (St.of (by decide) rfl (fun _ h => h)) ?_
                refine RD.take 0 rfl (by kernel_rfl) (by kernel_rfl) (by kernel_rfl) (Wt.no rfl) rfl (PV.fieldAddr Try.fa40_0 rfl) ?_
                refine RD.take 1 rfl (by kernel_rfl) (by kernel_rfl) (by kernel_rfl) (Wt.no rfl) rfl (PV.loadM (l := S.t_A8_int.enc a1.Known (hf [])) 1 Try.TF37 rfl rfl (cut_Bag_Known _ _) rfl (by decide)) ?_
                refine RD.take 2 rfl (by kernel_rfl) (by kernel_rfl) (by kernel_rfl) (Wt.no rfl) rfl (PV.fieldAddr Try.fa80_0 rfl) ?_
                refine RD.take 3 rfl (by kernel_rfl) (by kernel_rfl) (by kernel_rfl) (Wt.no rfl) rfl (PV.loadM (l := S.t_Dot.enc v18.Dot (hf [])) 2 Try.TF45 rfl rfl (cut_Val_Dot _ _) rfl (by decide)) ?_
                refine RD.one 4 (by kernel_rfl) ?_
                refine Up.eff rfl (Wt.no rfl) rfl (EV.call (K := _) Try.call48 rfl (SpecK.callV (W_ref7_Has a1.Known v18.Dot hx22))) ?_ ?_
                · rintro _ _ _ ⟨_, rfl, rfl, rfl⟩; exact St.of' (by decide) (L' := [0, 1, 2]) rfl (fun _ h => h)
                rintro _ _ _ ⟨_, rfl, rfl, rfl⟩
                refine RD.take 5 rfl (by kernel_rfl) (by kernel_rfl) (by kernel_rfl) (Wt.no rfl) rfl (PV.not rfl) ?_
                refine RD.take 6 rfl (by kernel_rfl) (by kernel_rfl) (by kernel_rfl) (Wt.no rfl) rfl ((PV.move rfl).to (congrArg Value.bool hb23)) ?_
                refine RD.take 7 rfl (by kernel_rfl) (by kernel_rfl) (by kernel_rfl) (Wt.yes rfl rfl rfl rfl) rfl (PV.fieldAddr Try.fa80_1 rfl) ?_
                refine RD.take 8 rfl (by kernel_rfl) (by kernel_rfl) (by kernel_rfl) (Wt.yes rfl rfl rfl rfl) rfl (PV.loadM (l := [.string v18.Data]) 2 Try.TF9 rfl rfl (cut_Val_Data _ _) rfl (by decide)) ?_
                refine RD.take 9 rfl (by kernel_rfl) (by kernel_rfl) (by kernel_rfl) (Wt.yes rfl rfl rfl rfl) rfl (PV.lenStr Try.underlying9 rfl) ?_
                refine RD.take 10 rfl (by kernel_rfl) (by kernel_rfl) (by kernel_rfl) (Wt.yes rfl rfl rfl rfl) rfl (PV.gtr rfl rfl) ?_
                refine RD.take 11 rfl (by kernel_rfl) (by kernel_rfl) (by kernel_rfl) (Wt.no rfl) rfl (PV.pickF rfl rfl) ?_
                refine RD.take 12 rfl (by kernel_rfl) (by kernel_rfl) (by kernel_rfl) (Wt.no rfl) rfl ((PV.move rfl).to (congrArg Value.bool hb24)) ?_
                refine RD.take 13 rfl (by kernel_rfl) (by kernel_rfl) (by kernel_rfl) (Wt.yes rfl rfl rfl rfl) rfl (PV.move rfl) ?_
                refine RD.take 14 rfl (by kernel_rfl) (by kernel_rfl) (by kernel_rfl) (Wt.yes rfl rfl rfl rfl) rfl (PV.gtr rfl rfl) ?_
                refine RD.take 15 rfl (by kernel_rfl) (by kernel_rfl) (by kernel_rfl) (Wt.yes rfl rfl rfl rfl) rfl ((PV.move rfl).to (congrArg Value.bool hb25)) ?_
                refine RD.take 16 rfl (by kernel_rfl) (by kernel_rfl) (by kernel_rfl) (Wt.yes rfl rfl rfl rfl) rfl (PV.fieldAddr Try.fa40_1 rfl) ?_
                refine RD.take 17 rfl (by kernel_rfl) (by kernel_rfl) (by kernel_rfl) (Wt.yes rfl rfl rfl rfl) rfl (PV.loadM (l := [.slice b1_0.a a1.Values.length b1_0.cap]) 1 Try.TF38 rfl rfl (cut_Bag_Values _ _) rfl (by decide)) ?_
                refine RD.take 18 rfl (by kernel_rfl) (by kernel_rfl) (by kernel_rfl) (Wt.yes rfl rfl rfl rfl) rfl (PV.move rfl) ?_
                refine RD.take 19 rfl (by kernel_rfl) (by kernel_rfl) (by kernel_rfl) (Wt.yes rfl rfl rfl rfl) rfl (PV.subW rfl rfl) ?_
                refine RD.take 20 rfl (by kernel_rfl) (by kernel_rfl) (by kernel_rfl) (Wt.yes rfl rfl rfl rfl) rfl (PV.idxQ (t := S.t_Val) (l := a1.Values) (q := b1_0) Try.underlying38 Try.sizeOf80 (fun w hm hΦ => (hR w (hm.frameAt (i := 0) rfl) (hΦ.1))) rfl rfl hx27) ?_
                refine RD.take 21 rfl (by kernel_rfl) (by kernel_rfl) (by kernel_rfl) (Wt.yes rfl rfl rfl rfl) rfl (PV.fieldAddr Try.fa80_0 rfl) ?_
                refine RD.take 22 rfl (by kernel_rfl) (by kernel_rfl) (by kernel_rfl) (Wt.yes rfl rfl rfl rfl) rfl (PV.loadQ (off := 0 + 0) (cs := S.t_Dot.enc v26.Dot (hf [])) (t := S.t_Val) (l := a1.Values) (q := b1_0) Try.TF45 (fun w hm hΦ => (hR w (hm.frameAt (i := 0) rfl) (hΦ.1))) hx27 rfl rfl rfl (cut_Val_Dot _ _) rfl (by decide)) ?_
                refine RD.take 23 rfl (by kernel_rfl) (by kernel_rfl) (by kernel_rfl) (Wt.yes rfl rfl rfl rfl) rfl (PV.fieldAddr Try.fa80_0 rfl) ?_
                refine RD.take 24 rfl (by kernel_rfl) (by kernel_rfl) (by kernel_rfl) (Wt.yes rfl rfl rfl rfl) rfl (PV.loadM (l := S.t_Dot.enc v18.Dot (hf [])) 2 Try.TF45 rfl rfl (cut_Val_Dot _ _) rfl (by decide)) ?_
                refine RD.one 25 (by kernel_rfl) ?_
                refine Up.eff rfl (Wt.yes rfl rfl rfl rfl) rfl (EV.call (K := _) Try.call69 rfl (SpecK.callV (W_ref7_CompareDot v26.Dot v18.Dot hx29))) ?_ ?_
                · rintro _ _ _ ⟨_, rfl, rfl, rfl⟩; exact St.of' (by decide) (L' := [0, 1, 2]) rfl (fun _ h => h)
                rintro _ _ _ ⟨_, rfl, rfl, rfl⟩
                refine RD.take 26 rfl (by kernel_rfl) (by kernel_rfl) (by kernel_rfl) (Wt.yes rfl rfl rfl rfl) rfl (PV.geq rfl rfl) ?_
                refine RD.take 27 rfl (by kernel_rfl) (by kernel_rfl) (by kernel_rfl) (Wt.yes rfl rfl rfl rfl) rfl (PV.pickT rfl rfl) ?_
                refine RD.take 28 rfl (by kernel_rfl) (by kernel_rfl) (by kernel_rfl) (Wt.no rfl) rfl (PV.pickF rfl rfl) ?_
                refine RD.done (by kernel_rfl) ?_
                refine CW.cond rfl (fun hb30 => ?_) (fun hb30 => ?_)
                · replace h := iteT hb30 h
                  refine CW.reg ?_
                  refine RO.val (Wt.no rfl) rfl (PV.assign rfl) ?_
                  refine RO.nil ?_
                  refine CW.ret ?_
                  refine QC.blk_r ?_
                  refine QC.then_r ?_
                  refine QC.then_r ?_
                  refine QC.blk_r ?_
                  refine QC.then_r ?_
                  obtain rfl := Option.some.inj h
                  obtain rfl := nextL_inr hk16
                  obtain rfl := afterS_inr hk6
                  exact retP1 (Ψ := Φ) [0] (by decide) rfl (RV.tmp rfl) rfl (fun w hΦ => hΦ.1) ⟨(), rfl, rfl, rfl⟩
                · replace h := iteF hb30 h
                  refine CW.skip ?_
                  refine QC.blk_n ?_
                  refine QC.then_n ?_
                  refine CW.region ?_
                  refine RO.val (Wt.no rfl) rfl (PV.addW rfl rfl) ?_
                  refine RO.val (Wt.no rfl) rfl (PV.move rfl) ?_
                  refine RO.nil ?_
                  obtain rfl := Option.some.inj h
                  refine QC.roundP (n15, (w64 (v12 + 1))) (nextL_inl hk16) (by exact Nat.lt_succ_self _) [0, 1] (by decide) (by exact ⟨rfl, rfl, rfl, rfl, rfl, trivial⟩) rfl (fun w hΦ => hΦ)
              · replace hb25 := Bool.eq_false_iff.2 hb25
                replace h := iteF hb25 h
                refine CW.regD (pickM [0, 1, 2] _) _ (by kernel_rfl) (St.of (by decide) rfl (fun _ h => h)) ?_
                refine RD.take 0 rfl (by kernel_rfl) (by kernel_rfl) (by kernel_rfl) (Wt.no rfl) rfl (PV.fieldAddr Try.fa40_0 rfl) ?_
                refine RD.take 1 rfl (by kernel_rfl) (by kernel_rfl) (by kernel_rfl) (Wt.no rfl) rfl (PV.loadM (l := S.t_A8_int.enc a1.Known (hf [])) 1 Try.TF37 rfl rfl (cut_Bag_Known _ _) rfl (by decide)) ?_
                refine RD.take 2 rfl (by kernel_rfl) (by kernel_rfl) (by kernel_rfl) (Wt.no rfl) rfl (PV.fieldAddr Try.fa80_0 rfl) ?_
                refine RD.take 3 rfl (by kernel_rfl) (by kernel_rfl) (by kernel_rfl) (Wt.no rfl) rfl (PV.loadM (l := S.t_Dot.enc v18.Dot (hf [])) 2 Try.TF45 rfl rfl (cut_Val_Dot _ _) rfl (by decide)) ?_
                refine RD.one 4 (by kernel_rfl) ?_
                refine Up.eff rfl (Wt.no rfl) rfl (EV.call (K := _) Try.call48 rfl (SpecK.callV (W_ref7_Has a1.Known v18.Dot hx22))) ?_ ?_
                · rintro _ _ _ ⟨_, rfl, rfl, rfl⟩; exact St.of' (by decide) (L' := [0, 1, 2]) rfl (fun _ h => h)
                rintro _ _ _ ⟨_, rfl, rfl, rfl⟩
                refine RD.take 5 rfl (by kernel_rfl) (by kernel_rfl) (by kernel_rfl) (Wt.no rfl) rfl (PV.not rfl) ?_
                refine RD.take 6 rfl (by kernel_rfl) (by kernel_rfl) (by kernel_rfl) (Wt.no rfl) rfl ((PV.move rfl).to (congrArg Value.bool hb23)) ?_
                refine RD.take 7 rfl (by kernel_rfl) (by kernel_rfl) (by kernel_rfl) (Wt.yes rfl rfl rfl rfl) rfl (PV.fieldAddr Try.fa80_1 rfl) ?_
                refine RD.take 8 rfl (by kernel_rfl) (by kernel_rfl) (by kernel_rfl) (Wt.yes rfl rfl rfl rfl) rfl (PV.loadM (l := [.string v18.Data]) 2 Try.TF9 rfl rfl (cut_Val_Data _ _) rfl (by decide)) ?_
                refine RD.take 9 rfl (by kernel_rfl) (by kernel_rfl) (by kernel_rfl) (Wt.yes rfl rfl rfl rfl) rfl (PV.lenStr Try.underlying9 rfl) ?_
                refine RD.take 10 rfl (by kernel_rfl) (by kernel_rfl) (by kernel_rfl) (Wt.yes rfl rfl rfl rfl) rfl (PV.gtr rfl rfl) ?_
                refine RD.take 11 rfl (by kernel_rfl) (by kernel_rfl) (by kernel_rfl) (Wt.no rfl) rfl (PV.pickF rfl rfl) ?_
                refine RD.take 12 rfl (by kernel_rfl) (by kernel_rfl) (by kernel_rfl) (Wt.no rfl) rfl ((PV.move rfl).to (congrArg Value.bool hb24)) ?_
                refine RD.take 13 rfl (by kernel_rfl) (by kernel_rfl) (by kernel_rfl) (Wt.yes rfl rfl rfl rfl) rfl (PV.move rfl) ?_
                refine RD.take 14 rfl (by kernel_rfl) (by kernel_rfl) (by kernel_rfl) (Wt.yes rfl rfl rfl rfl) rfl (PV.gtr rfl rfl) ?_
                refine RD.take 15 rfl (by kernel_rfl) (by kernel_rfl) (by kernel_rfl) (Wt.yes rfl rfl rfl rfl) rfl ((PV.move rfl).to (congrArg Value.bool hb25)) ?_
                refine RD.takeNo 16 rfl (by kernel_rfl) (by kernel_rfl) (by kernel_rfl) (Un.mk rfl rfl rfl rfl) rfl ?_
                refine RD.takeNo 17 rfl (by kernel_rfl) (by kernel_rfl) (by kernel_rfl) (Un.mk rfl rfl rfl rfl) rfl ?_
                refine RD.takeNo 18 rfl (by kernel_rfl) (by kernel_rfl) (by kernel_rfl) (Un.mk rfl rfl rfl rfl) rfl ?_
                refine RD.takeNo 19 rfl (by kernel_rfl) (by kernel_rfl) (by kernel_rfl) (Un.mk rfl rfl rfl rfl) rfl ?_
                refine RD.takeNo 20 rfl (by kernel_rfl) (by kernel_rfl) (by kernel_rfl) (Un.mk rfl rfl rfl rfl) rfl ?_
                refine RD.takeNo 21 rfl (by kernel_rfl) (by kernel_rfl) (by kernel_rfl) (Un.mk rfl rfl rfl rfl) rfl ?_
                refine RD.takeNo 22 rfl (by kernel_rfl) (by kernel_rfl) (by kernel_rfl) (Un.mk rfl rfl rfl rfl) rfl ?_
                refine RD.takeNo 23 rfl (by kernel_rfl) (by kernel_rfl) (by kernel_rfl) (Un.mk rfl rfl rfl rfl) rfl ?_
                refine RD.takeNo 24 rfl (by kernel_rfl) (by kernel_rfl) (by kernel_rfl) (Un.mk rfl rfl rfl rfl) rfl ?_
                refine RD.takeNo 25 rfl (by kernel_rfl) (by kernel_rfl) (by kernel_rfl) (Un.mk rfl rfl rfl rfl) rfl ?_
                refine RD.takeNo 26 rfl (by kernel_rfl) (by kernel_rfl) (by kernel_rfl) (Un.mk rfl rfl rfl rfl) rfl ?_
                refine RD.take 27 rfl (by kernel_rfl) (by kernel_rfl) (by kernel_rfl) (Wt.yes rfl rfl rfl rfl) rfl (PV.pickF rfl rfl) ?_
                refine RD.take 28 rfl (by kernel_rfl) (by kernel_rfl) (by kernel_rfl) (Wt.no rfl) rfl (PV.pickF rfl rfl) ?_
                refine RD.done (by kernel_rfl) ?_
                refine CW.condF rfl ?_
                refine CW.skip ?_
                refine QC.blk_n ?_
                refine QC.then_n ?_
                refine CW.region ?_
                refine RO.val (Wt.no rfl) rfl (PV.addW rfl rfl) ?_
                refine RO.val (Wt.no rfl) rfl (PV.move rfl) ?_
                refine RO.nil ?_
                obtain rfl := Option.some.inj h
                refine QC.roundP (n15, (w64 (v12 + 1))) (nextL_inl hk16) (by exact Nat.lt_succ_self _) [0, 1] (by decide) (by exact ⟨rfl, rfl, rfl, rfl, rfl, trivial⟩) rfl (fun w hΦ => hΦ)
        · replace h := iteF hb17 h
          refine CW.exit ?_
          refine QC.then_x ?_
          refine QC.then_x ?_
          refine QC.blk_x ?_
          obtain rfl := Option.some.inj h
          obtain rfl := nextL_inr hk16
          refine QC.meetP () (afterS_inl hk6) [0, 1] (by decide) (by exact ⟨rfl, trivial⟩) rfl (fun w hΦ => hΦ)
      · rintro ⟨⟩ h
        try dsimp only at h ⊢
        unfold S.ref7_MayBag_j3 at h
        refine CW.reg ?_
        refine RO.val (Wt.no rfl) rfl (PV.assign rfl) ?_
        refine RO.nil ?_
        refine CW.ret ?_
        obtain rfl := Option.some.inj h
        exact retP1 (Ψ := Φ) [0] (by decide) rfl (RV.tmp rfl) rfl (fun w hΦ => hΦ.1) ⟨(), rfl, rfl, rfl⟩

theorem W_ref7_JoinVector {D : Mem} {Φ : World → Prop} (a1 : Vector Int 8) (a2 : Vector Int 8) {r : (Vector Int 8)} (h : S.ref7_JoinVector a1 a2 = some r) :
    SpecK Try.prog 50 [.agg (S.t_A8_int.enc a1 (hf [])).toArray, .agg (S.t_A8_int.enc a2 (hf [])).toArray] D [] Φ (fun x : Unit => .agg (S.t_A8_int.enc r (hf [])).toArray) (fun x => []) (fun x => []) (fun _ => Φ) := by
  refine enterK Try.func50 rfl Try.ntmps50 rfl ?_
  unfold S.ref7_JoinVector at h
  refine CW.reg ?_
  refine RO.eff (Wt.no rfl) rfl (EV.boxB (B := S.t_A8_int.enc a1 (hf [])) rfl rfl) ?_
  rintro _ _ _ ⟨g1, rfl, rfl, rfl⟩
  refine RO.eff (Wt.no rfl) rfl (EV.boxB (B := S.t_A8_int.enc a2 (hf [])) rfl rfl) ?_
  rintro _ _ _ ⟨g2, rfl, rfl, rfl⟩
  refine RO.eff (Wt.no rfl) rfl (EV.allocB (B := S.t_A8_int.enc (Vector.replicate 8 (0 : Int)) (hf [])) Try.zeroValue37 rfl) ?_
  rintro _ _ _ ⟨g3, rfl, rfl, rfl⟩
  refine RO.nil ?_
  replace h := bindS h
  obtain ⟨e7, h, hk6⟩ := h
  refine CW.meet (X := (Vector Int 8)) (fun x => [(2, .pointer (some ⟨g1, 0, none⟩)), (4, .pointer (some ⟨g3, 0, none⟩))]) (fun x => [frame D, .blk g1 (S.t_A8_int.enc x (hf [])), .blk g2 (S.t_A8_int.enc a2 (hf [])), .blk g3 (S.t_A8_int.enc (Vector.replicate 8 (0 : Int)) (hf []))]) (fun x w => (Φ w ∧ True)) (fun x => S.ref7_JoinVector_j2 x = some r) ?_ ?_
  · skip
    refine CW.reg ?_
    refine RO.val (Wt.no rfl) rfl (PV.move rfl) ?_
    refine RO.nil ?_
    refine CW.block ?_
    refine CW.loopE (X := Nat × (Vector Int 8) × Int) (fun x => [(2, .pointer (some ⟨g1, 0, none⟩)), (3, .pointer (some ⟨g2, 0, none⟩)), (4, .pointer (some ⟨g3, 0, none⟩)), (6, .int .i64 x.2.2)]) (fun x => [frame D, .blk g1 (S.t_A8_int.enc x.2.1 (hf [])), .blk g2 (S.t_A8_int.enc a2 (hf [])), .blk g3 (S.t_A8_int.enc (Vector.replicate 8 (0 : Int)) (hf []))]) (fun x w => (Φ w ∧ True)) (fun x => loopN (S.ref7_JoinVector_l3 a2) x.1 (x.2.1, x.2.2) = some e7) (fun x => x.1) (FUEL, a1, 0) h (by exact ⟨rfl, rfl, rfl, rfl, trivial⟩) rfl (fun w hΦ => hΦ) ?_
    rintro ⟨n17', v13, v14⟩ hI15
    try dsimp only at hI15 ⊢
    obtain ⟨n17, y16, rfl, h, hk18⟩ := loopN_some hI15
    unfold S.ref7_JoinVector_l3 at h
    try dsimp only at h
    refine CW.reg ?_
    refine RO.val (Wt.no rfl) rfl (PV.lss rfl rfl) ?_
    refine RO.nil ?_
    refine CW.seq ?_
    refine CW.cond rfl (fun hb19 => ?_) (fun hb19 => ?_)
    · replace h := iteT hb19 h
      refine CW.skip ?_
      refine QC.then_n ?_
      refine CW.seq ?_
      refine CW.block ?_
      refine CW.reg ?_
      refine RO.val (Wt.no rfl) rfl (PV.move rfl) ?_
      refine RO.val (Wt.no rfl) rfl (PV.assign rfl) ?_
      refine RO.nil ?_
      replace h := bindS h
      obtain ⟨v20, hx21, h⟩ := h
      obtain ⟨hn22, hn23, he24⟩ := aget_some hx21
      replace h := bindS h
      obtain ⟨v25, hx26, h⟩ := h
      obtain ⟨hn27, hn28, he29⟩ := aget_some hx26
      replace h := bindS h
      obtain ⟨v30, hx31, h⟩ := h
      obtain ⟨hn32, hn33, he34⟩ := aset_some hx31
      refine CW.regionD (pickM [0, 2, 3] _) _ (by kernel_rfl) (St.of (by decide) rfl (fun _ h => h)) ?_
      refine RD.take 0 rfl (by kernel_rfl) (by kernel_rfl) (by kernel_rfl) (Wt.no rfl) rfl (PV.move rfl) ?_
      refine RD.take 1 rfl (by kernel_rfl) (by kernel_rfl) (by kernel_rfl) (Wt.no rfl) rfl (PV.move rfl) ?_
      refine RD.take 2 rfl (by kernel_rfl) (by kernel_rfl) (by kernel_rfl) (Wt.no rfl) rfl (PV.idxA Try.underlying37 Try.sizeOf3 rfl rfl hn23 (by omega)) ?_
      refine RD.take 4 rfl (by kernel_rfl) (by kernel_rfl) (by kernel_rfl) (Wt.no rfl) rfl (PV.move rfl) ?_
      refine RD.take 5 rfl (by kernel_rfl) (by kernel_rfl) (by kernel_rfl) (Wt.no rfl) rfl (PV.idxA Try.underlying37 Try.sizeOf3 rfl rfl hn28 (by omega)) ?_
      refine RD.take 6 rfl (by kernel_rfl) (by kernel_rfl) (by kernel_rfl) (Wt.no rfl) rfl (PV.loadM (l := [.int .i64 v25]) 1 Try.TF3 rfl rfl (by rw [cut_A8_int_i _ _ _ hn27, he29]) rfl (by decide)) ?_
      refine RD.one 3 (by kernel_rfl) ?_
      refine Up.val rfl (Wt.no rfl) rfl (PV.loadM (l := [.int .i64 v20]) 1 Try.TF3 rfl rfl (by rw [cut_A8_int_i _ _ _ hn22, he24]) rfl (by decide)) ?_
      refine RD.take 7 rfl (by kernel_rfl) (by kernel_rfl) (by kernel_rfl) (Wt.no rfl) rfl (PV.max rfl rfl) ?_
      refine RD.take 8 rfl (by kernel_rfl) (by kernel_rfl) (by kernel_rfl) (Wt.no rfl) rfl (PV.idxA Try.underlying37 Try.sizeOf3 rfl rfl hn33 (by omega)) ?_
      refine RD.one 9 (by kernel_rfl) ?_
      refine Up.eff rfl (Wt.no rfl) rfl (EV.storeB (B := S.t_A8_int.enc v30 (hf [])) 1 Try.TF3 rfl rfl rfl rfl rfl (by rw [S.t_A8_int.len]; show _ ≤ 8; omega) ((wr_A8_int_i v13 (max v20 v25) _ hn32).trans (by rw [he34]))) ?_ ?_
      · rintro _ _ _ ⟨rfl, rfl, rfl⟩; exact St.of' (by decide) (L' := [0, 2, 3]) rfl (fun _ h => h)
      rintro _ _ _ ⟨rfl, rfl, rfl⟩
      refine RD.done (by kernel_rfl) ?_
      refine QC.blk_n ?_
      refine QC.then_n ?_
      refine CW.region ?_
      refine RO.val (Wt.no rfl) rfl (PV.addW rfl rfl) ?_
      refine RO.val (Wt.no rfl) rfl (PV.move rfl) ?_
      refine RO.nil ?_
      obtain rfl := Option.some.inj h
      refine QC.roundP (n17, v30, (w64 (v14 + 1))) (nextL_inl hk18) (by exact Nat.lt_succ_self _) [0, 1, 2, 3] (by decide) (by exact ⟨rfl, rfl, rfl, rfl, trivial⟩) rfl (fun w hΦ => hΦ)
    · replace h := iteF hb19 h
      refine CW.exit ?_
      refine QC.then_x ?_
      refine QC.then_x ?_
      refine QC.blk_x ?_
      obtain rfl := Option.some.inj h
      obtain rfl := nextL_inr hk18
      refine QC.meetP v13 hk6 [0, 1, 2, 3] (by decide) (by exact ⟨rfl, rfl, trivial⟩) rfl (fun w hΦ => hΦ)
  · rintro v5 h
    try dsimp only at h ⊢
    unfold S.ref7_JoinVector_j2 at h
    refine CW.reg ?_
    refine RO.val (Wt.no rfl) rfl (PV.loadM (l := S.t_A8_int.enc v5 (hf [])) 1 Try.TF37 rfl rfl (cut_self (S.t_A8_int.len _ _)) rfl (by decide)) ?_
    refine RO.eff (Wt.no rfl) rfl (EV.storeW (B := S.t_A8_int.enc v5 (hf [])) 3 Try.TF37 rfl rfl rfl (by exact S.t_A8_int.len v5 (hf [])) (by exact S.t_A8_int.one v5 (hf [])) (S.t_A8_int.len (Vector.replicate 8 (0 : Int)) (hf [])) rfl) ?_
    rintro _ _ _ ⟨rfl, rfl, rfl⟩
    refine RO.nil ?_
    refine CW.ret ?_
    obtain rfl := Option.some.inj h
    exact retP1 (Ψ := Φ) [0] (by decide) rfl (RV.cell (A := S.t_A8_int.enc v5 (hf [])) 3 rfl Try.TF37 rfl (S.t_A8_int.len _ _) (by decide)) rfl (fun w hΦ => hΦ.1) ⟨(), rfl, rfl, rfl⟩

theorem W_ref7_With {D : Mem} {Φ : World → Prop} (a1 : Vector Int 8) (a2 : S.Dot) {r : (Vector Int 8)} (h : S.ref7_With a1 a2 = some r) :
    SpecK Try.prog 49 [.agg (S.t_A8_int.enc a1 (hf [])).toArray, .agg (S.t_Dot.enc a2 (hf [])).toArray] D [] Φ (fun x : Unit => .agg (S.t_A8_int.enc r (hf [])).toArray) (fun x => []) (fun x => []) (fun _ => Φ) := by
  refine enterK Try.func49 rfl Try.ntmps49 rfl ?_
  unfold S.ref7_With at h
  refine CW.reg ?_
  refine RO.eff (Wt.no rfl) rfl (EV.boxB (B := S.t_A8_int.enc a1 (hf [])) rfl rfl) ?_
  rintro _ _ _ ⟨g1, rfl, rfl, rfl⟩
  refine RO.eff (Wt.no rfl) rfl (EV.boxB (B := S.t_Dot.enc a2 (hf [])) rfl rfl) ?_
  rintro _ _ _ ⟨g2, rfl, rfl, rfl⟩
  refine RO.eff (Wt.no rfl) rfl (EV.allocB (B := S.t_A8_int.enc (Vector.replicate 8 (0 : Int)) (hf [])) Try.zeroValue37 rfl) ?_
  rintro _ _ _ ⟨g3, rfl, rfl, rfl⟩
  refine RO.nil ?_
  refine CW.seq ?_
  replace h := bindS h
  obtain ⟨v4, hx5, h⟩ := h
  refine CW.reg ?_
  refine RO.val (Wt.no rfl) rfl (PV.fieldAddr Try.fa45_0 rfl) ?_
  refine RO.val (Wt.no rfl) rfl (PV.loadM (l := [.int .i64 a2.Node]) 2 Try.TF3 rfl rfl (cut_Dot_Node _ _) rfl (by decide)) ?_
  refine RO.eff (Wt.no rfl) rfl (EV.call (K := _) Try.call42 rfl (SpecK.callV (W_ref1_Node a2.Node hx5))) ?_
  rintro _ _ _ ⟨_, rfl, rfl, rfl⟩
  refine RO.nil ?_
  refine CW.cond rfl (fun hb6 => ?_) (fun hb6 => ?_)
  · replace h := iteT hb6 h
    subst hb6
    replace h := bindS h
    obtain ⟨v7, hx8, h⟩ := h
    obtain ⟨hn9, hn10, he11⟩ := aget_some hx8
    replace h := bindS h
    obtain ⟨v12, hx13, h⟩ := h
    obtain ⟨hn14, hn15, he16⟩ := aset_some hx13
    refine CW.regionD (pickM [0, 2, 3] _) _ (by kernel_rfl) (St.of (by decide) rfl (fun _ h => h)) ?_
    refine RD.take 0 rfl (by kernel_rfl) (by kernel_rfl) (by kernel_rfl) (Wt.no rfl) rfl (PV.fieldAddr Try.fa45_0 rfl) ?_
    refine RD.take 1 rfl (by kernel_rfl) (by kernel_rfl) (by kernel_rfl) (Wt.no rfl) rfl (PV.loadM (l := [.int .i64 a2.Node]) 1 Try.TF3 rfl rfl (cut_Dot_Node _ _) rfl (by decide)) ?_
    refine RD.take 2 rfl (by kernel_rfl) (by kernel_rfl) (by kernel_rfl) (Wt.no rfl) rfl (PV.fieldAddr Try.fa45_0 rfl) ?_
    refine RD.take 3 rfl (by kernel_rfl) (by kernel_rfl) (by kernel_rfl) (Wt.no rfl) rfl (PV.loadM (l := [.int .i64 a2.Node]) 1 Try.TF3 rfl rfl (cut_Dot_Node _ _) rfl (by decide)) ?_
    refine RD.take 4 rfl (by kernel_rfl) (by kernel_rfl) (by kernel_rfl) (Wt.no rfl) rfl (PV.idxA Try.underlying37 Try.sizeOf3 rfl rfl hn10 (by omega)) ?_
    refine RD.take 6 rfl (by kernel_rfl) (by kernel_rfl) (by kernel_rfl) (Wt.no rfl) rfl (PV.fieldAddr Try.fa45_1 rfl) ?_
    refine RD.take 7 rfl (by kernel_rfl) (by kernel_rfl) (by kernel_rfl) (Wt.no rfl) rfl (PV.loadM (l := [.int .i64 a2.N]) 1 Try.TF3 rfl rfl (cut_Dot_N _ _) rfl (by decide)) ?_
    refine RD.one 5 (by kernel_rfl) ?_
    refine Up.val rfl (Wt.no rfl) rfl (PV.loadM (l := [.int .i64 v7]) 1 Try.TF3 rfl rfl (by rw [cut_A8_int_i _ _ _ hn9, he11]) rfl (by decide)) ?_
    refine RD.take 8 rfl (by kernel_rfl) (by kernel_rfl) (by kernel_rfl) (Wt.no rfl) rfl (PV.max rfl rfl) ?_
    refine RD.take 9 rfl (by kernel_rfl) (by kernel_rfl) (by kernel_rfl) (Wt.no rfl) rfl (PV.idxA Try.underlying37 Try.sizeOf3 rfl rfl hn15 (by omega)) ?_
    refine RD.one 10 (by kernel_rfl) ?_
    refine Up.eff rfl (Wt.no rfl) rfl (EV.storeB (B := S.t_A8_int.enc v12 (hf [])) 1 Try.TF3 rfl rfl rfl rfl rfl (by rw [S.t_A8_int.len]; show _ ≤ 8; omega) ((wr_A8_int_i a1 (max v7 a2.N) _ hn14).trans (by rw [he16]))) ?_ ?_
    · rintro _ _ _ ⟨rfl, rfl, rfl⟩; exact St.of' (by decide) (L' := [0, 2, 3]) rfl (fun _ h => h)
    rintro _ _ _ ⟨rfl, rfl, rfl⟩
    refine RD.done (by kernel_rfl) ?_
    refine QC.then_n ?_
    refine CW.reg ?_
    refine RO.val (Wt.no rfl) rfl (PV.loadM (l := S.t_A8_int.enc v12 (hf [])) 1 Try.TF37 rfl rfl (cut_self (S.t_A8_int.len _ _)) rfl (by decide)) ?_
    refine RO.eff (Wt.no rfl) rfl (EV.storeW (B := S.t_A8_int.enc v12 (hf [])) 3 Try.TF37 rfl rfl rfl (by exact S.t_A8_int.len v12 (hf [])) (by exact S.t_A8_int.one v12 (hf [])) (S.t_A8_int.len (Vector.replicate 8 (0 : Int)) (hf [])) rfl) ?_
    rintro _ _ _ ⟨rfl, rfl, rfl⟩
    refine RO.nil ?_
    refine CW.ret ?_
    obtain rfl := Option.some.inj h
    exact retP1 (Ψ := Φ) [0] (by decide) rfl (RV.cell (A := S.t_A8_int.enc v12 (hf [])) 3 rfl Try.TF37 rfl (S.t_A8_int.len _ _) (by decide)) rfl (fun w hΦ => hΦ.1) ⟨(), rfl, rfl, rfl⟩
  · replace h := iteF hb6 h
    subst hb6
    refine CW.skip ?_
    refine QC.then_n ?_
    refine CW.reg ?_
    refine RO.val (Wt.no rfl) rfl (PV.loadM (l := S.t_A8_int.enc a1 (hf [])) 1 Try.TF37 rfl rfl (cut_self (S.t_A8_int.len _ _)) rfl (by decide)) ?_
    refine RO.eff (Wt.no rfl) rfl (EV.storeW (B := S.t_A8_int.enc a1 (hf [])) 3 Try.TF37 rfl rfl rfl (by exact S.t_A8_int.len a1 (hf [])) (by exact S.t_A8_int.one a1 (hf [])) (S.t_A8_int.len (Vector.replicate 8 (0 : Int)) (hf [])) rfl) ?_
    rintro _ _ _ ⟨rfl, rfl, rfl⟩
    refine RO.nil ?_
    refine CW.ret ?_
    obtain rfl := Option.some.inj h
    exact retP1 (Ψ := Φ) [0] (by decide) rfl (RV.cell (A := S.t_A8_int.enc a1 (hf [])) 3 rfl Try.TF37 rfl (S.t_A8_int.len _ _) (by decide)) rfl (fun w hΦ => hΦ.1) ⟨(), rfl, rfl, rfl⟩

theorem W_ref7_put {D : Mem} {Φ : World → Prop} (a1 : List S.Val) (a2 : S.Val) (b1_0 : Hd) {r : (List S.Val)} (h : S.ref7_put a1 a2 = some r) (hR : ∀ w, MemOk D w → Φ w → (slR S.t_Val w a1 b1_0)) :
    SpecK Try.prog 51 [.slice b1_0.a a1.length b1_0.cap, .agg (S.t_Val.enc a2 (hf [])).toArray] D [] Φ (fun x : Hd => .slice x.a r.length x.cap) (fun x => []) (fun x => []) (fun x w => Φ w ∧ (slR S.t_Val w r x)) := by
  refine enterK Try.func51 rfl Try.ntmps51 rfl ?_
  unfold S.ref7_put at h
  refine CW.reg ?_
  refine RO.eff (Wt.no rfl) rfl (EV.boxB (B := S.t_Val.enc a2 (hf [])) rfl rfl) ?_
  rintro _ _ _ ⟨g1, rfl, rfl, rfl⟩
  refine RO.val (Wt.no rfl) rfl (PV.assign rfl) ?_
  refine RO.nil ?_
  refine CW.reg ?_
  refine RO.val (Wt.no rfl) rfl (PV.assign rfl) ?_
  refine RO.nil ?_
  replace h := bindS h
  obtain ⟨e28, h, hk27⟩ := h
  refine CW.meet (X := Int) (fun x => [(0, .slice b1_0.a a1.length b1_0.cap), (3, .pointer (some ⟨g1, 0, none⟩)), (4, .slice Hd.z.a 0 Hd.z.cap), (5, .int .i64 x)]) (fun x => [frame D, .blk g1 (S.t_Val.enc a2 (hf []))]) (fun x w => (Φ w ∧ True)) (fun x => S.ref7_put_j2 a1 a2 x = some r) ?_ ?_
  · skip
    refine CW.block ?_
    refine CW.loopE (X := Nat × Int) (fun x => [(0, .slice b1_0.a a1.length b1_0.cap), (3, .pointer (some ⟨g1, 0, none⟩)), (4, .slice Hd.z.a 0 Hd.z.cap), (5, .int .i64 x.2)]) (fun x => [frame D, .blk g1 (S.t_Val.enc a2 (hf []))]) (fun x w => (Φ w ∧ True)) (fun x => loopN (S.ref7_put_l4 a1 a2) x.1 x.2 = some e28) (fun x => x.1) (FUEL, 0) h (by exact ⟨rfl, rfl, rfl, rfl, trivial⟩) rfl (fun w hΦ => hΦ) ?_
    rintro ⟨n36', v33⟩ hI34
    try dsimp only at hI34 ⊢
    obtain ⟨n36, y35, rfl, h, hk37⟩ := loopN_some hI34
    unfold S.ref7_put_l4 at h
    try dsimp only at h
    refine CW.seq ?_
    by_cases hb38 : (decide (v33 < (a1.length : Int))) = true
    · replace h := iteT hb38 h
      replace h := bindS h
      obtain ⟨v39, hx40, h⟩ := h
      replace h := bindS h
      obtain ⟨v41, hx42, h⟩ := h
      refine CW.regD (pickM [0, 1] _) _ (by kernel_rfl) (St.of (by decide) rfl (fun _ h => h)) ?_
      refine RD.take 0 rfl (by kernel_rfl) (by kernel_rfl) (by kernel_rfl) (Wt.no rfl) rfl (PV.move rfl) ?_
      refine RD.take 1 rfl (by kernel_rfl) (by kernel_rfl) (by kernel_rfl) (Wt.no rfl) rfl (PV.move rfl) ?_
      refine RD.take 2 rfl (by kernel_rfl) (by kernel_rfl) (by kernel_rfl) (Wt.no rfl) rfl (PV.lenS Try.underlying38 rfl) ?_
      refine RD.take 3 rfl (by kernel_rfl) (by kernel_rfl) (by kernel_rfl) (Wt.no rfl) rfl (PV.lss rfl rfl) ?_
      refine RD.take 4 rfl (by kernel_rfl) (by kernel_rfl) (by kernel_rfl) (Wt.no rfl) rfl ((PV.move rfl).to (congrArg Value.bool hb38)) ?_
      refine RD.take 5 rfl (by kernel_rfl) (by kernel_rfl) (by kernel_rfl) (Wt.yes rfl rfl rfl rfl) rfl (PV.move rfl) ?_
      refine RD.take 6 rfl (by kernel_rfl) (by kernel_rfl) (by kernel_rfl) (Wt.yes rfl rfl rfl rfl) rfl (PV.move rfl) ?_
      refine RD.take 7 rfl (by kernel_rfl) (by kernel_rfl) (by kernel_rfl) (Wt.yes rfl rfl rfl rfl) rfl (PV.idxQ (t := S.t_Val) (l := a1) (q := b1_0) Try.underlying38 Try.sizeOf80 (fun w hm hΦ => (hR w (hm.frameAt (i := 0) rfl) (hΦ.1))) rfl rfl hx40) ?_
      refine RD.take 8 rfl (by kernel_rfl) (by kernel_rfl) (by kernel_rfl) (Wt.yes rfl rfl rfl rfl) rfl (PV.fieldAddr Try.fa80_0 rfl) ?_
      refine RD.take 9 rfl (by kernel_rfl) (by kernel_rfl) (by kernel_rfl) (Wt.yes rfl rfl rfl rfl) rfl (PV.loadQ (off := 0 + 0) (cs := S.t_Dot.enc v39.Dot (hf [])) (t := S.t_Val) (l := a1) (q := b1_0) Try.TF45 (fun w hm hΦ => (hR w (hm.frameAt (i := 0) rfl) (hΦ.1))) hx40 rfl rfl rfl (cut_Val_Dot _ _) rfl (by decide)) ?_
      refine RD.take 10 rfl (by kernel_rfl) (by kernel_rfl) (by kernel_rfl) (Wt.yes rfl rfl rfl rfl) rfl (PV.fieldAddr Try.fa80_0 rfl) ?_
      refine RD.take 11 rfl (by kernel_rfl) (by kernel_rfl) (by kernel_rfl) (Wt.yes rfl rfl rfl rfl) rfl (PV.loadM (l := S.t_Dot.enc a2.Dot (hf [])) 1 Try.TF45 rfl rfl (cut_Val_Dot _ _) rfl (by decide)) ?_
      refine RD.one 12 (by kernel_rfl) ?_
      refine Up.eff rfl (Wt.yes rfl rfl rfl rfl) rfl (EV.call (K := _) Try.call69 rfl (SpecK.callV (W_ref7_CompareDot v39.Dot a2.Dot hx42))) ?_ ?_
      · rintro _ _ _ ⟨_, rfl, rfl, rfl⟩; exact St.of' (by decide) (L' := [0, 1]) rfl (fun _ h => h)
      rintro _ _ _ ⟨_, rfl, rfl, rfl⟩
      refine RD.take 13 rfl (by kernel_rfl) (by kernel_rfl) (by kernel_rfl) (Wt.yes rfl rfl rfl rfl) rfl (PV.lss rfl rfl) ?_
      refine RD.take 14 rfl (by kernel_rfl) (by kernel_rfl) (by kernel_rfl) (Wt.no rfl) rfl (PV.pickT rfl rfl) ?_
      refine RD.done (by kernel_rfl) ?_
      refine CW.cond rfl (fun hb43 => ?_) (fun hb43 => ?_)
      · replace h := iteT hb43 h
        refine CW.skip ?_
        refine QC.then_n ?_
        refine CW.block ?_
        refine CW.region ?_
        refine RO.val (Wt.no rfl) rfl (PV.move rfl) ?_
        refine RO.val (Wt.no rfl) rfl (PV.addW rfl rfl) ?_
        refine RO.val (Wt.no rfl) rfl (PV.assign rfl) ?_
        refine RO.nil ?_
        refine QC.blk_n ?_
        obtain rfl := Option.some.inj h
        refine QC.roundP (n36, (w64 (v33 + 1))) (nextL_inl hk37) (by exact Nat.lt_succ_self _) [0, 1] (by decide) (by exact ⟨rfl, rfl, rfl, rfl, trivial⟩) rfl (fun w hΦ => hΦ)
      · replace h := iteF hb43 h
        refine CW.exit ?_
        refine QC.then_x ?_
        refine QC.then_x ?_
        refine QC.blk_x ?_
        obtain rfl := Option.some.inj h
        obtain rfl := nextL_inr hk37
        refine QC.meetP v33 hk27 [0, 1] (by decide) (by exact ⟨rfl, rfl, rfl, rfl, trivial⟩) rfl (fun w hΦ => hΦ)
    · replace hb38 := Bool.eq_false_iff.2 hb38
      replace h := iteF hb38 h
      refine CW.regD (pickM [0, 1] _) _ (by kernel_rfl) (St.of (by decide) rfl (fun _ h => h)) ?_
      refine RD.take 0 rfl (by kernel_rfl) (by kernel_rfl) (by kernel_rfl) (Wt.no rfl) rfl (PV.move rfl) ?_
      refine RD.take 1 rfl (by kernel_rfl) (by kernel_rfl) (by kernel_rfl) (Wt.no rfl) rfl (PV.move rfl) ?_
      refine RD.take 2 rfl (by kernel_rfl) (by kernel_rfl) (by kernel_rfl) (Wt.no rfl) rfl (PV.lenS Try.underlying38 rfl) ?_
      refine RD.take 3 rfl (by kernel_rfl) (by kernel_rfl) (by kernel_rfl) (Wt.no rfl) rfl (PV.lss rfl rfl) ?_
      refine RD.take 4 rfl (by kernel_rfl) (by kernel_rfl) (by kernel_rfl) (Wt.no rfl) rfl ((PV.move rfl).to (congrArg Value.bool hb38)) ?_
      refine RD.takeNo 5 rfl (by kernel_rfl) (by kernel_rfl) (by kernel_rfl) (Un.mk rfl rfl rfl rfl) rfl ?_
      refine RD.takeNo 6 rfl (by kernel_rfl) (by kernel_rfl) (by kernel_rfl) (Un.mk rfl rfl rfl rfl) rfl ?_
      refine RD.takeNo 7 rfl (by kernel_rfl) (by kernel_rfl) (by kernel_rfl) (Un.mk rfl rfl rfl rfl) rfl ?_
      refine RD.takeNo 8 rfl (by kernel_rfl) (by kernel_rfl) (by kernel_rfl) (Un.mk rfl rfl rfl rfl) rfl ?_
      refine RD.takeNo 9 rfl (by kernel_rfl) (by kernel_rfl) (by kernel_rfl) (Un.mk rfl rfl rfl rfl) rfl ?_
      refine RD.takeNo 10 rfl (by kernel_rfl) (by kernel_rfl) (by kernel_rfl) (Un.mk rfl rfl rfl rfl) rfl ?_
      refine RD.takeNo 11 rfl (by kernel_rfl) (by kernel_rfl) (by kernel_rfl) (Un.mk rfl rfl rfl rfl) rfl ?_
      refine RD.takeNo 12 rfl (by kernel_rfl) (by kernel_rfl) (by kernel_rfl) (Un.mk rfl rfl rfl rfl) rfl ?_
      refine RD.takeNo 13 rfl (by kernel_rfl) (by kernel_rfl) (by kernel_rfl) (Un.mk rfl rfl rfl rfl) rfl ?_
      refine RD.take 14 rfl (by kernel_rfl) (by kernel_rfl) (by kernel_rfl) (Wt.no rfl) rfl (PV.pickF rfl rfl) ?_
      refine RD.done (by kernel_rfl) ?_
      refine CW.condF rfl ?_
      refine CW.exit ?_
      refine QC.then_x ?_
      refine QC.then_x ?_
      refine QC.blk_x ?_
      obtain rfl := Option.some.inj h
      obtain rfl := nextL_inr hk37
      refine QC.meetP v33 hk27 [0, 1] (by decide) (by exact ⟨rfl, rfl, rfl, rfl, trivial⟩) rfl (fun w hΦ => hΦ)
  · rintro v3 h
    try dsimp only at h ⊢
    unfold S.ref7_put_j2 at h
    replace h := bindS h
    obtain ⟨e9, h, hk8⟩ := h
    refine CW.meet (X := (List S.Val) × Hd) (fun x => [(4, .slice x.2.a x.1.length x.2.cap)]) (fun x => [frame D, .blk g1 (S.t_Val.enc a2 (hf [])), rowE S.t_Val 80 x.1 x.2]) (fun x w => (Φ w ∧ True)) (fun x => S.ref7_put_j3 x.1 = some r) ?_ ?_
    · skip
      replace h := bindS h
      obtain ⟨v10, hx11, h⟩ := h
      replace h := bindS h
      obtain ⟨v12, hx13, h⟩ := h
      replace h := bindS h
      obtain ⟨v17, hx18, h⟩ := h
      replace h := bindS h
      obtain ⟨v21, hx22, h⟩ := h
      replace h := bindS h
      obtain ⟨v23, hx24, h⟩ := h
      refine CW.regionD (pickM [0, 1] _) _ (by kernel_rfl) (St.of (by decide) rfl (fun _ h => h)) ?_
      refine RD.take 0 rfl (by kernel_rfl) (by kernel_rfl) (by kernel_rfl) (Wt.no rfl) rfl (PV.move rfl) ?_
      refine RD.take 1 rfl (by kernel_rfl) (by kernel_rfl) (by kernel_rfl) (Wt.no rfl) rfl (PV.move rfl) ?_
      refine RD.take 2 rfl (by kernel_rfl) (by kernel_rfl) (by kernel_rfl) (Wt.no rfl) rfl (PV.sliceQ_nh (t := S.t_Val) (l := a1) (l' := v10) (q := b1_0) Try.underlying38 Try.sizeOf80 (fun w hm hΦ => (hR w (hm.frameAt (i := 0) rfl) (hΦ.1))) rfl rfl hx11) ?_
      refine RD.take 4 rfl (by kernel_rfl) (by kernel_rfl) (by kernel_rfl) (Wt.no rfl) rfl (PV.loadM (l := S.t_Val.enc a2 (hf [])) 1 Try.TF80 rfl rfl (cut_self (S.t_Val.len _ _)) rfl (by decide)) ?_
      refine RD.take 7 rfl (by kernel_rfl) (by kernel_rfl) (by kernel_rfl) (Wt.no rfl) rfl (PV.move rfl) ?_
      refine RD.take 8 rfl (by kernel_rfl) (by kernel_rfl) (by kernel_rfl) (Wt.no rfl) rfl (PV.move rfl) ?_
      refine RD.take 9 rfl (by kernel_rfl) (by kernel_rfl) (by kernel_rfl) (Wt.no rfl) rfl (PV.sliceQ_ln (t := S.t_Val) (l := a1) (l' := v21) (q := b1_0) Try.underlying38 Try.sizeOf80 (fun w hm hΦ => (hR w (hm.frameAt (i := 0) rfl) (hΦ.1))) rfl rfl hx22) ?_
      refine RD.two 3 5 (by kernel_rfl) ?_ ?_
      · skip
        refine Up.row 80 3 ?_
        refine Up.eff rfl (Wt.no rfl) rfl (EV.appQL (bytes := 32) (t := S.t_Val) (l := []) (l2 := v10) (q := Hd.z) (q2 := b1_0) 2 Try.underlying38 Try.sizeOf80 Try.inf80 rfl rfl rfl rfl (by decide) rfl rfl rfl (fun w hm hΦ => (slR.sub0 (hR w (hm.frameAt (i := 0) rfl) (hΦ.1)) hx11)) hx13 (by decide)) ?_ ?_
        · rintro _ _ _ ⟨a14, c15, rfl, rfl, rfl⟩; exact St.of' (by decide) (L' := [0, 1]) rfl (fun _ h => h)
        rintro _ _ _ ⟨a14, c15, rfl, rfl, rfl⟩
        refine RD.one 5 (by kernel_rfl) ?_
        refine Up.eff rfl (Wt.no rfl) rfl (EV.buildSlice (xs := [.tmp 27]) rfl Try.underlying38 Try.sizeOf80 Try.zeroValue80 rfl rfl rfl rfl) ?_ ?_
        · rintro _ _ _ ⟨g16, rfl, rfl, rfl⟩; exact St.of' (by decide) (L' := [0, 1]) rfl (fun _ h => h)
        rintro _ _ _ ⟨g16, rfl, rfl, rfl⟩
        refine RD.one 6 (by kernel_rfl) ?_
        refine Up.eff rfl (Wt.no rfl) rfl (EV.appQ (bytes := 32) (t := S.t_Val) (l := v12) (q := (Hd.mk a14 c15 (appS [].length Hd.z.sub b1_0.sub))) (y := a2) (hy := hf []) 2 3 Try.underlying38 Try.inf80 rfl rfl rfl rfl (by decide) rfl rfl rfl rfl hx18 (by decide)) ?_ ?_
        · rintro _ _ _ ⟨a19, c20, rfl, rfl, rfl⟩; exact St.of' (by decide) (L' := [0, 1]) rfl (fun _ h => h)
        rintro _ _ _ ⟨a19, c20, rfl, rfl, rfl⟩
        refine RD.one 10 (by kernel_rfl) ?_
        refine Up.eff rfl (Wt.no rfl) rfl (EV.appQL (bytes := 32) (t := S.t_Val) (l := v17) (l2 := v21) (q := (Hd.mk a19 c20 (snocS v12.length (Hd.mk a14 c15 (appS [].length Hd.z.sub b1_0.sub)).sub (hf [])))) (q2 := (subQ 3 v3.toNat b1_0)) 2 Try.underlying38 Try.sizeOf80 Try.inf80 rfl rfl rfl rfl (by decide) rfl rfl rfl (fun w hm hΦ => (slR.sub (hR w (hm.frameAt (i := 0) rfl) (hΦ.1)) hx22)) hx24 (by decide)) ?_ ?_
        · rintro _ _ _ ⟨a25, c26, rfl, rfl, rfl⟩; exact St.of' (by decide) (L' := [0, 1]) rfl (fun _ h => h)
        rintro _ _ _ ⟨a25, c26, rfl, rfl, rfl⟩
        refine RD.take 11 rfl (by kernel_rfl) (by kernel_rfl) (by kernel_rfl) (Wt.no rfl) rfl (PV.assign rfl) ?_
        refine RD.done (by kernel_rfl) ?_
        obtain rfl := Option.some.inj h
        refine QC.meetP (v23, (Hd.mk a25 c26 (appS v17.length (Hd.mk a19 c20 (snocS v12.length (Hd.mk a14 c15 (appS [].length Hd.z.sub b1_0.sub)).sub (hf []))).sub (subQ 3 v3.toNat b1_0).sub))) hk8 [0, 1, 2] (by decide) (by exact ⟨rfl, trivial⟩) rfl (fun w hΦ => hΦ)
      · skip
        refine Up.eff rfl (Wt.no rfl) rfl (EV.buildSlice (xs := [.tmp 27]) rfl Try.underlying38 Try.sizeOf80 Try.zeroValue80 rfl rfl rfl rfl) ?_ ?_
        · rintro _ _ _ ⟨g16, rfl, rfl, rfl⟩; exact St.of' (by decide) (L' := [0, 1]) rfl (fun _ h => h)
        rintro _ _ _ ⟨g16, rfl, rfl, rfl⟩
        refine RD.one 3 (by kernel_rfl) ?_
        refine Up.row 80 3 ?_
        refine Up.eff rfl (Wt.no rfl) rfl (EV.appQL (bytes := 32) (t := S.t_Val) (l := []) (l2 := v10) (q := Hd.z) (q2 := b1_0) 3 Try.underlying38 Try.sizeOf80 Try.inf80 rfl rfl rfl rfl (by decide) rfl rfl rfl (fun w hm hΦ => (slR.sub0 (hR w (hm.frameAt (i := 0) rfl) (hΦ.1)) hx11)) hx13 (by decide)) ?_ ?_
        · rintro _ _ _ ⟨a14, c15, rfl, rfl, rfl⟩; exact St.of' (by decide) (L' := [0, 1]) rfl (fun _ h => h)
        rintro _ _ _ ⟨a14, c15, rfl, rfl, rfl⟩
        refine RD.one 6 (by kernel_rfl) ?_
        refine Up.eff rfl (Wt.no rfl) rfl (EV.appQ (bytes := 32) (t := S.t_Val) (l := v12) (q := (Hd.mk a14 c15 (appS [].length Hd.z.sub b1_0.sub))) (y := a2) (hy := hf []) 3 2 Try.underlying38 Try.inf80 rfl rfl rfl rfl (by decide) rfl rfl rfl rfl hx18 (by decide)) ?_ ?_
        · rintro _ _ _ ⟨a19, c20, rfl, rfl, rfl⟩; exact St.of' (by decide) (L' := [0, 1]) rfl (fun _ h => h)
        rintro _ _ _ ⟨a19, c20, rfl, rfl, rfl⟩
        refine RD.one 10 (by kernel_rfl) ?_
        refine Up.eff rfl (Wt.no rfl) rfl (EV.appQL (bytes := 32) (t := S.t_Val) (l := v17) (l2 := v21) (q := (Hd.mk a19 c20 (snocS v12.length (Hd.mk a14 c15 (appS [].length Hd.z.sub b1_0.sub)).sub (hf [])))) (q2 := (subQ 3 v3.toNat b1_0)) 3 Try.underlying38 Try.sizeOf80 Try.inf80 rfl rfl rfl rfl (by decide) rfl rfl rfl (fun w hm hΦ => (slR.sub (hR w (hm.frameAt (i := 0) rfl) (hΦ.1)) hx22)) hx24 (by decide)) ?_ ?_
        · rintro _ _ _ ⟨a25, c26, rfl, rfl, rfl⟩; exact St.of' (by decide) (L' := [0, 1]) rfl (fun _ h => h)
        rintro _ _ _ ⟨a25, c26, rfl, rfl, rfl⟩
        refine RD.take 11 rfl (by kernel_rfl) (by kernel_rfl) (by kernel_rfl) (Wt.no rfl) rfl (PV.assign rfl) ?_
        refine RD.done (by kernel_rfl) ?_
        obtain rfl := Option.some.inj h
        refine QC.meetP (v23, (Hd.mk a25 c26 (appS v17.length (Hd.mk a19 c20 (snocS v12.length (Hd.mk a14 c15 (appS [].length Hd.z.sub b1_0.sub)).sub (hf []))).sub (subQ 3 v3.toNat b1_0).sub))) hk8 [0, 1, 3] (by decide) (by exact ⟨rfl, trivial⟩) rfl (fun w hΦ => hΦ)
    · rintro ⟨v5, q6⟩ h
      try dsimp only at h ⊢
      unfold S.ref7_put_j3 at h
      refine CW.ret ?_
      refine QC.freeze (t := S.t_Val) 2 rfl (fun w hΦ => (fun _ _ _ => trivial)) ?_
      obtain rfl := Option.some.inj h
      exact retP1 (Ψ := fun w => Φ w ∧ (slR S.t_Val w v5 q6)) [0] (by decide) rfl (RV.tmp rfl) rfl (fun w hΦ => ⟨hΦ.1.1, (hΦ.2)⟩) ⟨q6, rfl, rfl, rfl⟩

theorem W_ref7_PutBag {D : Mem} {Φ : World → Prop} (a1 : S.Bag) (a2 : Vector Int 8) (a3 : S.Dot) (a4 : ByteArray) (b1_0 : Hd) {r : S.Bag × Int} (h : S.ref7_PutBag a1 a2 a3 a4 = some r) (hR : ∀ w, MemOk D w → Φ w → (slR S.t_Val w a1.Values b1_0)) :
    SpecK Try.prog 13 [.agg (S.t_Bag.enc a1 (hf [b1_0])).toArray, .agg (S.t_A8_int.enc a2 (hf [])).toArray, .agg (S.t_Dot.enc a3 (hf [])).toArray, .string a4] D [] Φ (fun x : Hd => .tuple #[.agg (S.t_Bag.enc r.1 (hf [x])).toArray, .int .i64 r.2]) (fun x => []) (fun x => []) (fun x w => Φ w ∧ (slR S.t_Val w r.1.Values x)) := by
  refine enterK Try.func13 rfl Try.ntmps13 rfl ?_
  unfold S.ref7_PutBag at h
  refine CW.reg ?_
  refine RO.eff (Wt.no rfl) rfl (EV.boxB (B := S.t_Bag.enc a1 (hf [b1_0])) rfl rfl) ?_
  rintro _ _ _ ⟨g1, rfl, rfl, rfl⟩
  refine RO.eff (Wt.no rfl) rfl (EV.boxB (B := S.t_A8_int.enc a2 (hf [])) rfl rfl) ?_
  rintro _ _ _ ⟨g2, rfl, rfl, rfl⟩
  refine RO.eff (Wt.no rfl) rfl (EV.boxB (B := S.t_Dot.enc a3 (hf [])) rfl rfl) ?_
  rintro _ _ _ ⟨g3, rfl, rfl, rfl⟩
  refine RO.eff (Wt.no rfl) rfl (EV.allocB (B := S.t_Bag.enc S.Bag.z (hf [Hd.z])) Try.zeroValue40 rfl) ?_
  rintro _ _ _ ⟨g4, rfl, rfl, rfl⟩
  refine RO.val (Wt.no rfl) rfl (PV.assign rfl) ?_
  refine RO.nil ?_
  refine CW.seq ?_
  replace h := bindS h
  obtain ⟨e53, h, hk52⟩ := h
  refine CW.meet (X := Bool) (fun x => [(3, .string a4), (4, .pointer (some ⟨g1, 0, none⟩)), (5, .pointer (some ⟨g2, 0, none⟩)), (6, .pointer (some ⟨g3, 0, none⟩)), (8, .pointer (some ⟨g4, 0, none⟩)), (9, .int .i64 0), (47, .bool x)]) (fun x => [frame D, .blk g1 (S.t_Bag.enc a1 (hf [b1_0])), .blk g2 (S.t_A8_int.enc a2 (hf [])), .blk g3 (S.t_Dot.enc a3 (hf [])), .blk g4 (S.t_Bag.enc S.Bag.z (hf [Hd.z]))]) (fun x w => (Φ w ∧ True)) (fun x => S.ref7_PutBag_j2 a1 a2 a3 a4 x = some r) ?_ ?_
  · skip
    replace h := bindS h
    obtain ⟨v54, hx55, h⟩ := h
    by_cases hb56 : (!v54) = true
    · replace h := iteT hb56 h
      refine CW.region ?_
      refine RO.val (Wt.no rfl) rfl (PV.loadM (l := S.t_Bag.enc a1 (hf [b1_0])) 1 Try.TF40 rfl rfl (cut_self (S.t_Bag.len _ _)) rfl (by decide)) ?_
      refine RO.eff (Wt.no rfl) rfl (EV.call (K := _) Try.call46 rfl (SpecK.callV (W_ref7_MayBag a1 b1_0 hx55 (fun w hm hΦ => (hR w (hm.frameAt (i := 0) rfl) (hΦ.1)))))) ?_
      rintro _ _ _ ⟨_, rfl, rfl, rfl⟩
      refine RO.val (Wt.no rfl) rfl (PV.not rfl) ?_
      refine RO.val (Wt.no rfl) rfl ((PV.move rfl).to (congrArg Value.bool hb56)) ?_
      refine RO.skip (Un.mk rfl rfl rfl rfl) rfl ?_
      refine RO.skip (Un.mk rfl rfl rfl rfl) rfl ?_
      refine RO.skip (Un.mk rfl rfl rfl rfl) rfl ?_
      refine RO.val (Wt.no rfl) rfl (PV.pickT rfl rfl) ?_
      refine RO.val (Wt.no rfl) rfl (PV.move rfl) ?_
      refine RO.skip (Un.mk rfl rfl rfl rfl) rfl ?_
      refine RO.skip (Un.mk rfl rfl rfl rfl) rfl ?_
      refine RO.skip (Un.mk rfl rfl rfl rfl) rfl ?_
      refine RO.skip (Un.mk rfl rfl rfl rfl) rfl ?_
      refine RO.val (Wt.no rfl) rfl (PV.pickT rfl rfl) ?_
      refine RO.val (Wt.no rfl) rfl (PV.move rfl) ?_
      refine RO.skip (Un.mk rfl rfl rfl rfl) rfl ?_
      refine RO.skip (Un.mk rfl rfl rfl rfl) rfl ?_
      refine RO.skip (Un.mk rfl rfl rfl rfl) rfl ?_
      refine RO.val (Wt.no rfl) rfl (PV.pickT rfl rfl) ?_
      refine RO.val (Wt.no rfl) rfl (PV.move rfl) ?_
      refine RO.skip (Un.mk rfl rfl rfl rfl) rfl ?_
      refine RO.skip (Un.mk rfl rfl rfl rfl) rfl ?_
      refine RO.skip (Un.mk rfl rfl rfl rfl) rfl ?_
      refine RO.val (Wt.no rfl) rfl (PV.pickT rfl rfl) ?_
      refine RO.val (Wt.no rfl) rfl (PV.move rfl) ?_
      refine RO.skip (Un.mk rfl rfl rfl rfl) rfl ?_
      refine RO.skip (Un.mk rfl rfl rfl rfl) rfl ?_
      refine RO.skip (Un.mk rfl rfl rfl rfl) rfl ?_
      refine RO.skip (Un.mk rfl rfl rfl rfl) rfl ?_
      refine RO.val (Wt.no rfl) rfl (PV.pickT rfl rfl) ?_
      refine RO.val (Wt.no rfl) rfl (PV.move rfl) ?_
      refine RO.skip (Un.mk rfl rfl rfl rfl) rfl ?_
      refine RO.skip (Un.mk rfl rfl rfl rfl) rfl ?_
      refine RO.skip (Un.mk rfl rfl rfl rfl) rfl ?_
      refine RO.val (Wt.no rfl) rfl (PV.pickT rfl rfl) ?_
      refine RO.nil ?_
      obtain rfl := Option.some.inj h
      refine QC.meetP true hk52 [0, 1, 2, 3, 4] (by decide) (by exact ⟨rfl, rfl, rfl, rfl, rfl, rfl, rfl, trivial⟩) rfl (fun w hΦ => hΦ)
    · replace hb56 := Bool.eq_false_iff.2 hb56
      replace h := iteF hb56 h
      replace h := bindS h
      obtain ⟨v57, hx58, h⟩ := h
      by_cases hb59 : (!v57) = true
      · replace h := iteT hb59 h
        refine CW.region ?_
        refine RO.val (Wt.no rfl) rfl (PV.loadM (l := S.t_Bag.enc a1 (hf [b1_0])) 1 Try.TF40 rfl rfl (cut_self (S.t_Bag.len _ _)) rfl (by decide)) ?_
        refine RO.eff (Wt.no rfl) rfl (EV.call (K := _) Try.call46 rfl (SpecK.callV (W_ref7_MayBag a1 b1_0 hx55 (fun w hm hΦ => (hR w (hm.frameAt (i := 0) rfl) (hΦ.1)))))) ?_
        rintro _ _ _ ⟨_, rfl, rfl, rfl⟩
        refine RO.val (Wt.no rfl) rfl (PV.not rfl) ?_
        refine RO.val (Wt.no rfl) rfl ((PV.move rfl).to (congrArg Value.bool hb56)) ?_
        refine RO.val (Wt.yes rfl rfl rfl rfl) rfl (PV.loadM (l := S.t_A8_int.enc a2 (hf [])) 2 Try.TF37 rfl rfl (cut_self (S.t_A8_int.len _ _)) rfl (by decide)) ?_
        refine RO.eff (Wt.yes rfl rfl rfl rfl) rfl (EV.call (K := _) Try.call47 rfl (SpecK.callV (W_ref7_MayVector a2 hx58))) ?_
        rintro _ _ _ ⟨_, rfl, rfl, rfl⟩
        refine RO.val (Wt.yes rfl rfl rfl rfl) rfl (PV.not rfl) ?_
        refine RO.val (Wt.no rfl) rfl (PV.pickF rfl rfl) ?_
        refine RO.val (Wt.no rfl) rfl ((PV.move rfl).to (congrArg Value.bool hb59)) ?_
        refine RO.skip (Un.mk rfl rfl rfl rfl) rfl ?_
        refine RO.skip (Un.mk rfl rfl rfl rfl) rfl ?_
        refine RO.skip (Un.mk rfl rfl rfl rfl) rfl ?_
        refine RO.skip (Un.mk rfl rfl rfl rfl) rfl ?_
        refine RO.val (Wt.no rfl) rfl (PV.pickT rfl rfl) ?_
        refine RO.val (Wt.no rfl) rfl (PV.move rfl) ?_
        refine RO.skip (Un.mk rfl rfl rfl rfl) rfl ?_
        refine RO.skip (Un.mk rfl rfl rfl rfl) rfl ?_
        refine RO.skip (Un.mk rfl rfl rfl rfl) rfl ?_
        refine RO.val (Wt.no rfl) rfl (PV.pickT rfl rfl) ?_
        refine RO.val (Wt.no rfl) rfl (PV.move rfl) ?_
        refine RO.skip (Un.mk rfl rfl rfl rfl) rfl ?_
        refine RO.skip (Un.mk rfl rfl rfl rfl) rfl ?_
        refine RO.skip (Un.mk rfl rfl rfl rfl) rfl ?_
        refine RO.val (Wt.no rfl) rfl (PV.pickT rfl rfl) ?_
        refine RO.val (Wt.no rfl) rfl (PV.move rfl) ?_
        refine RO.skip (Un.mk rfl rfl rfl rfl) rfl ?_
        refine RO.skip (Un.mk rfl rfl rfl rfl) rfl ?_
        refine RO.skip (Un.mk rfl rfl rfl rfl) rfl ?_
        refine RO.skip (Un.mk rfl rfl rfl rfl) rfl ?_
        refine RO.val (Wt.no rfl) rfl (PV.pickT rfl rfl) ?_
        refine RO.val (Wt.no rfl) rfl (PV.move rfl) ?_
        refine RO.skip (Un.mk rfl rfl rfl rfl) rfl ?_
        refine RO.skip (Un.mk rfl rfl rfl rfl) rfl ?_
        refine RO.skip (Un.mk rfl rfl rfl rfl) rfl ?_
        refine RO.val (Wt.no rfl) rfl (PV.pickT rfl rfl) ?_
        refine RO.nil ?_
        obtain rfl := Option.some.inj h
        refine QC.meetP true hk52 [0, 1, 2, 3, 4] (by decide) (by exact ⟨rfl, rfl, rfl, rfl, rfl, rfl, rfl, trivial⟩) rfl (fun w hΦ => hΦ)
      · replace hb59 := Bool.eq_false_iff.2 hb59
        replace h := iteF hb59 h
        replace h := bindS h
        obtain ⟨v60, hx61, h⟩ := h
        by_cases hb62 : (!v60) = true
        · replace h := iteT hb62 h
          refine CW.region ?_
          refine RO.val (Wt.no rfl) rfl (PV.loadM (l := S.t_Bag.enc a1 (hf [b1_0])) 1 Try.TF40 rfl rfl (cut_self (S.t_Bag.len _ _)) rfl (by decide)) ?_
          refine RO.eff (Wt.no rfl) rfl (EV.call (K := _) Try.call46 rfl (SpecK.callV (W_ref7_MayBag a1 b1_0 hx55 (fun w hm hΦ => (hR w (hm.frameAt (i := 0) rfl) (hΦ.1)))))) ?_
          rintro _ _ _ ⟨_, rfl, rfl, rfl⟩
          refine RO.val (Wt.no rfl) rfl (PV.not rfl) ?_
          refine RO.val (Wt.no rfl) rfl ((PV.move rfl).to (congrArg Value.bool hb56)) ?_
          refine RO.val (Wt.yes rfl rfl rfl rfl) rfl (PV.loadM (l := S.t_A8_int.enc a2 (hf [])) 2 Try.TF37 rfl rfl (cut_self (S.t_A8_int.len _ _)) rfl (by decide)) ?_
          refine RO.eff (Wt.yes rfl rfl rfl rfl) rfl (EV.call (K := _) Try.call47 rfl (SpecK.callV (W_ref7_MayVector a2 hx58))) ?_
          rintro _ _ _ ⟨_, rfl, rfl, rfl⟩
          refine RO.val (Wt.yes rfl rfl rfl rfl) rfl (PV.not rfl) ?_
          refine RO.val (Wt.no rfl) rfl (PV.pickF rfl rfl) ?_
          refine RO.val (Wt.no rfl) rfl ((PV.move rfl).to (congrArg Value.bool hb59)) ?_
          refine RO.val (Wt.yes rfl rfl rfl rfl) rfl (PV.fieldAddr Try.fa45_0 rfl) ?_
          refine RO.val (Wt.yes rfl rfl rfl rfl) rfl (PV.loadM (l := [.int .i64 a3.Node]) 3 Try.TF3 rfl rfl (cut_Dot_Node _ _) rfl (by decide)) ?_
          refine RO.eff (Wt.yes rfl rfl rfl rfl) rfl (EV.call (K := _) Try.call42 rfl (SpecK.callV (W_ref1_Node a3.Node hx61))) ?_
          rintro _ _ _ ⟨_, rfl, rfl, rfl⟩
          refine RO.val (Wt.yes rfl rfl rfl rfl) rfl (PV.not rfl) ?_
          refine RO.val (Wt.no rfl) rfl (PV.pickF rfl rfl) ?_
          refine RO.val (Wt.no rfl) rfl ((PV.move rfl).to (congrArg Value.bool hb62)) ?_
          refine RO.skip (Un.mk rfl rfl rfl rfl) rfl ?_
          refine RO.skip (Un.mk rfl rfl rfl rfl) rfl ?_
          refine RO.skip (Un.mk rfl rfl rfl rfl) rfl ?_
          refine RO.val (Wt.no rfl) rfl (PV.pickT rfl rfl) ?_
          refine RO.val (Wt.no rfl) rfl (PV.move rfl) ?_
          refine RO.skip (Un.mk rfl rfl rfl rfl) rfl ?_
          refine RO.skip (Un.mk rfl rfl rfl rfl) rfl ?_
          refine RO.skip (Un.mk rfl rfl rfl rfl) rfl ?_
          refine RO.val (Wt.no rfl) rfl (PV.pickT rfl rfl) ?_
          refine RO.val (Wt.no rfl) rfl (PV.move rfl) ?_
          refine RO.skip (Un.mk rfl rfl rfl rfl) rfl ?_
          refine RO.skip (Un.mk rfl rfl rfl rfl) rfl ?_
          refine RO.skip (Un.mk rfl rfl rfl rfl) rfl ?_
          refine RO.skip (Un.mk rfl rfl rfl rfl) rfl ?_
          refine RO.val (Wt.no rfl) rfl (PV.pickT rfl rfl) ?_
          refine RO.val (Wt.no rfl) rfl (PV.move rfl) ?_
          refine RO.skip (Un.mk rfl rfl rfl rfl) rfl ?_
          refine RO.skip (Un.mk rfl rfl rfl rfl) rfl ?_
          refine RO.skip (Un.mk rfl rfl rfl rfl) rfl ?_
          refine RO.val (Wt.no rfl) rfl (PV.pickT rfl rfl) ?_
          refine RO.nil ?_
          obtain rfl := Option.some.inj h
          refine QC.meetP true hk52 [0, 1, 2, 3, 4] (by decide) (by exact ⟨rfl, rfl, rfl, rfl, rfl, rfl, rfl, trivial⟩) rfl (fun w hΦ => hΦ)
        · replace hb62 := Bool.eq_false_iff.2 hb62
          replace h := iteF hb62 h
          by_cases hb63 : (decide (a3.N < 1)) = true
          · replace h := iteT hb63 h
            refine CW.region ?_
            refine RO.val (Wt.no rfl) rfl (PV.loadM (l := S.t_Bag.enc a1 (hf [b1_0])) 1 Try.TF40 rfl rfl (cut_self (S.t_Bag.len _ _)) rfl (by decide)) ?_
            refine RO.eff (Wt.no rfl) rfl (EV.call (K := _) Try.call46 rfl (SpecK.callV (W_ref7_MayBag a1 b1_0 hx55 (fun w hm hΦ => (hR w (hm.frameAt (i := 0) rfl) (hΦ.1)))))) ?_
            rintro _ _ _ ⟨_, rfl, rfl, rfl⟩
            refine RO.val (Wt.no rfl) rfl (PV.not rfl) ?_
            refine RO.val (Wt.no rfl) rfl ((PV.move rfl).to (congrArg Value.bool hb56)) ?_
            refine RO.val (Wt.yes rfl rfl rfl rfl) rfl (PV.loadM (l := S.t_A8_int.enc a2 (hf [])) 2 Try.TF37 rfl rfl (cut_self (S.t_A8_int.len _ _)) rfl (by decide)) ?_
            refine RO.eff (Wt.yes rfl rfl rfl rfl) rfl (EV.call (K := _) Try.call47 rfl (SpecK.callV (W_ref7_MayVector a2 hx58))) ?_
            rintro _ _ _ ⟨_, rfl, rfl, rfl⟩
            refine RO.val (Wt.yes rfl rfl rfl rfl) rfl (PV.not rfl) ?_
            refine RO.val (Wt.no rfl) rfl (PV.pickF rfl rfl) ?_
            refine RO.val (Wt.no rfl) rfl ((PV.move rfl).to (congrArg Value.bool hb59)) ?_
            refine RO.val (Wt.yes rfl rfl rfl rfl) rfl (PV.fieldAddr Try.fa45_0 rfl) ?_
            refine RO.val (Wt.yes rfl rfl rfl rfl) rfl (PV.loadM (l := [.int .i64 a3.Node]) 3 Try.TF3 rfl rfl (cut_Dot_Node _ _) rfl (by decide)) ?_
            refine RO.eff (Wt.yes rfl rfl rfl rfl) rfl (EV.call (K := _) Try.call42 rfl (SpecK.callV (W_ref1_Node a3.Node hx61))) ?_
            rintro _ _ _ ⟨_, rfl, rfl, rfl⟩
            refine RO.val (Wt.yes rfl rfl rfl rfl) rfl (PV.not rfl) ?_
            refine RO.val (Wt.no rfl) rfl (PV.pickF rfl rfl) ?_
            refine RO.val (Wt.no rfl) rfl ((PV.move rfl).to (congrArg Value.bool hb62)) ?_
            refine RO.val (Wt.yes rfl rfl rfl rfl) rfl (PV.fieldAddr Try.fa45_1 rfl) ?_
            refine RO.val (Wt.yes rfl rfl rfl rfl) rfl (PV.loadM (l := [.int .i64 a3.N]) 3 Try.TF3 rfl rfl (cut_Dot_N _ _) rfl (by decide)) ?_
            refine RO.val (Wt.yes rfl rfl rfl rfl) rfl (PV.lss rfl rfl) ?_
            refine RO.val (Wt.no rfl) rfl (PV.pickF rfl rfl) ?_
            refine RO.val (Wt.no rfl) rfl ((PV.move rfl).to (congrArg Value.bool hb63)) ?_
            refine RO.skip (Un.mk rfl rfl rfl rfl) rfl ?_
            refine RO.skip (Un.mk rfl rfl rfl rfl) rfl ?_
            refine RO.skip (Un.mk rfl rfl rfl rfl) rfl ?_
            refine RO.val (Wt.no rfl) rfl (PV.pickT rfl rfl) ?_
            refine RO.val (Wt.no rfl) rfl (PV.move rfl) ?_
            refine RO.skip (Un.mk rfl rfl rfl rfl) rfl ?_
            refine RO.skip (Un.mk rfl rfl rfl rfl) rfl ?_
            refine RO.skip (Un.mk rfl rfl rfl rfl) rfl ?_
            refine RO.skip (Un.mk rfl rfl rfl rfl) rfl ?_
            refine RO.val (Wt.no rfl) rfl (PV.pickT rfl rfl) ?_
            refine RO.val (Wt.no rfl) rfl (PV.move rfl) ?_
            refine RO.skip (Un.mk rfl rfl rfl rfl) rfl ?_
            refine RO.skip (Un.mk rfl rfl rfl rfl) rfl ?_
            refine RO.skip (Un.mk rfl rfl rfl rfl) rfl ?_
            refine RO.val (Wt.no rfl) rfl (PV.pickT rfl rfl) ?_
            refine RO.nil ?_
            obtain rfl := Option.some.inj h
            refine QC.meetP true hk52 [0, 1, 2, 3, 4] (by decide) (by exact ⟨rfl, rfl, rfl, rfl, rfl, rfl, rfl, trivial⟩) rfl (fun w hΦ => hΦ)
          · replace hb63 := Bool.eq_false_iff.2 hb63
            replace h := iteF hb63 h
            by_cases hb64 : (decide (1000000 < a3.N)) = true
            · replace h := iteT hb64 h
              refine CW.region ?_
              refine RO.val (Wt.no rfl) rfl (PV.loadM (l := S.t_Bag.enc a1 (hf [b1_0])) 1 Try.TF40 rfl rfl (cut_self (S.t_Bag.len _ _)) rfl (by decide)) ?_
              refine RO.eff (Wt.no rfl) rfl (EV.call (K := _) Try.call46 rfl (SpecK.callV (W_ref7_MayBag a1 b1_0 hx55 (fun w hm hΦ => (hR w (hm.frameAt (i := 0) rfl) (hΦ.1)))))) ?_
              rintro _ _ _ ⟨_, rfl, rfl, rfl⟩
              refine RO.val (Wt.no rfl) rfl (PV.not rfl) ?_
              refine RO.val (Wt.no rfl) rfl ((PV.move rfl).to (congrArg Value.bool hb56)) ?_
              refine RO.val (Wt.yes rfl rfl rfl rfl) rfl (PV.loadM (l := S.t_A8_int.enc a2 (hf [])) 2 Try.TF37 rfl rfl (cut_self (S.t_A8_int.len _ _)) rfl (by decide)) ?_
              refine RO.eff (Wt.yes rfl rfl rfl rfl) rfl (EV.call (K := _) Try.call47 rfl (SpecK.callV (W_ref7_MayVector a2 hx58))) ?_
              rintro _ _ _ ⟨_, rfl, rfl, rfl⟩
              refine RO.val (Wt.yes rfl rfl rfl rfl) rfl (PV.not rfl) ?_
              refine RO.val (Wt.no rfl) rfl (PV.pickF rfl rfl) ?_
              refine RO.val (Wt.no rfl) rfl ((PV.move rfl).to (congrArg Value.bool hb59)) ?_
              refine RO.val (Wt.yes rfl rfl rfl rfl) rfl (PV.fieldAddr Try.fa45_0 rfl) ?_
              refine RO.val (Wt.yes rfl rfl rfl rfl) rfl (PV.loadM (l := [.int .i64 a3.Node]) 3 Try.TF3 rfl rfl (cut_Dot_Node _ _) rfl (by decide)) ?_
              refine RO.eff (Wt.yes rfl rfl rfl rfl) rfl (EV.call (K := _) Try.call42 rfl (SpecK.callV (W_ref1_Node a3.Node hx61))) ?_
              rintro _ _ _ ⟨_, rfl, rfl, rfl⟩
              refine RO.val (Wt.yes rfl rfl rfl rfl) rfl (PV.not rfl) ?_
              refine RO.val (Wt.no rfl) rfl (PV.pickF rfl rfl) ?_
              refine RO.val (Wt.no rfl) rfl ((PV.move rfl).to (congrArg Value.bool hb62)) ?_
              refine RO.val (Wt.yes rfl rfl rfl rfl) rfl (PV.fieldAddr Try.fa45_1 rfl) ?_
              refine RO.val (Wt.yes rfl rfl rfl rfl) rfl (PV.loadM (l := [.int .i64 a3.N]) 3 Try.TF3 rfl rfl (cut_Dot_N _ _) rfl (by decide)) ?_
              refine RO.val (Wt.yes rfl rfl rfl rfl) rfl (PV.lss rfl rfl) ?_
              refine RO.val (Wt.no rfl) rfl (PV.pickF rfl rfl) ?_
              refine RO.val (Wt.no rfl) rfl ((PV.move rfl).to (congrArg Value.bool hb63)) ?_
              refine RO.val (Wt.yes rfl rfl rfl rfl) rfl (PV.fieldAddr Try.fa45_1 rfl) ?_
              refine RO.val (Wt.yes rfl rfl rfl rfl) rfl (PV.loadM (l := [.int .i64 a3.N]) 3 Try.TF3 rfl rfl (cut_Dot_N _ _) rfl (by decide)) ?_
              refine RO.val (Wt.yes rfl rfl rfl rfl) rfl (PV.gtr rfl rfl) ?_
              refine RO.val (Wt.no rfl) rfl (PV.pickF rfl rfl) ?_
              refine RO.val (Wt.no rfl) rfl ((PV.move rfl).to (congrArg Value.bool hb64)) ?_
              refine RO.skip (Un.mk rfl rfl rfl rfl) rfl ?_
              refine RO.skip (Un.mk rfl rfl rfl rfl) rfl ?_
              refine RO.skip (Un.mk rfl rfl rfl rfl) rfl ?_
              refine RO.skip (Un.mk rfl rfl rfl rfl) rfl ?_
              refine RO.val (Wt.no rfl) rfl (PV.pickT rfl rfl) ?_
              refine RO.val (Wt.no rfl) rfl (PV.move rfl) ?_
              refine RO.skip (Un.mk rfl rfl rfl rfl) rfl ?_
              refine RO.skip (Un.mk rfl rfl rfl rfl) rfl ?_
              refine RO.skip (Un.mk rfl rfl rfl rfl) rfl ?_
              refine RO.val (Wt.no rfl) rfl (PV.pickT rfl rfl) ?_
              refine RO.nil ?_
              obtain rfl := Option.some.inj h
              refine QC.meetP true hk52 [0, 1, 2, 3, 4] (by decide) (by exact ⟨rfl, rfl, rfl, rfl, rfl, rfl, rfl, trivial⟩) rfl (fun w hΦ => hΦ)
            · replace hb64 := Bool.eq_false_iff.2 hb64
              replace h := iteF hb64 h
              replace h := bindS h
              obtain ⟨v65, hx66, h⟩ := h
              by_cases hb67 : v65 = true
              · replace h := iteT hb67 h
                subst hb67
                refine CW.region ?_
                refine RO.val (Wt.no rfl) rfl (PV.loadM (l := S.t_Bag.enc a1 (hf [b1_0])) 1 Try.TF40 rfl rfl (cut_self (S.t_Bag.len _ _)) rfl (by decide)) ?_
                refine RO.eff (Wt.no rfl) rfl (EV.call (K := _) Try.call46 rfl (SpecK.callV (W_ref7_MayBag a1 b1_0 hx55 (fun w hm hΦ => (hR w (hm.frameAt (i := 0) rfl) (hΦ.1)))))) ?_
                rintro _ _ _ ⟨_, rfl, rfl, rfl⟩
                refine RO.val (Wt.no rfl) rfl (PV.not rfl) ?_
                refine RO.val (Wt.no rfl) rfl ((PV.move rfl).to (congrArg Value.bool hb56)) ?_
                refine RO.val (Wt.yes rfl rfl rfl rfl) rfl (PV.loadM (l := S.t_A8_int.enc a2 (hf [])) 2 Try.TF37 rfl rfl (cut_self (S.t_A8_int.len _ _)) rfl (by decide)) ?_
                refine RO.eff (Wt.yes rfl rfl rfl rfl) rfl (EV.call (K := _) Try.call47 rfl (SpecK.callV (W_ref7_MayVector a2 hx58))) ?_
                rintro _ _ _ ⟨_, rfl, rfl, rfl⟩
                refine RO.val (Wt.yes rfl rfl rfl rfl) rfl (PV.not rfl) ?_
                refine RO.val (Wt.no rfl) rfl (PV.pickF rfl rfl) ?_
                refine RO.val (Wt.no rfl) rfl ((PV.move rfl).to (congrArg Value.bool hb59)) ?_
                refine RO.val (Wt.yes rfl rfl rfl rfl) rfl (PV.fieldAddr Try.fa45_0 rfl) ?_
                refine RO.val (Wt.yes rfl rfl rfl rfl) rfl (PV.loadM (l := [.int .i64 a3.Node]) 3 Try.TF3 rfl rfl (cut_Dot_Node _ _) rfl (by decide)) ?_
                refine RO.eff (Wt.yes rfl rfl rfl rfl) rfl (EV.call (K := _) Try.call42 rfl (SpecK.callV (W_ref1_Node a3.Node hx61))) ?_
                rintro _ _ _ ⟨_, rfl, rfl, rfl⟩
                refine RO.val (Wt.yes rfl rfl rfl rfl) rfl (PV.not rfl) ?_
                refine RO.val (Wt.no rfl) rfl (PV.pickF rfl rfl) ?_
                refine RO.val (Wt.no rfl) rfl ((PV.move rfl).to (congrArg Value.bool hb62)) ?_
                refine RO.val (Wt.yes rfl rfl rfl rfl) rfl (PV.fieldAddr Try.fa45_1 rfl) ?_
                refine RO.val (Wt.yes rfl rfl rfl rfl) rfl (PV.loadM (l := [.int .i64 a3.N]) 3 Try.TF3 rfl rfl (cut_Dot_N _ _) rfl (by decide)) ?_
                refine RO.val (Wt.yes rfl rfl rfl rfl) rfl (PV.lss rfl rfl) ?_
                refine RO.val (Wt.no rfl) rfl (PV.pickF rfl rfl) ?_
                refine RO.val (Wt.no rfl) rfl ((PV.move rfl).to (congrArg Value.bool hb63)) ?_
                refine RO.val (Wt.yes rfl rfl rfl rfl) rfl (PV.fieldAddr Try.fa45_1 rfl) ?_
                refine RO.val (Wt.yes rfl rfl rfl rfl) rfl (PV.loadM (l := [.int .i64 a3.N]) 3 Try.TF3 rfl rfl (cut_Dot_N _ _) rfl (by decide)) ?_
                refine RO.val (Wt.yes rfl rfl rfl rfl) rfl (PV.gtr rfl rfl) ?_
                refine RO.val (Wt.no rfl) rfl (PV.pickF rfl rfl) ?_
                refine RO.val (Wt.no rfl) rfl ((PV.move rfl).to (congrArg Value.bool hb64)) ?_
                refine RO.val (Wt.yes rfl rfl rfl rfl) rfl (PV.fieldAddr Try.fa40_0 rfl) ?_
                refine RO.val (Wt.yes rfl rfl rfl rfl) rfl (PV.loadM (l := S.t_A8_int.enc a1.Known (hf [])) 1 Try.TF37 rfl rfl (cut_Bag_Known _ _) rfl (by decide)) ?_
                refine RO.val (Wt.yes rfl rfl rfl rfl) rfl (PV.loadM (l := S.t_Dot.enc a3 (hf [])) 3 Try.TF45 rfl rfl (cut_self (S.t_Dot.len _ _)) rfl (by decide)) ?_
                refine RO.eff (Wt.yes rfl rfl rfl rfl) rfl (EV.call (K := _) Try.call48 rfl (SpecK.callV (W_ref7_Has a1.Known a3 hx66))) ?_
                rintro _ _ _ ⟨_, rfl, rfl, rfl⟩
                refine RO.val (Wt.no rfl) rfl (PV.pickF rfl rfl) ?_
                refine RO.val (Wt.no rfl) rfl (PV.move rfl) ?_
                refine RO.skip (Un.mk rfl rfl rfl rfl) rfl ?_
                refine RO.skip (Un.mk rfl rfl rfl rfl) rfl ?_
                refine RO.skip (Un.mk rfl rfl rfl rfl) rfl ?_
                refine RO.val (Wt.no rfl) rfl (PV.pickT rfl rfl) ?_
                refine RO.nil ?_
                obtain rfl := Option.some.inj h
                refine QC.meetP true hk52 [0, 1, 2, 3, 4] (by decide) (by exact ⟨rfl, rfl, rfl, rfl, rfl, rfl, rfl, trivial⟩) rfl (fun w hΦ => hΦ)
              · replace hb67 := Bool.eq_false_iff.2 hb67
                replace h := iteF hb67 h
                subst hb67
                refine CW.region ?_
                refine RO.val (Wt.no rfl) rfl (PV.loadM (l := S.t_Bag.enc a1 (hf [b1_0])) 1 Try.TF40 rfl rfl (cut_self (S.t_Bag.len _ _)) rfl (by decide)) ?_
                refine RO.eff (Wt.no rfl) rfl (EV.call (K := _) Try.call46 rfl (SpecK.callV (W_ref7_MayBag a1 b1_0 hx55 (fun w hm hΦ => (hR w (hm.frameAt (i := 0) rfl) (hΦ.1)))))) ?_
                rintro _ _ _ ⟨_, rfl, rfl, rfl⟩
                refine RO.val (Wt.no rfl) rfl (PV.not rfl) ?_
                refine RO.val (Wt.no rfl) rfl ((PV.move rfl).to (congrArg Value.bool hb56)) ?_
                refine RO.val (Wt.yes rfl rfl rfl rfl) rfl (PV.loadM (l := S.t_A8_int.enc a2 (hf [])) 2 Try.TF37 rfl rfl (cut_self (S.t_A8_int.len _ _)) rfl (by decide)) ?_
                refine RO.eff (Wt.yes rfl rfl rfl rfl) rfl (EV.call (K := _) Try.call47 rfl (SpecK.callV (W_ref7_MayVector a2 hx58))) ?_
                rintro _ _ _ ⟨_, rfl, rfl, rfl⟩
                refine RO.val (Wt.yes rfl rfl rfl rfl) rfl (PV.not rfl) ?_
                refine RO.val (Wt.no rfl) rfl (PV.pickF rfl rfl) ?_
                refine RO.val (Wt.no rfl) rfl ((PV.move rfl).to (congrArg Value.bool hb59)) ?_
                refine RO.val (Wt.yes rfl rfl rfl rfl) rfl (PV.fieldAddr Try.fa45_0 rfl) ?_
                refine RO.val (Wt.yes rfl rfl rfl rfl) rfl (PV.loadM (l := [.int .i64 a3.Node]) 3 Try.TF3 rfl rfl (cut_Dot_Node _ _) rfl (by decide)) ?_
                refine RO.eff (Wt.yes rfl rfl rfl rfl) rfl (EV.call (K := _) Try.call42 rfl (SpecK.callV (W_ref1_Node a3.Node hx61))) ?_
                rintro _ _ _ ⟨_, rfl, rfl, rfl⟩
                refine RO.val (Wt.yes rfl rfl rfl rfl) rfl (PV.not rfl) ?_
                refine RO.val (Wt.no rfl) rfl (PV.pickF rfl rfl) ?_
                refine RO.val (Wt.no rfl) rfl ((PV.move rfl).to (congrArg Value.bool hb62)) ?_
                refine RO.val (Wt.yes rfl rfl rfl rfl) rfl (PV.fieldAddr Try.fa45_1 rfl) ?_
                refine RO.val (Wt.yes rfl rfl rfl rfl) rfl (PV.loadM (l := [.int .i64 a3.N]) 3 Try.TF3 rfl rfl (cut_Dot_N _ _) rfl (by decide)) ?_
                refine RO.val (Wt.yes rfl rfl rfl rfl) rfl (PV.lss rfl rfl) ?_
                refine RO.val (Wt.no rfl) rfl (PV.pickF rfl rfl) ?_
                refine RO.val (Wt.no rfl) rfl ((PV.move rfl).to (congrArg Value.bool hb63)) ?_
                refine RO.val (Wt.yes rfl rfl rfl rfl) rfl (PV.fieldAddr Try.fa45_1 rfl) ?_
                refine RO.val (Wt.yes rfl rfl rfl rfl) rfl (PV.loadM (l := [.int .i64 a3.N]) 3 Try.TF3 rfl rfl (cut_Dot_N _ _) rfl (by decide)) ?_
                refine RO.val (Wt.yes rfl rfl rfl rfl) rfl (PV.gtr rfl rfl) ?_
                refine RO.val (Wt.no rfl) rfl (PV.pickF rfl rfl) ?_
                refine RO.val (Wt.no rfl) rfl ((PV.move rfl).to (congrArg Value.bool hb64)) ?_
                refine RO.val (Wt.yes rfl rfl rfl rfl) rfl (PV.fieldAddr Try.fa40_0 rfl) ?_
                refine RO.val (Wt.yes rfl rfl rfl rfl) rfl (PV.loadM (l := S.t_A8_int.enc a1.Known (hf [])) 1 Try.TF37 rfl rfl (cut_Bag_Known _ _) rfl (by decide)) ?_
                refine RO.val (Wt.yes rfl rfl rfl rfl) rfl (PV.loadM (l := S.t_Dot.enc a3 (hf [])) 3 Try.TF45 rfl rfl (cut_self (S.t_Dot.len _ _)) rfl (by decide)) ?_
                refine RO.eff (Wt.yes rfl rfl rfl rfl) rfl (EV.call (K := _) Try.call48 rfl (SpecK.callV (W_ref7_Has a1.Known a3 hx66))) ?_
                rintro _ _ _ ⟨_, rfl, rfl, rfl⟩
                refine RO.val (Wt.no rfl) rfl (PV.pickF rfl rfl) ?_
                refine RO.val (Wt.no rfl) rfl (PV.move rfl) ?_
                refine RO.val (Wt.yes rfl rfl rfl rfl) rfl (PV.move rfl) ?_
                refine RO.val (Wt.yes rfl rfl rfl rfl) rfl (PV.lenStr Try.underlying9 rfl) ?_
                refine RO.val (Wt.yes rfl rfl rfl rfl) rfl (PV.gtr rfl rfl) ?_
                refine RO.val (Wt.no rfl) rfl (PV.pickF rfl rfl) ?_
                refine RO.nil ?_
                obtain rfl := Option.some.inj h
                refine QC.meetP (decide (64 < (a4.size : Int))) hk52 [0, 1, 2, 3, 4] (by decide) (by exact ⟨rfl, rfl, rfl, rfl, rfl, rfl, rfl, trivial⟩) rfl (fun w hΦ => hΦ)
  · rintro v6 h
    try dsimp only at h ⊢
    unfold S.ref7_PutBag_j2 at h
    refine CW.cond rfl (fun hb7 => ?_) (fun hb7 => ?_)
    · replace h := iteT hb7 h
      subst hb7
      refine CW.reg ?_
      refine RO.val (Wt.no rfl) rfl (PV.buildS (B := S.t_Bag.enc S.Bag.z (hf [Hd.z])) (xs := []) [] Try.BT40 rfl rfl rfl (by simp) trivial rfl) ?_
      refine RO.eff (Wt.no rfl) rfl (EV.storeW (B := S.t_Bag.enc S.Bag.z (hf [Hd.z])) 4 Try.TF40 rfl rfl rfl (by exact S.t_Bag.len S.Bag.z (hf [Hd.z])) (by exact S.t_Bag.one S.Bag.z (hf [Hd.z])) (S.t_Bag.len S.Bag.z (hf [Hd.z])) rfl) ?_
      rintro _ _ _ ⟨rfl, rfl, rfl⟩
      refine RO.val (Wt.no rfl) rfl (PV.assign rfl) ?_
      refine RO.nil ?_
      refine CW.ret ?_
      refine QC.then_r ?_
      obtain rfl := Option.some.inj h
      exact retP2 (Ψ := fun w => Φ w ∧ (slR S.t_Val w [] Hd.z)) [0] (by decide) rfl (RV.cell (A := S.t_Bag.enc S.Bag.z (hf [Hd.z])) 4 rfl Try.TF40 rfl (S.t_Bag.len _ _) (by decide)) (RV.tmp rfl) rfl (fun w hΦ => ⟨hΦ.1, (slR.nil _ _)⟩) ⟨Hd.z, rfl, rfl, rfl⟩
    · replace h := iteF hb7 h
      subst hb7
      refine CW.skip ?_
      refine QC.then_n ?_
      replace h := bindS h
      obtain ⟨e46, h, hk45⟩ := h
      refine CW.meet (X := S.Bag × Nat) (fun x => [(3, .string a4), (4, .pointer (some ⟨g1, 0, none⟩)), (5, .pointer (some ⟨g2, 0, none⟩)), (6, .pointer (some ⟨g3, 0, none⟩)), (8, .pointer (some ⟨g4, 0, none⟩)), (9, .int .i64 0), (10, .pointer (some ⟨x.2, 0, none⟩))]) (fun x => [frame D, .blk g1 (S.t_Bag.enc a1 (hf [b1_0])), .blk g2 (S.t_A8_int.enc a2 (hf [])), .blk g3 (S.t_Dot.enc a3 (hf [])), .blk g4 (S.t_Bag.enc S.Bag.z (hf [Hd.z])), .blk x.2 (S.t_Bag.enc ({ x.1 with Values := [] } : S.Bag) (hf [Hd.z]))]) (fun x w => (Φ w ∧ True)) (fun x => S.ref7_PutBag_j3 a1 a2 a3 a4 x.1 = some r) ?_ ?_
      · skip
        replace h := bindS h
        obtain ⟨v47, hx48, h⟩ := h
        replace h := bindS h
        obtain ⟨v49, hx50, h⟩ := h
        refine CW.regionD (pickM [0, 1, 2, 3, 4] _) _ (by kernel_rfl) (St.of (by decide) rfl (fun _ h => h)) ?_
        refine RD.take 0 rfl (by kernel_rfl) (by kernel_rfl) (by kernel_rfl) (Wt.no rfl) rfl (PV.fieldAddr Try.fa40_0 rfl) ?_
        refine RD.take 1 rfl (by kernel_rfl) (by kernel_rfl) (by kernel_rfl) (Wt.no rfl) rfl (PV.loadM (l := S.t_A8_int.enc a1.Known (hf [])) 1 Try.TF37 rfl rfl (cut_Bag_Known _ _) rfl (by decide)) ?_
        refine RD.take 2 rfl (by kernel_rfl) (by kernel_rfl) (by kernel_rfl) (Wt.no rfl) rfl (PV.loadM (l := S.t_A8_int.enc a2 (hf [])) 2 Try.TF37 rfl rfl (cut_self (S.t_A8_int.len _ _)) rfl (by decide)) ?_
        refine RD.take 4 rfl (by kernel_rfl) (by kernel_rfl) (by kernel_rfl) (Wt.no rfl) rfl (PV.loadM (l := S.t_Dot.enc a3 (hf [])) 3 Try.TF45 rfl rfl (cut_self (S.t_Dot.len _ _)) rfl (by decide)) ?_
        refine RD.two 3 7 (by kernel_rfl) ?_ ?_
        · skip
          refine Up.eff rfl (Wt.no rfl) rfl (EV.call (K := _) Try.call50 rfl (SpecK.callV (W_ref7_JoinVector a1.Known a2 hx48))) ?_ ?_
          · rintro _ _ _ ⟨_, rfl, rfl, rfl⟩; exact St.of' (by decide) (L' := [0, 1, 2, 3, 4]) rfl (fun _ h => h)
          rintro _ _ _ ⟨_, rfl, rfl, rfl⟩
          refine RD.two 5 7 (by kernel_rfl) ?_ ?_
          · skip
            refine Up.eff rfl (Wt.no rfl) rfl (EV.call (K := _) Try.call49 rfl (SpecK.callV (W_ref7_With v47 a3 hx50))) ?_ ?_
            · rintro _ _ _ ⟨_, rfl, rfl, rfl⟩; exact St.of' (by decide) (L' := [0, 1, 2, 3, 4]) rfl (fun _ h => h)
            rintro _ _ _ ⟨_, rfl, rfl, rfl⟩
            refine RD.take 6 rfl (by kernel_rfl) (by kernel_rfl) (by kernel_rfl) (Wt.no rfl) rfl (PV.buildS (B := S.t_Bag.enc ({ S.Bag.z with Known := v49 } : S.Bag) (hf [Hd.z])) (xs := [.tmp 54]) [(0, 0, 8)] Try.BT40 rfl rfl rfl (by decide) ⟨rfl, rfl, trivial⟩ rfl) ?_
            refine RD.one 7 (by kernel_rfl) ?_
            refine Up.eff rfl (Wt.no rfl) rfl (EV.allocB (B := S.t_Bag.enc S.Bag.z (hf [Hd.z])) Try.zeroValue40 rfl) ?_ ?_
            · rintro _ _ _ ⟨g51, rfl, rfl, rfl⟩; exact St.of' (by decide) (L' := [0, 1, 2, 3, 4]) rfl (fun _ h => h)
            rintro _ _ _ ⟨g51, rfl, rfl, rfl⟩
            refine RD.one 8 (by kernel_rfl) ?_
            refine Up.eff rfl (Wt.no rfl) rfl (EV.storeW (B := S.t_Bag.enc ({ S.Bag.z with Known := v49 } : S.Bag) (hf [Hd.z])) 5 Try.TF40 rfl rfl rfl (by exact S.t_Bag.len ({ S.Bag.z with Known := v49 } : S.Bag) (hf [Hd.z])) (by exact S.t_Bag.one ({ S.Bag.z with Known := v49 } : S.Bag) (hf [Hd.z])) (S.t_Bag.len S.Bag.z (hf [Hd.z])) rfl) ?_ ?_
            · rintro _ _ _ ⟨rfl, rfl, rfl⟩; exact St.of' (by decide) (L' := [0, 1, 2, 3, 4]) rfl (fun _ h => h)
            rintro _ _ _ ⟨rfl, rfl, rfl⟩
            refine RD.done (by kernel_rfl) ?_
            obtain rfl := Option.some.inj h
            refine QC.meetP (({ S.Bag.z with Known := v49 } : S.Bag), g51) hk45 [0, 1, 2, 3, 4, 5] (by decide) (by exact ⟨rfl, rfl, rfl, rfl, rfl, rfl, rfl, trivial⟩) rfl (fun w hΦ => hΦ)
          · skip
            refine Up.eff rfl (Wt.no rfl) rfl (EV.allocB (B := S.t_Bag.enc S.Bag.z (hf [Hd.z])) Try.zeroValue40 rfl) ?_ ?_
            · rintro _ _ _ ⟨g51, rfl, rfl, rfl⟩; exact St.of' (by decide) (L' := [0, 1, 2, 3, 4]) rfl (fun _ h => h)
            rintro _ _ _ ⟨g51, rfl, rfl, rfl⟩
            refine RD.one 5 (by kernel_rfl) ?_
            refine Up.eff rfl (Wt.no rfl) rfl (EV.call (K := _) Try.call49 rfl (SpecK.callV (W_ref7_With v47 a3 hx50))) ?_ ?_
            · rintro _ _ _ ⟨_, rfl, rfl, rfl⟩; exact St.of' (by decide) (L' := [0, 1, 2, 3, 4]) rfl (fun _ h => h)
            rintro _ _ _ ⟨_, rfl, rfl, rfl⟩
            refine RD.take 6 rfl (by kernel_rfl) (by kernel_rfl) (by kernel_rfl) (Wt.no rfl) rfl (PV.buildS (B := S.t_Bag.enc ({ S.Bag.z with Known := v49 } : S.Bag) (hf [Hd.z])) (xs := [.tmp 54]) [(0, 0, 8)] Try.BT40 rfl rfl rfl (by decide) ⟨rfl, rfl, trivial⟩ rfl) ?_
            refine RD.one 8 (by kernel_rfl) ?_
            refine Up.eff rfl (Wt.no rfl) rfl (EV.storeW (B := S.t_Bag.enc ({ S.Bag.z with Known := v49 } : S.Bag) (hf [Hd.z])) 5 Try.TF40 rfl rfl rfl (by exact S.t_Bag.len ({ S.Bag.z with Known := v49 } : S.Bag) (hf [Hd.z])) (by exact S.t_Bag.one ({ S.Bag.z with Known := v49 } : S.Bag) (hf [Hd.z])) (S.t_Bag.len S.Bag.z (hf [Hd.z])) rfl) ?_ ?_
            · rintro _ _ _ ⟨rfl, rfl, rfl⟩; exact St.of' (by decide) (L' := [0, 1, 2, 3, 4]) rfl (fun _ h => h)
            rintro _ _ _ ⟨rfl, rfl, rfl⟩
            refine RD.done (by kernel_rfl) ?_
            obtain rfl := Option.some.inj h
            refine QC.meetP (({ S.Bag.z with Known := v49 } : S.Bag), g51) hk45 [0, 1, 2, 3, 4, 5] (by decide) (by exact ⟨rfl, rfl, rfl, rfl, rfl, rfl, rfl, trivial⟩) rfl (fun w hΦ => hΦ)
        · skip
          refine Up.eff rfl (Wt.no rfl) rfl (EV.allocB (B := S.t_Bag.enc S.Bag.z (hf [Hd.z])) Try.zeroValue40 rfl) ?_ ?_
          · rintro _ _ _ ⟨g51, rfl, rfl, rfl⟩; exact St.of' (by decide) (L' := [0, 1, 2, 3, 4]) rfl (fun _ h => h)
          rintro _ _ _ ⟨g51, rfl, rfl, rfl⟩
          refine RD.one 3 (by kernel_rfl) ?_
          refine Up.eff rfl (Wt.no rfl) rfl (EV.call (K := _) Try.call50 rfl (SpecK.callV (W_ref7_JoinVector a1.Known a2 hx48))) ?_ ?_
          · rintro _ _ _ ⟨_, rfl, rfl, rfl⟩; exact St.of' (by decide) (L' := [0, 1, 2, 3, 4]) rfl (fun _ h => h)
          rintro _ _ _ ⟨_, rfl, rfl, rfl⟩
          refine RD.one 5 (by kernel_rfl) ?_
          refine Up.eff rfl (Wt.no rfl) rfl (EV.call (K := _) Try.call49 rfl (SpecK.callV (W_ref7_With v47 a3 hx50))) ?_ ?_
          · rintro _ _ _ ⟨_, rfl, rfl, rfl⟩; exact St.of' (by decide) (L' := [0, 1, 2, 3, 4]) rfl (fun _ h => h)
          rintro _ _ _ ⟨_, rfl, rfl, rfl⟩
          refine RD.take 6 rfl (by kernel_rfl) (by kernel_rfl) (by kernel_rfl) (Wt.no rfl) rfl (PV.buildS (B := S.t_Bag.enc ({ S.Bag.z with Known := v49 } : S.Bag) (hf [Hd.z])) (xs := [.tmp 54]) [(0, 0, 8)] Try.BT40 rfl rfl rfl (by decide) ⟨rfl, rfl, trivial⟩ rfl) ?_
          refine RD.one 8 (by kernel_rfl) ?_
          refine Up.eff rfl (Wt.no rfl) rfl (EV.storeW (B := S.t_Bag.enc ({ S.Bag.z with Known := v49 } : S.Bag) (hf [Hd.z])) 5 Try.TF40 rfl rfl rfl (by exact S.t_Bag.len ({ S.Bag.z with Known := v49 } : S.Bag) (hf [Hd.z])) (by exact S.t_Bag.one ({ S.Bag.z with Known := v49 } : S.Bag) (hf [Hd.z])) (S.t_Bag.len S.Bag.z (hf [Hd.z])) rfl) ?_ ?_
          · rintro _ _ _ ⟨rfl, rfl, rfl⟩; exact St.of' (by decide) (L' := [0, 1, 2, 3, 4]) rfl (fun _ h => h)
          rintro _ _ _ ⟨rfl, rfl, rfl⟩
          refine RD.done (by kernel_rfl) ?_
          obtain rfl := Option.some.inj h
          refine QC.meetP (({ S.Bag.z with Known := v49 } : S.Bag), g51) hk45 [0, 1, 2, 3, 4, 5] (by decide) (by exact ⟨rfl, rfl, rfl, rfl, rfl, rfl, rfl, trivial⟩) rfl (fun w hΦ => hΦ)
      · rintro ⟨v10, g9⟩ h
        try dsimp only at h ⊢
        unfold S.ref7_PutBag_j3 at h
        replace h := bindS h
        obtain ⟨e20, h, hk19⟩ := h
        refine CW.meet (X := S.Bag × Hd) (fun x => [(3, .string a4), (6, .pointer (some ⟨g3, 0, none⟩)), (8, .pointer (some ⟨g4, 0, none⟩)), (9, .int .i64 0), (10, .pointer (some ⟨g9, 0, none⟩))]) (fun x => [frame D, .blk g1 (S.t_Bag.enc a1 (hf [b1_0])), .blk g2 (S.t_A8_int.enc a2 (hf [])), .blk g3 (S.t_Dot.enc a3 (hf [])), .blk g4 (S.t_Bag.enc S.Bag.z (hf [Hd.z])), .blk g9 (S.t_Bag.enc x.1 (hf [x.2]))]) (fun x w => (Φ w ∧ True) ∧ (slR S.t_Val w x.1.Values x.2)) (fun x => S.ref7_PutBag_j5 a3 a4 x.1 = some r) ?_ ?_
        · skip
          refine CW.reg ?_
          refine RO.val (Wt.no rfl) rfl (PV.fieldAddr Try.fa40_1 rfl) ?_
          refine RO.val (Wt.no rfl) rfl (PV.loadM (l := [.slice b1_0.a a1.Values.length b1_0.cap]) 1 Try.TF38 rfl rfl (cut_Bag_Values _ _) rfl (by decide)) ?_
          refine RO.val (Wt.no rfl) rfl (PV.lenS Try.underlying38 rfl) ?_
          refine RO.val (Wt.no rfl) rfl (PV.move rfl) ?_
          refine RO.nil ?_
          refine CW.block ?_
          refine CW.loopE (X := Nat × S.Bag × Int × Hd) (fun x => [(3, .string a4), (5, .pointer (some ⟨g2, 0, none⟩)), (6, .pointer (some ⟨g3, 0, none⟩)), (8, .pointer (some ⟨g4, 0, none⟩)), (9, .int .i64 0), (10, .pointer (some ⟨g9, 0, none⟩)), (57, .slice b1_0.a a1.Values.length b1_0.cap), (58, .int .i64 (a1.Values.length : Int)), (59, .int .i64 x.2.2.1)]) (fun x => [frame D, .blk g1 (S.t_Bag.enc a1 (hf [b1_0])), .blk g2 (S.t_A8_int.enc a2 (hf [])), .blk g3 (S.t_Dot.enc a3 (hf [])), .blk g4 (S.t_Bag.enc S.Bag.z (hf [Hd.z])), .blk g9 (S.t_Bag.enc x.2.1 (hf [x.2.2.2]))]) (fun x w => (Φ w ∧ True) ∧ (slR S.t_Val w x.2.1.Values x.2.2.2)) (fun x => loopN (S.ref7_PutBag_l6 a1 a2) x.1 (x.2.1, x.2.2.1) = some e20) (fun x => x.1) (FUEL, ({ v10 with Values := [] } : S.Bag), 0, Hd.z) h (by exact ⟨rfl, rfl, rfl, rfl, rfl, rfl, rfl, rfl, rfl, trivial⟩) rfl (fun w hΦ => ⟨hΦ, (slR.nil _ _)⟩) ?_
          rintro ⟨n32', v27, v29, q28⟩ hI30
          try dsimp only at hI30 ⊢
          obtain ⟨n32, y31, rfl, h, hk33⟩ := loopN_some hI30
          unfold S.ref7_PutBag_l6 at h
          try dsimp only at h
          refine CW.reg ?_
          refine RO.val (Wt.no rfl) rfl (PV.lss rfl rfl) ?_
          refine RO.nil ?_
          refine CW.seq ?_
          refine CW.cond rfl (fun hb34 => ?_) (fun hb34 => ?_)
          · replace h := iteT hb34 h
            refine CW.skip ?_
            refine QC.then_n ?_
            refine CW.seq ?_
            refine CW.block ?_
            replace h := bindS h
            obtain ⟨v35, hx36, h⟩ := h
            refine CW.reg ?_
            refine RO.val (Wt.no rfl) rfl (PV.idxQ (t := S.t_Val) (l := a1.Values) (q := b1_0) Try.underlying38 Try.sizeOf80 (fun w hm hΦ => (hR w (hm.frameAt (i := 0) rfl) (hΦ.1.1))) rfl rfl hx36) ?_
            refine RO.val (Wt.no rfl) rfl (PV.loadQ (off := 0) (cs := S.t_Val.enc v35 (hf [])) (t := S.t_Val) (l := a1.Values) (q := b1_0) Try.TF80 (fun w hm hΦ => (hR w (hm.frameAt (i := 0) rfl) (hΦ.1.1))) hx36 rfl rfl rfl (cut_self (S.t_Val.len _ _)) rfl (by decide)) ?_
            refine RO.eff (Wt.no rfl) rfl (EV.allocB (B := S.t_Val.enc S.Val.z (hf [])) Try.zeroValue80 rfl) ?_
            rintro _ _ _ ⟨g37, rfl, rfl, rfl⟩
            refine RO.eff (Wt.no rfl) rfl (EV.storeW (B := S.t_Val.enc v35 (hf [])) 6 Try.TF80 rfl rfl rfl (by exact S.t_Val.len v35 (hf [])) (by exact S.t_Val.one v35 (hf [])) (S.t_Val.len S.Val.z (hf [])) rfl) ?_
            rintro _ _ _ ⟨rfl, rfl, rfl⟩
            refine RO.nil ?_
            replace h := bindS h
            obtain ⟨v38, hx39, h⟩ := h
            refine CW.reg ?_
            refine RO.val (Wt.no rfl) rfl (PV.loadM (l := S.t_A8_int.enc a2 (hf [])) 2 Try.TF37 rfl rfl (cut_self (S.t_A8_int.len _ _)) rfl (by decide)) ?_
            refine RO.val (Wt.no rfl) rfl (PV.fieldAddr Try.fa80_0 rfl) ?_
            refine RO.val (Wt.no rfl) rfl (PV.loadM (l := S.t_Dot.enc v35.Dot (hf [])) 6 Try.TF45 rfl rfl (cut_Val_Dot _ _) rfl (by decide)) ?_
            refine RO.eff (Wt.no rfl) rfl (EV.call (K := _) Try.call48 rfl (SpecK.callV (W_ref7_Has a2 v35.Dot hx39))) ?_
            rintro _ _ _ ⟨_, rfl, rfl, rfl⟩
            refine RO.val (Wt.no rfl) rfl (PV.not rfl) ?_
            refine RO.nil ?_
            refine CW.cond rfl (fun hb40 => ?_) (fun hb40 => ?_)
            · replace h := iteT hb40 h
              replace h := bindS h
              obtain ⟨v41, hx42, h⟩ := h
              refine CW.region ?_
              refine RO.val (Wt.no rfl) rfl (PV.fieldAddr Try.fa40_1 rfl) ?_
              refine RO.val (Wt.no rfl) rfl (PV.loadM (l := [.slice q28.a v27.Values.length q28.cap]) 5 Try.TF38 rfl rfl (cut_Bag_Values _ _) rfl (by decide)) ?_
              refine RO.val (Wt.no rfl) rfl (PV.loadM (l := S.t_Val.enc v35 (hf [])) 6 Try.TF80 rfl rfl (cut_self (S.t_Val.len _ _)) rfl (by decide)) ?_
              refine RO.eff (Wt.no rfl) rfl (EV.call (K := _) Try.call51 rfl (SpecK.callV (W_ref7_put v27.Values v35 q28 hx42 (fun w hm hΦ => (hΦ.2))))) ?_
              rintro _ _ _ ⟨q43, rfl, rfl, rfl⟩
              refine RO.val (Wt.no rfl) rfl (PV.fieldAddr Try.fa40_1 rfl) ?_
              refine RO.eff (Wt.no rfl) rfl (EV.storeB (B := S.t_Bag.enc ({ v27 with Values := v41 } : S.Bag) (hf [q43])) 5 Try.TF38 rfl rfl rfl rfl rfl (by rw [S.t_Bag.len]; decide) (wr_Bag_Values v27 q28 q43 v41)) ?_
              rintro _ _ _ ⟨rfl, rfl, rfl⟩
              refine RO.nil ?_
              refine QC.blk_n ?_
              refine QC.then_n ?_
              refine CW.region ?_
              refine RO.val (Wt.no rfl) rfl (PV.addW rfl rfl) ?_
              refine RO.val (Wt.no rfl) rfl (PV.move rfl) ?_
              refine RO.nil ?_
              obtain rfl := Option.some.inj h
              refine QC.roundP (n32, ({ v27 with Values := v41 } : S.Bag), (w64 (v29 + 1)), q43) (nextL_inl hk33) (by exact Nat.lt_succ_self _) [0, 1, 2, 3, 4, 5] (by decide) (by exact ⟨rfl, rfl, rfl, rfl, rfl, rfl, rfl, rfl, rfl, trivial⟩) rfl (fun w hΦ => ⟨hΦ.1.1, (hΦ.2)⟩)
            · replace h := iteF hb40 h
              refine CW.skip ?_
              refine QC.blk_n ?_
              refine QC.then_n ?_
              refine CW.region ?_
              refine RO.val (Wt.no rfl) rfl (PV.addW rfl rfl) ?_
              refine RO.val (Wt.no rfl) rfl (PV.move rfl) ?_
              refine RO.nil ?_
              obtain rfl := Option.some.inj h
              refine QC.roundP (n32, v27, (w64 (v29 + 1)), q28) (nextL_inl hk33) (by exact Nat.lt_succ_self _) [0, 1, 2, 3, 4, 5] (by decide) (by exact ⟨rfl, rfl, rfl, rfl, rfl, rfl, rfl, rfl, rfl, trivial⟩) rfl (fun w hΦ => ⟨hΦ.1, (hΦ.2)⟩)
          · replace h := iteF hb34 h
            refine CW.exit ?_
            refine QC.then_x ?_
            refine QC.then_x ?_
            refine QC.blk_x ?_
            obtain rfl := Option.some.inj h
            obtain rfl := nextL_inr hk33
            refine QC.meetP (v27, q28) hk19 [0, 1, 2, 3, 4, 5] (by decide) (by exact ⟨rfl, rfl, rfl, rfl, rfl, trivial⟩) rfl (fun w hΦ => ⟨hΦ.1, (hΦ.2)⟩)
        · rintro ⟨v12, q13⟩ h
          try dsimp only at h ⊢
          unfold S.ref7_PutBag_j5 at h
          replace h := bindS h
          obtain ⟨v14, hx15, h⟩ := h
          refine CW.reg ?_
          refine RO.val (Wt.no rfl) rfl (PV.fieldAddr Try.fa40_1 rfl) ?_
          refine RO.val (Wt.no rfl) rfl (PV.loadM (l := [.slice q13.a v12.Values.length q13.cap]) 5 Try.TF38 rfl rfl (cut_Bag_Values _ _) rfl (by decide)) ?_
          refine RO.val (Wt.no rfl) rfl (PV.loadM (l := S.t_Dot.enc a3 (hf [])) 3 Try.TF45 rfl rfl (cut_self (S.t_Dot.len _ _)) rfl (by decide)) ?_
          refine RO.val (Wt.no rfl) rfl (PV.move rfl) ?_
          refine RO.val (Wt.no rfl) rfl (PV.buildS (B := S.t_Val.enc ({ Dot := a3, Data := a4 } : S.Val) (hf [])) (xs := [.tmp 76, .tmp 77]) [(0, 0, 2), (1, 2, 1)] Try.BT80 rfl rfl rfl (by decide) ⟨rfl, rfl, rfl, rfl, trivial⟩ rfl) ?_
          refine RO.eff (Wt.no rfl) rfl (EV.call (K := _) Try.call51 rfl (SpecK.callV (W_ref7_put v12.Values ({ Dot := a3, Data := a4 } : S.Val) q13 hx15 (fun w hm hΦ => (hΦ.2))))) ?_
          rintro _ _ _ ⟨q16, rfl, rfl, rfl⟩
          refine RO.val (Wt.no rfl) rfl (PV.fieldAddr Try.fa40_1 rfl) ?_
          refine RO.eff (Wt.no rfl) rfl (EV.storeB (B := S.t_Bag.enc ({ v12 with Values := v14 } : S.Bag) (hf [q16])) 5 Try.TF38 rfl rfl rfl rfl rfl (by rw [S.t_Bag.len]; decide) (wr_Bag_Values v12 q13 q16 v14)) ?_
          rintro _ _ _ ⟨rfl, rfl, rfl⟩
          refine RO.nil ?_
          refine CW.seq ?_
          refine CW.reg ?_
          refine RO.val (Wt.no rfl) rfl (PV.fieldAddr Try.fa40_1 rfl) ?_
          refine RO.val (Wt.no rfl) rfl (PV.loadM (l := [.slice q16.a v14.length q16.cap]) 5 Try.TF38 rfl rfl (cut_Bag_Values _ _) rfl (by decide)) ?_
          refine RO.val (Wt.no rfl) rfl (PV.lenS Try.underlying38 rfl) ?_
          refine RO.val (Wt.no rfl) rfl (PV.gtr rfl rfl) ?_
          refine RO.nil ?_
          refine CW.cond rfl (fun hb18 => ?_) (fun hb18 => ?_)
          · replace h := iteT hb18 h
            refine CW.reg ?_
            refine RO.val (Wt.no rfl) rfl (PV.buildS (B := S.t_Bag.enc S.Bag.z (hf [Hd.z])) (xs := []) [] Try.BT40 rfl rfl rfl (by simp) trivial rfl) ?_
            refine RO.eff (Wt.no rfl) rfl (EV.storeW (B := S.t_Bag.enc S.Bag.z (hf [Hd.z])) 4 Try.TF40 rfl rfl rfl (by exact S.t_Bag.len S.Bag.z (hf [Hd.z])) (by exact S.t_Bag.one S.Bag.z (hf [Hd.z])) (S.t_Bag.len S.Bag.z (hf [Hd.z])) rfl) ?_
            rintro _ _ _ ⟨rfl, rfl, rfl⟩
            refine RO.val (Wt.no rfl) rfl (PV.assign rfl) ?_
            refine RO.nil ?_
            refine CW.ret ?_
            refine QC.then_r ?_
            obtain rfl := Option.some.inj h
            exact retP2 (Ψ := fun w => Φ w ∧ (slR S.t_Val w [] Hd.z)) [0] (by decide) rfl (RV.cell (A := S.t_Bag.enc S.Bag.z (hf [Hd.z])) 4 rfl Try.TF40 rfl (S.t_Bag.len _ _) (by decide)) (RV.tmp rfl) rfl (fun w hΦ => ⟨hΦ.1.1.1, (slR.nil _ _)⟩) ⟨Hd.z, rfl, rfl, rfl⟩
          · replace h := iteF hb18 h
            refine CW.skip ?_
            refine QC.then_n ?_
            refine CW.reg ?_
            refine RO.val (Wt.no rfl) rfl (PV.loadM (l := S.t_Bag.enc ({ v12 with Values := v14 } : S.Bag) (hf [q16])) 5 Try.TF40 rfl rfl (cut_self (S.t_Bag.len _ _)) rfl (by decide)) ?_
            refine RO.eff (Wt.no rfl) rfl (EV.storeW (B := S.t_Bag.enc ({ v12 with Values := v14 } : S.Bag) (hf [q16])) 4 Try.TF40 rfl rfl rfl (by exact S.t_Bag.len ({ v12 with Values := v14 } : S.Bag) (hf [q16])) (by exact S.t_Bag.one ({ v12 with Values := v14 } : S.Bag) (hf [q16])) (S.t_Bag.len S.Bag.z (hf [Hd.z])) rfl) ?_
            rintro _ _ _ ⟨rfl, rfl, rfl⟩
            refine RO.val (Wt.no rfl) rfl (PV.assign rfl) ?_
            refine RO.nil ?_
            refine CW.ret ?_
            obtain rfl := Option.some.inj h
            exact retP2 (Ψ := fun w => Φ w ∧ (slR S.t_Val w v14 q16)) [0] (by decide) rfl (RV.cell (A := S.t_Bag.enc ({ v12 with Values := v14 } : S.Bag) (hf [q16])) 4 rfl Try.TF40 rfl (S.t_Bag.len _ _) (by decide)) (RV.tmp rfl) rfl (fun w hΦ => ⟨hΦ.1.1.1, (hΦ.2)⟩) ⟨q16, rfl, rfl, rfl⟩

theorem W_spot_Hash {D : Mem} {Φ : World → Prop} (a1 : ByteArray) {r : Int} (h : S.spot_Hash a1 = some r) :
    SpecK Try.prog 45 [.string a1] D [] Φ (fun x : Unit => .int .u64 r) (fun x => []) (fun x => []) (fun _ => Φ) := by
  refine enterK Try.func45 rfl Try.ntmps45 rfl ?_
  unfold S.spot_Hash at h
  refine CW.reg ?_
  refine RO.val (Wt.no rfl) rfl (PV.assign rfl) ?_
  refine RO.nil ?_
  refine CW.reg ?_
  refine RO.val (Wt.no rfl) rfl (PV.assign rfl) ?_
  refine RO.nil ?_
  replace h := bindS h
  obtain ⟨e4, h, hk3⟩ := h
  refine CW.meet (X := Int) (fun x => [(2, .int .u64 0), (3, .int .u64 x)]) (fun x => [frame D]) (fun x w => (Φ w ∧ True)) (fun x => S.spot_Hash_j2 x = some r) ?_ ?_
  · skip
    refine CW.reg ?_
    refine RO.val (Wt.no rfl) rfl (PV.move rfl) ?_
    refine RO.val (Wt.no rfl) rfl (PV.lenStr Try.underlying9 rfl) ?_
    refine RO.val (Wt.no rfl) rfl (PV.move rfl) ?_
    refine RO.nil ?_
    refine CW.block ?_
    refine CW.loopE (X := Nat × Int × Int) (fun x => [(0, .string a1), (2, .int .u64 0), (3, .int .u64 x.2.1), (6, .int .i64 (a1.size : Int)), (7, .int .i64 x.2.2)]) (fun x => [frame D]) (fun x w => (Φ w ∧ True)) (fun x => loopN (S.spot_Hash_l3 a1) x.1 (x.2.1, x.2.2) = some e4) (fun x => x.1) (FUEL, 14695981039346656037, 0) h (by exact ⟨rfl, rfl, rfl, rfl, rfl, trivial⟩) rfl (fun w hΦ => hΦ) ?_
    rintro ⟨n14', v10, v11⟩ hI12
    try dsimp only at hI12 ⊢
    obtain ⟨n14, y13, rfl, h, hk15⟩ := loopN_some hI12
    unfold S.spot_Hash_l3 at h
    try dsimp only at h
    refine CW.reg ?_
    refine RO.val (Wt.no rfl) rfl (PV.lss rfl rfl) ?_
    refine RO.nil ?_
    refine CW.seq ?_
    refine CW.cond rfl (fun hb16 => ?_) (fun hb16 => ?_)
    · replace h := iteT hb16 h
      refine CW.skip ?_
      refine QC.then_n ?_
      refine CW.seq ?_
      refine CW.block ?_
      refine CW.reg ?_
      refine RO.val (Wt.no rfl) rfl (PV.move rfl) ?_
      refine RO.val (Wt.no rfl) rfl (PV.assign rfl) ?_
      refine RO.nil ?_
      replace h := bindS h
      obtain ⟨v17, hx18, h⟩ := h
      obtain ⟨hn19, hn20, he21⟩ := sget_some hx18
      refine CW.region ?_
      refine RO.val (Wt.no rfl) rfl (PV.move rfl) ?_
      refine RO.val (Wt.no rfl) rfl (PV.move rfl) ?_
      refine RO.val (Wt.no rfl) rfl (PV.move rfl) ?_
      refine RO.val (Wt.no rfl) rfl ((PV.indexStr Try.underlying9 rfl rfl hn20 hn19).to (congrArg (Value.int .u8) he21)) ?_
      refine RO.val (Wt.no rfl) rfl (PV.conv Try.underlying24 ⟨_, Try.underlying5⟩ rfl) ?_
      refine RO.val (Wt.no rfl) rfl (PV.xor rfl rfl) ?_
      refine RO.val (Wt.no rfl) rfl (PV.mulW rfl rfl) ?_
      refine RO.val (Wt.no rfl) rfl (PV.assign rfl) ?_
      refine RO.nil ?_
      refine QC.blk_n ?_
      refine QC.then_n ?_
      refine CW.region ?_
      refine RO.val (Wt.no rfl) rfl (PV.addW rfl rfl) ?_
      refine RO.val (Wt.no rfl) rfl (PV.move rfl) ?_
      refine RO.nil ?_
      obtain rfl := Option.some.inj h
      refine QC.roundP (n14, (IntKind.u64.wrap ((xorI .u64 v10 (IntKind.u64.wrap v17)) * 1099511628211)), (w64 (v11 + 1))) (nextL_inl hk15) (by exact Nat.lt_succ_self _) [0] (by decide) (by exact ⟨rfl, rfl, rfl, rfl, rfl, trivial⟩) rfl (fun w hΦ => hΦ)
    · replace h := iteF hb16 h
      refine CW.exit ?_
      refine QC.then_x ?_
      refine QC.then_x ?_
      refine QC.blk_x ?_
      obtain rfl := Option.some.inj h
      obtain rfl := nextL_inr hk15
      refine QC.meetP v10 hk3 [0] (by decide) (by exact ⟨rfl, rfl, trivial⟩) rfl (fun w hΦ => hΦ)
  · rintro v2 h
    try dsimp only at h ⊢
    unfold S.spot_Hash_j2 at h
    refine CW.reg ?_
    refine RO.val (Wt.no rfl) rfl (PV.move rfl) ?_
    refine RO.val (Wt.no rfl) rfl (PV.move rfl) ?_
    refine RO.val (Wt.no rfl) rfl (PV.shr rfl rfl (by decide)) ?_
    refine RO.val (Wt.no rfl) rfl (PV.xor rfl rfl) ?_
    refine RO.val (Wt.no rfl) rfl (PV.assign rfl) ?_
    refine RO.nil ?_
    refine CW.ret ?_
    obtain rfl := Option.some.inj h
    exact retP1 (Ψ := Φ) [0] (by decide) rfl (RV.tmp rfl) rfl (fun w hΦ => hΦ.1) ⟨(), rfl, rfl, rfl⟩

theorem W_spot_Of {D : Mem} {Φ : World → Prop} (a1 : ByteArray) {r : Int} (h : S.spot_Of a1 = some r) :
    SpecK Try.prog 12 [.string a1] D [] Φ (fun x : Unit => .int .i64 r) (fun x => []) (fun x => []) (fun _ => Φ) := by
  refine enterK Try.func12 rfl Try.ntmps12 rfl ?_
  unfold S.spot_Of at h
  refine CW.reg ?_
  refine RO.val (Wt.no rfl) rfl (PV.assign rfl) ?_
  refine RO.nil ?_
  refine CW.seq ?_
  replace h := bindS h
  obtain ⟨v1, hx2, h⟩ := h
  refine CW.reg ?_
  refine RO.val (Wt.no rfl) rfl (PV.move rfl) ?_
  refine RO.eff (Wt.no rfl) rfl (EV.call (K := _) Try.call8 rfl (SpecK.callV (W_spot_May a1 hx2))) ?_
  rintro _ _ _ ⟨_, rfl, rfl, rfl⟩
  refine RO.val (Wt.no rfl) rfl (PV.not rfl) ?_
  refine RO.nil ?_
  refine CW.cond rfl (fun hb3 => ?_) (fun hb3 => ?_)
  · replace h := iteT hb3 h
    refine CW.reg ?_
    refine RO.val (Wt.no rfl) rfl (PV.assign rfl) ?_
    refine RO.nil ?_
    refine CW.ret ?_
    refine QC.then_r ?_
    obtain rfl := Option.some.inj h
    exact retP1 (Ψ := Φ) [0] (by decide) rfl (RV.tmp rfl) rfl (fun w hΦ => hΦ.1) ⟨(), rfl, rfl, rfl⟩
  · replace h := iteF hb3 h
    refine CW.skip ?_
    refine QC.then_n ?_
    replace h := bindS h
    obtain ⟨v4, hx5, h⟩ := h
    refine CW.reg ?_
    refine RO.val (Wt.no rfl) rfl (PV.move rfl) ?_
    refine RO.eff (Wt.no rfl) rfl (EV.call (K := _) Try.call45 rfl (SpecK.callV (W_spot_Hash a1 hx5))) ?_
    rintro _ _ _ ⟨_, rfl, rfl, rfl⟩
    refine RO.val (Wt.no rfl) rfl (PV.rem rfl rfl (by decide)) ?_
    refine RO.val (Wt.no rfl) rfl (PV.conv Try.underlying3 ⟨_, Try.underlying24⟩ rfl) ?_
    refine RO.val (Wt.no rfl) rfl (PV.assign rfl) ?_
    refine RO.nil ?_
    refine CW.ret ?_
    obtain rfl := Option.some.inj h
    exact retP1 (Ψ := Φ) [0] (by decide) rfl (RV.tmp rfl) rfl (fun w hΦ => hΦ.1) ⟨(), rfl, rfl, rfl⟩

theorem W_take_node {D : Mem} {Φ : World → Prop} (a1 : Int) {r : Bool} (h : S.take_node a1 = some r) :
    SpecK Try.prog 88 [.int .i64 a1] D [] Φ (fun x : Unit => .bool r) (fun x => []) (fun x => []) (fun _ => Φ) := by
  refine enterK Try.func88 rfl Try.ntmps88 rfl ?_
  unfold S.take_node at h
  refine CW.reg ?_
  refine RO.val (Wt.no rfl) rfl (PV.assign rfl) ?_
  refine RO.nil ?_
  by_cases hb1 : (decide (0 ≤ a1)) = true
  · replace h := iteT hb1 h
    refine CW.reg ?_
    refine RO.val (Wt.no rfl) rfl (PV.move rfl) ?_
    refine RO.val (Wt.no rfl) rfl (PV.geq rfl rfl) ?_
    refine RO.val (Wt.no rfl) rfl ((PV.move rfl).to (congrArg Value.bool hb1)) ?_
    refine RO.val (Wt.yes rfl rfl rfl rfl) rfl (PV.move rfl) ?_
    refine RO.val (Wt.yes rfl rfl rfl rfl) rfl (PV.lss rfl rfl) ?_
    refine RO.val (Wt.no rfl) rfl (PV.pickT rfl rfl) ?_
    refine RO.val (Wt.no rfl) rfl (PV.assign rfl) ?_
    refine RO.nil ?_
    refine CW.ret ?_
    obtain rfl := Option.some.inj h
    exact retP1 (Ψ := Φ) [0] (by decide) rfl (RV.tmp rfl) rfl (fun w hΦ => hΦ.1) ⟨(), rfl, rfl, rfl⟩
  · replace hb1 := Bool.eq_false_iff.2 hb1
    replace h := iteF hb1 h
    refine CW.reg ?_
    refine RO.val (Wt.no rfl) rfl (PV.move rfl) ?_
    refine RO.val (Wt.no rfl) rfl (PV.geq rfl rfl) ?_
    refine RO.val (Wt.no rfl) rfl ((PV.move rfl).to (congrArg Value.bool hb1)) ?_
    refine RO.skip (Un.mk rfl rfl rfl rfl) rfl ?_
    refine RO.skip (Un.mk rfl rfl rfl rfl) rfl ?_
    refine RO.val (Wt.no rfl) rfl (PV.pickF rfl rfl) ?_
    refine RO.val (Wt.no rfl) rfl (PV.assign rfl) ?_
    refine RO.nil ?_
    refine CW.ret ?_
    obtain rfl := Option.some.inj h
    exact retP1 (Ψ := Φ) [0] (by decide) rfl (RV.tmp rfl) rfl (fun w hΦ => hΦ.1) ⟨(), rfl, rfl, rfl⟩

theorem W_take_placed {D : Mem} {Φ : World → Prop} (a1 : S.Msg) (b1_0 : Hd) (b1_1 : Hd) (b1_2 : Hd) {r : Bool} (h : S.take_placed a1 = some r) (hR : ∀ w, MemOk D w → Φ w → (slR S.t_Val w a1.Bag.Values b1_0 ∧ slR (tInt .i64) w a1.Ring.Plan.Targets b1_1 ∧ slR S.t_Claim w a1.Claims b1_2)) :
    SpecK Try.prog 55 [.agg (S.t_Msg.enc a1 (hf [b1_0, b1_1, b1_2])).toArray] D [] Φ (fun x : Unit => .bool r) (fun x => []) (fun x => []) (fun _ => Φ) := by
  refine enterK Try.func55 rfl Try.ntmps55 rfl ?_
  unfold S.take_placed at h
  refine CW.reg ?_
  refine RO.eff (Wt.no rfl) rfl (EV.boxB (B := S.t_Msg.enc a1 (hf [b1_0, b1_1, b1_2])) rfl rfl) ?_
  rintro _ _ _ ⟨g1, rfl, rfl, rfl⟩
  refine RO.val (Wt.no rfl) rfl (PV.assign rfl) ?_
  refine RO.nil ?_
  replace h := bindS h
  obtain ⟨v2, hx3, h⟩ := h
  by_cases hb4 : v2 = true
  · replace h := iteT hb4 h
    subst hb4
    replace h := bindS h
    obtain ⟨v5, hx6, h⟩ := h
    by_cases hb7 : v5 = true
    · replace h := iteT hb7 h
      subst hb7
      by_cases hb8 : (decide (0 ≤ a1.Part)) = true
      · replace h := iteT hb8 h
        refine CW.reg ?_
        refine RO.val (Wt.no rfl) rfl (PV.fieldAddr Try.fa53_1 rfl) ?_
        refine RO.val (Wt.no rfl) rfl (PV.loadM (l := [.int .i64 a1.From]) 1 Try.TF3 rfl rfl (cut_Msg_From _ _) rfl (by decide)) ?_
        refine RO.eff (Wt.no rfl) rfl (EV.call (K := _) Try.call88 rfl (SpecK.callV (W_take_node a1.From hx3))) ?_
        rintro _ _ _ ⟨_, rfl, rfl, rfl⟩
        refine RO.val (Wt.no rfl) rfl (PV.move rfl) ?_
        refine RO.val (Wt.yes rfl rfl rfl rfl) rfl (PV.fieldAddr Try.fa53_2 rfl) ?_
        refine RO.val (Wt.yes rfl rfl rfl rfl) rfl (PV.loadM (l := [.int .i64 a1.To]) 1 Try.TF3 rfl rfl (cut_Msg_To _ _) rfl (by decide)) ?_
        refine RO.eff (Wt.yes rfl rfl rfl rfl) rfl (EV.call (K := _) Try.call88 rfl (SpecK.callV (W_take_node a1.To hx6))) ?_
        rintro _ _ _ ⟨_, rfl, rfl, rfl⟩
        refine RO.val (Wt.no rfl) rfl (PV.pickT rfl rfl) ?_
        refine RO.val (Wt.no rfl) rfl (PV.move rfl) ?_
        refine RO.val (Wt.yes rfl rfl rfl rfl) rfl (PV.fieldAddr Try.fa53_6 rfl) ?_
        refine RO.val (Wt.yes rfl rfl rfl rfl) rfl (PV.loadM (l := [.int .i64 a1.Part]) 1 Try.TF3 rfl rfl (cut_Msg_Part _ _) rfl (by decide)) ?_
        refine RO.val (Wt.yes rfl rfl rfl rfl) rfl (PV.geq rfl rfl) ?_
        refine RO.val (Wt.no rfl) rfl (PV.pickT rfl rfl) ?_
        refine RO.val (Wt.no rfl) rfl ((PV.move rfl).to (congrArg Value.bool hb8)) ?_
        refine RO.val (Wt.yes rfl rfl rfl rfl) rfl (PV.fieldAddr Try.fa53_6 rfl) ?_
        refine RO.val (Wt.yes rfl rfl rfl rfl) rfl (PV.loadM (l := [.int .i64 a1.Part]) 1 Try.TF3 rfl rfl (cut_Msg_Part _ _) rfl (by decide)) ?_
        refine RO.val (Wt.yes rfl rfl rfl rfl) rfl (PV.lss rfl rfl) ?_
        refine RO.val (Wt.no rfl) rfl (PV.pickT rfl rfl) ?_
        refine RO.val (Wt.no rfl) rfl (PV.assign rfl) ?_
        refine RO.nil ?_
        refine CW.ret ?_
        obtain rfl := Option.some.inj h
        exact retP1 (Ψ := Φ) [0] (by decide) rfl (RV.tmp rfl) rfl (fun w hΦ => hΦ.1) ⟨(), rfl, rfl, rfl⟩
      · replace hb8 := Bool.eq_false_iff.2 hb8
        replace h := iteF hb8 h
        refine CW.reg ?_
        refine RO.val (Wt.no rfl) rfl (PV.fieldAddr Try.fa53_1 rfl) ?_
        refine RO.val (Wt.no rfl) rfl (PV.loadM (l := [.int .i64 a1.From]) 1 Try.TF3 rfl rfl (cut_Msg_From _ _) rfl (by decide)) ?_
        refine RO.eff (Wt.no rfl) rfl (EV.call (K := _) Try.call88 rfl (SpecK.callV (W_take_node a1.From hx3))) ?_
        rintro _ _ _ ⟨_, rfl, rfl, rfl⟩
        refine RO.val (Wt.no rfl) rfl (PV.move rfl) ?_
        refine RO.val (Wt.yes rfl rfl rfl rfl) rfl (PV.fieldAddr Try.fa53_2 rfl) ?_
        refine RO.val (Wt.yes rfl rfl rfl rfl) rfl (PV.loadM (l := [.int .i64 a1.To]) 1 Try.TF3 rfl rfl (cut_Msg_To _ _) rfl (by decide)) ?_
        refine RO.eff (Wt.yes rfl rfl rfl rfl) rfl (EV.call (K := _) Try.call88 rfl (SpecK.callV (W_take_node a1.To hx6))) ?_
        rintro _ _ _ ⟨_, rfl, rfl, rfl⟩
        refine RO.val (Wt.no rfl) rfl (PV.pickT rfl rfl) ?_
        refine RO.val (Wt.no rfl) rfl (PV.move rfl) ?_
        refine RO.val (Wt.yes rfl rfl rfl rfl) rfl (PV.fieldAddr Try.fa53_6 rfl) ?_
        refine RO.val (Wt.yes rfl rfl rfl rfl) rfl (PV.loadM (l := [.int .i64 a1.Part]) 1 Try.TF3 rfl rfl (cut_Msg_Part _ _) rfl (by decide)) ?_
        refine RO.val (Wt.yes rfl rfl rfl rfl) rfl (PV.geq rfl rfl) ?_
        refine RO.val (Wt.no rfl) rfl (PV.pickT rfl rfl) ?_
        refine RO.val (Wt.no rfl) rfl ((PV.move rfl).to (congrArg Value.bool hb8)) ?_
        refine RO.skip (Un.mk rfl rfl rfl rfl) rfl ?_
        refine RO.skip (Un.mk rfl rfl rfl rfl) rfl ?_
        refine RO.skip (Un.mk rfl rfl rfl rfl) rfl ?_
        refine RO.val (Wt.no rfl) rfl (PV.pickF rfl rfl) ?_
        refine RO.val (Wt.no rfl) rfl (PV.assign rfl) ?_
        refine RO.nil ?_
        refine CW.ret ?_
        obtain rfl := Option.some.inj h
        exact retP1 (Ψ := Φ) [0] (by decide) rfl (RV.tmp rfl) rfl (fun w hΦ => hΦ.1) ⟨(), rfl, rfl, rfl⟩
    · replace hb7 := Bool.eq_false_iff.2 hb7
      replace h := iteF hb7 h
      subst hb7
      refine CW.reg ?_
      refine RO.val (Wt.no rfl) rfl (PV.fieldAddr Try.fa53_1 rfl) ?_
      refine RO.val (Wt.no rfl) rfl (PV.loadM (l := [.int .i64 a1.From]) 1 Try.TF3 rfl rfl (cut_Msg_From _ _) rfl (by decide)) ?_
      refine RO.eff (Wt.no rfl) rfl (EV.call (K := _) Try.call88 rfl (SpecK.callV (W_take_node a1.From hx3))) ?_
      rintro _ _ _ ⟨_, rfl, rfl, rfl⟩
      refine RO.val (Wt.no rfl) rfl (PV.move rfl) ?_
      refine RO.val (Wt.yes rfl rfl rfl rfl) rfl (PV.fieldAddr Try.fa53_2 rfl) ?_
      refine RO.val (Wt.yes rfl rfl rfl rfl) rfl (PV.loadM (l := [.int .i64 a1.To]) 1 Try.TF3 rfl rfl (cut_Msg_To _ _) rfl (by decide)) ?_
      refine RO.eff (Wt.yes rfl rfl rfl rfl) rfl (EV.call (K := _) Try.call88 rfl (SpecK.callV (W_take_node a1.To hx6))) ?_
      rintro _ _ _ ⟨_, rfl, rfl, rfl⟩
      refine RO.val (Wt.no rfl) rfl (PV.pickT rfl rfl) ?_
      refine RO.val (Wt.no rfl) rfl (PV.move rfl) ?_
      refine RO.skip (Un.mk rfl rfl rfl rfl) rfl ?_
      refine RO.skip (Un.mk rfl rfl rfl rfl) rfl ?_
      refine RO.skip (Un.mk rfl rfl rfl rfl) rfl ?_
      refine RO.val (Wt.no rfl) rfl (PV.pickF rfl rfl) ?_
      refine RO.val (Wt.no rfl) rfl (PV.move rfl) ?_
      refine RO.skip (Un.mk rfl rfl rfl rfl) rfl ?_
      refine RO.skip (Un.mk rfl rfl rfl rfl) rfl ?_
      refine RO.skip (Un.mk rfl rfl rfl rfl) rfl ?_
      refine RO.val (Wt.no rfl) rfl (PV.pickF rfl rfl) ?_
      refine RO.val (Wt.no rfl) rfl (PV.assign rfl) ?_
      refine RO.nil ?_
      refine CW.ret ?_
      obtain rfl := Option.some.inj h
      exact retP1 (Ψ := Φ) [0] (by decide) rfl (RV.tmp rfl) rfl (fun w hΦ => hΦ.1) ⟨(), rfl, rfl, rfl⟩
  · replace hb4 := Bool.eq_false_iff.2 hb4
    replace h := iteF hb4 h
    subst hb4
    refine CW.reg ?_
    refine RO.val (Wt.no rfl) rfl (PV.fieldAddr Try.fa53_1 rfl) ?_
    refine RO.val (Wt.no rfl) rfl (PV.loadM (l := [.int .i64 a1.From]) 1 Try.TF3 rfl rfl (cut_Msg_From _ _) rfl (by decide)) ?_
    refine RO.eff (Wt.no rfl) rfl (EV.call (K := _) Try.call88 rfl (SpecK.callV (W_take_node a1.From hx3))) ?_
    rintro _ _ _ ⟨_, rfl, rfl, rfl⟩
    refine RO.val (Wt.no rfl) rfl (PV.move rfl) ?_
    refine RO.skip (Un.mk rfl rfl rfl rfl) rfl ?_
    refine RO.skip (Un.mk rfl rfl rfl rfl) rfl ?_
    refine RO.skip (Un.mk rfl rfl rfl rfl) rfl ?_
    refine RO.val (Wt.no rfl) rfl (PV.pickF rfl rfl) ?_
    refine RO.val (Wt.no rfl) rfl (PV.move rfl) ?_
    refine RO.skip (Un.mk rfl rfl rfl rfl) rfl ?_
    refine RO.skip (Un.mk rfl rfl rfl rfl) rfl ?_
    refine RO.skip (Un.mk rfl rfl rfl rfl) rfl ?_
    refine RO.val (Wt.no rfl) rfl (PV.pickF rfl rfl) ?_
    refine RO.val (Wt.no rfl) rfl (PV.move rfl) ?_
    refine RO.skip (Un.mk rfl rfl rfl rfl) rfl ?_
    refine RO.skip (Un.mk rfl rfl rfl rfl) rfl ?_
    refine RO.skip (Un.mk rfl rfl rfl rfl) rfl ?_
    refine RO.val (Wt.no rfl) rfl (PV.pickF rfl rfl) ?_
    refine RO.val (Wt.no rfl) rfl (PV.assign rfl) ?_
    refine RO.nil ?_
    refine CW.ret ?_
    obtain rfl := Option.some.inj h
    exact retP1 (Ψ := Φ) [0] (by decide) rfl (RV.tmp rfl) rfl (fun w hΦ => hΦ.1) ⟨(), rfl, rfl, rfl⟩

theorem W_vault_Vault_Ring {D : Mem} {Φ : World → Prop} (a1 : S.vault_Vault) (ga1_0 ga1_1 ga1_2 : Nat) (b1_0 : Hd) (b1_1 : Hd) (b1_2 : (Nat → Hs)) {r : S.Ring × Bool} (h : S.vault_Vault_Ring a1 = some r) (hR : ∀ w, MemOk D w → Φ w → (rdS S.t_Deed w a1.l.l b1_0.sub ∧ slR (tInt .i64) w a1.ring.Plan.Targets b1_1 ∧ mpR S.t_Bag w a1.bags b1_2)) :
    SpecK Try.prog 89 [.pointer (pq ga1_0).a] D [.blk ga1_0 (S.t_vault_Vault.enc a1 (hf [(pq ga1_1), b1_1, (pq ga1_2)])), .blk ga1_1 (S.t_ledger_Ledger.enc a1.l (hf [b1_0])), rowE S.t_Deed 106 a1.l.l b1_0, mpE Value.string S.t_Bag ga1_2 a1.bags b1_2] Φ (fun x : Hd => .tuple #[.agg (S.t_Ring.enc r.1 (hf [x])).toArray, .bool r.2]) (fun x => [.blk ga1_0 (S.t_vault_Vault.enc a1 (hf [(pq ga1_1), b1_1, (pq ga1_2)])), .blk ga1_1 (S.t_ledger_Ledger.enc a1.l (hf [b1_0])), rowE S.t_Deed 106 a1.l.l b1_0, mpE Value.string S.t_Bag ga1_2 a1.bags b1_2]) (fun x => []) (fun x w => Φ w ∧ (slR (tInt .i64) w r.1.Plan.Targets x)) := by
  refine enterK Try.func89 rfl Try.ntmps89 rfl ?_
  unfold S.vault_Vault_Ring at h
  refine CW.reg ?_
  refine RO.eff (Wt.no rfl) rfl (EV.allocB (B := S.t_Ring.enc S.Ring.z (hf [Hd.z])) Try.zeroValue33 rfl) ?_
  rintro _ _ _ ⟨g1, rfl, rfl, rfl⟩
  refine RO.val (Wt.no rfl) rfl (PV.assign rfl) ?_
  refine RO.nil ?_
  refine CW.seq ?_
  refine CW.reg ?_
  refine RO.val (Wt.no rfl) rfl (PV.move rfl) ?_
  refine RO.val (Wt.no rfl) rfl ((PV.eqlPtr Try.underlying46 rfl rfl).to rfl) ?_
  refine RO.val (Wt.no rfl) rfl (PV.move rfl) ?_
  refine RO.val (Wt.yes rfl rfl rfl rfl) rfl (PV.move rfl) ?_
  refine RO.val (Wt.yes rfl rfl rfl rfl) rfl (PV.nilCheck rfl) ?_
  refine RO.val (Wt.yes rfl rfl rfl rfl) rfl (PV.fieldAddr Try.fa101_3 rfl) ?_
  refine RO.val (Wt.yes rfl rfl rfl rfl) rfl (PV.loadM (l := [.int .i64 a1.rings]) 1 Try.TF3 rfl rfl (cut_vault_Vault_rings _ _) rfl (by decide)) ?_
  refine RO.val (Wt.yes rfl rfl rfl rfl) rfl (PV.eql rfl rfl) ?_
  refine RO.val (Wt.no rfl) rfl (PV.pickF rfl rfl) ?_
  refine RO.nil ?_
  refine CW.cond rfl (fun hb2 => ?_) (fun hb2 => ?_)
  · replace h := iteT hb2 h
    refine CW.reg ?_
    refine RO.val (Wt.no rfl) rfl (PV.buildS (B := S.t_Ring.enc S.Ring.z (hf [Hd.z])) (xs := []) [] Try.BT33 rfl rfl rfl (by simp) trivial rfl) ?_
    refine RO.eff (Wt.no rfl) rfl (EV.storeW (B := S.t_Ring.enc S.Ring.z (hf [Hd.z])) 5 Try.TF33 rfl rfl rfl (by exact S.t_Ring.len S.Ring.z (hf [Hd.z])) (by exact S.t_Ring.one S.Ring.z (hf [Hd.z])) (S.t_Ring.len S.Ring.z (hf [Hd.z])) rfl) ?_
    rintro _ _ _ ⟨rfl, rfl, rfl⟩
    refine RO.val (Wt.no rfl) rfl (PV.assign rfl) ?_
    refine RO.nil ?_
    refine CW.ret ?_
    refine QC.then_r ?_
    obtain rfl := Option.some.inj h
    exact retP2 (Ψ := fun w => Φ w ∧ (slR (tInt .i64) w [] Hd.z)) [0, 1, 2, 3, 4] (by decide) rfl (RV.cell (A := S.t_Ring.enc S.Ring.z (hf [Hd.z])) 5 rfl Try.TF33 rfl (S.t_Ring.len _ _) (by decide)) (RV.tmp rfl) rfl (fun w hΦ => ⟨hΦ.1, (slR.nil _ _)⟩) ⟨Hd.z, rfl, rfl, rfl⟩
  · replace h := iteF hb2 h
    refine CW.skip ?_
    refine QC.then_n ?_
    replace h := bindS h
    obtain ⟨v3, hx4, h⟩ := h
    refine CW.regD (pickM [0, 1, 2, 3, 4] _) _ (by kernel_rfl) (St.of (by decide) rfl (fun _ h => h)) ?_
    refine RD.take 0 rfl (by kernel_rfl) (by kernel_rfl) (by kernel_rfl) (Wt.no rfl) rfl (PV.move rfl) ?_
    refine RD.take 1 rfl (by kernel_rfl) (by kernel_rfl) (by kernel_rfl) (Wt.no rfl) rfl (PV.nilCheck rfl) ?_
    refine RD.take 2 rfl (by kernel_rfl) (by kernel_rfl) (by kernel_rfl) (Wt.no rfl) rfl (PV.fieldAddr Try.fa101_2 rfl) ?_
    refine RD.take 3 rfl (by kernel_rfl) (by kernel_rfl) (by kernel_rfl) (Wt.no rfl) rfl (PV.loadM (l := S.t_Ring.enc a1.ring (hf [b1_1])) 1 Try.TF33 rfl rfl (cut_vault_Vault_ring _ _) rfl (by decide)) ?_
    refine RD.take 4 rfl (by kernel_rfl) (by kernel_rfl) (by kernel_rfl) (Wt.no rfl) rfl (PV.move rfl) ?_
    refine RD.take 5 rfl (by kernel_rfl) (by kernel_rfl) (by kernel_rfl) (Wt.no rfl) rfl (PV.nilCheck rfl) ?_
    refine RD.take 6 rfl (by kernel_rfl) (by kernel_rfl) (by kernel_rfl) (Wt.no rfl) rfl (PV.fieldAddr Try.fa101_2 rfl) ?_
    refine RD.take 7 rfl (by kernel_rfl) (by kernel_rfl) (by kernel_rfl) (Wt.no rfl) rfl (PV.loadM (l := S.t_Ring.enc a1.ring (hf [b1_1])) 1 Try.TF33 rfl rfl (cut_vault_Vault_ring _ _) rfl (by decide)) ?_
    refine RD.one 8 (by kernel_rfl) ?_
    refine Up.eff rfl (Wt.no rfl) rfl (EV.call (K := _) Try.call83 rfl (SpecK.callV (W_ring_Join a1.ring a1.ring b1_1 b1_1 hx4 (fun w hm hΦ => ⟨(hR w (hm.frameAt (i := 0) rfl) (hΦ.1)).2.1, (hR w (hm.frameAt (i := 0) rfl) (hΦ.1)).2.1⟩)))) ?_ ?_
    · rintro _ _ _ ⟨q5, rfl, rfl, rfl⟩; exact St.of' (by decide) (L' := [0, 1, 2, 3, 4]) rfl (fun _ h => h.1)
    rintro _ _ _ ⟨q5, rfl, rfl, rfl⟩
    refine RD.one 9 (by kernel_rfl) ?_
    refine Up.eff rfl (Wt.no rfl) rfl (EV.storeW (B := S.t_Ring.enc v3 (hf [q5])) 5 Try.TF33 rfl rfl rfl (by exact S.t_Ring.len v3 (hf [q5])) (by exact S.t_Ring.one v3 (hf [q5])) (S.t_Ring.len S.Ring.z (hf [Hd.z])) rfl) ?_ ?_
    · rintro _ _ _ ⟨rfl, rfl, rfl⟩; exact St.of' (by decide) (L' := [0, 1, 2, 3, 4]) rfl (fun _ h => h.1)
    rintro _ _ _ ⟨rfl, rfl, rfl⟩
    refine RD.take 10 rfl (by kernel_rfl) (by kernel_rfl) (by kernel_rfl) (Wt.no rfl) rfl (PV.assign rfl) ?_
    refine RD.done (by kernel_rfl) ?_
    refine CW.ret ?_
    obtain rfl := Option.some.inj h
    exact retP2 (Ψ := fun w => Φ w ∧ (slR (tInt .i64) w v3.Plan.Targets q5)) [0, 1, 2, 3, 4] (by decide) rfl (RV.cell (A := S.t_Ring.enc v3 (hf [q5])) 5 rfl Try.TF33 rfl (S.t_Ring.len _ _) (by decide)) (RV.tmp rfl) rfl (fun w hΦ => ⟨hΦ.1.1, (hΦ.2)⟩) ⟨q5, rfl, rfl, rfl⟩

theorem W_ring_part {D : Mem} {Φ : World → Prop} (a1 : Int) {r : Bool} (h : S.ring_part a1 = some r) :
    SpecK Try.prog 146 [.int .i64 a1] D [] Φ (fun x : Unit => .bool r) (fun x => []) (fun x => []) (fun _ => Φ) := by
  refine enterK Try.func146 rfl Try.ntmps146 rfl ?_
  unfold S.ring_part at h
  refine CW.reg ?_
  refine RO.val (Wt.no rfl) rfl (PV.assign rfl) ?_
  refine RO.nil ?_
  by_cases hb1 : (decide (0 ≤ a1)) = true
  · replace h := iteT hb1 h
    refine CW.reg ?_
    refine RO.val (Wt.no rfl) rfl (PV.move rfl) ?_
    refine RO.val (Wt.no rfl) rfl (PV.geq rfl rfl) ?_
    refine RO.val (Wt.no rfl) rfl ((PV.move rfl).to (congrArg Value.bool hb1)) ?_
    refine RO.val (Wt.yes rfl rfl rfl rfl) rfl (PV.move rfl) ?_
    refine RO.val (Wt.yes rfl rfl rfl rfl) rfl (PV.lss rfl rfl) ?_
    refine RO.val (Wt.no rfl) rfl (PV.pickT rfl rfl) ?_
    refine RO.val (Wt.no rfl) rfl (PV.assign rfl) ?_
    refine RO.nil ?_
    refine CW.ret ?_
    obtain rfl := Option.some.inj h
    exact retP1 (Ψ := Φ) [0] (by decide) rfl (RV.tmp rfl) rfl (fun w hΦ => hΦ.1) ⟨(), rfl, rfl, rfl⟩
  · replace hb1 := Bool.eq_false_iff.2 hb1
    replace h := iteF hb1 h
    refine CW.reg ?_
    refine RO.val (Wt.no rfl) rfl (PV.move rfl) ?_
    refine RO.val (Wt.no rfl) rfl (PV.geq rfl rfl) ?_
    refine RO.val (Wt.no rfl) rfl ((PV.move rfl).to (congrArg Value.bool hb1)) ?_
    refine RO.skip (Un.mk rfl rfl rfl rfl) rfl ?_
    refine RO.skip (Un.mk rfl rfl rfl rfl) rfl ?_
    refine RO.val (Wt.no rfl) rfl (PV.pickF rfl rfl) ?_
    refine RO.val (Wt.no rfl) rfl (PV.assign rfl) ?_
    refine RO.nil ?_
    refine CW.ret ?_
    obtain rfl := Option.some.inj h
    exact retP1 (Ψ := Φ) [0] (by decide) rfl (RV.tmp rfl) rfl (fun w hΦ => hΦ.1) ⟨(), rfl, rfl, rfl⟩

theorem W_ring_Owner {D : Mem} {Φ : World → Prop} (a1 : S.Ring) (a2 : Int) (b1_0 : Hd) {r : Int} (h : S.ring_Owner a1 a2 = some r) (hR : ∀ w, MemOk D w → Φ w → (slR (tInt .i64) w a1.Plan.Targets b1_0)) :
    SpecK Try.prog 116 [.agg (S.t_Ring.enc a1 (hf [b1_0])).toArray, .int .i64 a2] D [] Φ (fun x : Unit => .int .i64 r) (fun x => []) (fun x => []) (fun _ => Φ) := by
  refine enterK Try.func116 rfl Try.ntmps116 rfl ?_
  unfold S.ring_Owner at h
  refine CW.reg ?_
  refine RO.eff (Wt.no rfl) rfl (EV.boxB (B := S.t_Ring.enc a1 (hf [b1_0])) rfl rfl) ?_
  rintro _ _ _ ⟨g1, rfl, rfl, rfl⟩
  refine RO.val (Wt.no rfl) rfl (PV.assign rfl) ?_
  refine RO.nil ?_
  refine CW.seq ?_
  replace h := bindS h
  obtain ⟨v2, hx3, h⟩ := h
  by_cases hb4 : (!v2) = true
  · replace h := iteT hb4 h
    refine CW.reg ?_
    refine RO.val (Wt.no rfl) rfl (PV.move rfl) ?_
    refine RO.eff (Wt.no rfl) rfl (EV.call (K := _) Try.call146 rfl (SpecK.callV (W_ring_part a2 hx3))) ?_
    rintro _ _ _ ⟨_, rfl, rfl, rfl⟩
    refine RO.val (Wt.no rfl) rfl (PV.not rfl) ?_
    refine RO.val (Wt.no rfl) rfl ((PV.move rfl).to (congrArg Value.bool hb4)) ?_
    refine RO.skip (Un.mk rfl rfl rfl rfl) rfl ?_
    refine RO.skip (Un.mk rfl rfl rfl rfl) rfl ?_
    refine RO.skip (Un.mk rfl rfl rfl rfl) rfl ?_
    refine RO.skip (Un.mk rfl rfl rfl rfl) rfl ?_
    refine RO.skip (Un.mk rfl rfl rfl rfl) rfl ?_
    refine RO.skip (Un.mk rfl rfl rfl rfl) rfl ?_
    refine RO.val (Wt.no rfl) rfl (PV.pickT rfl rfl) ?_
    refine RO.val (Wt.no rfl) rfl (PV.move rfl) ?_
    refine RO.skip (Un.mk rfl rfl rfl rfl) rfl ?_
    refine RO.skip (Un.mk rfl rfl rfl rfl) rfl ?_
    refine RO.skip (Un.mk rfl rfl rfl rfl) rfl ?_
    refine RO.skip (Un.mk rfl rfl rfl rfl) rfl ?_
    refine RO.skip (Un.mk rfl rfl rfl rfl) rfl ?_
    refine RO.skip (Un.mk rfl rfl rfl rfl) rfl ?_
    refine RO.val (Wt.no rfl) rfl (PV.pickT rfl rfl) ?_
    refine RO.nil ?_
    refine CW.condT rfl ?_
    refine CW.reg ?_
    refine RO.val (Wt.no rfl) rfl (PV.assign rfl) ?_
    refine RO.nil ?_
    refine CW.ret ?_
    refine QC.then_r ?_
    obtain rfl := Option.some.inj h
    exact retP1 (Ψ := Φ) [0] (by decide) rfl (RV.tmp rfl) rfl (fun w hΦ => hΦ.1) ⟨(), rfl, rfl, rfl⟩
  · replace hb4 := Bool.eq_false_iff.2 hb4
    replace h := iteF hb4 h
    replace h := bindS h
    obtain ⟨v5, hx6, h⟩ := h
    obtain ⟨hn7, hn8, he9⟩ := aget_some hx6
    by_cases hb10 : (decide (v5.Epoch = 0)) = true
    · replace h := iteT hb10 h
      refine CW.reg ?_
      refine RO.val (Wt.no rfl) rfl (PV.move rfl) ?_
      refine RO.eff (Wt.no rfl) rfl (EV.call (K := _) Try.call146 rfl (SpecK.callV (W_ring_part a2 hx3))) ?_
      rintro _ _ _ ⟨_, rfl, rfl, rfl⟩
      refine RO.val (Wt.no rfl) rfl (PV.not rfl) ?_
      refine RO.val (Wt.no rfl) rfl ((PV.move rfl).to (congrArg Value.bool hb4)) ?_
      refine RO.val (Wt.yes rfl rfl rfl rfl) rfl (PV.move rfl) ?_
      refine RO.val (Wt.yes rfl rfl rfl rfl) rfl (PV.fieldAddr Try.fa33_2 rfl) ?_
      refine RO.val (Wt.yes rfl rfl rfl rfl) rfl (PV.idxA Try.underlying31 Try.sizeOf30 rfl rfl hn8 (by omega)) ?_
      refine RO.val (Wt.yes rfl rfl rfl rfl) rfl (PV.fieldAddr Try.fa30_0 rfl) ?_
      refine RO.val (Wt.yes rfl rfl rfl rfl) rfl (PV.loadM (l := [.int .i64 v5.Epoch]) 1 Try.TF3 rfl rfl (by rw [cut_Ring_Parts_i_Epoch _ _ _ hn7, he9]) rfl (by decide)) ?_
      refine RO.val (Wt.yes rfl rfl rfl rfl) rfl (PV.eql rfl rfl) ?_
      refine RO.val (Wt.no rfl) rfl (PV.pickF rfl rfl) ?_
      refine RO.val (Wt.no rfl) rfl ((PV.move rfl).to (congrArg Value.bool hb10)) ?_
      refine RO.skip (Un.mk rfl rfl rfl rfl) rfl ?_
      refine RO.skip (Un.mk rfl rfl rfl rfl) rfl ?_
      refine RO.skip (Un.mk rfl rfl rfl rfl) rfl ?_
      refine RO.skip (Un.mk rfl rfl rfl rfl) rfl ?_
      refine RO.skip (Un.mk rfl rfl rfl rfl) rfl ?_
      refine RO.skip (Un.mk rfl rfl rfl rfl) rfl ?_
      refine RO.val (Wt.no rfl) rfl (PV.pickT rfl rfl) ?_
      refine RO.nil ?_
      refine CW.condT rfl ?_
      refine CW.reg ?_
      refine RO.val (Wt.no rfl) rfl (PV.assign rfl) ?_
      refine RO.nil ?_
      refine CW.ret ?_
      refine QC.then_r ?_
      obtain rfl := Option.some.inj h
      exact retP1 (Ψ := Φ) [0] (by decide) rfl (RV.tmp rfl) rfl (fun w hΦ => hΦ.1) ⟨(), rfl, rfl, rfl⟩
    · replace hb10 := Bool.eq_false_iff.2 hb10
      replace h := iteF hb10 h
      replace h := bindS h
      obtain ⟨v11, hx12, h⟩ := h
      obtain ⟨hn13, hn14, he15⟩ := aget_some hx12
      replace h := bindS h
      obtain ⟨v16, hx17, h⟩ := h
      refine CW.reg ?_
      refine RO.val (Wt.no rfl) rfl (PV.move rfl) ?_
      refine RO.eff (Wt.no rfl) rfl (EV.call (K := _) Try.call146 rfl (SpecK.callV (W_ring_part a2 hx3))) ?_
      rintro _ _ _ ⟨_, rfl, rfl, rfl⟩
      refine RO.val (Wt.no rfl) rfl (PV.not rfl) ?_
      refine RO.val (Wt.no rfl) rfl ((PV.move rfl).to (congrArg Value.bool hb4)) ?_
      refine RO.val (Wt.yes rfl rfl rfl rfl) rfl (PV.move rfl) ?_
      refine RO.val (Wt.yes rfl rfl rfl rfl) rfl (PV.fieldAddr Try.fa33_2 rfl) ?_
      refine RO.val (Wt.yes rfl rfl rfl rfl) rfl (PV.idxA Try.underlying31 Try.sizeOf30 rfl rfl hn8 (by omega)) ?_
      refine RO.val (Wt.yes rfl rfl rfl rfl) rfl (PV.fieldAddr Try.fa30_0 rfl) ?_
      refine RO.val (Wt.yes rfl rfl rfl rfl) rfl (PV.loadM (l := [.int .i64 v5.Epoch]) 1 Try.TF3 rfl rfl (by rw [cut_Ring_Parts_i_Epoch _ _ _ hn7, he9]) rfl (by decide)) ?_
      refine RO.val (Wt.yes rfl rfl rfl rfl) rfl (PV.eql rfl rfl) ?_
      refine RO.val (Wt.no rfl) rfl (PV.pickF rfl rfl) ?_
      refine RO.val (Wt.no rfl) rfl ((PV.move rfl).to (congrArg Value.bool hb10)) ?_
      refine RO.val (Wt.yes rfl rfl rfl rfl) rfl (PV.move rfl) ?_
      refine RO.val (Wt.yes rfl rfl rfl rfl) rfl (PV.fieldAddr Try.fa33_2 rfl) ?_
      refine RO.val (Wt.yes rfl rfl rfl rfl) rfl (PV.idxA Try.underlying31 Try.sizeOf30 rfl rfl hn14 (by omega)) ?_
      refine RO.val (Wt.yes rfl rfl rfl rfl) rfl (PV.loadM (l := S.t_Entry.enc v11 (hf [])) 1 Try.TF30 rfl rfl (by rw [cut_Ring_Parts_i _ _ _ hn13, he15]) rfl (by decide)) ?_
      refine RO.eff (Wt.yes rfl rfl rfl rfl) rfl (EV.call (K := _) Try.call142 rfl (SpecK.callV (W_entry_May v11 hx17))) ?_
      rintro _ _ _ ⟨_, rfl, rfl, rfl⟩
      refine RO.val (Wt.yes rfl rfl rfl rfl) rfl (PV.not rfl) ?_
      refine RO.val (Wt.no rfl) rfl (PV.pickF rfl rfl) ?_
      refine RO.nil ?_
      refine CW.cond rfl (fun hb18 => ?_) (fun hb18 => ?_)
      · replace h := iteT hb18 h
        refine CW.reg ?_
        refine RO.val (Wt.no rfl) rfl (PV.assign rfl) ?_
        refine RO.nil ?_
        refine CW.ret ?_
        refine QC.then_r ?_
        obtain rfl := Option.some.inj h
        exact retP1 (Ψ := Φ) [0] (by decide) rfl (RV.tmp rfl) rfl (fun w hΦ => hΦ.1) ⟨(), rfl, rfl, rfl⟩
      · replace h := iteF hb18 h
        refine CW.skip ?_
        refine QC.then_n ?_
        replace h := bindS h
        obtain ⟨v19, hx20, h⟩ := h
        obtain ⟨hn21, hn22, he23⟩ := aget_some hx20
        refine CW.reg ?_
        refine RO.val (Wt.no rfl) rfl (PV.move rfl) ?_
        refine RO.val (Wt.no rfl) rfl (PV.fieldAddr Try.fa33_2 rfl) ?_
        refine RO.val (Wt.no rfl) rfl (PV.idxA Try.underlying31 Try.sizeOf30 rfl rfl hn22 (by omega)) ?_
        refine RO.val (Wt.no rfl) rfl (PV.fieldAddr Try.fa30_1 rfl) ?_
        refine RO.val (Wt.no rfl) rfl (PV.loadM (l := [.int .i64 v19.Owner]) 1 Try.TF3 rfl rfl (by rw [cut_Ring_Parts_i_Owner _ _ _ hn21, he23]) rfl (by decide)) ?_
        refine RO.val (Wt.no rfl) rfl (PV.assign rfl) ?_
        refine RO.nil ?_
        refine CW.ret ?_
        obtain rfl := Option.some.inj h
        exact retP1 (Ψ := Φ) [0] (by decide) rfl (RV.tmp rfl) rfl (fun w hΦ => hΦ.1) ⟨(), rfl, rfl, rfl⟩

theorem W_take_May {D : Mem} {Φ : World → Prop} (a1 : S.Msg) (a2 : S.Ring) (b1_0 : Hd) (b1_1 : Hd) (b1_2 : Hd) (b2_0 : Hd) {r : Bool} (h : S.take_May a1 a2 = some r) (hR : ∀ w, MemOk D w → Φ w → (slR S.t_Val w a1.Bag.Values b1_0 ∧ slR (tInt .i64) w a1.Ring.Plan.Targets b1_1 ∧ slR S.t_Claim w a1.Claims b1_2 ∧ slR (tInt .i64) w a2.Plan.Targets b2_0)) :
    SpecK Try.prog 90 [.agg (S.t_Msg.enc a1 (hf [b1_0, b1_1, b1_2])).toArray, .agg (S.t_Ring.enc a2 (hf [b2_0])).toArray] D [] Φ (fun x : Unit => .bool r) (fun x => []) (fun x => []) (fun _ => Φ) := by
  refine enterK Try.func90 rfl Try.ntmps90 rfl ?_
  unfold S.take_May at h
  refine CW.reg ?_
  refine RO.eff (Wt.no rfl) rfl (EV.boxB (B := S.t_Msg.enc a1 (hf [b1_0, b1_1, b1_2])) rfl rfl) ?_
  rintro _ _ _ ⟨g1, rfl, rfl, rfl⟩
  refine RO.eff (Wt.no rfl) rfl (EV.boxB (B := S.t_Ring.enc a2 (hf [b2_0])) rfl rfl) ?_
  rintro _ _ _ ⟨g2, rfl, rfl, rfl⟩
  refine RO.val (Wt.no rfl) rfl (PV.assign rfl) ?_
  refine RO.nil ?_
  replace h := andThen_some h
  obtain ⟨e15, h, hk14⟩ := h
  refine CW.meet (X := Unit) (fun x => [(2, .pointer (some ⟨g1, 0, none⟩)), (3, .pointer (some ⟨g2, 0, none⟩)), (4, .bool false)]) (fun x => [frame D, .blk g1 (S.t_Msg.enc a1 (hf [b1_0, b1_1, b1_2])), .blk g2 (S.t_Ring.enc a2 (hf [b2_0]))]) (fun x w => (Φ w ∧ True)) (fun x => S.take_May_j1 a2 a1 = some r) ?_ ?_
  · skip
    by_cases hb16 : (decide (a1.Kind ≠ 5)) = true
    · replace h := iteT hb16 h
      by_cases hb17 : (decide (a1.Kind ≠ 7)) = true
      · replace h := iteT hb17 h
        refine CW.reg ?_
        refine RO.val (Wt.no rfl) rfl (PV.fieldAddr Try.fa53_0 rfl) ?_
        refine RO.val (Wt.no rfl) rfl (PV.loadM (l := [.int .i64 a1.Kind]) 1 Try.TF3 rfl rfl (cut_Msg_Kind _ _) rfl (by decide)) ?_
        refine RO.val (Wt.no rfl) rfl (PV.neq rfl rfl) ?_
        refine RO.val (Wt.no rfl) rfl ((PV.move rfl).to (congrArg Value.bool hb16)) ?_
        refine RO.val (Wt.yes rfl rfl rfl rfl) rfl (PV.fieldAddr Try.fa53_0 rfl) ?_
        refine RO.val (Wt.yes rfl rfl rfl rfl) rfl (PV.loadM (l := [.int .i64 a1.Kind]) 1 Try.TF3 rfl rfl (cut_Msg_Kind _ _) rfl (by decide)) ?_
        refine RO.val (Wt.yes rfl rfl rfl rfl) rfl (PV.neq rfl rfl) ?_
        refine RO.val (Wt.no rfl) rfl (PV.pickT rfl rfl) ?_
        refine RO.val (Wt.no rfl) rfl ((PV.move rfl).to (congrArg Value.bool hb17)) ?_
        refine RO.skip (Un.mk rfl rfl rfl rfl) rfl ?_
        refine RO.skip (Un.mk rfl rfl rfl rfl) rfl ?_
        refine RO.skip (Un.mk rfl rfl rfl rfl) rfl ?_
        refine RO.val (Wt.no rfl) rfl (PV.pickT rfl rfl) ?_
        refine RO.val (Wt.no rfl) rfl (PV.move rfl) ?_
        refine RO.skip (Un.mk rfl rfl rfl rfl) rfl ?_
        refine RO.skip (Un.mk rfl rfl rfl rfl) rfl ?_
        refine RO.skip (Un.mk rfl rfl rfl rfl) rfl ?_
        refine RO.skip (Un.mk rfl rfl rfl rfl) rfl ?_
        refine RO.skip (Un.mk rfl rfl rfl rfl) rfl ?_
        refine RO.val (Wt.no rfl) rfl (PV.pickT rfl rfl) ?_
        refine RO.val (Wt.no rfl) rfl (PV.move rfl) ?_
        refine RO.skip (Un.mk rfl rfl rfl rfl) rfl ?_
        refine RO.skip (Un.mk rfl rfl rfl rfl) rfl ?_
        refine RO.skip (Un.mk rfl rfl rfl rfl) rfl ?_
        refine RO.val (Wt.no rfl) rfl (PV.pickT rfl rfl) ?_
        refine RO.nil ?_
        refine CW.condT rfl ?_
        refine CW.reg ?_
        refine RO.val (Wt.no rfl) rfl (PV.assign rfl) ?_
        refine RO.nil ?_
        refine CW.ret ?_
        refine QC.then_r ?_
        obtain rfl := Option.some.inj h
        obtain rfl := afterS_inr hk14
        exact retP1 (Ψ := Φ) [0] (by decide) rfl (RV.tmp rfl) rfl (fun w hΦ => hΦ.1) ⟨(), rfl, rfl, rfl⟩
      · replace hb17 := Bool.eq_false_iff.2 hb17
        replace h := iteF hb17 h
        replace h := bindS h
        obtain ⟨v18, hx19, h⟩ := h
        by_cases hb20 : (!v18) = true
        · replace h := iteT hb20 h
          refine CW.reg ?_
          refine RO.val (Wt.no rfl) rfl (PV.fieldAddr Try.fa53_0 rfl) ?_
          refine RO.val (Wt.no rfl) rfl (PV.loadM (l := [.int .i64 a1.Kind]) 1 Try.TF3 rfl rfl (cut_Msg_Kind _ _) rfl (by decide)) ?_
          refine RO.val (Wt.no rfl) rfl (PV.neq rfl rfl) ?_
          refine RO.val (Wt.no rfl) rfl ((PV.move rfl).to (congrArg Value.bool hb16)) ?_
          refine RO.val (Wt.yes rfl rfl rfl rfl) rfl (PV.fieldAddr Try.fa53_0 rfl) ?_
          refine RO.val (Wt.yes rfl rfl rfl rfl) rfl (PV.loadM (l := [.int .i64 a1.Kind]) 1 Try.TF3 rfl rfl (cut_Msg_Kind _ _) rfl (by decide)) ?_
          refine RO.val (Wt.yes rfl rfl rfl rfl) rfl (PV.neq rfl rfl) ?_
          refine RO.val (Wt.no rfl) rfl (PV.pickT rfl rfl) ?_
          refine RO.val (Wt.no rfl) rfl ((PV.move rfl).to (congrArg Value.bool hb17)) ?_
          refine RO.val (Wt.yes rfl rfl rfl rfl) rfl (PV.loadM (l := S.t_Msg.enc a1 (hf [b1_0, b1_1, b1_2])) 1 Try.TF53 rfl rfl (cut_self (S.t_Msg.len _ _)) rfl (by decide)) ?_
          refine RO.eff (Wt.yes rfl rfl rfl rfl) rfl (EV.call (K := _) Try.call55 rfl (SpecK.callV (W_take_placed a1 b1_0 b1_1 b1_2 hx19 (fun w hm hΦ => ⟨(hR w (hm.frameAt (i := 0) rfl) (hΦ.1)).1, (hR w (hm.frameAt (i := 0) rfl) (hΦ.1)).2.1, (hR w (hm.frameAt (i := 0) rfl) (hΦ.1)).2.2.1⟩)))) ?_
          rintro _ _ _ ⟨_, rfl, rfl, rfl⟩
          refine RO.val (Wt.yes rfl rfl rfl rfl) rfl (PV.not rfl) ?_
          refine RO.val (Wt.no rfl) rfl (PV.pickF rfl rfl) ?_
          refine RO.val (Wt.no rfl) rfl ((PV.move rfl).to (congrArg Value.bool hb20)) ?_
          refine RO.skip (Un.mk rfl rfl rfl rfl) rfl ?_
          refine RO.skip (Un.mk rfl rfl rfl rfl) rfl ?_
          refine RO.skip (Un.mk rfl rfl rfl rfl) rfl ?_
          refine RO.skip (Un.mk rfl rfl rfl rfl) rfl ?_
          refine RO.skip (Un.mk rfl rfl rfl rfl) rfl ?_
          refine RO.val (Wt.no rfl) rfl (PV.pickT rfl rfl) ?_
          refine RO.val (Wt.no rfl) rfl (PV.move rfl) ?_
          refine RO.skip (Un.mk rfl rfl rfl rfl) rfl ?_
          refine RO.skip (Un.mk rfl rfl rfl rfl) rfl ?_
          refine RO.skip (Un.mk rfl rfl rfl rfl) rfl ?_
          refine RO.val (Wt.no rfl) rfl (PV.pickT rfl rfl) ?_
          refine RO.nil ?_
          refine CW.condT rfl ?_
          refine CW.reg ?_
          refine RO.val (Wt.no rfl) rfl (PV.assign rfl) ?_
          refine RO.nil ?_
          refine CW.ret ?_
          refine QC.then_r ?_
          obtain rfl := Option.some.inj h
          obtain rfl := afterS_inr hk14
          exact retP1 (Ψ := Φ) [0] (by decide) rfl (RV.tmp rfl) rfl (fun w hΦ => hΦ.1) ⟨(), rfl, rfl, rfl⟩
        · replace hb20 := Bool.eq_false_iff.2 hb20
          replace h := iteF hb20 h
          by_cases hb21 : (decide (a1.From = a1.To)) = true
          · replace h := iteT hb21 h
            refine CW.reg ?_
            refine RO.val (Wt.no rfl) rfl (PV.fieldAddr Try.fa53_0 rfl) ?_
            refine RO.val (Wt.no rfl) rfl (PV.loadM (l := [.int .i64 a1.Kind]) 1 Try.TF3 rfl rfl (cut_Msg_Kind _ _) rfl (by decide)) ?_
            refine RO.val (Wt.no rfl) rfl (PV.neq rfl rfl) ?_
            refine RO.val (Wt.no rfl) rfl ((PV.move rfl).to (congrArg Value.bool hb16)) ?_
            refine RO.val (Wt.yes rfl rfl rfl rfl) rfl (PV.fieldAddr Try.fa53_0 rfl) ?_
            refine RO.val (Wt.yes rfl rfl rfl rfl) rfl (PV.loadM (l := [.int .i64 a1.Kind]) 1 Try.TF3 rfl rfl (cut_Msg_Kind _ _) rfl (by decide)) ?_
            refine RO.val (Wt.yes rfl rfl rfl rfl) rfl (PV.neq rfl rfl) ?_
            refine RO.val (Wt.no rfl) rfl (PV.pickT rfl rfl) ?_
            refine RO.val (Wt.no rfl) rfl ((PV.move rfl).to (congrArg Value.bool hb17)) ?_
            refine RO.val (Wt.yes rfl rfl rfl rfl) rfl (PV.loadM (l := S.t_Msg.enc a1 (hf [b1_0, b1_1, b1_2])) 1 Try.TF53 rfl rfl (cut_self (S.t_Msg.len _ _)) rfl (by decide)) ?_
            refine RO.eff (Wt.yes rfl rfl rfl rfl) rfl (EV.call (K := _) Try.call55 rfl (SpecK.callV (W_take_placed a1 b1_0 b1_1 b1_2 hx19 (fun w hm hΦ => ⟨(hR w (hm.frameAt (i := 0) rfl) (hΦ.1)).1, (hR w (hm.frameAt (i := 0) rfl) (hΦ.1)).2.1, (hR w (hm.frameAt (i := 0) rfl) (hΦ.1)).2.2.1⟩)))) ?_
            rintro _ _ _ ⟨_, rfl, rfl, rfl⟩
            refine RO.val (Wt.yes rfl rfl rfl rfl) rfl (PV.not rfl) ?_
            refine RO.val (Wt.no rfl) rfl (PV.pickF rfl rfl) ?_
            refine RO.val (Wt.no rfl) rfl ((PV.move rfl).to (congrArg Value.bool hb20)) ?_
            refine RO.val (Wt.yes rfl rfl rfl rfl) rfl (PV.fieldAddr Try.fa53_1 rfl) ?_
            refine RO.val (Wt.yes rfl rfl rfl rfl) rfl (PV.loadM (l := [.int .i64 a1.From]) 1 Try.TF3 rfl rfl (cut_Msg_From _ _) rfl (by decide)) ?_
            refine RO.val (Wt.yes rfl rfl rfl rfl) rfl (PV.fieldAddr Try.fa53_2 rfl) ?_
            refine RO.val (Wt.yes rfl rfl rfl rfl) rfl (PV.loadM (l := [.int .i64 a1.To]) 1 Try.TF3 rfl rfl (cut_Msg_To _ _) rfl (by decide)) ?_
            refine RO.val (Wt.yes rfl rfl rfl rfl) rfl (PV.eql rfl rfl) ?_
            refine RO.val (Wt.no rfl) rfl (PV.pickF rfl rfl) ?_
            refine RO.val (Wt.no rfl) rfl ((PV.move rfl).to (congrArg Value.bool hb21)) ?_
            refine RO.skip (Un.mk rfl rfl rfl rfl) rfl ?_
            refine RO.skip (Un.mk rfl rfl rfl rfl) rfl ?_
            refine RO.skip (Un.mk rfl rfl rfl rfl) rfl ?_
            refine RO.val (Wt.no rfl) rfl (PV.pickT rfl rfl) ?_
            refine RO.nil ?_
            refine CW.condT rfl ?_
            refine CW.reg ?_
            refine RO.val (Wt.no rfl) rfl (PV.assign rfl) ?_
            refine RO.nil ?_
            refine CW.ret ?_
            refine QC.then_r ?_
            obtain rfl := Option.some.inj h
            obtain rfl := afterS_inr hk14
            exact retP1 (Ψ := Φ) [0] (by decide) rfl (RV.tmp rfl) rfl (fun w hΦ => hΦ.1) ⟨(), rfl, rfl, rfl⟩
          · replace hb21 := Bool.eq_false_iff.2 hb21
            replace h := iteF hb21 h
            replace h := bindS h
            obtain ⟨v22, hx23, h⟩ := h
            refine CW.reg ?_
            refine RO.val (Wt.no rfl) rfl (PV.fieldAddr Try.fa53_0 rfl) ?_
            refine RO.val (Wt.no rfl) rfl (PV.loadM (l := [.int .i64 a1.Kind]) 1 Try.TF3 rfl rfl (cut_Msg_Kind _ _) rfl (by decide)) ?_
            refine RO.val (Wt.no rfl) rfl (PV.neq rfl rfl) ?_
            refine RO.val (Wt.no rfl) rfl ((PV.move rfl).to (congrArg Value.bool hb16)) ?_
            refine RO.val (Wt.yes rfl rfl rfl rfl) rfl (PV.fieldAddr Try.fa53_0 rfl) ?_
            refine RO.val (Wt.yes rfl rfl rfl rfl) rfl (PV.loadM (l := [.int .i64 a1.Kind]) 1 Try.TF3 rfl rfl (cut_Msg_Kind _ _) rfl (by decide)) ?_
            refine RO.val (Wt.yes rfl rfl rfl rfl) rfl (PV.neq rfl rfl) ?_
            refine RO.val (Wt.no rfl) rfl (PV.pickT rfl rfl) ?_
            refine RO.val (Wt.no rfl) rfl ((PV.move rfl).to (congrArg Value.bool hb17)) ?_
            refine RO.val (Wt.yes rfl rfl rfl rfl) rfl (PV.loadM (l := S.t_Msg.enc a1 (hf [b1_0, b1_1, b1_2])) 1 Try.TF53 rfl rfl (cut_self (S.t_Msg.len _ _)) rfl (by decide)) ?_
            refine RO.eff (Wt.yes rfl rfl rfl rfl) rfl (EV.call (K := _) Try.call55 rfl (SpecK.callV (W_take_placed a1 b1_0 b1_1 b1_2 hx19 (fun w hm hΦ => ⟨(hR w (hm.frameAt (i := 0) rfl) (hΦ.1)).1, (hR w (hm.frameAt (i := 0) rfl) (hΦ.1)).2.1, (hR w (hm.frameAt (i := 0) rfl) (hΦ.1)).2.2.1⟩)))) ?_
            rintro _ _ _ ⟨_, rfl, rfl, rfl⟩
            refine RO.val (Wt.yes rfl rfl rfl rfl) rfl (PV.not rfl) ?_
            refine RO.val (Wt.no rfl) rfl (PV.pickF rfl rfl) ?_
            refine RO.val (Wt.no rfl) rfl ((PV.move rfl).to (congrArg Value.bool hb20)) ?_
            refine RO.val (Wt.yes rfl rfl rfl rfl) rfl (PV.fieldAddr Try.fa53_1 rfl) ?_
            refine RO.val (Wt.yes rfl rfl rfl rfl) rfl (PV.loadM (l := [.int .i64 a1.From]) 1 Try.TF3 rfl rfl (cut_Msg_From _ _) rfl (by decide)) ?_
            refine RO.val (Wt.yes rfl rfl rfl rfl) rfl (PV.fieldAddr Try.fa53_2 rfl) ?_
            refine RO.val (Wt.yes rfl rfl rfl rfl) rfl (PV.loadM (l := [.int .i64 a1.To]) 1 Try.TF3 rfl rfl (cut_Msg_To _ _) rfl (by decide)) ?_
            refine RO.val (Wt.yes rfl rfl rfl rfl) rfl (PV.eql rfl rfl) ?_
            refine RO.val (Wt.no rfl) rfl (PV.pickF rfl rfl) ?_
            refine RO.val (Wt.no rfl) rfl ((PV.move rfl).to (congrArg Value.bool hb21)) ?_
            refine RO.val (Wt.yes rfl rfl rfl rfl) rfl (PV.loadM (l := S.t_Ring.enc a2 (hf [b2_0])) 2 Try.TF33 rfl rfl (cut_self (S.t_Ring.len _ _)) rfl (by decide)) ?_
            refine RO.eff (Wt.yes rfl rfl rfl rfl) rfl (EV.call (K := _) Try.call115 rfl (SpecK.callV (W_ring_May a2 b2_0 hx23 (fun w hm hΦ => (hR w (hm.frameAt (i := 0) rfl) (hΦ.1)).2.2.2)))) ?_
            rintro _ _ _ ⟨_, rfl, rfl, rfl⟩
            refine RO.val (Wt.yes rfl rfl rfl rfl) rfl (PV.not rfl) ?_
            refine RO.val (Wt.no rfl) rfl (PV.pickF rfl rfl) ?_
            refine RO.nil ?_
            refine CW.cond rfl (fun hb24 => ?_) (fun hb24 => ?_)
            · replace h := iteT hb24 h
              refine CW.reg ?_
              refine RO.val (Wt.no rfl) rfl (PV.assign rfl) ?_
              refine RO.nil ?_
              refine CW.ret ?_
              refine QC.then_r ?_
              obtain rfl := Option.some.inj h
              obtain rfl := afterS_inr hk14
              exact retP1 (Ψ := Φ) [0] (by decide) rfl (RV.tmp rfl) rfl (fun w hΦ => hΦ.1) ⟨(), rfl, rfl, rfl⟩
            · replace h := iteF hb24 h
              refine CW.skip ?_
              obtain rfl := Option.some.inj h
              refine QC.meetP () (afterS_inl hk14) [0, 1, 2] (by decide) (by exact ⟨rfl, rfl, rfl, trivial⟩) rfl (fun w hΦ => hΦ)
    · replace hb16 := Bool.eq_false_iff.2 hb16
      replace h := iteF hb16 h
      replace h := bindS h
      obtain ⟨v25, hx26, h⟩ := h
      by_cases hb27 : (!v25) = true
      · replace h := iteT hb27 h
        refine CW.reg ?_
        refine RO.val (Wt.no rfl) rfl (PV.fieldAddr Try.fa53_0 rfl) ?_
        refine RO.val (Wt.no rfl) rfl (PV.loadM (l := [.int .i64 a1.Kind]) 1 Try.TF3 rfl rfl (cut_Msg_Kind _ _) rfl (by decide)) ?_
        refine RO.val (Wt.no rfl) rfl (PV.neq rfl rfl) ?_
        refine RO.val (Wt.no rfl) rfl ((PV.move rfl).to (congrArg Value.bool hb16)) ?_
        refine RO.skip (Un.mk rfl rfl rfl rfl) rfl ?_
        refine RO.skip (Un.mk rfl rfl rfl rfl) rfl ?_
        refine RO.skip (Un.mk rfl rfl rfl rfl) rfl ?_
        refine RO.val (Wt.no rfl) rfl (PV.pickF rfl rfl) ?_
        refine RO.val (Wt.no rfl) rfl (PV.move rfl) ?_
        refine RO.val (Wt.yes rfl rfl rfl rfl) rfl (PV.loadM (l := S.t_Msg.enc a1 (hf [b1_0, b1_1, b1_2])) 1 Try.TF53 rfl rfl (cut_self (S.t_Msg.len _ _)) rfl (by decide)) ?_
        refine RO.eff (Wt.yes rfl rfl rfl rfl) rfl (EV.call (K := _) Try.call55 rfl (SpecK.callV (W_take_placed a1 b1_0 b1_1 b1_2 hx26 (fun w hm hΦ => ⟨(hR w (hm.frameAt (i := 0) rfl) (hΦ.1)).1, (hR w (hm.frameAt (i := 0) rfl) (hΦ.1)).2.1, (hR w (hm.frameAt (i := 0) rfl) (hΦ.1)).2.2.1⟩)))) ?_
        rintro _ _ _ ⟨_, rfl, rfl, rfl⟩
        refine RO.val (Wt.yes rfl rfl rfl rfl) rfl (PV.not rfl) ?_
        refine RO.val (Wt.no rfl) rfl (PV.pickF rfl rfl) ?_
        refine RO.val (Wt.no rfl) rfl ((PV.move rfl).to (congrArg Value.bool hb27)) ?_
        refine RO.skip (Un.mk rfl rfl rfl rfl) rfl ?_
        refine RO.skip (Un.mk rfl rfl rfl rfl) rfl ?_
        refine RO.skip (Un.mk rfl rfl rfl rfl) rfl ?_
        refine RO.skip (Un.mk rfl rfl rfl rfl) rfl ?_
        refine RO.skip (Un.mk rfl rfl rfl rfl) rfl ?_
        refine RO.val (Wt.no rfl) rfl (PV.pickT rfl rfl) ?_
        refine RO.val (Wt.no rfl) rfl (PV.move rfl) ?_
        refine RO.skip (Un.mk rfl rfl rfl rfl) rfl ?_
        refine RO.skip (Un.mk rfl rfl rfl rfl) rfl ?_
        refine RO.skip (Un.mk rfl rfl rfl rfl) rfl ?_
        refine RO.val (Wt.no rfl) rfl (PV.pickT rfl rfl) ?_
        refine RO.nil ?_
        refine CW.condT rfl ?_
        refine CW.reg ?_
        refine RO.val (Wt.no rfl) rfl (PV.assign rfl) ?_
        refine RO.nil ?_
        refine CW.ret ?_
        refine QC.then_r ?_
        obtain rfl := Option.some.inj h
        obtain rfl := afterS_inr hk14
        exact retP1 (Ψ := Φ) [0] (by decide) rfl (RV.tmp rfl) rfl (fun w hΦ => hΦ.1) ⟨(), rfl, rfl, rfl⟩
      · replace hb27 := Bool.eq_false_iff.2 hb27
        replace h := iteF hb27 h
        by_cases hb28 : (decide (a1.From = a1.To)) = true
        · replace h := iteT hb28 h
          refine CW.reg ?_
          refine RO.val (Wt.no rfl) rfl (PV.fieldAddr Try.fa53_0 rfl) ?_
          refine RO.val (Wt.no rfl) rfl (PV.loadM (l := [.int .i64 a1.Kind]) 1 Try.TF3 rfl rfl (cut_Msg_Kind _ _) rfl (by decide)) ?_
          refine RO.val (Wt.no rfl) rfl (PV.neq rfl rfl) ?_
          refine RO.val (Wt.no rfl) rfl ((PV.move rfl).to (congrArg Value.bool hb16)) ?_
          refine RO.skip (Un.mk rfl rfl rfl rfl) rfl ?_
          refine RO.skip (Un.mk rfl rfl rfl rfl) rfl ?_
          refine RO.skip (Un.mk rfl rfl rfl rfl) rfl ?_
          refine RO.val (Wt.no rfl) rfl (PV.pickF rfl rfl) ?_
          refine RO.val (Wt.no rfl) rfl (PV.move rfl) ?_
          refine RO.val (Wt.yes rfl rfl rfl rfl) rfl (PV.loadM (l := S.t_Msg.enc a1 (hf [b1_0, b1_1, b1_2])) 1 Try.TF53 rfl rfl (cut_self (S.t_Msg.len _ _)) rfl (by decide)) ?_
          refine RO.eff (Wt.yes rfl rfl rfl rfl) rfl (EV.call (K := _) Try.call55 rfl (SpecK.callV (W_take_placed a1 b1_0 b1_1 b1_2 hx26 (fun w hm hΦ => ⟨(hR w (hm.frameAt (i := 0) rfl) (hΦ.1)).1, (hR w (hm.frameAt (i := 0) rfl) (hΦ.1)).2.1, (hR w (hm.frameAt (i := 0) rfl) (hΦ.1)).2.2.1⟩)))) ?_
          rintro _ _ _ ⟨_, rfl, rfl, rfl⟩
          refine RO.val (Wt.yes rfl rfl rfl rfl) rfl (PV.not rfl) ?_
          refine RO.val (Wt.no rfl) rfl (PV.pickF rfl rfl) ?_
          refine RO.val (Wt.no rfl) rfl ((PV.move rfl).to (congrArg Value.bool hb27)) ?_
          refine RO.val (Wt.yes rfl rfl rfl rfl) rfl (PV.fieldAddr Try.fa53_1 rfl) ?_
          refine RO.val (Wt.yes rfl rfl rfl rfl) rfl (PV.loadM (l := [.int .i64 a1.From]) 1 Try.TF3 rfl rfl (cut_Msg_From _ _) rfl (by decide)) ?_
          refine RO.val (Wt.yes rfl rfl rfl rfl) rfl (PV.fieldAddr Try.fa53_2 rfl) ?_
          refine RO.val (Wt.yes rfl rfl rfl rfl) rfl (PV.loadM (l := [.int .i64 a1.To]) 1 Try.TF3 rfl rfl (cut_Msg_To _ _) rfl (by decide)) ?_
          refine RO.val (Wt.yes rfl rfl rfl rfl) rfl (PV.eql rfl rfl) ?_
          refine RO.val (Wt.no rfl) rfl (PV.pickF rfl rfl) ?_
          refine RO.val (Wt.no rfl) rfl ((PV.move rfl).to (congrArg Value.bool hb28)) ?_
          refine RO.skip (Un.mk rfl rfl rfl rfl) rfl ?_
          refine RO.skip (Un.mk rfl rfl rfl rfl) rfl ?_
          refine RO.skip (Un.mk rfl rfl rfl rfl) rfl ?_
          refine RO.val (Wt.no rfl) rfl (PV.pickT rfl rfl) ?_
          refine RO.nil ?_
          refine CW.condT rfl ?_
          refine CW.reg ?_
          refine RO.val (Wt.no rfl) rfl (PV.assign rfl) ?_
          refine RO.nil ?_
          refine CW.ret ?_
          refine QC.then_r ?_
          obtain rfl := Option.some.inj h
          obtain rfl := afterS_inr hk14
          exact retP1 (Ψ := Φ) [0] (by decide) rfl (RV.tmp rfl) rfl (fun w hΦ => hΦ.1) ⟨(), rfl, rfl, rfl⟩
        · replace hb28 := Bool.eq_false_iff.2 hb28
          replace h := iteF hb28 h
          replace h := bindS h
          obtain ⟨v29, hx30, h⟩ := h
          refine CW.reg ?_
          refine RO.val (Wt.no rfl) rfl (PV.fieldAddr Try.fa53_0 rfl) ?_
          refine RO.val (Wt.no rfl) rfl (PV.loadM (l := [.int .i64 a1.Kind]) 1 Try.TF3 rfl rfl (cut_Msg_Kind _ _) rfl (by decide)) ?_
          refine RO.val (Wt.no rfl) rfl (PV.neq rfl rfl) ?_
          refine RO.val (Wt.no rfl) rfl ((PV.move rfl).to (congrArg Value.bool hb16)) ?_
          refine RO.skip (Un.mk rfl rfl rfl rfl) rfl ?_
          refine RO.skip (Un.mk rfl rfl rfl rfl) rfl ?_
          refine RO.skip (Un.mk rfl rfl rfl rfl) rfl ?_
          refine RO.val (Wt.no rfl) rfl (PV.pickF rfl rfl) ?_
          refine RO.val (Wt.no rfl) rfl (PV.move rfl) ?_
          refine RO.val (Wt.yes rfl rfl rfl rfl) rfl (PV.loadM (l := S.t_Msg.enc a1 (hf [b1_0, b1_1, b1_2])) 1 Try.TF53 rfl rfl (cut_self (S.t_Msg.len _ _)) rfl (by decide)) ?_
          refine RO.eff (Wt.yes rfl rfl rfl rfl) rfl (EV.call (K := _) Try.call55 rfl (SpecK.callV (W_take_placed a1 b1_0 b1_1 b1_2 hx26 (fun w hm hΦ => ⟨(hR w (hm.frameAt (i := 0) rfl) (hΦ.1)).1, (hR w (hm.frameAt (i := 0) rfl) (hΦ.1)).2.1, (hR w (hm.frameAt (i := 0) rfl) (hΦ.1)).2.2.1⟩)))) ?_
          rintro _ _ _ ⟨_, rfl, rfl, rfl⟩
          refine RO.val (Wt.yes rfl rfl rfl rfl) rfl (PV.not rfl) ?_
          refine RO.val (Wt.no rfl) rfl (PV.pickF rfl rfl) ?_
          refine RO.val (Wt.no rfl) rfl ((PV.move rfl).to (congrArg Value.bool hb27)) ?_
          refine RO.val (Wt.yes rfl rfl rfl rfl) rfl (PV.fieldAddr Try.fa53_1 rfl) ?_
          refine RO.val (Wt.yes rfl rfl rfl rfl) rfl (PV.loadM (l := [.int .i64 a1.From]) 1 Try.TF3 rfl rfl (cut_Msg_From _ _) rfl (by decide)) ?_
          refine RO.val (Wt.yes rfl rfl rfl rfl) rfl (PV.fieldAddr Try.fa53_2 rfl) ?_
          refine RO.val (Wt.yes rfl rfl rfl rfl) rfl (PV.loadM (l := [.int .i64 a1.To]) 1 Try.TF3 rfl rfl (cut_Msg_To _ _) rfl (by decide)) ?_
          refine RO.val (Wt.yes rfl rfl rfl rfl) rfl (PV.eql rfl rfl) ?_
          refine RO.val (Wt.no rfl) rfl (PV.pickF rfl rfl) ?_
          refine RO.val (Wt.no rfl) rfl ((PV.move rfl).to (congrArg Value.bool hb28)) ?_
          refine RO.val (Wt.yes rfl rfl rfl rfl) rfl (PV.loadM (l := S.t_Ring.enc a2 (hf [b2_0])) 2 Try.TF33 rfl rfl (cut_self (S.t_Ring.len _ _)) rfl (by decide)) ?_
          refine RO.eff (Wt.yes rfl rfl rfl rfl) rfl (EV.call (K := _) Try.call115 rfl (SpecK.callV (W_ring_May a2 b2_0 hx30 (fun w hm hΦ => (hR w (hm.frameAt (i := 0) rfl) (hΦ.1)).2.2.2)))) ?_
          rintro _ _ _ ⟨_, rfl, rfl, rfl⟩
          refine RO.val (Wt.yes rfl rfl rfl rfl) rfl (PV.not rfl) ?_
          refine RO.val (Wt.no rfl) rfl (PV.pickF rfl rfl) ?_
          refine RO.nil ?_
          refine CW.cond rfl (fun hb31 => ?_) (fun hb31 => ?_)
          · replace h := iteT hb31 h
            refine CW.reg ?_
            refine RO.val (Wt.no rfl) rfl (PV.assign rfl) ?_
            refine RO.nil ?_
            refine CW.ret ?_
            refine QC.then_r ?_
            obtain rfl := Option.some.inj h
            obtain rfl := afterS_inr hk14
            exact retP1 (Ψ := Φ) [0] (by decide) rfl (RV.tmp rfl) rfl (fun w hΦ => hΦ.1) ⟨(), rfl, rfl, rfl⟩
          · replace h := iteF hb31 h
            refine CW.skip ?_
            obtain rfl := Option.some.inj h
            refine QC.meetP () (afterS_inl hk14) [0, 1, 2] (by decide) (by exact ⟨rfl, rfl, rfl, trivial⟩) rfl (fun w hΦ => hΦ)
  · rintro ⟨⟩ h
    try dsimp only at h ⊢
    unfold S.take_May_j1 at h
    replace h := bindS h
    obtain ⟨v4, hx5, h⟩ := h
    obtain ⟨hn6, hn7, he8⟩ := aget_some hx5
    refine CW.reg ?_
    refine RO.val (Wt.no rfl) rfl (PV.fieldAddr Try.fa53_6 rfl) ?_
    refine RO.val (Wt.no rfl) rfl (PV.loadM (l := [.int .i64 a1.Part]) 1 Try.TF3 rfl rfl (cut_Msg_Part _ _) rfl (by decide)) ?_
    refine RO.val (Wt.no rfl) rfl (PV.fieldAddr Try.fa33_2 rfl) ?_
    refine RO.val (Wt.no rfl) rfl (PV.idxA Try.underlying31 Try.sizeOf30 rfl rfl hn7 (by omega)) ?_
    refine RO.val (Wt.no rfl) rfl (PV.loadM (l := S.t_Entry.enc v4 (hf [])) 2 Try.TF30 rfl rfl (by rw [cut_Ring_Parts_i _ _ _ hn6, he8]) rfl (by decide)) ?_
    refine RO.eff (Wt.no rfl) rfl (EV.allocB (B := S.t_Entry.enc S.Entry.z (hf [])) Try.zeroValue30 rfl) ?_
    rintro _ _ _ ⟨g9, rfl, rfl, rfl⟩
    refine RO.eff (Wt.no rfl) rfl (EV.storeW (B := S.t_Entry.enc v4 (hf [])) 3 Try.TF30 rfl rfl rfl (by exact S.t_Entry.len v4 (hf [])) (by exact S.t_Entry.one v4 (hf [])) (S.t_Entry.len S.Entry.z (hf [])) rfl) ?_
    rintro _ _ _ ⟨rfl, rfl, rfl⟩
    refine RO.nil ?_
    by_cases hb10 : (decide (v4.Epoch < a1.Epoch)) = true
    · replace h := iteT hb10 h
      refine CW.regD (pickM [0, 1, 2, 3] _) _ (by kernel_rfl) (St.of (by decide) rfl (fun _ h => h)) ?_
      refine RD.take 0 rfl (by kernel_rfl) (by kernel_rfl) (by kernel_rfl) (Wt.no rfl) rfl (PV.fieldAddr Try.fa53_7 rfl) ?_
      refine RD.take 1 rfl (by kernel_rfl) (by kernel_rfl) (by kernel_rfl) (Wt.no rfl) rfl (PV.loadM (l := [.int .i64 a1.Epoch]) 1 Try.TF3 rfl rfl (cut_Msg_Epoch _ _) rfl (by decide)) ?_
      refine RD.take 2 rfl (by kernel_rfl) (by kernel_rfl) (by kernel_rfl) (Wt.no rfl) rfl (PV.fieldAddr Try.fa30_0 rfl) ?_
      refine RD.take 3 rfl (by kernel_rfl) (by kernel_rfl) (by kernel_rfl) (Wt.no rfl) rfl (PV.loadM (l := [.int .i64 v4.Epoch]) 3 Try.TF3 rfl rfl (cut_Entry_Epoch _ _) rfl (by decide)) ?_
      refine RD.take 4 rfl (by kernel_rfl) (by kernel_rfl) (by kernel_rfl) (Wt.no rfl) rfl (PV.gtr rfl rfl) ?_
      refine RD.take 5 rfl (by kernel_rfl) (by kernel_rfl) (by kernel_rfl) (Wt.no rfl) rfl ((PV.move rfl).to (congrArg Value.bool hb10)) ?_
      refine RD.takeNo 6 rfl (by kernel_rfl) (by kernel_rfl) (by kernel_rfl) (Un.mk rfl rfl rfl rfl) rfl ?_
      refine RD.takeNo 7 rfl (by kernel_rfl) (by kernel_rfl) (by kernel_rfl) (Un.mk rfl rfl rfl rfl) rfl ?_
      refine RD.takeNo 8 rfl (by kernel_rfl) (by kernel_rfl) (by kernel_rfl) (Un.mk rfl rfl rfl rfl) rfl ?_
      refine RD.takeNo 9 rfl (by kernel_rfl) (by kernel_rfl) (by kernel_rfl) (Un.mk rfl rfl rfl rfl) rfl ?_
      refine RD.takeNo 10 rfl (by kernel_rfl) (by kernel_rfl) (by kernel_rfl) (Un.mk rfl rfl rfl rfl) rfl ?_
      refine RD.takeNo 11 rfl (by kernel_rfl) (by kernel_rfl) (by kernel_rfl) (Un.mk rfl rfl rfl rfl) rfl ?_
      refine RD.takeNo 12 rfl (by kernel_rfl) (by kernel_rfl) (by kernel_rfl) (Un.undef rfl rfl rfl rfl) rfl ?_
      refine RD.takeNo 13 rfl (by kernel_rfl) (by kernel_rfl) (by kernel_rfl) (Un.undef rfl rfl rfl rfl) rfl ?_
      refine RD.takeNo 14 rfl (by kernel_rfl) (by kernel_rfl) (by kernel_rfl) (Un.undef rfl rfl rfl rfl) rfl ?_
      refine RD.takeNo 15 rfl (by kernel_rfl) (by kernel_rfl) (by kernel_rfl) (Un.undef rfl rfl rfl rfl) rfl ?_
      refine RD.takeNo 16 rfl (by kernel_rfl) (by kernel_rfl) (by kernel_rfl) (Un.undef rfl rfl rfl rfl) rfl ?_
      refine RD.takeNo 17 rfl (by kernel_rfl) (by kernel_rfl) (by kernel_rfl) (Un.undef rfl rfl rfl rfl) rfl ?_
      refine RD.takeNo 18 rfl (by kernel_rfl) (by kernel_rfl) (by kernel_rfl) (Un.undef rfl rfl rfl rfl) rfl ?_
      refine RD.takeNo 19 rfl (by kernel_rfl) (by kernel_rfl) (by kernel_rfl) (Un.mk rfl rfl rfl rfl) rfl ?_
      refine RD.take 20 rfl (by kernel_rfl) (by kernel_rfl) (by kernel_rfl) (Wt.no rfl) rfl (PV.pickT rfl rfl) ?_
      refine RD.take 21 rfl (by kernel_rfl) (by kernel_rfl) (by kernel_rfl) (Wt.no rfl) rfl (PV.assign rfl) ?_
      refine RD.done (by kernel_rfl) ?_
      refine CW.ret ?_
      obtain rfl := Option.some.inj h
      exact retP1 (Ψ := Φ) [0] (by decide) rfl (RV.tmp rfl) rfl (fun w hΦ => hΦ.1) ⟨(), rfl, rfl, rfl⟩
    · replace hb10 := Bool.eq_false_iff.2 hb10
      replace h := iteF hb10 h
      by_cases hb11 : (decide (a1.Epoch = v4.Epoch)) = true
      · replace h := iteT hb11 h
        replace h := bindS h
        obtain ⟨v12, hx13, h⟩ := h
        refine CW.regD (pickM [0, 1, 2, 3] _) _ (by kernel_rfl) (St.of (by decide) rfl (fun _ h => h)) ?_
        refine RD.take 0 rfl (by kernel_rfl) (by kernel_rfl) (by kernel_rfl) (Wt.no rfl) rfl (PV.fieldAddr Try.fa53_7 rfl) ?_
        refine RD.take 1 rfl (by kernel_rfl) (by kernel_rfl) (by kernel_rfl) (Wt.no rfl) rfl (PV.loadM (l := [.int .i64 a1.Epoch]) 1 Try.TF3 rfl rfl (cut_Msg_Epoch _ _) rfl (by decide)) ?_
        refine RD.take 2 rfl (by kernel_rfl) (by kernel_rfl) (by kernel_rfl) (Wt.no rfl) rfl (PV.fieldAddr Try.fa30_0 rfl) ?_
        refine RD.take 3 rfl (by kernel_rfl) (by kernel_rfl) (by kernel_rfl) (Wt.no rfl) rfl (PV.loadM (l := [.int .i64 v4.Epoch]) 3 Try.TF3 rfl rfl (cut_Entry_Epoch _ _) rfl (by decide)) ?_
        refine RD.take 4 rfl (by kernel_rfl) (by kernel_rfl) (by kernel_rfl) (Wt.no rfl) rfl (PV.gtr rfl rfl) ?_
        refine RD.take 5 rfl (by kernel_rfl) (by kernel_rfl) (by kernel_rfl) (Wt.no rfl) rfl ((PV.move rfl).to (congrArg Value.bool hb10)) ?_
        refine RD.take 6 rfl (by kernel_rfl) (by kernel_rfl) (by kernel_rfl) (Wt.yes rfl rfl rfl rfl) rfl (PV.fieldAddr Try.fa53_7 rfl) ?_
        refine RD.take 7 rfl (by kernel_rfl) (by kernel_rfl) (by kernel_rfl) (Wt.yes rfl rfl rfl rfl) rfl (PV.loadM (l := [.int .i64 a1.Epoch]) 1 Try.TF3 rfl rfl (cut_Msg_Epoch _ _) rfl (by decide)) ?_
        refine RD.take 8 rfl (by kernel_rfl) (by kernel_rfl) (by kernel_rfl) (Wt.yes rfl rfl rfl rfl) rfl (PV.fieldAddr Try.fa30_0 rfl) ?_
        refine RD.take 9 rfl (by kernel_rfl) (by kernel_rfl) (by kernel_rfl) (Wt.yes rfl rfl rfl rfl) rfl (PV.loadM (l := [.int .i64 v4.Epoch]) 3 Try.TF3 rfl rfl (cut_Entry_Epoch _ _) rfl (by decide)) ?_
        refine RD.take 10 rfl (by kernel_rfl) (by kernel_rfl) (by kernel_rfl) (Wt.yes rfl rfl rfl rfl) rfl (PV.eql rfl rfl) ?_
        refine RD.take 11 rfl (by kernel_rfl) (by kernel_rfl) (by kernel_rfl) (Wt.yes rfl rfl rfl rfl) rfl ((PV.move rfl).to (congrArg Value.bool hb11)) ?_
        refine RD.take 12 rfl (by kernel_rfl) (by kernel_rfl) (by kernel_rfl) (Wt.yes rfl rfl rfl rfl) rfl (PV.loadM (l := S.t_Ring.enc a2 (hf [b2_0])) 2 Try.TF33 rfl rfl (cut_self (S.t_Ring.len _ _)) rfl (by decide)) ?_
        refine RD.take 13 rfl (by kernel_rfl) (by kernel_rfl) (by kernel_rfl) (Wt.yes rfl rfl rfl rfl) rfl (PV.fieldAddr Try.fa53_6 rfl) ?_
        refine RD.take 14 rfl (by kernel_rfl) (by kernel_rfl) (by kernel_rfl) (Wt.yes rfl rfl rfl rfl) rfl (PV.loadM (l := [.int .i64 a1.Part]) 1 Try.TF3 rfl rfl (cut_Msg_Part _ _) rfl (by decide)) ?_
        refine RD.take 16 rfl (by kernel_rfl) (by kernel_rfl) (by kernel_rfl) (Wt.yes rfl rfl rfl rfl) rfl (PV.fieldAddr Try.fa53_1 rfl) ?_
        refine RD.take 17 rfl (by kernel_rfl) (by kernel_rfl) (by kernel_rfl) (Wt.yes rfl rfl rfl rfl) rfl (PV.loadM (l := [.int .i64 a1.From]) 1 Try.TF3 rfl rfl (cut_Msg_From _ _) rfl (by decide)) ?_
        refine RD.one 15 (by kernel_rfl) ?_
        refine Up.eff rfl (Wt.yes rfl rfl rfl rfl) rfl (EV.call (K := _) Try.call116 rfl (SpecK.callV (W_ring_Owner a2 a1.Part b2_0 hx13 (fun w hm hΦ => (hR w (hm.frameAt (i := 0) rfl) (hΦ.1)).2.2.2)))) ?_ ?_
        · rintro _ _ _ ⟨_, rfl, rfl, rfl⟩; exact St.of' (by decide) (L' := [0, 1, 2, 3]) rfl (fun _ h => h)
        rintro _ _ _ ⟨_, rfl, rfl, rfl⟩
        refine RD.take 18 rfl (by kernel_rfl) (by kernel_rfl) (by kernel_rfl) (Wt.yes rfl rfl rfl rfl) rfl (PV.eql rfl rfl) ?_
        refine RD.take 19 rfl (by kernel_rfl) (by kernel_rfl) (by kernel_rfl) (Wt.yes rfl rfl rfl rfl) rfl (PV.pickT rfl rfl) ?_
        refine RD.take 20 rfl (by kernel_rfl) (by kernel_rfl) (by kernel_rfl) (Wt.no rfl) rfl (PV.pickF rfl rfl) ?_
        refine RD.take 21 rfl (by kernel_rfl) (by kernel_rfl) (by kernel_rfl) (Wt.no rfl) rfl (PV.assign rfl) ?_
        refine RD.done (by kernel_rfl) ?_
        refine CW.ret ?_
        obtain rfl := Option.some.inj h
        exact retP1 (Ψ := Φ) [0] (by decide) rfl (RV.tmp rfl) rfl (fun w hΦ => hΦ.1) ⟨(), rfl, rfl, rfl⟩
      · replace hb11 := Bool.eq_false_iff.2 hb11
        replace h := iteF hb11 h
        refine CW.regD (pickM [0, 1, 2, 3] _) _ (by kernel_rfl) (St.of (by decide) rfl (fun _ h => h)) ?_
        refine RD.take 0 rfl (by kernel_rfl) (by kernel_rfl) (by kernel_rfl) (Wt.no rfl) rfl (PV.fieldAddr Try.fa53_7 rfl) ?_
        refine RD.take 1 rfl (by kernel_rfl) (by kernel_rfl) (by kernel_rfl) (Wt.no rfl) rfl (PV.loadM (l := [.int .i64 a1.Epoch]) 1 Try.TF3 rfl rfl (cut_Msg_Epoch _ _) rfl (by decide)) ?_
        refine RD.take 2 rfl (by kernel_rfl) (by kernel_rfl) (by kernel_rfl) (Wt.no rfl) rfl (PV.fieldAddr Try.fa30_0 rfl) ?_
        refine RD.take 3 rfl (by kernel_rfl) (by kernel_rfl) (by kernel_rfl) (Wt.no rfl) rfl (PV.loadM (l := [.int .i64 v4.Epoch]) 3 Try.TF3 rfl rfl (cut_Entry_Epoch _ _) rfl (by decide)) ?_
        refine RD.take 4 rfl (by kernel_rfl) (by kernel_rfl) (by kernel_rfl) (Wt.no rfl) rfl (PV.gtr rfl rfl) ?_
        refine RD.take 5 rfl (by kernel_rfl) (by kernel_rfl) (by kernel_rfl) (Wt.no rfl) rfl ((PV.move rfl).to (congrArg Value.bool hb10)) ?_
        refine RD.take 6 rfl (by kernel_rfl) (by kernel_rfl) (by kernel_rfl) (Wt.yes rfl rfl rfl rfl) rfl (PV.fieldAddr Try.fa53_7 rfl) ?_
        refine RD.take 7 rfl (by kernel_rfl) (by kernel_rfl) (by kernel_rfl) (Wt.yes rfl rfl rfl rfl) rfl (PV.loadM (l := [.int .i64 a1.Epoch]) 1 Try.TF3 rfl rfl (cut_Msg_Epoch _ _) rfl (by decide)) ?_
        refine RD.take 8 rfl (by kernel_rfl) (by kernel_rfl) (by kernel_rfl) (Wt.yes rfl rfl rfl rfl) rfl (PV.fieldAddr Try.fa30_0 rfl) ?_
        refine RD.take 9 rfl (by kernel_rfl) (by kernel_rfl) (by kernel_rfl) (Wt.yes rfl rfl rfl rfl) rfl (PV.loadM (l := [.int .i64 v4.Epoch]) 3 Try.TF3 rfl rfl (cut_Entry_Epoch _ _) rfl (by decide)) ?_
        refine RD.take 10 rfl (by kernel_rfl) (by kernel_rfl) (by kernel_rfl) (Wt.yes rfl rfl rfl rfl) rfl (PV.eql rfl rfl) ?_
        refine RD.take 11 rfl (by kernel_rfl) (by kernel_rfl) (by kernel_rfl) (Wt.yes rfl rfl rfl rfl) rfl ((PV.move rfl).to (congrArg Value.bool hb11)) ?_
        refine RD.takeNo 12 rfl (by kernel_rfl) (by kernel_rfl) (by kernel_rfl) (Un.mk rfl rfl rfl rfl) rfl ?_
        refine RD.takeNo 13 rfl (by kernel_rfl) (by kernel_rfl) (by kernel_rfl) (Un.mk rfl rfl rfl rfl) rfl ?_
        refine RD.takeNo 14 rfl (by kernel_rfl) (by kernel_rfl) (by kernel_rfl) (Un.mk rfl rfl rfl rfl) rfl ?_
        refine RD.takeNo 15 rfl (by kernel_rfl) (by kernel_rfl) (by kernel_rfl) (Un.mk rfl rfl rfl rfl) rfl ?_
        refine RD.takeNo 16 rfl (by kernel_rfl) (by kernel_rfl) (by kernel_rfl) (Un.mk rfl rfl rfl rfl) rfl ?_
        refine RD.takeNo 17 rfl (by kernel_rfl) (by kernel_rfl) (by kernel_rfl) (Un.mk rfl rfl rfl rfl) rfl ?_
        refine RD.takeNo 18 rfl (by kernel_rfl) (by kernel_rfl) (by kernel_rfl) (Un.mk rfl rfl rfl rfl) rfl ?_
        refine RD.take 19 rfl (by kernel_rfl) (by kernel_rfl) (by kernel_rfl) (Wt.yes rfl rfl rfl rfl) rfl (PV.pickF rfl rfl) ?_
        refine RD.take 20 rfl (by kernel_rfl) (by kernel_rfl) (by kernel_rfl) (Wt.no rfl) rfl (PV.pickF rfl rfl) ?_
        refine RD.take 21 rfl (by kernel_rfl) (by kernel_rfl) (by kernel_rfl) (Wt.no rfl) rfl (PV.assign rfl) ?_
        refine RD.done (by kernel_rfl) ?_
        refine CW.ret ?_
        obtain rfl := Option.some.inj h
        exact retP1 (Ψ := Φ) [0] (by decide) rfl (RV.tmp rfl) rfl (fun w hΦ => hΦ.1) ⟨(), rfl, rfl, rfl⟩

theorem W_take_old {D : Mem} {Φ : World → Prop} (a1 : S.Msg) (a2 : S.vault_Vault) (ga2_0 ga2_1 ga2_2 : Nat) (b1_0 : Hd) (b1_1 : Hd) (b1_2 : Hd) (b2_0 : Hd) (b2_1 : Hd) (b2_2 : (Nat → Hs)) {r : Int} (h : S.take_old a1 a2 = some r) (hR : ∀ w, MemOk D w → Φ w → (slR S.t_Val w a1.Bag.Values b1_0 ∧ slR (tInt .i64) w a1.Ring.Plan.Targets b1_1 ∧ slR S.t_Claim w a1.Claims b1_2 ∧ rdS S.t_Deed w a2.l.l b2_0.sub ∧ slR (tInt .i64) w a2.ring.Plan.Targets b2_1 ∧ mpR S.t_Bag w a2.bags b2_2)) :
    SpecK Try.prog 56 [.agg (S.t_Msg.enc a1 (hf [b1_0, b1_1, b1_2])).toArray, .pointer (pq ga2_0).a] D [.blk ga2_0 (S.t_vault_Vault.enc a2 (hf [(pq ga2_1), b2_1, (pq ga2_2)])), .blk ga2_1 (S.t_ledger_Ledger.enc a2.l (hf [b2_0])), rowE S.t_Deed 106 a2.l.l b2_0, mpE Value.string S.t_Bag ga2_2 a2.bags b2_2] Φ (fun x : Unit => .int .i64 r) (fun x => [.blk ga2_0 (S.t_vault_Vault.enc a2 (hf [(pq ga2_1), b2_1, (pq ga2_2)])), .blk ga2_1 (S.t_ledger_Ledger.enc a2.l (hf [b2_0])), rowE S.t_Deed 106 a2.l.l b2_0, mpE Value.string S.t_Bag ga2_2 a2.bags b2_2]) (fun x => []) (fun _ => Φ) := by
  refine enterK Try.func56 rfl Try.ntmps56 rfl ?_
  unfold S.take_old at h
  refine CW.reg ?_
  refine RO.eff (Wt.no rfl) rfl (EV.boxB (B := S.t_Msg.enc a1 (hf [b1_0, b1_1, b1_2])) rfl rfl) ?_
  rintro _ _ _ ⟨g1, rfl, rfl, rfl⟩
  refine RO.val (Wt.no rfl) rfl (PV.assign rfl) ?_
  refine RO.nil ?_
  replace h := bindS h
  obtain ⟨⟨v2, v3⟩, hx4, h⟩ := h
  dsimp only at h
  refine CW.reg ?_
  refine RO.val (Wt.no rfl) rfl (PV.move rfl) ?_
  refine RO.eff (Wt.no rfl) rfl (EV.call (K := _) Try.call89 rfl (SpecK.call [1, 2, 3, 4] (fun x : Hd => [frame D, .blk ga2_0 (S.t_vault_Vault.enc a2 (hf [(pq ga2_1), b2_1, (pq ga2_2)])), .blk ga2_1 (S.t_ledger_Ledger.enc a2.l (hf [b2_0])), rowE S.t_Deed 106 a2.l.l b2_0, mpE Value.string S.t_Bag ga2_2 a2.bags b2_2, .blk g1 (S.t_Msg.enc a1 (hf [b1_0, b1_1, b1_2]))]) (Outs.cons rfl (Outs.cons rfl (Outs.cons rfl (Outs.cons rfl Outs.nil)))) (fun _ => (Outs.cons rfl (Outs.cons rfl (Outs.cons rfl (Outs.cons rfl Outs.nil))))) (W_vault_Vault_Ring a2 ga2_0 ga2_1 ga2_2 b2_0 b2_1 b2_2 hx4 (fun w hm hΦ => ⟨(hR w (hm.frameAt (i := 0) rfl) (hΦ.1)).2.2.2.1, (hR w (hm.frameAt (i := 0) rfl) (hΦ.1)).2.2.2.2.1, (hR w (hm.frameAt (i := 0) rfl) (hΦ.1)).2.2.2.2.2⟩)))) ?_
  rintro _ _ _ ⟨q5, rfl, rfl, rfl⟩
  refine RO.val (Wt.no rfl) rfl (PV.move rfl) ?_
  refine RO.val (Wt.no rfl) rfl (PV.extract rfl rfl) ?_
  refine RO.val (Wt.no rfl) rfl (PV.extract rfl rfl) ?_
  refine RO.eff (Wt.no rfl) rfl (EV.allocB (B := S.t_Ring.enc S.Ring.z (hf [Hd.z])) Try.zeroValue33 rfl) ?_
  rintro _ _ _ ⟨g7, rfl, rfl, rfl⟩
  refine RO.eff (Wt.no rfl) rfl (EV.storeW (B := S.t_Ring.enc v2 (hf [q5])) 6 Try.TF33 rfl rfl rfl (by exact S.t_Ring.len v2 (hf [q5])) (by exact S.t_Ring.one v2 (hf [q5])) (S.t_Ring.len S.Ring.z (hf [Hd.z])) rfl) ?_
  rintro _ _ _ ⟨rfl, rfl, rfl⟩
  refine RO.val (Wt.no rfl) rfl (PV.assign rfl) ?_
  refine RO.nil ?_
  refine CW.seq ?_
  refine CW.block ?_
  refine CW.reg ?_
  refine RO.val (Wt.no rfl) rfl (PV.move rfl) ?_
  refine RO.val (Wt.no rfl) rfl (PV.not rfl) ?_
  refine RO.val (Wt.no rfl) rfl (PV.assign rfl) ?_
  refine RO.nil ?_
  refine CW.cond rfl (fun hb8 => ?_) (fun hb8 => ?_)
  · replace h := iteT hb8 h
    refine CW.reg ?_
    refine RO.val (Wt.no rfl) rfl (PV.assign rfl) ?_
    refine RO.nil ?_
    refine CW.ret ?_
    refine QC.blk_r ?_
    refine QC.then_r ?_
    obtain rfl := Option.some.inj h
    exact retP1 (Ψ := Φ) [0, 1, 2, 3, 4] (by decide) rfl (RV.tmp rfl) rfl (fun w hΦ => hΦ.1.1) ⟨(), rfl, rfl, rfl⟩
  · replace h := iteF hb8 h
    replace h := bindS h
    obtain ⟨v9, hx10, h⟩ := h
    refine CW.reg ?_
    refine RO.val (Wt.no rfl) rfl (PV.loadM (l := S.t_Msg.enc a1 (hf [b1_0, b1_1, b1_2])) 5 Try.TF53 rfl rfl (cut_self (S.t_Msg.len _ _)) rfl (by decide)) ?_
    refine RO.val (Wt.no rfl) rfl (PV.loadM (l := S.t_Ring.enc v2 (hf [q5])) 6 Try.TF33 rfl rfl (cut_self (S.t_Ring.len _ _)) rfl (by decide)) ?_
    refine RO.eff (Wt.no rfl) rfl (EV.call (K := _) Try.call90 rfl (SpecK.callV (W_take_May a1 v2 b1_0 b1_1 b1_2 q5 hx10 (fun w hm hΦ => ⟨(hR w (hm.frameAt (i := 0) rfl) (hΦ.1.1)).1, (hR w (hm.frameAt (i := 0) rfl) (hΦ.1.1)).2.1, (hR w (hm.frameAt (i := 0) rfl) (hΦ.1.1)).2.2.1, (hΦ.2)⟩)))) ?_
    rintro _ _ _ ⟨_, rfl, rfl, rfl⟩
    refine RO.val (Wt.no rfl) rfl (PV.not rfl) ?_
    refine RO.val (Wt.no rfl) rfl (PV.assign rfl) ?_
    refine RO.nil ?_
    refine CW.cond rfl (fun hb11 => ?_) (fun hb11 => ?_)
    · replace h := iteT hb11 h
      refine CW.reg ?_
      refine RO.val (Wt.no rfl) rfl (PV.assign rfl) ?_
      refine RO.nil ?_
      refine CW.ret ?_
      refine QC.blk_r ?_
      refine QC.then_r ?_
      obtain rfl := Option.some.inj h
      exact retP1 (Ψ := Φ) [0, 1, 2, 3, 4] (by decide) rfl (RV.tmp rfl) rfl (fun w hΦ => hΦ.1.1) ⟨(), rfl, rfl, rfl⟩
    · replace h := iteF hb11 h
      refine CW.skip ?_
      refine QC.blk_n ?_
      refine QC.then_n ?_
      refine CW.reg ?_
      refine RO.val (Wt.no rfl) rfl (PV.assign rfl) ?_
      refine RO.nil ?_
      refine CW.ret ?_
      obtain rfl := Option.some.inj h
      exact retP1 (Ψ := Φ) [0, 1, 2, 3, 4] (by decide) rfl (RV.tmp rfl) rfl (fun w hΦ => hΦ.1.1) ⟨(), rfl, rfl, rfl⟩

theorem W_vault_Vault_full {D : Mem} {Φ : World → Prop} (a1 : S.vault_Vault) (a2 : ByteArray) (ga1_0 ga1_1 ga1_2 : Nat) (b1_0 : Hd) (b1_1 : Hd) (b1_2 : (Nat → Hs)) {r : Bool} (h : S.vault_Vault_full a1 a2 = some r) (hR : ∀ w, MemOk D w → Φ w → (rdS S.t_Deed w a1.l.l b1_0.sub ∧ slR (tInt .i64) w a1.ring.Plan.Targets b1_1 ∧ mpR S.t_Bag w a1.bags b1_2)) :
    SpecK Try.prog 79 [.pointer (pq ga1_0).a, .string a2] D [.blk ga1_0 (S.t_vault_Vault.enc a1 (hf [(pq ga1_1), b1_1, (pq ga1_2)])), .blk ga1_1 (S.t_ledger_Ledger.enc a1.l (hf [b1_0])), rowE S.t_Deed 106 a1.l.l b1_0, mpE Value.string S.t_Bag ga1_2 a1.bags b1_2] Φ (fun x : Unit => .bool r) (fun x => [.blk ga1_0 (S.t_vault_Vault.enc a1 (hf [(pq ga1_1), b1_1, (pq ga1_2)])), .blk ga1_1 (S.t_ledger_Ledger.enc a1.l (hf [b1_0])), rowE S.t_Deed 106 a1.l.l b1_0, mpE Value.string S.t_Bag ga1_2 a1.bags b1_2]) (fun x => []) (fun _ => Φ) := by
  refine enterK Try.func79 rfl Try.ntmps79 rfl ?_
  unfold S.vault_Vault_full at h
  refine CW.reg ?_
  refine RO.val (Wt.no rfl) rfl (PV.assign rfl) ?_
  refine RO.nil ?_
  refine CW.reg ?_
  refine RO.val (Wt.no rfl) rfl (PV.move rfl) ?_
  refine RO.val (Wt.no rfl) rfl (PV.nilCheck rfl) ?_
  refine RO.val (Wt.no rfl) rfl (PV.fieldAddr Try.fa101_5 rfl) ?_
  refine RO.val (Wt.no rfl) rfl (PV.loadM (l := [.map (mb (pq ga1_2))]) 1 Try.TF99 rfl rfl (cut_vault_Vault_bags _ _) rfl (by decide)) ?_
  refine RO.val (Wt.no rfl) rfl (PV.move rfl) ?_
  refine RO.val (Wt.no rfl) rfl (PV.lookupQ2 (kv := Value.string) (tv := S.t_Bag) (l := a1.bags) (hh := b1_2) (k := a2) 4 (strKey Try.underlying9) str_dom str_inj Try.underlying99 Try.zeroValue40 rfl rfl rfl) ?_
  refine RO.val (Wt.no rfl) rfl (PV.move rfl) ?_
  refine RO.val (Wt.no rfl) rfl (PV.extract rfl rfl) ?_
  refine RO.val (Wt.no rfl) rfl (PV.extract rfl rfl) ?_
  refine RO.eff (Wt.no rfl) rfl (EV.allocB (B := S.t_Bag.enc S.Bag.z (hf [Hd.z])) Try.zeroValue40 rfl) ?_
  rintro _ _ _ ⟨g1, rfl, rfl, rfl⟩
  refine RO.eff (Wt.no rfl) rfl (EV.storeW (B := S.t_Bag.enc ((mget a1.bags a2).getD S.Bag.z) (hf [(mgetH a1.bags b1_2 a2 0)])) 5 Try.TF40 rfl rfl rfl (by exact S.t_Bag.len ((mget a1.bags a2).getD S.Bag.z) (hf [(mgetH a1.bags b1_2 a2 0)])) (by exact S.t_Bag.one ((mget a1.bags a2).getD S.Bag.z) (hf [(mgetH a1.bags b1_2 a2 0)])) (S.t_Bag.len S.Bag.z (hf [Hd.z])) rfl) ?_
  rintro _ _ _ ⟨rfl, rfl, rfl⟩
  refine RO.val (Wt.no rfl) rfl (PV.assign rfl) ?_
  refine RO.nil ?_
  by_cases hb2 : (!((mget a1.bags a2).isSome)) = true
  · replace h := iteT hb2 h
    refine CW.reg ?_
    refine RO.val (Wt.no rfl) rfl (PV.move rfl) ?_
    refine RO.val (Wt.no rfl) rfl (PV.not rfl) ?_
    refine RO.val (Wt.no rfl) rfl ((PV.move rfl).to (congrArg Value.bool hb2)) ?_
    refine RO.val (Wt.yes rfl rfl rfl rfl) rfl (PV.move rfl) ?_
    refine RO.val (Wt.yes rfl rfl rfl rfl) rfl (PV.nilCheck rfl) ?_
    refine RO.val (Wt.yes rfl rfl rfl rfl) rfl (PV.fieldAddr Try.fa101_5 rfl) ?_
    refine RO.val (Wt.yes rfl rfl rfl rfl) rfl (PV.loadM (l := [.map (mb (pq ga1_2))]) 1 Try.TF99 rfl rfl (cut_vault_Vault_bags _ _) rfl (by decide)) ?_
    refine RO.val (Wt.yes rfl rfl rfl rfl) rfl (PV.lenMapQ (kv := Value.string) (tv := S.t_Bag) (l := a1.bags) (hh := b1_2) 4 Try.underlying99 rfl rfl) ?_
    refine RO.val (Wt.yes rfl rfl rfl rfl) rfl (PV.geq rfl rfl) ?_
    refine RO.val (Wt.no rfl) rfl (PV.pickT rfl rfl) ?_
    refine RO.val (Wt.no rfl) rfl (PV.assign rfl) ?_
    refine RO.nil ?_
    refine CW.ret ?_
    obtain rfl := Option.some.inj h
    exact retP1 (Ψ := Φ) [0, 1, 2, 3, 4] (by decide) rfl (RV.tmp rfl) rfl (fun w hΦ => hΦ.1) ⟨(), rfl, rfl, rfl⟩
  · replace hb2 := Bool.eq_false_iff.2 hb2
    replace h := iteF hb2 h
    refine CW.reg ?_
    refine RO.val (Wt.no rfl) rfl (PV.move rfl) ?_
    refine RO.val (Wt.no rfl) rfl (PV.not rfl) ?_
    refine RO.val (Wt.no rfl) rfl ((PV.move rfl).to (congrArg Value.bool hb2)) ?_
    refine RO.skip (Un.mk rfl rfl rfl rfl) rfl ?_
    refine RO.skip (Un.mk rfl rfl rfl rfl) rfl ?_
    refine RO.skip (Un.mk rfl rfl rfl rfl) rfl ?_
    refine RO.skip (Un.mk rfl rfl rfl rfl) rfl ?_
    refine RO.skip (Un.mk rfl rfl rfl rfl) rfl ?_
    refine RO.skip (Un.mk rfl rfl rfl rfl) rfl ?_
    refine RO.val (Wt.no rfl) rfl (PV.pickF rfl rfl) ?_
    refine RO.val (Wt.no rfl) rfl (PV.assign rfl) ?_
    refine RO.nil ?_
    refine CW.ret ?_
    obtain rfl := Option.some.inj h
    exact retP1 (Ψ := Φ) [0, 1, 2, 3, 4] (by decide) rfl (RV.tmp rfl) rfl (fun w hΦ => hΦ.1) ⟨(), rfl, rfl, rfl⟩

theorem W_clock_Join {D : Mem} {Φ : World → Prop} (a1 : Vector Int 8) (a2 : Vector Int 8) {r : (Vector Int 8)} (h : S.clock_Join a1 a2 = some r) :
    SpecK Try.prog 93 [.agg (S.t_A8_int.enc a1 (hf [])).toArray, .agg (S.t_A8_int.enc a2 (hf [])).toArray] D [] Φ (fun x : Unit => .agg (S.t_A8_int.enc r (hf [])).toArray) (fun x => []) (fun x => []) (fun _ => Φ) := by
  refine enterK Try.func93 rfl Try.ntmps93 rfl ?_
  unfold S.clock_Join at h
  refine CW.reg ?_
  refine RO.eff (Wt.no rfl) rfl (EV.boxB (B := S.t_A8_int.enc a1 (hf [])) rfl rfl) ?_
  rintro _ _ _ ⟨g1, rfl, rfl, rfl⟩
  refine RO.eff (Wt.no rfl) rfl (EV.boxB (B := S.t_A8_int.enc a2 (hf [])) rfl rfl) ?_
  rintro _ _ _ ⟨g2, rfl, rfl, rfl⟩
  refine RO.eff (Wt.no rfl) rfl (EV.allocB (B := S.t_A8_int.enc (Vector.replicate 8 (0 : Int)) (hf [])) Try.zeroValue37 rfl) ?_
  rintro _ _ _ ⟨g3, rfl, rfl, rfl⟩
  refine RO.nil ?_
  replace h := bindS h
  obtain ⟨e7, h, hk6⟩ := h
  refine CW.meet (X := (Vector Int 8)) (fun x => [(2, .pointer (some ⟨g1, 0, none⟩)), (4, .pointer (some ⟨g3, 0, none⟩))]) (fun x => [frame D, .blk g1 (S.t_A8_int.enc x (hf [])), .blk g2 (S.t_A8_int.enc a2 (hf [])), .blk g3 (S.t_A8_int.enc (Vector.replicate 8 (0 : Int)) (hf []))]) (fun x w => (Φ w ∧ True)) (fun x => S.clock_Join_j2 x = some r) ?_ ?_
  · skip
    refine CW.reg ?_
    refine RO.val (Wt.no rfl) rfl (PV.loadM (l := S.t_A8_int.enc a2 (hf [])) 2 Try.TF37 rfl rfl (cut_self (S.t_A8_int.len _ _)) rfl (by decide)) ?_
    refine RO.val (Wt.no rfl) rfl (PV.move rfl) ?_
    refine RO.nil ?_
    refine CW.block ?_
    refine CW.loopE (X := Nat × (Vector Int 8) × Int) (fun x => [(2, .pointer (some ⟨g1, 0, none⟩)), (4, .pointer (some ⟨g3, 0, none⟩)), (7, .agg (S.t_A8_int.enc a2 (hf [])).toArray), (8, .int .i64 x.2.2)]) (fun x => [frame D, .blk g1 (S.t_A8_int.enc x.2.1 (hf [])), .blk g2 (S.t_A8_int.enc a2 (hf [])), .blk g3 (S.t_A8_int.enc (Vector.replicate 8 (0 : Int)) (hf []))]) (fun x w => (Φ w ∧ True)) (fun x => loopN (S.clock_Join_l3 a2) x.1 (x.2.1, x.2.2) = some e7) (fun x => x.1) (FUEL, a1, 0) h (by exact ⟨rfl, rfl, rfl, rfl, trivial⟩) rfl (fun w hΦ => hΦ) ?_
    rintro ⟨n17', v13, v14⟩ hI15
    try dsimp only at hI15 ⊢
    obtain ⟨n17, y16, rfl, h, hk18⟩ := loopN_some hI15
    unfold S.clock_Join_l3 at h
    try dsimp only at h
    refine CW.reg ?_
    refine RO.val (Wt.no rfl) rfl (PV.lss rfl rfl) ?_
    refine RO.nil ?_
    refine CW.seq ?_
    refine CW.cond rfl (fun hb19 => ?_) (fun hb19 => ?_)
    · replace h := iteT hb19 h
      refine CW.skip ?_
      refine QC.then_n ?_
      refine CW.seq ?_
      refine CW.block ?_
      replace h := bindS h
      obtain ⟨v20, hx21, h⟩ := h
      obtain ⟨hn22, hn23, he24⟩ := aget_some hx21
      refine CW.reg ?_
      refine RO.val (Wt.no rfl) rfl (PV.move rfl) ?_
      refine RO.val (Wt.no rfl) rfl (PV.index (l := [.int .i64 v20]) Try.underlying37 Try.TF3 rfl rfl hn23 (by omega) (by rw [idx_A8_int _ _ _ hn22, he24]) rfl (by decide)) ?_
      refine RO.val (Wt.no rfl) rfl (PV.assign rfl) ?_
      refine RO.val (Wt.no rfl) rfl (PV.assign rfl) ?_
      refine RO.nil ?_
      replace h := bindS h
      obtain ⟨v25, hx26, h⟩ := h
      obtain ⟨hn27, hn28, he29⟩ := aget_some hx26
      replace h := bindS h
      obtain ⟨v30, hx31, h⟩ := h
      obtain ⟨hn32, hn33, he34⟩ := aset_some hx31
      refine CW.region ?_
      refine RO.val (Wt.no rfl) rfl (PV.move rfl) ?_
      refine RO.val (Wt.no rfl) rfl (PV.move rfl) ?_
      refine RO.val (Wt.no rfl) rfl (PV.idxA Try.underlying37 Try.sizeOf3 rfl rfl hn28 (by omega)) ?_
      refine RO.val (Wt.no rfl) rfl (PV.loadM (l := [.int .i64 v25]) 1 Try.TF3 rfl rfl (by rw [cut_A8_int_i _ _ _ hn27, he29]) rfl (by decide)) ?_
      refine RO.val (Wt.no rfl) rfl (PV.move rfl) ?_
      refine RO.val (Wt.no rfl) rfl (PV.max rfl rfl) ?_
      refine RO.val (Wt.no rfl) rfl (PV.idxA Try.underlying37 Try.sizeOf3 rfl rfl hn33 (by omega)) ?_
      refine RO.eff (Wt.no rfl) rfl (EV.storeB (B := S.t_A8_int.enc v30 (hf [])) 1 Try.TF3 rfl rfl rfl rfl rfl (by rw [S.t_A8_int.len]; show _ ≤ 8; omega) ((wr_A8_int_i v13 (max v25 v20) _ hn32).trans (by rw [he34]))) ?_
      rintro _ _ _ ⟨rfl, rfl, rfl⟩
      refine RO.nil ?_
      refine QC.blk_n ?_
      refine QC.then_n ?_
      refine CW.region ?_
      refine RO.val (Wt.no rfl) rfl (PV.addW rfl rfl) ?_
      refine RO.val (Wt.no rfl) rfl (PV.move rfl) ?_
      refine RO.nil ?_
      obtain rfl := Option.some.inj h
      refine QC.roundP (n17, v30, (w64 (v14 + 1))) (nextL_inl hk18) (by exact Nat.lt_succ_self _) [0, 1, 2, 3] (by decide) (by exact ⟨rfl, rfl, rfl, rfl, trivial⟩) rfl (fun w hΦ => hΦ)
    · replace h := iteF hb19 h
      refine CW.exit ?_
      refine QC.then_x ?_
      refine QC.then_x ?_
      refine QC.blk_x ?_
      obtain rfl := Option.some.inj h
      obtain rfl := nextL_inr hk18
      refine QC.meetP v13 hk6 [0, 1, 2, 3] (by decide) (by exact ⟨rfl, rfl, trivial⟩) rfl (fun w hΦ => hΦ)
  · rintro v5 h
    try dsimp only at h ⊢
    unfold S.clock_Join_j2 at h
    refine CW.reg ?_
    refine RO.val (Wt.no rfl) rfl (PV.loadM (l := S.t_A8_int.enc v5 (hf [])) 1 Try.TF37 rfl rfl (cut_self (S.t_A8_int.len _ _)) rfl (by decide)) ?_
    refine RO.eff (Wt.no rfl) rfl (EV.storeW (B := S.t_A8_int.enc v5 (hf [])) 3 Try.TF37 rfl rfl rfl (by exact S.t_A8_int.len v5 (hf [])) (by exact S.t_A8_int.one v5 (hf [])) (S.t_A8_int.len (Vector.replicate 8 (0 : Int)) (hf [])) rfl) ?_
    rintro _ _ _ ⟨rfl, rfl, rfl⟩
    refine RO.nil ?_
    refine CW.ret ?_
    obtain rfl := Option.some.inj h
    exact retP1 (Ψ := Φ) [0] (by decide) rfl (RV.cell (A := S.t_A8_int.enc v5 (hf [])) 3 rfl Try.TF37 rfl (S.t_A8_int.len _ _) (by decide)) rfl (fun w hΦ => hΦ.1) ⟨(), rfl, rfl, rfl⟩

theorem W_bag_find_1 {D : Mem} {Φ : World → Prop} (a1 : S.Val) (a2 : S.Dot) {r : Int} (h : S.bag_find_1 a1 a2 = some r) :
    SpecK Try.prog 118 [.agg (S.t_Val.enc a1 (hf [])).toArray, .agg (S.t_Dot.enc a2 (hf [])).toArray] D [] Φ (fun x : Unit => .int .i64 r) (fun x => []) (fun x => []) (fun _ => Φ) := by
  refine enterK Try.func118 rfl Try.ntmps118 rfl ?_
  unfold S.bag_find_1 at h
  refine CW.reg ?_
  refine RO.eff (Wt.no rfl) rfl (EV.boxB (B := S.t_Val.enc a1 (hf [])) rfl rfl) ?_
  rintro _ _ _ ⟨g1, rfl, rfl, rfl⟩
  refine RO.eff (Wt.no rfl) rfl (EV.boxB (B := S.t_Dot.enc a2 (hf [])) rfl rfl) ?_
  rintro _ _ _ ⟨g2, rfl, rfl, rfl⟩
  refine RO.val (Wt.no rfl) rfl (PV.assign rfl) ?_
  refine RO.nil ?_
  replace h := bindS h
  obtain ⟨v3, hx4, h⟩ := h
  refine CW.reg ?_
  refine RO.val (Wt.no rfl) rfl (PV.fieldAddr Try.fa80_0 rfl) ?_
  refine RO.val (Wt.no rfl) rfl (PV.loadM (l := S.t_Dot.enc a1.Dot (hf [])) 1 Try.TF45 rfl rfl (cut_Val_Dot _ _) rfl (by decide)) ?_
  refine RO.val (Wt.no rfl) rfl (PV.loadM (l := S.t_Dot.enc a2 (hf [])) 2 Try.TF45 rfl rfl (cut_self (S.t_Dot.len _ _)) rfl (by decide)) ?_
  refine RO.eff (Wt.no rfl) rfl (EV.call (K := _) Try.call98 rfl (SpecK.callV (W_clock_Compare a1.Dot a2 hx4))) ?_
  rintro _ _ _ ⟨_, rfl, rfl, rfl⟩
  refine RO.val (Wt.no rfl) rfl (PV.assign rfl) ?_
  refine RO.nil ?_
  refine CW.ret ?_
  obtain rfl := Option.some.inj h
  exact retP1 (Ψ := Φ) [0] (by decide) rfl (RV.tmp rfl) rfl (fun w hΦ => hΦ.1) ⟨(), rfl, rfl, rfl⟩

end Go.Proofs.Ytofmaoickidjcaa
