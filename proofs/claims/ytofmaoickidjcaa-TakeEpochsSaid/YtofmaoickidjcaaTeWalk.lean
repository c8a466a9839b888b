/- A part of the proof: Walk (for the law Te). -/
import Derived.Test.YtofmaoickidjcaaProg
import Derived.Test.YtofmaoickidjcaaTeIns
import Derived.Test.YtofmaoickidjcaaTePlain
import Derived.Test.YtofmaoickidjcaaTeWalk1
set_option linter.all false
namespace Go.Proofs.Ytofmaoickidjcaa
open Go Go.Sx Go.S
set_option maxHeartbeats 1000000
set_option maxRecDepth 4000
theorem W_slices_BinarySearchFunc_api_Value_api_Value_api_Dot_bag_find_1 {D : Mem} {Φ : World → Prop} (a1 : List S.Val) (a2 : S.Dot) (b1_0 : Hd) {r : Int × Bool} (h : S.slices_BinarySearchFunc_api_Value_api_Value_api_Dot_bag_find_1 a1 a2 = some r) (hR : ∀ w, MemOk D w → Φ w → (slR S.t_Val w a1 b1_0)) :
    SpecK Try.prog 117 [.slice b1_0.a a1.length b1_0.cap, .agg (S.t_Dot.enc a2 (hf [])).toArray, .func (.func 118) #[] #[]] D [] Φ (fun x : Unit => .tuple #[.int .i64 r.1, .bool r.2]) (fun x => []) (fun x => []) (fun _ => Φ) := by
  refine enterK Try.func117 rfl Try.ntmps117 rfl ?_
  unfold S.slices_BinarySearchFunc_api_Value_api_Value_api_Dot_bag_find_1 at h
  refine CW.reg ?_
  refine RO.eff (Wt.no rfl) rfl (EV.boxB (B := S.t_Dot.enc a2 (hf [])) rfl rfl) ?_
  rintro _ _ _ ⟨g1, rfl, rfl, rfl⟩
  refine RO.val (Wt.no rfl) rfl (PV.assign rfl) ?_
  refine RO.val (Wt.no rfl) rfl (PV.assign rfl) ?_
  refine RO.nil ?_
  refine CW.reg ?_
  refine RO.val (Wt.no rfl) rfl (PV.move rfl) ?_
  refine RO.val (Wt.no rfl) rfl (PV.lenS Try.underlying38 rfl) ?_
  refine RO.val (Wt.no rfl) rfl (PV.assign rfl) ?_
  refine RO.nil ?_
  refine CW.reg ?_
  refine RO.val (Wt.no rfl) rfl (PV.move rfl) ?_
  refine RO.val (Wt.no rfl) rfl (PV.assign rfl) ?_
  refine RO.val (Wt.no rfl) rfl (PV.assign rfl) ?_
  refine RO.nil ?_
  replace h := bindS h
  obtain ⟨e10, h, hk9⟩ := h
  refine CW.meet (X := Int) (fun x => [(0, .slice b1_0.a a1.length b1_0.cap), (2, .func (.func 118) #[] #[]), (4, .pointer (some ⟨g1, 0, none⟩)), (6, .int .i64 0), (7, .bool false), (8, .int .i64 (a1.length : Int)), (9, .int .i64 x)]) (fun x => [frame D, .blk g1 (S.t_Dot.enc a2 (hf []))]) (fun x w => (Φ w ∧ True)) (fun x => S.slices_BinarySearchFunc_api_Value_api_Value_api_Dot_bag_find_1_j2 a1 a2 x = some r) ?_ ?_
  · skip
    refine CW.block ?_
    refine CW.loopE (X := Nat × Int × Int) (fun x => [(0, .slice b1_0.a a1.length b1_0.cap), (2, .func (.func 118) #[] #[]), (4, .pointer (some ⟨g1, 0, none⟩)), (6, .int .i64 0), (7, .bool false), (8, .int .i64 (a1.length : Int)), (9, .int .i64 x.2.1), (10, .int .i64 x.2.2)]) (fun x => [frame D, .blk g1 (S.t_Dot.enc a2 (hf []))]) (fun x w => (Φ w ∧ True)) (fun x => loopN (S.slices_BinarySearchFunc_api_Value_api_Value_api_Dot_bag_find_1_l3 a1 a2) x.1 (x.2.1, x.2.2) = some e10) (fun x => x.1) (FUEL, 0, (a1.length : Int)) h (by exact ⟨rfl, rfl, rfl, rfl, rfl, rfl, rfl, rfl, trivial⟩) rfl (fun w hΦ => hΦ) ?_
    rintro ⟨n20', v16, v17⟩ hI18
    try dsimp only at hI18 ⊢
    obtain ⟨n20, y19, rfl, h, hk21⟩ := loopN_some hI18
    unfold S.slices_BinarySearchFunc_api_Value_api_Value_api_Dot_bag_find_1_l3 at h
    try dsimp only at h
    refine CW.seq ?_
    refine CW.reg ?_
    refine RO.val (Wt.no rfl) rfl (PV.move rfl) ?_
    refine RO.val (Wt.no rfl) rfl (PV.move rfl) ?_
    refine RO.val (Wt.no rfl) rfl (PV.lss rfl rfl) ?_
    refine RO.nil ?_
    refine CW.cond rfl (fun hb22 => ?_) (fun hb22 => ?_)
    · replace h := iteT hb22 h
      refine CW.skip ?_
      refine QC.then_n ?_
      refine CW.block ?_
      refine CW.reg ?_
      refine RO.val (Wt.no rfl) rfl (PV.move rfl) ?_
      refine RO.val (Wt.no rfl) rfl (PV.move rfl) ?_
      refine RO.val (Wt.no rfl) rfl (PV.addW rfl rfl) ?_
      refine RO.val (Wt.no rfl) rfl (PV.conv Try.underlying140 ⟨_, Try.underlying3⟩ rfl) ?_
      refine RO.val (Wt.no rfl) rfl (PV.shr rfl rfl (by decide)) ?_
      refine RO.val (Wt.no rfl) rfl (PV.conv Try.underlying3 ⟨_, Try.underlying140⟩ rfl) ?_
      refine RO.val (Wt.no rfl) rfl (PV.assign rfl) ?_
      refine RO.nil ?_
      replace h := bindS h
      obtain ⟨v23, hx24, h⟩ := h
      replace h := bindS h
      obtain ⟨v25, hx26, h⟩ := h
      refine CW.regD (pickM [0, 1] _) _ (by kernel_rfl) (St.of (by decide) rfl (fun _ h => h)) ?_
      refine RD.take 0 rfl (by kernel_rfl) (by kernel_rfl) (by kernel_rfl) (Wt.no rfl) rfl (PV.move rfl) ?_
      refine RD.take 1 rfl (by kernel_rfl) (by kernel_rfl) (by kernel_rfl) (Wt.no rfl) rfl (PV.move rfl) ?_
      refine RD.take 2 rfl (by kernel_rfl) (by kernel_rfl) (by kernel_rfl) (Wt.no rfl) rfl (PV.move rfl) ?_
      refine RD.take 3 rfl (by kernel_rfl) (by kernel_rfl) (by kernel_rfl) (Wt.no rfl) rfl (PV.idxQ (t := S.t_Val) (l := a1) (q := b1_0) Try.underlying38 Try.sizeOf80 (fun w hm hΦ => (hR w (hm.frameAt (i := 0) rfl) (hΦ.1))) rfl rfl hx24) ?_
      refine RD.take 4 rfl (by kernel_rfl) (by kernel_rfl) (by kernel_rfl) (Wt.no rfl) rfl (PV.loadQ (off := 0) (cs := S.t_Val.enc v23 (hf [])) (t := S.t_Val) (l := a1) (q := b1_0) Try.TF80 (fun w hm hΦ => (hR w (hm.frameAt (i := 0) rfl) (hΦ.1))) hx24 rfl rfl rfl (cut_self (S.t_Val.len _ _)) rfl (by decide)) ?_
      refine RD.take 5 rfl (by kernel_rfl) (by kernel_rfl) (by kernel_rfl) (Wt.no rfl) rfl (PV.loadM (l := S.t_Dot.enc a2 (hf [])) 1 Try.TF45 rfl rfl (cut_self (S.t_Dot.len _ _)) rfl (by decide)) ?_
      refine RD.one 6 (by kernel_rfl) ?_
      refine Up.eff rfl (Wt.no rfl) rfl (EV.callV2 (K := _) (pre := []) (caps := []) Try.call118 rfl rfl (SpecK.callV (W_bag_find_1 v23 a2 hx26))) ?_ ?_
      · rintro _ _ _ ⟨_, rfl, rfl, rfl⟩; exact St.of' (by decide) (L' := [0, 1]) rfl (fun _ h => h)
      rintro _ _ _ ⟨_, rfl, rfl, rfl⟩
      refine RD.take 7 rfl (by kernel_rfl) (by kernel_rfl) (by kernel_rfl) (Wt.no rfl) rfl (PV.lss rfl rfl) ?_
      refine RD.done (by kernel_rfl) ?_
      refine CW.cond rfl (fun hb27 => ?_) (fun hb27 => ?_)
      · replace h := iteT hb27 h
        refine CW.region ?_
        refine RO.val (Wt.no rfl) rfl (PV.move rfl) ?_
        refine RO.val (Wt.no rfl) rfl (PV.addW rfl rfl) ?_
        refine RO.val (Wt.no rfl) rfl (PV.assign rfl) ?_
        refine RO.nil ?_
        refine QC.blk_n ?_
        obtain rfl := Option.some.inj h
        refine QC.roundP (n20, (w64 ((IntKind.i64.wrap (shrI .u64 (IntKind.u64.wrap (w64 (v16 + v17))) 1)) + 1)), v17) (nextL_inl hk21) (by exact Nat.lt_succ_self _) [0, 1] (by decide) (by exact ⟨rfl, rfl, rfl, rfl, rfl, rfl, rfl, rfl, trivial⟩) rfl (fun w hΦ => hΦ)
      · replace h := iteF hb27 h
        refine CW.region ?_
        refine RO.val (Wt.no rfl) rfl (PV.move rfl) ?_
        refine RO.val (Wt.no rfl) rfl (PV.assign rfl) ?_
        refine RO.nil ?_
        refine QC.blk_n ?_
        obtain rfl := Option.some.inj h
        refine QC.roundP (n20, v16, (IntKind.i64.wrap (shrI .u64 (IntKind.u64.wrap (w64 (v16 + v17))) 1))) (nextL_inl hk21) (by exact Nat.lt_succ_self _) [0, 1] (by decide) (by exact ⟨rfl, rfl, rfl, rfl, rfl, rfl, rfl, rfl, trivial⟩) rfl (fun w hΦ => hΦ)
    · replace h := iteF hb22 h
      refine CW.exit ?_
      refine QC.then_x ?_
      refine QC.then_x ?_
      refine QC.blk_x ?_
      obtain rfl := Option.some.inj h
      obtain rfl := nextL_inr hk21
      refine QC.meetP v16 hk9 [0, 1] (by decide) (by exact ⟨rfl, rfl, rfl, rfl, rfl, rfl, rfl, trivial⟩) rfl (fun w hΦ => hΦ)
  · rintro v3 h
    try dsimp only at h ⊢
    unfold S.slices_BinarySearchFunc_api_Value_api_Value_api_Dot_bag_find_1_j2 at h
    by_cases hb4 : (decide (v3 < (a1.length : Int))) = true
    · replace h := iteT hb4 h
      replace h := bindS h
      obtain ⟨v5, hx6, h⟩ := h
      replace h := bindS h
      obtain ⟨v7, hx8, h⟩ := h
      refine CW.regD (pickM [0, 1] _) _ (by kernel_rfl) (St.of (by decide) rfl (fun _ h => h)) ?_
      refine RD.take 0 rfl (by kernel_rfl) (by kernel_rfl) (by kernel_rfl) (Wt.no rfl) rfl (PV.move rfl) ?_
      refine RD.take 1 rfl (by kernel_rfl) (by kernel_rfl) (by kernel_rfl) (Wt.no rfl) rfl (PV.move rfl) ?_
      refine RD.take 2 rfl (by kernel_rfl) (by kernel_rfl) (by kernel_rfl) (Wt.no rfl) rfl (PV.move rfl) ?_
      refine RD.take 3 rfl (by kernel_rfl) (by kernel_rfl) (by kernel_rfl) (Wt.no rfl) rfl (PV.lss rfl rfl) ?_
      refine RD.take 4 rfl (by kernel_rfl) (by kernel_rfl) (by kernel_rfl) (Wt.no rfl) rfl ((PV.move rfl).to (congrArg Value.bool hb4)) ?_
      refine RD.take 5 rfl (by kernel_rfl) (by kernel_rfl) (by kernel_rfl) (Wt.yes rfl rfl rfl rfl) rfl (PV.move rfl) ?_
      refine RD.take 6 rfl (by kernel_rfl) (by kernel_rfl) (by kernel_rfl) (Wt.yes rfl rfl rfl rfl) rfl (PV.move rfl) ?_
      refine RD.take 7 rfl (by kernel_rfl) (by kernel_rfl) (by kernel_rfl) (Wt.yes rfl rfl rfl rfl) rfl (PV.move rfl) ?_
      refine RD.take 8 rfl (by kernel_rfl) (by kernel_rfl) (by kernel_rfl) (Wt.yes rfl rfl rfl rfl) rfl (PV.idxQ (t := S.t_Val) (l := a1) (q := b1_0) Try.underlying38 Try.sizeOf80 (fun w hm hΦ => (hR w (hm.frameAt (i := 0) rfl) (hΦ.1))) rfl rfl hx6) ?_
      refine RD.take 9 rfl (by kernel_rfl) (by kernel_rfl) (by kernel_rfl) (Wt.yes rfl rfl rfl rfl) rfl (PV.loadQ (off := 0) (cs := S.t_Val.enc v5 (hf [])) (t := S.t_Val) (l := a1) (q := b1_0) Try.TF80 (fun w hm hΦ => (hR w (hm.frameAt (i := 0) rfl) (hΦ.1))) hx6 rfl rfl rfl (cut_self (S.t_Val.len _ _)) rfl (by decide)) ?_
      refine RD.take 10 rfl (by kernel_rfl) (by kernel_rfl) (by kernel_rfl) (Wt.yes rfl rfl rfl rfl) rfl (PV.loadM (l := S.t_Dot.enc a2 (hf [])) 1 Try.TF45 rfl rfl (cut_self (S.t_Dot.len _ _)) rfl (by decide)) ?_
      refine RD.one 11 (by kernel_rfl) ?_
      refine Up.eff rfl (Wt.yes rfl rfl rfl rfl) rfl (EV.callV2 (K := _) (pre := []) (caps := []) Try.call118 rfl rfl (SpecK.callV (W_bag_find_1 v5 a2 hx8))) ?_ ?_
      · rintro _ _ _ ⟨_, rfl, rfl, rfl⟩; exact St.of' (by decide) (L' := [0, 1]) rfl (fun _ h => h)
      rintro _ _ _ ⟨_, rfl, rfl, rfl⟩
      refine RD.take 12 rfl (by kernel_rfl) (by kernel_rfl) (by kernel_rfl) (Wt.yes rfl rfl rfl rfl) rfl (PV.eql rfl rfl) ?_
      refine RD.take 13 rfl (by kernel_rfl) (by kernel_rfl) (by kernel_rfl) (Wt.no rfl) rfl (PV.pickT rfl rfl) ?_
      refine RD.take 14 rfl (by kernel_rfl) (by kernel_rfl) (by kernel_rfl) (Wt.no rfl) rfl (PV.assign rfl) ?_
      refine RD.take 15 rfl (by kernel_rfl) (by kernel_rfl) (by kernel_rfl) (Wt.no rfl) rfl (PV.assign rfl) ?_
      refine RD.done (by kernel_rfl) ?_
      refine CW.ret ?_
      obtain rfl := Option.some.inj h
      exact retP2 (Ψ := Φ) [0] (by decide) rfl (RV.tmp rfl) (RV.tmp rfl) rfl (fun w hΦ => hΦ.1) ⟨(), rfl, rfl, rfl⟩
    · replace hb4 := Bool.eq_false_iff.2 hb4
      replace h := iteF hb4 h
      refine CW.regD (pickM [0, 1] _) _ (by kernel_rfl) (St.of (by decide) rfl (fun _ h => h)) ?_
      refine RD.take 0 rfl (by kernel_rfl) (by kernel_rfl) (by kernel_rfl) (Wt.no rfl) rfl (PV.move rfl) ?_
      refine RD.take 1 rfl (by kernel_rfl) (by kernel_rfl) (by kernel_rfl) (Wt.no rfl) rfl (PV.move rfl) ?_
      refine RD.take 2 rfl (by kernel_rfl) (by kernel_rfl) (by kernel_rfl) (Wt.no rfl) rfl (PV.move rfl) ?_
      refine RD.take 3 rfl (by kernel_rfl) (by kernel_rfl) (by kernel_rfl) (Wt.no rfl) rfl (PV.lss rfl rfl) ?_
      refine RD.take 4 rfl (by kernel_rfl) (by kernel_rfl) (by kernel_rfl) (Wt.no rfl) rfl ((PV.move rfl).to (congrArg Value.bool hb4)) ?_
      refine RD.takeNo 5 rfl (by kernel_rfl) (by kernel_rfl) (by kernel_rfl) (Un.mk rfl rfl rfl rfl) rfl ?_
      refine RD.takeNo 6 rfl (by kernel_rfl) (by kernel_rfl) (by kernel_rfl) (Un.mk rfl rfl rfl rfl) rfl ?_
      refine RD.takeNo 7 rfl (by kernel_rfl) (by kernel_rfl) (by kernel_rfl) (Un.mk rfl rfl rfl rfl) rfl ?_
      refine RD.takeNo 8 rfl (by kernel_rfl) (by kernel_rfl) (by kernel_rfl) (Un.mk rfl rfl rfl rfl) rfl ?_
      refine RD.takeNo 9 rfl (by kernel_rfl) (by kernel_rfl) (by kernel_rfl) (Un.mk rfl rfl rfl rfl) rfl ?_
      refine RD.takeNo 10 rfl (by kernel_rfl) (by kernel_rfl) (by kernel_rfl) (Un.mk rfl rfl rfl rfl) rfl ?_
      refine RD.takeNo 11 rfl (by kernel_rfl) (by kernel_rfl) (by kernel_rfl) (Un.mk rfl rfl rfl rfl) rfl ?_
      refine RD.takeNo 12 rfl (by kernel_rfl) (by kernel_rfl) (by kernel_rfl) (Un.mk rfl rfl rfl rfl) rfl ?_
      refine RD.take 13 rfl (by kernel_rfl) (by kernel_rfl) (by kernel_rfl) (Wt.no rfl) rfl (PV.pickF rfl rfl) ?_
      refine RD.take 14 rfl (by kernel_rfl) (by kernel_rfl) (by kernel_rfl) (Wt.no rfl) rfl (PV.assign rfl) ?_
      refine RD.take 15 rfl (by kernel_rfl) (by kernel_rfl) (by kernel_rfl) (Wt.no rfl) rfl (PV.assign rfl) ?_
      refine RD.done (by kernel_rfl) ?_
      refine CW.ret ?_
      obtain rfl := Option.some.inj h
      exact retP2 (Ψ := Φ) [0] (by decide) rfl (RV.tmp rfl) (RV.tmp rfl) rfl (fun w hΦ => hΦ.1) ⟨(), rfl, rfl, rfl⟩

theorem W_bag_find {D : Mem} {Φ : World → Prop} (a1 : List S.Val) (a2 : S.Dot) (b1_0 : Hd) {r : Int × Bool} (h : S.bag_find a1 a2 = some r) (hR : ∀ w, MemOk D w → Φ w → (slR S.t_Val w a1 b1_0)) :
    SpecK Try.prog 94 [.slice b1_0.a a1.length b1_0.cap, .agg (S.t_Dot.enc a2 (hf [])).toArray] D [] Φ (fun x : Unit => .tuple #[.int .i64 r.1, .bool r.2]) (fun x => []) (fun x => []) (fun _ => Φ) := by
  refine enterK Try.func94 rfl Try.ntmps94 rfl ?_
  unfold S.bag_find at h
  refine CW.reg ?_
  refine RO.eff (Wt.no rfl) rfl (EV.boxB (B := S.t_Dot.enc a2 (hf [])) rfl rfl) ?_
  rintro _ _ _ ⟨g1, rfl, rfl, rfl⟩
  refine RO.val (Wt.no rfl) rfl (PV.assign rfl) ?_
  refine RO.val (Wt.no rfl) rfl (PV.assign rfl) ?_
  refine RO.nil ?_
  replace h := bindS h
  obtain ⟨⟨v2, v3⟩, hx4, h⟩ := h
  dsimp only at h
  refine CW.reg ?_
  refine RO.val (Wt.no rfl) rfl (PV.move rfl) ?_
  refine RO.val (Wt.no rfl) rfl (PV.loadM (l := S.t_Dot.enc a2 (hf [])) 1 Try.TF45 rfl rfl (cut_self (S.t_Dot.len _ _)) rfl (by decide)) ?_
  refine RO.eff (Wt.no rfl) rfl (EV.call (K := _) Try.call117 rfl (SpecK.callV (W_slices_BinarySearchFunc_api_Value_api_Value_api_Dot_bag_find_1 a1 a2 b1_0 hx4 (fun w hm hΦ => (hR w (hm.frameAt (i := 0) rfl) (hΦ.1)))))) ?_
  rintro _ _ _ ⟨_, rfl, rfl, rfl⟩
  refine RO.val (Wt.no rfl) rfl (PV.extract rfl rfl) ?_
  refine RO.val (Wt.no rfl) rfl (PV.extract rfl rfl) ?_
  refine RO.val (Wt.no rfl) rfl (PV.assign rfl) ?_
  refine RO.val (Wt.no rfl) rfl (PV.assign rfl) ?_
  refine RO.nil ?_
  refine CW.ret ?_
  obtain rfl := Option.some.inj h
  exact retP2 (Ψ := Φ) [0] (by decide) rfl (RV.tmp rfl) (RV.tmp rfl) rfl (fun w hΦ => hΦ.1) ⟨(), rfl, rfl, rfl⟩

theorem W_bag_stays {D : Mem} {Φ : World → Prop} (a1 : S.Bag) (a2 : S.Bag) (b1_0 : Hd) (b2_0 : Hd) {r : (List S.Val)} (h : S.bag_stays a1 a2 = some r) (hR : ∀ w, MemOk D w → Φ w → (slR S.t_Val w a1.Values b1_0 ∧ slR S.t_Val w a2.Values b2_0)) :
    SpecK Try.prog 109 [.agg (S.t_Bag.enc a1 (hf [b1_0])).toArray, .agg (S.t_Bag.enc a2 (hf [b2_0])).toArray] D [] Φ (fun x : Hd => .slice x.a r.length x.cap) (fun x => []) (fun x => [rowE S.t_Val 80 r x]) (fun _ => Φ) := by
  refine enterK Try.func109 rfl Try.ntmps109 rfl ?_
  unfold S.bag_stays at h
  refine CW.reg ?_
  refine RO.eff (Wt.no rfl) rfl (EV.boxB (B := S.t_Bag.enc a1 (hf [b1_0])) rfl rfl) ?_
  rintro _ _ _ ⟨g1, rfl, rfl, rfl⟩
  refine RO.eff (Wt.no rfl) rfl (EV.boxB (B := S.t_Bag.enc a2 (hf [b2_0])) rfl rfl) ?_
  rintro _ _ _ ⟨g2, rfl, rfl, rfl⟩
  refine RO.val (Wt.no rfl) rfl (PV.assign rfl) ?_
  refine RO.nil ?_
  refine CW.reg ?_
  refine RO.val (Wt.no rfl) rfl (PV.assign rfl) ?_
  refine RO.nil ?_
  refine CW.row 80 3 ?_
  replace h := bindS h
  obtain ⟨e7, h, hk6⟩ := h
  refine CW.meet (X := (List S.Val) × Hd) (fun x => [(4, .slice Hd.z.a 0 Hd.z.cap), (5, .slice x.2.a x.1.length x.2.cap)]) (fun x => [frame D, .blk g1 (S.t_Bag.enc a1 (hf [b1_0])), .blk g2 (S.t_Bag.enc a2 (hf [b2_0])), rowE S.t_Val 80 x.1 x.2]) (fun x w => (Φ w ∧ True)) (fun x => S.bag_stays_j3 x.1 = some r) ?_ ?_
  · skip
    refine CW.reg ?_
    refine RO.val (Wt.no rfl) rfl (PV.fieldAddr Try.fa40_1 rfl) ?_
    refine RO.val (Wt.no rfl) rfl (PV.loadM (l := [.slice b1_0.a a1.Values.length b1_0.cap]) 1 Try.TF38 rfl rfl (cut_Bag_Values _ _) rfl (by decide)) ?_
    refine RO.val (Wt.no rfl) rfl (PV.lenS Try.underlying38 rfl) ?_
    refine RO.val (Wt.no rfl) rfl (PV.move rfl) ?_
    refine RO.nil ?_
    refine CW.block ?_
    refine CW.loopE (X := Nat × (List S.Val) × Int × Hd) (fun x => [(3, .pointer (some ⟨g2, 0, none⟩)), (4, .slice Hd.z.a 0 Hd.z.cap), (5, .slice x.2.2.2.a x.2.1.length x.2.2.2.cap), (11, .slice b1_0.a a1.Values.length b1_0.cap), (12, .int .i64 (a1.Values.length : Int)), (13, .int .i64 x.2.2.1)]) (fun x => [frame D, .blk g1 (S.t_Bag.enc a1 (hf [b1_0])), .blk g2 (S.t_Bag.enc a2 (hf [b2_0])), rowE S.t_Val 80 x.2.1 x.2.2.2]) (fun x w => (Φ w ∧ True)) (fun x => loopN (S.bag_stays_l4 a1 a2) x.1 (x.2.1, x.2.2.1) = some e7) (fun x => x.1) (FUEL, [], 0, Hd.z) h (by exact ⟨rfl, rfl, rfl, rfl, rfl, rfl, trivial⟩) rfl (fun w hΦ => hΦ) ?_
    rintro ⟨n19', v14, v16, q15⟩ hI17
    try dsimp only at hI17 ⊢
    obtain ⟨n19, y18, rfl, h, hk20⟩ := loopN_some hI17
    unfold S.bag_stays_l4 at h
    try dsimp only at h
    refine CW.reg ?_
    refine RO.val (Wt.no rfl) rfl (PV.lss rfl rfl) ?_
    refine RO.nil ?_
    refine CW.seq ?_
    refine CW.cond rfl (fun hb21 => ?_) (fun hb21 => ?_)
    · replace h := iteT hb21 h
      refine CW.skip ?_
      refine QC.then_n ?_
      refine CW.seq ?_
      refine CW.block ?_
      replace h := bindS h
      obtain ⟨v22, hx23, h⟩ := h
      refine CW.reg ?_
      refine RO.val (Wt.no rfl) rfl (PV.idxQ (t := S.t_Val) (l := a1.Values) (q := b1_0) Try.underlying38 Try.sizeOf80 (fun w hm hΦ => (hR w (hm.frameAt (i := 0) rfl) (hΦ.1)).1) rfl rfl hx23) ?_
      refine RO.val (Wt.no rfl) rfl (PV.loadQ (off := 0) (cs := S.t_Val.enc v22 (hf [])) (t := S.t_Val) (l := a1.Values) (q := b1_0) Try.TF80 (fun w hm hΦ => (hR w (hm.frameAt (i := 0) rfl) (hΦ.1)).1) hx23 rfl rfl rfl (cut_self (S.t_Val.len _ _)) rfl (by decide)) ?_
      refine RO.eff (Wt.no rfl) rfl (EV.allocB (B := S.t_Val.enc S.Val.z (hf [])) Try.zeroValue80 rfl) ?_
      rintro _ _ _ ⟨g24, rfl, rfl, rfl⟩
      refine RO.eff (Wt.no rfl) rfl (EV.storeW (B := S.t_Val.enc v22 (hf [])) 4 Try.TF80 rfl rfl rfl (by exact S.t_Val.len v22 (hf [])) (by exact S.t_Val.one v22 (hf [])) (S.t_Val.len S.Val.z (hf [])) rfl) ?_
      rintro _ _ _ ⟨rfl, rfl, rfl⟩
      refine RO.nil ?_
      replace h := bindS h
      obtain ⟨⟨v25, v26⟩, hx27, h⟩ := h
      dsimp only at h
      refine CW.reg ?_
      refine RO.val (Wt.no rfl) rfl (PV.fieldAddr Try.fa40_1 rfl) ?_
      refine RO.val (Wt.no rfl) rfl (PV.loadM (l := [.slice b2_0.a a2.Values.length b2_0.cap]) 2 Try.TF38 rfl rfl (cut_Bag_Values _ _) rfl (by decide)) ?_
      refine RO.val (Wt.no rfl) rfl (PV.fieldAddr Try.fa80_0 rfl) ?_
      refine RO.val (Wt.no rfl) rfl (PV.loadM (l := S.t_Dot.enc v22.Dot (hf [])) 4 Try.TF45 rfl rfl (cut_Val_Dot _ _) rfl (by decide)) ?_
      refine RO.eff (Wt.no rfl) rfl (EV.call (K := _) Try.call94 rfl (SpecK.callV (W_bag_find a2.Values v22.Dot b2_0 hx27 (fun w hm hΦ => (hR w (hm.frameAt (i := 0) rfl) (hΦ.1)).2)))) ?_
      rintro _ _ _ ⟨_, rfl, rfl, rfl⟩
      refine RO.val (Wt.no rfl) rfl (PV.move rfl) ?_
      refine RO.val (Wt.no rfl) rfl (PV.extract rfl rfl) ?_
      refine RO.val (Wt.no rfl) rfl (PV.extract rfl rfl) ?_
      refine RO.val (Wt.no rfl) rfl (PV.assign rfl) ?_
      refine RO.val (Wt.no rfl) rfl (PV.assign rfl) ?_
      refine RO.nil ?_
      by_cases hb28 : v26 = true
      · replace h := iteT hb28 h
        subst hb28
        refine CW.reg ?_
        refine RO.val (Wt.no rfl) rfl (PV.move rfl) ?_
        refine RO.val (Wt.no rfl) rfl (PV.move rfl) ?_
        refine RO.skip (Un.mk rfl rfl rfl rfl) rfl ?_
        refine RO.skip (Un.mk rfl rfl rfl rfl) rfl ?_
        refine RO.skip (Un.mk rfl rfl rfl rfl) rfl ?_
        refine RO.skip (Un.mk rfl rfl rfl rfl) rfl ?_
        refine RO.skip (Un.mk rfl rfl rfl rfl) rfl ?_
        refine RO.skip (Un.mk rfl rfl rfl rfl) rfl ?_
        refine RO.val (Wt.no rfl) rfl (PV.pickT rfl rfl) ?_
        refine RO.nil ?_
        refine CW.condT rfl ?_
        replace h := bindS h
        obtain ⟨v30, hx31, h⟩ := h
        refine CW.region ?_
        refine RO.val (Wt.no rfl) rfl (PV.move rfl) ?_
        refine RO.val (Wt.no rfl) rfl (PV.loadM (l := S.t_Val.enc v22 (hf [])) 4 Try.TF80 rfl rfl (cut_self (S.t_Val.len _ _)) rfl (by decide)) ?_
        refine RO.eff (Wt.no rfl) rfl (EV.buildSlice (xs := [.tmp 35]) rfl Try.underlying38 Try.sizeOf80 Try.zeroValue80 rfl rfl rfl rfl) ?_
        rintro _ _ _ ⟨g29, rfl, rfl, rfl⟩
        refine RO.eff (Wt.no rfl) rfl (EV.appQ (bytes := 32) (t := S.t_Val) (l := v14) (q := q15) (y := v22) (hy := hf []) 3 5 Try.underlying38 Try.inf80 rfl rfl rfl rfl (by decide) rfl rfl rfl rfl hx31 (by decide)) ?_
        rintro _ _ _ ⟨a32, c33, rfl, rfl, rfl⟩
        refine RO.val (Wt.no rfl) rfl (PV.assign rfl) ?_
        refine RO.nil ?_
        refine QC.blk_n ?_
        refine QC.then_n ?_
        refine CW.region ?_
        refine RO.val (Wt.no rfl) rfl (PV.addW rfl rfl) ?_
        refine RO.val (Wt.no rfl) rfl (PV.move rfl) ?_
        refine RO.nil ?_
        obtain rfl := Option.some.inj h
        refine QC.roundP (n19, v30, (w64 (v16 + 1)), (Hd.mk a32 c33 (snocS v14.length q15.sub (hf [])))) (nextL_inl hk20) (by exact Nat.lt_succ_self _) [0, 1, 2, 3] (by decide) (by exact ⟨rfl, rfl, rfl, rfl, rfl, rfl, trivial⟩) rfl (fun w hΦ => hΦ)
      · replace hb28 := Bool.eq_false_iff.2 hb28
        replace h := iteF hb28 h
        subst hb28
        replace h := bindS h
        obtain ⟨v34, hx35, h⟩ := h
        refine CW.reg ?_
        refine RO.val (Wt.no rfl) rfl (PV.move rfl) ?_
        refine RO.val (Wt.no rfl) rfl (PV.move rfl) ?_
        refine RO.val (Wt.yes rfl rfl rfl rfl) rfl (PV.fieldAddr Try.fa40_0 rfl) ?_
        refine RO.val (Wt.yes rfl rfl rfl rfl) rfl (PV.loadM (l := S.t_A8_int.enc a2.Known (hf [])) 2 Try.TF37 rfl rfl (cut_Bag_Known _ _) rfl (by decide)) ?_
        refine RO.val (Wt.yes rfl rfl rfl rfl) rfl (PV.fieldAddr Try.fa80_0 rfl) ?_
        refine RO.val (Wt.yes rfl rfl rfl rfl) rfl (PV.loadM (l := S.t_Dot.enc v22.Dot (hf [])) 4 Try.TF45 rfl rfl (cut_Val_Dot _ _) rfl (by decide)) ?_
        refine RO.eff (Wt.yes rfl rfl rfl rfl) rfl (EV.call (K := _) Try.call34 rfl (SpecK.callV (W_clock_Has a2.Known v22.Dot hx35))) ?_
        rintro _ _ _ ⟨_, rfl, rfl, rfl⟩
        refine RO.val (Wt.yes rfl rfl rfl rfl) rfl (PV.not rfl) ?_
        refine RO.val (Wt.no rfl) rfl (PV.pickF rfl rfl) ?_
        refine RO.nil ?_
        refine CW.cond rfl (fun hb36 => ?_) (fun hb36 => ?_)
        · replace h := iteT hb36 h
          replace h := bindS h
          obtain ⟨v38, hx39, h⟩ := h
          refine CW.region ?_
          refine RO.val (Wt.no rfl) rfl (PV.move rfl) ?_
          refine RO.val (Wt.no rfl) rfl (PV.loadM (l := S.t_Val.enc v22 (hf [])) 4 Try.TF80 rfl rfl (cut_self (S.t_Val.len _ _)) rfl (by decide)) ?_
          refine RO.eff (Wt.no rfl) rfl (EV.buildSlice (xs := [.tmp 35]) rfl Try.underlying38 Try.sizeOf80 Try.zeroValue80 rfl rfl rfl rfl) ?_
          rintro _ _ _ ⟨g37, rfl, rfl, rfl⟩
          refine RO.eff (Wt.no rfl) rfl (EV.appQ (bytes := 32) (t := S.t_Val) (l := v14) (q := q15) (y := v22) (hy := hf []) 3 5 Try.underlying38 Try.inf80 rfl rfl rfl rfl (by decide) rfl rfl rfl rfl hx39 (by decide)) ?_
          rintro _ _ _ ⟨a40, c41, rfl, rfl, rfl⟩
          refine RO.val (Wt.no rfl) rfl (PV.assign rfl) ?_
          refine RO.nil ?_
          refine QC.blk_n ?_
          refine QC.then_n ?_
          refine CW.region ?_
          refine RO.val (Wt.no rfl) rfl (PV.addW rfl rfl) ?_
          refine RO.val (Wt.no rfl) rfl (PV.move rfl) ?_
          refine RO.nil ?_
          obtain rfl := Option.some.inj h
          refine QC.roundP (n19, v38, (w64 (v16 + 1)), (Hd.mk a40 c41 (snocS v14.length q15.sub (hf [])))) (nextL_inl hk20) (by exact Nat.lt_succ_self _) [0, 1, 2, 3] (by decide) (by exact ⟨rfl, rfl, rfl, rfl, rfl, rfl, trivial⟩) rfl (fun w hΦ => hΦ)
        · replace h := iteF hb36 h
          refine CW.skip ?_
          refine QC.blk_n ?_
          refine QC.then_n ?_
          refine CW.region ?_
          refine RO.val (Wt.no rfl) rfl (PV.addW rfl rfl) ?_
          refine RO.val (Wt.no rfl) rfl (PV.move rfl) ?_
          refine RO.nil ?_
          obtain rfl := Option.some.inj h
          refine QC.roundP (n19, v14, (w64 (v16 + 1)), q15) (nextL_inl hk20) (by exact Nat.lt_succ_self _) [0, 1, 2, 3] (by decide) (by exact ⟨rfl, rfl, rfl, rfl, rfl, rfl, trivial⟩) rfl (fun w hΦ => hΦ)
    · replace h := iteF hb21 h
      refine CW.exit ?_
      refine QC.then_x ?_
      refine QC.then_x ?_
      refine QC.blk_x ?_
      obtain rfl := Option.some.inj h
      obtain rfl := nextL_inr hk20
      refine QC.meetP (v14, q15) hk6 [0, 1, 2, 3] (by decide) (by exact ⟨rfl, rfl, trivial⟩) rfl (fun w hΦ => hΦ)
  · rintro ⟨v4, q5⟩ h
    try dsimp only at h ⊢
    unfold S.bag_stays_j3 at h
    refine CW.reg ?_
    refine RO.val (Wt.no rfl) rfl (PV.move rfl) ?_
    refine RO.val (Wt.no rfl) rfl (PV.assign rfl) ?_
    refine RO.nil ?_
    refine CW.ret ?_
    obtain rfl := Option.some.inj h
    exact retP1 (Ψ := Φ) [0, 3] (by decide) rfl (RV.tmp rfl) rfl (fun w hΦ => hΦ.1) ⟨q5, rfl, rfl, rfl⟩

theorem W_bag_Join {D : Mem} {Φ : World → Prop} (a1 : S.Bag) (a2 : S.Bag) (b1_0 : Hd) (b2_0 : Hd) {r : S.Bag × Int} (h : S.bag_Join a1 a2 = some r) (hR : ∀ w, MemOk D w → Φ w → (slR S.t_Val w a1.Values b1_0 ∧ slR S.t_Val w a2.Values b2_0)) :
    SpecK Try.prog 81 [.agg (S.t_Bag.enc a1 (hf [b1_0])).toArray, .agg (S.t_Bag.enc a2 (hf [b2_0])).toArray] D [] Φ (fun x : Hd => .tuple #[.agg (S.t_Bag.enc r.1 (hf [x])).toArray, .int .i64 r.2]) (fun x => []) (fun x => []) (fun x w => Φ w ∧ (slR S.t_Val w r.1.Values x)) := by
  refine enterK Try.func81 rfl Try.ntmps81 rfl ?_
  unfold S.bag_Join at h
  refine CW.reg ?_
  refine RO.eff (Wt.no rfl) rfl (EV.boxB (B := S.t_Bag.enc a1 (hf [b1_0])) rfl rfl) ?_
  rintro _ _ _ ⟨g1, rfl, rfl, rfl⟩
  refine RO.eff (Wt.no rfl) rfl (EV.boxB (B := S.t_Bag.enc a2 (hf [b2_0])) rfl rfl) ?_
  rintro _ _ _ ⟨g2, rfl, rfl, rfl⟩
  refine RO.eff (Wt.no rfl) rfl (EV.allocB (B := S.t_Bag.enc S.Bag.z (hf [Hd.z])) Try.zeroValue40 rfl) ?_
  rintro _ _ _ ⟨g3, rfl, rfl, rfl⟩
  refine RO.val (Wt.no rfl) rfl (PV.assign rfl) ?_
  refine RO.nil ?_
  refine CW.seq ?_
  replace h := bindS h
  obtain ⟨e60, h, hk59⟩ := h
  refine CW.meet (X := Bool) (fun x => [(2, .pointer (some ⟨g1, 0, none⟩)), (3, .pointer (some ⟨g2, 0, none⟩)), (4, .pointer (some ⟨g3, 0, none⟩)), (5, .int .i64 0), (18, .bool x)]) (fun x => [frame D, .blk g1 (S.t_Bag.enc a1 (hf [b1_0])), .blk g2 (S.t_Bag.enc a2 (hf [b2_0])), .blk g3 (S.t_Bag.enc S.Bag.z (hf [Hd.z]))]) (fun x w => (Φ w ∧ True)) (fun x => S.bag_Join_j1 a1 a2 x = some r) ?_ ?_
  · skip
    replace h := bindS h
    obtain ⟨v61, hx62, h⟩ := h
    by_cases hb63 : (!v61) = true
    · replace h := iteT hb63 h
      refine CW.region ?_
      refine RO.val (Wt.no rfl) rfl (PV.loadM (l := S.t_Bag.enc a1 (hf [b1_0])) 1 Try.TF40 rfl rfl (cut_self (S.t_Bag.len _ _)) rfl (by decide)) ?_
      refine RO.eff (Wt.no rfl) rfl (EV.call (K := _) Try.call73 rfl (SpecK.callV (W_bag_May a1 b1_0 hx62 (fun w hm hΦ => (hR w (hm.frameAt (i := 0) rfl) (hΦ.1)).1)))) ?_
      rintro _ _ _ ⟨_, rfl, rfl, rfl⟩
      refine RO.val (Wt.no rfl) rfl (PV.not rfl) ?_
      refine RO.val (Wt.no rfl) rfl ((PV.move rfl).to (congrArg Value.bool hb63)) ?_
      refine RO.skip (Un.mk rfl rfl rfl rfl) rfl ?_
      refine RO.skip (Un.mk rfl rfl rfl rfl) rfl ?_
      refine RO.skip (Un.mk rfl rfl rfl rfl) rfl ?_
      refine RO.val (Wt.no rfl) rfl (PV.pickT rfl rfl) ?_
      refine RO.nil ?_
      obtain rfl := Option.some.inj h
      refine QC.meetP true hk59 [0, 1, 2, 3] (by decide) (by exact ⟨rfl, rfl, rfl, rfl, rfl, trivial⟩) rfl (fun w hΦ => hΦ)
    · replace hb63 := Bool.eq_false_iff.2 hb63
      replace h := iteF hb63 h
      replace h := bindS h
      obtain ⟨v64, hx65, h⟩ := h
      refine CW.region ?_
      refine RO.val (Wt.no rfl) rfl (PV.loadM (l := S.t_Bag.enc a1 (hf [b1_0])) 1 Try.TF40 rfl rfl (cut_self (S.t_Bag.len _ _)) rfl (by decide)) ?_
      refine RO.eff (Wt.no rfl) rfl (EV.call (K := _) Try.call73 rfl (SpecK.callV (W_bag_May a1 b1_0 hx62 (fun w hm hΦ => (hR w (hm.frameAt (i := 0) rfl) (hΦ.1)).1)))) ?_
      rintro _ _ _ ⟨_, rfl, rfl, rfl⟩
      refine RO.val (Wt.no rfl) rfl (PV.not rfl) ?_
      refine RO.val (Wt.no rfl) rfl ((PV.move rfl).to (congrArg Value.bool hb63)) ?_
      refine RO.val (Wt.yes rfl rfl rfl rfl) rfl (PV.loadM (l := S.t_Bag.enc a2 (hf [b2_0])) 2 Try.TF40 rfl rfl (cut_self (S.t_Bag.len _ _)) rfl (by decide)) ?_
      refine RO.eff (Wt.yes rfl rfl rfl rfl) rfl (EV.call (K := _) Try.call73 rfl (SpecK.callV (W_bag_May a2 b2_0 hx65 (fun w hm hΦ => (hR w (hm.frameAt (i := 0) rfl) (hΦ.1)).2)))) ?_
      rintro _ _ _ ⟨_, rfl, rfl, rfl⟩
      refine RO.val (Wt.yes rfl rfl rfl rfl) rfl (PV.not rfl) ?_
      refine RO.val (Wt.no rfl) rfl (PV.pickF rfl rfl) ?_
      refine RO.nil ?_
      obtain rfl := Option.some.inj h
      refine QC.meetP (!v64) hk59 [0, 1, 2, 3] (by decide) (by exact ⟨rfl, rfl, rfl, rfl, rfl, trivial⟩) rfl (fun w hΦ => hΦ)
  · rintro v5 h
    try dsimp only at h ⊢
    unfold S.bag_Join_j1 at h
    refine CW.cond rfl (fun hb6 => ?_) (fun hb6 => ?_)
    · replace h := iteT hb6 h
      subst hb6
      refine CW.reg ?_
      refine RO.val (Wt.no rfl) rfl (PV.buildS (B := S.t_Bag.enc S.Bag.z (hf [Hd.z])) (xs := []) [] Try.BT40 rfl rfl rfl (by simp) trivial rfl) ?_
      refine RO.eff (Wt.no rfl) rfl (EV.storeW (B := S.t_Bag.enc S.Bag.z (hf [Hd.z])) 3 Try.TF40 rfl rfl rfl (by exact S.t_Bag.len S.Bag.z (hf [Hd.z])) (by exact S.t_Bag.one S.Bag.z (hf [Hd.z])) (S.t_Bag.len S.Bag.z (hf [Hd.z])) rfl) ?_
      rintro _ _ _ ⟨rfl, rfl, rfl⟩
      refine RO.val (Wt.no rfl) rfl (PV.assign rfl) ?_
      refine RO.nil ?_
      refine CW.ret ?_
      refine QC.then_r ?_
      obtain rfl := Option.some.inj h
      exact retP2 (Ψ := fun w => Φ w ∧ (slR S.t_Val w [] Hd.z)) [0] (by decide) rfl (RV.cell (A := S.t_Bag.enc S.Bag.z (hf [Hd.z])) 3 rfl Try.TF40 rfl (S.t_Bag.len _ _) (by decide)) (RV.tmp rfl) rfl (fun w hΦ => ⟨hΦ.1, (slR.nil _ _)⟩) ⟨Hd.z, rfl, rfl, rfl⟩
    · replace h := iteF hb6 h
      subst hb6
      refine CW.skip ?_
      refine QC.then_n ?_
      replace h := bindS h
      obtain ⟨e52, h, hk51⟩ := h
      refine CW.meet (X := (List S.Val) × S.Bag × Hd × Nat) (fun x => [(2, .pointer (some ⟨g1, 0, none⟩)), (3, .pointer (some ⟨g2, 0, none⟩)), (4, .pointer (some ⟨g3, 0, none⟩)), (5, .int .i64 0), (6, .pointer (some ⟨x.2.2.2, 0, none⟩))]) (fun x => [frame D, .blk g1 (S.t_Bag.enc a1 (hf [b1_0])), .blk g2 (S.t_Bag.enc a2 (hf [b2_0])), .blk g3 (S.t_Bag.enc S.Bag.z (hf [Hd.z])), rowE S.t_Val 80 x.1 x.2.2.1, .blk x.2.2.2 (S.t_Bag.enc ({ x.2.1 with Values := x.1 } : S.Bag) (hf [x.2.2.1]))]) (fun x w => (Φ w ∧ True)) (fun x => S.bag_Join_j2 a2 a1 x.1 x.2.1 = some r) ?_ ?_
      · skip
        replace h := bindS h
        obtain ⟨v53, hx54, h⟩ := h
        replace h := bindS h
        obtain ⟨v55, hx56, h⟩ := h
        refine CW.regionD (pickM [0, 1, 2, 3] _) _ (by kernel_rfl) (St.of (by decide) rfl (fun _ h => h)) ?_
        refine RD.take 0 rfl (by kernel_rfl) (by kernel_rfl) (by kernel_rfl) (Wt.no rfl) rfl (PV.fieldAddr Try.fa40_0 rfl) ?_
        refine RD.take 1 rfl (by kernel_rfl) (by kernel_rfl) (by kernel_rfl) (Wt.no rfl) rfl (PV.loadM (l := S.t_A8_int.enc a1.Known (hf [])) 1 Try.TF37 rfl rfl (cut_Bag_Known _ _) rfl (by decide)) ?_
        refine RD.take 2 rfl (by kernel_rfl) (by kernel_rfl) (by kernel_rfl) (Wt.no rfl) rfl (PV.fieldAddr Try.fa40_0 rfl) ?_
        refine RD.take 3 rfl (by kernel_rfl) (by kernel_rfl) (by kernel_rfl) (Wt.no rfl) rfl (PV.loadM (l := S.t_A8_int.enc a2.Known (hf [])) 2 Try.TF37 rfl rfl (cut_Bag_Known _ _) rfl (by decide)) ?_
        refine RD.take 5 rfl (by kernel_rfl) (by kernel_rfl) (by kernel_rfl) (Wt.no rfl) rfl (PV.loadM (l := S.t_Bag.enc a1 (hf [b1_0])) 1 Try.TF40 rfl rfl (cut_self (S.t_Bag.len _ _)) rfl (by decide)) ?_
        refine RD.take 6 rfl (by kernel_rfl) (by kernel_rfl) (by kernel_rfl) (Wt.no rfl) rfl (PV.loadM (l := S.t_Bag.enc a2 (hf [b2_0])) 2 Try.TF40 rfl rfl (cut_self (S.t_Bag.len _ _)) rfl (by decide)) ?_
        refine RD.two 4 9 (by kernel_rfl) ?_ ?_
        · skip
          refine Up.eff rfl (Wt.no rfl) rfl (EV.call (K := _) Try.call93 rfl (SpecK.callV (W_clock_Join a1.Known a2.Known hx54))) ?_ ?_
          · rintro _ _ _ ⟨_, rfl, rfl, rfl⟩; exact St.of' (by decide) (L' := [0, 1, 2, 3]) rfl (fun _ h => h)
          rintro _ _ _ ⟨_, rfl, rfl, rfl⟩
          refine RD.two 7 9 (by kernel_rfl) ?_ ?_
          · skip
            refine Up.eff rfl (Wt.no rfl) rfl (EV.call (K := _) Try.call109 rfl (SpecK.call0 (W_bag_stays a1 a2 b1_0 b2_0 hx56 (fun w hm hΦ => ⟨(hR w (hm.frameAt (i := 0) rfl) (hΦ.1)).1, (hR w (hm.frameAt (i := 0) rfl) (hΦ.1)).2⟩)))) ?_ ?_
            · rintro _ _ _ ⟨q57, rfl, rfl, rfl⟩; exact St.of' (by decide) (L' := [0, 1, 2, 3]) rfl (fun _ h => h)
            rintro _ _ _ ⟨q57, rfl, rfl, rfl⟩
            refine RD.take 8 rfl (by kernel_rfl) (by kernel_rfl) (by kernel_rfl) (Wt.no rfl) rfl (PV.buildS (B := S.t_Bag.enc ({ Known := v53, Values := v55 } : S.Bag) (hf [q57])) (xs := [.tmp 24, .tmp 27]) [(0, 0, 8), (1, 8, 1)] Try.BT40 rfl rfl rfl (by decide) ⟨rfl, rfl, rfl, rfl, trivial⟩ rfl) ?_
            refine RD.one 9 (by kernel_rfl) ?_
            refine Up.eff rfl (Wt.no rfl) rfl (EV.allocB (B := S.t_Bag.enc S.Bag.z (hf [Hd.z])) Try.zeroValue40 rfl) ?_ ?_
            · rintro _ _ _ ⟨g58, rfl, rfl, rfl⟩; exact St.of' (by decide) (L' := [0, 1, 2, 3]) rfl (fun _ h => h)
            rintro _ _ _ ⟨g58, rfl, rfl, rfl⟩
            refine RD.one 10 (by kernel_rfl) ?_
            refine Up.eff rfl (Wt.no rfl) rfl (EV.storeW (B := S.t_Bag.enc ({ Known := v53, Values := v55 } : S.Bag) (hf [q57])) 5 Try.TF40 rfl rfl rfl (by exact S.t_Bag.len ({ Known := v53, Values := v55 } : S.Bag) (hf [q57])) (by exact S.t_Bag.one ({ Known := v53, Values := v55 } : S.Bag) (hf [q57])) (S.t_Bag.len S.Bag.z (hf [Hd.z])) rfl) ?_ ?_
            · rintro _ _ _ ⟨rfl, rfl, rfl⟩; exact St.of' (by decide) (L' := [0, 1, 2, 3]) rfl (fun _ h => h)
            rintro _ _ _ ⟨rfl, rfl, rfl⟩
            refine RD.done (by kernel_rfl) ?_
            obtain rfl := Option.some.inj h
            refine QC.meetP (v55, ({ Known := v53, Values := v55 } : S.Bag), q57, g58) hk51 [0, 1, 2, 3, 4, 5] (by decide) (by exact ⟨rfl, rfl, rfl, rfl, rfl, trivial⟩) rfl (fun w hΦ => hΦ)
          · skip
            refine Up.eff rfl (Wt.no rfl) rfl (EV.allocB (B := S.t_Bag.enc S.Bag.z (hf [Hd.z])) Try.zeroValue40 rfl) ?_ ?_
            · rintro _ _ _ ⟨g58, rfl, rfl, rfl⟩; exact St.of' (by decide) (L' := [0, 1, 2, 3]) rfl (fun _ h => h)
            rintro _ _ _ ⟨g58, rfl, rfl, rfl⟩
            refine RD.one 7 (by kernel_rfl) ?_
            refine Up.eff rfl (Wt.no rfl) rfl (EV.call (K := _) Try.call109 rfl (SpecK.call0 (W_bag_stays a1 a2 b1_0 b2_0 hx56 (fun w hm hΦ => ⟨(hR w (hm.frameAt (i := 0) rfl) (hΦ.1)).1, (hR w (hm.frameAt (i := 0) rfl) (hΦ.1)).2⟩)))) ?_ ?_
            · rintro _ _ _ ⟨q57, rfl, rfl, rfl⟩; exact St.of' (by decide) (L' := [0, 1, 2, 3]) rfl (fun _ h => h)
            rintro _ _ _ ⟨q57, rfl, rfl, rfl⟩
            refine RD.take 8 rfl (by kernel_rfl) (by kernel_rfl) (by kernel_rfl) (Wt.no rfl) rfl (PV.buildS (B := S.t_Bag.enc ({ Known := v53, Values := v55 } : S.Bag) (hf [q57])) (xs := [.tmp 24, .tmp 27]) [(0, 0, 8), (1, 8, 1)] Try.BT40 rfl rfl rfl (by decide) ⟨rfl, rfl, rfl, rfl, trivial⟩ rfl) ?_
            refine RD.one 10 (by kernel_rfl) ?_
            refine Up.eff rfl (Wt.no rfl) rfl (EV.storeW (B := S.t_Bag.enc ({ Known := v53, Values := v55 } : S.Bag) (hf [q57])) 4 Try.TF40 rfl rfl rfl (by exact S.t_Bag.len ({ Known := v53, Values := v55 } : S.Bag) (hf [q57])) (by exact S.t_Bag.one ({ Known := v53, Values := v55 } : S.Bag) (hf [q57])) (S.t_Bag.len S.Bag.z (hf [Hd.z])) rfl) ?_ ?_
            · rintro _ _ _ ⟨rfl, rfl, rfl⟩; exact St.of' (by decide) (L' := [0, 1, 2, 3]) rfl (fun _ h => h)
            rintro _ _ _ ⟨rfl, rfl, rfl⟩
            refine RD.done (by kernel_rfl) ?_
            obtain rfl := Option.some.inj h
            refine QC.meetP (v55, ({ Known := v53, Values := v55 } : S.Bag), q57, g58) hk51 [0, 1, 2, 3, 5, 4] (by decide) (by exact ⟨rfl, rfl, rfl, rfl, rfl, trivial⟩) rfl (fun w hΦ => hΦ)
        · skip
          refine Up.eff rfl (Wt.no rfl) rfl (EV.allocB (B := S.t_Bag.enc S.Bag.z (hf [Hd.z])) Try.zeroValue40 rfl) ?_ ?_
          · rintro _ _ _ ⟨g58, rfl, rfl, rfl⟩; exact St.of' (by decide) (L' := [0, 1, 2, 3]) rfl (fun _ h => h)
          rintro _ _ _ ⟨g58, rfl, rfl, rfl⟩
          refine RD.one 4 (by kernel_rfl) ?_
          refine Up.eff rfl (Wt.no rfl) rfl (EV.call (K := _) Try.call93 rfl (SpecK.callV (W_clock_Join a1.Known a2.Known hx54))) ?_ ?_
          · rintro _ _ _ ⟨_, rfl, rfl, rfl⟩; exact St.of' (by decide) (L' := [0, 1, 2, 3]) rfl (fun _ h => h)
          rintro _ _ _ ⟨_, rfl, rfl, rfl⟩
          refine RD.one 7 (by kernel_rfl) ?_
          refine Up.eff rfl (Wt.no rfl) rfl (EV.call (K := _) Try.call109 rfl (SpecK.call0 (W_bag_stays a1 a2 b1_0 b2_0 hx56 (fun w hm hΦ => ⟨(hR w (hm.frameAt (i := 0) rfl) (hΦ.1)).1, (hR w (hm.frameAt (i := 0) rfl) (hΦ.1)).2⟩)))) ?_ ?_
          · rintro _ _ _ ⟨q57, rfl, rfl, rfl⟩; exact St.of' (by decide) (L' := [0, 1, 2, 3]) rfl (fun _ h => h)
          rintro _ _ _ ⟨q57, rfl, rfl, rfl⟩
          refine RD.take 8 rfl (by kernel_rfl) (by kernel_rfl) (by kernel_rfl) (Wt.no rfl) rfl (PV.buildS (B := S.t_Bag.enc ({ Known := v53, Values := v55 } : S.Bag) (hf [q57])) (xs := [.tmp 24, .tmp 27]) [(0, 0, 8), (1, 8, 1)] Try.BT40 rfl rfl rfl (by decide) ⟨rfl, rfl, rfl, rfl, trivial⟩ rfl) ?_
          refine RD.one 10 (by kernel_rfl) ?_
          refine Up.eff rfl (Wt.no rfl) rfl (EV.storeW (B := S.t_Bag.enc ({ Known := v53, Values := v55 } : S.Bag) (hf [q57])) 4 Try.TF40 rfl rfl rfl (by exact S.t_Bag.len ({ Known := v53, Values := v55 } : S.Bag) (hf [q57])) (by exact S.t_Bag.one ({ Known := v53, Values := v55 } : S.Bag) (hf [q57])) (S.t_Bag.len S.Bag.z (hf [Hd.z])) rfl) ?_ ?_
          · rintro _ _ _ ⟨rfl, rfl, rfl⟩; exact St.of' (by decide) (L' := [0, 1, 2, 3]) rfl (fun _ h => h)
          rintro _ _ _ ⟨rfl, rfl, rfl⟩
          refine RD.done (by kernel_rfl) ?_
          obtain rfl := Option.some.inj h
          refine QC.meetP (v55, ({ Known := v53, Values := v55 } : S.Bag), q57, g58) hk51 [0, 1, 2, 3, 5, 4] (by decide) (by exact ⟨rfl, rfl, rfl, rfl, rfl, trivial⟩) rfl (fun w hΦ => hΦ)
      · rintro ⟨v8, v11, q9, g10⟩ h
        try dsimp only at h ⊢
        unfold S.bag_Join_j2 at h
        replace h := bindS h
        obtain ⟨e19, h, hk18⟩ := h
        refine CW.meet (X := (List S.Val) × S.Bag × Hd) (fun x => [(4, .pointer (some ⟨g3, 0, none⟩)), (5, .int .i64 0), (6, .pointer (some ⟨g10, 0, none⟩))]) (fun x => [frame D, .blk g1 (S.t_Bag.enc a1 (hf [b1_0])), .blk g2 (S.t_Bag.enc a2 (hf [b2_0])), .blk g3 (S.t_Bag.enc S.Bag.z (hf [Hd.z])), rowE S.t_Val 80 x.1 x.2.2, .blk g10 (S.t_Bag.enc ({ x.2.1 with Values := x.1 } : S.Bag) (hf [x.2.2]))]) (fun x w => (Φ w ∧ True)) (fun x => S.bag_Join_j4 x.1 x.2.1 = some r) ?_ ?_
        · skip
          replace h := bindS h
          obtain ⟨v20, hx21, h⟩ := h
          refine CW.reg ?_
          refine RO.val (Wt.no rfl) rfl (PV.loadM (l := S.t_Bag.enc a2 (hf [b2_0])) 2 Try.TF40 rfl rfl (cut_self (S.t_Bag.len _ _)) rfl (by decide)) ?_
          refine RO.val (Wt.no rfl) rfl (PV.loadM (l := S.t_Bag.enc a1 (hf [b1_0])) 1 Try.TF40 rfl rfl (cut_self (S.t_Bag.len _ _)) rfl (by decide)) ?_
          refine RO.eff (Wt.no rfl) rfl (EV.call (K := _) Try.call109 rfl (SpecK.call0 (W_bag_stays a2 a1 b2_0 b1_0 hx21 (fun w hm hΦ => ⟨(hR w (hm.frameAt (i := 0) rfl) (hΦ.1)).2, (hR w (hm.frameAt (i := 0) rfl) (hΦ.1)).1⟩)))) ?_
          rintro _ _ _ ⟨q22, rfl, rfl, rfl⟩
          refine RO.val (Wt.no rfl) rfl (PV.lenS Try.underlying38 rfl) ?_
          refine RO.val (Wt.no rfl) rfl (PV.move rfl) ?_
          refine RO.nil ?_
          refine CW.block ?_
          refine CW.loopE (X := Nat × (List S.Val) × S.Bag × Int × Hd) (fun x => [(4, .pointer (some ⟨g3, 0, none⟩)), (5, .int .i64 0), (6, .pointer (some ⟨g10, 0, none⟩)), (31, .slice q22.a v20.length q22.cap), (32, .int .i64 (v20.length : Int)), (33, .int .i64 x.2.2.2.1)]) (fun x => [frame D, .blk g1 (S.t_Bag.enc a1 (hf [b1_0])), .blk g2 (S.t_Bag.enc a2 (hf [b2_0])), .blk g3 (S.t_Bag.enc S.Bag.z (hf [Hd.z])), rowE S.t_Val 80 x.2.1 x.2.2.2.2, .blk g10 (S.t_Bag.enc ({ x.2.2.1 with Values := x.2.1 } : S.Bag) (hf [x.2.2.2.2])), rowE S.t_Val 80 v20 q22]) (fun x w => (Φ w ∧ True)) (fun x => loopN (S.bag_Join_l5 v20) x.1 (x.2.1, x.2.2.1, x.2.2.2.1) = some e19) (fun x => x.1) (FUEL, v8, ({ v11 with Values := v8 } : S.Bag), 0, q9) h (by exact ⟨rfl, rfl, rfl, rfl, rfl, rfl, trivial⟩) rfl (fun w hΦ => hΦ) ?_
          rintro ⟨n36', v30, v32, v33, q31⟩ hI34
          try dsimp only at hI34 ⊢
          obtain ⟨n36, y35, rfl, h, hk37⟩ := loopN_some hI34
          unfold S.bag_Join_l5 at h
          try dsimp only at h
          refine CW.reg ?_
          refine RO.val (Wt.no rfl) rfl (PV.lss rfl rfl) ?_
          refine RO.nil ?_
          refine CW.seq ?_
          refine CW.cond rfl (fun hb38 => ?_) (fun hb38 => ?_)
          · replace h := iteT hb38 h
            refine CW.skip ?_
            refine QC.then_n ?_
            refine CW.seq ?_
            refine CW.block ?_
            replace h := bindS h
            obtain ⟨v39, hx40, h⟩ := h
            refine CW.reg ?_
            refine RO.val (Wt.no rfl) rfl (PV.idxQ (t := S.t_Val) (l := v20) (q := q22) Try.underlying38 Try.sizeOf80 (fun w hm hΦ => (slR_row (hm.rowAt (i := 6) rfl) (fun _ _ _ => trivial))) rfl rfl hx40) ?_
            refine RO.val (Wt.no rfl) rfl (PV.loadQ (off := 0) (cs := S.t_Val.enc v39 (hf [])) (t := S.t_Val) (l := v20) (q := q22) Try.TF80 (fun w hm hΦ => (slR_row (hm.rowAt (i := 6) rfl) (fun _ _ _ => trivial))) hx40 rfl rfl rfl (cut_self (S.t_Val.len _ _)) rfl (by decide)) ?_
            refine RO.eff (Wt.no rfl) rfl (EV.allocB (B := S.t_Val.enc S.Val.z (hf [])) Try.zeroValue80 rfl) ?_
            rintro _ _ _ ⟨g41, rfl, rfl, rfl⟩
            refine RO.eff (Wt.no rfl) rfl (EV.storeW (B := S.t_Val.enc v39 (hf [])) 7 Try.TF80 rfl rfl rfl (by exact S.t_Val.len v39 (hf [])) (by exact S.t_Val.one v39 (hf [])) (S.t_Val.len S.Val.z (hf [])) rfl) ?_
            rintro _ _ _ ⟨rfl, rfl, rfl⟩
            refine RO.nil ?_
            replace h := bindS h
            obtain ⟨⟨v42, v43⟩, hx44, h⟩ := h
            dsimp only at h
            refine CW.reg ?_
            refine RO.val (Wt.no rfl) rfl (PV.fieldAddr Try.fa40_1 rfl) ?_
            refine RO.val (Wt.no rfl) rfl (PV.loadM (l := [.slice q31.a v30.length q31.cap]) 5 Try.TF38 rfl rfl (cut_Bag_Values _ _) rfl (by decide)) ?_
            refine RO.val (Wt.no rfl) rfl (PV.fieldAddr Try.fa80_0 rfl) ?_
            refine RO.val (Wt.no rfl) rfl (PV.loadM (l := S.t_Dot.enc v39.Dot (hf [])) 7 Try.TF45 rfl rfl (cut_Val_Dot _ _) rfl (by decide)) ?_
            refine RO.eff (Wt.no rfl) rfl (EV.call (K := _) Try.call94 rfl (SpecK.callV (W_bag_find v30 v39.Dot q31 hx44 (fun w hm hΦ => (slR_row (hm.rowAt (i := 4) rfl) (fun _ _ _ => trivial)))))) ?_
            rintro _ _ _ ⟨_, rfl, rfl, rfl⟩
            refine RO.val (Wt.no rfl) rfl (PV.move rfl) ?_
            refine RO.val (Wt.no rfl) rfl (PV.extract rfl rfl) ?_
            refine RO.val (Wt.no rfl) rfl (PV.extract rfl rfl) ?_
            refine RO.val (Wt.no rfl) rfl (PV.assign rfl) ?_
            refine RO.val (Wt.no rfl) rfl (PV.assign rfl) ?_
            refine RO.nil ?_
            refine CW.reg ?_
            refine RO.val (Wt.no rfl) rfl (PV.move rfl) ?_
            refine RO.val (Wt.no rfl) rfl (PV.not rfl) ?_
            refine RO.nil ?_
            refine CW.cond rfl (fun hb45 => ?_) (fun hb45 => ?_)
            · replace h := iteT hb45 h
              replace h := bindS h
              obtain ⟨v47, hx48, h⟩ := h
              refine CW.region ?_
              refine RO.val (Wt.no rfl) rfl (PV.fieldAddr Try.fa40_1 rfl) ?_
              refine RO.val (Wt.no rfl) rfl (PV.loadM (l := [.slice q31.a v30.length q31.cap]) 5 Try.TF38 rfl rfl (cut_Bag_Values _ _) rfl (by decide)) ?_
              refine RO.val (Wt.no rfl) rfl (PV.move rfl) ?_
              refine RO.val (Wt.no rfl) rfl (PV.loadM (l := S.t_Val.enc v39 (hf [])) 7 Try.TF80 rfl rfl (cut_self (S.t_Val.len _ _)) rfl (by decide)) ?_
              refine RO.eff (Wt.no rfl) rfl (EV.buildSlice (xs := [.tmp 50]) rfl Try.underlying38 Try.sizeOf80 Try.zeroValue80 rfl rfl rfl rfl) ?_
              rintro _ _ _ ⟨g46, rfl, rfl, rfl⟩
              refine RO.eff (Wt.no rfl) rfl (EV.insQ (t := S.t_Val) (l := v30) (q := q31) (y := v39) (hy := (hf [])) (ix := v42) 4 8 Try.call95 rfl rfl rfl (by decide) hx48 (fun k w1 hk hl h => Insert_Value w1 h (by exact S.t_Val.len _ _) (by exact S.t_Val.one _ _) (by exact encL_one _ _ _) hk hl)) ?_
              rintro _ _ _ ⟨a49, c50, rfl, rfl, rfl⟩
              refine RO.val (Wt.no rfl) rfl (PV.fieldAddr Try.fa40_1 rfl) ?_
              refine RO.eff (Wt.no rfl) rfl (EV.storeB (B := S.t_Bag.enc ({ v32 with Values := v47 } : S.Bag) (hf [(Hd.mk a49 c50 (insS v42.toNat q31.sub (hf [])))])) 5 Try.TF38 rfl rfl rfl rfl rfl (by rw [S.t_Bag.len]; decide) (wr_Bag_Values ({ v32 with Values := v30 } : S.Bag) q31 (Hd.mk a49 c50 (insS v42.toNat q31.sub (hf []))) v47)) ?_
              rintro _ _ _ ⟨rfl, rfl, rfl⟩
              refine RO.nil ?_
              refine QC.blk_n ?_
              refine QC.then_n ?_
              refine CW.region ?_
              refine RO.val (Wt.no rfl) rfl (PV.addW rfl rfl) ?_
              refine RO.val (Wt.no rfl) rfl (PV.move rfl) ?_
              refine RO.nil ?_
              obtain rfl := Option.some.inj h
              refine QC.roundP (n36, v47, ({ v32 with Values := v47 } : S.Bag), (w64 (v33 + 1)), (Hd.mk a49 c50 (insS v42.toNat q31.sub (hf [])))) (nextL_inl hk37) (by exact Nat.lt_succ_self _) [0, 1, 2, 3, 4, 5, 6] (by decide) (by exact ⟨rfl, rfl, rfl, rfl, rfl, rfl, trivial⟩) rfl (fun w hΦ => hΦ)
            · replace h := iteF hb45 h
              refine CW.skip ?_
              refine QC.blk_n ?_
              refine QC.then_n ?_
              refine CW.region ?_
              refine RO.val (Wt.no rfl) rfl (PV.addW rfl rfl) ?_
              refine RO.val (Wt.no rfl) rfl (PV.move rfl) ?_
              refine RO.nil ?_
              obtain rfl := Option.some.inj h
              refine QC.roundP (n36, v30, ({ v32 with Values := v30 } : S.Bag), (w64 (v33 + 1)), q31) (nextL_inl hk37) (by exact Nat.lt_succ_self _) [0, 1, 2, 3, 4, 5, 6] (by decide) (by exact ⟨rfl, rfl, rfl, rfl, rfl, rfl, trivial⟩) rfl (fun w hΦ => hΦ)
          · replace h := iteF hb38 h
            refine CW.exit ?_
            refine QC.then_x ?_
            refine QC.then_x ?_
            refine QC.blk_x ?_
            obtain rfl := Option.some.inj h
            obtain rfl := nextL_inr hk37
            refine QC.meetP (v30, ({ v32 with Values := v30 } : S.Bag), q31) hk18 [0, 1, 2, 3, 4, 5] (by decide) (by exact ⟨rfl, rfl, rfl, trivial⟩) rfl (fun w hΦ => hΦ)
        · rintro ⟨v13, v15, q14⟩ h
          try dsimp only at h ⊢
          unfold S.bag_Join_j4 at h
          refine CW.seq ?_
          refine CW.reg ?_
          refine RO.val (Wt.no rfl) rfl (PV.fieldAddr Try.fa40_1 rfl) ?_
          refine RO.val (Wt.no rfl) rfl (PV.loadM (l := [.slice q14.a v13.length q14.cap]) 5 Try.TF38 rfl rfl (cut_Bag_Values _ _) rfl (by decide)) ?_
          refine RO.val (Wt.no rfl) rfl (PV.lenS Try.underlying38 rfl) ?_
          refine RO.val (Wt.no rfl) rfl (PV.gtr rfl rfl) ?_
          refine RO.nil ?_
          refine CW.cond rfl (fun hb16 => ?_) (fun hb16 => ?_)
          · replace h := iteT hb16 h
            refine CW.reg ?_
            refine RO.val (Wt.no rfl) rfl (PV.buildS (B := S.t_Bag.enc S.Bag.z (hf [Hd.z])) (xs := []) [] Try.BT40 rfl rfl rfl (by simp) trivial rfl) ?_
            refine RO.eff (Wt.no rfl) rfl (EV.storeW (B := S.t_Bag.enc S.Bag.z (hf [Hd.z])) 3 Try.TF40 rfl rfl rfl (by exact S.t_Bag.len S.Bag.z (hf [Hd.z])) (by exact S.t_Bag.one S.Bag.z (hf [Hd.z])) (S.t_Bag.len S.Bag.z (hf [Hd.z])) rfl) ?_
            rintro _ _ _ ⟨rfl, rfl, rfl⟩
            refine RO.val (Wt.no rfl) rfl (PV.assign rfl) ?_
            refine RO.nil ?_
            refine CW.ret ?_
            refine QC.then_r ?_
            obtain rfl := Option.some.inj h
            exact retP2 (Ψ := fun w => Φ w ∧ (slR S.t_Val w [] Hd.z)) [0] (by decide) rfl (RV.cell (A := S.t_Bag.enc S.Bag.z (hf [Hd.z])) 3 rfl Try.TF40 rfl (S.t_Bag.len _ _) (by decide)) (RV.tmp rfl) rfl (fun w hΦ => ⟨hΦ.1, (slR.nil _ _)⟩) ⟨Hd.z, rfl, rfl, rfl⟩
          · replace h := iteF hb16 h
            refine CW.skip ?_
            refine QC.then_n ?_
            refine CW.reg ?_
            refine RO.val (Wt.no rfl) rfl (PV.loadM (l := S.t_Bag.enc ({ v15 with Values := v13 } : S.Bag) (hf [q14])) 5 Try.TF40 rfl rfl (cut_self (S.t_Bag.len _ _)) rfl (by decide)) ?_
            refine RO.eff (Wt.no rfl) rfl (EV.storeW (B := S.t_Bag.enc ({ v15 with Values := v13 } : S.Bag) (hf [q14])) 3 Try.TF40 rfl rfl rfl (by exact S.t_Bag.len ({ v15 with Values := v13 } : S.Bag) (hf [q14])) (by exact S.t_Bag.one ({ v15 with Values := v13 } : S.Bag) (hf [q14])) (S.t_Bag.len S.Bag.z (hf [Hd.z])) rfl) ?_
            rintro _ _ _ ⟨rfl, rfl, rfl⟩
            refine RO.val (Wt.no rfl) rfl (PV.assign rfl) ?_
            refine RO.nil ?_
            refine CW.ret ?_
            refine QC.freeze (t := S.t_Val) 4 rfl (fun w hΦ => (fun _ _ _ => trivial)) ?_
            obtain rfl := Option.some.inj h
            exact retP2 (Ψ := fun w => Φ w ∧ (slR S.t_Val w v13 q14)) [0] (by decide) rfl (RV.cell (A := S.t_Bag.enc ({ v15 with Values := v13 } : S.Bag) (hf [q14])) 3 rfl Try.TF40 rfl (S.t_Bag.len _ _) (by decide)) (RV.tmp rfl) rfl (fun w hΦ => ⟨hΦ.1.1, (hΦ.2)⟩) ⟨q14, rfl, rfl, rfl⟩

theorem W_bag_Below {D : Mem} {Φ : World → Prop} (a1 : S.Bag) (a2 : S.Bag) (b1_0 : Hd) (b2_0 : Hd) {r : Bool} (h : S.bag_Below a1 a2 = some r) (hR : ∀ w, MemOk D w → Φ w → (slR S.t_Val w a1.Values b1_0 ∧ slR S.t_Val w a2.Values b2_0)) :
    SpecK Try.prog 82 [.agg (S.t_Bag.enc a1 (hf [b1_0])).toArray, .agg (S.t_Bag.enc a2 (hf [b2_0])).toArray] D [] Φ (fun x : Unit => .bool r) (fun x => []) (fun x => []) (fun _ => Φ) := by
  refine enterK Try.func82 rfl Try.ntmps82 rfl ?_
  unfold S.bag_Below at h
  refine CW.reg ?_
  refine RO.eff (Wt.no rfl) rfl (EV.boxB (B := S.t_Bag.enc a1 (hf [b1_0])) rfl rfl) ?_
  rintro _ _ _ ⟨g1, rfl, rfl, rfl⟩
  refine RO.eff (Wt.no rfl) rfl (EV.boxB (B := S.t_Bag.enc a2 (hf [b2_0])) rfl rfl) ?_
  rintro _ _ _ ⟨g2, rfl, rfl, rfl⟩
  refine RO.val (Wt.no rfl) rfl (PV.assign rfl) ?_
  refine RO.nil ?_
  replace h := bindS h
  obtain ⟨⟨v3, v4⟩, hx5, h⟩ := h
  dsimp only at h
  refine CW.reg ?_
  refine RO.val (Wt.no rfl) rfl (PV.loadM (l := S.t_Bag.enc a1 (hf [b1_0])) 1 Try.TF40 rfl rfl (cut_self (S.t_Bag.len _ _)) rfl (by decide)) ?_
  refine RO.val (Wt.no rfl) rfl (PV.loadM (l := S.t_Bag.enc a2 (hf [b2_0])) 2 Try.TF40 rfl rfl (cut_self (S.t_Bag.len _ _)) rfl (by decide)) ?_
  refine RO.eff (Wt.no rfl) rfl (EV.call (K := _) Try.call81 rfl (SpecK.callV (W_bag_Join a1 a2 b1_0 b2_0 hx5 (fun w hm hΦ => ⟨(hR w (hm.frameAt (i := 0) rfl) (hΦ.1)).1, (hR w (hm.frameAt (i := 0) rfl) (hΦ.1)).2⟩)))) ?_
  rintro _ _ _ ⟨q6, rfl, rfl, rfl⟩
  refine RO.val (Wt.no rfl) rfl (PV.move rfl) ?_
  refine RO.val (Wt.no rfl) rfl (PV.extract rfl rfl) ?_
  refine RO.val (Wt.no rfl) rfl (PV.extract rfl rfl) ?_
  refine RO.eff (Wt.no rfl) rfl (EV.allocB (B := S.t_Bag.enc S.Bag.z (hf [Hd.z])) Try.zeroValue40 rfl) ?_
  rintro _ _ _ ⟨g8, rfl, rfl, rfl⟩
  refine RO.eff (Wt.no rfl) rfl (EV.storeW (B := S.t_Bag.enc v3 (hf [q6])) 3 Try.TF40 rfl rfl rfl (by exact S.t_Bag.len v3 (hf [q6])) (by exact S.t_Bag.one v3 (hf [q6])) (S.t_Bag.len S.Bag.z (hf [Hd.z])) rfl) ?_
  rintro _ _ _ ⟨rfl, rfl, rfl⟩
  refine RO.val (Wt.no rfl) rfl (PV.assign rfl) ?_
  refine RO.nil ?_
  by_cases hb9 : (decide (v4 = 0)) = true
  · replace h := iteT hb9 h
    replace h := bindS h
    obtain ⟨v10, hx11, h⟩ := h
    refine CW.reg ?_
    refine RO.val (Wt.no rfl) rfl (PV.move rfl) ?_
    refine RO.val (Wt.no rfl) rfl (PV.eql rfl rfl) ?_
    refine RO.val (Wt.no rfl) rfl ((PV.move rfl).to (congrArg Value.bool hb9)) ?_
    refine RO.val (Wt.yes rfl rfl rfl rfl) rfl (PV.loadM (l := S.t_Bag.enc v3 (hf [q6])) 3 Try.TF40 rfl rfl (cut_self (S.t_Bag.len _ _)) rfl (by decide)) ?_
    refine RO.val (Wt.yes rfl rfl rfl rfl) rfl (PV.loadM (l := S.t_Bag.enc a2 (hf [b2_0])) 2 Try.TF40 rfl rfl (cut_self (S.t_Bag.len _ _)) rfl (by decide)) ?_
    refine RO.eff (Wt.yes rfl rfl rfl rfl) rfl (EV.call (K := _) Try.call19 rfl (SpecK.callV (W_bag_Same v3 a2 q6 b2_0 hx11 (fun w hm hΦ => ⟨(hΦ.2), (hR w (hm.frameAt (i := 0) rfl) (hΦ.1.1)).2⟩)))) ?_
    rintro _ _ _ ⟨_, rfl, rfl, rfl⟩
    refine RO.val (Wt.no rfl) rfl (PV.pickT rfl rfl) ?_
    refine RO.val (Wt.no rfl) rfl (PV.assign rfl) ?_
    refine RO.nil ?_
    refine CW.ret ?_
    obtain rfl := Option.some.inj h
    exact retP1 (Ψ := Φ) [0] (by decide) rfl (RV.tmp rfl) rfl (fun w hΦ => hΦ.1.1) ⟨(), rfl, rfl, rfl⟩
  · replace hb9 := Bool.eq_false_iff.2 hb9
    replace h := iteF hb9 h
    refine CW.reg ?_
    refine RO.val (Wt.no rfl) rfl (PV.move rfl) ?_
    refine RO.val (Wt.no rfl) rfl (PV.eql rfl rfl) ?_
    refine RO.val (Wt.no rfl) rfl ((PV.move rfl).to (congrArg Value.bool hb9)) ?_
    refine RO.skip (Un.mk rfl rfl rfl rfl) rfl ?_
    refine RO.skip (Un.mk rfl rfl rfl rfl) rfl ?_
    refine RO.skip (Un.mk rfl rfl rfl rfl) rfl ?_
    refine RO.val (Wt.no rfl) rfl (PV.pickF rfl rfl) ?_
    refine RO.val (Wt.no rfl) rfl (PV.assign rfl) ?_
    refine RO.nil ?_
    refine CW.ret ?_
    obtain rfl := Option.some.inj h
    exact retP1 (Ψ := Φ) [0] (by decide) rfl (RV.tmp rfl) rfl (fun w hΦ => hΦ.1.1) ⟨(), rfl, rfl, rfl⟩

theorem W_vault_Vault_Merge {D : Mem} {Φ : World → Prop} (a1 : S.vault_Vault) (a2 : ByteArray) (a3 : S.Bag) (ga1_0 ga1_1 ga1_2 : Nat) (b1_0 : Hd) (b1_1 : Hd) (b1_2 : (Nat → Hs)) (b3_0 : Hd) {r : Int × S.vault_Vault} (h : S.vault_Vault_Merge a1 a2 a3 = some r) (hR : ∀ w, Φ w → (rdS S.t_Deed w a1.l.l b1_0.sub ∧ slR (tInt .i64) w a1.ring.Plan.Targets b1_1 ∧ mpR S.t_Bag w a1.bags b1_2 ∧ slR S.t_Val w a3.Values b3_0)) :
    SpecK Try.prog 40 [.pointer (pq ga1_0).a, .string a2, .agg (S.t_Bag.enc a3 (hf [b3_0])).toArray] D [.blk ga1_0 (S.t_vault_Vault.enc a1 (hf [(pq ga1_1), b1_1, (pq ga1_2)])), .blk ga1_1 (S.t_ledger_Ledger.enc a1.l (hf [b1_0])), rowE S.t_Deed 106 a1.l.l b1_0, mpE Value.string S.t_Bag ga1_2 a1.bags b1_2] Φ (fun x : Hd × Hd × (Nat → Hs) => .int .i64 r.1) (fun x => [.blk ga1_0 (S.t_vault_Vault.enc r.2 (hf [(pq ga1_1), x.2.1, (pq ga1_2)])), .blk ga1_1 (S.t_ledger_Ledger.enc r.2.l (hf [x.1])), rowE S.t_Deed 106 r.2.l.l x.1, mpE Value.string S.t_Bag ga1_2 r.2.bags x.2.2]) (fun x => []) (fun x w => Φ w ∧ (rdS S.t_Deed w r.2.l.l x.1.sub ∧ slR (tInt .i64) w r.2.ring.Plan.Targets x.2.1 ∧ mpR S.t_Bag w r.2.bags x.2.2)) := by
  refine enterK Try.func40 rfl Try.ntmps40 rfl ?_
  unfold S.vault_Vault_Merge at h
  refine CW.reg ?_
  refine RO.eff (Wt.no rfl) rfl (EV.boxB (B := S.t_Bag.enc a3 (hf [b3_0])) rfl rfl) ?_
  rintro _ _ _ ⟨g1, rfl, rfl, rfl⟩
  refine RO.val (Wt.no rfl) rfl (PV.assign rfl) ?_
  refine RO.nil ?_
  refine CW.seq ?_
  refine CW.block ?_
  replace h := bindS h
  obtain ⟨e31, h, hk30⟩ := h
  refine CW.meet (X := Bool) (fun x => [(0, .pointer (some ⟨ga1_0, 0, none⟩)), (1, .string a2), (5, .pointer (some ⟨g1, 0, none⟩)), (6, .int .i64 0), (10, .bool x)]) (fun x => [frame D, .blk ga1_0 (S.t_vault_Vault.enc a1 (hf [(pq ga1_1), b1_1, (pq ga1_2)])), .blk ga1_1 (S.t_ledger_Ledger.enc a1.l (hf [b1_0])), rowE S.t_Deed 106 a1.l.l b1_0, mpE Value.string S.t_Bag ga1_2 a1.bags b1_2, .blk g1 (S.t_Bag.enc a3 (hf [b3_0]))]) (fun x w => (Φ w ∧ True)) (fun x => S.vault_Vault_Merge_j2 a1 a2 a3 x = some r) ?_ ?_
  · skip
    replace h := bindS h
    obtain ⟨v32, hx33, h⟩ := h
    by_cases hb34 : (!v32) = true
    · replace h := iteT hb34 h
      refine CW.region ?_
      refine RO.val (Wt.no rfl) rfl (PV.move rfl) ?_
      refine RO.val (Wt.no rfl) rfl ((PV.eqlPtr Try.underlying46 rfl rfl).to rfl) ?_
      refine RO.val (Wt.no rfl) rfl (PV.move rfl) ?_
      refine RO.val (Wt.yes rfl rfl rfl rfl) rfl (PV.move rfl) ?_
      refine RO.eff (Wt.yes rfl rfl rfl rfl) rfl (EV.call (K := _) Try.call8 rfl (SpecK.callV (W_spot_May a2 hx33))) ?_
      rintro _ _ _ ⟨_, rfl, rfl, rfl⟩
      refine RO.val (Wt.yes rfl rfl rfl rfl) rfl (PV.not rfl) ?_
      refine RO.val (Wt.no rfl) rfl (PV.pickF rfl rfl) ?_
      refine RO.val (Wt.no rfl) rfl ((PV.move rfl).to (congrArg Value.bool hb34)) ?_
      refine RO.skip (Un.mk rfl rfl rfl rfl) rfl ?_
      refine RO.skip (Un.mk rfl rfl rfl rfl) rfl ?_
      refine RO.skip (Un.mk rfl rfl rfl rfl) rfl ?_
      refine RO.val (Wt.no rfl) rfl (PV.pickT rfl rfl) ?_
      refine RO.val (Wt.no rfl) rfl (PV.assign rfl) ?_
      refine RO.nil ?_
      obtain rfl := Option.some.inj h
      refine QC.meetP true hk30 [0, 1, 2, 3, 4, 5] (by decide) (by exact ⟨rfl, rfl, rfl, rfl, rfl, trivial⟩) rfl (fun w hΦ => hΦ)
    · replace hb34 := Bool.eq_false_iff.2 hb34
      replace h := iteF hb34 h
      replace h := bindS h
      obtain ⟨v35, hx36, h⟩ := h
      refine CW.region ?_
      refine RO.val (Wt.no rfl) rfl (PV.move rfl) ?_
      refine RO.val (Wt.no rfl) rfl ((PV.eqlPtr Try.underlying46 rfl rfl).to rfl) ?_
      refine RO.val (Wt.no rfl) rfl (PV.move rfl) ?_
      refine RO.val (Wt.yes rfl rfl rfl rfl) rfl (PV.move rfl) ?_
      refine RO.eff (Wt.yes rfl rfl rfl rfl) rfl (EV.call (K := _) Try.call8 rfl (SpecK.callV (W_spot_May a2 hx33))) ?_
      rintro _ _ _ ⟨_, rfl, rfl, rfl⟩
      refine RO.val (Wt.yes rfl rfl rfl rfl) rfl (PV.not rfl) ?_
      refine RO.val (Wt.no rfl) rfl (PV.pickF rfl rfl) ?_
      refine RO.val (Wt.no rfl) rfl ((PV.move rfl).to (congrArg Value.bool hb34)) ?_
      refine RO.val (Wt.yes rfl rfl rfl rfl) rfl (PV.loadM (l := S.t_Bag.enc a3 (hf [b3_0])) 5 Try.TF40 rfl rfl (cut_self (S.t_Bag.len _ _)) rfl (by decide)) ?_
      refine RO.eff (Wt.yes rfl rfl rfl rfl) rfl (EV.call (K := _) Try.call73 rfl (SpecK.callV (W_bag_May a3 b3_0 hx36 (fun w hm hΦ => (hR w (hΦ.1)).2.2.2)))) ?_
      rintro _ _ _ ⟨_, rfl, rfl, rfl⟩
      refine RO.val (Wt.yes rfl rfl rfl rfl) rfl (PV.not rfl) ?_
      refine RO.val (Wt.no rfl) rfl (PV.pickF rfl rfl) ?_
      refine RO.val (Wt.no rfl) rfl (PV.assign rfl) ?_
      refine RO.nil ?_
      obtain rfl := Option.some.inj h
      refine QC.meetP (!v35) hk30 [0, 1, 2, 3, 4, 5] (by decide) (by exact ⟨rfl, rfl, rfl, rfl, rfl, trivial⟩) rfl (fun w hΦ => hΦ)
  · rintro v3 h
    try dsimp only at h ⊢
    unfold S.vault_Vault_Merge_j2 at h
    refine CW.cond rfl (fun hb4 => ?_) (fun hb4 => ?_)
    · replace h := iteT hb4 h
      subst hb4
      refine CW.reg ?_
      refine RO.val (Wt.no rfl) rfl (PV.assign rfl) ?_
      refine RO.nil ?_
      refine CW.ret ?_
      refine QC.blk_r ?_
      refine QC.then_r ?_
      obtain rfl := Option.some.inj h
      exact retP1 (Ψ := fun w => Φ w ∧ (rdS S.t_Deed w a1.l.l b1_0.sub ∧ slR (tInt .i64) w a1.ring.Plan.Targets b1_1 ∧ mpR S.t_Bag w a1.bags b1_2)) [0, 1, 2, 3, 4] (by decide) rfl (RV.tmp rfl) rfl (fun w hΦ => ⟨hΦ.1, (hR w (hΦ.1)).1, (hR w (hΦ.1)).2.1, (hR w (hΦ.1)).2.2.1⟩) ⟨(b1_0, b1_1, b1_2), rfl, rfl, rfl⟩
    · replace h := iteF hb4 h
      subst hb4
      replace h := bindS h
      obtain ⟨v5, hx6, h⟩ := h
      refine CW.reg ?_
      refine RO.val (Wt.no rfl) rfl (PV.move rfl) ?_
      refine RO.val (Wt.no rfl) rfl (PV.move rfl) ?_
      refine RO.eff (Wt.no rfl) rfl (EV.call (K := _) Try.call79 rfl (SpecK.call [1, 2, 3, 4] (fun x : Unit => [frame D, .blk ga1_0 (S.t_vault_Vault.enc a1 (hf [(pq ga1_1), b1_1, (pq ga1_2)])), .blk ga1_1 (S.t_ledger_Ledger.enc a1.l (hf [b1_0])), rowE S.t_Deed 106 a1.l.l b1_0, mpE Value.string S.t_Bag ga1_2 a1.bags b1_2, .blk g1 (S.t_Bag.enc a3 (hf [b3_0]))]) (Outs.cons rfl (Outs.cons rfl (Outs.cons rfl (Outs.cons rfl Outs.nil)))) (fun _ => (Outs.cons rfl (Outs.cons rfl (Outs.cons rfl (Outs.cons rfl Outs.nil))))) (W_vault_Vault_full a1 a2 ga1_0 ga1_1 ga1_2 b1_0 b1_1 b1_2 hx6 (fun w hm hΦ => ⟨(hR w (hΦ.1)).1, (hR w (hΦ.1)).2.1, (hR w (hΦ.1)).2.2.1⟩)))) ?_
      rintro _ _ _ ⟨_, rfl, rfl, rfl⟩
      refine RO.val (Wt.no rfl) rfl (PV.assign rfl) ?_
      refine RO.nil ?_
      refine CW.cond rfl (fun hb7 => ?_) (fun hb7 => ?_)
      · replace h := iteT hb7 h
        subst hb7
        refine CW.reg ?_
        refine RO.val (Wt.no rfl) rfl (PV.assign rfl) ?_
        refine RO.nil ?_
        refine CW.ret ?_
        refine QC.blk_r ?_
        refine QC.then_r ?_
        obtain rfl := Option.some.inj h
        exact retP1 (Ψ := fun w => Φ w ∧ (rdS S.t_Deed w a1.l.l b1_0.sub ∧ slR (tInt .i64) w a1.ring.Plan.Targets b1_1 ∧ mpR S.t_Bag w a1.bags b1_2)) [0, 1, 2, 3, 4] (by decide) rfl (RV.tmp rfl) rfl (fun w hΦ => ⟨hΦ.1, (hR w (hΦ.1)).1, (hR w (hΦ.1)).2.1, (hR w (hΦ.1)).2.2.1⟩) ⟨(b1_0, b1_1, b1_2), rfl, rfl, rfl⟩
      · replace h := iteF hb7 h
        subst hb7
        refine CW.skip ?_
        refine QC.blk_n ?_
        refine QC.then_n ?_
        refine CW.reg ?_
        refine RO.val (Wt.no rfl) rfl (PV.move rfl) ?_
        refine RO.val (Wt.no rfl) rfl (PV.nilCheck rfl) ?_
        refine RO.val (Wt.no rfl) rfl (PV.fieldAddr Try.fa101_5 rfl) ?_
        refine RO.val (Wt.no rfl) rfl (PV.loadM (l := [.map (mb (pq ga1_2))]) 1 Try.TF99 rfl rfl (cut_vault_Vault_bags _ _) rfl (by decide)) ?_
        refine RO.val (Wt.no rfl) rfl (PV.move rfl) ?_
        refine RO.val (Wt.no rfl) rfl (PV.lookupQ (kv := Value.string) (tv := S.t_Bag) (l := a1.bags) (hh := b1_2) (k := a2) 4 (strKey Try.underlying9) str_dom str_inj Try.underlying99 Try.zeroValue40 rfl rfl rfl) ?_
        refine RO.eff (Wt.no rfl) rfl (EV.allocB (B := S.t_Bag.enc S.Bag.z (hf [Hd.z])) Try.zeroValue40 rfl) ?_
        rintro _ _ _ ⟨g8, rfl, rfl, rfl⟩
        refine RO.eff (Wt.no rfl) rfl (EV.storeW (B := S.t_Bag.enc ((mget a1.bags a2).getD S.Bag.z) (hf [(mgetH a1.bags b1_2 a2 0)])) 6 Try.TF40 rfl rfl rfl (by exact S.t_Bag.len ((mget a1.bags a2).getD S.Bag.z) (hf [(mgetH a1.bags b1_2 a2 0)])) (by exact S.t_Bag.one ((mget a1.bags a2).getD S.Bag.z) (hf [(mgetH a1.bags b1_2 a2 0)])) (S.t_Bag.len S.Bag.z (hf [Hd.z])) rfl) ?_
        rintro _ _ _ ⟨rfl, rfl, rfl⟩
        refine RO.nil ?_
        replace h := bindS h
        obtain ⟨⟨v9, v10⟩, hx11, h⟩ := h
        dsimp only at h
        refine CW.reg ?_
        refine RO.val (Wt.no rfl) rfl (PV.loadM (l := S.t_Bag.enc ((mget a1.bags a2).getD S.Bag.z) (hf [(mgetH a1.bags b1_2 a2 0)])) 6 Try.TF40 rfl rfl (cut_self (S.t_Bag.len _ _)) rfl (by decide)) ?_
        refine RO.val (Wt.no rfl) rfl (PV.loadM (l := S.t_Bag.enc a3 (hf [b3_0])) 5 Try.TF40 rfl rfl (cut_self (S.t_Bag.len _ _)) rfl (by decide)) ?_
        refine RO.eff (Wt.no rfl) rfl (EV.call (K := _) Try.call81 rfl (SpecK.callV (W_bag_Join ((mget a1.bags a2).getD S.Bag.z) a3 (mgetH a1.bags b1_2 a2 0) b3_0 hx11 (fun w hm hΦ => ⟨((mpR.get (tv := S.t_Bag) (hR w (hΦ.1)).2.2.1 a2)), (hR w (hΦ.1)).2.2.2⟩)))) ?_
        rintro _ _ _ ⟨q12, rfl, rfl, rfl⟩
        refine RO.val (Wt.no rfl) rfl (PV.move rfl) ?_
        refine RO.val (Wt.no rfl) rfl (PV.extract rfl rfl) ?_
        refine RO.val (Wt.no rfl) rfl (PV.extract rfl rfl) ?_
        refine RO.eff (Wt.no rfl) rfl (EV.allocB (B := S.t_Bag.enc S.Bag.z (hf [Hd.z])) Try.zeroValue40 rfl) ?_
        rintro _ _ _ ⟨g14, rfl, rfl, rfl⟩
        refine RO.eff (Wt.no rfl) rfl (EV.storeW (B := S.t_Bag.enc v9 (hf [q12])) 7 Try.TF40 rfl rfl rfl (by exact S.t_Bag.len v9 (hf [q12])) (by exact S.t_Bag.one v9 (hf [q12])) (S.t_Bag.len S.Bag.z (hf [Hd.z])) rfl) ?_
        rintro _ _ _ ⟨rfl, rfl, rfl⟩
        refine RO.val (Wt.no rfl) rfl (PV.assign rfl) ?_
        refine RO.nil ?_
        refine CW.seq ?_
        replace h := bindS h
        obtain ⟨e26, h, hk25⟩ := h
        refine CW.meet (X := Bool) (fun x => [(0, .pointer (some ⟨ga1_0, 0, none⟩)), (1, .string a2), (6, .int .i64 0), (8, .pointer (some ⟨g14, 0, none⟩)), (9, .int .i64 v10), (45, .bool x)]) (fun x => [frame D, .blk ga1_0 (S.t_vault_Vault.enc a1 (hf [(pq ga1_1), b1_1, (pq ga1_2)])), .blk ga1_1 (S.t_ledger_Ledger.enc a1.l (hf [b1_0])), rowE S.t_Deed 106 a1.l.l b1_0, mpE Value.string S.t_Bag ga1_2 a1.bags b1_2, .blk g1 (S.t_Bag.enc a3 (hf [b3_0])), .blk g8 (S.t_Bag.enc ((mget a1.bags a2).getD S.Bag.z) (hf [(mgetH a1.bags b1_2 a2 0)])), .blk g14 (S.t_Bag.enc v9 (hf [q12]))]) (fun x w => ((Φ w ∧ True) ∧ (slR S.t_Val w v9.Values q12))) (fun x => S.vault_Vault_Merge_j3 v10 a1 a2 v9 x = some r) ?_ ?_
        · skip
          by_cases hb27 : (decide (v10 ≠ 0)) = true
          · replace h := iteT hb27 h
            refine CW.region ?_
            refine RO.val (Wt.no rfl) rfl (PV.move rfl) ?_
            refine RO.val (Wt.no rfl) rfl (PV.neq rfl rfl) ?_
            refine RO.val (Wt.no rfl) rfl ((PV.move rfl).to (congrArg Value.bool hb27)) ?_
            refine RO.skip (Un.mk rfl rfl rfl rfl) rfl ?_
            refine RO.skip (Un.mk rfl rfl rfl rfl) rfl ?_
            refine RO.skip (Un.mk rfl rfl rfl rfl) rfl ?_
            refine RO.val (Wt.no rfl) rfl (PV.pickT rfl rfl) ?_
            refine RO.nil ?_
            obtain rfl := Option.some.inj h
            refine QC.meetP true hk25 [0, 1, 2, 3, 4, 5, 6, 7] (by decide) (by exact ⟨rfl, rfl, rfl, rfl, rfl, rfl, trivial⟩) rfl (fun w hΦ => hΦ)
          · replace hb27 := Bool.eq_false_iff.2 hb27
            replace h := iteF hb27 h
            replace h := bindS h
            obtain ⟨v28, hx29, h⟩ := h
            refine CW.region ?_
            refine RO.val (Wt.no rfl) rfl (PV.move rfl) ?_
            refine RO.val (Wt.no rfl) rfl (PV.neq rfl rfl) ?_
            refine RO.val (Wt.no rfl) rfl ((PV.move rfl).to (congrArg Value.bool hb27)) ?_
            refine RO.val (Wt.yes rfl rfl rfl rfl) rfl (PV.loadM (l := S.t_Bag.enc a3 (hf [b3_0])) 5 Try.TF40 rfl rfl (cut_self (S.t_Bag.len _ _)) rfl (by decide)) ?_
            refine RO.val (Wt.yes rfl rfl rfl rfl) rfl (PV.loadM (l := S.t_Bag.enc ((mget a1.bags a2).getD S.Bag.z) (hf [(mgetH a1.bags b1_2 a2 0)])) 6 Try.TF40 rfl rfl (cut_self (S.t_Bag.len _ _)) rfl (by decide)) ?_
            refine RO.eff (Wt.yes rfl rfl rfl rfl) rfl (EV.call (K := _) Try.call82 rfl (SpecK.callV (W_bag_Below a3 ((mget a1.bags a2).getD S.Bag.z) b3_0 (mgetH a1.bags b1_2 a2 0) hx29 (fun w hm hΦ => ⟨(hR w (hΦ.1.1)).2.2.2, ((mpR.get (tv := S.t_Bag) (hR w (hΦ.1.1)).2.2.1 a2))⟩)))) ?_
            rintro _ _ _ ⟨_, rfl, rfl, rfl⟩
            refine RO.val (Wt.no rfl) rfl (PV.pickF rfl rfl) ?_
            refine RO.nil ?_
            obtain rfl := Option.some.inj h
            refine QC.meetP v28 hk25 [0, 1, 2, 3, 4, 5, 6, 7] (by decide) (by exact ⟨rfl, rfl, rfl, rfl, rfl, rfl, trivial⟩) rfl (fun w hΦ => hΦ)
        · rintro v16 h
          try dsimp only at h ⊢
          unfold S.vault_Vault_Merge_j3 at h
          refine CW.cond rfl (fun hb17 => ?_) (fun hb17 => ?_)
          · replace h := iteT hb17 h
            subst hb17
            refine CW.reg ?_
            refine RO.val (Wt.no rfl) rfl (PV.move rfl) ?_
            refine RO.val (Wt.no rfl) rfl (PV.assign rfl) ?_
            refine RO.nil ?_
            refine CW.ret ?_
            refine QC.then_r ?_
            obtain rfl := Option.some.inj h
            exact retP1 (Ψ := fun w => Φ w ∧ (rdS S.t_Deed w a1.l.l b1_0.sub ∧ slR (tInt .i64) w a1.ring.Plan.Targets b1_1 ∧ mpR S.t_Bag w a1.bags b1_2)) [0, 1, 2, 3, 4] (by decide) rfl (RV.tmp rfl) rfl (fun w hΦ => ⟨hΦ.1.1, (hR w (hΦ.1.1)).1, (hR w (hΦ.1.1)).2.1, (hR w (hΦ.1.1)).2.2.1⟩) ⟨(b1_0, b1_1, b1_2), rfl, rfl, rfl⟩
          · replace h := iteF hb17 h
            subst hb17
            refine CW.skip ?_
            refine QC.then_n ?_
            replace h := bindS h
            obtain ⟨⟨v18, v19⟩, hx20, h⟩ := h
            dsimp only at h
            refine CW.regD (pickM [0, 5, 6, 7] _) _ (by kernel_rfl) (St.of (by decide) rfl (fun _ h => h)) ?_
            refine RD.take 0 rfl (by kernel_rfl) (by kernel_rfl) (by kernel_rfl) (Wt.no rfl) rfl (PV.move rfl) ?_
            refine RD.take 1 rfl (by kernel_rfl) (by kernel_rfl) (by kernel_rfl) (Wt.no rfl) rfl (PV.move rfl) ?_
            refine RD.take 2 rfl (by kernel_rfl) (by kernel_rfl) (by kernel_rfl) (Wt.no rfl) rfl (PV.loadM (l := S.t_Bag.enc v9 (hf [q12])) 3 Try.TF40 rfl rfl (cut_self (S.t_Bag.len _ _)) rfl (by decide)) ?_
            refine RD.take 3 rfl (by kernel_rfl) (by kernel_rfl) (by kernel_rfl) (Wt.no rfl) rfl (PV.move rfl) ?_
            refine RD.take 4 rfl (by kernel_rfl) (by kernel_rfl) (by kernel_rfl) (Wt.no rfl) rfl (PV.nilCheck rfl) ?_
            refine RD.take 5 rfl (by kernel_rfl) (by kernel_rfl) (by kernel_rfl) (Wt.no rfl) rfl (PV.fieldAddr Try.fa101_4 rfl) ?_
            refine RD.one 6 (by kernel_rfl) ?_
            refine Up.val rfl (Wt.no rfl) rfl (PV.loadM (l := [.int .i64 a1.dots]) 1 Try.TF3 rfl rfl (cut_vault_Vault_dots _ _) rfl (by decide)) ?_
            refine RD.take 7 rfl (by kernel_rfl) (by kernel_rfl) (by kernel_rfl) (Wt.no rfl) rfl (PV.buildS (B := S.t_Deed.enc ({ S.Deed.z with Kind := 3, N := a1.dots, Key := a2, Bag := v9 } : S.Deed) (hf [q12, Hd.z])) (xs := [.const (.int .i64 3), .tmp 48, .tmp 49, .tmp 53]) [(0, 0, 1), (2, 2, 1), (3, 3, 9), (1, 1, 1)] Try.BT106 rfl rfl rfl (by decide) ⟨rfl, rfl, rfl, rfl, rfl, rfl, rfl, rfl, trivial⟩ rfl) ?_
            refine RD.one 8 (by kernel_rfl) ?_
            refine Up.eff rfl (Wt.no rfl) rfl (EV.call (K := _) Try.call54 rfl (SpecK.call [1, 2, 3, 4] (fun x : Hd × Hd × (Nat → Hs) => [frame D, .blk ga1_0 (S.t_vault_Vault.enc v19 (hf [(pq ga1_1), x.2.1, (pq ga1_2)])), .blk ga1_1 (S.t_ledger_Ledger.enc v19.l (hf [x.1])), rowE S.t_Deed 106 v19.l.l x.1, mpE Value.string S.t_Bag ga1_2 v19.bags x.2.2, .blk g1 (S.t_Bag.enc a3 (hf [b3_0])), .blk g8 (S.t_Bag.enc ((mget a1.bags a2).getD S.Bag.z) (hf [(mgetH a1.bags b1_2 a2 0)])), .blk g14 (S.t_Bag.enc v9 (hf [q12]))]) (Outs.cons rfl (Outs.cons rfl (Outs.cons rfl (Outs.cons rfl Outs.nil)))) (fun _ => (Outs.cons rfl (Outs.cons rfl (Outs.cons rfl (Outs.cons rfl Outs.nil))))) (W_vault_Vault_write a1 ({ S.Deed.z with Kind := 3, N := a1.dots, Key := a2, Bag := v9 } : S.Deed) ga1_0 ga1_1 ga1_2 b1_0 b1_1 b1_2 q12 Hd.z hx20 (fun w hΦ => ⟨(hR w (hΦ.1.1)).1, (hR w (hΦ.1.1)).2.1, (hR w (hΦ.1.1)).2.2.1, (hΦ.2), (slR.nil _ _)⟩)))) ?_ ?_
            · rintro _ _ _ ⟨⟨q21, q22, q23⟩, rfl, rfl, rfl⟩; exact St.of' (by decide) (L' := [0, 5, 6, 7]) rfl (fun _ h => h.1)
            rintro _ _ _ ⟨⟨q21, q22, q23⟩, rfl, rfl, rfl⟩
            refine RD.take 9 rfl (by kernel_rfl) (by kernel_rfl) (by kernel_rfl) (Wt.no rfl) rfl (PV.assign rfl) ?_
            refine RD.done (by kernel_rfl) ?_
            refine CW.ret ?_
            obtain rfl := Option.some.inj h
            exact retP1 (Ψ := fun w => Φ w ∧ (rdS S.t_Deed w v19.l.l q21.sub ∧ slR (tInt .i64) w v19.ring.Plan.Targets q22 ∧ mpR S.t_Bag w v19.bags q23)) [0, 1, 2, 3, 4] (by decide) rfl (RV.tmp rfl) rfl (fun w hΦ => ⟨hΦ.1.1.1, (hΦ.2.1), (hΦ.2.2.1), (hΦ.2.2.2)⟩) ⟨(q21, q22, q23), rfl, rfl, rfl⟩

theorem W_ledger_Ledger_Len {D : Mem} {Φ : World → Prop} (a1 : S.ledger_Ledger) (ga1_0 : Nat) (b1_0 : Hd) {r : Int} (h : S.ledger_Ledger_Len a1 = some r) (hR : ∀ w, MemOk D w → Φ w → (rdS S.t_Deed w a1.l b1_0.sub)) :
    SpecK Try.prog 78 [.pointer (pq ga1_0).a] D [.blk ga1_0 (S.t_ledger_Ledger.enc a1 (hf [b1_0])), rowE S.t_Deed 106 a1.l b1_0] Φ (fun x : Unit => .int .i64 r) (fun x => [.blk ga1_0 (S.t_ledger_Ledger.enc a1 (hf [b1_0])), rowE S.t_Deed 106 a1.l b1_0]) (fun x => []) (fun _ => Φ) := by
  refine enterK Try.func78 rfl Try.ntmps78 rfl ?_
  unfold S.ledger_Ledger_Len at h
  refine CW.reg ?_
  refine RO.val (Wt.no rfl) rfl (PV.assign rfl) ?_
  refine RO.nil ?_
  refine CW.seq ?_
  refine CW.reg ?_
  refine RO.val (Wt.no rfl) rfl (PV.move rfl) ?_
  refine RO.val (Wt.no rfl) rfl ((PV.eqlPtr Try.underlying48 rfl rfl).to rfl) ?_
  refine RO.nil ?_
  refine CW.condF rfl ?_
  refine CW.skip ?_
  refine QC.then_n ?_
  refine CW.reg ?_
  refine RO.val (Wt.no rfl) rfl (PV.move rfl) ?_
  refine RO.val (Wt.no rfl) rfl (PV.nilCheck rfl) ?_
  refine RO.val (Wt.no rfl) rfl (PV.fieldAddr Try.fa108_0 rfl) ?_
  refine RO.val (Wt.no rfl) rfl (PV.loadM (l := [.slice b1_0.a a1.l.length b1_0.cap]) 1 Try.TF103 rfl rfl (cut_ledger_Ledger_l _ _) rfl (by decide)) ?_
  refine RO.val (Wt.no rfl) rfl (PV.lenS Try.underlying103 rfl) ?_
  refine RO.val (Wt.no rfl) rfl (PV.assign rfl) ?_
  refine RO.nil ?_
  refine CW.ret ?_
  obtain rfl := Option.some.inj h
  exact retP1 (Ψ := Φ) [0, 1, 2] (by decide) rfl (RV.tmp rfl) rfl (fun w hΦ => hΦ.1) ⟨(), rfl, rfl, rfl⟩

theorem W_ledger_Ledger_Sure {D : Mem} {Φ : World → Prop} (a1 : S.ledger_Ledger) (ga1_0 : Nat) (b1_0 : Hd) {r : Int} (h : S.ledger_Ledger_Sure a1 = some r) (hR : ∀ w, MemOk D w → Φ w → (rdS S.t_Deed w a1.l b1_0.sub)) :
    SpecK Try.prog 41 [.pointer (pq ga1_0).a] D [.blk ga1_0 (S.t_ledger_Ledger.enc a1 (hf [b1_0])), rowE S.t_Deed 106 a1.l b1_0] Φ (fun x : Unit => .int .i64 r) (fun x => [.blk ga1_0 (S.t_ledger_Ledger.enc a1 (hf [b1_0])), rowE S.t_Deed 106 a1.l b1_0]) (fun x => []) (fun _ => Φ) := by
  refine enterK Try.func41 rfl Try.ntmps41 rfl ?_
  unfold S.ledger_Ledger_Sure at h
  refine CW.reg ?_
  refine RO.val (Wt.no rfl) rfl (PV.assign rfl) ?_
  refine RO.nil ?_
  refine CW.seq ?_
  refine CW.reg ?_
  refine RO.val (Wt.no rfl) rfl (PV.move rfl) ?_
  refine RO.val (Wt.no rfl) rfl ((PV.eqlPtr Try.underlying48 rfl rfl).to rfl) ?_
  refine RO.nil ?_
  refine CW.condF rfl ?_
  refine CW.skip ?_
  refine QC.then_n ?_
  refine CW.reg ?_
  refine RO.val (Wt.no rfl) rfl (PV.move rfl) ?_
  refine RO.val (Wt.no rfl) rfl (PV.nilCheck rfl) ?_
  refine RO.val (Wt.no rfl) rfl (PV.fieldAddr Try.fa108_1 rfl) ?_
  refine RO.val (Wt.no rfl) rfl (PV.loadM (l := [.int .i64 a1.sure]) 1 Try.TF3 rfl rfl (cut_ledger_Ledger_sure _ _) rfl (by decide)) ?_
  refine RO.val (Wt.no rfl) rfl (PV.assign rfl) ?_
  refine RO.nil ?_
  refine CW.ret ?_
  obtain rfl := Option.some.inj h
  exact retP1 (Ψ := Φ) [0, 1, 2] (by decide) rfl (RV.tmp rfl) rfl (fun w hΦ => hΦ.1) ⟨(), rfl, rfl, rfl⟩

theorem W_ledger_Ledger_Sync {D : Mem} {Φ : World → Prop} (a1 : S.ledger_Ledger) (ga1_0 : Nat) (b1_0 : Hd) {r : Int × S.ledger_Ledger} (h : S.ledger_Ledger_Sync a1 = some r) (hR : ∀ w, Φ w → (rdS S.t_Deed w a1.l b1_0.sub)) :
    SpecK Try.prog 91 [.pointer (pq ga1_0).a] D [.blk ga1_0 (S.t_ledger_Ledger.enc a1 (hf [b1_0])), rowE S.t_Deed 106 a1.l b1_0] Φ (fun x : Hd => .int .i64 r.1) (fun x => [.blk ga1_0 (S.t_ledger_Ledger.enc r.2 (hf [x])), rowE S.t_Deed 106 r.2.l x]) (fun x => []) (fun x w => Φ w ∧ (rdS S.t_Deed w r.2.l x.sub)) := by
  refine enterK Try.func91 rfl Try.ntmps91 rfl ?_
  unfold S.ledger_Ledger_Sync at h
  refine CW.reg ?_
  refine RO.val (Wt.no rfl) rfl (PV.assign rfl) ?_
  refine RO.nil ?_
  replace h := bindS h
  obtain ⟨v1, hx2, h⟩ := h
  replace h := bindS h
  obtain ⟨v3, hx4, h⟩ := h
  refine CW.reg ?_
  refine RO.val (Wt.no rfl) rfl (PV.move rfl) ?_
  refine RO.eff (Wt.no rfl) rfl (EV.call (K := _) Try.call78 rfl (SpecK.call [1, 2] (fun x : Unit => [frame D, .blk ga1_0 (S.t_ledger_Ledger.enc a1 (hf [b1_0])), rowE S.t_Deed 106 a1.l b1_0]) (Outs.cons rfl (Outs.cons rfl Outs.nil)) (fun _ => (Outs.cons rfl (Outs.cons rfl Outs.nil))) (W_ledger_Ledger_Len a1 ga1_0 b1_0 hx2 (fun w hm hΦ => (hR w (hΦ.1)))))) ?_
  rintro _ _ _ ⟨_, rfl, rfl, rfl⟩
  refine RO.val (Wt.no rfl) rfl (PV.move rfl) ?_
  refine RO.eff (Wt.no rfl) rfl (EV.call (K := _) Try.call41 rfl (SpecK.call [1, 2] (fun x : Unit => [frame D, .blk ga1_0 (S.t_ledger_Ledger.enc a1 (hf [b1_0])), rowE S.t_Deed 106 a1.l b1_0]) (Outs.cons rfl (Outs.cons rfl Outs.nil)) (fun _ => (Outs.cons rfl (Outs.cons rfl Outs.nil))) (W_ledger_Ledger_Sure a1 ga1_0 b1_0 hx4 (fun w hm hΦ => (hR w (hΦ.1)))))) ?_
  rintro _ _ _ ⟨_, rfl, rfl, rfl⟩
  refine RO.val (Wt.no rfl) rfl (PV.subW rfl rfl) ?_
  refine RO.val (Wt.no rfl) rfl (PV.assign rfl) ?_
  refine RO.nil ?_
  refine CW.seq ?_
  refine CW.reg ?_
  refine RO.val (Wt.no rfl) rfl (PV.move rfl) ?_
  refine RO.val (Wt.no rfl) rfl ((PV.neqPtr Try.underlying48 rfl rfl).to rfl) ?_
  refine RO.nil ?_
  refine CW.condT rfl ?_
  refine CW.region ?_
  refine RO.val (Wt.no rfl) rfl (PV.move rfl) ?_
  refine RO.val (Wt.no rfl) rfl (PV.move rfl) ?_
  refine RO.val (Wt.no rfl) rfl (PV.nilCheck rfl) ?_
  refine RO.val (Wt.no rfl) rfl (PV.fieldAddr Try.fa108_0 rfl) ?_
  refine RO.val (Wt.no rfl) rfl (PV.loadM (l := [.slice b1_0.a a1.l.length b1_0.cap]) 1 Try.TF103 rfl rfl (cut_ledger_Ledger_l _ _) rfl (by decide)) ?_
  refine RO.val (Wt.no rfl) rfl (PV.lenS Try.underlying103 rfl) ?_
  refine RO.val (Wt.no rfl) rfl (PV.nilCheck rfl) ?_
  refine RO.val (Wt.no rfl) rfl (PV.fieldAddr Try.fa108_1 rfl) ?_
  refine RO.eff (Wt.no rfl) rfl (EV.storeB (B := S.t_ledger_Ledger.enc ({ a1 with sure := (a1.l.length : Int) } : S.ledger_Ledger) (hf [b1_0])) 1 Try.TF3 rfl rfl rfl rfl rfl (by rw [S.t_ledger_Ledger.len]; decide) (wr_ledger_Ledger_sure a1 b1_0 (a1.l.length : Int))) ?_
  rintro _ _ _ ⟨rfl, rfl, rfl⟩
  refine RO.nil ?_
  refine QC.then_n ?_
  refine CW.reg ?_
  refine RO.val (Wt.no rfl) rfl (PV.move rfl) ?_
  refine RO.val (Wt.no rfl) rfl (PV.assign rfl) ?_
  refine RO.nil ?_
  refine CW.ret ?_
  obtain rfl := Option.some.inj h
  exact retP1 (Ψ := fun w => Φ w ∧ (rdS S.t_Deed w (({ a1 with sure := (a1.l.length : Int) } : S.ledger_Ledger).l) b1_0.sub)) [0, 1, 2] (by decide) rfl (RV.tmp rfl) rfl (fun w hΦ => ⟨hΦ.1, (hR w (hΦ.1))⟩) ⟨b1_0, rfl, rfl, rfl⟩

theorem W_vault_Vault_Sync {D : Mem} {Φ : World → Prop} (a1 : S.vault_Vault) (ga1_0 ga1_1 ga1_2 : Nat) (b1_0 : Hd) (b1_1 : Hd) (b1_2 : (Nat → Hs)) {r : Int × S.vault_Vault} (h : S.vault_Vault_Sync a1 = some r) (hR : ∀ w, Φ w → (rdS S.t_Deed w a1.l.l b1_0.sub ∧ slR (tInt .i64) w a1.ring.Plan.Targets b1_1 ∧ mpR S.t_Bag w a1.bags b1_2)) :
    SpecK Try.prog 57 [.pointer (pq ga1_0).a] D [.blk ga1_0 (S.t_vault_Vault.enc a1 (hf [(pq ga1_1), b1_1, (pq ga1_2)])), .blk ga1_1 (S.t_ledger_Ledger.enc a1.l (hf [b1_0])), rowE S.t_Deed 106 a1.l.l b1_0, mpE Value.string S.t_Bag ga1_2 a1.bags b1_2] Φ (fun x : Hd × Hd × (Nat → Hs) => .int .i64 r.1) (fun x => [.blk ga1_0 (S.t_vault_Vault.enc r.2 (hf [(pq ga1_1), x.2.1, (pq ga1_2)])), .blk ga1_1 (S.t_ledger_Ledger.enc r.2.l (hf [x.1])), rowE S.t_Deed 106 r.2.l.l x.1, mpE Value.string S.t_Bag ga1_2 r.2.bags x.2.2]) (fun x => []) (fun x w => Φ w ∧ (rdS S.t_Deed w r.2.l.l x.1.sub ∧ slR (tInt .i64) w r.2.ring.Plan.Targets x.2.1 ∧ mpR S.t_Bag w r.2.bags x.2.2)) := by
  refine enterK Try.func57 rfl Try.ntmps57 rfl ?_
  unfold S.vault_Vault_Sync at h
  refine CW.reg ?_
  refine RO.val (Wt.no rfl) rfl (PV.assign rfl) ?_
  refine RO.nil ?_
  refine CW.seq ?_
  refine CW.reg ?_
  refine RO.val (Wt.no rfl) rfl (PV.move rfl) ?_
  refine RO.val (Wt.no rfl) rfl ((PV.eqlPtr Try.underlying46 rfl rfl).to rfl) ?_
  refine RO.nil ?_
  refine CW.condF rfl ?_
  refine CW.skip ?_
  refine QC.then_n ?_
  replace h := bindS h
  obtain ⟨⟨v1, v2⟩, hx3, h⟩ := h
  dsimp only at h
  refine CW.reg ?_
  refine RO.val (Wt.no rfl) rfl (PV.move rfl) ?_
  refine RO.val (Wt.no rfl) rfl (PV.nilCheck rfl) ?_
  refine RO.val (Wt.no rfl) rfl (PV.fieldAddr Try.fa101_0 rfl) ?_
  refine RO.val (Wt.no rfl) rfl (PV.loadM (l := [.pointer (pq ga1_1).a]) 1 Try.TF48 rfl rfl (cut_vault_Vault_l _ _) rfl (by decide)) ?_
  refine RO.eff (Wt.no rfl) rfl (EV.call (K := _) Try.call91 rfl (SpecK.call [2, 3] (fun x : Hd => [frame D, .blk ga1_0 (S.t_vault_Vault.enc a1 (hf [(pq ga1_1), b1_1, (pq ga1_2)])), .blk ga1_1 (S.t_ledger_Ledger.enc v2 (hf [x])), rowE S.t_Deed 106 v2.l x, mpE Value.string S.t_Bag ga1_2 a1.bags b1_2]) (Outs.cons rfl (Outs.cons rfl Outs.nil)) (fun _ => (Outs.cons rfl (Outs.cons rfl Outs.nil))) (W_ledger_Ledger_Sync a1.l ga1_1 b1_0 hx3 (fun w hΦ => (hR w (hΦ.1)).1)))) ?_
  rintro _ _ _ ⟨q4, rfl, rfl, rfl⟩
  refine RO.val (Wt.no rfl) rfl (PV.assign rfl) ?_
  refine RO.nil ?_
  refine CW.ret ?_
  obtain rfl := Option.some.inj h
  exact retP1 (Ψ := fun w => Φ w ∧ (rdS S.t_Deed w ((({ a1 with l := v2 } : S.vault_Vault).l).l) q4.sub ∧ slR (tInt .i64) w (((({ a1 with l := v2 } : S.vault_Vault).ring).Plan).Targets) b1_1 ∧ mpR S.t_Bag w (({ a1 with l := v2 } : S.vault_Vault).bags) b1_2)) [0, 1, 2, 3, 4] (by decide) rfl (RV.tmp rfl) rfl (fun w hΦ => ⟨hΦ.1.1, (hΦ.2), (hR w (hΦ.1.1)).2.1, (hR w (hΦ.1.1)).2.2⟩) ⟨(q4, b1_1, b1_2), rfl, rfl, rfl⟩

theorem W_take_back {D : Mem} {Φ : World → Prop} (a1 : S.Msg) (a2 : Int) (b1_0 : Hd) (b1_1 : Hd) (b1_2 : Hd) {r : S.Msg} (h : S.take_back a1 a2 = some r) (hR : ∀ w, MemOk D w → Φ w → (slR S.t_Val w a1.Bag.Values b1_0 ∧ slR (tInt .i64) w a1.Ring.Plan.Targets b1_1 ∧ slR S.t_Claim w a1.Claims b1_2)) :
    SpecK Try.prog 58 [.agg (S.t_Msg.enc a1 (hf [b1_0, b1_1, b1_2])).toArray, .int .i64 a2] D [] Φ (fun x : Hd × Hd × Hd => .agg (S.t_Msg.enc r (hf [x.1, x.2.1, x.2.2])).toArray) (fun x => []) (fun x => []) (fun x w => Φ w ∧ (slR S.t_Val w r.Bag.Values x.1 ∧ slR (tInt .i64) w r.Ring.Plan.Targets x.2.1 ∧ slR S.t_Claim w r.Claims x.2.2)) := by
  refine enterK Try.func58 rfl Try.ntmps58 rfl ?_
  unfold S.take_back at h
  refine CW.reg ?_
  refine RO.eff (Wt.no rfl) rfl (EV.boxB (B := S.t_Msg.enc a1 (hf [b1_0, b1_1, b1_2])) rfl rfl) ?_
  rintro _ _ _ ⟨g1, rfl, rfl, rfl⟩
  refine RO.eff (Wt.no rfl) rfl (EV.allocB (B := S.t_Msg.enc S.Msg.z (hf [Hd.z, Hd.z, Hd.z])) Try.zeroValue53 rfl) ?_
  rintro _ _ _ ⟨g2, rfl, rfl, rfl⟩
  refine RO.nil ?_
  refine CW.reg ?_
  refine RO.val (Wt.no rfl) rfl (PV.move rfl) ?_
  refine RO.val (Wt.no rfl) rfl (PV.fieldAddr Try.fa53_2 rfl) ?_
  refine RO.val (Wt.no rfl) rfl (PV.loadM (l := [.int .i64 a1.To]) 1 Try.TF3 rfl rfl (cut_Msg_To _ _) rfl (by decide)) ?_
  refine RO.val (Wt.no rfl) rfl (PV.fieldAddr Try.fa53_1 rfl) ?_
  refine RO.val (Wt.no rfl) rfl (PV.loadM (l := [.int .i64 a1.From]) 1 Try.TF3 rfl rfl (cut_Msg_From _ _) rfl (by decide)) ?_
  refine RO.val (Wt.no rfl) rfl (PV.fieldAddr Try.fa53_6 rfl) ?_
  refine RO.val (Wt.no rfl) rfl (PV.loadM (l := [.int .i64 a1.Part]) 1 Try.TF3 rfl rfl (cut_Msg_Part _ _) rfl (by decide)) ?_
  refine RO.val (Wt.no rfl) rfl (PV.fieldAddr Try.fa53_7 rfl) ?_
  refine RO.val (Wt.no rfl) rfl (PV.loadM (l := [.int .i64 a1.Epoch]) 1 Try.TF3 rfl rfl (cut_Msg_Epoch _ _) rfl (by decide)) ?_
  refine RO.val (Wt.no rfl) rfl (PV.buildS (B := S.t_Msg.enc ({ S.Msg.z with Kind := a2, From := a1.To, To := a1.From, Part := a1.Part, Epoch := a1.Epoch } : S.Msg) (hf [Hd.z, Hd.z, Hd.z])) (xs := [.tmp 5, .tmp 7, .tmp 9, .tmp 11, .tmp 13]) [(0, 0, 1), (1, 1, 1), (2, 2, 1), (6, 6, 1), (7, 7, 1)] Try.BT53 rfl rfl rfl (by decide) ⟨rfl, rfl, rfl, rfl, rfl, rfl, rfl, rfl, rfl, rfl, trivial⟩ rfl) ?_
  refine RO.eff (Wt.no rfl) rfl (EV.storeW (B := S.t_Msg.enc ({ S.Msg.z with Kind := a2, From := a1.To, To := a1.From, Part := a1.Part, Epoch := a1.Epoch } : S.Msg) (hf [Hd.z, Hd.z, Hd.z])) 2 Try.TF53 rfl rfl rfl (by exact S.t_Msg.len ({ S.Msg.z with Kind := a2, From := a1.To, To := a1.From, Part := a1.Part, Epoch := a1.Epoch } : S.Msg) (hf [Hd.z, Hd.z, Hd.z])) (by exact S.t_Msg.one ({ S.Msg.z with Kind := a2, From := a1.To, To := a1.From, Part := a1.Part, Epoch := a1.Epoch } : S.Msg) (hf [Hd.z, Hd.z, Hd.z])) (S.t_Msg.len S.Msg.z (hf [Hd.z, Hd.z, Hd.z])) rfl) ?_
  rintro _ _ _ ⟨rfl, rfl, rfl⟩
  refine RO.nil ?_
  refine CW.ret ?_
  obtain rfl := Option.some.inj h
  exact retP1 (Ψ := fun w => Φ w ∧ (slR S.t_Val w [] Hd.z ∧ slR (tInt .i64) w [] Hd.z ∧ slR S.t_Claim w [] Hd.z)) [0] (by decide) rfl (RV.cell (A := S.t_Msg.enc ({ S.Msg.z with Kind := a2, From := a1.To, To := a1.From, Part := a1.Part, Epoch := a1.Epoch } : S.Msg) (hf [Hd.z, Hd.z, Hd.z])) 2 rfl Try.TF53 rfl (S.t_Msg.len _ _) (by decide)) rfl (fun w hΦ => ⟨hΦ.1, (slR.nil _ _), (slR.nil _ _), (slR.nil _ _)⟩) ⟨(Hd.z, Hd.z, Hd.z), rfl, rfl, rfl⟩

theorem W_take_Give {D : Mem} {Φ : World → Prop} (a1 : S.Msg) (a2 : S.vault_Vault) (ga2_0 ga2_1 ga2_2 : Nat) (b1_0 : Hd) (b1_1 : Hd) (b1_2 : Hd) (b2_0 : Hd) (b2_1 : Hd) (b2_2 : (Nat → Hs)) {r : S.Msg × Int × S.vault_Vault} (h : S.take_Give a1 a2 = some r) (hR : ∀ w, Φ w → (slR S.t_Val w a1.Bag.Values b1_0 ∧ slR (tInt .i64) w a1.Ring.Plan.Targets b1_1 ∧ slR S.t_Claim w a1.Claims b1_2 ∧ rdS S.t_Deed w a2.l.l b2_0.sub ∧ slR (tInt .i64) w a2.ring.Plan.Targets b2_1 ∧ mpR S.t_Bag w a2.bags b2_2)) :
    SpecK Try.prog 17 [.agg (S.t_Msg.enc a1 (hf [b1_0, b1_1, b1_2])).toArray, .pointer (pq ga2_0).a] D [.blk ga2_0 (S.t_vault_Vault.enc a2 (hf [(pq ga2_1), b2_1, (pq ga2_2)])), .blk ga2_1 (S.t_ledger_Ledger.enc a2.l (hf [b2_0])), rowE S.t_Deed 106 a2.l.l b2_0, mpE Value.string S.t_Bag ga2_2 a2.bags b2_2] Φ (fun x : Hd × Hd × Hd × Hd × Hd × (Nat → Hs) => .tuple #[.agg (S.t_Msg.enc r.1 (hf [x.1, x.2.1, x.2.2.1])).toArray, .int .i64 r.2.1]) (fun x => [.blk ga2_0 (S.t_vault_Vault.enc r.2.2 (hf [(pq ga2_1), x.2.2.2.2.1, (pq ga2_2)])), .blk ga2_1 (S.t_ledger_Ledger.enc r.2.2.l (hf [x.2.2.2.1])), rowE S.t_Deed 106 r.2.2.l.l x.2.2.2.1, mpE Value.string S.t_Bag ga2_2 r.2.2.bags x.2.2.2.2.2]) (fun x => []) (fun x w => Φ w ∧ (slR S.t_Val w r.1.Bag.Values x.1 ∧ slR (tInt .i64) w r.1.Ring.Plan.Targets x.2.1 ∧ slR S.t_Claim w r.1.Claims x.2.2.1 ∧ rdS S.t_Deed w r.2.2.l.l x.2.2.2.1.sub ∧ slR (tInt .i64) w r.2.2.ring.Plan.Targets x.2.2.2.2.1 ∧ mpR S.t_Bag w r.2.2.bags x.2.2.2.2.2)) := by
  refine enterK Try.func17 rfl Try.ntmps17 rfl ?_
  unfold S.take_Give at h
  refine CW.reg ?_
  refine RO.eff (Wt.no rfl) rfl (EV.boxB (B := S.t_Msg.enc a1 (hf [b1_0, b1_1, b1_2])) rfl rfl) ?_
  rintro _ _ _ ⟨g1, rfl, rfl, rfl⟩
  refine RO.eff (Wt.no rfl) rfl (EV.allocB (B := S.t_Msg.enc S.Msg.z (hf [Hd.z, Hd.z, Hd.z])) Try.zeroValue53 rfl) ?_
  rintro _ _ _ ⟨g2, rfl, rfl, rfl⟩
  refine RO.val (Wt.no rfl) rfl (PV.assign rfl) ?_
  refine RO.nil ?_
  refine CW.seq ?_
  replace h := bindS h
  obtain ⟨e36, h, hk35⟩ := h
  refine CW.meet (X := Bool) (fun x => [(1, .pointer (some ⟨ga2_0, 0, none⟩)), (2, .pointer (some ⟨g1, 0, none⟩)), (4, .pointer (some ⟨g2, 0, none⟩)), (5, .int .i64 0), (24, .bool x)]) (fun x => [frame D, .blk ga2_0 (S.t_vault_Vault.enc a2 (hf [(pq ga2_1), b2_1, (pq ga2_2)])), .blk ga2_1 (S.t_ledger_Ledger.enc a2.l (hf [b2_0])), rowE S.t_Deed 106 a2.l.l b2_0, mpE Value.string S.t_Bag ga2_2 a2.bags b2_2, .blk g1 (S.t_Msg.enc a1 (hf [b1_0, b1_1, b1_2])), .blk g2 (S.t_Msg.enc S.Msg.z (hf [Hd.z, Hd.z, Hd.z]))]) (fun x w => (Φ w ∧ True)) (fun x => S.take_Give_j1 a2 a1 x = some r) ?_ ?_
  · skip
    by_cases hb37 : (decide (a1.Kind ≠ 5)) = true
    · replace h := iteT hb37 h
      refine CW.regionD (pickM [0, 1, 2, 3, 4, 5, 6] _) _ (by kernel_rfl) (St.of (by decide) rfl (fun _ h => h)) ?_
      refine RD.take 0 rfl (by kernel_rfl) (by kernel_rfl) (by kernel_rfl) (Wt.no rfl) rfl (PV.fieldAddr Try.fa53_0 rfl) ?_
      refine RD.take 1 rfl (by kernel_rfl) (by kernel_rfl) (by kernel_rfl) (Wt.no rfl) rfl (PV.loadM (l := [.int .i64 a1.Kind]) 5 Try.TF3 rfl rfl (cut_Msg_Kind _ _) rfl (by decide)) ?_
      refine RD.take 2 rfl (by kernel_rfl) (by kernel_rfl) (by kernel_rfl) (Wt.no rfl) rfl (PV.neq rfl rfl) ?_
      refine RD.take 3 rfl (by kernel_rfl) (by kernel_rfl) (by kernel_rfl) (Wt.no rfl) rfl ((PV.move rfl).to (congrArg Value.bool hb37)) ?_
      refine RD.takeNo 4 rfl (by kernel_rfl) (by kernel_rfl) (by kernel_rfl) (Un.mk rfl rfl rfl rfl) rfl ?_
      refine RD.takeNo 5 rfl (by kernel_rfl) (by kernel_rfl) (by kernel_rfl) (Un.mk rfl rfl rfl rfl) rfl ?_
      refine RD.takeNo 6 rfl (by kernel_rfl) (by kernel_rfl) (by kernel_rfl) (Un.mk rfl rfl rfl rfl) rfl ?_
      refine RD.take 7 rfl (by kernel_rfl) (by kernel_rfl) (by kernel_rfl) (Wt.no rfl) rfl (PV.pickT rfl rfl) ?_
      refine RD.take 8 rfl (by kernel_rfl) (by kernel_rfl) (by kernel_rfl) (Wt.no rfl) rfl (PV.move rfl) ?_
      refine RD.takeNo 9 rfl (by kernel_rfl) (by kernel_rfl) (by kernel_rfl) (Un.mk rfl rfl rfl rfl) rfl ?_
      refine RD.takeNo 10 rfl (by kernel_rfl) (by kernel_rfl) (by kernel_rfl) (Un.mk rfl rfl rfl rfl) rfl ?_
      refine RD.takeNo 11 rfl (by kernel_rfl) (by kernel_rfl) (by kernel_rfl) (Un.mk rfl rfl rfl rfl) rfl ?_
      refine RD.takeNo 12 rfl (by kernel_rfl) (by kernel_rfl) (by kernel_rfl) (Un.mk rfl rfl rfl rfl) rfl ?_
      refine RD.takeNo 13 rfl (by kernel_rfl) (by kernel_rfl) (by kernel_rfl) (Un.mk rfl rfl rfl rfl) rfl ?_
      refine RD.takeNo 14 rfl (by kernel_rfl) (by kernel_rfl) (by kernel_rfl) (Un.mk rfl rfl rfl rfl) rfl ?_
      refine RD.take 15 rfl (by kernel_rfl) (by kernel_rfl) (by kernel_rfl) (Wt.no rfl) rfl (PV.pickT rfl rfl) ?_
      refine RD.done (by kernel_rfl) ?_
      obtain rfl := Option.some.inj h
      refine QC.meetP true hk35 [0, 1, 2, 3, 4, 5, 6] (by decide) (by exact ⟨rfl, rfl, rfl, rfl, rfl, trivial⟩) rfl (fun w hΦ => hΦ)
    · replace hb37 := Bool.eq_false_iff.2 hb37
      replace h := iteF hb37 h
      replace h := bindS h
      obtain ⟨v38, hx39, h⟩ := h
      by_cases hb40 : (!v38) = true
      · replace h := iteT hb40 h
        refine CW.regionD (pickM [0, 1, 2, 3, 4, 5, 6] _) _ (by kernel_rfl) (St.of (by decide) rfl (fun _ h => h)) ?_
        refine RD.take 0 rfl (by kernel_rfl) (by kernel_rfl) (by kernel_rfl) (Wt.no rfl) rfl (PV.fieldAddr Try.fa53_0 rfl) ?_
        refine RD.take 1 rfl (by kernel_rfl) (by kernel_rfl) (by kernel_rfl) (Wt.no rfl) rfl (PV.loadM (l := [.int .i64 a1.Kind]) 5 Try.TF3 rfl rfl (cut_Msg_Kind _ _) rfl (by decide)) ?_
        refine RD.take 2 rfl (by kernel_rfl) (by kernel_rfl) (by kernel_rfl) (Wt.no rfl) rfl (PV.neq rfl rfl) ?_
        refine RD.take 3 rfl (by kernel_rfl) (by kernel_rfl) (by kernel_rfl) (Wt.no rfl) rfl ((PV.move rfl).to (congrArg Value.bool hb37)) ?_
        refine RD.take 4 rfl (by kernel_rfl) (by kernel_rfl) (by kernel_rfl) (Wt.yes rfl rfl rfl rfl) rfl (PV.loadM (l := S.t_Msg.enc a1 (hf [b1_0, b1_1, b1_2])) 5 Try.TF53 rfl rfl (cut_self (S.t_Msg.len _ _)) rfl (by decide)) ?_
        refine RD.one 5 (by kernel_rfl) ?_
        refine Up.eff rfl (Wt.yes rfl rfl rfl rfl) rfl (EV.call (K := _) Try.call55 rfl (SpecK.callV (W_take_placed a1 b1_0 b1_1 b1_2 hx39 (fun w hm hΦ => ⟨(hR w (hΦ.1)).1, (hR w (hΦ.1)).2.1, (hR w (hΦ.1)).2.2.1⟩)))) ?_ ?_
        · rintro _ _ _ ⟨_, rfl, rfl, rfl⟩; exact St.of' (by decide) (L' := [0, 1, 2, 3, 4, 5, 6]) rfl (fun _ h => h)
        rintro _ _ _ ⟨_, rfl, rfl, rfl⟩
        refine RD.take 6 rfl (by kernel_rfl) (by kernel_rfl) (by kernel_rfl) (Wt.yes rfl rfl rfl rfl) rfl (PV.not rfl) ?_
        refine RD.take 7 rfl (by kernel_rfl) (by kernel_rfl) (by kernel_rfl) (Wt.no rfl) rfl (PV.pickF rfl rfl) ?_
        refine RD.take 8 rfl (by kernel_rfl) (by kernel_rfl) (by kernel_rfl) (Wt.no rfl) rfl ((PV.move rfl).to (congrArg Value.bool hb40)) ?_
        refine RD.takeNo 9 rfl (by kernel_rfl) (by kernel_rfl) (by kernel_rfl) (Un.mk rfl rfl rfl rfl) rfl ?_
        refine RD.takeNo 10 rfl (by kernel_rfl) (by kernel_rfl) (by kernel_rfl) (Un.mk rfl rfl rfl rfl) rfl ?_
        refine RD.takeNo 11 rfl (by kernel_rfl) (by kernel_rfl) (by kernel_rfl) (Un.mk rfl rfl rfl rfl) rfl ?_
        refine RD.takeNo 12 rfl (by kernel_rfl) (by kernel_rfl) (by kernel_rfl) (Un.mk rfl rfl rfl rfl) rfl ?_
        refine RD.takeNo 13 rfl (by kernel_rfl) (by kernel_rfl) (by kernel_rfl) (Un.mk rfl rfl rfl rfl) rfl ?_
        refine RD.takeNo 14 rfl (by kernel_rfl) (by kernel_rfl) (by kernel_rfl) (Un.mk rfl rfl rfl rfl) rfl ?_
        refine RD.take 15 rfl (by kernel_rfl) (by kernel_rfl) (by kernel_rfl) (Wt.no rfl) rfl (PV.pickT rfl rfl) ?_
        refine RD.done (by kernel_rfl) ?_
        obtain rfl := Option.some.inj h
        refine QC.meetP true hk35 [0, 1, 2, 3, 4, 5, 6] (by decide) (by exact ⟨rfl, rfl, rfl, rfl, rfl, trivial⟩) rfl (fun w hΦ => hΦ)
      · replace hb40 := Bool.eq_false_iff.2 hb40
        replace h := iteF hb40 h
        replace h := bindS h
        obtain ⟨v41, hx42, h⟩ := h
        refine CW.regionD (pickM [0, 1, 2, 3, 4, 5, 6] _) _ (by kernel_rfl) (St.of (by decide) rfl (fun _ h => h)) ?_
        refine RD.take 0 rfl (by kernel_rfl) (by kernel_rfl) (by kernel_rfl) (Wt.no rfl) rfl (PV.fieldAddr Try.fa53_0 rfl) ?_
        refine RD.take 1 rfl (by kernel_rfl) (by kernel_rfl) (by kernel_rfl) (Wt.no rfl) rfl (PV.loadM (l := [.int .i64 a1.Kind]) 5 Try.TF3 rfl rfl (cut_Msg_Kind _ _) rfl (by decide)) ?_
        refine RD.take 2 rfl (by kernel_rfl) (by kernel_rfl) (by kernel_rfl) (Wt.no rfl) rfl (PV.neq rfl rfl) ?_
        refine RD.take 3 rfl (by kernel_rfl) (by kernel_rfl) (by kernel_rfl) (Wt.no rfl) rfl ((PV.move rfl).to (congrArg Value.bool hb37)) ?_
        refine RD.take 4 rfl (by kernel_rfl) (by kernel_rfl) (by kernel_rfl) (Wt.yes rfl rfl rfl rfl) rfl (PV.loadM (l := S.t_Msg.enc a1 (hf [b1_0, b1_1, b1_2])) 5 Try.TF53 rfl rfl (cut_self (S.t_Msg.len _ _)) rfl (by decide)) ?_
        refine RD.one 5 (by kernel_rfl) ?_
        refine Up.eff rfl (Wt.yes rfl rfl rfl rfl) rfl (EV.call (K := _) Try.call55 rfl (SpecK.callV (W_take_placed a1 b1_0 b1_1 b1_2 hx39 (fun w hm hΦ => ⟨(hR w (hΦ.1)).1, (hR w (hΦ.1)).2.1, (hR w (hΦ.1)).2.2.1⟩)))) ?_ ?_
        · rintro _ _ _ ⟨_, rfl, rfl, rfl⟩; exact St.of' (by decide) (L' := [0, 1, 2, 3, 4, 5, 6]) rfl (fun _ h => h)
        rintro _ _ _ ⟨_, rfl, rfl, rfl⟩
        refine RD.take 6 rfl (by kernel_rfl) (by kernel_rfl) (by kernel_rfl) (Wt.yes rfl rfl rfl rfl) rfl (PV.not rfl) ?_
        refine RD.take 7 rfl (by kernel_rfl) (by kernel_rfl) (by kernel_rfl) (Wt.no rfl) rfl (PV.pickF rfl rfl) ?_
        refine RD.take 8 rfl (by kernel_rfl) (by kernel_rfl) (by kernel_rfl) (Wt.no rfl) rfl ((PV.move rfl).to (congrArg Value.bool hb40)) ?_
        refine RD.take 9 rfl (by kernel_rfl) (by kernel_rfl) (by kernel_rfl) (Wt.yes rfl rfl rfl rfl) rfl (PV.fieldAddr Try.fa53_8 rfl) ?_
        refine RD.take 10 rfl (by kernel_rfl) (by kernel_rfl) (by kernel_rfl) (Wt.yes rfl rfl rfl rfl) rfl (PV.loadM (l := [.string a1.Key]) 5 Try.TF9 rfl rfl (cut_Msg_Key _ _) rfl (by decide)) ?_
        refine RD.take 12 rfl (by kernel_rfl) (by kernel_rfl) (by kernel_rfl) (Wt.yes rfl rfl rfl rfl) rfl (PV.fieldAddr Try.fa53_6 rfl) ?_
        refine RD.take 13 rfl (by kernel_rfl) (by kernel_rfl) (by kernel_rfl) (Wt.yes rfl rfl rfl rfl) rfl (PV.loadM (l := [.int .i64 a1.Part]) 5 Try.TF3 rfl rfl (cut_Msg_Part _ _) rfl (by decide)) ?_
        refine RD.one 11 (by kernel_rfl) ?_
        refine Up.eff rfl (Wt.yes rfl rfl rfl rfl) rfl (EV.call (K := _) Try.call12 rfl (SpecK.callV (W_spot_Of a1.Key hx42))) ?_ ?_
        · rintro _ _ _ ⟨_, rfl, rfl, rfl⟩; exact St.of' (by decide) (L' := [0, 1, 2, 3, 4, 5, 6]) rfl (fun _ h => h)
        rintro _ _ _ ⟨_, rfl, rfl, rfl⟩
        refine RD.take 14 rfl (by kernel_rfl) (by kernel_rfl) (by kernel_rfl) (Wt.yes rfl rfl rfl rfl) rfl (PV.neq rfl rfl) ?_
        refine RD.take 15 rfl (by kernel_rfl) (by kernel_rfl) (by kernel_rfl) (Wt.no rfl) rfl (PV.pickF rfl rfl) ?_
        refine RD.done (by kernel_rfl) ?_
        obtain rfl := Option.some.inj h
        refine QC.meetP (decide (v41 ≠ a1.Part)) hk35 [0, 1, 2, 3, 4, 5, 6] (by decide) (by exact ⟨rfl, rfl, rfl, rfl, rfl, trivial⟩) rfl (fun w hΦ => hΦ)
  · rintro v4 h
    try dsimp only at h ⊢
    unfold S.take_Give_j1 at h
    refine CW.cond rfl (fun hb5 => ?_) (fun hb5 => ?_)
    · replace h := iteT hb5 h
      subst hb5
      refine CW.reg ?_
      refine RO.val (Wt.no rfl) rfl (PV.buildS (B := S.t_Msg.enc S.Msg.z (hf [Hd.z, Hd.z, Hd.z])) (xs := []) [] Try.BT53 rfl rfl rfl (by simp) trivial rfl) ?_
      refine RO.eff (Wt.no rfl) rfl (EV.storeW (B := S.t_Msg.enc S.Msg.z (hf [Hd.z, Hd.z, Hd.z])) 6 Try.TF53 rfl rfl rfl (by exact S.t_Msg.len S.Msg.z (hf [Hd.z, Hd.z, Hd.z])) (by exact S.t_Msg.one S.Msg.z (hf [Hd.z, Hd.z, Hd.z])) (S.t_Msg.len S.Msg.z (hf [Hd.z, Hd.z, Hd.z])) rfl) ?_
      rintro _ _ _ ⟨rfl, rfl, rfl⟩
      refine RO.val (Wt.no rfl) rfl (PV.assign rfl) ?_
      refine RO.nil ?_
      refine CW.ret ?_
      refine QC.then_r ?_
      obtain rfl := Option.some.inj h
      exact retP2 (Ψ := fun w => Φ w ∧ (slR S.t_Val w [] Hd.z ∧ slR (tInt .i64) w [] Hd.z ∧ slR S.t_Claim w [] Hd.z ∧ rdS S.t_Deed w a2.l.l b2_0.sub ∧ slR (tInt .i64) w a2.ring.Plan.Targets b2_1 ∧ mpR S.t_Bag w a2.bags b2_2)) [0, 1, 2, 3, 4] (by decide) rfl (RV.cell (A := S.t_Msg.enc S.Msg.z (hf [Hd.z, Hd.z, Hd.z])) 6 rfl Try.TF53 rfl (S.t_Msg.len _ _) (by decide)) (RV.tmp rfl) rfl (fun w hΦ => ⟨hΦ.1, (slR.nil _ _), (slR.nil _ _), (slR.nil _ _), (hR w (hΦ.1)).2.2.2.1, (hR w (hΦ.1)).2.2.2.2.1, (hR w (hΦ.1)).2.2.2.2.2⟩) ⟨(Hd.z, Hd.z, Hd.z, b2_0, b2_1, b2_2), rfl, rfl, rfl⟩
    · replace h := iteF hb5 h
      subst hb5
      refine CW.skip ?_
      refine QC.then_n ?_
      refine CW.seq ?_
      replace h := bindS h
      obtain ⟨v6, hx7, h⟩ := h
      refine CW.reg ?_
      refine RO.val (Wt.no rfl) rfl (PV.loadM (l := S.t_Msg.enc a1 (hf [b1_0, b1_1, b1_2])) 5 Try.TF53 rfl rfl (cut_self (S.t_Msg.len _ _)) rfl (by decide)) ?_
      refine RO.val (Wt.no rfl) rfl (PV.move rfl) ?_
      refine RO.eff (Wt.no rfl) rfl (EV.call (K := _) Try.call56 rfl (SpecK.call [1, 2, 3, 4] (fun x : Unit => [frame D, .blk ga2_0 (S.t_vault_Vault.enc a2 (hf [(pq ga2_1), b2_1, (pq ga2_2)])), .blk ga2_1 (S.t_ledger_Ledger.enc a2.l (hf [b2_0])), rowE S.t_Deed 106 a2.l.l b2_0, mpE Value.string S.t_Bag ga2_2 a2.bags b2_2, .blk g1 (S.t_Msg.enc a1 (hf [b1_0, b1_1, b1_2])), .blk g2 (S.t_Msg.enc S.Msg.z (hf [Hd.z, Hd.z, Hd.z]))]) (Outs.cons rfl (Outs.cons rfl (Outs.cons rfl (Outs.cons rfl Outs.nil)))) (fun _ => (Outs.cons rfl (Outs.cons rfl (Outs.cons rfl (Outs.cons rfl Outs.nil))))) (W_take_old a1 a2 ga2_0 ga2_1 ga2_2 b1_0 b1_1 b1_2 b2_0 b2_1 b2_2 hx7 (fun w hm hΦ => ⟨(hR w (hΦ.1)).1, (hR w (hΦ.1)).2.1, (hR w (hΦ.1)).2.2.1, (hR w (hΦ.1)).2.2.2.1, (hR w (hΦ.1)).2.2.2.2.1, (hR w (hΦ.1)).2.2.2.2.2⟩)))) ?_
      rintro _ _ _ ⟨_, rfl, rfl, rfl⟩
      refine RO.val (Wt.no rfl) rfl (PV.assign rfl) ?_
      refine RO.nil ?_
      refine CW.reg ?_
      refine RO.val (Wt.no rfl) rfl (PV.move rfl) ?_
      refine RO.val (Wt.no rfl) rfl (PV.neq rfl rfl) ?_
      refine RO.nil ?_
      refine CW.cond rfl (fun hb8 => ?_) (fun hb8 => ?_)
      · replace h := iteT hb8 h
        refine CW.reg ?_
        refine RO.val (Wt.no rfl) rfl (PV.buildS (B := S.t_Msg.enc S.Msg.z (hf [Hd.z, Hd.z, Hd.z])) (xs := []) [] Try.BT53 rfl rfl rfl (by simp) trivial rfl) ?_
        refine RO.val (Wt.no rfl) rfl (PV.move rfl) ?_
        refine RO.eff (Wt.no rfl) rfl (EV.storeW (B := S.t_Msg.enc S.Msg.z (hf [Hd.z, Hd.z, Hd.z])) 6 Try.TF53 rfl rfl rfl (by exact S.t_Msg.len S.Msg.z (hf [Hd.z, Hd.z, Hd.z])) (by exact S.t_Msg.one S.Msg.z (hf [Hd.z, Hd.z, Hd.z])) (S.t_Msg.len S.Msg.z (hf [Hd.z, Hd.z, Hd.z])) rfl) ?_
        rintro _ _ _ ⟨rfl, rfl, rfl⟩
        refine RO.val (Wt.no rfl) rfl (PV.assign rfl) ?_
        refine RO.nil ?_
        refine CW.ret ?_
        refine QC.then_r ?_
        obtain rfl := Option.some.inj h
        exact retP2 (Ψ := fun w => Φ w ∧ (slR S.t_Val w [] Hd.z ∧ slR (tInt .i64) w [] Hd.z ∧ slR S.t_Claim w [] Hd.z ∧ rdS S.t_Deed w a2.l.l b2_0.sub ∧ slR (tInt .i64) w a2.ring.Plan.Targets b2_1 ∧ mpR S.t_Bag w a2.bags b2_2)) [0, 1, 2, 3, 4] (by decide) rfl (RV.cell (A := S.t_Msg.enc S.Msg.z (hf [Hd.z, Hd.z, Hd.z])) 6 rfl Try.TF53 rfl (S.t_Msg.len _ _) (by decide)) (RV.tmp rfl) rfl (fun w hΦ => ⟨hΦ.1, (slR.nil _ _), (slR.nil _ _), (slR.nil _ _), (hR w (hΦ.1)).2.2.2.1, (hR w (hΦ.1)).2.2.2.2.1, (hR w (hΦ.1)).2.2.2.2.2⟩) ⟨(Hd.z, Hd.z, Hd.z, b2_0, b2_1, b2_2), rfl, rfl, rfl⟩
      · replace h := iteF hb8 h
        refine CW.skip ?_
        refine QC.then_n ?_
        refine CW.seq ?_
        replace h := bindS h
        obtain ⟨⟨v9, v10⟩, hx11, h⟩ := h
        dsimp only at h
        refine CW.reg ?_
        refine RO.val (Wt.no rfl) rfl (PV.move rfl) ?_
        refine RO.val (Wt.no rfl) rfl (PV.fieldAddr Try.fa53_8 rfl) ?_
        refine RO.val (Wt.no rfl) rfl (PV.loadM (l := [.string a1.Key]) 5 Try.TF9 rfl rfl (cut_Msg_Key _ _) rfl (by decide)) ?_
        refine RO.val (Wt.no rfl) rfl (PV.fieldAddr Try.fa53_9 rfl) ?_
        refine RO.val (Wt.no rfl) rfl (PV.loadM (l := S.t_Bag.enc a1.Bag (hf [b1_0])) 5 Try.TF40 rfl rfl (cut_Msg_Bag _ _) rfl (by decide)) ?_
        refine RO.eff (Wt.no rfl) rfl (EV.call (K := _) Try.call40 rfl (SpecK.call [1, 2, 3, 4] (fun x : Hd × Hd × (Nat → Hs) => [frame D, .blk ga2_0 (S.t_vault_Vault.enc v10 (hf [(pq ga2_1), x.2.1, (pq ga2_2)])), .blk ga2_1 (S.t_ledger_Ledger.enc v10.l (hf [x.1])), rowE S.t_Deed 106 v10.l.l x.1, mpE Value.string S.t_Bag ga2_2 v10.bags x.2.2, .blk g1 (S.t_Msg.enc a1 (hf [b1_0, b1_1, b1_2])), .blk g2 (S.t_Msg.enc S.Msg.z (hf [Hd.z, Hd.z, Hd.z]))]) (Outs.cons rfl (Outs.cons rfl (Outs.cons rfl (Outs.cons rfl Outs.nil)))) (fun _ => (Outs.cons rfl (Outs.cons rfl (Outs.cons rfl (Outs.cons rfl Outs.nil))))) (W_vault_Vault_Merge a2 a1.Key a1.Bag ga2_0 ga2_1 ga2_2 b2_0 b2_1 b2_2 b1_0 hx11 (fun w hΦ => ⟨(hR w (hΦ.1)).2.2.2.1, (hR w (hΦ.1)).2.2.2.2.1, (hR w (hΦ.1)).2.2.2.2.2, (hR w (hΦ.1)).1⟩)))) ?_
        rintro _ _ _ ⟨⟨q12, q13, q14⟩, rfl, rfl, rfl⟩
        refine RO.val (Wt.no rfl) rfl (PV.assign rfl) ?_
        refine RO.nil ?_
        refine CW.reg ?_
        refine RO.val (Wt.no rfl) rfl (PV.move rfl) ?_
        refine RO.val (Wt.no rfl) rfl (PV.neq rfl rfl) ?_
        refine RO.nil ?_
        refine CW.cond rfl (fun hb16 => ?_) (fun hb16 => ?_)
        · replace h := iteT hb16 h
          refine CW.reg ?_
          refine RO.val (Wt.no rfl) rfl (PV.buildS (B := S.t_Msg.enc S.Msg.z (hf [Hd.z, Hd.z, Hd.z])) (xs := []) [] Try.BT53 rfl rfl rfl (by simp) trivial rfl) ?_
          refine RO.val (Wt.no rfl) rfl (PV.move rfl) ?_
          refine RO.eff (Wt.no rfl) rfl (EV.storeW (B := S.t_Msg.enc S.Msg.z (hf [Hd.z, Hd.z, Hd.z])) 6 Try.TF53 rfl rfl rfl (by exact S.t_Msg.len S.Msg.z (hf [Hd.z, Hd.z, Hd.z])) (by exact S.t_Msg.one S.Msg.z (hf [Hd.z, Hd.z, Hd.z])) (S.t_Msg.len S.Msg.z (hf [Hd.z, Hd.z, Hd.z])) rfl) ?_
          rintro _ _ _ ⟨rfl, rfl, rfl⟩
          refine RO.val (Wt.no rfl) rfl (PV.assign rfl) ?_
          refine RO.nil ?_
          refine CW.ret ?_
          refine QC.then_r ?_
          obtain rfl := Option.some.inj h
          exact retP2 (Ψ := fun w => Φ w ∧ (slR S.t_Val w [] Hd.z ∧ slR (tInt .i64) w [] Hd.z ∧ slR S.t_Claim w [] Hd.z ∧ rdS S.t_Deed w v10.l.l q12.sub ∧ slR (tInt .i64) w v10.ring.Plan.Targets q13 ∧ mpR S.t_Bag w v10.bags q14)) [0, 1, 2, 3, 4] (by decide) rfl (RV.cell (A := S.t_Msg.enc S.Msg.z (hf [Hd.z, Hd.z, Hd.z])) 6 rfl Try.TF53 rfl (S.t_Msg.len _ _) (by decide)) (RV.tmp rfl) rfl (fun w hΦ => ⟨hΦ.1.1, (slR.nil _ _), (slR.nil _ _), (slR.nil _ _), (hΦ.2.1), (hΦ.2.2.1), (hΦ.2.2.2)⟩) ⟨(Hd.z, Hd.z, Hd.z, q12, q13, q14), rfl, rfl, rfl⟩
        · replace h := iteF hb16 h
          refine CW.skip ?_
          refine QC.then_n ?_
          replace h := bindS h
          obtain ⟨⟨v17, v18⟩, hx19, h⟩ := h
          dsimp only at h
          refine CW.reg ?_
          refine RO.val (Wt.no rfl) rfl (PV.move rfl) ?_
          refine RO.eff (Wt.no rfl) rfl (EV.call (K := _) Try.call57 rfl (SpecK.call [1, 2, 3, 4] (fun x : Hd × Hd × (Nat → Hs) => [frame D, .blk ga2_0 (S.t_vault_Vault.enc v18 (hf [(pq ga2_1), x.2.1, (pq ga2_2)])), .blk ga2_1 (S.t_ledger_Ledger.enc v18.l (hf [x.1])), rowE S.t_Deed 106 v18.l.l x.1, mpE Value.string S.t_Bag ga2_2 v18.bags x.2.2, .blk g1 (S.t_Msg.enc a1 (hf [b1_0, b1_1, b1_2])), .blk g2 (S.t_Msg.enc S.Msg.z (hf [Hd.z, Hd.z, Hd.z]))]) (Outs.cons rfl (Outs.cons rfl (Outs.cons rfl (Outs.cons rfl Outs.nil)))) (fun _ => (Outs.cons rfl (Outs.cons rfl (Outs.cons rfl (Outs.cons rfl Outs.nil))))) (W_vault_Vault_Sync v10 ga2_0 ga2_1 ga2_2 q12 q13 q14 hx19 (fun w hΦ => ⟨(hΦ.2.1), (hΦ.2.2.1), (hΦ.2.2.2)⟩)))) ?_
          rintro _ _ _ ⟨⟨q20, q21, q22⟩, rfl, rfl, rfl⟩
          refine RO.nil ?_
          replace h := bindS h
          obtain ⟨v24, hx25, h⟩ := h
          refine CW.reg ?_
          refine RO.val (Wt.no rfl) rfl (PV.loadM (l := S.t_Msg.enc a1 (hf [b1_0, b1_1, b1_2])) 5 Try.TF53 rfl rfl (cut_self (S.t_Msg.len _ _)) rfl (by decide)) ?_
          refine RO.eff (Wt.no rfl) rfl (EV.call (K := _) Try.call58 rfl (SpecK.callV (W_take_back a1 6 b1_0 b1_1 b1_2 hx25 (fun w hm hΦ => ⟨(hR w (hΦ.1.1.1)).1, (hR w (hΦ.1.1.1)).2.1, (hR w (hΦ.1.1.1)).2.2.1⟩)))) ?_
          rintro _ _ _ ⟨⟨q26, q27, q28⟩, rfl, rfl, rfl⟩
          refine RO.eff (Wt.no rfl) rfl (EV.allocB (B := S.t_Msg.enc S.Msg.z (hf [Hd.z, Hd.z, Hd.z])) Try.zeroValue53 rfl) ?_
          rintro _ _ _ ⟨g30, rfl, rfl, rfl⟩
          refine RO.eff (Wt.no rfl) rfl (EV.storeW (B := S.t_Msg.enc v24 (hf [q26, q27, q28])) 7 Try.TF53 rfl rfl rfl (by exact S.t_Msg.len v24 (hf [q26, q27, q28])) (by exact S.t_Msg.one v24 (hf [q26, q27, q28])) (S.t_Msg.len S.Msg.z (hf [Hd.z, Hd.z, Hd.z])) rfl) ?_
          rintro _ _ _ ⟨rfl, rfl, rfl⟩
          refine RO.nil ?_
          refine CW.regD (pickM [0, 1, 2, 3, 4, 5, 6] _) _ (by kernel_rfl) (St.of (by decide) rfl (fun _ h => h)) ?_
          refine RD.take 0 rfl (by kernel_rfl) (by kernel_rfl) (by kernel_rfl) (Wt.no rfl) rfl (PV.fieldAddr Try.fa53_3 rfl) ?_
          refine RD.take 1 rfl (by kernel_rfl) (by kernel_rfl) (by kernel_rfl) (Wt.no rfl) rfl (PV.loadM (l := [.int .i64 a1.Seq]) 5 Try.TF3 rfl rfl (cut_Msg_Seq _ _) rfl (by decide)) ?_
          refine RD.take 2 rfl (by kernel_rfl) (by kernel_rfl) (by kernel_rfl) (Wt.no rfl) rfl (PV.fieldAddr Try.fa53_8 rfl) ?_
          refine RD.take 3 rfl (by kernel_rfl) (by kernel_rfl) (by kernel_rfl) (Wt.no rfl) rfl (PV.loadM (l := [.string a1.Key]) 5 Try.TF9 rfl rfl (cut_Msg_Key _ _) rfl (by decide)) ?_
          refine RD.take 4 rfl (by kernel_rfl) (by kernel_rfl) (by kernel_rfl) (Wt.no rfl) rfl (PV.fieldAddr Try.fa53_9 rfl) ?_
          refine RD.take 5 rfl (by kernel_rfl) (by kernel_rfl) (by kernel_rfl) (Wt.no rfl) rfl (PV.loadM (l := S.t_Bag.enc a1.Bag (hf [b1_0])) 5 Try.TF40 rfl rfl (cut_Msg_Bag _ _) rfl (by decide)) ?_
          refine RD.take 6 rfl (by kernel_rfl) (by kernel_rfl) (by kernel_rfl) (Wt.no rfl) rfl (PV.fieldAddr Try.fa53_3 rfl) ?_
          refine RD.one 7 (by kernel_rfl) ?_
          refine Up.eff rfl (Wt.no rfl) rfl (EV.storeB (B := S.t_Msg.enc ({ v24 with Seq := a1.Seq } : S.Msg) (hf [q26, q27, q28])) 7 Try.TF3 rfl rfl rfl rfl rfl (by rw [S.t_Msg.len]; decide) (wr_Msg_Seq v24 q26 q27 q28 a1.Seq)) ?_ ?_
          · rintro _ _ _ ⟨rfl, rfl, rfl⟩; exact St.of' (by decide) (L' := [0, 1, 2, 3, 4, 5, 6]) rfl (fun _ h => h)
          rintro _ _ _ ⟨rfl, rfl, rfl⟩
          refine RD.take 8 rfl (by kernel_rfl) (by kernel_rfl) (by kernel_rfl) (Wt.no rfl) rfl (PV.fieldAddr Try.fa53_8 rfl) ?_
          refine RD.one 9 (by kernel_rfl) ?_
          refine Up.eff rfl (Wt.no rfl) rfl (EV.storeB (B := S.t_Msg.enc ({ v24 with Seq := a1.Seq, Key := a1.Key } : S.Msg) (hf [q26, q27, q28])) 7 Try.TF9 rfl rfl rfl rfl rfl (by rw [S.t_Msg.len]; decide) (wr_Msg_Key ({ v24 with Seq := a1.Seq } : S.Msg) q26 q27 q28 a1.Key)) ?_ ?_
          · rintro _ _ _ ⟨rfl, rfl, rfl⟩; exact St.of' (by decide) (L' := [0, 1, 2, 3, 4, 5, 6]) rfl (fun _ h => h)
          rintro _ _ _ ⟨rfl, rfl, rfl⟩
          refine RD.take 10 rfl (by kernel_rfl) (by kernel_rfl) (by kernel_rfl) (Wt.no rfl) rfl (PV.fieldAddr Try.fa53_9 rfl) ?_
          refine RD.one 11 (by kernel_rfl) ?_
          refine Up.eff rfl (Wt.no rfl) rfl (EV.storeB (B := S.t_Msg.enc ({ v24 with Seq := a1.Seq, Key := a1.Key, Bag := a1.Bag } : S.Msg) (hf [b1_0, q27, q28])) 7 Try.TF40 rfl rfl rfl (by exact S.t_Bag.len a1.Bag (hf [b1_0])) (by exact S.t_Bag.one a1.Bag (hf [b1_0])) (by rw [S.t_Msg.len]; decide) (wr_Msg_Bag ({ v24 with Seq := a1.Seq, Key := a1.Key } : S.Msg) q26 q27 q28 b1_0 a1.Bag)) ?_ ?_
          · rintro _ _ _ ⟨rfl, rfl, rfl⟩; exact St.of' (by decide) (L' := [0, 1, 2, 3, 4, 5, 6]) rfl (fun _ h => h)
          rintro _ _ _ ⟨rfl, rfl, rfl⟩
          refine RD.done (by kernel_rfl) ?_
          replace h := bindS h
          obtain ⟨v31, hx32, h⟩ := h
          refine CW.reg ?_
          refine RO.val (Wt.no rfl) rfl (PV.fieldAddr Try.fa53_9 rfl) ?_
          refine RO.val (Wt.no rfl) rfl (PV.fieldAddr Try.fa40_1 rfl) ?_
          refine RO.val (Wt.no rfl) rfl (PV.loadM (l := [.slice b1_0.a a1.Bag.Values.length b1_0.cap]) 5 Try.TF38 rfl rfl (cut_Msg_Bag_Values _ _) rfl (by decide)) ?_
          refine RO.eff (Wt.no rfl) rfl (EV.call (K := _) Try.call59 rfl (SpecK.call0 (W_slices_Clone_api_Value_api_Value a1.Bag.Values b1_0 hx32 (fun w hm hΦ => (hR w (hΦ.1.1.1.1)).1)))) ?_
          rintro _ _ _ ⟨q33, rfl, rfl, rfl⟩
          refine RO.val (Wt.no rfl) rfl (PV.fieldAddr Try.fa53_9 rfl) ?_
          refine RO.val (Wt.no rfl) rfl (PV.fieldAddr Try.fa40_1 rfl) ?_
          refine RO.eff (Wt.no rfl) rfl (EV.storeB (B := S.t_Msg.enc ({ v24 with Seq := a1.Seq, Key := a1.Key, Bag := ({ a1.Bag with Values := v31 } : S.Bag) } : S.Msg) (hf [q33, q27, q28])) 7 Try.TF38 rfl rfl rfl rfl rfl (by rw [S.t_Msg.len]; decide) (wr_Msg_Bag_Values ({ v24 with Seq := a1.Seq, Key := a1.Key, Bag := a1.Bag } : S.Msg) b1_0 q27 q28 q33 v31)) ?_
          rintro _ _ _ ⟨rfl, rfl, rfl⟩
          refine RO.nil ?_
          refine CW.reg ?_
          refine RO.val (Wt.no rfl) rfl (PV.loadM (l := S.t_Msg.enc ({ v24 with Seq := a1.Seq, Key := a1.Key, Bag := ({ a1.Bag with Values := v31 } : S.Bag) } : S.Msg) (hf [q33, q27, q28])) 7 Try.TF53 rfl rfl (cut_self (S.t_Msg.len _ _)) rfl (by decide)) ?_
          refine RO.eff (Wt.no rfl) rfl (EV.storeW (B := S.t_Msg.enc ({ v24 with Seq := a1.Seq, Key := a1.Key, Bag := ({ a1.Bag with Values := v31 } : S.Bag) } : S.Msg) (hf [q33, q27, q28])) 6 Try.TF53 rfl rfl rfl (by exact S.t_Msg.len ({ v24 with Seq := a1.Seq, Key := a1.Key, Bag := ({ a1.Bag with Values := v31 } : S.Bag) } : S.Msg) (hf [q33, q27, q28])) (by exact S.t_Msg.one ({ v24 with Seq := a1.Seq, Key := a1.Key, Bag := ({ a1.Bag with Values := v31 } : S.Bag) } : S.Msg) (hf [q33, q27, q28])) (S.t_Msg.len S.Msg.z (hf [Hd.z, Hd.z, Hd.z])) rfl) ?_
          rintro _ _ _ ⟨rfl, rfl, rfl⟩
          refine RO.val (Wt.no rfl) rfl (PV.assign rfl) ?_
          refine RO.nil ?_
          refine CW.ret ?_
          refine QC.freeze (t := S.t_Val) 8 rfl (fun w hΦ => (fun _ _ _ => trivial)) ?_
          obtain rfl := Option.some.inj h
          exact retP2 (Ψ := fun w => Φ w ∧ (slR S.t_Val w v31 q33 ∧ slR (tInt .i64) w v24.Ring.Plan.Targets q27 ∧ slR S.t_Claim w v24.Claims q28 ∧ rdS S.t_Deed w v18.l.l q20.sub ∧ slR (tInt .i64) w v18.ring.Plan.Targets q21 ∧ mpR S.t_Bag w v18.bags q22)) [0, 1, 2, 3, 4] (by decide) rfl (RV.cell (A := S.t_Msg.enc ({ v24 with Seq := a1.Seq, Key := a1.Key, Bag := ({ a1.Bag with Values := v31 } : S.Bag) } : S.Msg) (hf [q33, q27, q28])) 6 rfl Try.TF53 rfl (S.t_Msg.len _ _) (by decide)) (RV.tmp rfl) rfl (fun w hΦ => ⟨hΦ.1.1.1.1.1, (hΦ.2), (hΦ.1.2.2.1), (hΦ.1.2.2.2), (hΦ.1.1.2.1), (hΦ.1.1.2.2.1), (hΦ.1.1.2.2.2)⟩) ⟨(q33, q27, q28, q20, q21, q22), rfl, rfl, rfl⟩

theorem W_vault_Vault_Bag {D : Mem} {Φ : World → Prop} (a1 : S.vault_Vault) (a2 : ByteArray) (ga1_0 ga1_1 ga1_2 : Nat) (b1_0 : Hd) (b1_1 : Hd) (b1_2 : (Nat → Hs)) {r : S.Bag} (h : S.vault_Vault_Bag a1 a2 = some r) (hR : ∀ w, MemOk D w → Φ w → (rdS S.t_Deed w a1.l.l b1_0.sub ∧ slR (tInt .i64) w a1.ring.Plan.Targets b1_1 ∧ mpR S.t_Bag w a1.bags b1_2)) :
    SpecK Try.prog 20 [.pointer (pq ga1_0).a, .string a2] D [.blk ga1_0 (S.t_vault_Vault.enc a1 (hf [(pq ga1_1), b1_1, (pq ga1_2)])), .blk ga1_1 (S.t_ledger_Ledger.enc a1.l (hf [b1_0])), rowE S.t_Deed 106 a1.l.l b1_0, mpE Value.string S.t_Bag ga1_2 a1.bags b1_2] Φ (fun x : Hd => .agg (S.t_Bag.enc r (hf [x])).toArray) (fun x => [.blk ga1_0 (S.t_vault_Vault.enc a1 (hf [(pq ga1_1), b1_1, (pq ga1_2)])), .blk ga1_1 (S.t_ledger_Ledger.enc a1.l (hf [b1_0])), rowE S.t_Deed 106 a1.l.l b1_0, mpE Value.string S.t_Bag ga1_2 a1.bags b1_2]) (fun x => []) (fun x w => Φ w ∧ (slR S.t_Val w r.Values x)) := by
  refine enterK Try.func20 rfl Try.ntmps20 rfl ?_
  unfold S.vault_Vault_Bag at h
  refine CW.reg ?_
  refine RO.eff (Wt.no rfl) rfl (EV.allocB (B := S.t_Bag.enc S.Bag.z (hf [Hd.z])) Try.zeroValue40 rfl) ?_
  rintro _ _ _ ⟨g1, rfl, rfl, rfl⟩
  refine RO.nil ?_
  refine CW.seq ?_
  refine CW.reg ?_
  refine RO.val (Wt.no rfl) rfl (PV.move rfl) ?_
  refine RO.val (Wt.no rfl) rfl ((PV.eqlPtr Try.underlying46 rfl rfl).to rfl) ?_
  refine RO.nil ?_
  refine CW.condF rfl ?_
  refine CW.skip ?_
  refine QC.then_n ?_
  replace h := bindS h
  obtain ⟨v2, hx3, h⟩ := h
  refine CW.reg ?_
  refine RO.val (Wt.no rfl) rfl (PV.move rfl) ?_
  refine RO.val (Wt.no rfl) rfl (PV.nilCheck rfl) ?_
  refine RO.val (Wt.no rfl) rfl (PV.fieldAddr Try.fa101_5 rfl) ?_
  refine RO.val (Wt.no rfl) rfl (PV.loadM (l := [.map (mb (pq ga1_2))]) 1 Try.TF99 rfl rfl (cut_vault_Vault_bags _ _) rfl (by decide)) ?_
  refine RO.val (Wt.no rfl) rfl (PV.move rfl) ?_
  refine RO.val (Wt.no rfl) rfl (PV.lookupQ (kv := Value.string) (tv := S.t_Bag) (l := a1.bags) (hh := b1_2) (k := a2) 4 (strKey Try.underlying9) str_dom str_inj Try.underlying99 Try.zeroValue40 rfl rfl rfl) ?_
  refine RO.eff (Wt.no rfl) rfl (EV.call (K := _) Try.call61 rfl (SpecK.callV (W_vault_copied ((mget a1.bags a2).getD S.Bag.z) (mgetH a1.bags b1_2 a2 0) hx3 (fun w hm hΦ => ((mpR.get (tv := S.t_Bag) (hR w (hm.frameAt (i := 0) rfl) (hΦ.1)).2.2 a2)))))) ?_
  rintro _ _ _ ⟨q4, rfl, rfl, rfl⟩
  refine RO.eff (Wt.no rfl) rfl (EV.storeW (B := S.t_Bag.enc v2 (hf [q4])) 5 Try.TF40 rfl rfl rfl (by exact S.t_Bag.len v2 (hf [q4])) (by exact S.t_Bag.one v2 (hf [q4])) (S.t_Bag.len S.Bag.z (hf [Hd.z])) rfl) ?_
  rintro _ _ _ ⟨rfl, rfl, rfl⟩
  refine RO.nil ?_
  refine CW.ret ?_
  obtain rfl := Option.some.inj h
  exact retP1 (Ψ := fun w => Φ w ∧ (slR S.t_Val w v2.Values q4)) [0, 1, 2, 3, 4] (by decide) rfl (RV.cell (A := S.t_Bag.enc v2 (hf [q4])) 5 rfl Try.TF40 rfl (S.t_Bag.len _ _) (by decide)) rfl (fun w hΦ => ⟨hΦ.1.1, (hΦ.2)⟩) ⟨q4, rfl, rfl, rfl⟩

theorem W_law21_awake {D : Mem} {Φ : World → Prop} {r : Bool} (h : S.law21_awake = some r) :
    SpecK Try.prog 9 [] D [] Φ (fun x : Unit => .bool r) (fun x => []) (fun x => []) (fun _ => Φ) := by
  refine enterK Try.func9 rfl Try.ntmps9 rfl ?_
  unfold S.law21_awake at h
  refine CW.reg ?_
  refine RO.val (Wt.no rfl) rfl (PV.assign rfl) ?_
  refine RO.nil ?_
  replace h := bindS h
  obtain ⟨v1, hx2, h⟩ := h
  refine CW.reg ?_
  refine RO.eff (Wt.no rfl) rfl (EV.call (K := _) Try.call15 rfl (SpecK.call0 (W_ledger_New 9 hx2))) ?_
  rintro _ _ _ ⟨⟨g3, q4⟩, rfl, rfl, rfl⟩
  refine RO.val (Wt.no rfl) rfl (PV.assign rfl) ?_
  refine RO.nil ?_
  replace h := bindS h
  obtain ⟨⟨v6, v7⟩, hx8, h⟩ := h
  dsimp only at h
  refine CW.reg ?_
  refine RO.val (Wt.no rfl) rfl (PV.move rfl) ?_
  refine RO.eff (Wt.no rfl) rfl (EV.call (K := _) Try.call14 rfl (SpecK.call [1, 2] (fun x : Nat × Nat × Hd × (Nat → Hs) × Hd => [frame D, .blk g3 (S.t_ledger_Ledger.enc v7 (hf [x.2.2.2.2])), rowE S.t_Deed 106 v7.l x.2.2.2.2]) (Outs.cons rfl (Outs.cons rfl Outs.nil)) (fun _ => (Outs.cons rfl (Outs.cons rfl Outs.nil))) (W_vault_Open v1 g3 q4 hx8 (fun w hΦ => (hΦ.2))))) ?_
  rintro _ _ _ ⟨⟨g9, g10, q11, q12, q13⟩, rfl, rfl, rfl⟩
  refine RO.val (Wt.no rfl) rfl (PV.assign rfl) ?_
  refine RO.nil ?_
  replace h := bindS h
  obtain ⟨⟨v15, v16⟩, hx17, h⟩ := h
  dsimp only at h
  refine CW.reg ?_
  refine RO.eff (Wt.no rfl) rfl (EV.call (K := _) Try.call10 rfl (SpecK.callV (W_ref7_FirstRing 0 hx17))) ?_
  rintro _ _ _ ⟨q18, rfl, rfl, rfl⟩
  refine RO.val (Wt.no rfl) rfl (PV.move rfl) ?_
  refine RO.val (Wt.no rfl) rfl (PV.extract rfl rfl) ?_
  refine RO.val (Wt.no rfl) rfl (PV.extract rfl rfl) ?_
  refine RO.eff (Wt.no rfl) rfl (EV.allocB (B := S.t_Ring.enc S.Ring.z (hf [Hd.z])) Try.zeroValue33 rfl) ?_
  rintro _ _ _ ⟨g20, rfl, rfl, rfl⟩
  refine RO.eff (Wt.no rfl) rfl (EV.storeW (B := S.t_Ring.enc v15 (hf [q18])) 5 Try.TF33 rfl rfl rfl (by exact S.t_Ring.len v15 (hf [q18])) (by exact S.t_Ring.one v15 (hf [q18])) (S.t_Ring.len S.Ring.z (hf [Hd.z])) rfl) ?_
  rintro _ _ _ ⟨rfl, rfl, rfl⟩
  refine RO.val (Wt.no rfl) rfl (PV.assign rfl) ?_
  refine RO.nil ?_
  replace h := bindS h
  obtain ⟨⟨v21, v22⟩, hx23, h⟩ := h
  dsimp only at h
  refine CW.reg ?_
  refine RO.val (Wt.no rfl) rfl (PV.move rfl) ?_
  refine RO.val (Wt.no rfl) rfl (PV.loadM (l := S.t_Ring.enc v15 (hf [q18])) 5 Try.TF33 rfl rfl (cut_self (S.t_Ring.len _ _)) rfl (by decide)) ?_
  refine RO.eff (Wt.no rfl) rfl (EV.call (K := _) Try.call16 rfl (SpecK.call [3, 1, 2, 4] (fun x : Hd × Hd × (Nat → Hs) => [frame D, .blk g3 (S.t_ledger_Ledger.enc v22.l (hf [x.1])), rowE S.t_Deed 106 v22.l.l x.1, .blk g9 (S.t_vault_Vault.enc v22 (hf [(pq g3), x.2.1, (pq g10)])), mpE Value.string S.t_Bag g10 v22.bags x.2.2, .blk g20 (S.t_Ring.enc v15 (hf [q18]))]) (Outs.cons rfl (Outs.cons rfl (Outs.cons rfl (Outs.cons rfl Outs.nil)))) (fun _ => (Outs.cons rfl (Outs.cons rfl (Outs.cons rfl (Outs.cons rfl Outs.nil))))) (W_vault_Vault_SetRing ({ v6 with l := v7 } : S.vault_Vault) v15 g9 g3 g10 q13 q11 q12 q18 hx23 (fun w hΦ => ⟨(hΦ.1.2.2.2), (hΦ.1.2.1), (hΦ.1.2.2.1), (hΦ.2)⟩)))) ?_
  rintro _ _ _ ⟨⟨q24, q25, q26⟩, rfl, rfl, rfl⟩
  refine RO.nil ?_
  replace h := bindS h
  obtain ⟨⟨v28, v29⟩, hx30, h⟩ := h
  dsimp only at h
  refine CW.reg ?_
  refine RO.val (Wt.no rfl) rfl (PV.buildS (B := S.t_Bag.enc S.Bag.z (hf [Hd.z])) (xs := []) [] Try.BT40 rfl rfl rfl (by simp) trivial rfl) ?_
  refine RO.val (Wt.no rfl) rfl (PV.buildS (B := S.t_A8_int.enc (Vector.replicate 8 (0 : Int)) (hf [])) (xs := []) [] Try.BT37 rfl rfl rfl (by simp) trivial rfl) ?_
  refine RO.val (Wt.no rfl) rfl (PV.buildS (B := S.t_Dot.enc ({ Node := 0, N := 1 } : S.Dot) (hf [])) (xs := [.const (.int .i64 0), .const (.int .i64 1)]) [(0, 0, 1), (1, 1, 1)] Try.BT45 rfl rfl rfl (by decide) ⟨rfl, rfl, rfl, rfl, trivial⟩ rfl) ?_
  refine RO.eff (Wt.no rfl) rfl (EV.call (K := _) Try.call13 rfl (SpecK.callV (W_ref7_PutBag S.Bag.z (Vector.replicate 8 (0 : Int)) ({ Node := 0, N := 1 } : S.Dot) (⟨#[120]⟩ : ByteArray) Hd.z hx30 (fun w hm hΦ => (slR.nil _ _))))) ?_
  rintro _ _ _ ⟨q31, rfl, rfl, rfl⟩
  refine RO.val (Wt.no rfl) rfl (PV.move rfl) ?_
  refine RO.val (Wt.no rfl) rfl (PV.extract rfl rfl) ?_
  refine RO.val (Wt.no rfl) rfl (PV.extract rfl rfl) ?_
  refine RO.eff (Wt.no rfl) rfl (EV.allocB (B := S.t_Bag.enc S.Bag.z (hf [Hd.z])) Try.zeroValue40 rfl) ?_
  rintro _ _ _ ⟨g33, rfl, rfl, rfl⟩
  refine RO.eff (Wt.no rfl) rfl (EV.storeW (B := S.t_Bag.enc v28 (hf [q31])) 6 Try.TF40 rfl rfl rfl (by exact S.t_Bag.len v28 (hf [q31])) (by exact S.t_Bag.one v28 (hf [q31])) (S.t_Bag.len S.Bag.z (hf [Hd.z])) rfl) ?_
  rintro _ _ _ ⟨rfl, rfl, rfl⟩
  refine RO.val (Wt.no rfl) rfl (PV.assign rfl) ?_
  refine RO.nil ?_
  replace h := bindS h
  obtain ⟨e60, h, hk59⟩ := h
  refine CW.meet (X := S.ledger_Ledger × (List S.Deed) × S.vault_Vault × (List (ByteArray × S.Bag)) × S.Msg × Int × Hd × Hd × (Nat → Hs) × Hd × Hd × Hd × Nat) (fun x => [(0, .bool false), (1, .pointer (some ⟨g3, 0, none⟩)), (2, .pointer (some ⟨g9, 0, none⟩)), (7, .pointer (some ⟨x.2.2.2.2.2.2.2.2.2.2.2.2, 0, none⟩)), (8, .int .i64 x.2.2.2.2.2.1)]) (fun x => [frame D, .blk g3 (S.t_ledger_Ledger.enc ({ x.1 with l := x.2.1 } : S.ledger_Ledger) (hf [x.2.2.2.2.2.2.1])), rowE S.t_Deed 106 x.2.1 x.2.2.2.2.2.2.1, .blk g9 (S.t_vault_Vault.enc x.2.2.1 (hf [(pq g3), x.2.2.2.2.2.2.2.1, (pq g10)])), mpE Value.string S.t_Bag g10 x.2.2.2.1 x.2.2.2.2.2.2.2.2.1, .blk g20 (S.t_Ring.enc v15 (hf [q18])), .blk g33 (S.t_Bag.enc v28 (hf [q31])), .blk x.2.2.2.2.2.2.2.2.2.2.2.2 (S.t_Msg.enc x.2.2.2.2.1 (hf [x.2.2.2.2.2.2.2.2.2.1, x.2.2.2.2.2.2.2.2.2.2.1, x.2.2.2.2.2.2.2.2.2.2.2.1]))]) (fun x w => ((((((Φ w ∧ True) ∧ (rdS S.t_Deed w v1.l q4.sub)) ∧ (slR (tInt .i64) w v6.ring.Plan.Targets q11 ∧ mpR S.t_Bag w v6.bags q12 ∧ rdS S.t_Deed w v7.l q13.sub)) ∧ (slR (tInt .i64) w v15.Plan.Targets q18)) ∧ (rdS S.t_Deed w v22.l.l q24.sub ∧ slR (tInt .i64) w v22.ring.Plan.Targets q25 ∧ mpR S.t_Bag w v22.bags q26)) ∧ (slR S.t_Val w v28.Values q31)) ∧ (rdS S.t_Deed w x.2.1 x.2.2.2.2.2.2.1.sub ∧ slR (tInt .i64) w x.2.2.1.ring.Plan.Targets x.2.2.2.2.2.2.2.1 ∧ mpR S.t_Bag w x.2.2.2.1 x.2.2.2.2.2.2.2.2.1 ∧ slR S.t_Val w x.2.2.2.2.1.Bag.Values x.2.2.2.2.2.2.2.2.2.1 ∧ slR (tInt .i64) w x.2.2.2.2.1.Ring.Plan.Targets x.2.2.2.2.2.2.2.2.2.2.1 ∧ slR S.t_Claim w x.2.2.2.2.1.Claims x.2.2.2.2.2.2.2.2.2.2.2.1)) (fun x => S.law21_awake_j1 x.1 x.2.1 x.2.2.1 x.2.2.2.1 x.2.2.2.2.1 x.2.2.2.2.2.1 = some r) ?_ ?_
  · skip
    replace h := bindS h
    obtain ⟨v61, hx62, h⟩ := h
    replace h := bindS h
    obtain ⟨⟨v63, v64, v65⟩, hx66, h⟩ := h
    dsimp only at h
    refine CW.regionD (pickM [0, 5, 6] _) _ (by kernel_rfl) (St.of (by decide) rfl (fun _ h => h)) ?_
    refine RD.take 1 rfl (by kernel_rfl) (by kernel_rfl) (by kernel_rfl) (Wt.no rfl) rfl (PV.loadM (l := S.t_Bag.enc v28 (hf [q31])) 2 Try.TF40 rfl rfl (cut_self (S.t_Bag.len _ _)) rfl (by decide)) ?_
    refine RD.take 3 rfl (by kernel_rfl) (by kernel_rfl) (by kernel_rfl) (Wt.no rfl) rfl (PV.move rfl) ?_
    refine RD.two 0 8 (by kernel_rfl) ?_ ?_
    · skip
      refine Up.eff rfl (Wt.no rfl) rfl (EV.call (K := _) Try.call12 rfl (SpecK.callV (W_spot_Of (⟨#[107]⟩ : ByteArray) hx62))) ?_ ?_
      · rintro _ _ _ ⟨_, rfl, rfl, rfl⟩; exact St.of' (by decide) (L' := [0, 5, 6]) rfl (fun _ h => h)
      rintro _ _ _ ⟨_, rfl, rfl, rfl⟩
      refine RD.take 2 rfl (by kernel_rfl) (by kernel_rfl) (by kernel_rfl) (Wt.no rfl) rfl (PV.buildS (B := S.t_Msg.enc ({ S.Msg.z with Kind := 5, From := 0, To := 1, Seq := 4, Part := v61, Epoch := 1, Key := (⟨#[107]⟩ : ByteArray), Bag := v28 } : S.Msg) (hf [q31, Hd.z, Hd.z])) (xs := [.const (.int .i64 5), .const (.int .i64 0), .const (.int .i64 1), .tmp 27, .const (.int .i64 1), .const (.int .i64 4), .const (.string ⟨#[107]⟩), .tmp 28]) [(0, 0, 1), (1, 1, 1), (2, 2, 1), (6, 6, 1), (7, 7, 1), (3, 3, 1), (8, 8, 1), (9, 9, 9)] Try.BT53 rfl rfl rfl (by decide) ⟨rfl, rfl, rfl, rfl, rfl, rfl, rfl, rfl, rfl, rfl, rfl, rfl, rfl, rfl, rfl, rfl, trivial⟩ rfl) ?_
      refine RD.two 4 8 (by kernel_rfl) ?_ ?_
      · skip
        refine Up.eff rfl (Wt.no rfl) rfl (EV.call (K := _) Try.call17 rfl (SpecK.call [3, 1, 2, 4] (fun x : Hd × Hd × Hd × Hd × Hd × (Nat → Hs) => [frame D, .blk g3 (S.t_ledger_Ledger.enc v65.l (hf [x.2.2.2.1])), rowE S.t_Deed 106 v65.l.l x.2.2.2.1, .blk g9 (S.t_vault_Vault.enc v65 (hf [(pq g3), x.2.2.2.2.1, (pq g10)])), mpE Value.string S.t_Bag g10 v65.bags x.2.2.2.2.2, .blk g20 (S.t_Ring.enc v15 (hf [q18])), .blk g33 (S.t_Bag.enc v28 (hf [q31]))]) (Outs.cons rfl (Outs.cons rfl (Outs.cons rfl (Outs.cons rfl Outs.nil)))) (fun _ => (Outs.cons rfl (Outs.cons rfl (Outs.cons rfl (Outs.cons rfl Outs.nil))))) (W_take_Give ({ S.Msg.z with Kind := 5, From := 0, To := 1, Seq := 4, Part := v61, Epoch := 1, Key := (⟨#[107]⟩ : ByteArray), Bag := v28 } : S.Msg) v22 g9 g3 g10 q31 Hd.z Hd.z q24 q25 q26 hx66 (fun w hΦ => ⟨(hΦ.2), (slR.nil _ _), (slR.nil _ _), (hΦ.1.2.1), (hΦ.1.2.2.1), (hΦ.1.2.2.2)⟩)))) ?_ ?_
        · rintro _ _ _ ⟨⟨q67, q68, q69, q70, q71, q72⟩, rfl, rfl, rfl⟩; exact St.of' (by decide) (L' := [0, 5, 6]) rfl (fun _ h => h.1)
        rintro _ _ _ ⟨⟨q67, q68, q69, q70, q71, q72⟩, rfl, rfl, rfl⟩
        refine RD.take 5 rfl (by kernel_rfl) (by kernel_rfl) (by kernel_rfl) (Wt.no rfl) rfl (PV.move rfl) ?_
        refine RD.take 6 rfl (by kernel_rfl) (by kernel_rfl) (by kernel_rfl) (Wt.no rfl) rfl (PV.extract rfl rfl) ?_
        refine RD.take 7 rfl (by kernel_rfl) (by kernel_rfl) (by kernel_rfl) (Wt.no rfl) rfl (PV.extract rfl rfl) ?_
        refine RD.one 8 (by kernel_rfl) ?_
        refine Up.eff rfl (Wt.no rfl) rfl (EV.allocB (B := S.t_Msg.enc S.Msg.z (hf [Hd.z, Hd.z, Hd.z])) Try.zeroValue53 rfl) ?_ ?_
        · rintro _ _ _ ⟨g74, rfl, rfl, rfl⟩; exact St.of' (by decide) (L' := [0, 5, 6]) rfl (fun _ h => h.1)
        rintro _ _ _ ⟨g74, rfl, rfl, rfl⟩
        refine RD.one 9 (by kernel_rfl) ?_
        refine Up.eff rfl (Wt.no rfl) rfl (EV.storeW (B := S.t_Msg.enc v63 (hf [q67, q68, q69])) 7 Try.TF53 rfl rfl rfl (by exact S.t_Msg.len v63 (hf [q67, q68, q69])) (by exact S.t_Msg.one v63 (hf [q67, q68, q69])) (S.t_Msg.len S.Msg.z (hf [Hd.z, Hd.z, Hd.z])) rfl) ?_ ?_
        · rintro _ _ _ ⟨rfl, rfl, rfl⟩; exact St.of' (by decide) (L' := [0, 5, 6]) rfl (fun _ h => h.1)
        rintro _ _ _ ⟨rfl, rfl, rfl⟩
        refine RD.take 10 rfl (by kernel_rfl) (by kernel_rfl) (by kernel_rfl) (Wt.no rfl) rfl (PV.assign rfl) ?_
        refine RD.done (by kernel_rfl) ?_
        obtain rfl := Option.some.inj h
        refine QC.meetP (v65.l, v65.l.l, v65, v65.bags, v63, v64, q70, q71, q72, q67, q68, q69, g74) hk59 [0, 1, 2, 3, 4, 5, 6, 7] (by decide) (by exact ⟨rfl, rfl, rfl, rfl, rfl, trivial⟩) rfl (fun w hΦ => ⟨hΦ.1, (hΦ.2.2.2.2.1), (hΦ.2.2.2.2.2.1), (hΦ.2.2.2.2.2.2), (hΦ.2.1), (hΦ.2.2.1), (hΦ.2.2.2.1)⟩)
      · skip
        refine Up.eff rfl (Wt.no rfl) rfl (EV.allocB (B := S.t_Msg.enc S.Msg.z (hf [Hd.z, Hd.z, Hd.z])) Try.zeroValue53 rfl) ?_ ?_
        · rintro _ _ _ ⟨g74, rfl, rfl, rfl⟩; exact St.of' (by decide) (L' := [0, 5, 6]) rfl (fun _ h => h)
        rintro _ _ _ ⟨g74, rfl, rfl, rfl⟩
        refine RD.one 4 (by kernel_rfl) ?_
        refine Up.eff rfl (Wt.no rfl) rfl (EV.call (K := _) Try.call17 rfl (SpecK.call [3, 1, 2, 4] (fun x : Hd × Hd × Hd × Hd × Hd × (Nat → Hs) => [frame D, .blk g3 (S.t_ledger_Ledger.enc v65.l (hf [x.2.2.2.1])), rowE S.t_Deed 106 v65.l.l x.2.2.2.1, .blk g9 (S.t_vault_Vault.enc v65 (hf [(pq g3), x.2.2.2.2.1, (pq g10)])), mpE Value.string S.t_Bag g10 v65.bags x.2.2.2.2.2, .blk g20 (S.t_Ring.enc v15 (hf [q18])), .blk g33 (S.t_Bag.enc v28 (hf [q31])), .blk g74 (S.t_Msg.enc S.Msg.z (hf [Hd.z, Hd.z, Hd.z]))]) (Outs.cons rfl (Outs.cons rfl (Outs.cons rfl (Outs.cons rfl Outs.nil)))) (fun _ => (Outs.cons rfl (Outs.cons rfl (Outs.cons rfl (Outs.cons rfl Outs.nil))))) (W_take_Give ({ S.Msg.z with Kind := 5, From := 0, To := 1, Seq := 4, Part := v61, Epoch := 1, Key := (⟨#[107]⟩ : ByteArray), Bag := v28 } : S.Msg) v22 g9 g3 g10 q31 Hd.z Hd.z q24 q25 q26 hx66 (fun w hΦ => ⟨(hΦ.2), (slR.nil _ _), (slR.nil _ _), (hΦ.1.2.1), (hΦ.1.2.2.1), (hΦ.1.2.2.2)⟩)))) ?_ ?_
        · rintro _ _ _ ⟨⟨q67, q68, q69, q70, q71, q72⟩, rfl, rfl, rfl⟩; exact St.of' (by decide) (L' := [0, 5, 6]) rfl (fun _ h => h.1)
        rintro _ _ _ ⟨⟨q67, q68, q69, q70, q71, q72⟩, rfl, rfl, rfl⟩
        refine RD.take 5 rfl (by kernel_rfl) (by kernel_rfl) (by kernel_rfl) (Wt.no rfl) rfl (PV.move rfl) ?_
        refine RD.take 6 rfl (by kernel_rfl) (by kernel_rfl) (by kernel_rfl) (Wt.no rfl) rfl (PV.extract rfl rfl) ?_
        refine RD.take 7 rfl (by kernel_rfl) (by kernel_rfl) (by kernel_rfl) (Wt.no rfl) rfl (PV.extract rfl rfl) ?_
        refine RD.one 9 (by kernel_rfl) ?_
        refine Up.eff rfl (Wt.no rfl) rfl (EV.storeW (B := S.t_Msg.enc v63 (hf [q67, q68, q69])) 7 Try.TF53 rfl rfl rfl (by exact S.t_Msg.len v63 (hf [q67, q68, q69])) (by exact S.t_Msg.one v63 (hf [q67, q68, q69])) (S.t_Msg.len S.Msg.z (hf [Hd.z, Hd.z, Hd.z])) rfl) ?_ ?_
        · rintro _ _ _ ⟨rfl, rfl, rfl⟩; exact St.of' (by decide) (L' := [0, 5, 6]) rfl (fun _ h => h.1)
        rintro _ _ _ ⟨rfl, rfl, rfl⟩
        refine RD.take 10 rfl (by kernel_rfl) (by kernel_rfl) (by kernel_rfl) (Wt.no rfl) rfl (PV.assign rfl) ?_
        refine RD.done (by kernel_rfl) ?_
        obtain rfl := Option.some.inj h
        refine QC.meetP (v65.l, v65.l.l, v65, v65.bags, v63, v64, q70, q71, q72, q67, q68, q69, g74) hk59 [0, 1, 2, 3, 4, 5, 6, 7] (by decide) (by exact ⟨rfl, rfl, rfl, rfl, rfl, trivial⟩) rfl (fun w hΦ => ⟨hΦ.1, (hΦ.2.2.2.2.1), (hΦ.2.2.2.2.2.1), (hΦ.2.2.2.2.2.2), (hΦ.2.1), (hΦ.2.2.1), (hΦ.2.2.2.1)⟩)
    · skip
      refine Up.eff rfl (Wt.no rfl) rfl (EV.allocB (B := S.t_Msg.enc S.Msg.z (hf [Hd.z, Hd.z, Hd.z])) Try.zeroValue53 rfl) ?_ ?_
      · rintro _ _ _ ⟨g74, rfl, rfl, rfl⟩; exact St.of' (by decide) (L' := [0, 5, 6]) rfl (fun _ h => h)
      rintro _ _ _ ⟨g74, rfl, rfl, rfl⟩
      refine RD.one 0 (by kernel_rfl) ?_
      refine Up.eff rfl (Wt.no rfl) rfl (EV.call (K := _) Try.call12 rfl (SpecK.callV (W_spot_Of (⟨#[107]⟩ : ByteArray) hx62))) ?_ ?_
      · rintro _ _ _ ⟨_, rfl, rfl, rfl⟩; exact St.of' (by decide) (L' := [0, 5, 6]) rfl (fun _ h => h)
      rintro _ _ _ ⟨_, rfl, rfl, rfl⟩
      refine RD.take 2 rfl (by kernel_rfl) (by kernel_rfl) (by kernel_rfl) (Wt.no rfl) rfl (PV.buildS (B := S.t_Msg.enc ({ S.Msg.z with Kind := 5, From := 0, To := 1, Seq := 4, Part := v61, Epoch := 1, Key := (⟨#[107]⟩ : ByteArray), Bag := v28 } : S.Msg) (hf [q31, Hd.z, Hd.z])) (xs := [.const (.int .i64 5), .const (.int .i64 0), .const (.int .i64 1), .tmp 27, .const (.int .i64 1), .const (.int .i64 4), .const (.string ⟨#[107]⟩), .tmp 28]) [(0, 0, 1), (1, 1, 1), (2, 2, 1), (6, 6, 1), (7, 7, 1), (3, 3, 1), (8, 8, 1), (9, 9, 9)] Try.BT53 rfl rfl rfl (by decide) ⟨rfl, rfl, rfl, rfl, rfl, rfl, rfl, rfl, rfl, rfl, rfl, rfl, rfl, rfl, rfl, rfl, trivial⟩ rfl) ?_
      refine RD.one 4 (by kernel_rfl) ?_
      refine Up.eff rfl (Wt.no rfl) rfl (EV.call (K := _) Try.call17 rfl (SpecK.call [3, 1, 2, 4] (fun x : Hd × Hd × Hd × Hd × Hd × (Nat → Hs) => [frame D, .blk g3 (S.t_ledger_Ledger.enc v65.l (hf [x.2.2.2.1])), rowE S.t_Deed 106 v65.l.l x.2.2.2.1, .blk g9 (S.t_vault_Vault.enc v65 (hf [(pq g3), x.2.2.2.2.1, (pq g10)])), mpE Value.string S.t_Bag g10 v65.bags x.2.2.2.2.2, .blk g20 (S.t_Ring.enc v15 (hf [q18])), .blk g33 (S.t_Bag.enc v28 (hf [q31])), .blk g74 (S.t_Msg.enc S.Msg.z (hf [Hd.z, Hd.z, Hd.z]))]) (Outs.cons rfl (Outs.cons rfl (Outs.cons rfl (Outs.cons rfl Outs.nil)))) (fun _ => (Outs.cons rfl (Outs.cons rfl (Outs.cons rfl (Outs.cons rfl Outs.nil))))) (W_take_Give ({ S.Msg.z with Kind := 5, From := 0, To := 1, Seq := 4, Part := v61, Epoch := 1, Key := (⟨#[107]⟩ : ByteArray), Bag := v28 } : S.Msg) v22 g9 g3 g10 q31 Hd.z Hd.z q24 q25 q26 hx66 (fun w hΦ => ⟨(hΦ.2), (slR.nil _ _), (slR.nil _ _), (hΦ.1.2.1), (hΦ.1.2.2.1), (hΦ.1.2.2.2)⟩)))) ?_ ?_
      · rintro _ _ _ ⟨⟨q67, q68, q69, q70, q71, q72⟩, rfl, rfl, rfl⟩; exact St.of' (by decide) (L' := [0, 5, 6]) rfl (fun _ h => h.1)
      rintro _ _ _ ⟨⟨q67, q68, q69, q70, q71, q72⟩, rfl, rfl, rfl⟩
      refine RD.take 5 rfl (by kernel_rfl) (by kernel_rfl) (by kernel_rfl) (Wt.no rfl) rfl (PV.move rfl) ?_
      refine RD.take 6 rfl (by kernel_rfl) (by kernel_rfl) (by kernel_rfl) (Wt.no rfl) rfl (PV.extract rfl rfl) ?_
      refine RD.take 7 rfl (by kernel_rfl) (by kernel_rfl) (by kernel_rfl) (Wt.no rfl) rfl (PV.extract rfl rfl) ?_
      refine RD.one 9 (by kernel_rfl) ?_
      refine Up.eff rfl (Wt.no rfl) rfl (EV.storeW (B := S.t_Msg.enc v63 (hf [q67, q68, q69])) 7 Try.TF53 rfl rfl rfl (by exact S.t_Msg.len v63 (hf [q67, q68, q69])) (by exact S.t_Msg.one v63 (hf [q67, q68, q69])) (S.t_Msg.len S.Msg.z (hf [Hd.z, Hd.z, Hd.z])) rfl) ?_ ?_
      · rintro _ _ _ ⟨rfl, rfl, rfl⟩; exact St.of' (by decide) (L' := [0, 5, 6]) rfl (fun _ h => h.1)
      rintro _ _ _ ⟨rfl, rfl, rfl⟩
      refine RD.take 10 rfl (by kernel_rfl) (by kernel_rfl) (by kernel_rfl) (Wt.no rfl) rfl (PV.assign rfl) ?_
      refine RD.done (by kernel_rfl) ?_
      obtain rfl := Option.some.inj h
      refine QC.meetP (v65.l, v65.l.l, v65, v65.bags, v63, v64, q70, q71, q72, q67, q68, q69, g74) hk59 [0, 1, 2, 3, 4, 5, 6, 7] (by decide) (by exact ⟨rfl, rfl, rfl, rfl, rfl, trivial⟩) rfl (fun w hΦ => ⟨hΦ.1, (hΦ.2.2.2.2.1), (hΦ.2.2.2.2.2.1), (hΦ.2.2.2.2.2.2), (hΦ.2.1), (hΦ.2.2.1), (hΦ.2.2.2.1)⟩)
  · rintro ⟨v35, v36, v38, v40, v43, v47, q37, q39, q41, q44, q45, q46, g42⟩ h
    try dsimp only at h ⊢
    unfold S.law21_awake_j1 at h
    by_cases hb48 : (decide (v47 = 0)) = true
    · replace h := iteT hb48 h
      by_cases hb49 : (decide (v43.Kind = 6)) = true
      · replace h := iteT hb49 h
        by_cases hb50 : (decide (v43.Seq = 4)) = true
        · replace h := iteT hb50 h
          by_cases hb51 : (decide (v43.To = 0)) = true
          · replace h := iteT hb51 h
            replace h := bindS h
            obtain ⟨v52, hx53, h⟩ := h
            by_cases hb54 : (decide (v52 = 2)) = true
            · replace h := iteT hb54 h
              replace h := bindS h
              obtain ⟨v55, hx56, h⟩ := h
              refine CW.reg ?_
              refine RO.val (Wt.no rfl) rfl (PV.move rfl) ?_
              refine RO.val (Wt.no rfl) rfl (PV.eql rfl rfl) ?_
              refine RO.val (Wt.no rfl) rfl ((PV.move rfl).to (congrArg Value.bool hb48)) ?_
              refine RO.val (Wt.yes rfl rfl rfl rfl) rfl (PV.fieldAddr Try.fa53_0 rfl) ?_
              refine RO.val (Wt.yes rfl rfl rfl rfl) rfl (PV.loadM (l := [.int .i64 v43.Kind]) 7 Try.TF3 rfl rfl (cut_Msg_Kind _ _) rfl (by decide)) ?_
              refine RO.val (Wt.yes rfl rfl rfl rfl) rfl (PV.eql rfl rfl) ?_
              refine RO.val (Wt.no rfl) rfl (PV.pickT rfl rfl) ?_
              refine RO.val (Wt.no rfl) rfl ((PV.move rfl).to (congrArg Value.bool hb49)) ?_
              refine RO.val (Wt.yes rfl rfl rfl rfl) rfl (PV.fieldAddr Try.fa53_3 rfl) ?_
              refine RO.val (Wt.yes rfl rfl rfl rfl) rfl (PV.loadM (l := [.int .i64 v43.Seq]) 7 Try.TF3 rfl rfl (cut_Msg_Seq _ _) rfl (by decide)) ?_
              refine RO.val (Wt.yes rfl rfl rfl rfl) rfl (PV.eql rfl rfl) ?_
              refine RO.val (Wt.no rfl) rfl (PV.pickT rfl rfl) ?_
              refine RO.val (Wt.no rfl) rfl ((PV.move rfl).to (congrArg Value.bool hb50)) ?_
              refine RO.val (Wt.yes rfl rfl rfl rfl) rfl (PV.fieldAddr Try.fa53_2 rfl) ?_
              refine RO.val (Wt.yes rfl rfl rfl rfl) rfl (PV.loadM (l := [.int .i64 v43.To]) 7 Try.TF3 rfl rfl (cut_Msg_To _ _) rfl (by decide)) ?_
              refine RO.val (Wt.yes rfl rfl rfl rfl) rfl (PV.eql rfl rfl) ?_
              refine RO.val (Wt.no rfl) rfl (PV.pickT rfl rfl) ?_
              refine RO.val (Wt.no rfl) rfl ((PV.move rfl).to (congrArg Value.bool hb51)) ?_
              refine RO.val (Wt.yes rfl rfl rfl rfl) rfl (PV.move rfl) ?_
              refine RO.eff (Wt.yes rfl rfl rfl rfl) rfl (EV.call (K := _) Try.call41 rfl (SpecK.call [1, 2] (fun x : Unit => [frame D, .blk g3 (S.t_ledger_Ledger.enc ({ v35 with l := v36 } : S.ledger_Ledger) (hf [q37])), rowE S.t_Deed 106 v36 q37, .blk g9 (S.t_vault_Vault.enc v38 (hf [(pq g3), q39, (pq g10)])), mpE Value.string S.t_Bag g10 v40 q41, .blk g20 (S.t_Ring.enc v15 (hf [q18])), .blk g33 (S.t_Bag.enc v28 (hf [q31])), .blk g42 (S.t_Msg.enc v43 (hf [q44, q45, q46]))]) (Outs.cons rfl (Outs.cons rfl Outs.nil)) (fun _ => (Outs.cons rfl (Outs.cons rfl Outs.nil))) (W_ledger_Ledger_Sure ({ v35 with l := v36 } : S.ledger_Ledger) g3 q37 hx53 (fun w hm hΦ => (hΦ.2.1))))) ?_
              rintro _ _ _ ⟨_, rfl, rfl, rfl⟩
              refine RO.val (Wt.yes rfl rfl rfl rfl) rfl (PV.eql rfl rfl) ?_
              refine RO.val (Wt.no rfl) rfl (PV.pickT rfl rfl) ?_
              refine RO.val (Wt.no rfl) rfl ((PV.move rfl).to (congrArg Value.bool hb54)) ?_
              refine RO.val (Wt.yes rfl rfl rfl rfl) rfl (PV.move rfl) ?_
              refine RO.eff (Wt.yes rfl rfl rfl rfl) rfl (EV.call (K := _) Try.call20 rfl (SpecK.call [3, 1, 2, 4] (fun x : Hd => [frame D, .blk g3 (S.t_ledger_Ledger.enc ({ v35 with l := v36 } : S.ledger_Ledger) (hf [q37])), rowE S.t_Deed 106 v36 q37, .blk g9 (S.t_vault_Vault.enc v38 (hf [(pq g3), q39, (pq g10)])), mpE Value.string S.t_Bag g10 v40 q41, .blk g20 (S.t_Ring.enc v15 (hf [q18])), .blk g33 (S.t_Bag.enc v28 (hf [q31])), .blk g42 (S.t_Msg.enc v43 (hf [q44, q45, q46]))]) (Outs.cons rfl (Outs.cons rfl (Outs.cons rfl (Outs.cons rfl Outs.nil)))) (fun _ => (Outs.cons rfl (Outs.cons rfl (Outs.cons rfl (Outs.cons rfl Outs.nil))))) (W_vault_Vault_Bag ({ v38 with l := ({ v35 with l := v36 } : S.ledger_Ledger), bags := v40 } : S.vault_Vault) (⟨#[107]⟩ : ByteArray) g9 g3 g10 q37 q39 q41 hx56 (fun w hm hΦ => ⟨(hΦ.2.1), (hΦ.2.2.1), (hΦ.2.2.2.1)⟩)))) ?_
              rintro _ _ _ ⟨q57, rfl, rfl, rfl⟩
              refine RO.val (Wt.yes rfl rfl rfl rfl) rfl (PV.fieldV (off := 0 + 8) (l := [.slice q57.a v55.Values.length q57.cap]) Try.underlying40 rfl Try.TF38 rfl (cut_Bag_Values _ _) rfl (by decide)) ?_
              refine RO.val (Wt.yes rfl rfl rfl rfl) rfl (PV.lenS Try.underlying38 rfl) ?_
              refine RO.val (Wt.yes rfl rfl rfl rfl) rfl (PV.eql rfl rfl) ?_
              refine RO.val (Wt.no rfl) rfl (PV.pickT rfl rfl) ?_
              refine RO.val (Wt.no rfl) rfl (PV.assign rfl) ?_
              refine RO.nil ?_
              refine CW.ret ?_
              obtain rfl := Option.some.inj h
              exact retP1 (Ψ := Φ) [0] (by decide) rfl (RV.tmp rfl) rfl (fun w hΦ => hΦ.1.1.1.1.1.1.1.1) ⟨(), rfl, rfl, rfl⟩
            · replace hb54 := Bool.eq_false_iff.2 hb54
              replace h := iteF hb54 h
              refine CW.reg ?_
              refine RO.val (Wt.no rfl) rfl (PV.move rfl) ?_
              refine RO.val (Wt.no rfl) rfl (PV.eql rfl rfl) ?_
              refine RO.val (Wt.no rfl) rfl ((PV.move rfl).to (congrArg Value.bool hb48)) ?_
              refine RO.val (Wt.yes rfl rfl rfl rfl) rfl (PV.fieldAddr Try.fa53_0 rfl) ?_
              refine RO.val (Wt.yes rfl rfl rfl rfl) rfl (PV.loadM (l := [.int .i64 v43.Kind]) 7 Try.TF3 rfl rfl (cut_Msg_Kind _ _) rfl (by decide)) ?_
              refine RO.val (Wt.yes rfl rfl rfl rfl) rfl (PV.eql rfl rfl) ?_
              refine RO.val (Wt.no rfl) rfl (PV.pickT rfl rfl) ?_
              refine RO.val (Wt.no rfl) rfl ((PV.move rfl).to (congrArg Value.bool hb49)) ?_
              refine RO.val (Wt.yes rfl rfl rfl rfl) rfl (PV.fieldAddr Try.fa53_3 rfl) ?_
              refine RO.val (Wt.yes rfl rfl rfl rfl) rfl (PV.loadM (l := [.int .i64 v43.Seq]) 7 Try.TF3 rfl rfl (cut_Msg_Seq _ _) rfl (by decide)) ?_
              refine RO.val (Wt.yes rfl rfl rfl rfl) rfl (PV.eql rfl rfl) ?_
              refine RO.val (Wt.no rfl) rfl (PV.pickT rfl rfl) ?_
              refine RO.val (Wt.no rfl) rfl ((PV.move rfl).to (congrArg Value.bool hb50)) ?_
              refine RO.val (Wt.yes rfl rfl rfl rfl) rfl (PV.fieldAddr Try.fa53_2 rfl) ?_
              refine RO.val (Wt.yes rfl rfl rfl rfl) rfl (PV.loadM (l := [.int .i64 v43.To]) 7 Try.TF3 rfl rfl (cut_Msg_To _ _) rfl (by decide)) ?_
              refine RO.val (Wt.yes rfl rfl rfl rfl) rfl (PV.eql rfl rfl) ?_
              refine RO.val (Wt.no rfl) rfl (PV.pickT rfl rfl) ?_
              refine RO.val (Wt.no rfl) rfl ((PV.move rfl).to (congrArg Value.bool hb51)) ?_
              refine RO.val (Wt.yes rfl rfl rfl rfl) rfl (PV.move rfl) ?_
              refine RO.eff (Wt.yes rfl rfl rfl rfl) rfl (EV.call (K := _) Try.call41 rfl (SpecK.call [1, 2] (fun x : Unit => [frame D, .blk g3 (S.t_ledger_Ledger.enc ({ v35 with l := v36 } : S.ledger_Ledger) (hf [q37])), rowE S.t_Deed 106 v36 q37, .blk g9 (S.t_vault_Vault.enc v38 (hf [(pq g3), q39, (pq g10)])), mpE Value.string S.t_Bag g10 v40 q41, .blk g20 (S.t_Ring.enc v15 (hf [q18])), .blk g33 (S.t_Bag.enc v28 (hf [q31])), .blk g42 (S.t_Msg.enc v43 (hf [q44, q45, q46]))]) (Outs.cons rfl (Outs.cons rfl Outs.nil)) (fun _ => (Outs.cons rfl (Outs.cons rfl Outs.nil))) (W_ledger_Ledger_Sure ({ v35 with l := v36 } : S.ledger_Ledger) g3 q37 hx53 (fun w hm hΦ => (hΦ.2.1))))) ?_
              rintro _ _ _ ⟨_, rfl, rfl, rfl⟩
              refine RO.val (Wt.yes rfl rfl rfl rfl) rfl (PV.eql rfl rfl) ?_
              refine RO.val (Wt.no rfl) rfl (PV.pickT rfl rfl) ?_
              refine RO.val (Wt.no rfl) rfl ((PV.move rfl).to (congrArg Value.bool hb54)) ?_
              refine RO.skip (Un.mk rfl rfl rfl rfl) rfl ?_
              refine RO.skip (Un.mk rfl rfl rfl rfl) rfl ?_
              refine RO.skip (Un.mk rfl rfl rfl rfl) rfl ?_
              refine RO.skip (Un.mk rfl rfl rfl rfl) rfl ?_
              refine RO.skip (Un.mk rfl rfl rfl rfl) rfl ?_
              refine RO.val (Wt.no rfl) rfl (PV.pickF rfl rfl) ?_
              refine RO.val (Wt.no rfl) rfl (PV.assign rfl) ?_
              refine RO.nil ?_
              refine CW.ret ?_
              obtain rfl := Option.some.inj h
              exact retP1 (Ψ := Φ) [0] (by decide) rfl (RV.tmp rfl) rfl (fun w hΦ => hΦ.1.1.1.1.1.1.1) ⟨(), rfl, rfl, rfl⟩
          · replace hb51 := Bool.eq_false_iff.2 hb51
            replace h := iteF hb51 h
            refine CW.reg ?_
            refine RO.val (Wt.no rfl) rfl (PV.move rfl) ?_
            refine RO.val (Wt.no rfl) rfl (PV.eql rfl rfl) ?_
            refine RO.val (Wt.no rfl) rfl ((PV.move rfl).to (congrArg Value.bool hb48)) ?_
            refine RO.val (Wt.yes rfl rfl rfl rfl) rfl (PV.fieldAddr Try.fa53_0 rfl) ?_
            refine RO.val (Wt.yes rfl rfl rfl rfl) rfl (PV.loadM (l := [.int .i64 v43.Kind]) 7 Try.TF3 rfl rfl (cut_Msg_Kind _ _) rfl (by decide)) ?_
            refine RO.val (Wt.yes rfl rfl rfl rfl) rfl (PV.eql rfl rfl) ?_
            refine RO.val (Wt.no rfl) rfl (PV.pickT rfl rfl) ?_
            refine RO.val (Wt.no rfl) rfl ((PV.move rfl).to (congrArg Value.bool hb49)) ?_
            refine RO.val (Wt.yes rfl rfl rfl rfl) rfl (PV.fieldAddr Try.fa53_3 rfl) ?_
            refine RO.val (Wt.yes rfl rfl rfl rfl) rfl (PV.loadM (l := [.int .i64 v43.Seq]) 7 Try.TF3 rfl rfl (cut_Msg_Seq _ _) rfl (by decide)) ?_
            refine RO.val (Wt.yes rfl rfl rfl rfl) rfl (PV.eql rfl rfl) ?_
            refine RO.val (Wt.no rfl) rfl (PV.pickT rfl rfl) ?_
            refine RO.val (Wt.no rfl) rfl ((PV.move rfl).to (congrArg Value.bool hb50)) ?_
            refine RO.val (Wt.yes rfl rfl rfl rfl) rfl (PV.fieldAddr Try.fa53_2 rfl) ?_
            refine RO.val (Wt.yes rfl rfl rfl rfl) rfl (PV.loadM (l := [.int .i64 v43.To]) 7 Try.TF3 rfl rfl (cut_Msg_To _ _) rfl (by decide)) ?_
            refine RO.val (Wt.yes rfl rfl rfl rfl) rfl (PV.eql rfl rfl) ?_
            refine RO.val (Wt.no rfl) rfl (PV.pickT rfl rfl) ?_
            refine RO.val (Wt.no rfl) rfl ((PV.move rfl).to (congrArg Value.bool hb51)) ?_
            refine RO.skip (Un.mk rfl rfl rfl rfl) rfl ?_
            refine RO.skip (Un.mk rfl rfl rfl rfl) rfl ?_
            refine RO.skip (Un.mk rfl rfl rfl rfl) rfl ?_
            refine RO.val (Wt.no rfl) rfl (PV.pickF rfl rfl) ?_
            refine RO.val (Wt.no rfl) rfl (PV.move rfl) ?_
            refine RO.skip (Un.mk rfl rfl rfl rfl) rfl ?_
            refine RO.skip (Un.mk rfl rfl rfl rfl) rfl ?_
            refine RO.skip (Un.mk rfl rfl rfl rfl) rfl ?_
            refine RO.skip (Un.mk rfl rfl rfl rfl) rfl ?_
            refine RO.skip (Un.mk rfl rfl rfl rfl) rfl ?_
            refine RO.val (Wt.no rfl) rfl (PV.pickF rfl rfl) ?_
            refine RO.val (Wt.no rfl) rfl (PV.assign rfl) ?_
            refine RO.nil ?_
            refine CW.ret ?_
            obtain rfl := Option.some.inj h
            exact retP1 (Ψ := Φ) [0] (by decide) rfl (RV.tmp rfl) rfl (fun w hΦ => hΦ.1.1.1.1.1.1.1) ⟨(), rfl, rfl, rfl⟩
        · replace hb50 := Bool.eq_false_iff.2 hb50
          replace h := iteF hb50 h
          refine CW.reg ?_
          refine RO.val (Wt.no rfl) rfl (PV.move rfl) ?_
          refine RO.val (Wt.no rfl) rfl (PV.eql rfl rfl) ?_
          refine RO.val (Wt.no rfl) rfl ((PV.move rfl).to (congrArg Value.bool hb48)) ?_
          refine RO.val (Wt.yes rfl rfl rfl rfl) rfl (PV.fieldAddr Try.fa53_0 rfl) ?_
          refine RO.val (Wt.yes rfl rfl rfl rfl) rfl (PV.loadM (l := [.int .i64 v43.Kind]) 7 Try.TF3 rfl rfl (cut_Msg_Kind _ _) rfl (by decide)) ?_
          refine RO.val (Wt.yes rfl rfl rfl rfl) rfl (PV.eql rfl rfl) ?_
          refine RO.val (Wt.no rfl) rfl (PV.pickT rfl rfl) ?_
          refine RO.val (Wt.no rfl) rfl ((PV.move rfl).to (congrArg Value.bool hb49)) ?_
          refine RO.val (Wt.yes rfl rfl rfl rfl) rfl (PV.fieldAddr Try.fa53_3 rfl) ?_
          refine RO.val (Wt.yes rfl rfl rfl rfl) rfl (PV.loadM (l := [.int .i64 v43.Seq]) 7 Try.TF3 rfl rfl (cut_Msg_Seq _ _) rfl (by decide)) ?_
          refine RO.val (Wt.yes rfl rfl rfl rfl) rfl (PV.eql rfl rfl) ?_
          refine RO.val (Wt.no rfl) rfl (PV.pickT rfl rfl) ?_
          refine RO.val (Wt.no rfl) rfl ((PV.move rfl).to (congrArg Value.bool hb50)) ?_
          refine RO.skip (Un.mk rfl rfl rfl rfl) rfl ?_
          refine RO.skip (Un.mk rfl rfl rfl rfl) rfl ?_
          refine RO.skip (Un.mk rfl rfl rfl rfl) rfl ?_
          refine RO.val (Wt.no rfl) rfl (PV.pickF rfl rfl) ?_
          refine RO.val (Wt.no rfl) rfl (PV.move rfl) ?_
          refine RO.skip (Un.mk rfl rfl rfl rfl) rfl ?_
          refine RO.skip (Un.mk rfl rfl rfl rfl) rfl ?_
          refine RO.skip (Un.mk rfl rfl rfl rfl) rfl ?_
          refine RO.val (Wt.no rfl) rfl (PV.pickF rfl rfl) ?_
          refine RO.val (Wt.no rfl) rfl (PV.move rfl) ?_
          refine RO.skip (Un.mk rfl rfl rfl rfl) rfl ?_
          refine RO.skip (Un.mk rfl rfl rfl rfl) rfl ?_
          refine RO.skip (Un.mk rfl rfl rfl rfl) rfl ?_
          refine RO.skip (Un.mk rfl rfl rfl rfl) rfl ?_
          refine RO.skip (Un.mk rfl rfl rfl rfl) rfl ?_
          refine RO.val (Wt.no rfl) rfl (PV.pickF rfl rfl) ?_
          refine RO.val (Wt.no rfl) rfl (PV.assign rfl) ?_
          refine RO.nil ?_
          refine CW.ret ?_
          obtain rfl := Option.some.inj h
          exact retP1 (Ψ := Φ) [0] (by decide) rfl (RV.tmp rfl) rfl (fun w hΦ => hΦ.1.1.1.1.1.1.1) ⟨(), rfl, rfl, rfl⟩
      · replace hb49 := Bool.eq_false_iff.2 hb49
        replace h := iteF hb49 h
        refine CW.reg ?_
        refine RO.val (Wt.no rfl) rfl (PV.move rfl) ?_
        refine RO.val (Wt.no rfl) rfl (PV.eql rfl rfl) ?_
        refine RO.val (Wt.no rfl) rfl ((PV.move rfl).to (congrArg Value.bool hb48)) ?_
        refine RO.val (Wt.yes rfl rfl rfl rfl) rfl (PV.fieldAddr Try.fa53_0 rfl) ?_
        refine RO.val (Wt.yes rfl rfl rfl rfl) rfl (PV.loadM (l := [.int .i64 v43.Kind]) 7 Try.TF3 rfl rfl (cut_Msg_Kind _ _) rfl (by decide)) ?_
        refine RO.val (Wt.yes rfl rfl rfl rfl) rfl (PV.eql rfl rfl) ?_
        refine RO.val (Wt.no rfl) rfl (PV.pickT rfl rfl) ?_
        refine RO.val (Wt.no rfl) rfl ((PV.move rfl).to (congrArg Value.bool hb49)) ?_
        refine RO.skip (Un.mk rfl rfl rfl rfl) rfl ?_
        refine RO.skip (Un.mk rfl rfl rfl rfl) rfl ?_
        refine RO.skip (Un.mk rfl rfl rfl rfl) rfl ?_
        refine RO.val (Wt.no rfl) rfl (PV.pickF rfl rfl) ?_
        refine RO.val (Wt.no rfl) rfl (PV.move rfl) ?_
        refine RO.skip (Un.mk rfl rfl rfl rfl) rfl ?_
        refine RO.skip (Un.mk rfl rfl rfl rfl) rfl ?_
        refine RO.skip (Un.mk rfl rfl rfl rfl) rfl ?_
        refine RO.val (Wt.no rfl) rfl (PV.pickF rfl rfl) ?_
        refine RO.val (Wt.no rfl) rfl (PV.move rfl) ?_
        refine RO.skip (Un.mk rfl rfl rfl rfl) rfl ?_
        refine RO.skip (Un.mk rfl rfl rfl rfl) rfl ?_
        refine RO.skip (Un.mk rfl rfl rfl rfl) rfl ?_
        refine RO.val (Wt.no rfl) rfl (PV.pickF rfl rfl) ?_
        refine RO.val (Wt.no rfl) rfl (PV.move rfl) ?_
        refine RO.skip (Un.mk rfl rfl rfl rfl) rfl ?_
        refine RO.skip (Un.mk rfl rfl rfl rfl) rfl ?_
        refine RO.skip (Un.mk rfl rfl rfl rfl) rfl ?_
        refine RO.skip (Un.mk rfl rfl rfl rfl) rfl ?_
        refine RO.skip (Un.mk rfl rfl rfl rfl) rfl ?_
        refine RO.val (Wt.no rfl) rfl (PV.pickF rfl rfl) ?_
        refine RO.val (Wt.no rfl) rfl (PV.assign rfl) ?_
        refine RO.nil ?_
        refine CW.ret ?_
        obtain rfl := Option.some.inj h
        exact retP1 (Ψ := Φ) [0] (by decide) rfl (RV.tmp rfl) rfl (fun w hΦ => hΦ.1.1.1.1.1.1.1) ⟨(), rfl, rfl, rfl⟩
    · replace hb48 := Bool.eq_false_iff.2 hb48
      replace h := iteF hb48 h
      refine CW.reg ?_
      refine RO.val (Wt.no rfl) rfl (PV.move rfl) ?_
      refine RO.val (Wt.no rfl) rfl (PV.eql rfl rfl) ?_
      refine RO.val (Wt.no rfl) rfl ((PV.move rfl).to (congrArg Value.bool hb48)) ?_
      refine RO.skip (Un.mk rfl rfl rfl rfl) rfl ?_
      refine RO.skip (Un.mk rfl rfl rfl rfl) rfl ?_
      refine RO.skip (Un.mk rfl rfl rfl rfl) rfl ?_
      refine RO.val (Wt.no rfl) rfl (PV.pickF rfl rfl) ?_
      refine RO.val (Wt.no rfl) rfl (PV.move rfl) ?_
      refine RO.skip (Un.mk rfl rfl rfl rfl) rfl ?_
      refine RO.skip (Un.mk rfl rfl rfl rfl) rfl ?_
      refine RO.skip (Un.mk rfl rfl rfl rfl) rfl ?_
      refine RO.val (Wt.no rfl) rfl (PV.pickF rfl rfl) ?_
      refine RO.val (Wt.no rfl) rfl (PV.move rfl) ?_
      refine RO.skip (Un.mk rfl rfl rfl rfl) rfl ?_
      refine RO.skip (Un.mk rfl rfl rfl rfl) rfl ?_
      refine RO.skip (Un.mk rfl rfl rfl rfl) rfl ?_
      refine RO.val (Wt.no rfl) rfl (PV.pickF rfl rfl) ?_
      refine RO.val (Wt.no rfl) rfl (PV.move rfl) ?_
      refine RO.skip (Un.mk rfl rfl rfl rfl) rfl ?_
      refine RO.skip (Un.mk rfl rfl rfl rfl) rfl ?_
      refine RO.skip (Un.mk rfl rfl rfl rfl) rfl ?_
      refine RO.val (Wt.no rfl) rfl (PV.pickF rfl rfl) ?_
      refine RO.val (Wt.no rfl) rfl (PV.move rfl) ?_
      refine RO.skip (Un.mk rfl rfl rfl rfl) rfl ?_
      refine RO.skip (Un.mk rfl rfl rfl rfl) rfl ?_
      refine RO.skip (Un.mk rfl rfl rfl rfl) rfl ?_
      refine RO.skip (Un.mk rfl rfl rfl rfl) rfl ?_
      refine RO.skip (Un.mk rfl rfl rfl rfl) rfl ?_
      refine RO.val (Wt.no rfl) rfl (PV.pickF rfl rfl) ?_
      refine RO.val (Wt.no rfl) rfl (PV.assign rfl) ?_
      refine RO.nil ?_
      refine CW.ret ?_
      obtain rfl := Option.some.inj h
      exact retP1 (Ψ := Φ) [0] (by decide) rfl (RV.tmp rfl) rfl (fun w hΦ => hΦ.1.1.1.1.1.1.1) ⟨(), rfl, rfl, rfl⟩

theorem W_ref7_MayKey {D : Mem} {Φ : World → Prop} (a1 : ByteArray) {r : Bool} (h : S.ref7_MayKey a1 = some r) :
    SpecK Try.prog 43 [.string a1] D [] Φ (fun x : Unit => .bool r) (fun x => []) (fun x => []) (fun _ => Φ) := by
  refine enterK Try.func43 rfl Try.ntmps43 rfl ?_
  unfold S.ref7_MayKey at h
  refine CW.reg ?_
  refine RO.val (Wt.no rfl) rfl (PV.assign rfl) ?_
  refine RO.nil ?_
  by_cases hb1 : (decide (1 ≤ (a1.size : Int))) = true
  · replace h := iteT hb1 h
    refine CW.reg ?_
    refine RO.val (Wt.no rfl) rfl (PV.move rfl) ?_
    refine RO.val (Wt.no rfl) rfl (PV.lenStr Try.underlying9 rfl) ?_
    refine RO.val (Wt.no rfl) rfl (PV.geq rfl rfl) ?_
    refine RO.val (Wt.no rfl) rfl ((PV.move rfl).to (congrArg Value.bool hb1)) ?_
    refine RO.val (Wt.yes rfl rfl rfl rfl) rfl (PV.move rfl) ?_
    refine RO.val (Wt.yes rfl rfl rfl rfl) rfl (PV.lenStr Try.underlying9 rfl) ?_
    refine RO.val (Wt.yes rfl rfl rfl rfl) rfl (PV.leq rfl rfl) ?_
    refine RO.val (Wt.no rfl) rfl (PV.pickT rfl rfl) ?_
    refine RO.val (Wt.no rfl) rfl (PV.assign rfl) ?_
    refine RO.nil ?_
    refine CW.ret ?_
    obtain rfl := Option.some.inj h
    exact retP1 (Ψ := Φ) [0] (by decide) rfl (RV.tmp rfl) rfl (fun w hΦ => hΦ.1) ⟨(), rfl, rfl, rfl⟩
  · replace hb1 := Bool.eq_false_iff.2 hb1
    replace h := iteF hb1 h
    refine CW.reg ?_
    refine RO.val (Wt.no rfl) rfl (PV.move rfl) ?_
    refine RO.val (Wt.no rfl) rfl (PV.lenStr Try.underlying9 rfl) ?_
    refine RO.val (Wt.no rfl) rfl (PV.geq rfl rfl) ?_
    refine RO.val (Wt.no rfl) rfl ((PV.move rfl).to (congrArg Value.bool hb1)) ?_
    refine RO.skip (Un.mk rfl rfl rfl rfl) rfl ?_
    refine RO.skip (Un.mk rfl rfl rfl rfl) rfl ?_
    refine RO.skip (Un.mk rfl rfl rfl rfl) rfl ?_
    refine RO.val (Wt.no rfl) rfl (PV.pickF rfl rfl) ?_
    refine RO.val (Wt.no rfl) rfl (PV.assign rfl) ?_
    refine RO.nil ?_
    refine CW.ret ?_
    obtain rfl := Option.some.inj h
    exact retP1 (Ψ := Φ) [0] (by decide) rfl (RV.tmp rfl) rfl (fun w hΦ => hΦ.1) ⟨(), rfl, rfl, rfl⟩

theorem W_ref7_Hash {D : Mem} {Φ : World → Prop} (a1 : ByteArray) {r : Int} (h : S.ref7_Hash a1 = some r) :
    SpecK Try.prog 44 [.string a1] D [] Φ (fun x : Unit => .int .u64 r) (fun x => []) (fun x => []) (fun _ => Φ) := by
  refine enterK Try.func44 rfl Try.ntmps44 rfl ?_
  unfold S.ref7_Hash at h
  refine CW.reg ?_
  refine RO.val (Wt.no rfl) rfl (PV.assign rfl) ?_
  refine RO.nil ?_
  refine CW.reg ?_
  refine RO.val (Wt.no rfl) rfl (PV.assign rfl) ?_
  refine RO.nil ?_
  replace h := bindS h
  obtain ⟨e4, h, hk3⟩ := h
  refine CW.meet (X := Int) (fun x => [(2, .int .u64 0), (3, .int .u64 x)]) (fun x => [frame D]) (fun x w => (Φ w ∧ True)) (fun x => S.ref7_Hash_j2 x = some r) ?_ ?_
  · skip
    refine CW.reg ?_
    refine RO.val (Wt.no rfl) rfl (PV.move rfl) ?_
    refine RO.val (Wt.no rfl) rfl (PV.lenStr Try.underlying9 rfl) ?_
    refine RO.val (Wt.no rfl) rfl (PV.move rfl) ?_
    refine RO.nil ?_
    refine CW.block ?_
    refine CW.loopE (X := Nat × Int × Int) (fun x => [(0, .string a1), (2, .int .u64 0), (3, .int .u64 x.2.1), (6, .int .i64 (a1.size : Int)), (7, .int .i64 x.2.2)]) (fun x => [frame D]) (fun x w => (Φ w ∧ True)) (fun x => loopN (S.ref7_Hash_l3 a1) x.1 (x.2.1, x.2.2) = some e4) (fun x => x.1) (FUEL, 14695981039346656037, 0) h (by exact ⟨rfl, rfl, rfl, rfl, rfl, trivial⟩) rfl (fun w hΦ => hΦ) ?_
    rintro ⟨n14', v10, v11⟩ hI12
    try dsimp only at hI12 ⊢
    obtain ⟨n14, y13, rfl, h, hk15⟩ := loopN_some hI12
    unfold S.ref7_Hash_l3 at h
    try dsimp only at h
    refine CW.reg ?_
    refine RO.val (Wt.no rfl) rfl (PV.lss rfl rfl) ?_
    refine RO.nil ?_
    refine CW.seq ?_
    refine CW.cond rfl (fun hb16 => ?_) (fun hb16 => ?_)
    · replace h := iteT hb16 h
      refine CW.skip ?_
      refine QC.then_n ?_
      refine CW.seq ?_
      refine CW.block ?_
      refine CW.reg ?_
      refine RO.val (Wt.no rfl) rfl (PV.move rfl) ?_
      refine RO.val (Wt.no rfl) rfl (PV.assign rfl) ?_
      refine RO.nil ?_
      replace h := bindS h
      obtain ⟨v17, hx18, h⟩ := h
      obtain ⟨hn19, hn20, he21⟩ := sget_some hx18
      refine CW.region ?_
      refine RO.val (Wt.no rfl) rfl (PV.move rfl) ?_
      refine RO.val (Wt.no rfl) rfl (PV.move rfl) ?_
      refine RO.val (Wt.no rfl) rfl (PV.move rfl) ?_
      refine RO.val (Wt.no rfl) rfl ((PV.indexStr Try.underlying9 rfl rfl hn20 hn19).to (congrArg (Value.int .u8) he21)) ?_
      refine RO.val (Wt.no rfl) rfl (PV.conv Try.underlying24 ⟨_, Try.underlying5⟩ rfl) ?_
      refine RO.val (Wt.no rfl) rfl (PV.xor rfl rfl) ?_
      refine RO.val (Wt.no rfl) rfl (PV.mulW rfl rfl) ?_
      refine RO.val (Wt.no rfl) rfl (PV.assign rfl) ?_
      refine RO.nil ?_
      refine QC.blk_n ?_
      refine QC.then_n ?_
      refine CW.region ?_
      refine RO.val (Wt.no rfl) rfl (PV.addW rfl rfl) ?_
      refine RO.val (Wt.no rfl) rfl (PV.move rfl) ?_
      refine RO.nil ?_
      obtain rfl := Option.some.inj h
      refine QC.roundP (n14, (IntKind.u64.wrap ((xorI .u64 v10 (IntKind.u64.wrap v17)) * 1099511628211)), (w64 (v11 + 1))) (nextL_inl hk15) (by exact Nat.lt_succ_self _) [0] (by decide) (by exact ⟨rfl, rfl, rfl, rfl, rfl, trivial⟩) rfl (fun w hΦ => hΦ)
    · replace h := iteF hb16 h
      refine CW.exit ?_
      refine QC.then_x ?_
      refine QC.then_x ?_
      refine QC.blk_x ?_
      obtain rfl := Option.some.inj h
      obtain rfl := nextL_inr hk15
      refine QC.meetP v10 hk3 [0] (by decide) (by exact ⟨rfl, rfl, trivial⟩) rfl (fun w hΦ => hΦ)
  · rintro v2 h
    try dsimp only at h ⊢
    unfold S.ref7_Hash_j2 at h
    refine CW.reg ?_
    refine RO.val (Wt.no rfl) rfl (PV.move rfl) ?_
    refine RO.val (Wt.no rfl) rfl (PV.move rfl) ?_
    refine RO.val (Wt.no rfl) rfl (PV.shr rfl rfl (by decide)) ?_
    refine RO.val (Wt.no rfl) rfl (PV.xor rfl rfl) ?_
    refine RO.val (Wt.no rfl) rfl (PV.assign rfl) ?_
    refine RO.nil ?_
    refine CW.ret ?_
    obtain rfl := Option.some.inj h
    exact retP1 (Ψ := Φ) [0] (by decide) rfl (RV.tmp rfl) rfl (fun w hΦ => hΦ.1) ⟨(), rfl, rfl, rfl⟩

theorem W_ref7_Spot {D : Mem} {Φ : World → Prop} (a1 : ByteArray) {r : Int} (h : S.ref7_Spot a1 = some r) :
    SpecK Try.prog 11 [.string a1] D [] Φ (fun x : Unit => .int .i64 r) (fun x => []) (fun x => []) (fun _ => Φ) := by
  refine enterK Try.func11 rfl Try.ntmps11 rfl ?_
  unfold S.ref7_Spot at h
  refine CW.reg ?_
  refine RO.val (Wt.no rfl) rfl (PV.assign rfl) ?_
  refine RO.nil ?_
  refine CW.seq ?_
  replace h := bindS h
  obtain ⟨v1, hx2, h⟩ := h
  refine CW.reg ?_
  refine RO.val (Wt.no rfl) rfl (PV.move rfl) ?_
  refine RO.eff (Wt.no rfl) rfl (EV.call (K := _) Try.call43 rfl (SpecK.callV (W_ref7_MayKey a1 hx2))) ?_
  rintro _ _ _ ⟨_, rfl, rfl, rfl⟩
  refine RO.val (Wt.no rfl) rfl (PV.not rfl) ?_
  refine RO.nil ?_
  refine CW.cond rfl (fun hb3 => ?_) (fun hb3 => ?_)
  · replace h := iteT hb3 h
    refine CW.reg ?_
    refine RO.val (Wt.no rfl) rfl (PV.assign rfl) ?_
    refine RO.nil ?_
    refine CW.ret ?_
    refine QC.then_r ?_
    obtain rfl := Option.some.inj h
    exact retP1 (Ψ := Φ) [0] (by decide) rfl (RV.tmp rfl) rfl (fun w hΦ => hΦ.1) ⟨(), rfl, rfl, rfl⟩
  · replace h := iteF hb3 h
    refine CW.skip ?_
    refine QC.then_n ?_
    replace h := bindS h
    obtain ⟨v4, hx5, h⟩ := h
    refine CW.reg ?_
    refine RO.val (Wt.no rfl) rfl (PV.move rfl) ?_
    refine RO.eff (Wt.no rfl) rfl (EV.call (K := _) Try.call44 rfl (SpecK.callV (W_ref7_Hash a1 hx5))) ?_
    rintro _ _ _ ⟨_, rfl, rfl, rfl⟩
    refine RO.val (Wt.no rfl) rfl (PV.rem rfl rfl (by decide)) ?_
    refine RO.val (Wt.no rfl) rfl (PV.conv Try.underlying3 ⟨_, Try.underlying24⟩ rfl) ?_
    refine RO.val (Wt.no rfl) rfl (PV.assign rfl) ?_
    refine RO.nil ?_
    refine CW.ret ?_
    obtain rfl := Option.some.inj h
    exact retP1 (Ψ := Φ) [0] (by decide) rfl (RV.tmp rfl) rfl (fun w hΦ => hΦ.1) ⟨(), rfl, rfl, rfl⟩

theorem W_take_End {D : Mem} {Φ : World → Prop} (a1 : S.Msg) (a2 : S.vault_Vault) (ga2_0 ga2_1 ga2_2 : Nat) (b1_0 : Hd) (b1_1 : Hd) (b1_2 : Hd) (b2_0 : Hd) (b2_1 : Hd) (b2_2 : (Nat → Hs)) {r : S.Msg × Int × S.vault_Vault} (h : S.take_End a1 a2 = some r) (hR : ∀ w, Φ w → (slR S.t_Val w a1.Bag.Values b1_0 ∧ slR (tInt .i64) w a1.Ring.Plan.Targets b1_1 ∧ slR S.t_Claim w a1.Claims b1_2 ∧ rdS S.t_Deed w a2.l.l b2_0.sub ∧ slR (tInt .i64) w a2.ring.Plan.Targets b2_1 ∧ mpR S.t_Bag w a2.bags b2_2)) :
    SpecK Try.prog 18 [.agg (S.t_Msg.enc a1 (hf [b1_0, b1_1, b1_2])).toArray, .pointer (pq ga2_0).a] D [.blk ga2_0 (S.t_vault_Vault.enc a2 (hf [(pq ga2_1), b2_1, (pq ga2_2)])), .blk ga2_1 (S.t_ledger_Ledger.enc a2.l (hf [b2_0])), rowE S.t_Deed 106 a2.l.l b2_0, mpE Value.string S.t_Bag ga2_2 a2.bags b2_2] Φ (fun x : Hd × Hd × Hd × Hd × Hd × (Nat → Hs) => .tuple #[.agg (S.t_Msg.enc r.1 (hf [x.1, x.2.1, x.2.2.1])).toArray, .int .i64 r.2.1]) (fun x => [.blk ga2_0 (S.t_vault_Vault.enc r.2.2 (hf [(pq ga2_1), x.2.2.2.2.1, (pq ga2_2)])), .blk ga2_1 (S.t_ledger_Ledger.enc r.2.2.l (hf [x.2.2.2.1])), rowE S.t_Deed 106 r.2.2.l.l x.2.2.2.1, mpE Value.string S.t_Bag ga2_2 r.2.2.bags x.2.2.2.2.2]) (fun x => []) (fun x w => Φ w ∧ (slR S.t_Val w r.1.Bag.Values x.1 ∧ slR (tInt .i64) w r.1.Ring.Plan.Targets x.2.1 ∧ slR S.t_Claim w r.1.Claims x.2.2.1 ∧ rdS S.t_Deed w r.2.2.l.l x.2.2.2.1.sub ∧ slR (tInt .i64) w r.2.2.ring.Plan.Targets x.2.2.2.2.1 ∧ mpR S.t_Bag w r.2.2.bags x.2.2.2.2.2)) := by
  refine enterK Try.func18 rfl Try.ntmps18 rfl ?_
  unfold S.take_End at h
  refine CW.reg ?_
  refine RO.eff (Wt.no rfl) rfl (EV.boxB (B := S.t_Msg.enc a1 (hf [b1_0, b1_1, b1_2])) rfl rfl) ?_
  rintro _ _ _ ⟨g1, rfl, rfl, rfl⟩
  refine RO.eff (Wt.no rfl) rfl (EV.allocB (B := S.t_Msg.enc S.Msg.z (hf [Hd.z, Hd.z, Hd.z])) Try.zeroValue53 rfl) ?_
  rintro _ _ _ ⟨g2, rfl, rfl, rfl⟩
  refine RO.val (Wt.no rfl) rfl (PV.assign rfl) ?_
  refine RO.nil ?_
  refine CW.seq ?_
  replace h := bindS h
  obtain ⟨e23, h, hk22⟩ := h
  refine CW.meet (X := Bool) (fun x => [(1, .pointer (some ⟨ga2_0, 0, none⟩)), (2, .pointer (some ⟨g1, 0, none⟩)), (4, .pointer (some ⟨g2, 0, none⟩)), (5, .int .i64 0), (14, .bool x)]) (fun x => [frame D, .blk ga2_0 (S.t_vault_Vault.enc a2 (hf [(pq ga2_1), b2_1, (pq ga2_2)])), .blk ga2_1 (S.t_ledger_Ledger.enc a2.l (hf [b2_0])), rowE S.t_Deed 106 a2.l.l b2_0, mpE Value.string S.t_Bag ga2_2 a2.bags b2_2, .blk g1 (S.t_Msg.enc a1 (hf [b1_0, b1_1, b1_2])), .blk g2 (S.t_Msg.enc S.Msg.z (hf [Hd.z, Hd.z, Hd.z]))]) (fun x w => (Φ w ∧ True)) (fun x => S.take_End_j1 a2 a1 x = some r) ?_ ?_
  · skip
    by_cases hb24 : (decide (a1.Kind ≠ 7)) = true
    · replace h := iteT hb24 h
      refine CW.region ?_
      refine RO.val (Wt.no rfl) rfl (PV.fieldAddr Try.fa53_0 rfl) ?_
      refine RO.val (Wt.no rfl) rfl (PV.loadM (l := [.int .i64 a1.Kind]) 5 Try.TF3 rfl rfl (cut_Msg_Kind _ _) rfl (by decide)) ?_
      refine RO.val (Wt.no rfl) rfl (PV.neq rfl rfl) ?_
      refine RO.val (Wt.no rfl) rfl ((PV.move rfl).to (congrArg Value.bool hb24)) ?_
      refine RO.skip (Un.mk rfl rfl rfl rfl) rfl ?_
      refine RO.skip (Un.mk rfl rfl rfl rfl) rfl ?_
      refine RO.skip (Un.mk rfl rfl rfl rfl) rfl ?_
      refine RO.val (Wt.no rfl) rfl (PV.pickT rfl rfl) ?_
      refine RO.nil ?_
      obtain rfl := Option.some.inj h
      refine QC.meetP true hk22 [0, 1, 2, 3, 4, 5, 6] (by decide) (by exact ⟨rfl, rfl, rfl, rfl, rfl, trivial⟩) rfl (fun w hΦ => hΦ)
    · replace hb24 := Bool.eq_false_iff.2 hb24
      replace h := iteF hb24 h
      replace h := bindS h
      obtain ⟨v25, hx26, h⟩ := h
      refine CW.region ?_
      refine RO.val (Wt.no rfl) rfl (PV.fieldAddr Try.fa53_0 rfl) ?_
      refine RO.val (Wt.no rfl) rfl (PV.loadM (l := [.int .i64 a1.Kind]) 5 Try.TF3 rfl rfl (cut_Msg_Kind _ _) rfl (by decide)) ?_
      refine RO.val (Wt.no rfl) rfl (PV.neq rfl rfl) ?_
      refine RO.val (Wt.no rfl) rfl ((PV.move rfl).to (congrArg Value.bool hb24)) ?_
      refine RO.val (Wt.yes rfl rfl rfl rfl) rfl (PV.loadM (l := S.t_Msg.enc a1 (hf [b1_0, b1_1, b1_2])) 5 Try.TF53 rfl rfl (cut_self (S.t_Msg.len _ _)) rfl (by decide)) ?_
      refine RO.eff (Wt.yes rfl rfl rfl rfl) rfl (EV.call (K := _) Try.call55 rfl (SpecK.callV (W_take_placed a1 b1_0 b1_1 b1_2 hx26 (fun w hm hΦ => ⟨(hR w (hΦ.1)).1, (hR w (hΦ.1)).2.1, (hR w (hΦ.1)).2.2.1⟩)))) ?_
      rintro _ _ _ ⟨_, rfl, rfl, rfl⟩
      refine RO.val (Wt.yes rfl rfl rfl rfl) rfl (PV.not rfl) ?_
      refine RO.val (Wt.no rfl) rfl (PV.pickF rfl rfl) ?_
      refine RO.nil ?_
      obtain rfl := Option.some.inj h
      refine QC.meetP (!v25) hk22 [0, 1, 2, 3, 4, 5, 6] (by decide) (by exact ⟨rfl, rfl, rfl, rfl, rfl, trivial⟩) rfl (fun w hΦ => hΦ)
  · rintro v4 h
    try dsimp only at h ⊢
    unfold S.take_End_j1 at h
    refine CW.cond rfl (fun hb5 => ?_) (fun hb5 => ?_)
    · replace h := iteT hb5 h
      subst hb5
      refine CW.reg ?_
      refine RO.val (Wt.no rfl) rfl (PV.buildS (B := S.t_Msg.enc S.Msg.z (hf [Hd.z, Hd.z, Hd.z])) (xs := []) [] Try.BT53 rfl rfl rfl (by simp) trivial rfl) ?_
      refine RO.eff (Wt.no rfl) rfl (EV.storeW (B := S.t_Msg.enc S.Msg.z (hf [Hd.z, Hd.z, Hd.z])) 6 Try.TF53 rfl rfl rfl (by exact S.t_Msg.len S.Msg.z (hf [Hd.z, Hd.z, Hd.z])) (by exact S.t_Msg.one S.Msg.z (hf [Hd.z, Hd.z, Hd.z])) (S.t_Msg.len S.Msg.z (hf [Hd.z, Hd.z, Hd.z])) rfl) ?_
      rintro _ _ _ ⟨rfl, rfl, rfl⟩
      refine RO.val (Wt.no rfl) rfl (PV.assign rfl) ?_
      refine RO.nil ?_
      refine CW.ret ?_
      refine QC.then_r ?_
      obtain rfl := Option.some.inj h
      exact retP2 (Ψ := fun w => Φ w ∧ (slR S.t_Val w [] Hd.z ∧ slR (tInt .i64) w [] Hd.z ∧ slR S.t_Claim w [] Hd.z ∧ rdS S.t_Deed w a2.l.l b2_0.sub ∧ slR (tInt .i64) w a2.ring.Plan.Targets b2_1 ∧ mpR S.t_Bag w a2.bags b2_2)) [0, 1, 2, 3, 4] (by decide) rfl (RV.cell (A := S.t_Msg.enc S.Msg.z (hf [Hd.z, Hd.z, Hd.z])) 6 rfl Try.TF53 rfl (S.t_Msg.len _ _) (by decide)) (RV.tmp rfl) rfl (fun w hΦ => ⟨hΦ.1, (slR.nil _ _), (slR.nil _ _), (slR.nil _ _), (hR w (hΦ.1)).2.2.2.1, (hR w (hΦ.1)).2.2.2.2.1, (hR w (hΦ.1)).2.2.2.2.2⟩) ⟨(Hd.z, Hd.z, Hd.z, b2_0, b2_1, b2_2), rfl, rfl, rfl⟩
    · replace h := iteF hb5 h
      subst hb5
      refine CW.skip ?_
      refine QC.then_n ?_
      refine CW.seq ?_
      replace h := bindS h
      obtain ⟨v6, hx7, h⟩ := h
      refine CW.reg ?_
      refine RO.val (Wt.no rfl) rfl (PV.loadM (l := S.t_Msg.enc a1 (hf [b1_0, b1_1, b1_2])) 5 Try.TF53 rfl rfl (cut_self (S.t_Msg.len _ _)) rfl (by decide)) ?_
      refine RO.val (Wt.no rfl) rfl (PV.move rfl) ?_
      refine RO.eff (Wt.no rfl) rfl (EV.call (K := _) Try.call56 rfl (SpecK.call [1, 2, 3, 4] (fun x : Unit => [frame D, .blk ga2_0 (S.t_vault_Vault.enc a2 (hf [(pq ga2_1), b2_1, (pq ga2_2)])), .blk ga2_1 (S.t_ledger_Ledger.enc a2.l (hf [b2_0])), rowE S.t_Deed 106 a2.l.l b2_0, mpE Value.string S.t_Bag ga2_2 a2.bags b2_2, .blk g1 (S.t_Msg.enc a1 (hf [b1_0, b1_1, b1_2])), .blk g2 (S.t_Msg.enc S.Msg.z (hf [Hd.z, Hd.z, Hd.z]))]) (Outs.cons rfl (Outs.cons rfl (Outs.cons rfl (Outs.cons rfl Outs.nil)))) (fun _ => (Outs.cons rfl (Outs.cons rfl (Outs.cons rfl (Outs.cons rfl Outs.nil))))) (W_take_old a1 a2 ga2_0 ga2_1 ga2_2 b1_0 b1_1 b1_2 b2_0 b2_1 b2_2 hx7 (fun w hm hΦ => ⟨(hR w (hΦ.1)).1, (hR w (hΦ.1)).2.1, (hR w (hΦ.1)).2.2.1, (hR w (hΦ.1)).2.2.2.1, (hR w (hΦ.1)).2.2.2.2.1, (hR w (hΦ.1)).2.2.2.2.2⟩)))) ?_
      rintro _ _ _ ⟨_, rfl, rfl, rfl⟩
      refine RO.val (Wt.no rfl) rfl (PV.assign rfl) ?_
      refine RO.nil ?_
      refine CW.reg ?_
      refine RO.val (Wt.no rfl) rfl (PV.move rfl) ?_
      refine RO.val (Wt.no rfl) rfl (PV.neq rfl rfl) ?_
      refine RO.nil ?_
      refine CW.cond rfl (fun hb8 => ?_) (fun hb8 => ?_)
      · replace h := iteT hb8 h
        refine CW.reg ?_
        refine RO.val (Wt.no rfl) rfl (PV.buildS (B := S.t_Msg.enc S.Msg.z (hf [Hd.z, Hd.z, Hd.z])) (xs := []) [] Try.BT53 rfl rfl rfl (by simp) trivial rfl) ?_
        refine RO.val (Wt.no rfl) rfl (PV.move rfl) ?_
        refine RO.eff (Wt.no rfl) rfl (EV.storeW (B := S.t_Msg.enc S.Msg.z (hf [Hd.z, Hd.z, Hd.z])) 6 Try.TF53 rfl rfl rfl (by exact S.t_Msg.len S.Msg.z (hf [Hd.z, Hd.z, Hd.z])) (by exact S.t_Msg.one S.Msg.z (hf [Hd.z, Hd.z, Hd.z])) (S.t_Msg.len S.Msg.z (hf [Hd.z, Hd.z, Hd.z])) rfl) ?_
        rintro _ _ _ ⟨rfl, rfl, rfl⟩
        refine RO.val (Wt.no rfl) rfl (PV.assign rfl) ?_
        refine RO.nil ?_
        refine CW.ret ?_
        refine QC.then_r ?_
        obtain rfl := Option.some.inj h
        exact retP2 (Ψ := fun w => Φ w ∧ (slR S.t_Val w [] Hd.z ∧ slR (tInt .i64) w [] Hd.z ∧ slR S.t_Claim w [] Hd.z ∧ rdS S.t_Deed w a2.l.l b2_0.sub ∧ slR (tInt .i64) w a2.ring.Plan.Targets b2_1 ∧ mpR S.t_Bag w a2.bags b2_2)) [0, 1, 2, 3, 4] (by decide) rfl (RV.cell (A := S.t_Msg.enc S.Msg.z (hf [Hd.z, Hd.z, Hd.z])) 6 rfl Try.TF53 rfl (S.t_Msg.len _ _) (by decide)) (RV.tmp rfl) rfl (fun w hΦ => ⟨hΦ.1, (slR.nil _ _), (slR.nil _ _), (slR.nil _ _), (hR w (hΦ.1)).2.2.2.1, (hR w (hΦ.1)).2.2.2.2.1, (hR w (hΦ.1)).2.2.2.2.2⟩) ⟨(Hd.z, Hd.z, Hd.z, b2_0, b2_1, b2_2), rfl, rfl, rfl⟩
      · replace h := iteF hb8 h
        refine CW.skip ?_
        refine QC.then_n ?_
        replace h := bindS h
        obtain ⟨⟨v9, v10⟩, hx11, h⟩ := h
        dsimp only at h
        refine CW.reg ?_
        refine RO.val (Wt.no rfl) rfl (PV.move rfl) ?_
        refine RO.eff (Wt.no rfl) rfl (EV.call (K := _) Try.call57 rfl (SpecK.call [1, 2, 3, 4] (fun x : Hd × Hd × (Nat → Hs) => [frame D, .blk ga2_0 (S.t_vault_Vault.enc v10 (hf [(pq ga2_1), x.2.1, (pq ga2_2)])), .blk ga2_1 (S.t_ledger_Ledger.enc v10.l (hf [x.1])), rowE S.t_Deed 106 v10.l.l x.1, mpE Value.string S.t_Bag ga2_2 v10.bags x.2.2, .blk g1 (S.t_Msg.enc a1 (hf [b1_0, b1_1, b1_2])), .blk g2 (S.t_Msg.enc S.Msg.z (hf [Hd.z, Hd.z, Hd.z]))]) (Outs.cons rfl (Outs.cons rfl (Outs.cons rfl (Outs.cons rfl Outs.nil)))) (fun _ => (Outs.cons rfl (Outs.cons rfl (Outs.cons rfl (Outs.cons rfl Outs.nil))))) (W_vault_Vault_Sync a2 ga2_0 ga2_1 ga2_2 b2_0 b2_1 b2_2 hx11 (fun w hΦ => ⟨(hR w (hΦ.1)).2.2.2.1, (hR w (hΦ.1)).2.2.2.2.1, (hR w (hΦ.1)).2.2.2.2.2⟩)))) ?_
        rintro _ _ _ ⟨⟨q12, q13, q14⟩, rfl, rfl, rfl⟩
        refine RO.nil ?_
        replace h := bindS h
        obtain ⟨v16, hx17, h⟩ := h
        refine CW.reg ?_
        refine RO.val (Wt.no rfl) rfl (PV.loadM (l := S.t_Msg.enc a1 (hf [b1_0, b1_1, b1_2])) 5 Try.TF53 rfl rfl (cut_self (S.t_Msg.len _ _)) rfl (by decide)) ?_
        refine RO.eff (Wt.no rfl) rfl (EV.call (K := _) Try.call58 rfl (SpecK.callV (W_take_back a1 8 b1_0 b1_1 b1_2 hx17 (fun w hm hΦ => ⟨(hR w (hΦ.1.1)).1, (hR w (hΦ.1.1)).2.1, (hR w (hΦ.1.1)).2.2.1⟩)))) ?_
        rintro _ _ _ ⟨⟨q18, q19, q20⟩, rfl, rfl, rfl⟩
        refine RO.eff (Wt.no rfl) rfl (EV.storeW (B := S.t_Msg.enc v16 (hf [q18, q19, q20])) 6 Try.TF53 rfl rfl rfl (by exact S.t_Msg.len v16 (hf [q18, q19, q20])) (by exact S.t_Msg.one v16 (hf [q18, q19, q20])) (S.t_Msg.len S.Msg.z (hf [Hd.z, Hd.z, Hd.z])) rfl) ?_
        rintro _ _ _ ⟨rfl, rfl, rfl⟩
        refine RO.val (Wt.no rfl) rfl (PV.assign rfl) ?_
        refine RO.nil ?_
        refine CW.ret ?_
        obtain rfl := Option.some.inj h
        exact retP2 (Ψ := fun w => Φ w ∧ (slR S.t_Val w v16.Bag.Values q18 ∧ slR (tInt .i64) w v16.Ring.Plan.Targets q19 ∧ slR S.t_Claim w v16.Claims q20 ∧ rdS S.t_Deed w v10.l.l q12.sub ∧ slR (tInt .i64) w v10.ring.Plan.Targets q13 ∧ mpR S.t_Bag w v10.bags q14)) [0, 1, 2, 3, 4] (by decide) rfl (RV.cell (A := S.t_Msg.enc v16 (hf [q18, q19, q20])) 6 rfl Try.TF53 rfl (S.t_Msg.len _ _) (by decide)) (RV.tmp rfl) rfl (fun w hΦ => ⟨hΦ.1.1.1, (hΦ.2.1), (hΦ.2.2.1), (hΦ.2.2.2), (hΦ.1.2.1), (hΦ.1.2.2.1), (hΦ.1.2.2.2)⟩) ⟨(q18, q19, q20, q12, q13, q14), rfl, rfl, rfl⟩

theorem W_law21_TakeEpochs {D : Mem} {Φ : World → Prop} (a1 : ByteArray) (a2 : Int) (a3 : Int) (a4 : Int) (a5 : Int) {r : Bool} (h : S.law21_TakeEpochs a1 a2 a3 a4 a5 = some r) :
    SpecK Try.prog 3 [.string a1, .int .i64 a2, .int .i64 a3, .int .i64 a4, .int .i64 a5] D [] Φ (fun x : Unit => .bool r) (fun x => []) (fun x => []) (fun _ => Φ) := by
  refine enterK Try.func3 rfl Try.ntmps3 rfl ?_
  unfold S.law21_TakeEpochs at h
  refine CW.reg ?_
  refine RO.val (Wt.no rfl) rfl (PV.assign rfl) ?_
  refine RO.nil ?_
  refine CW.seq ?_
  replace h := bindS h
  obtain ⟨v1, hx2, h⟩ := h
  refine CW.reg ?_
  refine RO.val (Wt.no rfl) rfl (PV.move rfl) ?_
  refine RO.eff (Wt.no rfl) rfl (EV.call (K := _) Try.call8 rfl (SpecK.callV (W_spot_May a1 hx2))) ?_
  rintro _ _ _ ⟨_, rfl, rfl, rfl⟩
  refine RO.val (Wt.no rfl) rfl (PV.not rfl) ?_
  refine RO.nil ?_
  refine CW.cond rfl (fun hb3 => ?_) (fun hb3 => ?_)
  · replace h := iteT hb3 h
    replace h := bindS h
    obtain ⟨v4, hx5, h⟩ := h
    refine CW.reg ?_
    refine RO.eff (Wt.no rfl) rfl (EV.call (K := _) Try.call9 rfl (SpecK.callV (W_law21_awake hx5))) ?_
    rintro _ _ _ ⟨_, rfl, rfl, rfl⟩
    refine RO.val (Wt.no rfl) rfl (PV.assign rfl) ?_
    refine RO.nil ?_
    refine CW.ret ?_
    refine QC.then_r ?_
    obtain rfl := Option.some.inj h
    exact retP1 (Ψ := Φ) [0] (by decide) rfl (RV.tmp rfl) rfl (fun w hΦ => hΦ.1) ⟨(), rfl, rfl, rfl⟩
  · replace h := iteF hb3 h
    refine CW.skip ?_
    refine QC.then_n ?_
    refine CW.reg ?_
    refine RO.val (Wt.no rfl) rfl (PV.move rfl) ?_
    refine RO.val (Wt.no rfl) rfl (PV.conv Try.underlying24 ⟨_, Try.underlying3⟩ rfl) ?_
    refine RO.val (Wt.no rfl) rfl (PV.rem rfl rfl (by decide)) ?_
    refine RO.val (Wt.no rfl) rfl (PV.conv Try.underlying3 ⟨_, Try.underlying24⟩ rfl) ?_
    refine RO.val (Wt.no rfl) rfl (PV.addW rfl rfl) ?_
    refine RO.val (Wt.no rfl) rfl (PV.move rfl) ?_
    refine RO.val (Wt.no rfl) rfl (PV.conv Try.underlying24 ⟨_, Try.underlying3⟩ rfl) ?_
    refine RO.val (Wt.no rfl) rfl (PV.rem rfl rfl (by decide)) ?_
    refine RO.val (Wt.no rfl) rfl (PV.conv Try.underlying3 ⟨_, Try.underlying24⟩ rfl) ?_
    refine RO.val (Wt.no rfl) rfl (PV.assign rfl) ?_
    refine RO.val (Wt.no rfl) rfl (PV.assign rfl) ?_
    refine RO.nil ?_
    refine CW.reg ?_
    refine RO.val (Wt.no rfl) rfl (PV.move rfl) ?_
    refine RO.val (Wt.no rfl) rfl (PV.conv Try.underlying24 ⟨_, Try.underlying3⟩ rfl) ?_
    refine RO.val (Wt.no rfl) rfl (PV.rem rfl rfl (by decide)) ?_
    refine RO.val (Wt.no rfl) rfl (PV.conv Try.underlying3 ⟨_, Try.underlying24⟩ rfl) ?_
    refine RO.val (Wt.no rfl) rfl (PV.move rfl) ?_
    refine RO.val (Wt.no rfl) rfl (PV.conv Try.underlying24 ⟨_, Try.underlying3⟩ rfl) ?_
    refine RO.val (Wt.no rfl) rfl (PV.rem rfl rfl (by decide)) ?_
    refine RO.val (Wt.no rfl) rfl (PV.conv Try.underlying3 ⟨_, Try.underlying24⟩ rfl) ?_
    refine RO.val (Wt.no rfl) rfl (PV.assign rfl) ?_
    refine RO.val (Wt.no rfl) rfl (PV.assign rfl) ?_
    refine RO.nil ?_
    replace h := bindS h
    obtain ⟨⟨v6, v7⟩, hx8, h⟩ := h
    dsimp only at h
    refine CW.reg ?_
    refine RO.eff (Wt.no rfl) rfl (EV.call (K := _) Try.call10 rfl (SpecK.callV (W_ref7_FirstRing 0 hx8))) ?_
    rintro _ _ _ ⟨q9, rfl, rfl, rfl⟩
    refine RO.val (Wt.no rfl) rfl (PV.move rfl) ?_
    refine RO.val (Wt.no rfl) rfl (PV.extract rfl rfl) ?_
    refine RO.val (Wt.no rfl) rfl (PV.extract rfl rfl) ?_
    refine RO.eff (Wt.no rfl) rfl (EV.allocB (B := S.t_Ring.enc S.Ring.z (hf [Hd.z])) Try.zeroValue33 rfl) ?_
    rintro _ _ _ ⟨g11, rfl, rfl, rfl⟩
    refine RO.eff (Wt.no rfl) rfl (EV.storeW (B := S.t_Ring.enc v6 (hf [q9])) 1 Try.TF33 rfl rfl rfl (by exact S.t_Ring.len v6 (hf [q9])) (by exact S.t_Ring.one v6 (hf [q9])) (S.t_Ring.len S.Ring.z (hf [Hd.z])) rfl) ?_
    rintro _ _ _ ⟨rfl, rfl, rfl⟩
    refine RO.val (Wt.no rfl) rfl (PV.assign rfl) ?_
    refine RO.nil ?_
    replace h := bindS h
    obtain ⟨v12, hx13, h⟩ := h
    refine CW.reg ?_
    refine RO.val (Wt.no rfl) rfl (PV.move rfl) ?_
    refine RO.eff (Wt.no rfl) rfl (EV.call (K := _) Try.call11 rfl (SpecK.callV (W_ref7_Spot a1 hx13))) ?_
    rintro _ _ _ ⟨_, rfl, rfl, rfl⟩
    refine RO.val (Wt.no rfl) rfl (PV.assign rfl) ?_
    refine RO.nil ?_
    refine CW.seq ?_
    replace h := bindS h
    obtain ⟨e110, h, hk109⟩ := h
    refine CW.meet (X := Bool) (fun x => [(0, .string a1), (1, .int .i64 (w64 (1 + (IntKind.i64.wrap (Int.tmod (IntKind.u64.wrap a2) 9))))), (2, .int .i64 (IntKind.i64.wrap (Int.tmod (IntKind.u64.wrap a3) 12))), (3, .int .i64 (IntKind.i64.wrap (Int.tmod (IntKind.u64.wrap a4) 7))), (4, .int .i64 (IntKind.i64.wrap (Int.tmod (IntKind.u64.wrap a5) 7))), (10, .bool false), (11, .pointer (some ⟨g11, 0, none⟩)), (13, .int .i64 v12), (57, .bool x)]) (fun x => [frame D, .blk g11 (S.t_Ring.enc v6 (hf [q9]))]) (fun x w => ((Φ w ∧ True) ∧ (slR (tInt .i64) w v6.Plan.Targets q9))) (fun x => S.law21_TakeEpochs_j1 v6 v12 a2 a4 a5 a3 a1 x = some r) ?_ ?_
    · skip
      by_cases hb111 : (decide (v12 < 0)) = true
      · replace h := iteT hb111 h
        refine CW.region ?_
        refine RO.val (Wt.no rfl) rfl (PV.move rfl) ?_
        refine RO.val (Wt.no rfl) rfl (PV.lss rfl rfl) ?_
        refine RO.val (Wt.no rfl) rfl ((PV.move rfl).to (congrArg Value.bool hb111)) ?_
        refine RO.skip (Un.mk rfl rfl rfl rfl) rfl ?_
        refine RO.skip (Un.mk rfl rfl rfl rfl) rfl ?_
        refine RO.skip (Un.mk rfl rfl rfl rfl) rfl ?_
        refine RO.skip (Un.mk rfl rfl rfl rfl) rfl ?_
        refine RO.val (Wt.no rfl) rfl (PV.pickT rfl rfl) ?_
        refine RO.nil ?_
        obtain rfl := Option.some.inj h
        refine QC.meetP true hk109 [0, 1] (by decide) (by exact ⟨rfl, rfl, rfl, rfl, rfl, rfl, rfl, rfl, rfl, trivial⟩) rfl (fun w hΦ => hΦ)
      · replace hb111 := Bool.eq_false_iff.2 hb111
        replace h := iteF hb111 h
        replace h := bindS h
        obtain ⟨v112, hx113, h⟩ := h
        refine CW.region ?_
        refine RO.val (Wt.no rfl) rfl (PV.move rfl) ?_
        refine RO.val (Wt.no rfl) rfl (PV.lss rfl rfl) ?_
        refine RO.val (Wt.no rfl) rfl ((PV.move rfl).to (congrArg Value.bool hb111)) ?_
        refine RO.val (Wt.yes rfl rfl rfl rfl) rfl (PV.move rfl) ?_
        refine RO.val (Wt.yes rfl rfl rfl rfl) rfl (PV.move rfl) ?_
        refine RO.eff (Wt.yes rfl rfl rfl rfl) rfl (EV.call (K := _) Try.call12 rfl (SpecK.callV (W_spot_Of a1 hx113))) ?_
        rintro _ _ _ ⟨_, rfl, rfl, rfl⟩
        refine RO.val (Wt.yes rfl rfl rfl rfl) rfl (PV.neq rfl rfl) ?_
        refine RO.val (Wt.no rfl) rfl (PV.pickF rfl rfl) ?_
        refine RO.nil ?_
        obtain rfl := Option.some.inj h
        refine QC.meetP (decide (v12 ≠ v112)) hk109 [0, 1] (by decide) (by exact ⟨rfl, rfl, rfl, rfl, rfl, rfl, rfl, rfl, rfl, trivial⟩) rfl (fun w hΦ => hΦ)
    · rintro v15 h
      try dsimp only at h ⊢
      unfold S.law21_TakeEpochs_j1 at h
      refine CW.cond rfl (fun hb16 => ?_) (fun hb16 => ?_)
      · replace h := iteT hb16 h
        subst hb16
        refine CW.reg ?_
        refine RO.val (Wt.no rfl) rfl (PV.assign rfl) ?_
        refine RO.nil ?_
        refine CW.ret ?_
        refine QC.then_r ?_
        obtain rfl := Option.some.inj h
        exact retP1 (Ψ := Φ) [0] (by decide) rfl (RV.tmp rfl) rfl (fun w hΦ => hΦ.1.1) ⟨(), rfl, rfl, rfl⟩
      · replace h := iteF hb16 h
        subst hb16
        refine CW.skip ?_
        refine QC.then_n ?_
        replace h := bindS h
        obtain ⟨v17, hx18, h⟩ := h
        obtain ⟨hn19, hn20, he21⟩ := aset_some hx18
        refine CW.reg ?_
        refine RO.val (Wt.no rfl) rfl (PV.move rfl) ?_
        refine RO.val (Wt.no rfl) rfl (PV.move rfl) ?_
        refine RO.val (Wt.no rfl) rfl (PV.move rfl) ?_
        refine RO.val (Wt.no rfl) rfl (PV.buildS (B := S.t_Entry.enc ({ Epoch := (w64 (1 + (IntKind.i64.wrap (Int.tmod (IntKind.u64.wrap a2) 9)))), Owner := (IntKind.i64.wrap (Int.tmod (IntKind.u64.wrap a4) 7)) } : S.Entry) (hf [])) (xs := [.tmp 59, .tmp 60]) [(0, 0, 1), (1, 1, 1)] Try.BT30 rfl rfl rfl (by decide) ⟨rfl, rfl, rfl, rfl, trivial⟩ rfl) ?_
        refine RO.val (Wt.no rfl) rfl (PV.fieldAddr Try.fa33_2 rfl) ?_
        refine RO.val (Wt.no rfl) rfl (PV.idxA Try.underlying31 Try.sizeOf30 rfl rfl hn20 (by omega)) ?_
        refine RO.eff (Wt.no rfl) rfl (EV.storeB (B := S.t_Ring.enc ({ v6 with Parts := v17 } : S.Ring) (hf [q9])) 1 Try.TF30 rfl rfl rfl (by exact S.t_Entry.len ({ Epoch := (w64 (1 + (IntKind.i64.wrap (Int.tmod (IntKind.u64.wrap a2) 9)))), Owner := (IntKind.i64.wrap (Int.tmod (IntKind.u64.wrap a4) 7)) } : S.Entry) (hf [])) (by exact S.t_Entry.one ({ Epoch := (w64 (1 + (IntKind.i64.wrap (Int.tmod (IntKind.u64.wrap a2) 9)))), Owner := (IntKind.i64.wrap (Int.tmod (IntKind.u64.wrap a4) 7)) } : S.Entry) (hf [])) (by rw [S.t_Ring.len]; show _ ≤ 43; omega) ((wr_Ring_Parts_i v6 q9 ({ Epoch := (w64 (1 + (IntKind.i64.wrap (Int.tmod (IntKind.u64.wrap a2) 9)))), Owner := (IntKind.i64.wrap (Int.tmod (IntKind.u64.wrap a4) 7)) } : S.Entry) _ hn19).trans (by rw [he21]))) ?_
        rintro _ _ _ ⟨rfl, rfl, rfl⟩
        refine RO.nil ?_
        replace h := bindS h
        obtain ⟨⟨v22, v23⟩, hx24, h⟩ := h
        dsimp only at h
        refine CW.reg ?_
        refine RO.val (Wt.no rfl) rfl (PV.buildS (B := S.t_Bag.enc S.Bag.z (hf [Hd.z])) (xs := []) [] Try.BT40 rfl rfl rfl (by simp) trivial rfl) ?_
        refine RO.val (Wt.no rfl) rfl (PV.buildS (B := S.t_A8_int.enc (Vector.replicate 8 (0 : Int)) (hf [])) (xs := []) [] Try.BT37 rfl rfl rfl (by simp) trivial rfl) ?_
        refine RO.val (Wt.no rfl) rfl (PV.move rfl) ?_
        refine RO.val (Wt.no rfl) rfl (PV.buildS (B := S.t_Dot.enc ({ Node := (IntKind.i64.wrap (Int.tmod (IntKind.u64.wrap a5) 7)), N := 1 } : S.Dot) (hf [])) (xs := [.tmp 67, .const (.int .i64 1)]) [(0, 0, 1), (1, 1, 1)] Try.BT45 rfl rfl rfl (by decide) ⟨rfl, rfl, rfl, rfl, trivial⟩ rfl) ?_
        refine RO.eff (Wt.no rfl) rfl (EV.call (K := _) Try.call13 rfl (SpecK.callV (W_ref7_PutBag S.Bag.z (Vector.replicate 8 (0 : Int)) ({ Node := (IntKind.i64.wrap (Int.tmod (IntKind.u64.wrap a5) 7)), N := 1 } : S.Dot) (⟨#[120]⟩ : ByteArray) Hd.z hx24 (fun w hm hΦ => (slR.nil _ _))))) ?_
        rintro _ _ _ ⟨q25, rfl, rfl, rfl⟩
        refine RO.val (Wt.no rfl) rfl (PV.move rfl) ?_
        refine RO.val (Wt.no rfl) rfl (PV.extract rfl rfl) ?_
        refine RO.val (Wt.no rfl) rfl (PV.extract rfl rfl) ?_
        refine RO.eff (Wt.no rfl) rfl (EV.allocB (B := S.t_Bag.enc S.Bag.z (hf [Hd.z])) Try.zeroValue40 rfl) ?_
        rintro _ _ _ ⟨g27, rfl, rfl, rfl⟩
        refine RO.eff (Wt.no rfl) rfl (EV.storeW (B := S.t_Bag.enc v22 (hf [q25])) 2 Try.TF40 rfl rfl rfl (by exact S.t_Bag.len v22 (hf [q25])) (by exact S.t_Bag.one v22 (hf [q25])) (S.t_Bag.len S.Bag.z (hf [Hd.z])) rfl) ?_
        rintro _ _ _ ⟨rfl, rfl, rfl⟩
        refine RO.val (Wt.no rfl) rfl (PV.assign rfl) ?_
        refine RO.nil ?_
        replace h := bindS h
        obtain ⟨v28, hx29, h⟩ := h
        replace h := bindS h
        obtain ⟨⟨v33, v34⟩, hx35, h⟩ := h
        dsimp only at h
        refine CW.reg ?_
        refine RO.eff (Wt.no rfl) rfl (EV.call (K := _) Try.call15 rfl (SpecK.call0 (W_ledger_New 9 hx29))) ?_
        rintro _ _ _ ⟨⟨g30, q31⟩, rfl, rfl, rfl⟩
        refine RO.eff (Wt.no rfl) rfl (EV.call (K := _) Try.call14 rfl (SpecK.call [3, 4] (fun x : Nat × Nat × Hd × (Nat → Hs) × Hd => [frame D, .blk g11 (S.t_Ring.enc ({ v6 with Parts := v17 } : S.Ring) (hf [q9])), .blk g27 (S.t_Bag.enc v22 (hf [q25])), .blk g30 (S.t_ledger_Ledger.enc v34 (hf [x.2.2.2.2])), rowE S.t_Deed 106 v34.l x.2.2.2.2]) (Outs.cons rfl (Outs.cons rfl Outs.nil)) (fun _ => (Outs.cons rfl (Outs.cons rfl Outs.nil))) (W_vault_Open v28 g30 q31 hx35 (fun w hΦ => (hΦ.2))))) ?_
        rintro _ _ _ ⟨⟨g36, g37, q38, q39, q40⟩, rfl, rfl, rfl⟩
        refine RO.val (Wt.no rfl) rfl (PV.assign rfl) ?_
        refine RO.nil ?_
        replace h := bindS h
        obtain ⟨⟨v42, v43⟩, hx44, h⟩ := h
        dsimp only at h
        refine CW.reg ?_
        refine RO.val (Wt.no rfl) rfl (PV.move rfl) ?_
        refine RO.val (Wt.no rfl) rfl (PV.loadM (l := S.t_Ring.enc ({ v6 with Parts := v17 } : S.Ring) (hf [q9])) 1 Try.TF33 rfl rfl (cut_self (S.t_Ring.len _ _)) rfl (by decide)) ?_
        refine RO.eff (Wt.no rfl) rfl (EV.call (K := _) Try.call16 rfl (SpecK.call [5, 3, 4, 6] (fun x : Hd × Hd × (Nat → Hs) => [frame D, .blk g11 (S.t_Ring.enc ({ v6 with Parts := v17 } : S.Ring) (hf [q9])), .blk g27 (S.t_Bag.enc v22 (hf [q25])), .blk g30 (S.t_ledger_Ledger.enc v43.l (hf [x.1])), rowE S.t_Deed 106 v43.l.l x.1, .blk g36 (S.t_vault_Vault.enc v43 (hf [(pq g30), x.2.1, (pq g37)])), mpE Value.string S.t_Bag g37 v43.bags x.2.2]) (Outs.cons rfl (Outs.cons rfl (Outs.cons rfl (Outs.cons rfl Outs.nil)))) (fun _ => (Outs.cons rfl (Outs.cons rfl (Outs.cons rfl (Outs.cons rfl Outs.nil))))) (W_vault_Vault_SetRing ({ v33 with l := v34 } : S.vault_Vault) ({ v6 with Parts := v17 } : S.Ring) g36 g30 g37 q40 q38 q39 q9 hx44 (fun w hΦ => ⟨(hΦ.2.2.2), (hΦ.2.1), (hΦ.2.2.1), (hΦ.1.1.1.2)⟩)))) ?_
        rintro _ _ _ ⟨⟨q45, q46, q47⟩, rfl, rfl, rfl⟩
        refine RO.nil ?_
        refine CW.reg ?_
        refine RO.val (Wt.no rfl) rfl (PV.move rfl) ?_
        refine RO.val (Wt.no rfl) rfl (PV.move rfl) ?_
        refine RO.val (Wt.no rfl) rfl (PV.move rfl) ?_
        refine RO.val (Wt.no rfl) rfl (PV.move rfl) ?_
        refine RO.val (Wt.no rfl) rfl (PV.loadM (l := S.t_Bag.enc v22 (hf [q25])) 2 Try.TF40 rfl rfl (cut_self (S.t_Bag.len _ _)) rfl (by decide)) ?_
        refine RO.val (Wt.no rfl) rfl (PV.buildS (B := S.t_Msg.enc ({ S.Msg.z with Kind := 5, From := (IntKind.i64.wrap (Int.tmod (IntKind.u64.wrap a5) 7)), To := 7, Seq := 1, Part := v12, Epoch := (IntKind.i64.wrap (Int.tmod (IntKind.u64.wrap a3) 12)), Key := a1, Bag := v22 } : S.Msg) (hf [q25, Hd.z, Hd.z])) (xs := [.const (.int .i64 5), .tmp 77, .const (.int .i64 7), .tmp 78, .tmp 79, .const (.int .i64 1), .tmp 80, .tmp 81]) [(0, 0, 1), (1, 1, 1), (2, 2, 1), (6, 6, 1), (7, 7, 1), (3, 3, 1), (8, 8, 1), (9, 9, 9)] Try.BT53 rfl rfl rfl (by decide) ⟨rfl, rfl, rfl, rfl, rfl, rfl, rfl, rfl, rfl, rfl, rfl, rfl, rfl, rfl, rfl, rfl, trivial⟩ rfl) ?_
        refine RO.eff (Wt.no rfl) rfl (EV.allocB (B := S.t_Msg.enc S.Msg.z (hf [Hd.z, Hd.z, Hd.z])) Try.zeroValue53 rfl) ?_
        rintro _ _ _ ⟨g49, rfl, rfl, rfl⟩
        refine RO.eff (Wt.no rfl) rfl (EV.storeW (B := S.t_Msg.enc ({ S.Msg.z with Kind := 5, From := (IntKind.i64.wrap (Int.tmod (IntKind.u64.wrap a5) 7)), To := 7, Seq := 1, Part := v12, Epoch := (IntKind.i64.wrap (Int.tmod (IntKind.u64.wrap a3) 12)), Key := a1, Bag := v22 } : S.Msg) (hf [q25, Hd.z, Hd.z])) 7 Try.TF53 rfl rfl rfl (by exact S.t_Msg.len ({ S.Msg.z with Kind := 5, From := (IntKind.i64.wrap (Int.tmod (IntKind.u64.wrap a5) 7)), To := 7, Seq := 1, Part := v12, Epoch := (IntKind.i64.wrap (Int.tmod (IntKind.u64.wrap a3) 12)), Key := a1, Bag := v22 } : S.Msg) (hf [q25, Hd.z, Hd.z])) (by exact S.t_Msg.one ({ S.Msg.z with Kind := 5, From := (IntKind.i64.wrap (Int.tmod (IntKind.u64.wrap a5) 7)), To := 7, Seq := 1, Part := v12, Epoch := (IntKind.i64.wrap (Int.tmod (IntKind.u64.wrap a3) 12)), Key := a1, Bag := v22 } : S.Msg) (hf [q25, Hd.z, Hd.z])) (S.t_Msg.len S.Msg.z (hf [Hd.z, Hd.z, Hd.z])) rfl) ?_
        rintro _ _ _ ⟨rfl, rfl, rfl⟩
        refine RO.nil ?_
        replace h := bindS h
        obtain ⟨e106, h, hk105⟩ := h
        refine CW.meet (X := Bool) (fun x => [(0, .string a1), (4, .int .i64 (IntKind.i64.wrap (Int.tmod (IntKind.u64.wrap a5) 7))), (10, .bool false), (14, .pointer (some ⟨g27, 0, none⟩)), (16, .pointer (some ⟨g36, 0, none⟩)), (17, .pointer (some ⟨g49, 0, none⟩)), (18, .bool x)]) (fun x => [frame D, .blk g11 (S.t_Ring.enc ({ v6 with Parts := v17 } : S.Ring) (hf [q9])), .blk g27 (S.t_Bag.enc v22 (hf [q25])), .blk g30 (S.t_ledger_Ledger.enc v43.l (hf [q45])), rowE S.t_Deed 106 v43.l.l q45, .blk g36 (S.t_vault_Vault.enc v43 (hf [(pq g30), q46, (pq g37)])), mpE Value.string S.t_Bag g37 v43.bags q47, .blk g49 (S.t_Msg.enc ({ S.Msg.z with Kind := 5, From := (IntKind.i64.wrap (Int.tmod (IntKind.u64.wrap a5) 7)), To := 7, Seq := 1, Part := v12, Epoch := (IntKind.i64.wrap (Int.tmod (IntKind.u64.wrap a3) 12)), Key := a1, Bag := v22 } : S.Msg) (hf [q25, Hd.z, Hd.z]))]) (fun x w => ((((((Φ w ∧ True) ∧ (slR (tInt .i64) w v6.Plan.Targets q9)) ∧ (slR S.t_Val w v22.Values q25)) ∧ (rdS S.t_Deed w v28.l q31.sub)) ∧ (slR (tInt .i64) w v33.ring.Plan.Targets q38 ∧ mpR S.t_Bag w v33.bags q39 ∧ rdS S.t_Deed w v34.l q40.sub)) ∧ (rdS S.t_Deed w v43.l.l q45.sub ∧ slR (tInt .i64) w v43.ring.Plan.Targets q46 ∧ mpR S.t_Bag w v43.bags q47))) (fun x => S.law21_TakeEpochs_j2 a5 v12 a3 a1 v22 v43 x = some r) ?_ ?_
        · skip
          by_cases hb107 : (decide ((w64 (1 + (IntKind.i64.wrap (Int.tmod (IntKind.u64.wrap a2) 9)))) < (IntKind.i64.wrap (Int.tmod (IntKind.u64.wrap a3) 12)))) = true
          · replace h := iteT hb107 h
            refine CW.region ?_
            refine RO.val (Wt.no rfl) rfl (PV.move rfl) ?_
            refine RO.val (Wt.no rfl) rfl (PV.move rfl) ?_
            refine RO.val (Wt.no rfl) rfl (PV.gtr rfl rfl) ?_
            refine RO.val (Wt.no rfl) rfl ((PV.move rfl).to (congrArg Value.bool hb107)) ?_
            refine RO.skip (Un.mk rfl rfl rfl rfl) rfl ?_
            refine RO.skip (Un.mk rfl rfl rfl rfl) rfl ?_
            refine RO.skip (Un.mk rfl rfl rfl rfl) rfl ?_
            refine RO.skip (Un.mk rfl rfl rfl rfl) rfl ?_
            refine RO.skip (Un.undef rfl rfl rfl rfl) rfl ?_
            refine RO.skip (Un.undef rfl rfl rfl rfl) rfl ?_
            refine RO.skip (Un.undef rfl rfl rfl rfl) rfl ?_
            refine RO.skip (Un.mk rfl rfl rfl rfl) rfl ?_
            refine RO.val (Wt.no rfl) rfl (PV.pickT rfl rfl) ?_
            refine RO.val (Wt.no rfl) rfl (PV.assign rfl) ?_
            refine RO.nil ?_
            obtain rfl := Option.some.inj h
            refine QC.meetP true hk105 [0, 1, 2, 3, 4, 5, 6, 7] (by decide) (by exact ⟨rfl, rfl, rfl, rfl, rfl, rfl, rfl, trivial⟩) rfl (fun w hΦ => hΦ)
          · replace hb107 := Bool.eq_false_iff.2 hb107
            replace h := iteF hb107 h
            by_cases hb108 : (decide ((IntKind.i64.wrap (Int.tmod (IntKind.u64.wrap a3) 12)) = (w64 (1 + (IntKind.i64.wrap (Int.tmod (IntKind.u64.wrap a2) 9)))))) = true
            · replace h := iteT hb108 h
              refine CW.region ?_
              refine RO.val (Wt.no rfl) rfl (PV.move rfl) ?_
              refine RO.val (Wt.no rfl) rfl (PV.move rfl) ?_
              refine RO.val (Wt.no rfl) rfl (PV.gtr rfl rfl) ?_
              refine RO.val (Wt.no rfl) rfl ((PV.move rfl).to (congrArg Value.bool hb107)) ?_
              refine RO.val (Wt.yes rfl rfl rfl rfl) rfl (PV.move rfl) ?_
              refine RO.val (Wt.yes rfl rfl rfl rfl) rfl (PV.move rfl) ?_
              refine RO.val (Wt.yes rfl rfl rfl rfl) rfl (PV.eql rfl rfl) ?_
              refine RO.val (Wt.yes rfl rfl rfl rfl) rfl ((PV.move rfl).to (congrArg Value.bool hb108)) ?_
              refine RO.val (Wt.yes rfl rfl rfl rfl) rfl (PV.move rfl) ?_
              refine RO.val (Wt.yes rfl rfl rfl rfl) rfl (PV.move rfl) ?_
              refine RO.val (Wt.yes rfl rfl rfl rfl) rfl (PV.eql rfl rfl) ?_
              refine RO.val (Wt.yes rfl rfl rfl rfl) rfl (PV.pickT rfl rfl) ?_
              refine RO.val (Wt.no rfl) rfl (PV.pickF rfl rfl) ?_
              refine RO.val (Wt.no rfl) rfl (PV.assign rfl) ?_
              refine RO.nil ?_
              obtain rfl := Option.some.inj h
              refine QC.meetP (decide ((IntKind.i64.wrap (Int.tmod (IntKind.u64.wrap a5) 7)) = (IntKind.i64.wrap (Int.tmod (IntKind.u64.wrap a4) 7)))) hk105 [0, 1, 2, 3, 4, 5, 6, 7] (by decide) (by exact ⟨rfl, rfl, rfl, rfl, rfl, rfl, rfl, trivial⟩) rfl (fun w hΦ => hΦ)
            · replace hb108 := Bool.eq_false_iff.2 hb108
              replace h := iteF hb108 h
              refine CW.region ?_
              refine RO.val (Wt.no rfl) rfl (PV.move rfl) ?_
              refine RO.val (Wt.no rfl) rfl (PV.move rfl) ?_
              refine RO.val (Wt.no rfl) rfl (PV.gtr rfl rfl) ?_
              refine RO.val (Wt.no rfl) rfl ((PV.move rfl).to (congrArg Value.bool hb107)) ?_
              refine RO.val (Wt.yes rfl rfl rfl rfl) rfl (PV.move rfl) ?_
              refine RO.val (Wt.yes rfl rfl rfl rfl) rfl (PV.move rfl) ?_
              refine RO.val (Wt.yes rfl rfl rfl rfl) rfl (PV.eql rfl rfl) ?_
              refine RO.val (Wt.yes rfl rfl rfl rfl) rfl ((PV.move rfl).to (congrArg Value.bool hb108)) ?_
              refine RO.skip (Un.mk rfl rfl rfl rfl) rfl ?_
              refine RO.skip (Un.mk rfl rfl rfl rfl) rfl ?_
              refine RO.skip (Un.mk rfl rfl rfl rfl) rfl ?_
              refine RO.val (Wt.yes rfl rfl rfl rfl) rfl (PV.pickF rfl rfl) ?_
              refine RO.val (Wt.no rfl) rfl (PV.pickF rfl rfl) ?_
              refine RO.val (Wt.no rfl) rfl (PV.assign rfl) ?_
              refine RO.nil ?_
              obtain rfl := Option.some.inj h
              refine QC.meetP false hk105 [0, 1, 2, 3, 4, 5, 6, 7] (by decide) (by exact ⟨rfl, rfl, rfl, rfl, rfl, rfl, rfl, trivial⟩) rfl (fun w hΦ => hΦ)
        · rintro v51 h
          try dsimp only at h ⊢
          unfold S.law21_TakeEpochs_j2 at h
          replace h := bindS h
          obtain ⟨⟨v52, v53, v54⟩, hx55, h⟩ := h
          dsimp only at h
          refine CW.reg ?_
          refine RO.val (Wt.no rfl) rfl (PV.loadM (l := S.t_Msg.enc ({ S.Msg.z with Kind := 5, From := (IntKind.i64.wrap (Int.tmod (IntKind.u64.wrap a5) 7)), To := 7, Seq := 1, Part := v12, Epoch := (IntKind.i64.wrap (Int.tmod (IntKind.u64.wrap a3) 12)), Key := a1, Bag := v22 } : S.Msg) (hf [q25, Hd.z, Hd.z])) 7 Try.TF53 rfl rfl (cut_self (S.t_Msg.len _ _)) rfl (by decide)) ?_
          refine RO.val (Wt.no rfl) rfl (PV.move rfl) ?_
          refine RO.eff (Wt.no rfl) rfl (EV.call (K := _) Try.call17 rfl (SpecK.call [5, 3, 4, 6] (fun x : Hd × Hd × Hd × Hd × Hd × (Nat → Hs) => [frame D, .blk g11 (S.t_Ring.enc ({ v6 with Parts := v17 } : S.Ring) (hf [q9])), .blk g27 (S.t_Bag.enc v22 (hf [q25])), .blk g30 (S.t_ledger_Ledger.enc v54.l (hf [x.2.2.2.1])), rowE S.t_Deed 106 v54.l.l x.2.2.2.1, .blk g36 (S.t_vault_Vault.enc v54 (hf [(pq g30), x.2.2.2.2.1, (pq g37)])), mpE Value.string S.t_Bag g37 v54.bags x.2.2.2.2.2, .blk g49 (S.t_Msg.enc ({ S.Msg.z with Kind := 5, From := (IntKind.i64.wrap (Int.tmod (IntKind.u64.wrap a5) 7)), To := 7, Seq := 1, Part := v12, Epoch := (IntKind.i64.wrap (Int.tmod (IntKind.u64.wrap a3) 12)), Key := a1, Bag := v22 } : S.Msg) (hf [q25, Hd.z, Hd.z]))]) (Outs.cons rfl (Outs.cons rfl (Outs.cons rfl (Outs.cons rfl Outs.nil)))) (fun _ => (Outs.cons rfl (Outs.cons rfl (Outs.cons rfl (Outs.cons rfl Outs.nil))))) (W_take_Give ({ S.Msg.z with Kind := 5, From := (IntKind.i64.wrap (Int.tmod (IntKind.u64.wrap a5) 7)), To := 7, Seq := 1, Part := v12, Epoch := (IntKind.i64.wrap (Int.tmod (IntKind.u64.wrap a3) 12)), Key := a1, Bag := v22 } : S.Msg) v43 g36 g30 g37 q25 Hd.z Hd.z q45 q46 q47 hx55 (fun w hΦ => ⟨(hΦ.1.1.1.2), (slR.nil _ _), (slR.nil _ _), (hΦ.2.1), (hΦ.2.2.1), (hΦ.2.2.2)⟩)))) ?_
          rintro _ _ _ ⟨⟨q56, q57, q58, q59, q60, q61⟩, rfl, rfl, rfl⟩
          refine RO.val (Wt.no rfl) rfl (PV.move rfl) ?_
          refine RO.val (Wt.no rfl) rfl (PV.extract rfl rfl) ?_
          refine RO.val (Wt.no rfl) rfl (PV.extract rfl rfl) ?_
          refine RO.eff (Wt.no rfl) rfl (EV.allocB (B := S.t_Msg.enc S.Msg.z (hf [Hd.z, Hd.z, Hd.z])) Try.zeroValue53 rfl) ?_
          rintro _ _ _ ⟨g63, rfl, rfl, rfl⟩
          refine RO.eff (Wt.no rfl) rfl (EV.storeW (B := S.t_Msg.enc v52 (hf [q56, q57, q58])) 8 Try.TF53 rfl rfl rfl (by exact S.t_Msg.len v52 (hf [q56, q57, q58])) (by exact S.t_Msg.one v52 (hf [q56, q57, q58])) (S.t_Msg.len S.Msg.z (hf [Hd.z, Hd.z, Hd.z])) rfl) ?_
          rintro _ _ _ ⟨rfl, rfl, rfl⟩
          refine RO.val (Wt.no rfl) rfl (PV.assign rfl) ?_
          refine RO.nil ?_
          refine CW.reg ?_
          refine RO.val (Wt.no rfl) rfl (PV.fieldAddr Try.fa53_0 rfl) ?_
          refine RO.eff (Wt.no rfl) rfl (EV.storeB (B := S.t_Msg.enc ({ S.Msg.z with Kind := 7, From := (IntKind.i64.wrap (Int.tmod (IntKind.u64.wrap a5) 7)), To := 7, Seq := 1, Part := v12, Epoch := (IntKind.i64.wrap (Int.tmod (IntKind.u64.wrap a3) 12)), Key := a1, Bag := v22 } : S.Msg) (hf [q25, Hd.z, Hd.z])) 7 Try.TF3 rfl rfl rfl rfl rfl (by rw [S.t_Msg.len]; decide) (wr_Msg_Kind ({ S.Msg.z with Kind := 5, From := (IntKind.i64.wrap (Int.tmod (IntKind.u64.wrap a5) 7)), To := 7, Seq := 1, Part := v12, Epoch := (IntKind.i64.wrap (Int.tmod (IntKind.u64.wrap a3) 12)), Key := a1, Bag := v22 } : S.Msg) q25 Hd.z Hd.z 7)) ?_
          rintro _ _ _ ⟨rfl, rfl, rfl⟩
          refine RO.nil ?_
          replace h := bindS h
          obtain ⟨⟨v64, v65, v66⟩, hx67, h⟩ := h
          dsimp only at h
          refine CW.reg ?_
          refine RO.val (Wt.no rfl) rfl (PV.loadM (l := S.t_Msg.enc ({ S.Msg.z with Kind := 7, From := (IntKind.i64.wrap (Int.tmod (IntKind.u64.wrap a5) 7)), To := 7, Seq := 1, Part := v12, Epoch := (IntKind.i64.wrap (Int.tmod (IntKind.u64.wrap a3) 12)), Key := a1, Bag := v22 } : S.Msg) (hf [q25, Hd.z, Hd.z])) 7 Try.TF53 rfl rfl (cut_self (S.t_Msg.len _ _)) rfl (by decide)) ?_
          refine RO.val (Wt.no rfl) rfl (PV.move rfl) ?_
          refine RO.eff (Wt.no rfl) rfl (EV.call (K := _) Try.call18 rfl (SpecK.call [5, 3, 4, 6] (fun x : Hd × Hd × Hd × Hd × Hd × (Nat → Hs) => [frame D, .blk g11 (S.t_Ring.enc ({ v6 with Parts := v17 } : S.Ring) (hf [q9])), .blk g27 (S.t_Bag.enc v22 (hf [q25])), .blk g30 (S.t_ledger_Ledger.enc v66.l (hf [x.2.2.2.1])), rowE S.t_Deed 106 v66.l.l x.2.2.2.1, .blk g36 (S.t_vault_Vault.enc v66 (hf [(pq g30), x.2.2.2.2.1, (pq g37)])), mpE Value.string S.t_Bag g37 v66.bags x.2.2.2.2.2, .blk g49 (S.t_Msg.enc ({ S.Msg.z with Kind := 7, From := (IntKind.i64.wrap (Int.tmod (IntKind.u64.wrap a5) 7)), To := 7, Seq := 1, Part := v12, Epoch := (IntKind.i64.wrap (Int.tmod (IntKind.u64.wrap a3) 12)), Key := a1, Bag := v22 } : S.Msg) (hf [q25, Hd.z, Hd.z])), .blk g63 (S.t_Msg.enc v52 (hf [q56, q57, q58]))]) (Outs.cons rfl (Outs.cons rfl (Outs.cons rfl (Outs.cons rfl Outs.nil)))) (fun _ => (Outs.cons rfl (Outs.cons rfl (Outs.cons rfl (Outs.cons rfl Outs.nil))))) (W_take_End ({ S.Msg.z with Kind := 7, From := (IntKind.i64.wrap (Int.tmod (IntKind.u64.wrap a5) 7)), To := 7, Seq := 1, Part := v12, Epoch := (IntKind.i64.wrap (Int.tmod (IntKind.u64.wrap a3) 12)), Key := a1, Bag := v22 } : S.Msg) v54 g36 g30 g37 q25 Hd.z Hd.z q59 q60 q61 hx67 (fun w hΦ => ⟨(hΦ.1.1.1.1.2), (slR.nil _ _), (slR.nil _ _), (hΦ.2.2.2.2.1), (hΦ.2.2.2.2.2.1), (hΦ.2.2.2.2.2.2)⟩)))) ?_
          rintro _ _ _ ⟨⟨q68, q69, q70, q71, q72, q73⟩, rfl, rfl, rfl⟩
          refine RO.val (Wt.no rfl) rfl (PV.move rfl) ?_
          refine RO.val (Wt.no rfl) rfl (PV.extract rfl rfl) ?_
          refine RO.val (Wt.no rfl) rfl (PV.extract rfl rfl) ?_
          refine RO.eff (Wt.no rfl) rfl (EV.allocB (B := S.t_Msg.enc S.Msg.z (hf [Hd.z, Hd.z, Hd.z])) Try.zeroValue53 rfl) ?_
          rintro _ _ _ ⟨g75, rfl, rfl, rfl⟩
          refine RO.eff (Wt.no rfl) rfl (EV.storeW (B := S.t_Msg.enc v64 (hf [q68, q69, q70])) 9 Try.TF53 rfl rfl rfl (by exact S.t_Msg.len v64 (hf [q68, q69, q70])) (by exact S.t_Msg.one v64 (hf [q68, q69, q70])) (S.t_Msg.len S.Msg.z (hf [Hd.z, Hd.z, Hd.z])) rfl) ?_
          rintro _ _ _ ⟨rfl, rfl, rfl⟩
          refine RO.val (Wt.no rfl) rfl (PV.assign rfl) ?_
          refine RO.nil ?_
          refine CW.seq ?_
          refine CW.reg ?_
          refine RO.val (Wt.no rfl) rfl (PV.move rfl) ?_
          refine RO.val (Wt.no rfl) rfl (PV.not rfl) ?_
          refine RO.nil ?_
          refine CW.cond rfl (fun hb76 => ?_) (fun hb76 => ?_)
          · replace h := iteT hb76 h
            replace h := bindS h
            obtain ⟨e80, h, hk79⟩ := h
            refine CW.meet (X := Bool) (fun x => [(0, .string a1), (4, .int .i64 (IntKind.i64.wrap (Int.tmod (IntKind.u64.wrap a5) 7))), (10, .bool x), (14, .pointer (some ⟨g27, 0, none⟩)), (16, .pointer (some ⟨g36, 0, none⟩)), (19, .pointer (some ⟨g63, 0, none⟩)), (20, .int .i64 v53), (22, .int .i64 v65)]) (fun x => [frame D, .blk g11 (S.t_Ring.enc ({ v6 with Parts := v17 } : S.Ring) (hf [q9])), .blk g27 (S.t_Bag.enc v22 (hf [q25])), .blk g30 (S.t_ledger_Ledger.enc v66.l (hf [q71])), rowE S.t_Deed 106 v66.l.l q71, .blk g36 (S.t_vault_Vault.enc v66 (hf [(pq g30), q72, (pq g37)])), mpE Value.string S.t_Bag g37 v66.bags q73, .blk g49 (S.t_Msg.enc ({ S.Msg.z with Kind := 7, From := (IntKind.i64.wrap (Int.tmod (IntKind.u64.wrap a5) 7)), To := 7, Seq := 1, Part := v12, Epoch := (IntKind.i64.wrap (Int.tmod (IntKind.u64.wrap a3) 12)), Key := a1, Bag := v22 } : S.Msg) (hf [q25, Hd.z, Hd.z])), .blk g63 (S.t_Msg.enc v52 (hf [q56, q57, q58])), .blk g75 (S.t_Msg.enc v64 (hf [q68, q69, q70]))]) (fun x w => ((((((((Φ w ∧ True) ∧ (slR (tInt .i64) w v6.Plan.Targets q9)) ∧ (slR S.t_Val w v22.Values q25)) ∧ (rdS S.t_Deed w v28.l q31.sub)) ∧ (slR (tInt .i64) w v33.ring.Plan.Targets q38 ∧ mpR S.t_Bag w v33.bags q39 ∧ rdS S.t_Deed w v34.l q40.sub)) ∧ (rdS S.t_Deed w v43.l.l q45.sub ∧ slR (tInt .i64) w v43.ring.Plan.Targets q46 ∧ mpR S.t_Bag w v43.bags q47)) ∧ (slR S.t_Val w v52.Bag.Values q56 ∧ slR (tInt .i64) w v52.Ring.Plan.Targets q57 ∧ slR S.t_Claim w v52.Claims q58 ∧ rdS S.t_Deed w v54.l.l q59.sub ∧ slR (tInt .i64) w v54.ring.Plan.Targets q60 ∧ mpR S.t_Bag w v54.bags q61)) ∧ (slR S.t_Val w v64.Bag.Values q68 ∧ slR (tInt .i64) w v64.Ring.Plan.Targets q69 ∧ slR S.t_Claim w v64.Claims q70 ∧ rdS S.t_Deed w v66.l.l q71.sub ∧ slR (tInt .i64) w v66.ring.Plan.Targets q72 ∧ mpR S.t_Bag w v66.bags q73))) (fun x => S.law21_TakeEpochs_j3 x = some r) ?_ ?_
            · skip
              by_cases hb81 : (decide (v53 = 11)) = true
              · replace h := iteT hb81 h
                by_cases hb82 : (decide (v65 = 11)) = true
                · replace h := iteT hb82 h
                  replace h := bindS h
                  obtain ⟨v83, hx84, h⟩ := h
                  replace h := bindS h
                  obtain ⟨v87, hx88, h⟩ := h
                  by_cases hb89 : v87 = true
                  · replace h := iteT hb89 h
                    subst hb89
                    replace h := bindS h
                    obtain ⟨v90, hx91, h⟩ := h
                    refine CW.region ?_
                    refine RO.val (Wt.no rfl) rfl (PV.move rfl) ?_
                    refine RO.val (Wt.no rfl) rfl (PV.eql rfl rfl) ?_
                    refine RO.val (Wt.no rfl) rfl ((PV.move rfl).to (congrArg Value.bool hb81)) ?_
                    refine RO.val (Wt.yes rfl rfl rfl rfl) rfl (PV.move rfl) ?_
                    refine RO.val (Wt.yes rfl rfl rfl rfl) rfl (PV.eql rfl rfl) ?_
                    refine RO.val (Wt.no rfl) rfl (PV.pickT rfl rfl) ?_
                    refine RO.val (Wt.no rfl) rfl ((PV.move rfl).to (congrArg Value.bool hb82)) ?_
                    refine RO.val (Wt.yes rfl rfl rfl rfl) rfl (PV.move rfl) ?_
                    refine RO.val (Wt.yes rfl rfl rfl rfl) rfl (PV.move rfl) ?_
                    refine RO.eff (Wt.yes rfl rfl rfl rfl) rfl (EV.call (K := _) Try.call20 rfl (SpecK.call [5, 3, 4, 6] (fun x : Hd => [frame D, .blk g11 (S.t_Ring.enc ({ v6 with Parts := v17 } : S.Ring) (hf [q9])), .blk g27 (S.t_Bag.enc v22 (hf [q25])), .blk g30 (S.t_ledger_Ledger.enc v66.l (hf [q71])), rowE S.t_Deed 106 v66.l.l q71, .blk g36 (S.t_vault_Vault.enc v66 (hf [(pq g30), q72, (pq g37)])), mpE Value.string S.t_Bag g37 v66.bags q73, .blk g49 (S.t_Msg.enc ({ S.Msg.z with Kind := 7, From := (IntKind.i64.wrap (Int.tmod (IntKind.u64.wrap a5) 7)), To := 7, Seq := 1, Part := v12, Epoch := (IntKind.i64.wrap (Int.tmod (IntKind.u64.wrap a3) 12)), Key := a1, Bag := v22 } : S.Msg) (hf [q25, Hd.z, Hd.z])), .blk g63 (S.t_Msg.enc v52 (hf [q56, q57, q58])), .blk g75 (S.t_Msg.enc v64 (hf [q68, q69, q70]))]) (Outs.cons rfl (Outs.cons rfl (Outs.cons rfl (Outs.cons rfl Outs.nil)))) (fun _ => (Outs.cons rfl (Outs.cons rfl (Outs.cons rfl (Outs.cons rfl Outs.nil))))) (W_vault_Vault_Bag v66 a1 g36 g30 g37 q71 q72 q73 hx84 (fun w hm hΦ => ⟨(hΦ.2.2.2.2.1), (hΦ.2.2.2.2.2.1), (hΦ.2.2.2.2.2.2)⟩)))) ?_
                    rintro _ _ _ ⟨q85, rfl, rfl, rfl⟩
                    refine RO.val (Wt.yes rfl rfl rfl rfl) rfl (PV.buildS (B := S.t_Bag.enc S.Bag.z (hf [Hd.z])) (xs := []) [] Try.BT40 rfl rfl rfl (by simp) trivial rfl) ?_
                    refine RO.eff (Wt.yes rfl rfl rfl rfl) rfl (EV.call (K := _) Try.call19 rfl (SpecK.callV (W_bag_Same v83 S.Bag.z q85 Hd.z hx88 (fun w hm hΦ => ⟨(hΦ.2), (slR.nil _ _)⟩)))) ?_
                    rintro _ _ _ ⟨_, rfl, rfl, rfl⟩
                    refine RO.val (Wt.no rfl) rfl (PV.pickT rfl rfl) ?_
                    refine RO.val (Wt.no rfl) rfl (PV.move rfl) ?_
                    refine RO.eff (Wt.yes rfl rfl rfl rfl) rfl (EV.call (K := _) Try.call9 rfl (SpecK.callV (W_law21_awake hx91))) ?_
                    rintro _ _ _ ⟨_, rfl, rfl, rfl⟩
                    refine RO.val (Wt.no rfl) rfl (PV.pickT rfl rfl) ?_
                    refine RO.val (Wt.no rfl) rfl (PV.assign rfl) ?_
                    refine RO.nil ?_
                    obtain rfl := Option.some.inj h
                    refine QC.meetP v90 hk79 [0, 1, 2, 3, 4, 5, 6, 7, 8, 9] (by decide) (by exact ⟨rfl, rfl, rfl, rfl, rfl, rfl, rfl, rfl, trivial⟩) rfl (fun w hΦ => hΦ.1)
                  · replace hb89 := Bool.eq_false_iff.2 hb89
                    replace h := iteF hb89 h
                    subst hb89
                    refine CW.region ?_
                    refine RO.val (Wt.no rfl) rfl (PV.move rfl) ?_
                    refine RO.val (Wt.no rfl) rfl (PV.eql rfl rfl) ?_
                    refine RO.val (Wt.no rfl) rfl ((PV.move rfl).to (congrArg Value.bool hb81)) ?_
                    refine RO.val (Wt.yes rfl rfl rfl rfl) rfl (PV.move rfl) ?_
                    refine RO.val (Wt.yes rfl rfl rfl rfl) rfl (PV.eql rfl rfl) ?_
                    refine RO.val (Wt.no rfl) rfl (PV.pickT rfl rfl) ?_
                    refine RO.val (Wt.no rfl) rfl ((PV.move rfl).to (congrArg Value.bool hb82)) ?_
                    refine RO.val (Wt.yes rfl rfl rfl rfl) rfl (PV.move rfl) ?_
                    refine RO.val (Wt.yes rfl rfl rfl rfl) rfl (PV.move rfl) ?_
                    refine RO.eff (Wt.yes rfl rfl rfl rfl) rfl (EV.call (K := _) Try.call20 rfl (SpecK.call [5, 3, 4, 6] (fun x : Hd => [frame D, .blk g11 (S.t_Ring.enc ({ v6 with Parts := v17 } : S.Ring) (hf [q9])), .blk g27 (S.t_Bag.enc v22 (hf [q25])), .blk g30 (S.t_ledger_Ledger.enc v66.l (hf [q71])), rowE S.t_Deed 106 v66.l.l q71, .blk g36 (S.t_vault_Vault.enc v66 (hf [(pq g30), q72, (pq g37)])), mpE Value.string S.t_Bag g37 v66.bags q73, .blk g49 (S.t_Msg.enc ({ S.Msg.z with Kind := 7, From := (IntKind.i64.wrap (Int.tmod (IntKind.u64.wrap a5) 7)), To := 7, Seq := 1, Part := v12, Epoch := (IntKind.i64.wrap (Int.tmod (IntKind.u64.wrap a3) 12)), Key := a1, Bag := v22 } : S.Msg) (hf [q25, Hd.z, Hd.z])), .blk g63 (S.t_Msg.enc v52 (hf [q56, q57, q58])), .blk g75 (S.t_Msg.enc v64 (hf [q68, q69, q70]))]) (Outs.cons rfl (Outs.cons rfl (Outs.cons rfl (Outs.cons rfl Outs.nil)))) (fun _ => (Outs.cons rfl (Outs.cons rfl (Outs.cons rfl (Outs.cons rfl Outs.nil))))) (W_vault_Vault_Bag v66 a1 g36 g30 g37 q71 q72 q73 hx84 (fun w hm hΦ => ⟨(hΦ.2.2.2.2.1), (hΦ.2.2.2.2.2.1), (hΦ.2.2.2.2.2.2)⟩)))) ?_
                    rintro _ _ _ ⟨q85, rfl, rfl, rfl⟩
                    refine RO.val (Wt.yes rfl rfl rfl rfl) rfl (PV.buildS (B := S.t_Bag.enc S.Bag.z (hf [Hd.z])) (xs := []) [] Try.BT40 rfl rfl rfl (by simp) trivial rfl) ?_
                    refine RO.eff (Wt.yes rfl rfl rfl rfl) rfl (EV.call (K := _) Try.call19 rfl (SpecK.callV (W_bag_Same v83 S.Bag.z q85 Hd.z hx88 (fun w hm hΦ => ⟨(hΦ.2), (slR.nil _ _)⟩)))) ?_
                    rintro _ _ _ ⟨_, rfl, rfl, rfl⟩
                    refine RO.val (Wt.no rfl) rfl (PV.pickT rfl rfl) ?_
                    refine RO.val (Wt.no rfl) rfl (PV.move rfl) ?_
                    refine RO.skip (Un.mk rfl rfl rfl rfl) rfl ?_
                    refine RO.val (Wt.no rfl) rfl (PV.pickF rfl rfl) ?_
                    refine RO.val (Wt.no rfl) rfl (PV.assign rfl) ?_
                    refine RO.nil ?_
                    obtain rfl := Option.some.inj h
                    refine QC.meetP false hk79 [0, 1, 2, 3, 4, 5, 6, 7, 8, 9] (by decide) (by exact ⟨rfl, rfl, rfl, rfl, rfl, rfl, rfl, rfl, trivial⟩) rfl (fun w hΦ => hΦ.1)
                · replace hb82 := Bool.eq_false_iff.2 hb82
                  replace h := iteF hb82 h
                  refine CW.region ?_
                  refine RO.val (Wt.no rfl) rfl (PV.move rfl) ?_
                  refine RO.val (Wt.no rfl) rfl (PV.eql rfl rfl) ?_
                  refine RO.val (Wt.no rfl) rfl ((PV.move rfl).to (congrArg Value.bool hb81)) ?_
                  refine RO.val (Wt.yes rfl rfl rfl rfl) rfl (PV.move rfl) ?_
                  refine RO.val (Wt.yes rfl rfl rfl rfl) rfl (PV.eql rfl rfl) ?_
                  refine RO.val (Wt.no rfl) rfl (PV.pickT rfl rfl) ?_
                  refine RO.val (Wt.no rfl) rfl ((PV.move rfl).to (congrArg Value.bool hb82)) ?_
                  refine RO.skip (Un.mk rfl rfl rfl rfl) rfl ?_
                  refine RO.skip (Un.mk rfl rfl rfl rfl) rfl ?_
                  refine RO.skip (Un.mk rfl rfl rfl rfl) rfl ?_
                  refine RO.skip (Un.mk rfl rfl rfl rfl) rfl ?_
                  refine RO.skip (Un.mk rfl rfl rfl rfl) rfl ?_
                  refine RO.val (Wt.no rfl) rfl (PV.pickF rfl rfl) ?_
                  refine RO.val (Wt.no rfl) rfl (PV.move rfl) ?_
                  refine RO.skip (Un.mk rfl rfl rfl rfl) rfl ?_
                  refine RO.val (Wt.no rfl) rfl (PV.pickF rfl rfl) ?_
                  refine RO.val (Wt.no rfl) rfl (PV.assign rfl) ?_
                  refine RO.nil ?_
                  obtain rfl := Option.some.inj h
                  refine QC.meetP false hk79 [0, 1, 2, 3, 4, 5, 6, 7, 8, 9] (by decide) (by exact ⟨rfl, rfl, rfl, rfl, rfl, rfl, rfl, rfl, trivial⟩) rfl (fun w hΦ => hΦ)
              · replace hb81 := Bool.eq_false_iff.2 hb81
                replace h := iteF hb81 h
                refine CW.region ?_
                refine RO.val (Wt.no rfl) rfl (PV.move rfl) ?_
                refine RO.val (Wt.no rfl) rfl (PV.eql rfl rfl) ?_
                refine RO.val (Wt.no rfl) rfl ((PV.move rfl).to (congrArg Value.bool hb81)) ?_
                refine RO.skip (Un.mk rfl rfl rfl rfl) rfl ?_
                refine RO.skip (Un.mk rfl rfl rfl rfl) rfl ?_
                refine RO.val (Wt.no rfl) rfl (PV.pickF rfl rfl) ?_
                refine RO.val (Wt.no rfl) rfl (PV.move rfl) ?_
                refine RO.skip (Un.mk rfl rfl rfl rfl) rfl ?_
                refine RO.skip (Un.mk rfl rfl rfl rfl) rfl ?_
                refine RO.skip (Un.mk rfl rfl rfl rfl) rfl ?_
                refine RO.skip (Un.mk rfl rfl rfl rfl) rfl ?_
                refine RO.skip (Un.mk rfl rfl rfl rfl) rfl ?_
                refine RO.val (Wt.no rfl) rfl (PV.pickF rfl rfl) ?_
                refine RO.val (Wt.no rfl) rfl (PV.move rfl) ?_
                refine RO.skip (Un.mk rfl rfl rfl rfl) rfl ?_
                refine RO.val (Wt.no rfl) rfl (PV.pickF rfl rfl) ?_
                refine RO.val (Wt.no rfl) rfl (PV.assign rfl) ?_
                refine RO.nil ?_
                obtain rfl := Option.some.inj h
                refine QC.meetP false hk79 [0, 1, 2, 3, 4, 5, 6, 7, 8, 9] (by decide) (by exact ⟨rfl, rfl, rfl, rfl, rfl, rfl, rfl, rfl, trivial⟩) rfl (fun w hΦ => hΦ)
            · rintro v78 h
              try dsimp only at h ⊢
              unfold S.law21_TakeEpochs_j3 at h
              refine CW.ret ?_
              refine QC.then_r ?_
              obtain rfl := Option.some.inj h
              exact retP1 (Ψ := Φ) [0] (by decide) rfl (RV.tmp rfl) rfl (fun w hΦ => hΦ.1.1.1.1.1.1.1.1) ⟨(), rfl, rfl, rfl⟩
          · replace h := iteF hb76 h
            refine CW.skip ?_
            refine QC.then_n ?_
            by_cases hb92 : (decide (v53 = 0)) = true
            · replace h := iteT hb92 h
              by_cases hb93 : (decide (v65 = 0)) = true
              · replace h := iteT hb93 h
                replace h := bindS h
                obtain ⟨v94, hx95, h⟩ := h
                replace h := bindS h
                obtain ⟨v98, hx99, h⟩ := h
                by_cases hb100 : v98 = true
                · replace h := iteT hb100 h
                  subst hb100
                  by_cases hb101 : (decide (v52.Kind = 6)) = true
                  · replace h := iteT hb101 h
                    by_cases hb102 : (decide (v52.To = (IntKind.i64.wrap (Int.tmod (IntKind.u64.wrap a5) 7)))) = true
                    · replace h := iteT hb102 h
                      replace h := bindS h
                      obtain ⟨v103, hx104, h⟩ := h
                      refine CW.regD (pickM [0, 1, 2, 3, 4, 5, 6, 7, 8, 9] _) _ (by kernel_rfl) (St.of (by decide) rfl (fun _ h => h)) ?_
                      refine RD.take 0 rfl (by kernel_rfl) (by kernel_rfl) (by kernel_rfl) (Wt.no rfl) rfl (PV.move rfl) ?_
                      refine RD.take 1 rfl (by kernel_rfl) (by kernel_rfl) (by kernel_rfl) (Wt.no rfl) rfl (PV.eql rfl rfl) ?_
                      refine RD.take 2 rfl (by kernel_rfl) (by kernel_rfl) (by kernel_rfl) (Wt.no rfl) rfl ((PV.move rfl).to (congrArg Value.bool hb92)) ?_
                      refine RD.take 3 rfl (by kernel_rfl) (by kernel_rfl) (by kernel_rfl) (Wt.yes rfl rfl rfl rfl) rfl (PV.move rfl) ?_
                      refine RD.take 4 rfl (by kernel_rfl) (by kernel_rfl) (by kernel_rfl) (Wt.yes rfl rfl rfl rfl) rfl (PV.eql rfl rfl) ?_
                      refine RD.take 5 rfl (by kernel_rfl) (by kernel_rfl) (by kernel_rfl) (Wt.no rfl) rfl (PV.pickT rfl rfl) ?_
                      refine RD.take 6 rfl (by kernel_rfl) (by kernel_rfl) (by kernel_rfl) (Wt.no rfl) rfl ((PV.move rfl).to (congrArg Value.bool hb93)) ?_
                      refine RD.take 7 rfl (by kernel_rfl) (by kernel_rfl) (by kernel_rfl) (Wt.yes rfl rfl rfl rfl) rfl (PV.move rfl) ?_
                      refine RD.take 8 rfl (by kernel_rfl) (by kernel_rfl) (by kernel_rfl) (Wt.yes rfl rfl rfl rfl) rfl (PV.move rfl) ?_
                      refine RD.take 10 rfl (by kernel_rfl) (by kernel_rfl) (by kernel_rfl) (Wt.yes rfl rfl rfl rfl) rfl (PV.loadM (l := S.t_Bag.enc v22 (hf [q25])) 2 Try.TF40 rfl rfl (cut_self (S.t_Bag.len _ _)) rfl (by decide)) ?_
                      refine RD.one 9 (by kernel_rfl) ?_
                      refine Up.eff rfl (Wt.yes rfl rfl rfl rfl) rfl (EV.call (K := _) Try.call20 rfl (SpecK.call [5, 3, 4, 6] (fun x : Hd => [frame D, .blk g11 (S.t_Ring.enc ({ v6 with Parts := v17 } : S.Ring) (hf [q9])), .blk g27 (S.t_Bag.enc v22 (hf [q25])), .blk g30 (S.t_ledger_Ledger.enc v66.l (hf [q71])), rowE S.t_Deed 106 v66.l.l q71, .blk g36 (S.t_vault_Vault.enc v66 (hf [(pq g30), q72, (pq g37)])), mpE Value.string S.t_Bag g37 v66.bags q73, .blk g49 (S.t_Msg.enc ({ S.Msg.z with Kind := 7, From := (IntKind.i64.wrap (Int.tmod (IntKind.u64.wrap a5) 7)), To := 7, Seq := 1, Part := v12, Epoch := (IntKind.i64.wrap (Int.tmod (IntKind.u64.wrap a3) 12)), Key := a1, Bag := v22 } : S.Msg) (hf [q25, Hd.z, Hd.z])), .blk g63 (S.t_Msg.enc v52 (hf [q56, q57, q58])), .blk g75 (S.t_Msg.enc v64 (hf [q68, q69, q70]))]) (Outs.cons rfl (Outs.cons rfl (Outs.cons rfl (Outs.cons rfl Outs.nil)))) (fun _ => (Outs.cons rfl (Outs.cons rfl (Outs.cons rfl (Outs.cons rfl Outs.nil))))) (W_vault_Vault_Bag v66 a1 g36 g30 g37 q71 q72 q73 hx95 (fun w hm hΦ => ⟨(hΦ.2.2.2.2.1), (hΦ.2.2.2.2.2.1), (hΦ.2.2.2.2.2.2)⟩)))) ?_ ?_
                      · rintro _ _ _ ⟨q96, rfl, rfl, rfl⟩; exact St.of' (by decide) (L' := [0, 1, 2, 3, 4, 5, 6, 7, 8, 9]) rfl (fun _ h => h.1)
                      rintro _ _ _ ⟨q96, rfl, rfl, rfl⟩
                      refine RD.one 11 (by kernel_rfl) ?_
                      refine Up.eff rfl (Wt.yes rfl rfl rfl rfl) rfl (EV.call (K := _) Try.call19 rfl (SpecK.callV (W_bag_Same v94 v22 q96 q25 hx99 (fun w hm hΦ => ⟨(hΦ.2), (hΦ.1.1.1.1.1.1.2)⟩)))) ?_ ?_
                      · rintro _ _ _ ⟨_, rfl, rfl, rfl⟩; exact St.of' (by decide) (L' := [0, 1, 2, 3, 4, 5, 6, 7, 8, 9]) rfl (fun _ h => h.1)
                      rintro _ _ _ ⟨_, rfl, rfl, rfl⟩
                      refine RD.take 12 rfl (by kernel_rfl) (by kernel_rfl) (by kernel_rfl) (Wt.no rfl) rfl (PV.pickT rfl rfl) ?_
                      refine RD.take 13 rfl (by kernel_rfl) (by kernel_rfl) (by kernel_rfl) (Wt.no rfl) rfl (PV.move rfl) ?_
                      refine RD.take 14 rfl (by kernel_rfl) (by kernel_rfl) (by kernel_rfl) (Wt.yes rfl rfl rfl rfl) rfl (PV.fieldAddr Try.fa53_0 rfl) ?_
                      refine RD.take 15 rfl (by kernel_rfl) (by kernel_rfl) (by kernel_rfl) (Wt.yes rfl rfl rfl rfl) rfl (PV.loadM (l := [.int .i64 v52.Kind]) 8 Try.TF3 rfl rfl (cut_Msg_Kind _ _) rfl (by decide)) ?_
                      refine RD.take 16 rfl (by kernel_rfl) (by kernel_rfl) (by kernel_rfl) (Wt.yes rfl rfl rfl rfl) rfl (PV.eql rfl rfl) ?_
                      refine RD.take 17 rfl (by kernel_rfl) (by kernel_rfl) (by kernel_rfl) (Wt.no rfl) rfl (PV.pickT rfl rfl) ?_
                      refine RD.take 18 rfl (by kernel_rfl) (by kernel_rfl) (by kernel_rfl) (Wt.no rfl) rfl ((PV.move rfl).to (congrArg Value.bool hb101)) ?_
                      refine RD.take 19 rfl (by kernel_rfl) (by kernel_rfl) (by kernel_rfl) (Wt.yes rfl rfl rfl rfl) rfl (PV.fieldAddr Try.fa53_2 rfl) ?_
                      refine RD.take 20 rfl (by kernel_rfl) (by kernel_rfl) (by kernel_rfl) (Wt.yes rfl rfl rfl rfl) rfl (PV.loadM (l := [.int .i64 v52.To]) 8 Try.TF3 rfl rfl (cut_Msg_To _ _) rfl (by decide)) ?_
                      refine RD.take 21 rfl (by kernel_rfl) (by kernel_rfl) (by kernel_rfl) (Wt.yes rfl rfl rfl rfl) rfl (PV.move rfl) ?_
                      refine RD.take 22 rfl (by kernel_rfl) (by kernel_rfl) (by kernel_rfl) (Wt.yes rfl rfl rfl rfl) rfl (PV.eql rfl rfl) ?_
                      refine RD.take 23 rfl (by kernel_rfl) (by kernel_rfl) (by kernel_rfl) (Wt.no rfl) rfl (PV.pickT rfl rfl) ?_
                      refine RD.take 24 rfl (by kernel_rfl) (by kernel_rfl) (by kernel_rfl) (Wt.no rfl) rfl ((PV.move rfl).to (congrArg Value.bool hb102)) ?_
                      refine RD.one 25 (by kernel_rfl) ?_
                      refine Up.eff rfl (Wt.yes rfl rfl rfl rfl) rfl (EV.call (K := _) Try.call9 rfl (SpecK.callV (W_law21_awake hx104))) ?_ ?_
                      · rintro _ _ _ ⟨_, rfl, rfl, rfl⟩; exact St.of' (by decide) (L' := [0, 1, 2, 3, 4, 5, 6, 7, 8, 9]) rfl (fun _ h => h.1)
                      rintro _ _ _ ⟨_, rfl, rfl, rfl⟩
                      refine RD.take 26 rfl (by kernel_rfl) (by kernel_rfl) (by kernel_rfl) (Wt.no rfl) rfl (PV.pickT rfl rfl) ?_
                      refine RD.take 27 rfl (by kernel_rfl) (by kernel_rfl) (by kernel_rfl) (Wt.no rfl) rfl (PV.assign rfl) ?_
                      refine RD.done (by kernel_rfl) ?_
                      refine CW.ret ?_
                      obtain rfl := Option.some.inj h
                      exact retP1 (Ψ := Φ) [0] (by decide) rfl (RV.tmp rfl) rfl (fun w hΦ => hΦ.1.1.1.1.1.1.1.1.1) ⟨(), rfl, rfl, rfl⟩
                    · replace hb102 := Bool.eq_false_iff.2 hb102
                      replace h := iteF hb102 h
                      refine CW.regD (pickM [0, 1, 2, 3, 4, 5, 6, 7, 8, 9] _) _ (by kernel_rfl) (St.of (by decide) rfl (fun _ h => h)) ?_
                      refine RD.take 0 rfl (by kernel_rfl) (by kernel_rfl) (by kernel_rfl) (Wt.no rfl) rfl (PV.move rfl) ?_
                      refine RD.take 1 rfl (by kernel_rfl) (by kernel_rfl) (by kernel_rfl) (Wt.no rfl) rfl (PV.eql rfl rfl) ?_
                      refine RD.take 2 rfl (by kernel_rfl) (by kernel_rfl) (by kernel_rfl) (Wt.no rfl) rfl ((PV.move rfl).to (congrArg Value.bool hb92)) ?_
                      refine RD.take 3 rfl (by kernel_rfl) (by kernel_rfl) (by kernel_rfl) (Wt.yes rfl rfl rfl rfl) rfl (PV.move rfl) ?_
                      refine RD.take 4 rfl (by kernel_rfl) (by kernel_rfl) (by kernel_rfl) (Wt.yes rfl rfl rfl rfl) rfl (PV.eql rfl rfl) ?_
                      refine RD.take 5 rfl (by kernel_rfl) (by kernel_rfl) (by kernel_rfl) (Wt.no rfl) rfl (PV.pickT rfl rfl) ?_
                      refine RD.take 6 rfl (by kernel_rfl) (by kernel_rfl) (by kernel_rfl) (Wt.no rfl) rfl ((PV.move rfl).to (congrArg Value.bool hb93)) ?_
                      refine RD.take 7 rfl (by kernel_rfl) (by kernel_rfl) (by kernel_rfl) (Wt.yes rfl rfl rfl rfl) rfl (PV.move rfl) ?_
                      refine RD.take 8 rfl (by kernel_rfl) (by kernel_rfl) (by kernel_rfl) (Wt.yes rfl rfl rfl rfl) rfl (PV.move rfl) ?_
                      refine RD.take 10 rfl (by kernel_rfl) (by kernel_rfl) (by kernel_rfl) (Wt.yes rfl rfl rfl rfl) rfl (PV.loadM (l := S.t_Bag.enc v22 (hf [q25])) 2 Try.TF40 rfl rfl (cut_self (S.t_Bag.len _ _)) rfl (by decide)) ?_
                      refine RD.one 9 (by kernel_rfl) ?_
                      refine Up.eff rfl (Wt.yes rfl rfl rfl rfl) rfl (EV.call (K := _) Try.call20 rfl (SpecK.call [5, 3, 4, 6] (fun x : Hd => [frame D, .blk g11 (S.t_Ring.enc ({ v6 with Parts := v17 } : S.Ring) (hf [q9])), .blk g27 (S.t_Bag.enc v22 (hf [q25])), .blk g30 (S.t_ledger_Ledger.enc v66.l (hf [q71])), rowE S.t_Deed 106 v66.l.l q71, .blk g36 (S.t_vault_Vault.enc v66 (hf [(pq g30), q72, (pq g37)])), mpE Value.string S.t_Bag g37 v66.bags q73, .blk g49 (S.t_Msg.enc ({ S.Msg.z with Kind := 7, From := (IntKind.i64.wrap (Int.tmod (IntKind.u64.wrap a5) 7)), To := 7, Seq := 1, Part := v12, Epoch := (IntKind.i64.wrap (Int.tmod (IntKind.u64.wrap a3) 12)), Key := a1, Bag := v22 } : S.Msg) (hf [q25, Hd.z, Hd.z])), .blk g63 (S.t_Msg.enc v52 (hf [q56, q57, q58])), .blk g75 (S.t_Msg.enc v64 (hf [q68, q69, q70]))]) (Outs.cons rfl (Outs.cons rfl (Outs.cons rfl (Outs.cons rfl Outs.nil)))) (fun _ => (Outs.cons rfl (Outs.cons rfl (Outs.cons rfl (Outs.cons rfl Outs.nil))))) (W_vault_Vault_Bag v66 a1 g36 g30 g37 q71 q72 q73 hx95 (fun w hm hΦ => ⟨(hΦ.2.2.2.2.1), (hΦ.2.2.2.2.2.1), (hΦ.2.2.2.2.2.2)⟩)))) ?_ ?_
                      · rintro _ _ _ ⟨q96, rfl, rfl, rfl⟩; exact St.of' (by decide) (L' := [0, 1, 2, 3, 4, 5, 6, 7, 8, 9]) rfl (fun _ h => h.1)
                      rintro _ _ _ ⟨q96, rfl, rfl, rfl⟩
                      refine RD.one 11 (by kernel_rfl) ?_
                      refine Up.eff rfl (Wt.yes rfl rfl rfl rfl) rfl (EV.call (K := _) Try.call19 rfl (SpecK.callV (W_bag_Same v94 v22 q96 q25 hx99 (fun w hm hΦ => ⟨(hΦ.2), (hΦ.1.1.1.1.1.1.2)⟩)))) ?_ ?_
                      · rintro _ _ _ ⟨_, rfl, rfl, rfl⟩; exact St.of' (by decide) (L' := [0, 1, 2, 3, 4, 5, 6, 7, 8, 9]) rfl (fun _ h => h.1)
                      rintro _ _ _ ⟨_, rfl, rfl, rfl⟩
                      refine RD.take 12 rfl (by kernel_rfl) (by kernel_rfl) (by kernel_rfl) (Wt.no rfl) rfl (PV.pickT rfl rfl) ?_
                      refine RD.take 13 rfl (by kernel_rfl) (by kernel_rfl) (by kernel_rfl) (Wt.no rfl) rfl (PV.move rfl) ?_
                      refine RD.take 14 rfl (by kernel_rfl) (by kernel_rfl) (by kernel_rfl) (Wt.yes rfl rfl rfl rfl) rfl (PV.fieldAddr Try.fa53_0 rfl) ?_
                      refine RD.take 15 rfl (by kernel_rfl) (by kernel_rfl) (by kernel_rfl) (Wt.yes rfl rfl rfl rfl) rfl (PV.loadM (l := [.int .i64 v52.Kind]) 8 Try.TF3 rfl rfl (cut_Msg_Kind _ _) rfl (by decide)) ?_
                      refine RD.take 16 rfl (by kernel_rfl) (by kernel_rfl) (by kernel_rfl) (Wt.yes rfl rfl rfl rfl) rfl (PV.eql rfl rfl) ?_
                      refine RD.take 17 rfl (by kernel_rfl) (by kernel_rfl) (by kernel_rfl) (Wt.no rfl) rfl (PV.pickT rfl rfl) ?_
                      refine RD.take 18 rfl (by kernel_rfl) (by kernel_rfl) (by kernel_rfl) (Wt.no rfl) rfl ((PV.move rfl).to (congrArg Value.bool hb101)) ?_
                      refine RD.take 19 rfl (by kernel_rfl) (by kernel_rfl) (by kernel_rfl) (Wt.yes rfl rfl rfl rfl) rfl (PV.fieldAddr Try.fa53_2 rfl) ?_
                      refine RD.take 20 rfl (by kernel_rfl) (by kernel_rfl) (by kernel_rfl) (Wt.yes rfl rfl rfl rfl) rfl (PV.loadM (l := [.int .i64 v52.To]) 8 Try.TF3 rfl rfl (cut_Msg_To _ _) rfl (by decide)) ?_
                      refine RD.take 21 rfl (by kernel_rfl) (by kernel_rfl) (by kernel_rfl) (Wt.yes rfl rfl rfl rfl) rfl (PV.move rfl) ?_
                      refine RD.take 22 rfl (by kernel_rfl) (by kernel_rfl) (by kernel_rfl) (Wt.yes rfl rfl rfl rfl) rfl (PV.eql rfl rfl) ?_
                      refine RD.take 23 rfl (by kernel_rfl) (by kernel_rfl) (by kernel_rfl) (Wt.no rfl) rfl (PV.pickT rfl rfl) ?_
                      refine RD.take 24 rfl (by kernel_rfl) (by kernel_rfl) (by kernel_rfl) (Wt.no rfl) rfl ((PV.move rfl).to (congrArg Value.bool hb102)) ?_
                      refine RD.takeNo 25 rfl (by kernel_rfl) (by kernel_rfl) (by kernel_rfl) (Un.mk rfl rfl rfl rfl) rfl ?_
                      refine RD.take 26 rfl (by kernel_rfl) (by kernel_rfl) (by kernel_rfl) (Wt.no rfl) rfl (PV.pickF rfl rfl) ?_
                      refine RD.take 27 rfl (by kernel_rfl) (by kernel_rfl) (by kernel_rfl) (Wt.no rfl) rfl (PV.assign rfl) ?_
                      refine RD.done (by kernel_rfl) ?_
                      refine CW.ret ?_
                      obtain rfl := Option.some.inj h
                      exact retP1 (Ψ := Φ) [0] (by decide) rfl (RV.tmp rfl) rfl (fun w hΦ => hΦ.1.1.1.1.1.1.1.1.1) ⟨(), rfl, rfl, rfl⟩
                  · replace hb101 := Bool.eq_false_iff.2 hb101
                    replace h := iteF hb101 h
                    refine CW.regD (pickM [0, 1, 2, 3, 4, 5, 6, 7, 8, 9] _) _ (by kernel_rfl) (St.of (by decide) rfl (fun _ h => h)) ?_
                    refine RD.take 0 rfl (by kernel_rfl) (by kernel_rfl) (by kernel_rfl) (Wt.no rfl) rfl (PV.move rfl) ?_
                    refine RD.take 1 rfl (by kernel_rfl) (by kernel_rfl) (by kernel_rfl) (Wt.no rfl) rfl (PV.eql rfl rfl) ?_
                    refine RD.take 2 rfl (by kernel_rfl) (by kernel_rfl) (by kernel_rfl) (Wt.no rfl) rfl ((PV.move rfl).to (congrArg Value.bool hb92)) ?_
                    refine RD.take 3 rfl (by kernel_rfl) (by kernel_rfl) (by kernel_rfl) (Wt.yes rfl rfl rfl rfl) rfl (PV.move rfl) ?_
                    refine RD.take 4 rfl (by kernel_rfl) (by kernel_rfl) (by kernel_rfl) (Wt.yes rfl rfl rfl rfl) rfl (PV.eql rfl rfl) ?_
                    refine RD.take 5 rfl (by kernel_rfl) (by kernel_rfl) (by kernel_rfl) (Wt.no rfl) rfl (PV.pickT rfl rfl) ?_
                    refine RD.take 6 rfl (by kernel_rfl) (by kernel_rfl) (by kernel_rfl) (Wt.no rfl) rfl ((PV.move rfl).to (congrArg Value.bool hb93)) ?_
                    refine RD.take 7 rfl (by kernel_rfl) (by kernel_rfl) (by kernel_rfl) (Wt.yes rfl rfl rfl rfl) rfl (PV.move rfl) ?_
                    refine RD.take 8 rfl (by kernel_rfl) (by kernel_rfl) (by kernel_rfl) (Wt.yes rfl rfl rfl rfl) rfl (PV.move rfl) ?_
                    refine RD.take 10 rfl (by kernel_rfl) (by kernel_rfl) (by kernel_rfl) (Wt.yes rfl rfl rfl rfl) rfl (PV.loadM (l := S.t_Bag.enc v22 (hf [q25])) 2 Try.TF40 rfl rfl (cut_self (S.t_Bag.len _ _)) rfl (by decide)) ?_
                    refine RD.one 9 (by kernel_rfl) ?_
                    refine Up.eff rfl (Wt.yes rfl rfl rfl rfl) rfl (EV.call (K := _) Try.call20 rfl (SpecK.call [5, 3, 4, 6] (fun x : Hd => [frame D, .blk g11 (S.t_Ring.enc ({ v6 with Parts := v17 } : S.Ring) (hf [q9])), .blk g27 (S.t_Bag.enc v22 (hf [q25])), .blk g30 (S.t_ledger_Ledger.enc v66.l (hf [q71])), rowE S.t_Deed 106 v66.l.l q71, .blk g36 (S.t_vault_Vault.enc v66 (hf [(pq g30), q72, (pq g37)])), mpE Value.string S.t_Bag g37 v66.bags q73, .blk g49 (S.t_Msg.enc ({ S.Msg.z with Kind := 7, From := (IntKind.i64.wrap (Int.tmod (IntKind.u64.wrap a5) 7)), To := 7, Seq := 1, Part := v12, Epoch := (IntKind.i64.wrap (Int.tmod (IntKind.u64.wrap a3) 12)), Key := a1, Bag := v22 } : S.Msg) (hf [q25, Hd.z, Hd.z])), .blk g63 (S.t_Msg.enc v52 (hf [q56, q57, q58])), .blk g75 (S.t_Msg.enc v64 (hf [q68, q69, q70]))]) (Outs.cons rfl (Outs.cons rfl (Outs.cons rfl (Outs.cons rfl Outs.nil)))) (fun _ => (Outs.cons rfl (Outs.cons rfl (Outs.cons rfl (Outs.cons rfl Outs.nil))))) (W_vault_Vault_Bag v66 a1 g36 g30 g37 q71 q72 q73 hx95 (fun w hm hΦ => ⟨(hΦ.2.2.2.2.1), (hΦ.2.2.2.2.2.1), (hΦ.2.2.2.2.2.2)⟩)))) ?_ ?_
                    · rintro _ _ _ ⟨q96, rfl, rfl, rfl⟩; exact St.of' (by decide) (L' := [0, 1, 2, 3, 4, 5, 6, 7, 8, 9]) rfl (fun _ h => h.1)
                    rintro _ _ _ ⟨q96, rfl, rfl, rfl⟩
                    refine RD.one 11 (by kernel_rfl) ?_
                    refine Up.eff rfl (Wt.yes rfl rfl rfl rfl) rfl (EV.call (K := _) Try.call19 rfl (SpecK.callV (W_bag_Same v94 v22 q96 q25 hx99 (fun w hm hΦ => ⟨(hΦ.2), (hΦ.1.1.1.1.1.1.2)⟩)))) ?_ ?_
                    · rintro _ _ _ ⟨_, rfl, rfl, rfl⟩; exact St.of' (by decide) (L' := [0, 1, 2, 3, 4, 5, 6, 7, 8, 9]) rfl (fun _ h => h.1)
                    rintro _ _ _ ⟨_, rfl, rfl, rfl⟩
                    refine RD.take 12 rfl (by kernel_rfl) (by kernel_rfl) (by kernel_rfl) (Wt.no rfl) rfl (PV.pickT rfl rfl) ?_
                    refine RD.take 13 rfl (by kernel_rfl) (by kernel_rfl) (by kernel_rfl) (Wt.no rfl) rfl (PV.move rfl) ?_
                    refine RD.take 14 rfl (by kernel_rfl) (by kernel_rfl) (by kernel_rfl) (Wt.yes rfl rfl rfl rfl) rfl (PV.fieldAddr Try.fa53_0 rfl) ?_
                    refine RD.take 15 rfl (by kernel_rfl) (by kernel_rfl) (by kernel_rfl) (Wt.yes rfl rfl rfl rfl) rfl (PV.loadM (l := [.int .i64 v52.Kind]) 8 Try.TF3 rfl rfl (cut_Msg_Kind _ _) rfl (by decide)) ?_
                    refine RD.take 16 rfl (by kernel_rfl) (by kernel_rfl) (by kernel_rfl) (Wt.yes rfl rfl rfl rfl) rfl (PV.eql rfl rfl) ?_
                    refine RD.take 17 rfl (by kernel_rfl) (by kernel_rfl) (by kernel_rfl) (Wt.no rfl) rfl (PV.pickT rfl rfl) ?_
                    refine RD.take 18 rfl (by kernel_rfl) (by kernel_rfl) (by kernel_rfl) (Wt.no rfl) rfl ((PV.move rfl).to (congrArg Value.bool hb101)) ?_
                    refine RD.takeNo 19 rfl (by kernel_rfl) (by kernel_rfl) (by kernel_rfl) (Un.mk rfl rfl rfl rfl) rfl ?_
                    refine RD.takeNo 20 rfl (by kernel_rfl) (by kernel_rfl) (by kernel_rfl) (Un.mk rfl rfl rfl rfl) rfl ?_
                    refine RD.takeNo 21 rfl (by kernel_rfl) (by kernel_rfl) (by kernel_rfl) (Un.mk rfl rfl rfl rfl) rfl ?_
                    refine RD.takeNo 22 rfl (by kernel_rfl) (by kernel_rfl) (by kernel_rfl) (Un.mk rfl rfl rfl rfl) rfl ?_
                    refine RD.take 23 rfl (by kernel_rfl) (by kernel_rfl) (by kernel_rfl) (Wt.no rfl) rfl (PV.pickF rfl rfl) ?_
                    refine RD.take 24 rfl (by kernel_rfl) (by kernel_rfl) (by kernel_rfl) (Wt.no rfl) rfl (PV.move rfl) ?_
                    refine RD.takeNo 25 rfl (by kernel_rfl) (by kernel_rfl) (by kernel_rfl) (Un.mk rfl rfl rfl rfl) rfl ?_
                    refine RD.take 26 rfl (by kernel_rfl) (by kernel_rfl) (by kernel_rfl) (Wt.no rfl) rfl (PV.pickF rfl rfl) ?_
                    refine RD.take 27 rfl (by kernel_rfl) (by kernel_rfl) (by kernel_rfl) (Wt.no rfl) rfl (PV.assign rfl) ?_
                    refine RD.done (by kernel_rfl) ?_
                    refine CW.ret ?_
                    obtain rfl := Option.some.inj h
                    exact retP1 (Ψ := Φ) [0] (by decide) rfl (RV.tmp rfl) rfl (fun w hΦ => hΦ.1.1.1.1.1.1.1.1.1) ⟨(), rfl, rfl, rfl⟩
                · replace hb100 := Bool.eq_false_iff.2 hb100
                  replace h := iteF hb100 h
                  subst hb100
                  refine CW.regD (pickM [0, 1, 2, 3, 4, 5, 6, 7, 8, 9] _) _ (by kernel_rfl) (St.of (by decide) rfl (fun _ h => h)) ?_
                  refine RD.take 0 rfl (by kernel_rfl) (by kernel_rfl) (by kernel_rfl) (Wt.no rfl) rfl (PV.move rfl) ?_
                  refine RD.take 1 rfl (by kernel_rfl) (by kernel_rfl) (by kernel_rfl) (Wt.no rfl) rfl (PV.eql rfl rfl) ?_
                  refine RD.take 2 rfl (by kernel_rfl) (by kernel_rfl) (by kernel_rfl) (Wt.no rfl) rfl ((PV.move rfl).to (congrArg Value.bool hb92)) ?_
                  refine RD.take 3 rfl (by kernel_rfl) (by kernel_rfl) (by kernel_rfl) (Wt.yes rfl rfl rfl rfl) rfl (PV.move rfl) ?_
                  refine RD.take 4 rfl (by kernel_rfl) (by kernel_rfl) (by kernel_rfl) (Wt.yes rfl rfl rfl rfl) rfl (PV.eql rfl rfl) ?_
                  refine RD.take 5 rfl (by kernel_rfl) (by kernel_rfl) (by kernel_rfl) (Wt.no rfl) rfl (PV.pickT rfl rfl) ?_
                  refine RD.take 6 rfl (by kernel_rfl) (by kernel_rfl) (by kernel_rfl) (Wt.no rfl) rfl ((PV.move rfl).to (congrArg Value.bool hb93)) ?_
                  refine RD.take 7 rfl (by kernel_rfl) (by kernel_rfl) (by kernel_rfl) (Wt.yes rfl rfl rfl rfl) rfl (PV.move rfl) ?_
                  refine RD.take 8 rfl (by kernel_rfl) (by kernel_rfl) (by kernel_rfl) (Wt.yes rfl rfl rfl rfl) rfl (PV.move rfl) ?_
                  refine RD.take 10 rfl (by kernel_rfl) (by kernel_rfl) (by kernel_rfl) (Wt.yes rfl rfl rfl rfl) rfl (PV.loadM (l := S.t_Bag.enc v22 (hf [q25])) 2 Try.TF40 rfl rfl (cut_self (S.t_Bag.len _ _)) rfl (by decide)) ?_
                  refine RD.one 9 (by kernel_rfl) ?_
                  refine Up.eff rfl (Wt.yes rfl rfl rfl rfl) rfl (EV.call (K := _) Try.call20 rfl (SpecK.call [5, 3, 4, 6] (fun x : Hd => [frame D, .blk g11 (S.t_Ring.enc ({ v6 with Parts := v17 } : S.Ring) (hf [q9])), .blk g27 (S.t_Bag.enc v22 (hf [q25])), .blk g30 (S.t_ledger_Ledger.enc v66.l (hf [q71])), rowE S.t_Deed 106 v66.l.l q71, .blk g36 (S.t_vault_Vault.enc v66 (hf [(pq g30), q72, (pq g37)])), mpE Value.string S.t_Bag g37 v66.bags q73, .blk g49 (S.t_Msg.enc ({ S.Msg.z with Kind := 7, From := (IntKind.i64.wrap (Int.tmod (IntKind.u64.wrap a5) 7)), To := 7, Seq := 1, Part := v12, Epoch := (IntKind.i64.wrap (Int.tmod (IntKind.u64.wrap a3) 12)), Key := a1, Bag := v22 } : S.Msg) (hf [q25, Hd.z, Hd.z])), .blk g63 (S.t_Msg.enc v52 (hf [q56, q57, q58])), .blk g75 (S.t_Msg.enc v64 (hf [q68, q69, q70]))]) (Outs.cons rfl (Outs.cons rfl (Outs.cons rfl (Outs.cons rfl Outs.nil)))) (fun _ => (Outs.cons rfl (Outs.cons rfl (Outs.cons rfl (Outs.cons rfl Outs.nil))))) (W_vault_Vault_Bag v66 a1 g36 g30 g37 q71 q72 q73 hx95 (fun w hm hΦ => ⟨(hΦ.2.2.2.2.1), (hΦ.2.2.2.2.2.1), (hΦ.2.2.2.2.2.2)⟩)))) ?_ ?_
                  · rintro _ _ _ ⟨q96, rfl, rfl, rfl⟩; exact St.of' (by decide) (L' := [0, 1, 2, 3, 4, 5, 6, 7, 8, 9]) rfl (fun _ h => h.1)
                  rintro _ _ _ ⟨q96, rfl, rfl, rfl⟩
                  refine RD.one 11 (by kernel_rfl) ?_
                  refine Up.eff rfl (Wt.yes rfl rfl rfl rfl) rfl (EV.call (K := _) Try.call19 rfl (SpecK.callV (W_bag_Same v94 v22 q96 q25 hx99 (fun w hm hΦ => ⟨(hΦ.2), (hΦ.1.1.1.1.1.1.2)⟩)))) ?_ ?_
                  · rintro _ _ _ ⟨_, rfl, rfl, rfl⟩; exact St.of' (by decide) (L' := [0, 1, 2, 3, 4, 5, 6, 7, 8, 9]) rfl (fun _ h => h.1)
                  rintro _ _ _ ⟨_, rfl, rfl, rfl⟩
                  refine RD.take 12 rfl (by kernel_rfl) (by kernel_rfl) (by kernel_rfl) (Wt.no rfl) rfl (PV.pickT rfl rfl) ?_
                  refine RD.take 13 rfl (by kernel_rfl) (by kernel_rfl) (by kernel_rfl) (Wt.no rfl) rfl (PV.move rfl) ?_
                  refine RD.takeNo 14 rfl (by kernel_rfl) (by kernel_rfl) (by kernel_rfl) (Un.mk rfl rfl rfl rfl) rfl ?_
                  refine RD.takeNo 15 rfl (by kernel_rfl) (by kernel_rfl) (by kernel_rfl) (Un.mk rfl rfl rfl rfl) rfl ?_
                  refine RD.takeNo 16 rfl (by kernel_rfl) (by kernel_rfl) (by kernel_rfl) (Un.mk rfl rfl rfl rfl) rfl ?_
                  refine RD.take 17 rfl (by kernel_rfl) (by kernel_rfl) (by kernel_rfl) (Wt.no rfl) rfl (PV.pickF rfl rfl) ?_
                  refine RD.take 18 rfl (by kernel_rfl) (by kernel_rfl) (by kernel_rfl) (Wt.no rfl) rfl (PV.move rfl) ?_
                  refine RD.takeNo 19 rfl (by kernel_rfl) (by kernel_rfl) (by kernel_rfl) (Un.mk rfl rfl rfl rfl) rfl ?_
                  refine RD.takeNo 20 rfl (by kernel_rfl) (by kernel_rfl) (by kernel_rfl) (Un.mk rfl rfl rfl rfl) rfl ?_
                  refine RD.takeNo 21 rfl (by kernel_rfl) (by kernel_rfl) (by kernel_rfl) (Un.mk rfl rfl rfl rfl) rfl ?_
                  refine RD.takeNo 22 rfl (by kernel_rfl) (by kernel_rfl) (by kernel_rfl) (Un.mk rfl rfl rfl rfl) rfl ?_
                  refine RD.take 23 rfl (by kernel_rfl) (by kernel_rfl) (by kernel_rfl) (Wt.no rfl) rfl (PV.pickF rfl rfl) ?_
                  refine RD.take 24 rfl (by kernel_rfl) (by kernel_rfl) (by kernel_rfl) (Wt.no rfl) rfl (PV.move rfl) ?_
                  refine RD.takeNo 25 rfl (by kernel_rfl) (by kernel_rfl) (by kernel_rfl) (Un.mk rfl rfl rfl rfl) rfl ?_
                  refine RD.take 26 rfl (by kernel_rfl) (by kernel_rfl) (by kernel_rfl) (Wt.no rfl) rfl (PV.pickF rfl rfl) ?_
                  refine RD.take 27 rfl (by kernel_rfl) (by kernel_rfl) (by kernel_rfl) (Wt.no rfl) rfl (PV.assign rfl) ?_
                  refine RD.done (by kernel_rfl) ?_
                  refine CW.ret ?_
                  obtain rfl := Option.some.inj h
                  exact retP1 (Ψ := Φ) [0] (by decide) rfl (RV.tmp rfl) rfl (fun w hΦ => hΦ.1.1.1.1.1.1.1.1.1) ⟨(), rfl, rfl, rfl⟩
              · replace hb93 := Bool.eq_false_iff.2 hb93
                replace h := iteF hb93 h
                refine CW.regD (pickM [0, 1, 2, 3, 4, 5, 6, 7, 8, 9] _) _ (by kernel_rfl) (St.of (by decide) rfl (fun _ h => h)) ?_
                refine RD.take 0 rfl (by kernel_rfl) (by kernel_rfl) (by kernel_rfl) (Wt.no rfl) rfl (PV.move rfl) ?_
                refine RD.take 1 rfl (by kernel_rfl) (by kernel_rfl) (by kernel_rfl) (Wt.no rfl) rfl (PV.eql rfl rfl) ?_
                refine RD.take 2 rfl (by kernel_rfl) (by kernel_rfl) (by kernel_rfl) (Wt.no rfl) rfl ((PV.move rfl).to (congrArg Value.bool hb92)) ?_
                refine RD.take 3 rfl (by kernel_rfl) (by kernel_rfl) (by kernel_rfl) (Wt.yes rfl rfl rfl rfl) rfl (PV.move rfl) ?_
                refine RD.take 4 rfl (by kernel_rfl) (by kernel_rfl) (by kernel_rfl) (Wt.yes rfl rfl rfl rfl) rfl (PV.eql rfl rfl) ?_
                refine RD.take 5 rfl (by kernel_rfl) (by kernel_rfl) (by kernel_rfl) (Wt.no rfl) rfl (PV.pickT rfl rfl) ?_
                refine RD.take 6 rfl (by kernel_rfl) (by kernel_rfl) (by kernel_rfl) (Wt.no rfl) rfl ((PV.move rfl).to (congrArg Value.bool hb93)) ?_
                refine RD.takeNo 7 rfl (by kernel_rfl) (by kernel_rfl) (by kernel_rfl) (Un.mk rfl rfl rfl rfl) rfl ?_
                refine RD.takeNo 8 rfl (by kernel_rfl) (by kernel_rfl) (by kernel_rfl) (Un.mk rfl rfl rfl rfl) rfl ?_
                refine RD.takeNo 9 rfl (by kernel_rfl) (by kernel_rfl) (by kernel_rfl) (Un.mk rfl rfl rfl rfl) rfl ?_
                refine RD.takeNo 10 rfl (by kernel_rfl) (by kernel_rfl) (by kernel_rfl) (Un.mk rfl rfl rfl rfl) rfl ?_
                refine RD.takeNo 11 rfl (by kernel_rfl) (by kernel_rfl) (by kernel_rfl) (Un.mk rfl rfl rfl rfl) rfl ?_
                refine RD.take 12 rfl (by kernel_rfl) (by kernel_rfl) (by kernel_rfl) (Wt.no rfl) rfl (PV.pickF rfl rfl) ?_
                refine RD.take 13 rfl (by kernel_rfl) (by kernel_rfl) (by kernel_rfl) (Wt.no rfl) rfl (PV.move rfl) ?_
                refine RD.takeNo 14 rfl (by kernel_rfl) (by kernel_rfl) (by kernel_rfl) (Un.mk rfl rfl rfl rfl) rfl ?_
                refine RD.takeNo 15 rfl (by kernel_rfl) (by kernel_rfl) (by kernel_rfl) (Un.mk rfl rfl rfl rfl) rfl ?_
                refine RD.takeNo 16 rfl (by kernel_rfl) (by kernel_rfl) (by kernel_rfl) (Un.mk rfl rfl rfl rfl) rfl ?_
                refine RD.take 17 rfl (by kernel_rfl) (by kernel_rfl) (by kernel_rfl) (Wt.no rfl) rfl (PV.pickF rfl rfl) ?_
                refine RD.take 18 rfl (by kernel_rfl) (by kernel_rfl) (by kernel_rfl) (Wt.no rfl) rfl (PV.move rfl) ?_
                refine RD.takeNo 19 rfl (by kernel_rfl) (by kernel_rfl) (by kernel_rfl) (Un.mk rfl rfl rfl rfl) rfl ?_
                refine RD.takeNo 20 rfl (by kernel_rfl) (by kernel_rfl) (by kernel_rfl) (Un.mk rfl rfl rfl rfl) rfl ?_
                refine RD.takeNo 21 rfl (by kernel_rfl) (by kernel_rfl) (by kernel_rfl) (Un.mk rfl rfl rfl rfl) rfl ?_
                refine RD.takeNo 22 rfl (by kernel_rfl) (by kernel_rfl) (by kernel_rfl) (Un.mk rfl rfl rfl rfl) rfl ?_
                refine RD.take 23 rfl (by kernel_rfl) (by kernel_rfl) (by kernel_rfl) (Wt.no rfl) rfl (PV.pickF rfl rfl) ?_
                refine RD.take 24 rfl (by kernel_rfl) (by kernel_rfl) (by kernel_rfl) (Wt.no rfl) rfl (PV.move rfl) ?_
                refine RD.takeNo 25 rfl (by kernel_rfl) (by kernel_rfl) (by kernel_rfl) (Un.mk rfl rfl rfl rfl) rfl ?_
                refine RD.take 26 rfl (by kernel_rfl) (by kernel_rfl) (by kernel_rfl) (Wt.no rfl) rfl (PV.pickF rfl rfl) ?_
                refine RD.take 27 rfl (by kernel_rfl) (by kernel_rfl) (by kernel_rfl) (Wt.no rfl) rfl (PV.assign rfl) ?_
                refine RD.done (by kernel_rfl) ?_
                refine CW.ret ?_
                obtain rfl := Option.some.inj h
                exact retP1 (Ψ := Φ) [0] (by decide) rfl (RV.tmp rfl) rfl (fun w hΦ => hΦ.1.1.1.1.1.1.1.1) ⟨(), rfl, rfl, rfl⟩
            · replace hb92 := Bool.eq_false_iff.2 hb92
              replace h := iteF hb92 h
              refine CW.regD (pickM [0, 1, 2, 3, 4, 5, 6, 7, 8, 9] _) _ (by kernel_rfl) (St.of (by decide) rfl (fun _ h => h)) ?_
              refine RD.take 0 rfl (by kernel_rfl) (by kernel_rfl) (by kernel_rfl) (Wt.no rfl) rfl (PV.move rfl) ?_
              refine RD.take 1 rfl (by kernel_rfl) (by kernel_rfl) (by kernel_rfl) (Wt.no rfl) rfl (PV.eql rfl rfl) ?_
              refine RD.take 2 rfl (by kernel_rfl) (by kernel_rfl) (by kernel_rfl) (Wt.no rfl) rfl ((PV.move rfl).to (congrArg Value.bool hb92)) ?_
              refine RD.takeNo 3 rfl (by kernel_rfl) (by kernel_rfl) (by kernel_rfl) (Un.mk rfl rfl rfl rfl) rfl ?_
              refine RD.takeNo 4 rfl (by kernel_rfl) (by kernel_rfl) (by kernel_rfl) (Un.mk rfl rfl rfl rfl) rfl ?_
              refine RD.take 5 rfl (by kernel_rfl) (by kernel_rfl) (by kernel_rfl) (Wt.no rfl) rfl (PV.pickF rfl rfl) ?_
              refine RD.take 6 rfl (by kernel_rfl) (by kernel_rfl) (by kernel_rfl) (Wt.no rfl) rfl (PV.move rfl) ?_
              refine RD.takeNo 7 rfl (by kernel_rfl) (by kernel_rfl) (by kernel_rfl) (Un.mk rfl rfl rfl rfl) rfl ?_
              refine RD.takeNo 8 rfl (by kernel_rfl) (by kernel_rfl) (by kernel_rfl) (Un.mk rfl rfl rfl rfl) rfl ?_
              refine RD.takeNo 9 rfl (by kernel_rfl) (by kernel_rfl) (by kernel_rfl) (Un.mk rfl rfl rfl rfl) rfl ?_
              refine RD.takeNo 10 rfl (by kernel_rfl) (by kernel_rfl) (by kernel_rfl) (Un.mk rfl rfl rfl rfl) rfl ?_
              refine RD.takeNo 11 rfl (by kernel_rfl) (by kernel_rfl) (by kernel_rfl) (Un.mk rfl rfl rfl rfl) rfl ?_
              refine RD.take 12 rfl (by kernel_rfl) (by kernel_rfl) (by kernel_rfl) (Wt.no rfl) rfl (PV.pickF rfl rfl) ?_
              refine RD.take 13 rfl (by kernel_rfl) (by kernel_rfl) (by kernel_rfl) (Wt.no rfl) rfl (PV.move rfl) ?_
              refine RD.takeNo 14 rfl (by kernel_rfl) (by kernel_rfl) (by kernel_rfl) (Un.mk rfl rfl rfl rfl) rfl ?_
              refine RD.takeNo 15 rfl (by kernel_rfl) (by kernel_rfl) (by kernel_rfl) (Un.mk rfl rfl rfl rfl) rfl ?_
              refine RD.takeNo 16 rfl (by kernel_rfl) (by kernel_rfl) (by kernel_rfl) (Un.mk rfl rfl rfl rfl) rfl ?_
              refine RD.take 17 rfl (by kernel_rfl) (by kernel_rfl) (by kernel_rfl) (Wt.no rfl) rfl (PV.pickF rfl rfl) ?_
              refine RD.take 18 rfl (by kernel_rfl) (by kernel_rfl) (by kernel_rfl) (Wt.no rfl) rfl (PV.move rfl) ?_
              refine RD.takeNo 19 rfl (by kernel_rfl) (by kernel_rfl) (by kernel_rfl) (Un.mk rfl rfl rfl rfl) rfl ?_
              refine RD.takeNo 20 rfl (by kernel_rfl) (by kernel_rfl) (by kernel_rfl) (Un.mk rfl rfl rfl rfl) rfl ?_
              refine RD.takeNo 21 rfl (by kernel_rfl) (by kernel_rfl) (by kernel_rfl) (Un.mk rfl rfl rfl rfl) rfl ?_
              refine RD.takeNo 22 rfl (by kernel_rfl) (by kernel_rfl) (by kernel_rfl) (Un.mk rfl rfl rfl rfl) rfl ?_
              refine RD.take 23 rfl (by kernel_rfl) (by kernel_rfl) (by kernel_rfl) (Wt.no rfl) rfl (PV.pickF rfl rfl) ?_
              refine RD.take 24 rfl (by kernel_rfl) (by kernel_rfl) (by kernel_rfl) (Wt.no rfl) rfl (PV.move rfl) ?_
              refine RD.takeNo 25 rfl (by kernel_rfl) (by kernel_rfl) (by kernel_rfl) (Un.mk rfl rfl rfl rfl) rfl ?_
              refine RD.take 26 rfl (by kernel_rfl) (by kernel_rfl) (by kernel_rfl) (Wt.no rfl) rfl (PV.pickF rfl rfl) ?_
              refine RD.take 27 rfl (by kernel_rfl) (by kernel_rfl) (by kernel_rfl) (Wt.no rfl) rfl (PV.assign rfl) ?_
              refine RD.done (by kernel_rfl) ?_
              refine CW.ret ?_
              obtain rfl := Option.some.inj h
              exact retP1 (Ψ := Φ) [0] (by decide) rfl (RV.tmp rfl) rfl (fun w hΦ => hΦ.1.1.1.1.1.1.1.1) ⟨(), rfl, rfl, rfl⟩

end Go.Proofs.Ytofmaoickidjcaa
