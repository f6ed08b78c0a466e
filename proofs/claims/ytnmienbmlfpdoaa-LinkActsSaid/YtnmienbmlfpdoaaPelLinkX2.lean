/- Each function: its pure text, and that it comes to it. -/
import Derived.Test.YtnmienbmlfpdoaaPelLinkX1
set_option linter.unusedVariables false
set_option maxHeartbeats 2000000
namespace Go.Pel
open Go.RowKit Go.Proofs
noncomputable section
/-! (*peloton/pelotonref16.Link).Hear -/
def ref16_Link_Hear_vvvvvvvvoov_k7 (v101 : S_ref16_Link) (x167 : List (List Int)) (v174 : List S_ref16_Early) : Option (((List (List Int)) × S_ref16_Link) ⊕ ((List (List Int)) × S_ref16_Link)) := some (.inl (x167, (⟨v101.Window, v101.Span, v101.Room, v101.Epoch, v101.Next, v101.Acked, v101.Sent, (IntKind.wrap .i64 (v101.Got + 1)), v101.Out, v174, v101.Owes⟩ : S_ref16_Link)))
def ref16_Link_Hear_vvvvvvvvoov_k10 (v196 : Int) (v214 : List S_ref16_Early) : Option (((List S_ref16_Early) × Int) ⊕ (List S_ref16_Early)) := some (.inl (v214, (IntKind.wrap .i64 (v196 + 1))))
def ref16_Link_Hear_vvvvvvvvoov_b8 (v101 : S_ref16_Link) (v190 : List S_ref16_Early) (v196 : Int) : Option (((List S_ref16_Early) × Int) ⊕ (List S_ref16_Early)) := cond (decide (v196 < (v101.Early.length : Int))) ((getI v101.Early v196).bind fun x220 => cond (x220.Seq != (IntKind.wrap .i64 (v101.Got + 1))) ((getI v101.Early v196).bind fun x231 => (app v190 [x231]).bind fun x243 => ref16_Link_Hear_vvvvvvvvoov_k10 v196 x243) (ref16_Link_Hear_vvvvvvvvoov_k10 v196 v190)) (some (.inr v190))
def ref16_Link_Hear_vvvvvvvvoov_b5 (v95 : List (List Int)) (v101 : S_ref16_Link) : Option (((List (List Int)) × S_ref16_Link) ⊕ ((List (List Int)) × S_ref16_Link)) := (ref16_Link_find_vvvvvvvvoov v101 (IntKind.wrap .i64 (v101.Got + 1))).bind fun x148 => cond (decide (x148 ≥ 0)) ((ref16_Link_find_vvvvvvvvoov (⟨v101.Window, v101.Span, v101.Room, v101.Epoch, v101.Next, v101.Acked, v101.Sent, (IntKind.wrap .i64 (v101.Got + 1)), v101.Out, v101.Early, v101.Owes⟩ : S_ref16_Link) (IntKind.wrap .i64 (v101.Got + 1))).bind fun x152 => (getI v101.Early x152).bind fun x155 => (app v95 [x155.B]).bind fun x167 => (loopO (fun s => ref16_Link_Hear_vvvvvvvvoov_b8 v101 s.1 s.2) (([] : List S_ref16_Early), 0)).bind (fun v206 => ref16_Link_Hear_vvvvvvvvoov_k7 v101 x167 v206)) (some (.inr (v95, v101)))
def ref16_Link_Hear_vvvvvvvvoov_k4 (p0 : S_ref16_Link) (v15 : Int) (v17 : List S_ref16_Body) (v33 : List S_ref16_Early) : Option ((List (List Int)) × Int × S_ref16_Link) := (loopO (fun s => ref16_Link_Hear_vvvvvvvvoov_b5  s.1 s.2) (([] : List (List Int)), (⟨p0.Window, p0.Span, p0.Room, p0.Epoch, p0.Next, v15, p0.Sent, p0.Got, v17, v33, true⟩ : S_ref16_Link))).bind (fun (v131, v137) => some (v131, 0, v137))
def ref16_Link_Hear_vvvvvvvvoov_k11 (p0 : S_ref16_Link) (p1 : S_api_Seg) (v15 : Int) (v17 : List S_ref16_Body) (v254 : Bool) : Option ((List (List Int)) × Int × S_ref16_Link) := cond v254 ((app ([] : List Int) p1.Body).bind fun x260 => (app p0.Early [(⟨p1.Seq, x260⟩ : S_ref16_Early)]).bind fun x269 => ref16_Link_Hear_vvvvvvvvoov_k4 p0 v15 v17 x269) (ref16_Link_Hear_vvvvvvvvoov_k4 p0 v15 v17 p0.Early)
def ref16_Link_Hear_vvvvvvvvoov_k3 (p0 : S_ref16_Link) (p1 : S_api_Seg) (v15 : Int) (v17 : List S_ref16_Body) (v23 : List S_ref16_Body) : Option ((List (List Int)) × Int × S_ref16_Link) := cond (p1.Seq == 0) (some (([] : List (List Int)), 0, (⟨p0.Window, p0.Span, p0.Room, p0.Epoch, p0.Next, v15, p0.Sent, p0.Got, v17, p0.Early, p0.Owes⟩ : S_ref16_Link))) (cond (decide (p1.Seq > p0.Got)) (cond (decide (p1.Seq ≤ (IntKind.wrap .i64 (p0.Got + p0.Window)))) ((ref16_Link_find_vvvvvvvvoov (⟨p0.Window, p0.Span, p0.Room, p0.Epoch, p0.Next, v15, p0.Sent, p0.Got, v17, p0.Early, true⟩ : S_ref16_Link) p1.Seq).bind fun x277 => ref16_Link_Hear_vvvvvvvvoov_k11 p0 p1 v15 v17 (decide (x277 < 0))) (ref16_Link_Hear_vvvvvvvvoov_k11 p0 p1 v15 v17 false)) (ref16_Link_Hear_vvvvvvvvoov_k11 p0 p1 v15 v17 false))
def ref16_Link_Hear_vvvvvvvvoov_k14 (v302 : Int) (v338 : List S_ref16_Body) (v344 : List S_ref16_Body) : Option (((List S_ref16_Body) × Int × (List S_ref16_Body)) ⊕ ((List S_ref16_Body) × (List S_ref16_Body))) := some (.inl (v338, (IntKind.wrap .i64 (v302 + 1)), v344))
def ref16_Link_Hear_vvvvvvvvoov_b12 (v15 : Int) (v296 : List S_ref16_Body) (v302 : Int) (v303 : List S_ref16_Body) : Option (((List S_ref16_Body) × Int × (List S_ref16_Body)) ⊕ ((List S_ref16_Body) × (List S_ref16_Body))) := cond (decide (v302 < (v303.length : Int))) ((getI v303 v302).bind fun x350 => cond (decide (x350.Seq > v15)) ((getI v303 v302).bind fun x361 => (app v296 [x361]).bind fun x373 => ref16_Link_Hear_vvvvvvvvoov_k14 v302 x373 v303) (ref16_Link_Hear_vvvvvvvvoov_k14 v302 v296 v303)) (some (.inr (v296, v303)))
def ref16_Link_Hear_vvvvvvvvoov_k2 (p0 : S_ref16_Link) (p1 : S_api_Seg) (v15 : Int) : Option ((List (List Int)) × Int × S_ref16_Link) := (loopO (fun s => ref16_Link_Hear_vvvvvvvvoov_b12 v15 s.1 s.2.1 s.2.2) (([] : List S_ref16_Body), 0, p0.Out)).bind (fun (v324, v330) => ref16_Link_Hear_vvvvvvvvoov_k3 p0 p1 v15 v324 v330)
def ref16_Link_Hear_vvvvvvvvoov_k1 (p0 : S_ref16_Link) (p1 : S_api_Seg) (v10 : Bool) : Option ((List (List Int)) × Int × S_ref16_Link) := cond v10 (some (([] : List (List Int)), 150, p0)) (cond (decide (p1.Ack > p0.Acked)) (ref16_Link_Hear_vvvvvvvvoov_k2 p0 p1 p1.Ack) (ref16_Link_Hear_vvvvvvvvoov_k2 p0 p1 p0.Acked))
def ref16_Link_Hear_vvvvvvvvoov (p0 : S_ref16_Link) (p1 : S_api_Seg) : Option ((List (List Int)) × Int × S_ref16_Link) := cond (p1.Epoch != p0.Epoch) (some (([] : List (List Int)), 160, p0)) (cond (decide (p1.Ack < 0)) (ref16_Link_Hear_vvvvvvvvoov_k1 p0 p1 true) (cond (decide (p1.Ack > p0.Sent)) (ref16_Link_Hear_vvvvvvvvoov_k1 p0 p1 true) (cond (decide (p1.Seq < 0)) (ref16_Link_Hear_vvvvvvvvoov_k1 p0 p1 true) (cond (p1.Seq == 0) (ref16_Link_Hear_vvvvvvvvoov_k1 p0 p1 (decide ((p1.Body.length : Int) > 0))) (ref16_Link_Hear_vvvvvvvvoov_k1 p0 p1 false)))))
theorem ref16_Link_Hear_vvvvvvvvoov_ok {F : Mem} {χ : List Chunk} {p0 : S_ref16_Link} {p1 : S_api_Seg} {b_0 : Nat} {a_0_8 : Option Addr} {c_0_8 : Nat} {ψ_0_8 : List Chunk} (ho_0_8 : OwnL 3 R_ref16_Body F 81 a_0_8 c_0_8 p0.Out ψ_0_8) {a_0_9 : Option Addr} {c_0_9 : Nat} {ψ_0_9 : List Chunk} (ho_0_9 : OwnL 2 R_ref16_Early F 88 a_0_9 c_0_9 p0.Early ψ_0_9) {cs_1 : List Value} (h_1 : R_api_Seg (Mem.add F χ) cs_1 p1) {r : (List (List Int)) × Int × S_ref16_Link} (hr : ref16_Link_Hear_vvvvvvvvoov p0 p1 = some r) (Φ : List (List Chunk)) :
    CallsRet Try.prog 19 (List.toArray [.pointer (some ⟨b_0, 0, none⟩), .agg cs_1.toArray]) (Mem.add F χ) ([(b_0, row [.int .i64 p0.Window, .int .i64 p0.Span, .int .i64 p0.Room, .int .i64 p0.Epoch, .int .i64 p0.Next, .int .i64 p0.Acked, .int .i64 p0.Sent, .int .i64 p0.Got, .slice a_0_8 p0.Out.length c_0_8, .slice a_0_9 p0.Early.length c_0_9, .bool p0.Owes] 54)] :: ψ_0_8 :: ψ_0_9 :: Φ) (fun v w => ∃ ψm a0 c0 ψ0 a0_8 c0_8 ψ0_8 a0_9 c0_9 ψ0_9, v = .tuple (List.toArray [.slice a0 r.1.length c0, .int .i64 r.2.1]) ∧ Sat (Mem.add (Mem.add F χ) ψm) (ψ0 :: [(b_0, row [.int .i64 r.2.2.Window, .int .i64 r.2.2.Span, .int .i64 r.2.2.Room, .int .i64 r.2.2.Epoch, .int .i64 r.2.2.Next, .int .i64 r.2.2.Acked, .int .i64 r.2.2.Sent, .int .i64 r.2.2.Got, .slice a0_8 r.2.2.Out.length c0_8, .slice a0_9 r.2.2.Early.length c0_9, .bool r.2.2.Owes] 54)] :: ψ0_8 :: ψ0_9 :: Φ) w ∧ OwnL 1 (RSl 1 (RInt .u8)) (Mem.add F ψm) 38 a0 c0 r.1 ψ0 ∧ OwnL 3 R_ref16_Body (Mem.add F ψm) 81 a0_8 c0_8 r.2.2.Out ψ0_8 ∧ OwnL 2 R_ref16_Early (Mem.add F ψm) 88 a0_9 c0_9 r.2.2.Early ψ0_9) := by
  obtain ⟨a1, c2, rfl, h3⟩ := h_1
  refine CallsRet.enter (rs := [.tmp 4, .tmp 5]) Try.func19 rfl rfl rfl rfl ?_
  unfold ref16_Link_Hear_vvvvvvvvoov at hr
  refine WC.then ?_
  refine WC.region [(0, false), (1, true), (2, true)] rfl ?_
  refine WO.box rfl rfl rfl rfl rfl (fun _ _ _ => trivial) (fun b4 => ?_)
  refine WO.assign rfl rfl rfl rfl ?_
  refine WO.assign rfl rfl rfl rfl ?_
  refine WO.done ?_
  refine At.seq_wc ?_
  refine WC.then ?_
  refine WC.then ?_
  refine WC.draw (Sat (Mem.add F χ) ([(b4, row [.int .i64 p1.Epoch, .int .i64 p1.Seq, .int .i64 p1.Ack, .slice a1 p1.Body.length c2] 46)] :: [(b_0, row [.int .i64 p0.Window, .int .i64 p0.Span, .int .i64 p0.Room, .int .i64 p0.Epoch, .int .i64 p0.Next, .int .i64 p0.Acked, .int .i64 p0.Sent, .int .i64 p0.Got, .slice a_0_8 p0.Out.length c_0_8, .slice a_0_9 p0.Early.length c_0_9, .bool p0.Owes] 54)] :: ψ_0_8 :: ψ_0_9 :: Φ)) (fun _ h => (h.arrange 1 4 [0] [1, 2, 3, 4] (by decide))) [(0, true), (1, true), (2, true), (3, true), (4, true), (5, true), (6, true)] mixed (by kernel_rfl) rfl (by kernel_rfl) ?_
  refine WO.fieldAddr 0 rfl rfl rfl rfl fl_46_0 ?_
  refine WO.loadY 0 rfl rfl rfl rfl sc_3 rfl rfl ?_
  refine WO.move rfl rfl rfl rfl ?_
  refine WO.nilCheck rfl rfl rfl rfl ?_
  refine WO.fieldAddr 3 rfl rfl rfl rfl fl_54_3 ?_
  refine WO.loadY 1 rfl rfl rfl rfl sc_3 rfl rfl ?_
  refine WO.bin rfl rfl rfl rfl rfl rfl ?_
  refine WO.done ?_
  refine At.seq_wc ?_
  refine WC.cond rfl (fun hb6 => ?_) (fun hb6 => ?_)
  · have hr := cond_t hb6 hr
    refine WC.then ?_
    refine WC.region [(0, true), (1, true)] rfl ?_
    refine WO.assign rfl rfl rfl rfl ?_
    refine WO.assign rfl rfl rfl rfl ?_
    refine WO.done ?_
    refine At.seq_wc ?_
    refine WC.ret ?_
    refine At.seq_ret ?_
    refine At.empty ?_
    have ho8 : OwnL 1 (RSl 1 (RInt .u8)) F 38 none 0 ([] : List (List Int)) [] := OwnL.nil
    obtain rfl := Option.some.inj hr
    exact At.ret (fun a w hc hs => (resVs_cons (hc.res rfl) (resVs_cons (hc.res rfl) resVs_nil))) (fun w hs => ⟨(List.flatten []), _, _, _, _, _, _, _, _, _, rfl, ((hs.arrange 1 5 [0] [1, 3, 4, 5] (by decide)).gather 0), (ho8.mono (mono_sl (mono_int _)) (Mem.le_gather F 0)), (ho_0_8.mono mono_ref16_Body (Mem.le_gather F 0)), (ho_0_9.mono mono_ref16_Early (Mem.le_gather F 0))⟩)
  · have hr := cond_f hb6 hr
    refine WC.skip ?_
    refine At.seq_wc ?_
    refine WC.then ?_
    refine WC.seq (fun a w => ∃ (v10 : Bool), ref16_Link_Hear_vvvvvvvvoov_k1 p0 p1 v10 = some r ∧ Ctx 213 [(0, .pointer (some ⟨b_0, 0, none⟩)), (3, .pointer (some ⟨b4, 0, none⟩)), (45, .bool v10)] a ∧ Sat (Mem.add F χ) ([(b4, row [.int .i64 p1.Epoch, .int .i64 p1.Seq, .int .i64 p1.Ack, .slice a1 p1.Body.length c2] 46)] :: [(b_0, row [.int .i64 p0.Window, .int .i64 p0.Span, .int .i64 p0.Room, .int .i64 p0.Epoch, .int .i64 p0.Next, .int .i64 p0.Acked, .int .i64 p0.Sent, .int .i64 p0.Got, .slice a_0_8 p0.Out.length c_0_8, .slice a_0_9 p0.Early.length c_0_9, .bool p0.Owes] 54)] :: ψ_0_8 :: ψ_0_9 :: Φ) w) ?_ ?_
    · refine WC.draw (Sat (Mem.add F χ) ([(b4, row [.int .i64 p1.Epoch, .int .i64 p1.Seq, .int .i64 p1.Ack, .slice a1 p1.Body.length c2] 46)] :: [(b_0, row [.int .i64 p0.Window, .int .i64 p0.Span, .int .i64 p0.Room, .int .i64 p0.Epoch, .int .i64 p0.Next, .int .i64 p0.Acked, .int .i64 p0.Sent, .int .i64 p0.Got, .slice a_0_8 p0.Out.length c_0_8, .slice a_0_9 p0.Early.length c_0_9, .bool p0.Owes] 54)] :: ψ_0_8 :: ψ_0_9 :: Φ)) (fun _ h => (h.arrange 1 4 [0] [1, 2, 3, 4] (by decide))) [(0, true), (1, true), (2, true), (3, true), (4, true), (5, true), (6, true), (7, true), (8, true), (9, true), (10, true), (11, true), (12, true), (13, true), (14, true), (15, true), (16, true), (17, true), (18, true), (19, true), (20, true), (21, true), (22, true), (23, true), (24, true), (25, true), (26, true), (27, true)] mixed (by kernel_rfl) rfl (by kernel_rfl) ?_
      refine WO.fieldAddr 2 rfl rfl rfl rfl fl_46_2 ?_
      refine WO.loadY 0 rfl rfl rfl rfl sc_3 rfl rfl ?_
      refine WO.bin rfl rfl rfl rfl rfl rfl ?_
      refine WO.move rfl rfl rfl rfl ?_
      refine WO.split (t := 21) rfl (fun hg382 => ?_) (fun hg382 => ?_)
      · have hr := cond_t hg382 hr
        refine WO.skip rfl rfl rfl rfl ?_
        refine WO.skip rfl rfl rfl rfl ?_
        refine WO.skip rfl rfl rfl rfl ?_
        refine WO.skip rfl rfl rfl rfl ?_
        refine WO.skip rfl rfl rfl rfl ?_
        refine WO.skip rfl rfl rfl rfl ?_
        refine WO.skip rfl rfl rfl rfl ?_
        refine WO.pickT rfl rfl rfl rfl rfl ?_
        refine WO.move rfl rfl rfl rfl ?_
        refine WO.skip rfl rfl rfl rfl ?_
        refine WO.skip rfl rfl rfl rfl ?_
        refine WO.skip rfl rfl rfl rfl ?_
        refine WO.pickT rfl rfl rfl rfl rfl ?_
        refine WO.move rfl rfl rfl rfl ?_
        refine WO.skip rfl rfl rfl rfl ?_
        refine WO.skip rfl rfl rfl rfl ?_
        refine WO.skip rfl rfl rfl rfl ?_
        refine WO.skip rfl rfl rfl rfl ?_
        refine WO.skip rfl rfl rfl rfl ?_
        refine WO.skip rfl rfl rfl rfl ?_
        refine WO.skip rfl rfl rfl rfl ?_
        refine WO.skip rfl rfl rfl rfl ?_
        refine WO.skip rfl rfl rfl rfl ?_
        refine WO.pickT rfl rfl rfl rfl rfl ?_
        refine WO.done ?_
        refine At.seq_at ?_
        exact fun a w hc hs => ⟨true, hr, (hc.keep (hc.keep (hc.keep hc.nil (t := 45) rfl) (t := 3) rfl) (t := 0) rfl), hs⟩
      · have hr := cond_f hg382 hr
        refine WO.fieldAddr 2 rfl rfl rfl rfl fl_46_2 ?_
        refine WO.loadY 0 rfl rfl rfl rfl sc_3 rfl rfl ?_
        refine WO.move rfl rfl rfl rfl ?_
        refine WO.nilCheck rfl rfl rfl rfl ?_
        refine WO.fieldAddr 6 rfl rfl rfl rfl fl_54_6 ?_
        refine WO.loadY 1 rfl rfl rfl rfl sc_3 rfl rfl ?_
        refine WO.bin rfl rfl rfl rfl rfl rfl ?_
        refine WO.pickF rfl rfl rfl rfl rfl ?_
        refine WO.move rfl rfl rfl rfl ?_
        refine WO.split (t := 30) rfl (fun hg383 => ?_) (fun hg383 => ?_)
        · have hr := cond_t hg383 hr
          refine WO.skip rfl rfl rfl rfl ?_
          refine WO.skip rfl rfl rfl rfl ?_
          refine WO.skip rfl rfl rfl rfl ?_
          refine WO.pickT rfl rfl rfl rfl rfl ?_
          refine WO.move rfl rfl rfl rfl ?_
          refine WO.skip rfl rfl rfl rfl ?_
          refine WO.skip rfl rfl rfl rfl ?_
          refine WO.skip rfl rfl rfl rfl ?_
          refine WO.skip rfl rfl rfl rfl ?_
          refine WO.skip rfl rfl rfl rfl ?_
          refine WO.skip rfl rfl rfl rfl ?_
          refine WO.skip rfl rfl rfl rfl ?_
          refine WO.skip rfl rfl rfl rfl ?_
          refine WO.skip rfl rfl rfl rfl ?_
          refine WO.pickT rfl rfl rfl rfl rfl ?_
          refine WO.done ?_
          refine At.seq_at ?_
          exact fun a w hc hs => ⟨true, hr, (hc.keep (hc.keep (hc.keep hc.nil (t := 45) rfl) (t := 3) rfl) (t := 0) rfl), hs⟩
        · have hr := cond_f hg383 hr
          refine WO.fieldAddr 1 rfl rfl rfl rfl fl_46_1 ?_
          refine WO.loadY 0 rfl rfl rfl rfl sc_3 rfl rfl ?_
          refine WO.bin rfl rfl rfl rfl rfl rfl ?_
          refine WO.pickF rfl rfl rfl rfl rfl ?_
          refine WO.move rfl rfl rfl rfl ?_
          refine WO.split (t := 35) rfl (fun hg384 => ?_) (fun hg384 => ?_)
          · have hr := cond_t hg384 hr
            refine WO.skip rfl rfl rfl rfl ?_
            refine WO.skip rfl rfl rfl rfl ?_
            refine WO.skip rfl rfl rfl rfl ?_
            refine WO.skip rfl rfl rfl rfl ?_
            refine WO.skip rfl rfl rfl rfl ?_
            refine WO.skip rfl rfl rfl rfl ?_
            refine WO.skip rfl rfl rfl rfl ?_
            refine WO.skip rfl rfl rfl rfl ?_
            refine WO.skip rfl rfl rfl rfl ?_
            refine WO.pickT rfl rfl rfl rfl rfl ?_
            refine WO.done ?_
            refine At.seq_at ?_
            exact fun a w hc hs => ⟨true, hr, (hc.keep (hc.keep (hc.keep hc.nil (t := 45) rfl) (t := 3) rfl) (t := 0) rfl), hs⟩
          · have hr := cond_f hg384 hr
            refine WO.fieldAddr 1 rfl rfl rfl rfl fl_46_1 ?_
            refine WO.loadY 0 rfl rfl rfl rfl sc_3 rfl rfl ?_
            refine WO.bin rfl rfl rfl rfl rfl rfl ?_
            refine WO.move rfl rfl rfl rfl ?_
            refine WO.split (t := 39) rfl (fun hg385 => ?_) (fun hg385 => ?_)
            · have hr := cond_t hg385 hr
              refine WO.fieldAddr 3 rfl rfl rfl rfl fl_46_3 ?_
              refine WO.loadY 0 rfl rfl rfl rfl sc_38 rfl rfl ?_
              refine WO.len rfl rfl rfl rfl Try.underlying38 ?_
              refine WO.bin rfl rfl rfl rfl rfl rfl ?_
              refine WO.pickT rfl rfl rfl rfl rfl ?_
              refine WO.pickF rfl rfl rfl rfl rfl ?_
              refine WO.done ?_
              refine At.seq_at ?_
              exact fun a w hc hs => ⟨(decide ((p1.Body.length : Int) > 0)), hr, (hc.keep (hc.keep (hc.keep hc.nil (t := 45) rfl) (t := 3) rfl) (t := 0) rfl), hs⟩
            · have hr := cond_f hg385 hr
              refine WO.skip rfl rfl rfl rfl ?_
              refine WO.skip rfl rfl rfl rfl ?_
              refine WO.skip rfl rfl rfl rfl ?_
              refine WO.skip rfl rfl rfl rfl ?_
              refine WO.pickF rfl rfl rfl rfl rfl ?_
              refine WO.pickF rfl rfl rfl rfl rfl ?_
              refine WO.done ?_
              refine At.seq_at ?_
              exact fun a w hc hs => ⟨false, hr, (hc.keep (hc.keep (hc.keep hc.nil (t := 45) rfl) (t := 3) rfl) (t := 0) rfl), hs⟩
    · rintro a w ⟨v10, hr, hc, hs⟩
      refine WC.use hc hs ?_
      clear hc hs
      unfold ref16_Link_Hear_vvvvvvvvoov_k1 at hr
      refine WC.cond rfl (fun hb11 => ?_) (fun hb11 => ?_)
      · have hr := cond_t hb11 hr
        refine WC.then ?_
        refine WC.region [(0, true), (1, true)] rfl ?_
        refine WO.assign rfl rfl rfl rfl ?_
        refine WO.assign rfl rfl rfl rfl ?_
        refine WO.done ?_
        refine At.seq_wc ?_
        refine WC.ret ?_
        refine At.seq_ret ?_
        refine At.empty ?_
        have ho13 : OwnL 1 (RSl 1 (RInt .u8)) F 38 none 0 ([] : List (List Int)) [] := OwnL.nil
        obtain rfl := Option.some.inj hr
        exact At.ret (fun a w hc hs => (resVs_cons (hc.res rfl) (resVs_cons (hc.res rfl) resVs_nil))) (fun w hs => ⟨(List.flatten []), _, _, _, _, _, _, _, _, _, rfl, ((hs.arrange 1 5 [0] [1, 3, 4, 5] (by decide)).gather 0), (ho13.mono (mono_sl (mono_int _)) (Mem.le_gather F 0)), (ho_0_8.mono mono_ref16_Body (Mem.le_gather F 0)), (ho_0_9.mono mono_ref16_Early (Mem.le_gather F 0))⟩)
      · have hr := cond_f hb11 hr
        refine WC.skip ?_
        refine At.seq_wc ?_
        refine WC.seq (fun a w => ∃ (v15 : Int), ref16_Link_Hear_vvvvvvvvoov_k2 p0 p1 v15 = some r ∧ Ctx 213 [(0, .pointer (some ⟨b_0, 0, none⟩)), (3, .pointer (some ⟨b4, 0, none⟩))] a ∧ Sat (Mem.add F χ) ([(b4, row [.int .i64 p1.Epoch, .int .i64 p1.Seq, .int .i64 p1.Ack, .slice a1 p1.Body.length c2] 46)] :: [(b_0, row [.int .i64 p0.Window, .int .i64 p0.Span, .int .i64 p0.Room, .int .i64 p0.Epoch, .int .i64 p0.Next, .int .i64 v15, .int .i64 p0.Sent, .int .i64 p0.Got, .slice a_0_8 p0.Out.length c_0_8, .slice a_0_9 p0.Early.length c_0_9, .bool p0.Owes] 54)] :: ψ_0_8 :: ψ_0_9 :: Φ) w) ?_ ?_
        · refine WC.then ?_
          refine WC.draw (Sat (Mem.add F χ) ([(b4, row [.int .i64 p1.Epoch, .int .i64 p1.Seq, .int .i64 p1.Ack, .slice a1 p1.Body.length c2] 46)] :: [(b_0, row [.int .i64 p0.Window, .int .i64 p0.Span, .int .i64 p0.Room, .int .i64 p0.Epoch, .int .i64 p0.Next, .int .i64 p0.Acked, .int .i64 p0.Sent, .int .i64 p0.Got, .slice a_0_8 p0.Out.length c_0_8, .slice a_0_9 p0.Early.length c_0_9, .bool p0.Owes] 54)] :: ψ_0_8 :: ψ_0_9 :: Φ)) (fun _ h => (h.arrange 1 4 [0] [1, 2, 3, 4] (by decide))) [(0, true), (1, true), (2, true), (3, true), (4, true), (5, true), (6, true)] mixed (by kernel_rfl) rfl (by kernel_rfl) ?_
          refine WO.fieldAddr 2 rfl rfl rfl rfl fl_46_2 ?_
          refine WO.loadY 0 rfl rfl rfl rfl sc_3 rfl rfl ?_
          refine WO.move rfl rfl rfl rfl ?_
          refine WO.nilCheck rfl rfl rfl rfl ?_
          refine WO.fieldAddr 5 rfl rfl rfl rfl fl_54_5 ?_
          refine WO.loadY 1 rfl rfl rfl rfl sc_3 rfl rfl ?_
          refine WO.bin rfl rfl rfl rfl rfl rfl ?_
          refine WO.done ?_
          refine At.seq_wc ?_
          refine WC.cond rfl (fun hb381 => ?_) (fun hb381 => ?_)
          · have hr := cond_t hb381 hr
            refine WC.region [(0, true), (1, true), (2, false), (3, true), (4, true), (5, false)] rfl ?_
            refine WO.move rfl rfl rfl rfl ?_
            refine WO.fieldAddr 2 rfl rfl rfl rfl fl_46_2 ?_
            refine WO.load 0 rfl rfl rfl rfl sc_3 rfl rfl ?_
            refine WO.nilCheck rfl rfl rfl rfl ?_
            refine WO.fieldAddr 5 rfl rfl rfl rfl fl_54_5 ?_
            refine WO.store 1 rfl rfl rfl rfl sz_3 rfl rfl rfl (fun _ _ => trivial) ?_
            refine WO.done ?_
            refine At.seq_at ?_
            exact fun a w hc hs => ⟨p1.Ack, hr, (hc.keep (hc.keep hc.nil (t := 3) rfl) (t := 0) rfl), hs⟩
          · have hr := cond_f hb381 hr
            refine WC.skip ?_
            refine At.seq_at ?_
            exact fun a w hc hs => ⟨p0.Acked, hr, (hc.keep (hc.keep hc.nil (t := 3) rfl) (t := 0) rfl), hs⟩
        · rintro a w ⟨v15, hr, hc, hs⟩
          refine WC.use hc hs ?_
          clear hc hs
          unfold ref16_Link_Hear_vvvvvvvvoov_k2 at hr
          refine WC.then ?_
          refine WC.region [(0, true)] rfl ?_
          refine WO.assign rfl rfl rfl rfl ?_
          refine WO.done ?_
          refine At.seq_wc ?_
          refine WC.seq (fun a w => ∃ (v17 : List S_ref16_Body) (v23 : List S_ref16_Body) (a18 : Option Addr) (c19 : Nat) (p20 : List Chunk) (a24 : Option Addr) (c25 : Nat) (p26 : List Chunk), ref16_Link_Hear_vvvvvvvvoov_k3 p0 p1 v15 v17 v23 = some r ∧ Ctx 213 [(0, .pointer (some ⟨b_0, 0, none⟩)), (3, .pointer (some ⟨b4, 0, none⟩)), (6, .slice a18 v17.length c19)] a ∧ Sat (Mem.add F χ) (p20 :: p26 :: [(b4, row [.int .i64 p1.Epoch, .int .i64 p1.Seq, .int .i64 p1.Ack, .slice a1 p1.Body.length c2] 46)] :: [(b_0, row [.int .i64 p0.Window, .int .i64 p0.Span, .int .i64 p0.Room, .int .i64 p0.Epoch, .int .i64 p0.Next, .int .i64 v15, .int .i64 p0.Sent, .int .i64 p0.Got, .slice a24 v23.length c25, .slice a_0_9 p0.Early.length c_0_9, .bool p0.Owes] 54)] :: ψ_0_9 :: Φ) w ∧ OwnL 3 R_ref16_Body F 81 a18 c19 v17 p20 ∧ OwnL 3 R_ref16_Body F 81 a24 c25 v23 p26) ?_ ?_
          · refine WC.then ?_
            refine WC.region [(0, true)] rfl ?_
            refine WO.assign rfl rfl rfl rfl ?_
            refine WO.done ?_
            refine At.seq_wc ?_
            obtain ⟨xl13, hl13, hk13⟩ := bind_some' hr
            refine WC.weaken (fun a w => ∃ (v324 : List S_ref16_Body) (v330 : List S_ref16_Body) (a325 : Option Addr) (c326 : Nat) (p327 : List Chunk) (a331 : Option Addr) (c332 : Nat) (p333 : List Chunk), (v324, v330) = xl13 ∧ Ctx 213 [(0, .pointer (some ⟨b_0, 0, none⟩)), (3, .pointer (some ⟨b4, 0, none⟩)), (6, .slice a325 v324.length c326)] a ∧ Sat (Mem.add F χ) (p327 :: p333 :: [(b4, row [.int .i64 p1.Epoch, .int .i64 p1.Seq, .int .i64 p1.Ack, .slice a1 p1.Body.length c2] 46)] :: [(b_0, row [.int .i64 p0.Window, .int .i64 p0.Span, .int .i64 p0.Room, .int .i64 p0.Epoch, .int .i64 p0.Next, .int .i64 v15, .int .i64 p0.Sent, .int .i64 p0.Got, .slice a331 v330.length c332, .slice a_0_9 p0.Early.length c_0_9, .bool p0.Owes] 54)] :: ψ_0_9 :: Φ) w ∧ OwnL 3 R_ref16_Body F 81 a325 c326 v324 p327 ∧ OwnL 3 R_ref16_Body F 81 a331 c332 v330 p333) ?_ ?_
            · refine WC.block ?_
              refine WC.loop (fun ⟨v296, v302, v303⟩ a w => ∃ (a297 : Option Addr) (c298 : Nat) (p299 : List Chunk) (a304 : Option Addr) (c305 : Nat) (p306 : List Chunk), Ctx 213 [(0, .pointer (some ⟨b_0, 0, none⟩)), (3, .pointer (some ⟨b4, 0, none⟩)), (6, .slice a297 v296.length c298), (7, .int .i64 v302)] a ∧ Sat (Mem.add F χ) (p299 :: p306 :: [(b4, row [.int .i64 p1.Epoch, .int .i64 p1.Seq, .int .i64 p1.Ack, .slice a1 p1.Body.length c2] 46)] :: [(b_0, row [.int .i64 p0.Window, .int .i64 p0.Span, .int .i64 p0.Room, .int .i64 p0.Epoch, .int .i64 p0.Next, .int .i64 v15, .int .i64 p0.Sent, .int .i64 p0.Got, .slice a304 v303.length c305, .slice a_0_9 p0.Early.length c_0_9, .bool p0.Owes] 54)] :: ψ_0_9 :: Φ) w ∧ OwnL 3 R_ref16_Body F 81 a297 c298 v296 p299 ∧ OwnL 3 R_ref16_Body F 81 a304 c305 v303 p306) hl13 ?_ ?_
              · refine At.empty ?_
                have ho380 : OwnL 3 R_ref16_Body F 81 none 0 ([] : List S_ref16_Body) [] := OwnL.nil
                exact fun a w hc hs => ⟨none, 0, [], a_0_8, c_0_8, ψ_0_8, (hc.keep (hc.keep (hc.keep (hc.keep hc.nil (t := 7) rfl) (t := 6) rfl) (t := 3) rfl) (t := 0) rfl), (hs.arrange 1 5 [0] [1, 4, 2, 3, 5] (by decide)), ho380, ho_0_8⟩
              · rintro ⟨v296, v302, v303⟩ r13 hr a w ⟨a297, c298, p299, a304, c305, p306, hc, hs, ho300, ho307⟩
                refine WC.use hc hs ?_
                clear hc hs
                (try dsimp only at hr)
                unfold ref16_Link_Hear_vvvvvvvvoov_b12 at hr
                refine WC.then ?_
                refine WC.then ?_
                refine WC.region [(0, true), (1, true), (2, true), (3, true), (4, false), (5, true), (6, true)] rfl ?_
                refine WO.move rfl rfl rfl rfl ?_
                refine WO.move rfl rfl rfl rfl ?_
                refine WO.nilCheck rfl rfl rfl rfl ?_
                refine WO.fieldAddr 8 rfl rfl rfl rfl fl_54_8 ?_
                refine WO.load 3 rfl rfl rfl rfl sc_51 rfl rfl ?_
                refine WO.len rfl rfl rfl rfl Try.underlying51 ?_
                refine WO.bin rfl rfl rfl rfl rfl rfl ?_
                refine WO.done ?_
                refine At.seq_wc ?_
                refine WC.cond rfl (fun hb336 => ?_) (fun hb336 => ?_)
                · have hr := cond_t hb336 hr
                  refine WC.skip ?_
                  refine At.seq_wc ?_
                  refine WC.seq (fun a w => ∃ (v338 : List S_ref16_Body) (v344 : List S_ref16_Body) (a339 : Option Addr) (c340 : Nat) (p341 : List Chunk) (a345 : Option Addr) (c346 : Nat) (p347 : List Chunk), ref16_Link_Hear_vvvvvvvvoov_k14 v302 v338 v344 = some r13 ∧ Ctx 213 [(0, .pointer (some ⟨b_0, 0, none⟩)), (3, .pointer (some ⟨b4, 0, none⟩)), (6, .slice a339 v338.length c340), (7, .int .i64 v302)] a ∧ Sat (Mem.add F χ) (p341 :: p347 :: [(b4, row [.int .i64 p1.Epoch, .int .i64 p1.Seq, .int .i64 p1.Ack, .slice a1 p1.Body.length c2] 46)] :: [(b_0, row [.int .i64 p0.Window, .int .i64 p0.Span, .int .i64 p0.Room, .int .i64 p0.Epoch, .int .i64 p0.Next, .int .i64 v15, .int .i64 p0.Sent, .int .i64 p0.Got, .slice a345 v344.length c346, .slice a_0_9 p0.Early.length c_0_9, .bool p0.Owes] 54)] :: ψ_0_9 :: Φ) w ∧ OwnL 3 R_ref16_Body F 81 a339 c340 v338 p341 ∧ OwnL 3 R_ref16_Body F 81 a345 c346 v344 p347) ?_ ?_
                  · refine WC.block ?_
                    refine WC.then ?_
                    refine WC.draw (Sat (Mem.add F χ) (p299 :: p306 :: [(b4, row [.int .i64 p1.Epoch, .int .i64 p1.Seq, .int .i64 p1.Ack, .slice a1 p1.Body.length c2] 46)] :: [(b_0, row [.int .i64 p0.Window, .int .i64 p0.Span, .int .i64 p0.Room, .int .i64 p0.Epoch, .int .i64 p0.Next, .int .i64 v15, .int .i64 p0.Sent, .int .i64 p0.Got, .slice a304 v303.length c305, .slice a_0_9 p0.Early.length c_0_9, .bool p0.Owes] 54)] :: ψ_0_9 :: Φ)) (fun _ h => (h.arrange 1 5 [0] [1, 2, 3, 4, 5] (by decide))) [(0, true), (1, true), (2, true), (3, true), (4, true), (5, true), (6, true), (7, true), (8, true), (9, true), (10, true), (11, true), (12, true)] mixed (by kernel_rfl) rfl (by kernel_rfl) ?_
                    refine WO.move rfl rfl rfl rfl ?_
                    refine WO.nilCheck rfl rfl rfl rfl ?_
                    refine WO.fieldAddr 8 rfl rfl rfl rfl fl_54_8 ?_
                    refine WO.loadY 3 rfl rfl rfl rfl sc_51 rfl rfl ?_
                    refine WO.move rfl rfl rfl rfl ?_
                    obtain ⟨x350, hx351, hr⟩ := bind_some' hr
                    refine WO.indexQ ho307 hx351 rfl rfl rfl rfl rfl rfl Try.underlying51 sz_81 (fun b352 cs353 hb354 h355 hq356 => ?_)
                    subst hb354
                    obtain ⟨a357, c358, rfl, h359⟩ := h355
                    refine WO.fieldAddr 0 rfl rfl rfl rfl fl_81_0 ?_
                    refine WO.loadQY 1 0 hq356 rfl rfl rfl rfl rfl rfl sc_3 rfl ?_
                    refine WO.move rfl rfl rfl rfl ?_
                    refine WO.nilCheck rfl rfl rfl rfl ?_
                    refine WO.fieldAddr 5 rfl rfl rfl rfl fl_54_5 ?_
                    refine WO.loadY 3 rfl rfl rfl rfl sc_3 rfl rfl ?_
                    refine WO.bin rfl rfl rfl rfl rfl rfl ?_
                    refine WO.done ?_
                    refine At.seq_wc ?_
                    refine WC.cond rfl (fun hb360 => ?_) (fun hb360 => ?_)
                    · have hr := cond_t hb360 hr
                      refine WC.region [(0, true), (1, true), (2, true), (3, true), (4, false), (5, true), (6, true), (7, false), (8, false), (9, false), (10, true)] rfl ?_
                      refine WO.move rfl rfl rfl rfl ?_
                      refine WO.move rfl rfl rfl rfl ?_
                      refine WO.nilCheck rfl rfl rfl rfl ?_
                      refine WO.fieldAddr 8 rfl rfl rfl rfl fl_54_8 ?_
                      refine WO.load 3 rfl rfl rfl rfl sc_51 rfl rfl ?_
                      refine WO.move rfl rfl rfl rfl ?_
                      obtain ⟨x361, hx362, hr⟩ := bind_some' hr
                      refine WO.indexQ ho307 hx362 rfl rfl rfl rfl rfl rfl Try.underlying51 sz_81 (fun b363 cs364 hb365 h366 hq367 => ?_)
                      obtain rfl : b352 = b363 := by cases hb365; rfl
                      obtain ⟨a368, c369, rfl, h370⟩ := h366
                      refine WO.loadQA 1 0 3 hq367 rfl rfl rfl rfl rfl rfl ag_81 rfl rfl ?_
                      refine WO.buildSl (e := 81) (vs := [.tmp 87]) [0] [.int .i64 x361.Seq, .int .i64 x361.Since, .slice a368 x361.B.length c369] rfl rfl rfl rfl rfl (fun _ => by kernel_rfl) (fun _ _ _ => trivial) (fun b371 => ?_)
                      obtain ⟨x373, hx374, hr⟩ := bind_some' hr
                      refine WO.append 1 ho300 rfl (SrcL.ofRow 0 Try.underlying51 [[.int .i64 x361.Seq, .int .i64 x361.Since, .slice a368 x361.B.length c369]] rfl rfl rfl (Rs.cons (x := x361) (cs := [.int .i64 x361.Seq, .int .i64 x361.Since, .slice a368 x361.B.length c369]) rfl ⟨_, _, rfl, h370⟩ rfl Rs.nil)) hx374 rfl rfl rfl rfl rfl rfl Try.underlying51 el_81 (fun _ _ _ => trivial) (fun a375 c376 p377 ho378 => ?_)
                      refine WO.assign rfl rfl rfl rfl ?_
                      refine WO.done ?_
                      refine At.block_normal ?_
                      refine At.seq_at ?_
                      exact fun a w hc hs => ⟨x373, v303, a375, c376, p377, (some ⟨b352, 0, none⟩), c305, p306, hr, (hc.keep (hc.keep (hc.keep (hc.keep hc.nil (t := 7) rfl) (t := 6) rfl) (t := 3) rfl) (t := 0) rfl), (hs.arrange 1 6 [0] [2, 3, 4, 5, 6] (by decide)), ho378, ho307⟩
                    · have hr := cond_f hb360 hr
                      refine WC.skip ?_
                      refine At.block_normal ?_
                      refine At.seq_at ?_
                      exact fun a w hc hs => ⟨v296, v303, a297, c298, p299, (some ⟨b352, 0, none⟩), c305, p306, hr, (hc.keep (hc.keep (hc.keep (hc.keep hc.nil (t := 7) rfl) (t := 6) rfl) (t := 3) rfl) (t := 0) rfl), hs, ho300, ho307⟩
                  · rintro a w ⟨v338, v344, a339, c340, p341, a345, c346, p347, hr, hc, hs, ho342, ho348⟩
                    refine WC.use hc hs ?_
                    clear hc hs
                    unfold ref16_Link_Hear_vvvvvvvvoov_k14 at hr
                    refine WC.region [(0, true), (1, true), (2, true)] rfl ?_
                    refine WO.move rfl rfl rfl rfl ?_
                    refine WO.bin rfl rfl rfl rfl rfl rfl ?_
                    refine WO.assign rfl rfl rfl rfl ?_
                    refine WO.done ?_
                    refine At.round_next hr ?_
                    exact fun a w hc hs => ⟨a339, c340, p341, a345, c346, p347, (hc.keep (hc.keep (hc.keep (hc.keep hc.nil (t := 7) rfl) (t := 6) rfl) (t := 3) rfl) (t := 0) rfl), hs, ho342, ho348⟩
                · have hr := cond_f hb336 hr
                  refine WC.exit ?_
                  refine At.seq_exit ?_
                  refine At.round_exit hr (fun hy => ?_)
                  refine At.exit_block ?_
                  refine At.seq_at ?_
                  exact fun a w hc hs => ⟨v296, v303, a297, c298, p299, a304, c305, p306, hy, (hc.keep (hc.keep (hc.keep hc.nil (t := 6) rfl) (t := 3) rfl) (t := 0) rfl), hs, ho300, ho307⟩
            · rintro a w ⟨v324, v330, a325, c326, p327, a331, c332, p333, rfl, hc, hs, ho328, ho334⟩
              refine At.use hc hs ?_
              clear hc hs
              (try dsimp only at hk13)
              have hr := hk13
              refine At.seq_at ?_
              exact fun a w hc hs => ⟨v324, v330, a325, c326, p327, a331, c332, p333, hr, (hc.keep (hc.keep (hc.keep hc.nil (t := 6) rfl) (t := 3) rfl) (t := 0) rfl), hs, ho328, ho334⟩
          · rintro a w ⟨v17, v23, a18, c19, p20, a24, c25, p26, hr, hc, hs, ho21, ho27⟩
            refine WC.use hc hs ?_
            clear hc hs
            unfold ref16_Link_Hear_vvvvvvvvoov_k3 at hr
            refine WC.then ?_
            refine WC.region [(0, true), (1, true), (2, true), (3, true), (4, false)] rfl ?_
            refine WO.move rfl rfl rfl rfl ?_
            refine WO.move rfl rfl rfl rfl ?_
            refine WO.nilCheck rfl rfl rfl rfl ?_
            refine WO.fieldAddr 8 rfl rfl rfl rfl fl_54_8 ?_
            refine WO.store 3 rfl rfl rfl rfl sz_51 rfl rfl rfl (fun _ _ => trivial) ?_
            refine WO.done ?_
            refine At.seq_wc ?_
            refine WC.then ?_
            refine WC.then ?_
            refine WC.region [(0, true), (1, false), (2, true)] rfl ?_
            refine WO.fieldAddr 1 rfl rfl rfl rfl fl_46_1 ?_
            refine WO.load 2 rfl rfl rfl rfl sc_3 rfl rfl ?_
            refine WO.bin rfl rfl rfl rfl rfl rfl ?_
            refine WO.done ?_
            refine At.seq_wc ?_
            refine WC.cond rfl (fun hb29 => ?_) (fun hb29 => ?_)
            · have hr := cond_t hb29 hr
              refine WC.then ?_
              refine WC.region [(0, true), (1, true)] rfl ?_
              refine WO.assign rfl rfl rfl rfl ?_
              refine WO.assign rfl rfl rfl rfl ?_
              refine WO.done ?_
              refine At.seq_wc ?_
              refine WC.ret ?_
              refine At.seq_ret ?_
              refine At.empty ?_
              have ho31 : OwnL 1 (RSl 1 (RInt .u8)) F 38 none 0 ([] : List (List Int)) [] := OwnL.nil
              obtain rfl := Option.some.inj hr
              exact At.ret (fun a w hc hs => (resVs_cons (hc.res rfl) (resVs_cons (hc.res rfl) resVs_nil))) (fun w hs => ⟨(List.flatten []), _, _, _, _, _, _, _, _, _, rfl, ((hs.arrange 1 6 [0] [1, 5, 2, 6] (by decide)).gather 0), (ho31.mono (mono_sl (mono_int _)) (Mem.le_gather F 0)), (ho21.mono mono_ref16_Body (Mem.le_gather F 0)), (ho_0_9.mono mono_ref16_Early (Mem.le_gather F 0))⟩)
            · have hr := cond_f hb29 hr
              refine WC.skip ?_
              refine At.seq_wc ?_
              refine WC.then ?_
              refine WC.region [(0, true), (1, true), (2, true), (3, false)] rfl ?_
              refine WO.move rfl rfl rfl rfl ?_
              refine WO.nilCheck rfl rfl rfl rfl ?_
              refine WO.fieldAddr 10 rfl rfl rfl rfl fl_54_10 ?_
              refine WO.store 3 rfl rfl rfl rfl sz_4 rfl rfl rfl (fun _ _ => trivial) ?_
              refine WO.done ?_
              refine At.seq_wc ?_
              refine WC.seq (fun a w => ∃ (v33 : List S_ref16_Early) (a34 : Option Addr) (c35 : Nat) (p36 : List Chunk) (w32 : List Chunk), ref16_Link_Hear_vvvvvvvvoov_k4 p0 v15 v17 v33 = some r ∧ Ctx 213 [(0, .pointer (some ⟨b_0, 0, none⟩))] a ∧ Sat (Mem.add (Mem.add F χ) w32) (p36 :: p20 :: p26 :: [(b4, row [.int .i64 p1.Epoch, .int .i64 p1.Seq, .int .i64 p1.Ack, .slice a1 p1.Body.length c2] 46)] :: [(b_0, row [.int .i64 p0.Window, .int .i64 p0.Span, .int .i64 p0.Room, .int .i64 p0.Epoch, .int .i64 p0.Next, .int .i64 v15, .int .i64 p0.Sent, .int .i64 p0.Got, .slice a18 v17.length c19, .slice a34 v33.length c35, .bool true] 54)] :: Φ) w ∧ OwnL 2 R_ref16_Early (Mem.add F w32) 88 a34 c35 v33 p36) ?_ ?_
              · refine WC.seq (fun a w => ∃ (v254 : Bool), ref16_Link_Hear_vvvvvvvvoov_k11 p0 p1 v15 v17 v254 = some r ∧ Ctx 213 [(0, .pointer (some ⟨b_0, 0, none⟩)), (3, .pointer (some ⟨b4, 0, none⟩)), (127, .bool v254)] a ∧ Sat (Mem.add F χ) (p20 :: p26 :: [(b4, row [.int .i64 p1.Epoch, .int .i64 p1.Seq, .int .i64 p1.Ack, .slice a1 p1.Body.length c2] 46)] :: [(b_0, row [.int .i64 p0.Window, .int .i64 p0.Span, .int .i64 p0.Room, .int .i64 p0.Epoch, .int .i64 p0.Next, .int .i64 v15, .int .i64 p0.Sent, .int .i64 p0.Got, .slice a18 v17.length c19, .slice a_0_9 p0.Early.length c_0_9, .bool true] 54)] :: ψ_0_9 :: Φ) w) ?_ ?_
                · refine WC.drawA (Sat (Mem.add F χ) (p26 :: [(b4, row [.int .i64 p1.Epoch, .int .i64 p1.Seq, .int .i64 p1.Ack, .slice a1 p1.Body.length c2] 46)] :: Φ)) (fun _ h => (h.arrange 1 5 [0] [2, 3] (by decide))) mixed rfl ?_
                  refine WA.lin (fuel := 12) [(0, true), (1, true), (2, true), (3, true), (4, true), (5, false), (6, true), (7, true), (8, true), (9, true), (10, true), (11, true), (12, true), (14, true), (15, true), (16, true)] (by kernel_rfl) (by kernel_rfl) ?_
                  refine WO.fieldAddr 1 rfl rfl rfl rfl fl_46_1 ?_
                  refine WO.loadY 1 rfl rfl rfl rfl sc_3 rfl rfl ?_
                  refine WO.move rfl rfl rfl rfl ?_
                  refine WO.nilCheck rfl rfl rfl rfl ?_
                  refine WO.fieldAddr 7 rfl rfl rfl rfl fl_54_7 ?_
                  refine WO.load 3 rfl rfl rfl rfl sc_3 rfl rfl ?_
                  refine WO.bin rfl rfl rfl rfl rfl rfl ?_
                  refine WO.move rfl rfl rfl rfl ?_
                  refine WO.split (t := 107) rfl (fun hg275 => ?_) (fun hg275 => ?_)
                  · have hr := cond_t hg275 hr
                    refine WO.fieldAddr 1 rfl rfl rfl rfl fl_46_1 ?_
                    refine WO.loadY 1 rfl rfl rfl rfl sc_3 rfl rfl ?_
                    refine WO.move rfl rfl rfl rfl ?_
                    refine WO.nilCheck rfl rfl rfl rfl ?_
                    refine WO.fieldAddr 7 rfl rfl rfl rfl fl_54_7 ?_
                    refine WO.move rfl rfl rfl rfl ?_
                    refine WO.nilCheck rfl rfl rfl rfl ?_
                    refine WO.fieldAddr 0 rfl rfl rfl rfl fl_54_0 ?_
                    refine WO.done ?_
                    refine WA.of ?_
                    refine WA.two (fuel := 11) 13 17 (by kernel_rfl) ?_ ?_
                    · refine WO.load 3 rfl rfl rfl rfl sc_3 rfl rfl ?_
                      refine WO.done ?_
                      refine WA.of ?_
                      refine WA.lin (fuel := 0) [(17, false), (18, true), (19, true), (20, true), (21, true), (22, true), (23, true), (24, true), (25, false), (26, true), (27, true)] (by kernel_rfl) (by kernel_rfl) ?_
                      refine WO.load 3 rfl rfl rfl rfl sc_3 rfl rfl ?_
                      refine WO.bin rfl rfl rfl rfl rfl rfl ?_
                      refine WO.bin rfl rfl rfl rfl rfl rfl ?_
                      refine WO.pickT rfl rfl rfl rfl rfl ?_
                      refine WO.move rfl rfl rfl rfl ?_
                      refine WO.split (t := 121) rfl (fun hg276 => ?_) (fun hg276 => ?_)
                      · have hr := cond_t hg276 hr
                        refine WO.move rfl rfl rfl rfl ?_
                        refine WO.fieldAddr 1 rfl rfl rfl rfl fl_46_1 ?_
                        refine WO.loadY 1 rfl rfl rfl rfl sc_3 rfl rfl ?_
                        obtain ⟨x277, hx278, hr⟩ := bind_some' hr
                        refine WO.call rfl rfl rfl rfl rfl cl_32 (CallsRet.lay0 1 5 [] [4, 1, 5, 0, 2, 3] (by decide) F ([(b_0, row [.int .i64 p0.Window, .int .i64 p0.Span, .int .i64 p0.Room, .int .i64 p0.Epoch, .int .i64 p0.Next, .int .i64 v15, .int .i64 p0.Sent, .int .i64 p0.Got, .slice a18 v17.length c19, .slice a_0_9 p0.Early.length c_0_9, .bool true] 54)] :: p20 :: ψ_0_9 :: χ :: p26 :: [(b4, row [.int .i64 p1.Epoch, .int .i64 p1.Seq, .int .i64 p1.Ack, .slice a1 p1.Body.length c2] 46)] :: Φ) rfl rfl (ref16_Link_find_vvvvvvvvoov_ok (F := F) (p0 := (⟨p0.Window, p0.Span, p0.Room, p0.Epoch, p0.Next, v15, p0.Sent, p0.Got, v17, p0.Early, true⟩ : S_ref16_Link)) ho21 ho_0_9 hx278 (χ :: p26 :: [(b4, row [.int .i64 p1.Epoch, .int .i64 p1.Seq, .int .i64 p1.Ack, .slice a1 p1.Body.length c2] 46)] :: Φ))) ?_
                        rintro _ _ ⟨rfl, hs279⟩
                        have hs279 := (hs279.arrange 0 6 [3] [1, 4, 5, 0, 2] (by decide))
                        refine ⟨(Mem.add F χ), (p20 :: p26 :: [(b4, row [.int .i64 p1.Epoch, .int .i64 p1.Seq, .int .i64 p1.Ack, .slice a1 p1.Body.length c2] 46)] :: [(b_0, row [.int .i64 p0.Window, .int .i64 p0.Span, .int .i64 p0.Room, .int .i64 p0.Epoch, .int .i64 p0.Next, .int .i64 v15, .int .i64 p0.Sent, .int .i64 p0.Got, .slice a18 v17.length c19, .slice a_0_9 p0.Early.length c_0_9, .bool true] 54)] :: ψ_0_9 :: Φ), hs279, (hs279.arrange 1 5 [0] [2, 3] (by decide)), ?_⟩
                        refine WO.bin rfl rfl rfl rfl rfl rfl ?_
                        refine WO.pickT rfl rfl rfl rfl rfl ?_
                        refine WO.done ?_
                        refine WA.of ?_
                        refine WA.done (by kernel_rfl) ?_
                        refine At.seq_at ?_
                        exact fun a w hc hs => ⟨(decide (x277 < 0)), hr, (hc.keep (hc.keep (hc.keep hc.nil (t := 127) rfl) (t := 3) rfl) (t := 0) rfl), hs⟩
                      · have hr := cond_f hg276 hr
                        refine WO.skip rfl rfl rfl rfl ?_
                        refine WO.skip rfl rfl rfl rfl ?_
                        refine WO.skip rfl rfl rfl rfl ?_
                        refine WO.skipF rfl rfl rfl rfl ?_
                        refine WO.skip rfl rfl rfl rfl ?_
                        refine WO.pickF rfl rfl rfl rfl rfl ?_
                        refine WO.done ?_
                        refine WA.of ?_
                        refine WA.done (by kernel_rfl) ?_
                        refine At.seq_at ?_
                        exact fun a w hc hs => ⟨false, hr, (hc.keep (hc.keep (hc.keep hc.nil (t := 127) rfl) (t := 3) rfl) (t := 0) rfl), hs⟩
                    · refine WO.load 3 rfl rfl rfl rfl sc_3 rfl rfl ?_
                      refine WO.done ?_
                      refine WA.of ?_
                      refine WA.lin (fuel := 0) [(13, false), (18, true), (19, true), (20, true), (21, true), (22, true), (23, true), (24, true), (25, false), (26, true), (27, true)] (by kernel_rfl) (by kernel_rfl) ?_
                      refine WO.load 3 rfl rfl rfl rfl sc_3 rfl rfl ?_
                      refine WO.bin rfl rfl rfl rfl rfl rfl ?_
                      refine WO.bin rfl rfl rfl rfl rfl rfl ?_
                      refine WO.pickT rfl rfl rfl rfl rfl ?_
                      refine WO.move rfl rfl rfl rfl ?_
                      refine WO.split (t := 121) rfl (fun hg276 => ?_) (fun hg276 => ?_)
                      · have hr := cond_t hg276 hr
                        refine WO.move rfl rfl rfl rfl ?_
                        refine WO.fieldAddr 1 rfl rfl rfl rfl fl_46_1 ?_
                        refine WO.loadY 1 rfl rfl rfl rfl sc_3 rfl rfl ?_
                        obtain ⟨x277, hx278, hr⟩ := bind_some' hr
                        refine WO.call rfl rfl rfl rfl rfl cl_32 (CallsRet.lay0 1 5 [] [4, 1, 5, 0, 2, 3] (by decide) F ([(b_0, row [.int .i64 p0.Window, .int .i64 p0.Span, .int .i64 p0.Room, .int .i64 p0.Epoch, .int .i64 p0.Next, .int .i64 v15, .int .i64 p0.Sent, .int .i64 p0.Got, .slice a18 v17.length c19, .slice a_0_9 p0.Early.length c_0_9, .bool true] 54)] :: p20 :: ψ_0_9 :: χ :: p26 :: [(b4, row [.int .i64 p1.Epoch, .int .i64 p1.Seq, .int .i64 p1.Ack, .slice a1 p1.Body.length c2] 46)] :: Φ) rfl rfl (ref16_Link_find_vvvvvvvvoov_ok (F := F) (p0 := (⟨p0.Window, p0.Span, p0.Room, p0.Epoch, p0.Next, v15, p0.Sent, p0.Got, v17, p0.Early, true⟩ : S_ref16_Link)) ho21 ho_0_9 hx278 (χ :: p26 :: [(b4, row [.int .i64 p1.Epoch, .int .i64 p1.Seq, .int .i64 p1.Ack, .slice a1 p1.Body.length c2] 46)] :: Φ))) ?_
                        rintro _ _ ⟨rfl, hs279⟩
                        have hs279 := (hs279.arrange 0 6 [3] [1, 4, 5, 0, 2] (by decide))
                        refine ⟨(Mem.add F χ), (p20 :: p26 :: [(b4, row [.int .i64 p1.Epoch, .int .i64 p1.Seq, .int .i64 p1.Ack, .slice a1 p1.Body.length c2] 46)] :: [(b_0, row [.int .i64 p0.Window, .int .i64 p0.Span, .int .i64 p0.Room, .int .i64 p0.Epoch, .int .i64 p0.Next, .int .i64 v15, .int .i64 p0.Sent, .int .i64 p0.Got, .slice a18 v17.length c19, .slice a_0_9 p0.Early.length c_0_9, .bool true] 54)] :: ψ_0_9 :: Φ), hs279, (hs279.arrange 1 5 [0] [2, 3] (by decide)), ?_⟩
                        refine WO.bin rfl rfl rfl rfl rfl rfl ?_
                        refine WO.pickT rfl rfl rfl rfl rfl ?_
                        refine WO.done ?_
                        refine WA.of ?_
                        refine WA.done (by kernel_rfl) ?_
                        refine At.seq_at ?_
                        exact fun a w hc hs => ⟨(decide (x277 < 0)), hr, (hc.keep (hc.keep (hc.keep hc.nil (t := 127) rfl) (t := 3) rfl) (t := 0) rfl), hs⟩
                      · have hr := cond_f hg276 hr
                        refine WO.skip rfl rfl rfl rfl ?_
                        refine WO.skip rfl rfl rfl rfl ?_
                        refine WO.skip rfl rfl rfl rfl ?_
                        refine WO.skipF rfl rfl rfl rfl ?_
                        refine WO.skip rfl rfl rfl rfl ?_
                        refine WO.pickF rfl rfl rfl rfl rfl ?_
                        refine WO.done ?_
                        refine WA.of ?_
                        refine WA.done (by kernel_rfl) ?_
                        refine At.seq_at ?_
                        exact fun a w hc hs => ⟨false, hr, (hc.keep (hc.keep (hc.keep hc.nil (t := 127) rfl) (t := 3) rfl) (t := 0) rfl), hs⟩
                  · have hr := cond_f hg275 hr
                    refine WO.skip rfl rfl rfl rfl ?_
                    refine WO.skip rfl rfl rfl rfl ?_
                    refine WO.skip rfl rfl rfl rfl ?_
                    refine WO.skip rfl rfl rfl rfl ?_
                    refine WO.skip rfl rfl rfl rfl ?_
                    refine WO.skip rfl rfl rfl rfl ?_
                    refine WO.skip rfl rfl rfl rfl ?_
                    refine WO.skip rfl rfl rfl rfl ?_
                    refine WO.done ?_
                    refine WA.of ?_
                    refine WA.two (fuel := 11) 13 17 (by kernel_rfl) ?_ ?_
                    · refine WO.skipF rfl rfl rfl rfl ?_
                      refine WO.done ?_
                      refine WA.of ?_
                      refine WA.lin (fuel := 0) [(17, false), (18, true), (19, true), (20, true), (21, true), (22, true), (23, true), (24, true), (25, false), (26, true), (27, true)] (by kernel_rfl) (by kernel_rfl) ?_
                      refine WO.skipF rfl rfl rfl rfl ?_
                      refine WO.skip rfl rfl rfl rfl ?_
                      refine WO.skip rfl rfl rfl rfl ?_
                      refine WO.pickF rfl rfl rfl rfl rfl ?_
                      refine WO.move rfl rfl rfl rfl ?_
                      refine WO.skip rfl rfl rfl rfl ?_
                      refine WO.skip rfl rfl rfl rfl ?_
                      refine WO.skip rfl rfl rfl rfl ?_
                      refine WO.skipF rfl rfl rfl rfl ?_
                      refine WO.skip rfl rfl rfl rfl ?_
                      refine WO.pickF rfl rfl rfl rfl rfl ?_
                      refine WO.done ?_
                      refine WA.of ?_
                      refine WA.done (by kernel_rfl) ?_
                      refine At.seq_at ?_
                      exact fun a w hc hs => ⟨false, hr, (hc.keep (hc.keep (hc.keep hc.nil (t := 127) rfl) (t := 3) rfl) (t := 0) rfl), hs⟩
                    · refine WO.skipF rfl rfl rfl rfl ?_
                      refine WO.done ?_
                      refine WA.of ?_
                      refine WA.lin (fuel := 0) [(13, false), (18, true), (19, true), (20, true), (21, true), (22, true), (23, true), (24, true), (25, false), (26, true), (27, true)] (by kernel_rfl) (by kernel_rfl) ?_
                      refine WO.skipF rfl rfl rfl rfl ?_
                      refine WO.skip rfl rfl rfl rfl ?_
                      refine WO.skip rfl rfl rfl rfl ?_
                      refine WO.pickF rfl rfl rfl rfl rfl ?_
                      refine WO.move rfl rfl rfl rfl ?_
                      refine WO.skip rfl rfl rfl rfl ?_
                      refine WO.skip rfl rfl rfl rfl ?_
                      refine WO.skip rfl rfl rfl rfl ?_
                      refine WO.skipF rfl rfl rfl rfl ?_
                      refine WO.skip rfl rfl rfl rfl ?_
                      refine WO.pickF rfl rfl rfl rfl rfl ?_
                      refine WO.done ?_
                      refine WA.of ?_
                      refine WA.done (by kernel_rfl) ?_
                      refine At.seq_at ?_
                      exact fun a w hc hs => ⟨false, hr, (hc.keep (hc.keep (hc.keep hc.nil (t := 127) rfl) (t := 3) rfl) (t := 0) rfl), hs⟩
                · rintro a w ⟨v254, hr, hc, hs⟩
                  refine WC.use hc hs ?_
                  clear hc hs
                  unfold ref16_Link_Hear_vvvvvvvvoov_k11 at hr
                  refine WC.cond rfl (fun hb255 => ?_) (fun hb255 => ?_)
                  · have hr := cond_t hb255 hr
                    refine WC.drawA (Sat (Mem.add F χ) (p26 :: [(b4, row [.int .i64 p1.Epoch, .int .i64 p1.Seq, .int .i64 p1.Ack, .slice a1 p1.Body.length c2] 46)] :: Φ)) (fun _ h => (h.arrange 1 5 [0] [2, 3] (by decide))) mixed rfl ?_
                    refine WA.lin (fuel := 9) [(0, true), (1, true), (2, true), (3, true), (5, true), (6, true), (8, true), (9, true)] (by kernel_rfl) (by kernel_rfl) ?_
                    refine WO.move rfl rfl rfl rfl ?_
                    refine WO.move rfl rfl rfl rfl ?_
                    refine WO.nilCheck rfl rfl rfl rfl ?_
                    refine WO.fieldAddr 9 rfl rfl rfl rfl fl_54_9 ?_
                    refine WO.fieldAddr 1 rfl rfl rfl rfl fl_46_1 ?_
                    refine WO.loadY 1 rfl rfl rfl rfl sc_3 rfl rfl ?_
                    refine WO.fieldAddr 3 rfl rfl rfl rfl fl_46_3 ?_
                    refine WO.loadY 1 rfl rfl rfl rfl sc_38 rfl rfl ?_
                    refine WO.done ?_
                    refine WA.of ?_
                    refine WA.two (fuel := 8) 4 7 (by kernel_rfl) ?_ ?_
                    · refine WO.load 3 rfl rfl rfl rfl sc_52 rfl rfl ?_
                      refine WO.done ?_
                      refine WA.of ?_
                      refine WA.lin (fuel := 0) [(7, false), (10, false), (11, true), (12, false), (13, false), (14, true), (15, true), (16, false)] (by kernel_rfl) (by kernel_rfl) ?_
                      refine WO.buildSl (e := 5) (vs := []) [] [] rfl rfl rfl rfl rfl (fun _ => by kernel_rfl) (fun _ _ h => (h.arrange 1 6 [0] [3, 4] (by decide))) (fun b256 => ?_)
                      have ho258 : OwnL 1 (RInt .u8) F 5 (some ⟨b256, 0, none⟩) 0 ([] : List Int) [(b256, row [] 5)] := ⟨Nat.le_refl _, .inr ⟨_, [], [], rfl, rfl, Rs.nil, rfl⟩⟩
                      obtain ⟨x260, hx261, hr⟩ := bind_some' hr
                      refine WO.append 0 (OwnL.re (G := (Mem.add F χ)) (const_int _) ho258) rfl (SrcL.ofRd Try.underlying38 h3 (Mem.le_refl _)) hx261 rfl rfl rfl rfl rfl rfl Try.underlying38 el_5 (fun _ _ h => (h.arrange 1 6 [0] [3, 4] (by decide))) (fun a262 c263 p264 ho265 => ?_)
                      refine WO.build (vs := [.tmp 134, .tmp 138]) [0, 1] (.agg (List.toArray [.int .i64 p1.Seq, .slice a262 x260.length c263])) rfl rfl rfl rfl rfl (fun _ => by kernel_rfl) ?_
                      refine WO.buildSl (e := 88) (vs := [.tmp 139]) [0] [.int .i64 p1.Seq, .slice a262 x260.length c263] rfl rfl rfl rfl rfl (fun _ => by kernel_rfl) (fun _ _ h => (h.arrange 1 7 [0] [4, 5] (by decide))) (fun b266 => ?_)
                      refine WO.freeze 1 rfl ?_
                      have hz268 := (OwnL.re (G := F) (const_int _) ho265).rd (mono_int _)
                      obtain ⟨x269, hx270, hr⟩ := bind_some' hr
                      refine WO.append 5 (ho_0_9.mono mono_ref16_Early (Mem.le_pick (Mem.add F p264) 1 [] (by decide))) rfl (SrcL.ofRow 0 Try.underlying52 [[.int .i64 p1.Seq, .slice a262 x260.length c263]] rfl rfl rfl (Rs.cons (x := (⟨p1.Seq, x260⟩ : S_ref16_Early)) (cs := [.int .i64 p1.Seq, .slice a262 x260.length c263]) rfl ⟨_, _, rfl, hz268⟩ rfl Rs.nil)) hx270 rfl rfl rfl rfl rfl rfl Try.underlying52 el_88 (fun _ _ h => (h.arrange 2 6 [1] [4, 5] (by decide))) (fun a271 c272 p273 ho274 => ?_)
                      refine WO.nilCheck rfl rfl rfl rfl ?_
                      refine WO.fieldAddr 9 rfl rfl rfl rfl fl_54_9 ?_
                      refine WO.store 4 rfl rfl rfl rfl sz_52 rfl rfl rfl (fun _ h => (h.arrange 2 6 [1] [4, 5] (by decide))) ?_
                      refine WO.done ?_
                      refine WA.of ?_
                      refine WA.done (by kernel_rfl) ?_
                      refine At.seq_at ?_
                      exact fun a w hc hs => ⟨x269, a271, c272, p273, (List.flatten [p264]), hr, (hc.keep hc.nil (t := 0) rfl), ((hs.arrange 2 6 [0, 1] [7, 3, 4, 5, 6] (by decide)).gather 1), (ho274.mono mono_ref16_Early (Mem.le_gather (Mem.add F p264) 1))⟩
                    · refine WO.buildSl (e := 5) (vs := []) [] [] rfl rfl rfl rfl rfl (fun _ => by kernel_rfl) (fun _ _ h => (h.arrange 1 6 [0] [3, 4] (by decide))) (fun b256 => ?_)
                      refine WO.done ?_
                      refine WA.of ?_
                      refine WA.two (fuel := 7) 4 10 (by kernel_rfl) ?_ ?_
                      · refine WO.load 4 rfl rfl rfl rfl sc_52 rfl rfl ?_
                        refine WO.done ?_
                        refine WA.of ?_
                        refine WA.lin (fuel := 0) [(10, false), (11, true), (12, false), (13, false), (14, true), (15, true), (16, false)] (by kernel_rfl) (by kernel_rfl) ?_
                        have ho258 : OwnL 1 (RInt .u8) F 5 (some ⟨b256, 0, none⟩) 0 ([] : List Int) [(b256, row [] 5)] := ⟨Nat.le_refl _, .inr ⟨_, [], [], rfl, rfl, Rs.nil, rfl⟩⟩
                        obtain ⟨x260, hx261, hr⟩ := bind_some' hr
                        refine WO.append 0 (OwnL.re (G := (Mem.add F χ)) (const_int _) ho258) rfl (SrcL.ofRd Try.underlying38 h3 (Mem.le_refl _)) hx261 rfl rfl rfl rfl rfl rfl Try.underlying38 el_5 (fun _ _ h => (h.arrange 1 6 [0] [3, 4] (by decide))) (fun a262 c263 p264 ho265 => ?_)
                        refine WO.build (vs := [.tmp 134, .tmp 138]) [0, 1] (.agg (List.toArray [.int .i64 p1.Seq, .slice a262 x260.length c263])) rfl rfl rfl rfl rfl (fun _ => by kernel_rfl) ?_
                        refine WO.buildSl (e := 88) (vs := [.tmp 139]) [0] [.int .i64 p1.Seq, .slice a262 x260.length c263] rfl rfl rfl rfl rfl (fun _ => by kernel_rfl) (fun _ _ h => (h.arrange 1 7 [0] [4, 5] (by decide))) (fun b266 => ?_)
                        refine WO.freeze 1 rfl ?_
                        have hz268 := (OwnL.re (G := F) (const_int _) ho265).rd (mono_int _)
                        obtain ⟨x269, hx270, hr⟩ := bind_some' hr
                        refine WO.append 5 (ho_0_9.mono mono_ref16_Early (Mem.le_pick (Mem.add F p264) 1 [] (by decide))) rfl (SrcL.ofRow 0 Try.underlying52 [[.int .i64 p1.Seq, .slice a262 x260.length c263]] rfl rfl rfl (Rs.cons (x := (⟨p1.Seq, x260⟩ : S_ref16_Early)) (cs := [.int .i64 p1.Seq, .slice a262 x260.length c263]) rfl ⟨_, _, rfl, hz268⟩ rfl Rs.nil)) hx270 rfl rfl rfl rfl rfl rfl Try.underlying52 el_88 (fun _ _ h => (h.arrange 2 6 [1] [4, 5] (by decide))) (fun a271 c272 p273 ho274 => ?_)
                        refine WO.nilCheck rfl rfl rfl rfl ?_
                        refine WO.fieldAddr 9 rfl rfl rfl rfl fl_54_9 ?_
                        refine WO.store 4 rfl rfl rfl rfl sz_52 rfl rfl rfl (fun _ h => (h.arrange 2 6 [1] [4, 5] (by decide))) ?_
                        refine WO.done ?_
                        refine WA.of ?_
                        refine WA.done (by kernel_rfl) ?_
                        refine At.seq_at ?_
                        exact fun a w hc hs => ⟨x269, a271, c272, p273, (List.flatten [p264]), hr, (hc.keep hc.nil (t := 0) rfl), ((hs.arrange 2 6 [0, 1] [7, 3, 4, 5, 6] (by decide)).gather 1), (ho274.mono mono_ref16_Early (Mem.le_gather (Mem.add F p264) 1))⟩
                      · have ho258 : OwnL 1 (RInt .u8) F 5 (some ⟨b256, 0, none⟩) 0 ([] : List Int) [(b256, row [] 5)] := ⟨Nat.le_refl _, .inr ⟨_, [], [], rfl, rfl, Rs.nil, rfl⟩⟩
                        obtain ⟨x260, hx261, hr⟩ := bind_some' hr
                        refine WO.append 0 (OwnL.re (G := (Mem.add F χ)) (const_int _) ho258) rfl (SrcL.ofRd Try.underlying38 h3 (Mem.le_refl _)) hx261 rfl rfl rfl rfl rfl rfl Try.underlying38 el_5 (fun _ _ h => (h.arrange 1 6 [0] [3, 4] (by decide))) (fun a262 c263 p264 ho265 => ?_)
                        refine WO.done ?_
                        refine WA.of ?_
                        refine WA.lin (fuel := 6) [(11, true)] (by kernel_rfl) (by kernel_rfl) ?_
                        refine WO.build (vs := [.tmp 134, .tmp 138]) [0, 1] (.agg (List.toArray [.int .i64 p1.Seq, .slice a262 x260.length c263])) rfl rfl rfl rfl rfl (fun _ => by kernel_rfl) ?_
                        refine WO.done ?_
                        refine WA.of ?_
                        refine WA.two (fuel := 5) 4 12 (by kernel_rfl) ?_ ?_
                        · refine WO.load 4 rfl rfl rfl rfl sc_52 rfl rfl ?_
                          refine WO.done ?_
                          refine WA.of ?_
                          refine WA.lin (fuel := 0) [(12, false), (13, false), (14, true), (15, true), (16, false)] (by kernel_rfl) (by kernel_rfl) ?_
                          refine WO.buildSl (e := 88) (vs := [.tmp 139]) [0] [.int .i64 p1.Seq, .slice a262 x260.length c263] rfl rfl rfl rfl rfl (fun _ => by kernel_rfl) (fun _ _ h => (h.arrange 1 7 [0] [4, 5] (by decide))) (fun b266 => ?_)
                          refine WO.freeze 1 rfl ?_
                          have hz268 := (OwnL.re (G := F) (const_int _) ho265).rd (mono_int _)
                          obtain ⟨x269, hx270, hr⟩ := bind_some' hr
                          refine WO.append 5 (ho_0_9.mono mono_ref16_Early (Mem.le_pick (Mem.add F p264) 1 [] (by decide))) rfl (SrcL.ofRow 0 Try.underlying52 [[.int .i64 p1.Seq, .slice a262 x260.length c263]] rfl rfl rfl (Rs.cons (x := (⟨p1.Seq, x260⟩ : S_ref16_Early)) (cs := [.int .i64 p1.Seq, .slice a262 x260.length c263]) rfl ⟨_, _, rfl, hz268⟩ rfl Rs.nil)) hx270 rfl rfl rfl rfl rfl rfl Try.underlying52 el_88 (fun _ _ h => (h.arrange 2 6 [1] [4, 5] (by decide))) (fun a271 c272 p273 ho274 => ?_)
                          refine WO.nilCheck rfl rfl rfl rfl ?_
                          refine WO.fieldAddr 9 rfl rfl rfl rfl fl_54_9 ?_
                          refine WO.store 4 rfl rfl rfl rfl sz_52 rfl rfl rfl (fun _ h => (h.arrange 2 6 [1] [4, 5] (by decide))) ?_
                          refine WO.done ?_
                          refine WA.of ?_
                          refine WA.done (by kernel_rfl) ?_
                          refine At.seq_at ?_
                          exact fun a w hc hs => ⟨x269, a271, c272, p273, (List.flatten [p264]), hr, (hc.keep hc.nil (t := 0) rfl), ((hs.arrange 2 6 [0, 1] [7, 3, 4, 5, 6] (by decide)).gather 1), (ho274.mono mono_ref16_Early (Mem.le_gather (Mem.add F p264) 1))⟩
                        · refine WO.buildSl (e := 88) (vs := [.tmp 139]) [0] [.int .i64 p1.Seq, .slice a262 x260.length c263] rfl rfl rfl rfl rfl (fun _ => by kernel_rfl) (fun _ _ h => (h.arrange 1 7 [0] [4, 5] (by decide))) (fun b266 => ?_)
                          refine WO.done ?_
                          refine WA.of ?_
                          refine WA.lin (fuel := 0) [(4, false), (13, false), (14, true), (15, true), (16, false)] (by kernel_rfl) (by kernel_rfl) ?_
                          refine WO.load 5 rfl rfl rfl rfl sc_52 rfl rfl ?_
                          refine WO.freeze 1 rfl ?_
                          have hz268 := (OwnL.re (G := F) (const_int _) ho265).rd (mono_int _)
                          obtain ⟨x269, hx270, hr⟩ := bind_some' hr
                          refine WO.append 5 (ho_0_9.mono mono_ref16_Early (Mem.le_pick (Mem.add F p264) 1 [] (by decide))) rfl (SrcL.ofRow 0 Try.underlying52 [[.int .i64 p1.Seq, .slice a262 x260.length c263]] rfl rfl rfl (Rs.cons (x := (⟨p1.Seq, x260⟩ : S_ref16_Early)) (cs := [.int .i64 p1.Seq, .slice a262 x260.length c263]) rfl ⟨_, _, rfl, hz268⟩ rfl Rs.nil)) hx270 rfl rfl rfl rfl rfl rfl Try.underlying52 el_88 (fun _ _ h => (h.arrange 2 6 [1] [4, 5] (by decide))) (fun a271 c272 p273 ho274 => ?_)
                          refine WO.nilCheck rfl rfl rfl rfl ?_
                          refine WO.fieldAddr 9 rfl rfl rfl rfl fl_54_9 ?_
                          refine WO.store 4 rfl rfl rfl rfl sz_52 rfl rfl rfl (fun _ h => (h.arrange 2 6 [1] [4, 5] (by decide))) ?_
                          refine WO.done ?_
                          refine WA.of ?_
                          refine WA.done (by kernel_rfl) ?_
                          refine At.seq_at ?_
                          exact fun a w hc hs => ⟨x269, a271, c272, p273, (List.flatten [p264]), hr, (hc.keep hc.nil (t := 0) rfl), ((hs.arrange 2 6 [0, 1] [7, 3, 4, 5, 6] (by decide)).gather 1), (ho274.mono mono_ref16_Early (Mem.le_gather (Mem.add F p264) 1))⟩
                  · have hr := cond_f hb255 hr
                    refine WC.skip ?_
                    refine At.seq_at ?_
                    exact fun a w hc hs => ⟨p0.Early, a_0_9, c_0_9, ψ_0_9, (List.flatten []), hr, (hc.keep hc.nil (t := 0) rfl), ((hs.arrange 1 5 [0] [5, 1, 2, 3, 4] (by decide)).gather 0), (ho_0_9.mono mono_ref16_Early (Mem.le_gather F 0))⟩
              · rintro a w ⟨v33, a34, c35, p36, w32, hr, hc, hs, ho37⟩
                refine WC.use hc hs ?_
                clear hc hs
                unfold ref16_Link_Hear_vvvvvvvvoov_k4 at hr
                refine WC.then ?_
                refine WC.region [(0, true)] rfl ?_
                refine WO.assign rfl rfl rfl rfl ?_
                refine WO.done ?_
                refine At.seq_wc ?_
                obtain ⟨xl6, hl6, hk6⟩ := bind_some' hr
                refine WC.seq (fun a w => ∃ (v131 : List (List Int)) (v137 : S_ref16_Link) (a132 : Option Addr) (c133 : Nat) (p134 : List Chunk) (a138 : Option Addr) (c139 : Nat) (p140 : List Chunk) (a143 : Option Addr) (c144 : Nat) (p145 : List Chunk), (v131, v137) = xl6 ∧ Ctx 213 [(8, .slice a132 v131.length c133)] a ∧ Sat (Mem.add (Mem.add F χ) w32) (p134 :: p140 :: p145 :: p26 :: [(b4, row [.int .i64 p1.Epoch, .int .i64 p1.Seq, .int .i64 p1.Ack, .slice a1 p1.Body.length c2] 46)] :: [(b_0, row [.int .i64 v137.Window, .int .i64 v137.Span, .int .i64 v137.Room, .int .i64 v137.Epoch, .int .i64 v137.Next, .int .i64 v137.Acked, .int .i64 v137.Sent, .int .i64 v137.Got, .slice a138 v137.Out.length c139, .slice a143 v137.Early.length c144, .bool v137.Owes] 54)] :: Φ) w ∧ OwnL 1 (RSl 1 (RInt .u8)) (Mem.add F w32) 38 a132 c133 v131 p134 ∧ OwnL 3 R_ref16_Body F 81 a138 c139 v137.Out p140 ∧ OwnL 2 R_ref16_Early (Mem.add F w32) 88 a143 c144 v137.Early p145) ?_ ?_
                · refine WC.block ?_
                  refine WC.loop (fun ⟨v95, v101⟩ a w => ∃ (a96 : Option Addr) (c97 : Nat) (p98 : List Chunk) (a102 : Option Addr) (c103 : Nat) (p104 : List Chunk) (a107 : Option Addr) (c108 : Nat) (p109 : List Chunk), Ctx 213 [(0, .pointer (some ⟨b_0, 0, none⟩)), (8, .slice a96 v95.length c97)] a ∧ Sat (Mem.add (Mem.add F χ) w32) (p98 :: p104 :: p109 :: p26 :: [(b4, row [.int .i64 p1.Epoch, .int .i64 p1.Seq, .int .i64 p1.Ack, .slice a1 p1.Body.length c2] 46)] :: [(b_0, row [.int .i64 v101.Window, .int .i64 v101.Span, .int .i64 v101.Room, .int .i64 v101.Epoch, .int .i64 v101.Next, .int .i64 v101.Acked, .int .i64 v101.Sent, .int .i64 v101.Got, .slice a102 v101.Out.length c103, .slice a107 v101.Early.length c108, .bool v101.Owes] 54)] :: Φ) w ∧ OwnL 1 (RSl 1 (RInt .u8)) (Mem.add F w32) 38 a96 c97 v95 p98 ∧ OwnL 3 R_ref16_Body F 81 a102 c103 v101.Out p104 ∧ OwnL 2 R_ref16_Early (Mem.add F w32) 88 a107 c108 v101.Early p109) hl6 ?_ ?_
                  · refine At.empty ?_
                    have ho252 : OwnL 1 (RSl 1 (RInt .u8)) F 38 none 0 ([] : List (List Int)) [] := OwnL.nil
                    exact fun a w hc hs => ⟨none, 0, [], a18, c19, p20, a34, c35, p36, (hc.keep (hc.keep hc.nil (t := 8) rfl) (t := 0) rfl), (hs.arrange 2 6 [0, 1] [2, 4, 3, 5, 6, 7] (by decide)), (ho252.mono (mono_sl (mono_int _)) (Mem.le_pick (Mem.add F w32) 1 [] (by decide))), ho21, ho37⟩
                  · rintro ⟨v95, v101⟩ r6 hr a w ⟨a96, c97, p98, a102, c103, p104, a107, c108, p109, hc, hs, ho99, ho105, ho110⟩
                    refine WC.use hc hs ?_
                    clear hc hs
                    (try dsimp only at hr)
                    unfold ref16_Link_Hear_vvvvvvvvoov_b5 at hr
                    refine WC.then ?_
                    refine WC.then ?_
                    refine WC.region [(0, true), (1, true), (2, true), (3, true), (4, false), (5, true), (6, false), (7, true)] rfl ?_
                    refine WO.move rfl rfl rfl rfl ?_
                    refine WO.move rfl rfl rfl rfl ?_
                    refine WO.nilCheck rfl rfl rfl rfl ?_
                    refine WO.fieldAddr 7 rfl rfl rfl rfl fl_54_7 ?_
                    refine WO.load 5 rfl rfl rfl rfl sc_3 rfl rfl ?_
                    refine WO.bin rfl rfl rfl rfl rfl rfl ?_
                    obtain ⟨x148, hx149, hr⟩ := bind_some' hr
                    refine WO.call rfl rfl rfl rfl rfl cl_32 (CallsRet.lay0 2 6 [0] [7, 3, 4, 1, 2, 5, 6] (by decide) (Mem.add F w32) ([(b_0, row [.int .i64 v101.Window, .int .i64 v101.Span, .int .i64 v101.Room, .int .i64 v101.Epoch, .int .i64 v101.Next, .int .i64 v101.Acked, .int .i64 v101.Sent, .int .i64 v101.Got, .slice a102 v101.Out.length c103, .slice a107 v101.Early.length c108, .bool v101.Owes] 54)] :: p104 :: p109 :: χ :: p98 :: p26 :: [(b4, row [.int .i64 p1.Epoch, .int .i64 p1.Seq, .int .i64 p1.Ack, .slice a1 p1.Body.length c2] 46)] :: Φ) rfl rfl (ref16_Link_find_vvvvvvvvoov_ok (F := (Mem.add F w32)) (ho105.mono mono_ref16_Body (Mem.le_pick (Mem.add F w32) 1 [] (by decide))) ho110 hx149 (χ :: p98 :: p26 :: [(b4, row [.int .i64 p1.Epoch, .int .i64 p1.Seq, .int .i64 p1.Ack, .slice a1 p1.Body.length c2] 46)] :: Φ))) ?_
                    rintro _ _ ⟨rfl, hs150⟩
                    have hs150 := (hs150.arrange 1 7 [0, 4] [5, 2, 3, 6, 7, 1] (by decide))
                    refine ⟨(Mem.add (Mem.add F χ) w32), (p98 :: p104 :: p109 :: p26 :: [(b4, row [.int .i64 p1.Epoch, .int .i64 p1.Seq, .int .i64 p1.Ack, .slice a1 p1.Body.length c2] 46)] :: [(b_0, row [.int .i64 v101.Window, .int .i64 v101.Span, .int .i64 v101.Room, .int .i64 v101.Epoch, .int .i64 v101.Next, .int .i64 v101.Acked, .int .i64 v101.Sent, .int .i64 v101.Got, .slice a102 v101.Out.length c103, .slice a107 v101.Early.length c108, .bool v101.Owes] 54)] :: Φ), hs150, trivial, ?_⟩
                    refine WO.bin rfl rfl rfl rfl rfl rfl ?_
                    refine WO.done ?_
                    refine At.seq_wc ?_
                    refine WC.cond rfl (fun hb151 => ?_) (fun hb151 => ?_)
                    · have hr := cond_t hb151 hr
                      refine WC.skip ?_
                      refine At.seq_wc ?_
                      refine WC.block ?_
                      refine WC.then ?_
                      refine WC.region [(0, true), (1, true), (2, true), (3, true), (4, false), (5, true), (6, true), (7, true), (8, false)] rfl ?_
                      refine WO.move rfl rfl rfl rfl ?_
                      refine WO.move rfl rfl rfl rfl ?_
                      refine WO.nilCheck rfl rfl rfl rfl ?_
                      refine WO.fieldAddr 7 rfl rfl rfl rfl fl_54_7 ?_
                      refine WO.load 5 rfl rfl rfl rfl sc_3 rfl rfl ?_
                      refine WO.bin rfl rfl rfl rfl rfl rfl ?_
                      refine WO.nilCheck rfl rfl rfl rfl ?_
                      refine WO.fieldAddr 7 rfl rfl rfl rfl fl_54_7 ?_
                      refine WO.store 5 rfl rfl rfl rfl sz_3 rfl rfl rfl (fun _ _ => trivial) ?_
                      refine WO.done ?_
                      refine At.seq_wc ?_
                      refine WC.then ?_
                      refine WC.drawA (Sat (Mem.add (Mem.add F χ) w32) (p26 :: [(b4, row [.int .i64 p1.Epoch, .int .i64 p1.Seq, .int .i64 p1.Ack, .slice a1 p1.Body.length c2] 46)] :: Φ)) (fun _ h => (h.arrange 2 6 [0, 1] [5, 6] (by decide))) mixed rfl ?_
                      refine WA.lin (fuel := 9) [(0, true), (1, true), (2, true), (3, true), (5, true), (6, true), (7, true), (8, true)] (by kernel_rfl) (by kernel_rfl) ?_
                      refine WO.move rfl rfl rfl rfl ?_
                      refine WO.move rfl rfl rfl rfl ?_
                      refine WO.nilCheck rfl rfl rfl rfl ?_
                      refine WO.fieldAddr 9 rfl rfl rfl rfl fl_54_9 ?_
                      refine WO.move rfl rfl rfl rfl ?_
                      refine WO.move rfl rfl rfl rfl ?_
                      refine WO.nilCheck rfl rfl rfl rfl ?_
                      refine WO.fieldAddr 7 rfl rfl rfl rfl fl_54_7 ?_
                      refine WO.done ?_
                      refine WA.of ?_
                      refine WA.two (fuel := 8) 4 9 (by kernel_rfl) ?_ ?_
                      · refine WO.load 5 rfl rfl rfl rfl sc_52 rfl rfl ?_
                        refine WO.done ?_
                        refine WA.of ?_
                        refine WA.lin (fuel := 0) [(9, false), (10, false), (11, true), (12, true), (13, false), (14, false), (15, false), (16, true)] (by kernel_rfl) (by kernel_rfl) ?_
                        refine WO.load 5 rfl rfl rfl rfl sc_3 rfl rfl ?_
                        obtain ⟨x152, hx153, hr⟩ := bind_some' hr
                        refine WO.call rfl rfl rfl rfl rfl cl_32 (CallsRet.lay0 2 6 [0] [7, 3, 4, 1, 2, 5, 6] (by decide) (Mem.add F w32) ([(b_0, row [.int .i64 v101.Window, .int .i64 v101.Span, .int .i64 v101.Room, .int .i64 v101.Epoch, .int .i64 v101.Next, .int .i64 v101.Acked, .int .i64 v101.Sent, .int .i64 (IntKind.wrap .i64 (v101.Got + 1)), .slice a102 v101.Out.length c103, .slice a107 v101.Early.length c108, .bool v101.Owes] 54)] :: p104 :: p109 :: χ :: p98 :: p26 :: [(b4, row [.int .i64 p1.Epoch, .int .i64 p1.Seq, .int .i64 p1.Ack, .slice a1 p1.Body.length c2] 46)] :: Φ) rfl rfl (ref16_Link_find_vvvvvvvvoov_ok (F := (Mem.add F w32)) (p0 := (⟨v101.Window, v101.Span, v101.Room, v101.Epoch, v101.Next, v101.Acked, v101.Sent, (IntKind.wrap .i64 (v101.Got + 1)), v101.Out, v101.Early, v101.Owes⟩ : S_ref16_Link)) (ho105.mono mono_ref16_Body (Mem.le_pick (Mem.add F w32) 1 [] (by decide))) ho110 hx153 (χ :: p98 :: p26 :: [(b4, row [.int .i64 p1.Epoch, .int .i64 p1.Seq, .int .i64 p1.Ack, .slice a1 p1.Body.length c2] 46)] :: Φ))) ?_
                        rintro _ _ ⟨rfl, hs154⟩
                        have hs154 := (hs154.arrange 1 7 [0, 4] [5, 2, 3, 6, 7, 1] (by decide))
                        refine ⟨(Mem.add (Mem.add F χ) w32), (p98 :: p104 :: p109 :: p26 :: [(b4, row [.int .i64 p1.Epoch, .int .i64 p1.Seq, .int .i64 p1.Ack, .slice a1 p1.Body.length c2] 46)] :: [(b_0, row [.int .i64 v101.Window, .int .i64 v101.Span, .int .i64 v101.Room, .int .i64 v101.Epoch, .int .i64 v101.Next, .int .i64 v101.Acked, .int .i64 v101.Sent, .int .i64 (IntKind.wrap .i64 (v101.Got + 1)), .slice a102 v101.Out.length c103, .slice a107 v101.Early.length c108, .bool v101.Owes] 54)] :: Φ), hs154, (hs154.arrange 2 6 [0, 1] [5, 6] (by decide)), ?_⟩
                        obtain ⟨x155, hx156, hr⟩ := bind_some' hr
                        refine WO.indexQ ho110 hx156 rfl rfl rfl rfl rfl rfl Try.underlying52 sz_88 (fun b157 cs158 hb159 h160 hq161 => ?_)
                        subst hb159
                        obtain ⟨a162, c163, rfl, h164⟩ := h160
                        refine WO.fieldAddr 1 rfl rfl rfl rfl fl_88_1 ?_
                        refine WO.loadQ 2 1 hq161 rfl rfl rfl rfl rfl rfl sc_38 rfl ?_
                        refine WO.buildSl (e := 38) (vs := [.tmp 173]) [0] [.slice a162 x155.B.length c163] rfl rfl rfl rfl rfl (fun _ => by kernel_rfl) (fun _ _ h => (h.arrange 2 7 [0, 1] [6, 7] (by decide))) (fun b165 => ?_)
                        obtain ⟨x167, hx168, hr⟩ := bind_some' hr
                        refine WO.append 1 ho99 rfl (SrcL.ofRow 0 Try.underlying55 [[.slice a162 x155.B.length c163]] rfl rfl rfl (Rs.cons (x := x155.B) (cs := [.slice a162 x155.B.length c163]) rfl ⟨_, _, rfl, h164⟩ rfl Rs.nil)) hx168 rfl rfl rfl rfl rfl rfl Try.underlying55 el_38 (fun _ _ h => (h.arrange 2 7 [0, 1] [6, 7] (by decide))) (fun a169 c170 p171 ho172 => ?_)
                        refine WO.assign rfl rfl rfl rfl ?_
                        refine WO.done ?_
                        refine WA.of ?_
                        refine WA.done (by kernel_rfl) ?_
                        refine At.seq_wc ?_
                        refine WC.then ?_
                        refine WC.region [(0, true)] rfl ?_
                        refine WO.assign rfl rfl rfl rfl ?_
                        refine WO.done ?_
                        refine At.seq_wc ?_
                        refine WC.seq (fun a w => ∃ (v174 : List S_ref16_Early) (a175 : Option Addr) (c176 : Nat) (p177 : List Chunk), ref16_Link_Hear_vvvvvvvvoov_k7 v101 x167 v174 = some r6 ∧ Ctx 213 [(0, .pointer (some ⟨b_0, 0, none⟩)), (8, .slice a169 x167.length c170), (9, .slice a175 v174.length c176)] a ∧ Sat (Mem.add (Mem.add F χ) w32) (p177 :: [(b165, row [.slice a162 x155.B.length c163] 38)] :: p171 :: p104 :: p109 :: p26 :: [(b4, row [.int .i64 p1.Epoch, .int .i64 p1.Seq, .int .i64 p1.Ack, .slice a1 p1.Body.length c2] 46)] :: [(b_0, row [.int .i64 v101.Window, .int .i64 v101.Span, .int .i64 v101.Room, .int .i64 v101.Epoch, .int .i64 v101.Next, .int .i64 v101.Acked, .int .i64 v101.Sent, .int .i64 (IntKind.wrap .i64 (v101.Got + 1)), .slice a102 v101.Out.length c103, .slice (some ⟨b157, 0, none⟩) v101.Early.length c108, .bool v101.Owes] 54)] :: Φ) w ∧ OwnL 2 R_ref16_Early (Mem.add F w32) 88 a175 c176 v174 p177) ?_ ?_
                        · refine WC.then ?_
                          refine WC.region [(0, true)] rfl ?_
                          refine WO.assign rfl rfl rfl rfl ?_
                          refine WO.done ?_
                          refine At.seq_wc ?_
                          obtain ⟨xl9, hl9, hk9⟩ := bind_some' hr
                          refine WC.weaken (fun a w => ∃ (v206 : List S_ref16_Early) (a207 : Option Addr) (c208 : Nat) (p209 : List Chunk), v206 = xl9 ∧ Ctx 213 [(0, .pointer (some ⟨b_0, 0, none⟩)), (8, .slice a169 x167.length c170), (9, .slice a207 v206.length c208)] a ∧ Sat (Mem.add (Mem.add F χ) w32) (p209 :: [(b165, row [.slice a162 x155.B.length c163] 38)] :: p171 :: p104 :: p109 :: p26 :: [(b4, row [.int .i64 p1.Epoch, .int .i64 p1.Seq, .int .i64 p1.Ack, .slice a1 p1.Body.length c2] 46)] :: [(b_0, row [.int .i64 v101.Window, .int .i64 v101.Span, .int .i64 v101.Room, .int .i64 v101.Epoch, .int .i64 v101.Next, .int .i64 v101.Acked, .int .i64 v101.Sent, .int .i64 (IntKind.wrap .i64 (v101.Got + 1)), .slice a102 v101.Out.length c103, .slice (some ⟨b157, 0, none⟩) v101.Early.length c108, .bool v101.Owes] 54)] :: Φ) w ∧ OwnL 2 R_ref16_Early (Mem.add F w32) 88 a207 c208 v206 p209) ?_ ?_
                          · refine WC.block ?_
                            refine WC.loop (fun ⟨v190, v196⟩ a w => ∃ (a191 : Option Addr) (c192 : Nat) (p193 : List Chunk), Ctx 213 [(0, .pointer (some ⟨b_0, 0, none⟩)), (8, .slice a169 x167.length c170), (9, .slice a191 v190.length c192), (10, .int .i64 v196)] a ∧ Sat (Mem.add (Mem.add F χ) w32) (p193 :: [(b165, row [.slice a162 x155.B.length c163] 38)] :: p171 :: p104 :: p109 :: p26 :: [(b4, row [.int .i64 p1.Epoch, .int .i64 p1.Seq, .int .i64 p1.Ack, .slice a1 p1.Body.length c2] 46)] :: [(b_0, row [.int .i64 v101.Window, .int .i64 v101.Span, .int .i64 v101.Room, .int .i64 v101.Epoch, .int .i64 v101.Next, .int .i64 v101.Acked, .int .i64 v101.Sent, .int .i64 (IntKind.wrap .i64 (v101.Got + 1)), .slice a102 v101.Out.length c103, .slice (some ⟨b157, 0, none⟩) v101.Early.length c108, .bool v101.Owes] 54)] :: Φ) w ∧ OwnL 2 R_ref16_Early (Mem.add F w32) 88 a191 c192 v190 p193) hl9 ?_ ?_
                            · refine At.empty ?_
                              have ho250 : OwnL 2 R_ref16_Early F 88 none 0 ([] : List S_ref16_Early) [] := OwnL.nil
                              exact fun a w hc hs => ⟨none, 0, [], (hc.keep (hc.keep (hc.keep (hc.keep hc.nil (t := 10) rfl) (t := 9) rfl) (t := 8) rfl) (t := 0) rfl), hs, (ho250.mono mono_ref16_Early (Mem.le_pick (Mem.add F w32) 1 [] (by decide)))⟩
                            · rintro ⟨v190, v196⟩ r9 hr a w ⟨a191, c192, p193, hc, hs, ho194⟩
                              refine WC.use hc hs ?_
                              clear hc hs
                              (try dsimp only at hr)
                              unfold ref16_Link_Hear_vvvvvvvvoov_b8 at hr
                              refine WC.then ?_
                              refine WC.then ?_
                              refine WC.region [(0, true), (1, true), (2, true), (3, true), (4, false), (5, true), (6, true)] rfl ?_
                              refine WO.move rfl rfl rfl rfl ?_
                              refine WO.move rfl rfl rfl rfl ?_
                              refine WO.nilCheck rfl rfl rfl rfl ?_
                              refine WO.fieldAddr 9 rfl rfl rfl rfl fl_54_9 ?_
                              refine WO.load 7 rfl rfl rfl rfl sc_52 rfl rfl ?_
                              refine WO.len rfl rfl rfl rfl Try.underlying52 ?_
                              refine WO.bin rfl rfl rfl rfl rfl rfl ?_
                              refine WO.done ?_
                              refine At.seq_wc ?_
                              refine WC.cond rfl (fun hb212 => ?_) (fun hb212 => ?_)
                              · have hr := cond_t hb212 hr
                                refine WC.skip ?_
                                refine At.seq_wc ?_
                                refine WC.seq (fun a w => ∃ (v214 : List S_ref16_Early) (a215 : Option Addr) (c216 : Nat) (p217 : List Chunk), ref16_Link_Hear_vvvvvvvvoov_k10 v196 v214 = some r9 ∧ Ctx 213 [(0, .pointer (some ⟨b_0, 0, none⟩)), (8, .slice a169 x167.length c170), (9, .slice a215 v214.length c216), (10, .int .i64 v196)] a ∧ Sat (Mem.add (Mem.add F χ) w32) (p217 :: [(b165, row [.slice a162 x155.B.length c163] 38)] :: p171 :: p104 :: p109 :: p26 :: [(b4, row [.int .i64 p1.Epoch, .int .i64 p1.Seq, .int .i64 p1.Ack, .slice a1 p1.Body.length c2] 46)] :: [(b_0, row [.int .i64 v101.Window, .int .i64 v101.Span, .int .i64 v101.Room, .int .i64 v101.Epoch, .int .i64 v101.Next, .int .i64 v101.Acked, .int .i64 v101.Sent, .int .i64 (IntKind.wrap .i64 (v101.Got + 1)), .slice a102 v101.Out.length c103, .slice (some ⟨b157, 0, none⟩) v101.Early.length c108, .bool v101.Owes] 54)] :: Φ) w ∧ OwnL 2 R_ref16_Early (Mem.add F w32) 88 a215 c216 v214 p217) ?_ ?_
                                · refine WC.block ?_
                                  refine WC.then ?_
                                  refine WC.draw (Sat (Mem.add (Mem.add F χ) w32) (p193 :: [(b165, row [.slice a162 x155.B.length c163] 38)] :: p171 :: p104 :: p109 :: p26 :: [(b4, row [.int .i64 p1.Epoch, .int .i64 p1.Seq, .int .i64 p1.Ack, .slice a1 p1.Body.length c2] 46)] :: [(b_0, row [.int .i64 v101.Window, .int .i64 v101.Span, .int .i64 v101.Room, .int .i64 v101.Epoch, .int .i64 v101.Next, .int .i64 v101.Acked, .int .i64 v101.Sent, .int .i64 (IntKind.wrap .i64 (v101.Got + 1)), .slice a102 v101.Out.length c103, .slice (some ⟨b157, 0, none⟩) v101.Early.length c108, .bool v101.Owes] 54)] :: Φ)) (fun _ h => (h.arrange 2 8 [0, 1] [2, 3, 4, 5, 6, 7, 8, 9] (by decide))) [(0, true), (1, true), (2, true), (3, true), (4, true), (5, true), (6, true), (7, true), (8, true), (9, true), (10, true), (11, true), (12, true)] mixed (by kernel_rfl) rfl (by kernel_rfl) ?_
                                  refine WO.move rfl rfl rfl rfl ?_
                                  refine WO.nilCheck rfl rfl rfl rfl ?_
                                  refine WO.fieldAddr 9 rfl rfl rfl rfl fl_54_9 ?_
                                  refine WO.loadY 7 rfl rfl rfl rfl sc_52 rfl rfl ?_
                                  refine WO.move rfl rfl rfl rfl ?_
                                  obtain ⟨x220, hx221, hr⟩ := bind_some' hr
                                  refine WO.indexQ ho110 hx221 rfl rfl rfl rfl rfl rfl Try.underlying52 sz_88 (fun b222 cs223 hb224 h225 hq226 => ?_)
                                  obtain rfl : b157 = b222 := by cases hb224; rfl
                                  obtain ⟨a227, c228, rfl, h229⟩ := h225
                                  refine WO.fieldAddr 0 rfl rfl rfl rfl fl_88_0 ?_
                                  refine WO.loadQY 4 0 hq226 rfl rfl rfl rfl rfl rfl sc_3 rfl ?_
                                  refine WO.move rfl rfl rfl rfl ?_
                                  refine WO.nilCheck rfl rfl rfl rfl ?_
                                  refine WO.fieldAddr 7 rfl rfl rfl rfl fl_54_7 ?_
                                  refine WO.loadY 7 rfl rfl rfl rfl sc_3 rfl rfl ?_
                                  refine WO.bin rfl rfl rfl rfl rfl rfl ?_
                                  refine WO.done ?_
                                  refine At.seq_wc ?_
                                  refine WC.cond rfl (fun hb230 => ?_) (fun hb230 => ?_)
                                  · have hr := cond_t hb230 hr
                                    refine WC.region [(0, true), (1, true), (2, true), (3, true), (4, false), (5, true), (6, true), (7, false), (8, false), (9, false), (10, true)] rfl ?_
                                    refine WO.move rfl rfl rfl rfl ?_
                                    refine WO.move rfl rfl rfl rfl ?_
                                    refine WO.nilCheck rfl rfl rfl rfl ?_
                                    refine WO.fieldAddr 9 rfl rfl rfl rfl fl_54_9 ?_
                                    refine WO.load 7 rfl rfl rfl rfl sc_52 rfl rfl ?_
                                    refine WO.move rfl rfl rfl rfl ?_
                                    obtain ⟨x231, hx232, hr⟩ := bind_some' hr
                                    refine WO.indexQ ho110 hx232 rfl rfl rfl rfl rfl rfl Try.underlying52 sz_88 (fun b233 cs234 hb235 h236 hq237 => ?_)
                                    obtain rfl : b157 = b233 := by cases hb235; rfl
                                    obtain ⟨a238, c239, rfl, h240⟩ := h236
                                    refine WO.loadQA 4 0 2 hq237 rfl rfl rfl rfl rfl rfl ag_88 rfl rfl ?_
                                    refine WO.buildSl (e := 88) (vs := [.tmp 205]) [0] [.int .i64 x231.Seq, .slice a238 x231.B.length c239] rfl rfl rfl rfl rfl (fun _ => by kernel_rfl) (fun _ _ _ => trivial) (fun b241 => ?_)
                                    obtain ⟨x243, hx244, hr⟩ := bind_some' hr
                                    refine WO.append 1 ho194 rfl (SrcL.ofRow 0 Try.underlying52 [[.int .i64 x231.Seq, .slice a238 x231.B.length c239]] rfl rfl rfl (Rs.cons (x := x231) (cs := [.int .i64 x231.Seq, .slice a238 x231.B.length c239]) rfl ⟨_, _, rfl, h240⟩ rfl Rs.nil)) hx244 rfl rfl rfl rfl rfl rfl Try.underlying52 el_88 (fun _ _ _ => trivial) (fun a245 c246 p247 ho248 => ?_)
                                    refine WO.assign rfl rfl rfl rfl ?_
                                    refine WO.done ?_
                                    refine At.block_normal ?_
                                    refine At.seq_at ?_
                                    exact fun a w hc hs => ⟨x243, a245, c246, p247, hr, (hc.keep (hc.keep (hc.keep (hc.keep hc.nil (t := 10) rfl) (t := 9) rfl) (t := 8) rfl) (t := 0) rfl), (hs.arrange 2 9 [0, 1] [3, 4, 5, 6, 7, 8, 9, 10] (by decide)), ho248⟩
                                  · have hr := cond_f hb230 hr
                                    refine WC.skip ?_
                                    refine At.block_normal ?_
                                    refine At.seq_at ?_
                                    exact fun a w hc hs => ⟨v190, a191, c192, p193, hr, (hc.keep (hc.keep (hc.keep (hc.keep hc.nil (t := 10) rfl) (t := 9) rfl) (t := 8) rfl) (t := 0) rfl), hs, ho194⟩
                                · rintro a w ⟨v214, a215, c216, p217, hr, hc, hs, ho218⟩
                                  refine WC.use hc hs ?_
                                  clear hc hs
                                  unfold ref16_Link_Hear_vvvvvvvvoov_k10 at hr
                                  refine WC.region [(0, true), (1, true), (2, true)] rfl ?_
                                  refine WO.move rfl rfl rfl rfl ?_
                                  refine WO.bin rfl rfl rfl rfl rfl rfl ?_
                                  refine WO.assign rfl rfl rfl rfl ?_
                                  refine WO.done ?_
                                  refine At.round_next hr ?_
                                  exact fun a w hc hs => ⟨a215, c216, p217, (hc.keep (hc.keep (hc.keep (hc.keep hc.nil (t := 10) rfl) (t := 9) rfl) (t := 8) rfl) (t := 0) rfl), hs, ho218⟩
                              · have hr := cond_f hb212 hr
                                refine WC.exit ?_
                                refine At.seq_exit ?_
                                refine At.round_exit hr (fun hy => ?_)
                                refine At.exit_block ?_
                                refine At.seq_at ?_
                                exact fun a w hc hs => ⟨v190, a191, c192, p193, hy, (hc.keep (hc.keep (hc.keep hc.nil (t := 9) rfl) (t := 8) rfl) (t := 0) rfl), hs, ho194⟩
                          · rintro a w ⟨v206, a207, c208, p209, rfl, hc, hs, ho210⟩
                            refine At.use hc hs ?_
                            clear hc hs
                            (try dsimp only at hk9)
                            have hr := hk9
                            refine At.seq_at ?_
                            exact fun a w hc hs => ⟨v206, a207, c208, p209, hr, (hc.keep (hc.keep (hc.keep hc.nil (t := 9) rfl) (t := 8) rfl) (t := 0) rfl), hs, ho210⟩
                        · rintro a w ⟨v174, a175, c176, p177, hr, hc, hs, ho178⟩
                          refine WC.use hc hs ?_
                          clear hc hs
                          unfold ref16_Link_Hear_vvvvvvvvoov_k7 at hr
                          refine WC.region [(0, true), (1, true), (2, true), (3, true), (4, false)] rfl ?_
                          refine WO.move rfl rfl rfl rfl ?_
                          refine WO.move rfl rfl rfl rfl ?_
                          refine WO.nilCheck rfl rfl rfl rfl ?_
                          refine WO.fieldAddr 9 rfl rfl rfl rfl fl_54_9 ?_
                          refine WO.store 7 rfl rfl rfl rfl sz_52 rfl rfl rfl (fun _ _ => trivial) ?_
                          refine WO.done ?_
                          refine At.block_normal ?_
                          refine At.round_next hr ?_
                          exact fun a w hc hs => ⟨a169, c170, p171, a102, c103, p104, a175, c176, p177, (hc.keep (hc.keep hc.nil (t := 8) rfl) (t := 0) rfl), (hs.arrange 2 8 [0, 1] [4, 5, 2, 7, 8, 9] (by decide)), ho172, ho105, ho178⟩
                      · refine WO.load 5 rfl rfl rfl rfl sc_3 rfl rfl ?_
                        refine WO.done ?_
                        refine WA.of ?_
                        refine WA.two (fuel := 7) 4 10 (by kernel_rfl) ?_ ?_
                        · refine WO.load 5 rfl rfl rfl rfl sc_52 rfl rfl ?_
                          refine WO.done ?_
                          refine WA.of ?_
                          refine WA.lin (fuel := 0) [(10, false), (11, true), (12, true), (13, false), (14, false), (15, false), (16, true)] (by kernel_rfl) (by kernel_rfl) ?_
                          obtain ⟨x152, hx153, hr⟩ := bind_some' hr
                          refine WO.call rfl rfl rfl rfl rfl cl_32 (CallsRet.lay0 2 6 [0] [7, 3, 4, 1, 2, 5, 6] (by decide) (Mem.add F w32) ([(b_0, row [.int .i64 v101.Window, .int .i64 v101.Span, .int .i64 v101.Room, .int .i64 v101.Epoch, .int .i64 v101.Next, .int .i64 v101.Acked, .int .i64 v101.Sent, .int .i64 (IntKind.wrap .i64 (v101.Got + 1)), .slice a102 v101.Out.length c103, .slice a107 v101.Early.length c108, .bool v101.Owes] 54)] :: p104 :: p109 :: χ :: p98 :: p26 :: [(b4, row [.int .i64 p1.Epoch, .int .i64 p1.Seq, .int .i64 p1.Ack, .slice a1 p1.Body.length c2] 46)] :: Φ) rfl rfl (ref16_Link_find_vvvvvvvvoov_ok (F := (Mem.add F w32)) (p0 := (⟨v101.Window, v101.Span, v101.Room, v101.Epoch, v101.Next, v101.Acked, v101.Sent, (IntKind.wrap .i64 (v101.Got + 1)), v101.Out, v101.Early, v101.Owes⟩ : S_ref16_Link)) (ho105.mono mono_ref16_Body (Mem.le_pick (Mem.add F w32) 1 [] (by decide))) ho110 hx153 (χ :: p98 :: p26 :: [(b4, row [.int .i64 p1.Epoch, .int .i64 p1.Seq, .int .i64 p1.Ack, .slice a1 p1.Body.length c2] 46)] :: Φ))) ?_
                          rintro _ _ ⟨rfl, hs154⟩
                          have hs154 := (hs154.arrange 1 7 [0, 4] [5, 2, 3, 6, 7, 1] (by decide))
                          refine ⟨(Mem.add (Mem.add F χ) w32), (p98 :: p104 :: p109 :: p26 :: [(b4, row [.int .i64 p1.Epoch, .int .i64 p1.Seq, .int .i64 p1.Ack, .slice a1 p1.Body.length c2] 46)] :: [(b_0, row [.int .i64 v101.Window, .int .i64 v101.Span, .int .i64 v101.Room, .int .i64 v101.Epoch, .int .i64 v101.Next, .int .i64 v101.Acked, .int .i64 v101.Sent, .int .i64 (IntKind.wrap .i64 (v101.Got + 1)), .slice a102 v101.Out.length c103, .slice a107 v101.Early.length c108, .bool v101.Owes] 54)] :: Φ), hs154, (hs154.arrange 2 6 [0, 1] [5, 6] (by decide)), ?_⟩
                          obtain ⟨x155, hx156, hr⟩ := bind_some' hr
                          refine WO.indexQ ho110 hx156 rfl rfl rfl rfl rfl rfl Try.underlying52 sz_88 (fun b157 cs158 hb159 h160 hq161 => ?_)
                          subst hb159
                          obtain ⟨a162, c163, rfl, h164⟩ := h160
                          refine WO.fieldAddr 1 rfl rfl rfl rfl fl_88_1 ?_
                          refine WO.loadQ 2 1 hq161 rfl rfl rfl rfl rfl rfl sc_38 rfl ?_
                          refine WO.buildSl (e := 38) (vs := [.tmp 173]) [0] [.slice a162 x155.B.length c163] rfl rfl rfl rfl rfl (fun _ => by kernel_rfl) (fun _ _ h => (h.arrange 2 7 [0, 1] [6, 7] (by decide))) (fun b165 => ?_)
                          obtain ⟨x167, hx168, hr⟩ := bind_some' hr
                          refine WO.append 1 ho99 rfl (SrcL.ofRow 0 Try.underlying55 [[.slice a162 x155.B.length c163]] rfl rfl rfl (Rs.cons (x := x155.B) (cs := [.slice a162 x155.B.length c163]) rfl ⟨_, _, rfl, h164⟩ rfl Rs.nil)) hx168 rfl rfl rfl rfl rfl rfl Try.underlying55 el_38 (fun _ _ h => (h.arrange 2 7 [0, 1] [6, 7] (by decide))) (fun a169 c170 p171 ho172 => ?_)
                          refine WO.assign rfl rfl rfl rfl ?_
                          refine WO.done ?_
                          refine WA.of ?_
                          refine WA.done (by kernel_rfl) ?_
                          refine At.seq_wc ?_
                          refine WC.then ?_
                          refine WC.region [(0, true)] rfl ?_
                          refine WO.assign rfl rfl rfl rfl ?_
                          refine WO.done ?_
                          refine At.seq_wc ?_
                          refine WC.seq (fun a w => ∃ (v174 : List S_ref16_Early) (a175 : Option Addr) (c176 : Nat) (p177 : List Chunk), ref16_Link_Hear_vvvvvvvvoov_k7 v101 x167 v174 = some r6 ∧ Ctx 213 [(0, .pointer (some ⟨b_0, 0, none⟩)), (8, .slice a169 x167.length c170), (9, .slice a175 v174.length c176)] a ∧ Sat (Mem.add (Mem.add F χ) w32) (p177 :: [(b165, row [.slice a162 x155.B.length c163] 38)] :: p171 :: p104 :: p109 :: p26 :: [(b4, row [.int .i64 p1.Epoch, .int .i64 p1.Seq, .int .i64 p1.Ack, .slice a1 p1.Body.length c2] 46)] :: [(b_0, row [.int .i64 v101.Window, .int .i64 v101.Span, .int .i64 v101.Room, .int .i64 v101.Epoch, .int .i64 v101.Next, .int .i64 v101.Acked, .int .i64 v101.Sent, .int .i64 (IntKind.wrap .i64 (v101.Got + 1)), .slice a102 v101.Out.length c103, .slice (some ⟨b157, 0, none⟩) v101.Early.length c108, .bool v101.Owes] 54)] :: Φ) w ∧ OwnL 2 R_ref16_Early (Mem.add F w32) 88 a175 c176 v174 p177) ?_ ?_
                          · refine WC.then ?_
                            refine WC.region [(0, true)] rfl ?_
                            refine WO.assign rfl rfl rfl rfl ?_
                            refine WO.done ?_
                            refine At.seq_wc ?_
                            obtain ⟨xl9, hl9, hk9⟩ := bind_some' hr
                            refine WC.weaken (fun a w => ∃ (v206 : List S_ref16_Early) (a207 : Option Addr) (c208 : Nat) (p209 : List Chunk), v206 = xl9 ∧ Ctx 213 [(0, .pointer (some ⟨b_0, 0, none⟩)), (8, .slice a169 x167.length c170), (9, .slice a207 v206.length c208)] a ∧ Sat (Mem.add (Mem.add F χ) w32) (p209 :: [(b165, row [.slice a162 x155.B.length c163] 38)] :: p171 :: p104 :: p109 :: p26 :: [(b4, row [.int .i64 p1.Epoch, .int .i64 p1.Seq, .int .i64 p1.Ack, .slice a1 p1.Body.length c2] 46)] :: [(b_0, row [.int .i64 v101.Window, .int .i64 v101.Span, .int .i64 v101.Room, .int .i64 v101.Epoch, .int .i64 v101.Next, .int .i64 v101.Acked, .int .i64 v101.Sent, .int .i64 (IntKind.wrap .i64 (v101.Got + 1)), .slice a102 v101.Out.length c103, .slice (some ⟨b157, 0, none⟩) v101.Early.length c108, .bool v101.Owes] 54)] :: Φ) w ∧ OwnL 2 R_ref16_Early (Mem.add F w32) 88 a207 c208 v206 p209) ?_ ?_
                            · refine WC.block ?_
                              refine WC.loop (fun ⟨v190, v196⟩ a w => ∃ (a191 : Option Addr) (c192 : Nat) (p193 : List Chunk), Ctx 213 [(0, .pointer (some ⟨b_0, 0, none⟩)), (8, .slice a169 x167.length c170), (9, .slice a191 v190.length c192), (10, .int .i64 v196)] a ∧ Sat (Mem.add (Mem.add F χ) w32) (p193 :: [(b165, row [.slice a162 x155.B.length c163] 38)] :: p171 :: p104 :: p109 :: p26 :: [(b4, row [.int .i64 p1.Epoch, .int .i64 p1.Seq, .int .i64 p1.Ack, .slice a1 p1.Body.length c2] 46)] :: [(b_0, row [.int .i64 v101.Window, .int .i64 v101.Span, .int .i64 v101.Room, .int .i64 v101.Epoch, .int .i64 v101.Next, .int .i64 v101.Acked, .int .i64 v101.Sent, .int .i64 (IntKind.wrap .i64 (v101.Got + 1)), .slice a102 v101.Out.length c103, .slice (some ⟨b157, 0, none⟩) v101.Early.length c108, .bool v101.Owes] 54)] :: Φ) w ∧ OwnL 2 R_ref16_Early (Mem.add F w32) 88 a191 c192 v190 p193) hl9 ?_ ?_
                              · refine At.empty ?_
                                have ho250 : OwnL 2 R_ref16_Early F 88 none 0 ([] : List S_ref16_Early) [] := OwnL.nil
                                exact fun a w hc hs => ⟨none, 0, [], (hc.keep (hc.keep (hc.keep (hc.keep hc.nil (t := 10) rfl) (t := 9) rfl) (t := 8) rfl) (t := 0) rfl), hs, (ho250.mono mono_ref16_Early (Mem.le_pick (Mem.add F w32) 1 [] (by decide)))⟩
                              · rintro ⟨v190, v196⟩ r9 hr a w ⟨a191, c192, p193, hc, hs, ho194⟩
                                refine WC.use hc hs ?_
                                clear hc hs
                                (try dsimp only at hr)
                                unfold ref16_Link_Hear_vvvvvvvvoov_b8 at hr
                                refine WC.then ?_
                                refine WC.then ?_
                                refine WC.region [(0, true), (1, true), (2, true), (3, true), (4, false), (5, true), (6, true)] rfl ?_
                                refine WO.move rfl rfl rfl rfl ?_
                                refine WO.move rfl rfl rfl rfl ?_
                                refine WO.nilCheck rfl rfl rfl rfl ?_
                                refine WO.fieldAddr 9 rfl rfl rfl rfl fl_54_9 ?_
                                refine WO.load 7 rfl rfl rfl rfl sc_52 rfl rfl ?_
                                refine WO.len rfl rfl rfl rfl Try.underlying52 ?_
                                refine WO.bin rfl rfl rfl rfl rfl rfl ?_
                                refine WO.done ?_
                                refine At.seq_wc ?_
                                refine WC.cond rfl (fun hb212 => ?_) (fun hb212 => ?_)
                                · have hr := cond_t hb212 hr
                                  refine WC.skip ?_
                                  refine At.seq_wc ?_
                                  refine WC.seq (fun a w => ∃ (v214 : List S_ref16_Early) (a215 : Option Addr) (c216 : Nat) (p217 : List Chunk), ref16_Link_Hear_vvvvvvvvoov_k10 v196 v214 = some r9 ∧ Ctx 213 [(0, .pointer (some ⟨b_0, 0, none⟩)), (8, .slice a169 x167.length c170), (9, .slice a215 v214.length c216), (10, .int .i64 v196)] a ∧ Sat (Mem.add (Mem.add F χ) w32) (p217 :: [(b165, row [.slice a162 x155.B.length c163] 38)] :: p171 :: p104 :: p109 :: p26 :: [(b4, row [.int .i64 p1.Epoch, .int .i64 p1.Seq, .int .i64 p1.Ack, .slice a1 p1.Body.length c2] 46)] :: [(b_0, row [.int .i64 v101.Window, .int .i64 v101.Span, .int .i64 v101.Room, .int .i64 v101.Epoch, .int .i64 v101.Next, .int .i64 v101.Acked, .int .i64 v101.Sent, .int .i64 (IntKind.wrap .i64 (v101.Got + 1)), .slice a102 v101.Out.length c103, .slice (some ⟨b157, 0, none⟩) v101.Early.length c108, .bool v101.Owes] 54)] :: Φ) w ∧ OwnL 2 R_ref16_Early (Mem.add F w32) 88 a215 c216 v214 p217) ?_ ?_
                                  · refine WC.block ?_
                                    refine WC.then ?_
                                    refine WC.draw (Sat (Mem.add (Mem.add F χ) w32) (p193 :: [(b165, row [.slice a162 x155.B.length c163] 38)] :: p171 :: p104 :: p109 :: p26 :: [(b4, row [.int .i64 p1.Epoch, .int .i64 p1.Seq, .int .i64 p1.Ack, .slice a1 p1.Body.length c2] 46)] :: [(b_0, row [.int .i64 v101.Window, .int .i64 v101.Span, .int .i64 v101.Room, .int .i64 v101.Epoch, .int .i64 v101.Next, .int .i64 v101.Acked, .int .i64 v101.Sent, .int .i64 (IntKind.wrap .i64 (v101.Got + 1)), .slice a102 v101.Out.length c103, .slice (some ⟨b157, 0, none⟩) v101.Early.length c108, .bool v101.Owes] 54)] :: Φ)) (fun _ h => (h.arrange 2 8 [0, 1] [2, 3, 4, 5, 6, 7, 8, 9] (by decide))) [(0, true), (1, true), (2, true), (3, true), (4, true), (5, true), (6, true), (7, true), (8, true), (9, true), (10, true), (11, true), (12, true)] mixed (by kernel_rfl) rfl (by kernel_rfl) ?_
                                    refine WO.move rfl rfl rfl rfl ?_
                                    refine WO.nilCheck rfl rfl rfl rfl ?_
                                    refine WO.fieldAddr 9 rfl rfl rfl rfl fl_54_9 ?_
                                    refine WO.loadY 7 rfl rfl rfl rfl sc_52 rfl rfl ?_
                                    refine WO.move rfl rfl rfl rfl ?_
                                    obtain ⟨x220, hx221, hr⟩ := bind_some' hr
                                    refine WO.indexQ ho110 hx221 rfl rfl rfl rfl rfl rfl Try.underlying52 sz_88 (fun b222 cs223 hb224 h225 hq226 => ?_)
                                    obtain rfl : b157 = b222 := by cases hb224; rfl
                                    obtain ⟨a227, c228, rfl, h229⟩ := h225
                                    refine WO.fieldAddr 0 rfl rfl rfl rfl fl_88_0 ?_
                                    refine WO.loadQY 4 0 hq226 rfl rfl rfl rfl rfl rfl sc_3 rfl ?_
                                    refine WO.move rfl rfl rfl rfl ?_
                                    refine WO.nilCheck rfl rfl rfl rfl ?_
                                    refine WO.fieldAddr 7 rfl rfl rfl rfl fl_54_7 ?_
                                    refine WO.loadY 7 rfl rfl rfl rfl sc_3 rfl rfl ?_
                                    refine WO.bin rfl rfl rfl rfl rfl rfl ?_
                                    refine WO.done ?_
                                    refine At.seq_wc ?_
                                    refine WC.cond rfl (fun hb230 => ?_) (fun hb230 => ?_)
                                    · have hr := cond_t hb230 hr
                                      refine WC.region [(0, true), (1, true), (2, true), (3, true), (4, false), (5, true), (6, true), (7, false), (8, false), (9, false), (10, true)] rfl ?_
                                      refine WO.move rfl rfl rfl rfl ?_
                                      refine WO.move rfl rfl rfl rfl ?_
                                      refine WO.nilCheck rfl rfl rfl rfl ?_
                                      refine WO.fieldAddr 9 rfl rfl rfl rfl fl_54_9 ?_
                                      refine WO.load 7 rfl rfl rfl rfl sc_52 rfl rfl ?_
                                      refine WO.move rfl rfl rfl rfl ?_
                                      obtain ⟨x231, hx232, hr⟩ := bind_some' hr
                                      refine WO.indexQ ho110 hx232 rfl rfl rfl rfl rfl rfl Try.underlying52 sz_88 (fun b233 cs234 hb235 h236 hq237 => ?_)
                                      obtain rfl : b157 = b233 := by cases hb235; rfl
                                      obtain ⟨a238, c239, rfl, h240⟩ := h236
                                      refine WO.loadQA 4 0 2 hq237 rfl rfl rfl rfl rfl rfl ag_88 rfl rfl ?_
                                      refine WO.buildSl (e := 88) (vs := [.tmp 205]) [0] [.int .i64 x231.Seq, .slice a238 x231.B.length c239] rfl rfl rfl rfl rfl (fun _ => by kernel_rfl) (fun _ _ _ => trivial) (fun b241 => ?_)
                                      obtain ⟨x243, hx244, hr⟩ := bind_some' hr
                                      refine WO.append 1 ho194 rfl (SrcL.ofRow 0 Try.underlying52 [[.int .i64 x231.Seq, .slice a238 x231.B.length c239]] rfl rfl rfl (Rs.cons (x := x231) (cs := [.int .i64 x231.Seq, .slice a238 x231.B.length c239]) rfl ⟨_, _, rfl, h240⟩ rfl Rs.nil)) hx244 rfl rfl rfl rfl rfl rfl Try.underlying52 el_88 (fun _ _ _ => trivial) (fun a245 c246 p247 ho248 => ?_)
                                      refine WO.assign rfl rfl rfl rfl ?_
                                      refine WO.done ?_
                                      refine At.block_normal ?_
                                      refine At.seq_at ?_
                                      exact fun a w hc hs => ⟨x243, a245, c246, p247, hr, (hc.keep (hc.keep (hc.keep (hc.keep hc.nil (t := 10) rfl) (t := 9) rfl) (t := 8) rfl) (t := 0) rfl), (hs.arrange 2 9 [0, 1] [3, 4, 5, 6, 7, 8, 9, 10] (by decide)), ho248⟩
                                    · have hr := cond_f hb230 hr
                                      refine WC.skip ?_
                                      refine At.block_normal ?_
                                      refine At.seq_at ?_
                                      exact fun a w hc hs => ⟨v190, a191, c192, p193, hr, (hc.keep (hc.keep (hc.keep (hc.keep hc.nil (t := 10) rfl) (t := 9) rfl) (t := 8) rfl) (t := 0) rfl), hs, ho194⟩
                                  · rintro a w ⟨v214, a215, c216, p217, hr, hc, hs, ho218⟩
                                    refine WC.use hc hs ?_
                                    clear hc hs
                                    unfold ref16_Link_Hear_vvvvvvvvoov_k10 at hr
                                    refine WC.region [(0, true), (1, true), (2, true)] rfl ?_
                                    refine WO.move rfl rfl rfl rfl ?_
                                    refine WO.bin rfl rfl rfl rfl rfl rfl ?_
                                    refine WO.assign rfl rfl rfl rfl ?_
                                    refine WO.done ?_
                                    refine At.round_next hr ?_
                                    exact fun a w hc hs => ⟨a215, c216, p217, (hc.keep (hc.keep (hc.keep (hc.keep hc.nil (t := 10) rfl) (t := 9) rfl) (t := 8) rfl) (t := 0) rfl), hs, ho218⟩
                                · have hr := cond_f hb212 hr
                                  refine WC.exit ?_
                                  refine At.seq_exit ?_
                                  refine At.round_exit hr (fun hy => ?_)
                                  refine At.exit_block ?_
                                  refine At.seq_at ?_
                                  exact fun a w hc hs => ⟨v190, a191, c192, p193, hy, (hc.keep (hc.keep (hc.keep hc.nil (t := 9) rfl) (t := 8) rfl) (t := 0) rfl), hs, ho194⟩
                            · rintro a w ⟨v206, a207, c208, p209, rfl, hc, hs, ho210⟩
                              refine At.use hc hs ?_
                              clear hc hs
                              (try dsimp only at hk9)
                              have hr := hk9
                              refine At.seq_at ?_
                              exact fun a w hc hs => ⟨v206, a207, c208, p209, hr, (hc.keep (hc.keep (hc.keep hc.nil (t := 9) rfl) (t := 8) rfl) (t := 0) rfl), hs, ho210⟩
                          · rintro a w ⟨v174, a175, c176, p177, hr, hc, hs, ho178⟩
                            refine WC.use hc hs ?_
                            clear hc hs
                            unfold ref16_Link_Hear_vvvvvvvvoov_k7 at hr
                            refine WC.region [(0, true), (1, true), (2, true), (3, true), (4, false)] rfl ?_
                            refine WO.move rfl rfl rfl rfl ?_
                            refine WO.move rfl rfl rfl rfl ?_
                            refine WO.nilCheck rfl rfl rfl rfl ?_
                            refine WO.fieldAddr 9 rfl rfl rfl rfl fl_54_9 ?_
                            refine WO.store 7 rfl rfl rfl rfl sz_52 rfl rfl rfl (fun _ _ => trivial) ?_
                            refine WO.done ?_
                            refine At.block_normal ?_
                            refine At.round_next hr ?_
                            exact fun a w hc hs => ⟨a169, c170, p171, a102, c103, p104, a175, c176, p177, (hc.keep (hc.keep hc.nil (t := 8) rfl) (t := 0) rfl), (hs.arrange 2 8 [0, 1] [4, 5, 2, 7, 8, 9] (by decide)), ho172, ho105, ho178⟩
                        · obtain ⟨x152, hx153, hr⟩ := bind_some' hr
                          refine WO.call rfl rfl rfl rfl rfl cl_32 (CallsRet.lay0 2 6 [0] [7, 3, 4, 1, 2, 5, 6] (by decide) (Mem.add F w32) ([(b_0, row [.int .i64 v101.Window, .int .i64 v101.Span, .int .i64 v101.Room, .int .i64 v101.Epoch, .int .i64 v101.Next, .int .i64 v101.Acked, .int .i64 v101.Sent, .int .i64 (IntKind.wrap .i64 (v101.Got + 1)), .slice a102 v101.Out.length c103, .slice a107 v101.Early.length c108, .bool v101.Owes] 54)] :: p104 :: p109 :: χ :: p98 :: p26 :: [(b4, row [.int .i64 p1.Epoch, .int .i64 p1.Seq, .int .i64 p1.Ack, .slice a1 p1.Body.length c2] 46)] :: Φ) rfl rfl (ref16_Link_find_vvvvvvvvoov_ok (F := (Mem.add F w32)) (p0 := (⟨v101.Window, v101.Span, v101.Room, v101.Epoch, v101.Next, v101.Acked, v101.Sent, (IntKind.wrap .i64 (v101.Got + 1)), v101.Out, v101.Early, v101.Owes⟩ : S_ref16_Link)) (ho105.mono mono_ref16_Body (Mem.le_pick (Mem.add F w32) 1 [] (by decide))) ho110 hx153 (χ :: p98 :: p26 :: [(b4, row [.int .i64 p1.Epoch, .int .i64 p1.Seq, .int .i64 p1.Ack, .slice a1 p1.Body.length c2] 46)] :: Φ))) ?_
                          rintro _ _ ⟨rfl, hs154⟩
                          have hs154 := (hs154.arrange 1 7 [0, 4] [5, 2, 3, 6, 7, 1] (by decide))
                          refine ⟨(Mem.add (Mem.add F χ) w32), (p98 :: p104 :: p109 :: p26 :: [(b4, row [.int .i64 p1.Epoch, .int .i64 p1.Seq, .int .i64 p1.Ack, .slice a1 p1.Body.length c2] 46)] :: [(b_0, row [.int .i64 v101.Window, .int .i64 v101.Span, .int .i64 v101.Room, .int .i64 v101.Epoch, .int .i64 v101.Next, .int .i64 v101.Acked, .int .i64 v101.Sent, .int .i64 (IntKind.wrap .i64 (v101.Got + 1)), .slice a102 v101.Out.length c103, .slice a107 v101.Early.length c108, .bool v101.Owes] 54)] :: Φ), hs154, (hs154.arrange 2 6 [0, 1] [5, 6] (by decide)), ?_⟩
                          refine WO.done ?_
                          refine WA.of ?_
                          refine WA.lin (fuel := 0) [(4, false), (11, true), (12, true), (13, false), (14, false), (15, false), (16, true)] (by kernel_rfl) (by kernel_rfl) ?_
                          refine WO.load 5 rfl rfl rfl rfl sc_52 rfl rfl ?_
                          obtain ⟨x155, hx156, hr⟩ := bind_some' hr
                          refine WO.indexQ ho110 hx156 rfl rfl rfl rfl rfl rfl Try.underlying52 sz_88 (fun b157 cs158 hb159 h160 hq161 => ?_)
                          subst hb159
                          obtain ⟨a162, c163, rfl, h164⟩ := h160
                          refine WO.fieldAddr 1 rfl rfl rfl rfl fl_88_1 ?_
                          refine WO.loadQ 2 1 hq161 rfl rfl rfl rfl rfl rfl sc_38 rfl ?_
                          refine WO.buildSl (e := 38) (vs := [.tmp 173]) [0] [.slice a162 x155.B.length c163] rfl rfl rfl rfl rfl (fun _ => by kernel_rfl) (fun _ _ h => (h.arrange 2 7 [0, 1] [6, 7] (by decide))) (fun b165 => ?_)
                          obtain ⟨x167, hx168, hr⟩ := bind_some' hr
                          refine WO.append 1 ho99 rfl (SrcL.ofRow 0 Try.underlying55 [[.slice a162 x155.B.length c163]] rfl rfl rfl (Rs.cons (x := x155.B) (cs := [.slice a162 x155.B.length c163]) rfl ⟨_, _, rfl, h164⟩ rfl Rs.nil)) hx168 rfl rfl rfl rfl rfl rfl Try.underlying55 el_38 (fun _ _ h => (h.arrange 2 7 [0, 1] [6, 7] (by decide))) (fun a169 c170 p171 ho172 => ?_)
                          refine WO.assign rfl rfl rfl rfl ?_
                          refine WO.done ?_
                          refine WA.of ?_
                          refine WA.done (by kernel_rfl) ?_
                          refine At.seq_wc ?_
                          refine WC.then ?_
                          refine WC.region [(0, true)] rfl ?_
                          refine WO.assign rfl rfl rfl rfl ?_
                          refine WO.done ?_
                          refine At.seq_wc ?_
                          refine WC.seq (fun a w => ∃ (v174 : List S_ref16_Early) (a175 : Option Addr) (c176 : Nat) (p177 : List Chunk), ref16_Link_Hear_vvvvvvvvoov_k7 v101 x167 v174 = some r6 ∧ Ctx 213 [(0, .pointer (some ⟨b_0, 0, none⟩)), (8, .slice a169 x167.length c170), (9, .slice a175 v174.length c176)] a ∧ Sat (Mem.add (Mem.add F χ) w32) (p177 :: [(b165, row [.slice a162 x155.B.length c163] 38)] :: p171 :: p104 :: p109 :: p26 :: [(b4, row [.int .i64 p1.Epoch, .int .i64 p1.Seq, .int .i64 p1.Ack, .slice a1 p1.Body.length c2] 46)] :: [(b_0, row [.int .i64 v101.Window, .int .i64 v101.Span, .int .i64 v101.Room, .int .i64 v101.Epoch, .int .i64 v101.Next, .int .i64 v101.Acked, .int .i64 v101.Sent, .int .i64 (IntKind.wrap .i64 (v101.Got + 1)), .slice a102 v101.Out.length c103, .slice (some ⟨b157, 0, none⟩) v101.Early.length c108, .bool v101.Owes] 54)] :: Φ) w ∧ OwnL 2 R_ref16_Early (Mem.add F w32) 88 a175 c176 v174 p177) ?_ ?_
                          · refine WC.then ?_
                            refine WC.region [(0, true)] rfl ?_
                            refine WO.assign rfl rfl rfl rfl ?_
                            refine WO.done ?_
                            refine At.seq_wc ?_
                            obtain ⟨xl9, hl9, hk9⟩ := bind_some' hr
                            refine WC.weaken (fun a w => ∃ (v206 : List S_ref16_Early) (a207 : Option Addr) (c208 : Nat) (p209 : List Chunk), v206 = xl9 ∧ Ctx 213 [(0, .pointer (some ⟨b_0, 0, none⟩)), (8, .slice a169 x167.length c170), (9, .slice a207 v206.length c208)] a ∧ Sat (Mem.add (Mem.add F χ) w32) (p209 :: [(b165, row [.slice a162 x155.B.length c163] 38)] :: p171 :: p104 :: p109 :: p26 :: [(b4, row [.int .i64 p1.Epoch, .int .i64 p1.Seq, .int .i64 p1.Ack, .slice a1 p1.Body.length c2] 46)] :: [(b_0, row [.int .i64 v101.Window, .int .i64 v101.Span, .int .i64 v101.Room, .int .i64 v101.Epoch, .int .i64 v101.Next, .int .i64 v101.Acked, .int .i64 v101.Sent, .int .i64 (IntKind.wrap .i64 (v101.Got + 1)), .slice a102 v101.Out.length c103, .slice (some ⟨b157, 0, none⟩) v101.Early.length c108, .bool v101.Owes] 54)] :: Φ) w ∧ OwnL 2 R_ref16_Early (Mem.add F w32) 88 a207 c208 v206 p209) ?_ ?_
                            · refine WC.block ?_
                              refine WC.loop (fun ⟨v190, v196⟩ a w => ∃ (a191 : Option Addr) (c192 : Nat) (p193 : List Chunk), Ctx 213 [(0, .pointer (some ⟨b_0, 0, none⟩)), (8, .slice a169 x167.length c170), (9, .slice a191 v190.length c192), (10, .int .i64 v196)] a ∧ Sat (Mem.add (Mem.add F χ) w32) (p193 :: [(b165, row [.slice a162 x155.B.length c163] 38)] :: p171 :: p104 :: p109 :: p26 :: [(b4, row [.int .i64 p1.Epoch, .int .i64 p1.Seq, .int .i64 p1.Ack, .slice a1 p1.Body.length c2] 46)] :: [(b_0, row [.int .i64 v101.Window, .int .i64 v101.Span, .int .i64 v101.Room, .int .i64 v101.Epoch, .int .i64 v101.Next, .int .i64 v101.Acked, .int .i64 v101.Sent, .int .i64 (IntKind.wrap .i64 (v101.Got + 1)), .slice a102 v101.Out.length c103, .slice (some ⟨b157, 0, none⟩) v101.Early.length c108, .bool v101.Owes] 54)] :: Φ) w ∧ OwnL 2 R_ref16_Early (Mem.add F w32) 88 a191 c192 v190 p193) hl9 ?_ ?_
                              · refine At.empty ?_
                                have ho250 : OwnL 2 R_ref16_Early F 88 none 0 ([] : List S_ref16_Early) [] := OwnL.nil
                                exact fun a w hc hs => ⟨none, 0, [], (hc.keep (hc.keep (hc.keep (hc.keep hc.nil (t := 10) rfl) (t := 9) rfl) (t := 8) rfl) (t := 0) rfl), hs, (ho250.mono mono_ref16_Early (Mem.le_pick (Mem.add F w32) 1 [] (by decide)))⟩
                              · rintro ⟨v190, v196⟩ r9 hr a w ⟨a191, c192, p193, hc, hs, ho194⟩
                                refine WC.use hc hs ?_
                                clear hc hs
                                (try dsimp only at hr)
                                unfold ref16_Link_Hear_vvvvvvvvoov_b8 at hr
                                refine WC.then ?_
                                refine WC.then ?_
                                refine WC.region [(0, true), (1, true), (2, true), (3, true), (4, false), (5, true), (6, true)] rfl ?_
                                refine WO.move rfl rfl rfl rfl ?_
                                refine WO.move rfl rfl rfl rfl ?_
                                refine WO.nilCheck rfl rfl rfl rfl ?_
                                refine WO.fieldAddr 9 rfl rfl rfl rfl fl_54_9 ?_
                                refine WO.load 7 rfl rfl rfl rfl sc_52 rfl rfl ?_
                                refine WO.len rfl rfl rfl rfl Try.underlying52 ?_
                                refine WO.bin rfl rfl rfl rfl rfl rfl ?_
                                refine WO.done ?_
                                refine At.seq_wc ?_
                                refine WC.cond rfl (fun hb212 => ?_) (fun hb212 => ?_)
                                · have hr := cond_t hb212 hr
                                  refine WC.skip ?_
                                  refine At.seq_wc ?_
                                  refine WC.seq (fun a w => ∃ (v214 : List S_ref16_Early) (a215 : Option Addr) (c216 : Nat) (p217 : List Chunk), ref16_Link_Hear_vvvvvvvvoov_k10 v196 v214 = some r9 ∧ Ctx 213 [(0, .pointer (some ⟨b_0, 0, none⟩)), (8, .slice a169 x167.length c170), (9, .slice a215 v214.length c216), (10, .int .i64 v196)] a ∧ Sat (Mem.add (Mem.add F χ) w32) (p217 :: [(b165, row [.slice a162 x155.B.length c163] 38)] :: p171 :: p104 :: p109 :: p26 :: [(b4, row [.int .i64 p1.Epoch, .int .i64 p1.Seq, .int .i64 p1.Ack, .slice a1 p1.Body.length c2] 46)] :: [(b_0, row [.int .i64 v101.Window, .int .i64 v101.Span, .int .i64 v101.Room, .int .i64 v101.Epoch, .int .i64 v101.Next, .int .i64 v101.Acked, .int .i64 v101.Sent, .int .i64 (IntKind.wrap .i64 (v101.Got + 1)), .slice a102 v101.Out.length c103, .slice (some ⟨b157, 0, none⟩) v101.Early.length c108, .bool v101.Owes] 54)] :: Φ) w ∧ OwnL 2 R_ref16_Early (Mem.add F w32) 88 a215 c216 v214 p217) ?_ ?_
                                  · refine WC.block ?_
                                    refine WC.then ?_
                                    refine WC.draw (Sat (Mem.add (Mem.add F χ) w32) (p193 :: [(b165, row [.slice a162 x155.B.length c163] 38)] :: p171 :: p104 :: p109 :: p26 :: [(b4, row [.int .i64 p1.Epoch, .int .i64 p1.Seq, .int .i64 p1.Ack, .slice a1 p1.Body.length c2] 46)] :: [(b_0, row [.int .i64 v101.Window, .int .i64 v101.Span, .int .i64 v101.Room, .int .i64 v101.Epoch, .int .i64 v101.Next, .int .i64 v101.Acked, .int .i64 v101.Sent, .int .i64 (IntKind.wrap .i64 (v101.Got + 1)), .slice a102 v101.Out.length c103, .slice (some ⟨b157, 0, none⟩) v101.Early.length c108, .bool v101.Owes] 54)] :: Φ)) (fun _ h => (h.arrange 2 8 [0, 1] [2, 3, 4, 5, 6, 7, 8, 9] (by decide))) [(0, true), (1, true), (2, true), (3, true), (4, true), (5, true), (6, true), (7, true), (8, true), (9, true), (10, true), (11, true), (12, true)] mixed (by kernel_rfl) rfl (by kernel_rfl) ?_
                                    refine WO.move rfl rfl rfl rfl ?_
                                    refine WO.nilCheck rfl rfl rfl rfl ?_
                                    refine WO.fieldAddr 9 rfl rfl rfl rfl fl_54_9 ?_
                                    refine WO.loadY 7 rfl rfl rfl rfl sc_52 rfl rfl ?_
                                    refine WO.move rfl rfl rfl rfl ?_
                                    obtain ⟨x220, hx221, hr⟩ := bind_some' hr
                                    refine WO.indexQ ho110 hx221 rfl rfl rfl rfl rfl rfl Try.underlying52 sz_88 (fun b222 cs223 hb224 h225 hq226 => ?_)
                                    obtain rfl : b157 = b222 := by cases hb224; rfl
                                    obtain ⟨a227, c228, rfl, h229⟩ := h225
                                    refine WO.fieldAddr 0 rfl rfl rfl rfl fl_88_0 ?_
                                    refine WO.loadQY 4 0 hq226 rfl rfl rfl rfl rfl rfl sc_3 rfl ?_
                                    refine WO.move rfl rfl rfl rfl ?_
                                    refine WO.nilCheck rfl rfl rfl rfl ?_
                                    refine WO.fieldAddr 7 rfl rfl rfl rfl fl_54_7 ?_
                                    refine WO.loadY 7 rfl rfl rfl rfl sc_3 rfl rfl ?_
                                    refine WO.bin rfl rfl rfl rfl rfl rfl ?_
                                    refine WO.done ?_
                                    refine At.seq_wc ?_
                                    refine WC.cond rfl (fun hb230 => ?_) (fun hb230 => ?_)
                                    · have hr := cond_t hb230 hr
                                      refine WC.region [(0, true), (1, true), (2, true), (3, true), (4, false), (5, true), (6, true), (7, false), (8, false), (9, false), (10, true)] rfl ?_
                                      refine WO.move rfl rfl rfl rfl ?_
                                      refine WO.move rfl rfl rfl rfl ?_
                                      refine WO.nilCheck rfl rfl rfl rfl ?_
                                      refine WO.fieldAddr 9 rfl rfl rfl rfl fl_54_9 ?_
                                      refine WO.load 7 rfl rfl rfl rfl sc_52 rfl rfl ?_
                                      refine WO.move rfl rfl rfl rfl ?_
                                      obtain ⟨x231, hx232, hr⟩ := bind_some' hr
                                      refine WO.indexQ ho110 hx232 rfl rfl rfl rfl rfl rfl Try.underlying52 sz_88 (fun b233 cs234 hb235 h236 hq237 => ?_)
                                      obtain rfl : b157 = b233 := by cases hb235; rfl
                                      obtain ⟨a238, c239, rfl, h240⟩ := h236
                                      refine WO.loadQA 4 0 2 hq237 rfl rfl rfl rfl rfl rfl ag_88 rfl rfl ?_
                                      refine WO.buildSl (e := 88) (vs := [.tmp 205]) [0] [.int .i64 x231.Seq, .slice a238 x231.B.length c239] rfl rfl rfl rfl rfl (fun _ => by kernel_rfl) (fun _ _ _ => trivial) (fun b241 => ?_)
                                      obtain ⟨x243, hx244, hr⟩ := bind_some' hr
                                      refine WO.append 1 ho194 rfl (SrcL.ofRow 0 Try.underlying52 [[.int .i64 x231.Seq, .slice a238 x231.B.length c239]] rfl rfl rfl (Rs.cons (x := x231) (cs := [.int .i64 x231.Seq, .slice a238 x231.B.length c239]) rfl ⟨_, _, rfl, h240⟩ rfl Rs.nil)) hx244 rfl rfl rfl rfl rfl rfl Try.underlying52 el_88 (fun _ _ _ => trivial) (fun a245 c246 p247 ho248 => ?_)
                                      refine WO.assign rfl rfl rfl rfl ?_
                                      refine WO.done ?_
                                      refine At.block_normal ?_
                                      refine At.seq_at ?_
                                      exact fun a w hc hs => ⟨x243, a245, c246, p247, hr, (hc.keep (hc.keep (hc.keep (hc.keep hc.nil (t := 10) rfl) (t := 9) rfl) (t := 8) rfl) (t := 0) rfl), (hs.arrange 2 9 [0, 1] [3, 4, 5, 6, 7, 8, 9, 10] (by decide)), ho248⟩
                                    · have hr := cond_f hb230 hr
                                      refine WC.skip ?_
                                      refine At.block_normal ?_
                                      refine At.seq_at ?_
                                      exact fun a w hc hs => ⟨v190, a191, c192, p193, hr, (hc.keep (hc.keep (hc.keep (hc.keep hc.nil (t := 10) rfl) (t := 9) rfl) (t := 8) rfl) (t := 0) rfl), hs, ho194⟩
                                  · rintro a w ⟨v214, a215, c216, p217, hr, hc, hs, ho218⟩
                                    refine WC.use hc hs ?_
                                    clear hc hs
                                    unfold ref16_Link_Hear_vvvvvvvvoov_k10 at hr
                                    refine WC.region [(0, true), (1, true), (2, true)] rfl ?_
                                    refine WO.move rfl rfl rfl rfl ?_
                                    refine WO.bin rfl rfl rfl rfl rfl rfl ?_
                                    refine WO.assign rfl rfl rfl rfl ?_
                                    refine WO.done ?_
                                    refine At.round_next hr ?_
                                    exact fun a w hc hs => ⟨a215, c216, p217, (hc.keep (hc.keep (hc.keep (hc.keep hc.nil (t := 10) rfl) (t := 9) rfl) (t := 8) rfl) (t := 0) rfl), hs, ho218⟩
                                · have hr := cond_f hb212 hr
                                  refine WC.exit ?_
                                  refine At.seq_exit ?_
                                  refine At.round_exit hr (fun hy => ?_)
                                  refine At.exit_block ?_
                                  refine At.seq_at ?_
                                  exact fun a w hc hs => ⟨v190, a191, c192, p193, hy, (hc.keep (hc.keep (hc.keep hc.nil (t := 9) rfl) (t := 8) rfl) (t := 0) rfl), hs, ho194⟩
                            · rintro a w ⟨v206, a207, c208, p209, rfl, hc, hs, ho210⟩
                              refine At.use hc hs ?_
                              clear hc hs
                              (try dsimp only at hk9)
                              have hr := hk9
                              refine At.seq_at ?_
                              exact fun a w hc hs => ⟨v206, a207, c208, p209, hr, (hc.keep (hc.keep (hc.keep hc.nil (t := 9) rfl) (t := 8) rfl) (t := 0) rfl), hs, ho210⟩
                          · rintro a w ⟨v174, a175, c176, p177, hr, hc, hs, ho178⟩
                            refine WC.use hc hs ?_
                            clear hc hs
                            unfold ref16_Link_Hear_vvvvvvvvoov_k7 at hr
                            refine WC.region [(0, true), (1, true), (2, true), (3, true), (4, false)] rfl ?_
                            refine WO.move rfl rfl rfl rfl ?_
                            refine WO.move rfl rfl rfl rfl ?_
                            refine WO.nilCheck rfl rfl rfl rfl ?_
                            refine WO.fieldAddr 9 rfl rfl rfl rfl fl_54_9 ?_
                            refine WO.store 7 rfl rfl rfl rfl sz_52 rfl rfl rfl (fun _ _ => trivial) ?_
                            refine WO.done ?_
                            refine At.block_normal ?_
                            refine At.round_next hr ?_
                            exact fun a w hc hs => ⟨a169, c170, p171, a102, c103, p104, a175, c176, p177, (hc.keep (hc.keep hc.nil (t := 8) rfl) (t := 0) rfl), (hs.arrange 2 8 [0, 1] [4, 5, 2, 7, 8, 9] (by decide)), ho172, ho105, ho178⟩
                    · have hr := cond_f hb151 hr
                      refine WC.exit ?_
                      refine At.seq_exit ?_
                      refine At.round_exit hr (fun hy => ?_)
                      refine At.exit_block ?_
                      refine At.seq_at ?_
                      exact fun a w hc hs => ⟨v95, v101, a96, c97, p98, a102, c103, p104, a107, c108, p109, hy, (hc.keep hc.nil (t := 8) rfl), hs, ho99, ho105, ho110⟩
                · rintro a w ⟨v131, v137, a132, c133, p134, a138, c139, p140, a143, c144, p145, rfl, hc, hs, ho135, ho141, ho146⟩
                  refine WC.use hc hs ?_
                  clear hc hs
                  (try dsimp only at hk6)
                  have hr := hk6
                  refine WC.then ?_
                  refine WC.region [(0, true), (1, true), (2, true)] rfl ?_
                  refine WO.move rfl rfl rfl rfl ?_
                  refine WO.assign rfl rfl rfl rfl ?_
                  refine WO.assign rfl rfl rfl rfl ?_
                  refine WO.done ?_
                  refine At.seq_wc ?_
                  refine WC.ret ?_
                  obtain rfl := Option.some.inj hr
                  exact At.ret (fun a w hc hs => (resVs_cons (hc.res rfl) (resVs_cons (hc.res rfl) resVs_nil))) (fun w hs => ⟨(List.flatten [w32]), _, _, _, _, _, _, _, _, _, rfl, ((hs.arrange 2 6 [0, 1] [2, 7, 3, 4] (by decide)).gather 1), (ho135.mono (mono_sl (mono_int _)) (Mem.le_gather (Mem.add F w32) 1)), (ho141.mono mono_ref16_Body (Mem.le.trans (Mem.le_pick (Mem.add F w32) 1 [] (by decide)) (Mem.le_gather (Mem.add F w32) 1))), (ho146.mono mono_ref16_Early (Mem.le_gather (Mem.add F w32) 1))⟩)
/-! peloton/pelotonlaw16.bodies -/
def law16_bodies_k1  : Option Bool := some true
def law16_bodies_b2 (p0 : List (List Int)) (p1 : List (List Int)) (v7 : Int) : Option (Int ⊕ (Lp Bool Unit)) := cond (decide (v7 < (p0.length : Int))) ((getI p0 v7).bind fun x12 => (getI p1 v7).bind fun x20 => cond (!((strOfNums x12) == (strOfNums x20))) (some (.inr (.ret false))) (some (.inl (IntKind.wrap .i64 (v7 + 1))))) (some (.inr (.brk ())))
def law16_bodies (p0 : List (List Int)) (p1 : List (List Int)) : Option Bool := cond ((p0.length : Int) != (p1.length : Int)) (some false) ((loopO (fun s => law16_bodies_b2 p0 p1 s) 0).bind (fun | .ret r => some r | .brk _ => law16_bodies_k1 ))
theorem law16_bodies_ok {F : Mem} {χ : List Chunk} {p0 : List (List Int)} {p1 : List (List Int)} {a_0 : Option Addr} {c_0 : Nat} (h_0 : RdL 1 (RSl 1 (RInt .u8)) (Mem.add F χ) a_0 c_0 p0) {a_1 : Option Addr} {c_1 : Nat} (h_1 : RdL 1 (RSl 1 (RInt .u8)) (Mem.add F χ) a_1 c_1 p1) {r : Bool} (hr : law16_bodies p0 p1 = some r) (Φ : List (List Chunk)) :
    CallsRet Try.prog 20 (List.toArray [.slice a_0 p0.length c_0, .slice a_1 p1.length c_1]) (Mem.add F χ) Φ (fun v w => v = .bool r ∧ Sat (Mem.add F χ) (Φ) w) := by
  refine CallsRet.enter (rs := [.tmp 4]) Try.func20 rfl rfl rfl rfl ?_
  unfold law16_bodies at hr
  refine WC.then ?_
  refine WC.region [(0, true)] rfl ?_
  refine WO.assign rfl rfl rfl rfl ?_
  refine WO.done ?_
  refine At.seq_wc ?_
  refine WC.then ?_
  refine WC.then ?_
  refine WC.region [(0, true), (1, true), (2, true), (3, true), (4, true)] rfl ?_
  refine WO.move rfl rfl rfl rfl ?_
  refine WO.len rfl rfl rfl rfl Try.underlying55 ?_
  refine WO.move rfl rfl rfl rfl ?_
  refine WO.len rfl rfl rfl rfl Try.underlying55 ?_
  refine WO.bin rfl rfl rfl rfl rfl rfl ?_
  refine WO.done ?_
  refine At.seq_wc ?_
  refine WC.cond rfl (fun hb1 => ?_) (fun hb1 => ?_)
  · have hr := cond_t hb1 hr
    refine WC.then ?_
    refine WC.region [(0, true)] rfl ?_
    refine WO.assign rfl rfl rfl rfl ?_
    refine WO.done ?_
    refine At.seq_wc ?_
    refine WC.ret ?_
    refine At.seq_ret ?_
    obtain rfl := Option.some.inj hr
    exact At.ret (fun a w hc hs => (resVs_cons (hc.res rfl) resVs_nil)) (fun w hs => ⟨rfl, hs⟩)
  · have hr := cond_f hb1 hr
    refine WC.skip ?_
    refine At.seq_wc ?_
    refine WC.seq (fun a w => law16_bodies_k1  = some r ∧ Ctx 28 [] a ∧ Sat (Mem.add F χ) Φ w) ?_ ?_
    · refine WC.then ?_
      refine WC.region [(0, true)] rfl ?_
      refine WO.assign rfl rfl rfl rfl ?_
      refine WO.done ?_
      refine At.seq_wc ?_
      obtain ⟨xl3, hl3, hk3⟩ := bind_some' hr
      refine WC.weaken (fun a w => .brk () = xl3 ∧ Ctx 28 [] a ∧ Sat (Mem.add F χ) Φ w) ?_ ?_
      · refine WC.block ?_
        refine WC.loop (fun (v7 : Int) a w => Ctx 28 [(0, .slice a_0 p0.length c_0), (1, .slice a_1 p1.length c_1), (5, .int .i64 v7)] a ∧ Sat (Mem.add F χ) Φ w) hl3 ?_ ?_
        · exact fun a w hc hs => ⟨(hc.keep (hc.keep (hc.keep hc.nil (t := 5) rfl) (t := 1) rfl) (t := 0) rfl), hs⟩
        · rintro v7 r3 hr a w ⟨hc, hs⟩
          refine WC.use hc hs ?_
          clear hc hs
          (try dsimp only at hr)
          unfold law16_bodies_b2 at hr
          refine WC.then ?_
          refine WC.then ?_
          refine WC.region [(0, true), (1, true), (2, true), (3, true)] rfl ?_
          refine WO.move rfl rfl rfl rfl ?_
          refine WO.move rfl rfl rfl rfl ?_
          refine WO.len rfl rfl rfl rfl Try.underlying55 ?_
          refine WO.bin rfl rfl rfl rfl rfl rfl ?_
          refine WO.done ?_
          refine At.seq_wc ?_
          refine WC.cond rfl (fun hb11 => ?_) (fun hb11 => ?_)
          · have hr := cond_t hb11 hr
            refine WC.skip ?_
            refine At.seq_wc ?_
            refine WC.then ?_
            refine WC.block ?_
            refine WC.then ?_
            refine WC.draw (Sat (Mem.add F χ) (Φ)) (fun _ h => (h.arrange 1 0 [0] [] (by decide))) [(0, true), (1, true), (2, true), (3, true), (4, true), (5, true), (6, true), (7, true), (8, true), (9, true), (10, true)] mixed (by kernel_rfl) rfl (by kernel_rfl) ?_
            refine WO.move rfl rfl rfl rfl ?_
            refine WO.move rfl rfl rfl rfl ?_
            obtain ⟨x12, hx13, hr⟩ := bind_some' hr
            refine WO.indexR h_0 hx13 rfl rfl rfl rfl rfl rfl Try.underlying55 sz_38 ?_
            rintro b14 o15 _ hc16 ⟨a17, c18, rfl, h19⟩
            refine WO.loadP 0 hc16 rfl rfl rfl rfl rfl sc_38 rfl ?_
            refine WO.strY (xs := x12) h19 (Mem.le_refl _) rfl rfl rfl rfl rfl Try.underlying38 Try.underlying5 Try.underlying9 ?_
            refine WO.move rfl rfl rfl rfl ?_
            refine WO.move rfl rfl rfl rfl ?_
            obtain ⟨x20, hx21, hr⟩ := bind_some' hr
            refine WO.indexR h_1 hx21 rfl rfl rfl rfl rfl rfl Try.underlying55 sz_38 ?_
            rintro b22 o23 _ hc24 ⟨a25, c26, rfl, h27⟩
            refine WO.loadP 0 hc24 rfl rfl rfl rfl rfl sc_38 rfl ?_
            refine WO.strY (xs := x20) h27 (Mem.le_refl _) rfl rfl rfl rfl rfl Try.underlying38 Try.underlying5 Try.underlying9 ?_
            refine WO.neStr rfl rfl rfl rfl rfl Try.underlying9 ?_
            refine WO.done ?_
            refine At.seq_wc ?_
            refine WC.cond rfl (fun hb28 => ?_) (fun hb28 => ?_)
            · have hr := cond_t hb28 hr
              refine WC.then ?_
              refine WC.region [(0, true)] rfl ?_
              refine WO.assign rfl rfl rfl rfl ?_
              refine WO.done ?_
              refine At.seq_wc ?_
              refine WC.ret ?_
              refine At.block_ret ?_
              refine At.seq_ret ?_
              refine At.round_ret hr (fun hy => ?_)
              subst hy
              have hr := hk3
              refine At.block_ret ?_
              refine At.seq_ret ?_
              refine At.seq_ret ?_
              obtain rfl := Option.some.inj hr
              exact At.ret (fun a w hc hs => (resVs_cons (hc.res rfl) resVs_nil)) (fun w hs => ⟨rfl, hs⟩)
            · have hr := cond_f hb28 hr
              refine WC.skip ?_
              refine At.block_normal ?_
              refine At.seq_wc ?_
              refine WC.region [(0, true), (1, true), (2, true)] rfl ?_
              refine WO.move rfl rfl rfl rfl ?_
              refine WO.bin rfl rfl rfl rfl rfl rfl ?_
              refine WO.assign rfl rfl rfl rfl ?_
              refine WO.done ?_
              refine At.round_next hr ?_
              exact fun a w hc hs => ⟨(hc.keep (hc.keep (hc.keep hc.nil (t := 5) rfl) (t := 1) rfl) (t := 0) rfl), hs⟩
          · have hr := cond_f hb11 hr
            refine WC.exit ?_
            refine At.seq_exit ?_
            refine At.round_exit hr (fun hy => ?_)
            refine At.exit_block ?_
            refine At.seq_at ?_
            exact fun a w hc hs => ⟨hy, hc.nil, hs⟩
      · rintro a w ⟨rfl, hc, hs⟩
        refine At.use hc hs ?_
        clear hc hs
        (try dsimp only at hk3)
        have hr := hk3
        refine At.seq_at ?_
        exact fun a w hc hs => ⟨hr, hc.nil, hs⟩
    · rintro a w ⟨hr, hc, hs⟩
      refine WC.use hc hs ?_
      clear hc hs
      unfold law16_bodies_k1 at hr
      refine WC.then ?_
      refine WC.region [(0, true)] rfl ?_
      refine WO.assign rfl rfl rfl rfl ?_
      refine WO.done ?_
      refine At.seq_wc ?_
      refine WC.ret ?_
      obtain rfl := Option.some.inj hr
      exact At.ret (fun a w hc hs => (resVs_cons (hc.res rfl) resVs_nil)) (fun w hs => ⟨rfl, hs⟩)
/-! (*peloton/link.Link).Reset -/
def link_Link_Reset_vvvvvvvvovmv_k1 (p0 : S_link_Link) (v2 : Int) (v3 : Bool) : Option (Int × S_link_Link) := cond v3 (some (160, p0)) ((link_New p0.window p0.span p0.room).bind fun x5 => Option.elim x5.1 (none) (fun o7 => some (0, (⟨o7.window, o7.span, o7.room, v2, o7.now, o7.next, o7.acked, o7.sent, o7.out, o7.got, o7.early, o7.owes⟩ : S_link_Link))))
def link_Link_Reset_vvvvvvvvovmv (p0 : S_link_Link) (p1 : Int) : Option (Int × S_link_Link) := cond (decide (p1 ≤ p0.epoch)) (link_Link_Reset_vvvvvvvvovmv_k1 p0 p1 true) (link_Link_Reset_vvvvvvvvovmv_k1 p0 p1 (decide (p1 ≥ 1099511627776)))
theorem link_Link_Reset_vvvvvvvvovmv_ok {F : Mem} {p0 : S_link_Link} {p1 : Int} {b_0 : Nat} {a_0_8 : Option Addr} {c_0_8 : Nat} {ψ_0_8 : List Chunk} (ho_0_8 : OwnL 3 R_link_body F 79 a_0_8 c_0_8 p0.out ψ_0_8) {bm_0_10 : Nat} {ψ_0_10 : List Chunk} (hm_0_10 : OwnM (fun x : Int => Value.int .i64 x) (RV1 (RSl 1 (RInt .u8))) F bm_0_10 p0.early ψ_0_10) {r : Int × S_link_Link} (hr : link_Link_Reset_vvvvvvvvovmv p0 p1 = some r) (Φ : List (List Chunk)) :
    CallsRet Try.prog 21 (List.toArray [.pointer (some ⟨b_0, 0, none⟩), .int .i64 p1]) F ([(b_0, row [.int .i64 p0.window, .int .i64 p0.span, .int .i64 p0.room, .int .i64 p0.epoch, .int .i64 p0.now, .int .i64 p0.next, .int .i64 p0.acked, .int .i64 p0.sent, .slice a_0_8 p0.out.length c_0_8, .int .i64 p0.got, .map (some bm_0_10), .bool p0.owes] 74)] :: ψ_0_8 :: ψ_0_10 :: Φ) (fun v w => ∃ a0_8 c0_8 ψ0_8 bm0_10 ψ0_10, v = .int .i64 r.1 ∧ Sat F ([(b_0, row [.int .i64 r.2.window, .int .i64 r.2.span, .int .i64 r.2.room, .int .i64 r.2.epoch, .int .i64 r.2.now, .int .i64 r.2.next, .int .i64 r.2.acked, .int .i64 r.2.sent, .slice a0_8 r.2.out.length c0_8, .int .i64 r.2.got, .map (some bm0_10), .bool r.2.owes] 74)] :: ψ0_8 :: ψ0_10 :: Φ) w ∧ OwnL 3 R_link_body F 79 a0_8 c0_8 r.2.out ψ0_8 ∧ OwnM (fun x : Int => Value.int .i64 x) (RV1 (RSl 1 (RInt .u8))) F bm0_10 r.2.early ψ0_10) := by
  refine CallsRet.enter (rs := [.tmp 4]) Try.func21 rfl rfl rfl rfl ?_
  unfold link_Link_Reset_vvvvvvvvovmv at hr
  refine WC.then ?_
  refine WC.region [(0, true)] rfl ?_
  refine WO.assign rfl rfl rfl rfl ?_
  refine WO.done ?_
  refine At.seq_wc ?_
  refine WC.then ?_
  refine WC.seq (fun a w => ∃ (v2 : Int) (v3 : Bool), link_Link_Reset_vvvvvvvvovmv_k1 p0 v2 v3 = some r ∧ Ctx 42 [(0, .pointer (some ⟨b_0, 0, none⟩)), (1, .int .i64 v2), (16, .bool v3)] a ∧ Sat F ([(b_0, row [.int .i64 p0.window, .int .i64 p0.span, .int .i64 p0.room, .int .i64 p0.epoch, .int .i64 p0.now, .int .i64 p0.next, .int .i64 p0.acked, .int .i64 p0.sent, .slice a_0_8 p0.out.length c_0_8, .int .i64 p0.got, .map (some bm_0_10), .bool p0.owes] 74)] :: ψ_0_8 :: ψ_0_10 :: Φ) w) ?_ ?_
  · refine WC.region [(0, true), (1, true), (2, true), (3, true), (4, false), (5, true), (6, true), (7, true), (8, true), (9, true)] rfl ?_
    refine WO.move rfl rfl rfl rfl ?_
    refine WO.move rfl rfl rfl rfl ?_
    refine WO.nilCheck rfl rfl rfl rfl ?_
    refine WO.fieldAddr 3 rfl rfl rfl rfl fl_74_3 ?_
    refine WO.load 0 rfl rfl rfl rfl sc_3 rfl rfl ?_
    refine WO.bin rfl rfl rfl rfl rfl rfl ?_
    refine WO.move rfl rfl rfl rfl ?_
    refine WO.split (t := 13) rfl (fun hg23 => ?_) (fun hg23 => ?_)
    · have hr := cond_t hg23 hr
      refine WO.skip rfl rfl rfl rfl ?_
      refine WO.skip rfl rfl rfl rfl ?_
      refine WO.pickT rfl rfl rfl rfl rfl ?_
      refine WO.done ?_
      refine At.seq_at ?_
      exact fun a w hc hs => ⟨p1, true, hr, (hc.keep (hc.keep (hc.keep hc.nil (t := 16) rfl) (t := 1) rfl) (t := 0) rfl), hs⟩
    · have hr := cond_f hg23 hr
      refine WO.move rfl rfl rfl rfl ?_
      refine WO.bin rfl rfl rfl rfl rfl rfl ?_
      refine WO.pickF rfl rfl rfl rfl rfl ?_
      refine WO.done ?_
      refine At.seq_at ?_
      exact fun a w hc hs => ⟨p1, (decide (p1 ≥ 1099511627776)), hr, (hc.keep (hc.keep (hc.keep hc.nil (t := 16) rfl) (t := 1) rfl) (t := 0) rfl), hs⟩
  · rintro a w ⟨v2, v3, hr, hc, hs⟩
    refine WC.use hc hs ?_
    clear hc hs
    unfold link_Link_Reset_vvvvvvvvovmv_k1 at hr
    refine WC.cond rfl (fun hb4 => ?_) (fun hb4 => ?_)
    · have hr := cond_t hb4 hr
      refine WC.then ?_
      refine WC.region [(0, true)] rfl ?_
      refine WO.assign rfl rfl rfl rfl ?_
      refine WO.done ?_
      refine At.seq_wc ?_
      refine WC.ret ?_
      refine At.seq_ret ?_
      obtain rfl := Option.some.inj hr
      exact At.ret (fun a w hc hs => (resVs_cons (hc.res rfl) resVs_nil)) (fun w hs => ⟨_, _, _, _, _, rfl, hs, ho_0_8, hm_0_10⟩)
    · have hr := cond_f hb4 hr
      refine WC.skip ?_
      refine At.seq_wc ?_
      refine WC.then ?_
      refine WC.draw (Sat F ([(b_0, row [.int .i64 p0.window, .int .i64 p0.span, .int .i64 p0.room, .int .i64 p0.epoch, .int .i64 p0.now, .int .i64 p0.next, .int .i64 p0.acked, .int .i64 p0.sent, .slice a_0_8 p0.out.length c_0_8, .int .i64 p0.got, .map (some bm_0_10), .bool p0.owes] 74)] :: Φ)) (fun _ h => (h.arrange 0 3 [] [0] (by decide))) [(0, true), (1, true), (2, true), (3, true), (4, true), (5, true), (6, true), (7, true), (8, true), (9, true), (10, true), (11, true), (12, false), (13, true), (14, true), (15, true), (16, true), (17, true)] mixed (by kernel_rfl) rfl (by kernel_rfl) ?_
      refine WO.move rfl rfl rfl rfl ?_
      refine WO.nilCheck rfl rfl rfl rfl ?_
      refine WO.fieldAddr 0 rfl rfl rfl rfl fl_74_0 ?_
      refine WO.loadY 0 rfl rfl rfl rfl sc_3 rfl rfl ?_
      refine WO.move rfl rfl rfl rfl ?_
      refine WO.nilCheck rfl rfl rfl rfl ?_
      refine WO.fieldAddr 1 rfl rfl rfl rfl fl_74_1 ?_
      refine WO.loadY 0 rfl rfl rfl rfl sc_3 rfl rfl ?_
      refine WO.move rfl rfl rfl rfl ?_
      refine WO.nilCheck rfl rfl rfl rfl ?_
      refine WO.fieldAddr 2 rfl rfl rfl rfl fl_74_2 ?_
      refine WO.loadY 0 rfl rfl rfl rfl sc_3 rfl rfl ?_
      obtain ⟨x5, hx6, hr⟩ := bind_some' hr
      refine WO.call rfl rfl rfl rfl rfl cl_6 (link_New_ok (F := F) hx6 ([(b_0, row [.int .i64 p0.window, .int .i64 p0.span, .int .i64 p0.room, .int .i64 p0.epoch, .int .i64 p0.now, .int .i64 p0.next, .int .i64 p0.acked, .int .i64 p0.sent, .slice a_0_8 p0.out.length c_0_8, .int .i64 p0.got, .map (some bm_0_10), .bool p0.owes] 74)] :: ψ_0_8 :: ψ_0_10 :: Φ)) ?_
      rintro _ _ (⟨hn8, rfl, hs9⟩ | ⟨o7, b11, a12, c13, p15, b17, p18, hn10, rfl, hs22, h14, hm20⟩)
      · have hr := elim_none hn8 hr
        refine ⟨F, ([(b_0, row [.int .i64 p0.window, .int .i64 p0.span, .int .i64 p0.room, .int .i64 p0.epoch, .int .i64 p0.now, .int .i64 p0.next, .int .i64 p0.acked, .int .i64 p0.sent, .slice a_0_8 p0.out.length c_0_8, .int .i64 p0.got, .map (some bm_0_10), .bool p0.owes] 74)] :: ψ_0_8 :: ψ_0_10 :: Φ), hs9, (hs9.arrange 0 3 [] [0] (by decide)), ?_⟩
        refine WO.move rfl rfl rfl rfl ?_
        refine WO.extract rfl rfl rfl rfl rfl ?_
        refine WO.extract rfl rfl rfl rfl rfl ?_
        refine WO.assign rfl rfl rfl rfl ?_
        refine WO.assign rfl rfl rfl rfl ?_
        refine WO.done ?_
        refine At.seq_wc ?_
        refine WC.then ?_
        refine WC.region [(0, true), (1, true), (2, true), (3, true), (4, false)] rfl ?_
        refine WO.move rfl rfl rfl rfl ?_
        refine WO.move rfl rfl rfl rfl ?_
        cases hr
      · have hr := elim_some hn10 hr
        refine ⟨F, ([(b11, row [.int .i64 o7.window, .int .i64 o7.span, .int .i64 o7.room, .int .i64 o7.epoch, .int .i64 o7.now, .int .i64 o7.next, .int .i64 o7.acked, .int .i64 o7.sent, .slice a12 o7.out.length c13, .int .i64 o7.got, .map (some b17), .bool o7.owes] 74)] :: p15 :: p18 :: [(b_0, row [.int .i64 p0.window, .int .i64 p0.span, .int .i64 p0.room, .int .i64 p0.epoch, .int .i64 p0.now, .int .i64 p0.next, .int .i64 p0.acked, .int .i64 p0.sent, .slice a_0_8 p0.out.length c_0_8, .int .i64 p0.got, .map (some bm_0_10), .bool p0.owes] 74)] :: ψ_0_8 :: ψ_0_10 :: Φ), hs22, (hs22.arrange 0 6 [] [3] (by decide)), ?_⟩
        refine WO.move rfl rfl rfl rfl ?_
        refine WO.extract rfl rfl rfl rfl rfl ?_
        refine WO.extract rfl rfl rfl rfl rfl ?_
        refine WO.assign rfl rfl rfl rfl ?_
        refine WO.assign rfl rfl rfl rfl ?_
        refine WO.done ?_
        refine At.seq_wc ?_
        refine WC.then ?_
        refine WC.region [(0, true), (1, true), (2, true), (3, true), (4, false)] rfl ?_
        refine WO.move rfl rfl rfl rfl ?_
        refine WO.move rfl rfl rfl rfl ?_
        refine WO.nilCheck rfl rfl rfl rfl ?_
        refine WO.fieldAddr 3 rfl rfl rfl rfl fl_74_3 ?_
        refine WO.store 0 rfl rfl rfl rfl sz_3 rfl rfl rfl (fun _ _ => trivial) ?_
        refine WO.done ?_
        refine At.seq_wc ?_
        refine WC.then ?_
        refine WC.region [(0, true), (1, true), (2, true), (3, false), (4, true), (5, false)] rfl ?_
        refine WO.move rfl rfl rfl rfl ?_
        refine WO.move rfl rfl rfl rfl ?_
        refine WO.nilCheck rfl rfl rfl rfl ?_
        refine WO.loadA 0 12 rfl rfl rfl rfl ag_74 rfl rfl rfl ?_
        refine WO.nilCheck rfl rfl rfl rfl ?_
        refine WO.storeA 3 12 rfl rfl rfl rfl sz_74 rfl rfl rfl rfl (fun _ _ => trivial) ?_
        refine WO.done ?_
        refine At.seq_wc ?_
        refine WC.then ?_
        refine WC.region [(0, true)] rfl ?_
        refine WO.assign rfl rfl rfl rfl ?_
        refine WO.done ?_
        refine At.seq_wc ?_
        refine WC.ret ?_
        obtain rfl := Option.some.inj hr
        exact At.ret (fun a w hc hs => (resVs_cons (hc.res rfl) resVs_nil)) (fun w hs => ⟨_, _, _, _, _, rfl, (hs.arrange 0 6 [] [3, 1, 2] (by decide)), h14, hm20⟩)
/-! (*peloton/pelotonref16.Link).Reset -/
def ref16_Link_Reset_vvvvvvvvoov_k1 (p0 : S_ref16_Link) (v2 : Int) (v3 : Bool) : Option (Int × S_ref16_Link) := cond v3 (some (160, p0)) (some (0, (⟨p0.Window, p0.Span, p0.Room, v2, 0, 0, 0, 0, ([] : List S_ref16_Body), ([] : List S_ref16_Early), false⟩ : S_ref16_Link)))
def ref16_Link_Reset_vvvvvvvvoov (p0 : S_ref16_Link) (p1 : Int) : Option (Int × S_ref16_Link) := cond (decide (p1 ≤ p0.Epoch)) (ref16_Link_Reset_vvvvvvvvoov_k1 p0 p1 true) (ref16_Link_Reset_vvvvvvvvoov_k1 p0 p1 (decide (p1 ≥ 1099511627776)))
theorem ref16_Link_Reset_vvvvvvvvoov_ok {F : Mem} {p0 : S_ref16_Link} {p1 : Int} {b_0 : Nat} {a_0_8 : Option Addr} {c_0_8 : Nat} {ψ_0_8 : List Chunk} (ho_0_8 : OwnL 3 R_ref16_Body F 81 a_0_8 c_0_8 p0.Out ψ_0_8) {a_0_9 : Option Addr} {c_0_9 : Nat} {ψ_0_9 : List Chunk} (ho_0_9 : OwnL 2 R_ref16_Early F 88 a_0_9 c_0_9 p0.Early ψ_0_9) {r : Int × S_ref16_Link} (hr : ref16_Link_Reset_vvvvvvvvoov p0 p1 = some r) (Φ : List (List Chunk)) :
    CallsRet Try.prog 22 (List.toArray [.pointer (some ⟨b_0, 0, none⟩), .int .i64 p1]) F ([(b_0, row [.int .i64 p0.Window, .int .i64 p0.Span, .int .i64 p0.Room, .int .i64 p0.Epoch, .int .i64 p0.Next, .int .i64 p0.Acked, .int .i64 p0.Sent, .int .i64 p0.Got, .slice a_0_8 p0.Out.length c_0_8, .slice a_0_9 p0.Early.length c_0_9, .bool p0.Owes] 54)] :: ψ_0_8 :: ψ_0_9 :: Φ) (fun v w => ∃ a0_8 c0_8 ψ0_8 a0_9 c0_9 ψ0_9, v = .int .i64 r.1 ∧ Sat F ([(b_0, row [.int .i64 r.2.Window, .int .i64 r.2.Span, .int .i64 r.2.Room, .int .i64 r.2.Epoch, .int .i64 r.2.Next, .int .i64 r.2.Acked, .int .i64 r.2.Sent, .int .i64 r.2.Got, .slice a0_8 r.2.Out.length c0_8, .slice a0_9 r.2.Early.length c0_9, .bool r.2.Owes] 54)] :: ψ0_8 :: ψ0_9 :: Φ) w ∧ OwnL 3 R_ref16_Body F 81 a0_8 c0_8 r.2.Out ψ0_8 ∧ OwnL 2 R_ref16_Early F 88 a0_9 c0_9 r.2.Early ψ0_9) := by
  refine CallsRet.enter (rs := [.tmp 4]) Try.func22 rfl rfl rfl rfl ?_
  unfold ref16_Link_Reset_vvvvvvvvoov at hr
  refine WC.then ?_
  refine WC.region [(0, true)] rfl ?_
  refine WO.assign rfl rfl rfl rfl ?_
  refine WO.done ?_
  refine At.seq_wc ?_
  refine WC.then ?_
  refine WC.seq (fun a w => ∃ (v2 : Int) (v3 : Bool), ref16_Link_Reset_vvvvvvvvoov_k1 p0 v2 v3 = some r ∧ Ctx 31 [(0, .pointer (some ⟨b_0, 0, none⟩)), (1, .int .i64 v2), (14, .bool v3)] a ∧ Sat F ([(b_0, row [.int .i64 p0.Window, .int .i64 p0.Span, .int .i64 p0.Room, .int .i64 p0.Epoch, .int .i64 p0.Next, .int .i64 p0.Acked, .int .i64 p0.Sent, .int .i64 p0.Got, .slice a_0_8 p0.Out.length c_0_8, .slice a_0_9 p0.Early.length c_0_9, .bool p0.Owes] 54)] :: ψ_0_8 :: ψ_0_9 :: Φ) w) ?_ ?_
  · refine WC.region [(0, true), (1, true), (2, true), (3, true), (4, false), (5, true), (6, true), (7, true), (8, true), (9, true)] rfl ?_
    refine WO.move rfl rfl rfl rfl ?_
    refine WO.move rfl rfl rfl rfl ?_
    refine WO.nilCheck rfl rfl rfl rfl ?_
    refine WO.fieldAddr 3 rfl rfl rfl rfl fl_54_3 ?_
    refine WO.load 0 rfl rfl rfl rfl sc_3 rfl rfl ?_
    refine WO.bin rfl rfl rfl rfl rfl rfl ?_
    refine WO.move rfl rfl rfl rfl ?_
    refine WO.split (t := 11) rfl (fun hg9 => ?_) (fun hg9 => ?_)
    · have hr := cond_t hg9 hr
      refine WO.skip rfl rfl rfl rfl ?_
      refine WO.skip rfl rfl rfl rfl ?_
      refine WO.pickT rfl rfl rfl rfl rfl ?_
      refine WO.done ?_
      refine At.seq_at ?_
      exact fun a w hc hs => ⟨p1, true, hr, (hc.keep (hc.keep (hc.keep hc.nil (t := 14) rfl) (t := 1) rfl) (t := 0) rfl), hs⟩
    · have hr := cond_f hg9 hr
      refine WO.move rfl rfl rfl rfl ?_
      refine WO.bin rfl rfl rfl rfl rfl rfl ?_
      refine WO.pickF rfl rfl rfl rfl rfl ?_
      refine WO.done ?_
      refine At.seq_at ?_
      exact fun a w hc hs => ⟨p1, (decide (p1 ≥ 1099511627776)), hr, (hc.keep (hc.keep (hc.keep hc.nil (t := 14) rfl) (t := 1) rfl) (t := 0) rfl), hs⟩
  · rintro a w ⟨v2, v3, hr, hc, hs⟩
    refine WC.use hc hs ?_
    clear hc hs
    unfold ref16_Link_Reset_vvvvvvvvoov_k1 at hr
    refine WC.cond rfl (fun hb4 => ?_) (fun hb4 => ?_)
    · have hr := cond_t hb4 hr
      refine WC.then ?_
      refine WC.region [(0, true)] rfl ?_
      refine WO.assign rfl rfl rfl rfl ?_
      refine WO.done ?_
      refine At.seq_wc ?_
      refine WC.ret ?_
      refine At.seq_ret ?_
      obtain rfl := Option.some.inj hr
      exact At.ret (fun a w hc hs => (resVs_cons (hc.res rfl) resVs_nil)) (fun w hs => ⟨_, _, _, _, _, _, rfl, hs, ho_0_8, ho_0_9⟩)
    · have hr := cond_f hb4 hr
      refine WC.skip ?_
      refine At.seq_wc ?_
      refine WC.then ?_
      refine WC.drawA (Sat F (Φ)) (fun _ h => (h.arrange 0 3 [] [] (by decide))) mixed rfl ?_
      refine WA.lin (fuel := 6) [(0, true), (1, true), (2, true), (3, true), (5, true), (6, true), (7, true), (9, true), (10, true), (11, true), (13, true)] (by kernel_rfl) (by kernel_rfl) ?_
      refine WO.move rfl rfl rfl rfl ?_
      refine WO.move rfl rfl rfl rfl ?_
      refine WO.nilCheck rfl rfl rfl rfl ?_
      refine WO.fieldAddr 0 rfl rfl rfl rfl fl_54_0 ?_
      refine WO.move rfl rfl rfl rfl ?_
      refine WO.nilCheck rfl rfl rfl rfl ?_
      refine WO.fieldAddr 1 rfl rfl rfl rfl fl_54_1 ?_
      refine WO.move rfl rfl rfl rfl ?_
      refine WO.nilCheck rfl rfl rfl rfl ?_
      refine WO.fieldAddr 2 rfl rfl rfl rfl fl_54_2 ?_
      refine WO.move rfl rfl rfl rfl ?_
      refine WO.done ?_
      refine WA.of ?_
      refine WA.three (fuel := 5) 4 8 12 (by kernel_rfl) ?_ ?_ ?_
      · refine WO.load 0 rfl rfl rfl rfl sc_3 rfl rfl ?_
        refine WO.done ?_
        refine WA.of ?_
        refine WA.two (fuel := 4) 8 12 (by kernel_rfl) ?_ ?_
        · refine WO.load 0 rfl rfl rfl rfl sc_3 rfl rfl ?_
          refine WO.done ?_
          refine WA.of ?_
          refine WA.lin (fuel := 0) [(12, false), (14, true), (15, true), (16, false)] (by kernel_rfl) (by kernel_rfl) ?_
          refine WO.load 0 rfl rfl rfl rfl sc_3 rfl rfl ?_
          refine WO.build (vs := [.tmp 19, .tmp 23, .tmp 27, .tmp 28]) [0, 1, 2, 3] (.agg (List.toArray [.int .i64 p0.Window, .int .i64 p0.Span, .int .i64 p0.Room, .int .i64 v2, .int .i64 0, .int .i64 0, .int .i64 0, .int .i64 0, .slice none 0 0, .slice none 0 0, .bool false])) rfl rfl rfl rfl rfl (fun _ => by kernel_rfl) ?_
          refine WO.nilCheck rfl rfl rfl rfl ?_
          refine WO.storeA 0 11 rfl rfl rfl rfl sz_54 rfl rfl rfl rfl (fun _ h => (h.arrange 0 3 [] [] (by decide))) ?_
          refine WO.done ?_
          refine WA.of ?_
          refine WA.done (by kernel_rfl) ?_
          refine At.seq_wc ?_
          refine WC.then ?_
          refine WC.region [(0, true)] rfl ?_
          refine WO.assign rfl rfl rfl rfl ?_
          refine WO.done ?_
          refine At.seq_wc ?_
          refine WC.ret ?_
          refine At.empty ?_
          have ho6 : OwnL 3 R_ref16_Body F 81 none 0 ([] : List S_ref16_Body) [] := OwnL.nil
          refine At.empty ?_
          have ho8 : OwnL 2 R_ref16_Early F 88 none 0 ([] : List S_ref16_Early) [] := OwnL.nil
          obtain rfl := Option.some.inj hr
          exact At.ret (fun a w hc hs => (resVs_cons (hc.res rfl) resVs_nil)) (fun w hs => ⟨_, _, _, _, _, _, rfl, (hs.arrange 0 5 [] [2, 1, 0] (by decide)), ho6, ho8⟩)
        · refine WO.load 0 rfl rfl rfl rfl sc_3 rfl rfl ?_
          refine WO.done ?_
          refine WA.of ?_
          refine WA.lin (fuel := 0) [(8, false), (14, true), (15, true), (16, false)] (by kernel_rfl) (by kernel_rfl) ?_
          refine WO.load 0 rfl rfl rfl rfl sc_3 rfl rfl ?_
          refine WO.build (vs := [.tmp 19, .tmp 23, .tmp 27, .tmp 28]) [0, 1, 2, 3] (.agg (List.toArray [.int .i64 p0.Window, .int .i64 p0.Span, .int .i64 p0.Room, .int .i64 v2, .int .i64 0, .int .i64 0, .int .i64 0, .int .i64 0, .slice none 0 0, .slice none 0 0, .bool false])) rfl rfl rfl rfl rfl (fun _ => by kernel_rfl) ?_
          refine WO.nilCheck rfl rfl rfl rfl ?_
          refine WO.storeA 0 11 rfl rfl rfl rfl sz_54 rfl rfl rfl rfl (fun _ h => (h.arrange 0 3 [] [] (by decide))) ?_
          refine WO.done ?_
          refine WA.of ?_
          refine WA.done (by kernel_rfl) ?_
          refine At.seq_wc ?_
          refine WC.then ?_
          refine WC.region [(0, true)] rfl ?_
          refine WO.assign rfl rfl rfl rfl ?_
          refine WO.done ?_
          refine At.seq_wc ?_
          refine WC.ret ?_
          refine At.empty ?_
          have ho6 : OwnL 3 R_ref16_Body F 81 none 0 ([] : List S_ref16_Body) [] := OwnL.nil
          refine At.empty ?_
          have ho8 : OwnL 2 R_ref16_Early F 88 none 0 ([] : List S_ref16_Early) [] := OwnL.nil
          obtain rfl := Option.some.inj hr
          exact At.ret (fun a w hc hs => (resVs_cons (hc.res rfl) resVs_nil)) (fun w hs => ⟨_, _, _, _, _, _, rfl, (hs.arrange 0 5 [] [2, 1, 0] (by decide)), ho6, ho8⟩)
      · refine WO.load 0 rfl rfl rfl rfl sc_3 rfl rfl ?_
        refine WO.done ?_
        refine WA.of ?_
        refine WA.two (fuel := 4) 4 12 (by kernel_rfl) ?_ ?_
        · refine WO.load 0 rfl rfl rfl rfl sc_3 rfl rfl ?_
          refine WO.done ?_
          refine WA.of ?_
          refine WA.lin (fuel := 0) [(12, false), (14, true), (15, true), (16, false)] (by kernel_rfl) (by kernel_rfl) ?_
          refine WO.load 0 rfl rfl rfl rfl sc_3 rfl rfl ?_
          refine WO.build (vs := [.tmp 19, .tmp 23, .tmp 27, .tmp 28]) [0, 1, 2, 3] (.agg (List.toArray [.int .i64 p0.Window, .int .i64 p0.Span, .int .i64 p0.Room, .int .i64 v2, .int .i64 0, .int .i64 0, .int .i64 0, .int .i64 0, .slice none 0 0, .slice none 0 0, .bool false])) rfl rfl rfl rfl rfl (fun _ => by kernel_rfl) ?_
          refine WO.nilCheck rfl rfl rfl rfl ?_
          refine WO.storeA 0 11 rfl rfl rfl rfl sz_54 rfl rfl rfl rfl (fun _ h => (h.arrange 0 3 [] [] (by decide))) ?_
          refine WO.done ?_
          refine WA.of ?_
          refine WA.done (by kernel_rfl) ?_
          refine At.seq_wc ?_
          refine WC.then ?_
          refine WC.region [(0, true)] rfl ?_
          refine WO.assign rfl rfl rfl rfl ?_
          refine WO.done ?_
          refine At.seq_wc ?_
          refine WC.ret ?_
          refine At.empty ?_
          have ho6 : OwnL 3 R_ref16_Body F 81 none 0 ([] : List S_ref16_Body) [] := OwnL.nil
          refine At.empty ?_
          have ho8 : OwnL 2 R_ref16_Early F 88 none 0 ([] : List S_ref16_Early) [] := OwnL.nil
          obtain rfl := Option.some.inj hr
          exact At.ret (fun a w hc hs => (resVs_cons (hc.res rfl) resVs_nil)) (fun w hs => ⟨_, _, _, _, _, _, rfl, (hs.arrange 0 5 [] [2, 1, 0] (by decide)), ho6, ho8⟩)
        · refine WO.load 0 rfl rfl rfl rfl sc_3 rfl rfl ?_
          refine WO.done ?_
          refine WA.of ?_
          refine WA.lin (fuel := 0) [(4, false), (14, true), (15, true), (16, false)] (by kernel_rfl) (by kernel_rfl) ?_
          refine WO.load 0 rfl rfl rfl rfl sc_3 rfl rfl ?_
          refine WO.build (vs := [.tmp 19, .tmp 23, .tmp 27, .tmp 28]) [0, 1, 2, 3] (.agg (List.toArray [.int .i64 p0.Window, .int .i64 p0.Span, .int .i64 p0.Room, .int .i64 v2, .int .i64 0, .int .i64 0, .int .i64 0, .int .i64 0, .slice none 0 0, .slice none 0 0, .bool false])) rfl rfl rfl rfl rfl (fun _ => by kernel_rfl) ?_
          refine WO.nilCheck rfl rfl rfl rfl ?_
          refine WO.storeA 0 11 rfl rfl rfl rfl sz_54 rfl rfl rfl rfl (fun _ h => (h.arrange 0 3 [] [] (by decide))) ?_
          refine WO.done ?_
          refine WA.of ?_
          refine WA.done (by kernel_rfl) ?_
          refine At.seq_wc ?_
          refine WC.then ?_
          refine WC.region [(0, true)] rfl ?_
          refine WO.assign rfl rfl rfl rfl ?_
          refine WO.done ?_
          refine At.seq_wc ?_
          refine WC.ret ?_
          refine At.empty ?_
          have ho6 : OwnL 3 R_ref16_Body F 81 none 0 ([] : List S_ref16_Body) [] := OwnL.nil
          refine At.empty ?_
          have ho8 : OwnL 2 R_ref16_Early F 88 none 0 ([] : List S_ref16_Early) [] := OwnL.nil
          obtain rfl := Option.some.inj hr
          exact At.ret (fun a w hc hs => (resVs_cons (hc.res rfl) resVs_nil)) (fun w hs => ⟨_, _, _, _, _, _, rfl, (hs.arrange 0 5 [] [2, 1, 0] (by decide)), ho6, ho8⟩)
      · refine WO.load 0 rfl rfl rfl rfl sc_3 rfl rfl ?_
        refine WO.done ?_
        refine WA.of ?_
        refine WA.two (fuel := 4) 4 8 (by kernel_rfl) ?_ ?_
        · refine WO.load 0 rfl rfl rfl rfl sc_3 rfl rfl ?_
          refine WO.done ?_
          refine WA.of ?_
          refine WA.lin (fuel := 0) [(8, false), (14, true), (15, true), (16, false)] (by kernel_rfl) (by kernel_rfl) ?_
          refine WO.load 0 rfl rfl rfl rfl sc_3 rfl rfl ?_
          refine WO.build (vs := [.tmp 19, .tmp 23, .tmp 27, .tmp 28]) [0, 1, 2, 3] (.agg (List.toArray [.int .i64 p0.Window, .int .i64 p0.Span, .int .i64 p0.Room, .int .i64 v2, .int .i64 0, .int .i64 0, .int .i64 0, .int .i64 0, .slice none 0 0, .slice none 0 0, .bool false])) rfl rfl rfl rfl rfl (fun _ => by kernel_rfl) ?_
          refine WO.nilCheck rfl rfl rfl rfl ?_
          refine WO.storeA 0 11 rfl rfl rfl rfl sz_54 rfl rfl rfl rfl (fun _ h => (h.arrange 0 3 [] [] (by decide))) ?_
          refine WO.done ?_
          refine WA.of ?_
          refine WA.done (by kernel_rfl) ?_
          refine At.seq_wc ?_
          refine WC.then ?_
          refine WC.region [(0, true)] rfl ?_
          refine WO.assign rfl rfl rfl rfl ?_
          refine WO.done ?_
          refine At.seq_wc ?_
          refine WC.ret ?_
          refine At.empty ?_
          have ho6 : OwnL 3 R_ref16_Body F 81 none 0 ([] : List S_ref16_Body) [] := OwnL.nil
          refine At.empty ?_
          have ho8 : OwnL 2 R_ref16_Early F 88 none 0 ([] : List S_ref16_Early) [] := OwnL.nil
          obtain rfl := Option.some.inj hr
          exact At.ret (fun a w hc hs => (resVs_cons (hc.res rfl) resVs_nil)) (fun w hs => ⟨_, _, _, _, _, _, rfl, (hs.arrange 0 5 [] [2, 1, 0] (by decide)), ho6, ho8⟩)
        · refine WO.load 0 rfl rfl rfl rfl sc_3 rfl rfl ?_
          refine WO.done ?_
          refine WA.of ?_
          refine WA.lin (fuel := 0) [(4, false), (14, true), (15, true), (16, false)] (by kernel_rfl) (by kernel_rfl) ?_
          refine WO.load 0 rfl rfl rfl rfl sc_3 rfl rfl ?_
          refine WO.build (vs := [.tmp 19, .tmp 23, .tmp 27, .tmp 28]) [0, 1, 2, 3] (.agg (List.toArray [.int .i64 p0.Window, .int .i64 p0.Span, .int .i64 p0.Room, .int .i64 v2, .int .i64 0, .int .i64 0, .int .i64 0, .int .i64 0, .slice none 0 0, .slice none 0 0, .bool false])) rfl rfl rfl rfl rfl (fun _ => by kernel_rfl) ?_
          refine WO.nilCheck rfl rfl rfl rfl ?_
          refine WO.storeA 0 11 rfl rfl rfl rfl sz_54 rfl rfl rfl rfl (fun _ h => (h.arrange 0 3 [] [] (by decide))) ?_
          refine WO.done ?_
          refine WA.of ?_
          refine WA.done (by kernel_rfl) ?_
          refine At.seq_wc ?_
          refine WC.then ?_
          refine WC.region [(0, true)] rfl ?_
          refine WO.assign rfl rfl rfl rfl ?_
          refine WO.done ?_
          refine At.seq_wc ?_
          refine WC.ret ?_
          refine At.empty ?_
          have ho6 : OwnL 3 R_ref16_Body F 81 none 0 ([] : List S_ref16_Body) [] := OwnL.nil
          refine At.empty ?_
          have ho8 : OwnL 2 R_ref16_Early F 88 none 0 ([] : List S_ref16_Early) [] := OwnL.nil
          obtain rfl := Option.some.inj hr
          exact At.ret (fun a w hc hs => (resVs_cons (hc.res rfl) resVs_nil)) (fun w hs => ⟨_, _, _, _, _, _, rfl, (hs.arrange 0 5 [] [2, 1, 0] (by decide)), ho6, ho8⟩)
/-! (*peloton/link.Link).Left -/
def link_Link_Left_vvvvvvvvovmv (p0 : S_link_Link) : Option Int := some (p0.out.length : Int)
theorem link_Link_Left_vvvvvvvvovmv_ok {F : Mem} {p0 : S_link_Link} {b_0 : Nat} {a_0_8 : Option Addr} {c_0_8 : Nat} {ψ_0_8 : List Chunk} (ho_0_8 : OwnL 3 R_link_body F 79 a_0_8 c_0_8 p0.out ψ_0_8) {bm_0_10 : Nat} {ψ_0_10 : List Chunk} (hm_0_10 : OwnM (fun x : Int => Value.int .i64 x) (RV1 (RSl 1 (RInt .u8))) F bm_0_10 p0.early ψ_0_10) {r : Int} (hr : link_Link_Left_vvvvvvvvovmv p0 = some r) (Φ : List (List Chunk)) :
    CallsRet Try.prog 8 (List.toArray [.pointer (some ⟨b_0, 0, none⟩)]) F ([(b_0, row [.int .i64 p0.window, .int .i64 p0.span, .int .i64 p0.room, .int .i64 p0.epoch, .int .i64 p0.now, .int .i64 p0.next, .int .i64 p0.acked, .int .i64 p0.sent, .slice a_0_8 p0.out.length c_0_8, .int .i64 p0.got, .map (some bm_0_10), .bool p0.owes] 74)] :: ψ_0_8 :: ψ_0_10 :: Φ) (fun v w => v = .int .i64 r ∧ Sat F ([(b_0, row [.int .i64 p0.window, .int .i64 p0.span, .int .i64 p0.room, .int .i64 p0.epoch, .int .i64 p0.now, .int .i64 p0.next, .int .i64 p0.acked, .int .i64 p0.sent, .slice a_0_8 p0.out.length c_0_8, .int .i64 p0.got, .map (some bm_0_10), .bool p0.owes] 74)] :: ψ_0_8 :: ψ_0_10 :: Φ) w) := by
  refine CallsRet.enter (rs := [.tmp 2]) Try.func8 rfl rfl rfl rfl ?_
  unfold link_Link_Left_vvvvvvvvovmv at hr
  refine WC.then ?_
  refine WC.region [(0, true)] rfl ?_
  refine WO.assign rfl rfl rfl rfl ?_
  refine WO.done ?_
  refine At.seq_wc ?_
  refine WC.then ?_
  refine WC.region [(0, true), (1, true), (2, true), (3, false), (4, true), (5, true)] rfl ?_
  refine WO.move rfl rfl rfl rfl ?_
  refine WO.nilCheck rfl rfl rfl rfl ?_
  refine WO.fieldAddr 8 rfl rfl rfl rfl fl_74_8 ?_
  refine WO.load 0 rfl rfl rfl rfl sc_72 rfl rfl ?_
  refine WO.len rfl rfl rfl rfl Try.underlying72 ?_
  refine WO.assign rfl rfl rfl rfl ?_
  refine WO.done ?_
  refine At.seq_wc ?_
  refine WC.ret ?_
  obtain rfl := Option.some.inj hr
  exact At.ret (fun a w hc hs => (resVs_cons (hc.res rfl) resVs_nil)) (fun w hs => ⟨rfl, hs⟩)
/-! (*peloton/link.Link).Got -/
def link_Link_Got_vvvvvvvvovmv (p0 : S_link_Link) : Option Int := some p0.got
theorem link_Link_Got_vvvvvvvvovmv_ok {F : Mem} {p0 : S_link_Link} {b_0 : Nat} {a_0_8 : Option Addr} {c_0_8 : Nat} {ψ_0_8 : List Chunk} (ho_0_8 : OwnL 3 R_link_body F 79 a_0_8 c_0_8 p0.out ψ_0_8) {bm_0_10 : Nat} {ψ_0_10 : List Chunk} (hm_0_10 : OwnM (fun x : Int => Value.int .i64 x) (RV1 (RSl 1 (RInt .u8))) F bm_0_10 p0.early ψ_0_10) {r : Int} (hr : link_Link_Got_vvvvvvvvovmv p0 = some r) (Φ : List (List Chunk)) :
    CallsRet Try.prog 23 (List.toArray [.pointer (some ⟨b_0, 0, none⟩)]) F ([(b_0, row [.int .i64 p0.window, .int .i64 p0.span, .int .i64 p0.room, .int .i64 p0.epoch, .int .i64 p0.now, .int .i64 p0.next, .int .i64 p0.acked, .int .i64 p0.sent, .slice a_0_8 p0.out.length c_0_8, .int .i64 p0.got, .map (some bm_0_10), .bool p0.owes] 74)] :: ψ_0_8 :: ψ_0_10 :: Φ) (fun v w => v = .int .i64 r ∧ Sat F ([(b_0, row [.int .i64 p0.window, .int .i64 p0.span, .int .i64 p0.room, .int .i64 p0.epoch, .int .i64 p0.now, .int .i64 p0.next, .int .i64 p0.acked, .int .i64 p0.sent, .slice a_0_8 p0.out.length c_0_8, .int .i64 p0.got, .map (some bm_0_10), .bool p0.owes] 74)] :: ψ_0_8 :: ψ_0_10 :: Φ) w) := by
  refine CallsRet.enter (rs := [.tmp 2]) Try.func23 rfl rfl rfl rfl ?_
  unfold link_Link_Got_vvvvvvvvovmv at hr
  refine WC.then ?_
  refine WC.region [(0, true)] rfl ?_
  refine WO.assign rfl rfl rfl rfl ?_
  refine WO.done ?_
  refine At.seq_wc ?_
  refine WC.then ?_
  refine WC.region [(0, true), (1, true), (2, true), (3, false), (4, true)] rfl ?_
  refine WO.move rfl rfl rfl rfl ?_
  refine WO.nilCheck rfl rfl rfl rfl ?_
  refine WO.fieldAddr 9 rfl rfl rfl rfl fl_74_9 ?_
  refine WO.load 0 rfl rfl rfl rfl sc_3 rfl rfl ?_
  refine WO.assign rfl rfl rfl rfl ?_
  refine WO.done ?_
  refine At.seq_wc ?_
  refine WC.ret ?_
  obtain rfl := Option.some.inj hr
  exact At.ret (fun a w hc hs => (resVs_cons (hc.res rfl) resVs_nil)) (fun w hs => ⟨rfl, hs⟩)
/-! (*peloton/link.Link).Epoch -/
def link_Link_Epoch_vvvvvvvvovmv (p0 : S_link_Link) : Option Int := some p0.epoch
theorem link_Link_Epoch_vvvvvvvvovmv_ok {F : Mem} {p0 : S_link_Link} {b_0 : Nat} {a_0_8 : Option Addr} {c_0_8 : Nat} {ψ_0_8 : List Chunk} (ho_0_8 : OwnL 3 R_link_body F 79 a_0_8 c_0_8 p0.out ψ_0_8) {bm_0_10 : Nat} {ψ_0_10 : List Chunk} (hm_0_10 : OwnM (fun x : Int => Value.int .i64 x) (RV1 (RSl 1 (RInt .u8))) F bm_0_10 p0.early ψ_0_10) {r : Int} (hr : link_Link_Epoch_vvvvvvvvovmv p0 = some r) (Φ : List (List Chunk)) :
    CallsRet Try.prog 24 (List.toArray [.pointer (some ⟨b_0, 0, none⟩)]) F ([(b_0, row [.int .i64 p0.window, .int .i64 p0.span, .int .i64 p0.room, .int .i64 p0.epoch, .int .i64 p0.now, .int .i64 p0.next, .int .i64 p0.acked, .int .i64 p0.sent, .slice a_0_8 p0.out.length c_0_8, .int .i64 p0.got, .map (some bm_0_10), .bool p0.owes] 74)] :: ψ_0_8 :: ψ_0_10 :: Φ) (fun v w => v = .int .i64 r ∧ Sat F ([(b_0, row [.int .i64 p0.window, .int .i64 p0.span, .int .i64 p0.room, .int .i64 p0.epoch, .int .i64 p0.now, .int .i64 p0.next, .int .i64 p0.acked, .int .i64 p0.sent, .slice a_0_8 p0.out.length c_0_8, .int .i64 p0.got, .map (some bm_0_10), .bool p0.owes] 74)] :: ψ_0_8 :: ψ_0_10 :: Φ) w) := by
  refine CallsRet.enter (rs := [.tmp 2]) Try.func24 rfl rfl rfl rfl ?_
  unfold link_Link_Epoch_vvvvvvvvovmv at hr
  refine WC.then ?_
  refine WC.region [(0, true)] rfl ?_
  refine WO.assign rfl rfl rfl rfl ?_
  refine WO.done ?_
  refine At.seq_wc ?_
  refine WC.then ?_
  refine WC.region [(0, true), (1, true), (2, true), (3, false), (4, true)] rfl ?_
  refine WO.move rfl rfl rfl rfl ?_
  refine WO.nilCheck rfl rfl rfl rfl ?_
  refine WO.fieldAddr 3 rfl rfl rfl rfl fl_74_3 ?_
  refine WO.load 0 rfl rfl rfl rfl sc_3 rfl rfl ?_
  refine WO.assign rfl rfl rfl rfl ?_
  refine WO.done ?_
  refine At.seq_wc ?_
  refine WC.ret ?_
  obtain rfl := Option.some.inj hr
  exact At.ret (fun a w hc hs => (resVs_cons (hc.res rfl) resVs_nil)) (fun w hs => ⟨rfl, hs⟩)
end
end Go.Pel
