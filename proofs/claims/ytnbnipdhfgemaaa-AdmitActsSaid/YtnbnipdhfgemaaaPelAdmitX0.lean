/- Each function: its pure text, and that it comes to it. -/
import Derived.Test.YtnbnipdhfgemaaaPelArgs
import Derived.Test.YtnbnipdhfgemaaaProg
set_option linter.unusedVariables false
set_option maxHeartbeats 2000000
namespace Go.Pel
open Go.RowKit Go.Proofs
noncomputable section
structure S_api_Shape where
  Layers : Int
  Width : Int
  Heads : Int
  Inner : Int
  Vocab : Int
  Places : Int
def R_api_Shape : Mem → List Value → S_api_Shape → Prop := fun F cs x => cs = [.int .i64 x.Layers, .int .i64 x.Width, .int .i64 x.Heads, .int .i64 x.Inner, .int .i64 x.Vocab, .int .i64 x.Places]
theorem mono_api_Shape : Mono R_api_Shape := fun _ _ _ _ _ h => h
theorem const_api_Shape : Const R_api_Shape := fun _ _ _ _ h => h
structure S_api_Request where
  ID : Int
  Most : Int
  Prompt : List Int
def R_api_Request : Mem → List Value → S_api_Request → Prop := fun F cs x => ∃ a0 c0, cs = [.int .i64 x.ID, .int .i64 x.Most, .slice a0 x.Prompt.length c0] ∧ RdL 1 (RInt .i64) F a0 c0 x.Prompt
theorem mono_api_Request : Mono R_api_Request := fun _ _ _ _ hl ⟨a0, c0, e, h0⟩ => ⟨a0, c0, e, h0.mono (mono_int _) hl⟩
structure S_law21_Act where
  Kind : Int
  R : S_api_Request
def R_law21_Act : Mem → List Value → S_law21_Act → Prop := fun F cs x => ∃ a0 c0, cs = [.int .i64 x.Kind, .int .i64 x.R.ID, .int .i64 x.R.Most, .slice a0 x.R.Prompt.length c0] ∧ RdL 1 (RInt .i64) F a0 c0 x.R.Prompt
theorem mono_law21_Act : Mono R_law21_Act := fun _ _ _ _ hl ⟨a0, c0, e, h0⟩ => ⟨a0, c0, e, h0.mono (mono_int _) hl⟩
structure S_admit_Desk where
  s : S_api_Shape
  room : Int
  row : List S_api_Request
  took : List (Int × Bool)
structure S_ref21_Desk where
  S : S_api_Shape
  Room : Int
  L : List S_api_Request
  Ids : List Int
def R_ref21_Desk : Mem → List Value → S_ref21_Desk → Prop := fun F cs x => ∃ a0 c0 a1 c1, cs = [.int .i64 x.S.Layers, .int .i64 x.S.Width, .int .i64 x.S.Heads, .int .i64 x.S.Inner, .int .i64 x.S.Vocab, .int .i64 x.S.Places, .int .i64 x.Room, .slice a0 x.L.length c0, .slice a1 x.Ids.length c1] ∧ RdL 3 R_api_Request F a0 c0 x.L ∧ RdL 1 (RInt .i64) F a1 c1 x.Ids
theorem mono_ref21_Desk : Mono R_ref21_Desk := fun _ _ _ _ hl ⟨a0, c0, a1, c1, e, h0, h1⟩ => ⟨a0, c0, a1, c1, e, h0.mono mono_api_Request hl, h1.mono (mono_int _) hl⟩
theorem zb_23 : zeroB Try.prog 23 (.agg #[.int .i64 0, .int .i64 0, .int .i64 0, .int .i64 0, .int .i64 0, .int .i64 0]) := by unfold zeroB; kernel_rfl
theorem sz_23 : sizeB Try.prog 23 6 = true := by kernel_rfl
theorem ag_23 : aggB Try.prog 23 6 = true := by kernel_rfl
theorem cl_19 : callable Try.prog 19 = true := by kernel_rfl
theorem fl_23_0 : fieldB Try.prog 23 0 0 = true := by kernel_rfl
theorem sc_3 : scalarB Try.prog 3 = true := by kernel_rfl
theorem cl_31 : callable Try.prog 31 = true := by kernel_rfl
theorem fl_23_2 : fieldB Try.prog 23 2 2 = true := by kernel_rfl
theorem fl_23_1 : fieldB Try.prog 23 1 1 = true := by kernel_rfl
theorem fl_23_3 : fieldB Try.prog 23 3 3 = true := by kernel_rfl
theorem fl_23_4 : fieldB Try.prog 23 4 4 = true := by kernel_rfl
theorem fl_23_5 : fieldB Try.prog 23 5 5 = true := by kernel_rfl
theorem cl_21 : callable Try.prog 21 = true := by kernel_rfl
theorem cl_5 : callable Try.prog 5 = true := by kernel_rfl
theorem zb_37 : zeroB Try.prog 37 (.agg #[.int .i64 0, .int .i64 0, .slice none 0 0]) := by unfold zeroB; kernel_rfl
theorem sz_37 : sizeB Try.prog 37 3 = true := by kernel_rfl
theorem ag_37 : aggB Try.prog 37 3 = true := by kernel_rfl
theorem cl_20 : callable Try.prog 20 = true := by kernel_rfl
theorem fl_37_0 : fieldB Try.prog 37 0 0 = true := by kernel_rfl
theorem mixed : Try.prog.follows .mixedOrders = true := by kernel_rfl
theorem fl_57_3 : fieldB Try.prog 57 3 8 = true := by kernel_rfl
theorem sc_55 : scalarB Try.prog 55 = true := by kernel_rfl
theorem key_3 : KeyB Try.prog 3 (fun x : Int => Value.int .i64 x) := key_int Try.underlying3
theorem zb_4 : zeroB Try.prog 4 (.bool false) := by unfold zeroB; kernel_rfl
theorem fl_57_0 : fieldB Try.prog 57 0 0 = true := by kernel_rfl
theorem fl_37_2 : fieldB Try.prog 37 2 2 = true := by kernel_rfl
theorem sc_33 : scalarB Try.prog 33 = true := by kernel_rfl
theorem fl_37_1 : fieldB Try.prog 37 1 1 = true := by kernel_rfl
theorem sz_3 : sizeB Try.prog 3 1 = true := by kernel_rfl
theorem cl_34 : callable Try.prog 34 = true := by kernel_rfl
theorem cl_36 : callable Try.prog 36 = true := by kernel_rfl
theorem cl_35 : callable Try.prog 35 = true := by kernel_rfl
theorem cl_29 : callable Try.prog 29 = true := by kernel_rfl
theorem fl_57_2 : fieldB Try.prog 57 2 7 = true := by kernel_rfl
theorem sc_32 : scalarB Try.prog 32 = true := by kernel_rfl
theorem fl_57_1 : fieldB Try.prog 57 1 6 = true := by kernel_rfl
theorem cl_14 : callable Try.prog 14 = true := by kernel_rfl
theorem el_3 : elemB Try.prog 3 1 8 = true := by kernel_rfl
theorem cl_22 : callable Try.prog 22 = true := by kernel_rfl
theorem sz_33 : sizeB Try.prog 33 1 = true := by kernel_rfl
theorem el_37 : elemB Try.prog 37 3 40 = true := by kernel_rfl
theorem sz_32 : sizeB Try.prog 32 1 = true := by kernel_rfl
theorem cl_23 : callable Try.prog 23 = true := by kernel_rfl
theorem el_27 : elemB Try.prog 27 1 8 = true := by kernel_rfl
theorem cl_7 : callable Try.prog 7 = true := by kernel_rfl
theorem cl_24 : callable Try.prog 24 = true := by kernel_rfl
theorem cl_9 : callable Try.prog 9 = true := by kernel_rfl
theorem sz_27 : sizeB Try.prog 27 1 = true := by kernel_rfl
theorem sc_27 : scalarB Try.prog 27 = true := by kernel_rfl
theorem cl_4 : callable Try.prog 4 = true := by kernel_rfl
theorem cl_6 : callable Try.prog 6 = true := by kernel_rfl
theorem sz_39 : sizeB Try.prog 39 4 = true := by kernel_rfl
theorem ag_39 : aggB Try.prog 39 4 = true := by kernel_rfl
theorem zb_39 : zeroB Try.prog 39 (.agg #[.int .i64 0, .int .i64 0, .int .i64 0, .slice none 0 0]) := by unfold zeroB; kernel_rfl
theorem fl_39_1 : fieldB Try.prog 39 1 1 = true := by kernel_rfl
theorem fl_39_0 : fieldB Try.prog 39 0 0 = true := by kernel_rfl
theorem fl_35_3 : fieldB Try.prog 35 3 8 = true := by kernel_rfl
theorem cl_18 : callable Try.prog 18 = true := by kernel_rfl
theorem fl_35_0 : fieldB Try.prog 35 0 0 = true := by kernel_rfl
theorem cl_30 : callable Try.prog 30 = true := by kernel_rfl
theorem fl_35_2 : fieldB Try.prog 35 2 7 = true := by kernel_rfl
theorem fl_35_1 : fieldB Try.prog 35 1 6 = true := by kernel_rfl
theorem cl_15 : callable Try.prog 15 = true := by kernel_rfl
theorem cl_8 : callable Try.prog 8 = true := by kernel_rfl
theorem cl_10 : callable Try.prog 10 = true := by kernel_rfl
theorem cl_25 : callable Try.prog 25 = true := by kernel_rfl
theorem cl_11 : callable Try.prog 11 = true := by kernel_rfl
theorem cl_33 : callable Try.prog 33 = true := by kernel_rfl
theorem cl_28 : callable Try.prog 28 = true := by kernel_rfl
theorem cl_27 : callable Try.prog 27 = true := by kernel_rfl
theorem cl_32 : callable Try.prog 32 = true := by kernel_rfl
theorem cl_26 : callable Try.prog 26 = true := by kernel_rfl
theorem cl_12 : callable Try.prog 12 = true := by kernel_rfl
theorem cl_13 : callable Try.prog 13 = true := by kernel_rfl
theorem cl_16 : callable Try.prog 16 = true := by kernel_rfl
theorem cl_17 : callable Try.prog 17 = true := by kernel_rfl
/-! peloton/pelotonlaw21.shape -/
def law21_shape  : Option S_api_Shape := some (⟨1, 4, 2, 3, 5, 8⟩ : S_api_Shape)
theorem law21_shape_ok {F : Mem}  {r : S_api_Shape} (hr : law21_shape  = some r) (Φ : List (List Chunk)) :
    CallsRet Try.prog 19 (List.toArray []) F Φ (fun v w => ∃ cs0, v = .agg (List.toArray cs0) ∧ Sat F (Φ) w ∧ R_api_Shape F cs0 r) := by
  refine CallsRet.enter (rs := [.cell 0 23]) Try.func19 rfl rfl rfl rfl ?_
  unfold law21_shape at hr
  refine WC.then ?_
  refine WC.region [(0, false)] rfl ?_
  refine WO.alloc (.agg #[.int .i64 0, .int .i64 0, .int .i64 0, .int .i64 0, .int .i64 0, .int .i64 0]) rfl rfl rfl zb_23 rfl (fun _ _ _ => trivial) (fun b1 => ?_)
  refine WO.done ?_
  refine At.seq_wc ?_
  refine WC.then ?_
  refine WC.region [(0, true), (1, false)] rfl ?_
  refine WO.build (vs := [.const (.int .i64 1), .const (.int .i64 4), .const (.int .i64 2), .const (.int .i64 3), .const (.int .i64 5), .const (.int .i64 8)]) [0, 1, 2, 3, 4, 5] (.agg (List.toArray [.int .i64 1, .int .i64 4, .int .i64 2, .int .i64 3, .int .i64 5, .int .i64 8])) rfl rfl rfl rfl rfl (fun _ => by kernel_rfl) ?_
  refine WO.storeA 0 6 rfl rfl rfl rfl sz_23 rfl rfl rfl rfl (fun _ _ => trivial) ?_
  refine WO.done ?_
  refine At.seq_wc ?_
  refine WC.ret ?_
  obtain rfl := Option.some.inj hr
  exact At.ret (fun a w hc hs => (resVs_cons (hc.resA hs 0 rfl rfl ag_23 rfl) resVs_nil)) (fun w hs => ⟨_, rfl, (hs.arrange 0 1 [] [] (by decide)), rfl⟩)
/-! peloton/weight.in -/
def weight_in_k1 (v2 : Bool) : Option Bool := some v2
def weight_in (p0 : Int) (p1 : Int) (p2 : Int) : Option Bool := cond (decide (p0 ≥ p1)) (weight_in_k1 (decide (p0 ≤ p2))) (weight_in_k1 false)
theorem weight_in_ok {F : Mem} {p0 : Int} {p1 : Int} {p2 : Int} {r : Bool} (hr : weight_in p0 p1 p2 = some r) (Φ : List (List Chunk)) :
    CallsRet Try.prog 31 (List.toArray [.int .i64 p0, .int .i64 p1, .int .i64 p2]) F Φ (fun v w => v = .bool r ∧ Sat F (Φ) w) := by
  refine CallsRet.enter (rs := [.tmp 6]) Try.func31 rfl rfl rfl rfl ?_
  unfold weight_in at hr
  refine WC.then ?_
  refine WC.region [(0, true)] rfl ?_
  refine WO.assign rfl rfl rfl rfl ?_
  refine WO.done ?_
  refine At.seq_wc ?_
  refine WC.seq (fun a w => ∃ (v2 : Bool), weight_in_k1 v2 = some r ∧ Ctx 15 [(6, .bool v2)] a ∧ Sat F Φ w) ?_ ?_
  · refine WC.region [(0, true), (1, true), (2, true), (3, true), (4, true), (5, true), (6, true), (7, true), (8, true)] rfl ?_
    refine WO.move rfl rfl rfl rfl ?_
    refine WO.move rfl rfl rfl rfl ?_
    refine WO.bin rfl rfl rfl rfl rfl rfl ?_
    refine WO.move rfl rfl rfl rfl ?_
    refine WO.split (t := 10) rfl (fun hg3 => ?_) (fun hg3 => ?_)
    · have hr := cond_t hg3 hr
      refine WO.move rfl rfl rfl rfl ?_
      refine WO.move rfl rfl rfl rfl ?_
      refine WO.bin rfl rfl rfl rfl rfl rfl ?_
      refine WO.pickT rfl rfl rfl rfl rfl ?_
      refine WO.assign rfl rfl rfl rfl ?_
      refine WO.done ?_
      refine At.seq_at ?_
      exact fun a w hc hs => ⟨(decide (p0 ≤ p2)), hr, (hc.keep hc.nil (t := 6) rfl), hs⟩
    · have hr := cond_f hg3 hr
      refine WO.skip rfl rfl rfl rfl ?_
      refine WO.skip rfl rfl rfl rfl ?_
      refine WO.skip rfl rfl rfl rfl ?_
      refine WO.pickF rfl rfl rfl rfl rfl ?_
      refine WO.assign rfl rfl rfl rfl ?_
      refine WO.done ?_
      refine At.seq_at ?_
      exact fun a w hc hs => ⟨false, hr, (hc.keep hc.nil (t := 6) rfl), hs⟩
  · rintro a w ⟨v2, hr, hc, hs⟩
    refine WC.use hc hs ?_
    clear hc hs
    unfold weight_in_k1 at hr
    refine WC.ret ?_
    obtain rfl := Option.some.inj hr
    exact At.ret (fun a w hc hs => (resVs_cons (hc.res rfl) resVs_nil)) (fun w hs => ⟨rfl, hs⟩)
/-! peloton/weight.Right -/
def weight_Right_k1 (v4 : Bool) : Option Bool := some v4
def weight_Right (p0 : S_api_Shape) : Option Bool := (weight_in p0.Layers 1 16).bind fun x5 => cond x5 ((weight_in p0.Heads 1 16).bind fun x9 => cond x9 ((weight_in p0.Width 2 128).bind fun x13 => cond x13 (guardO ((IntKind.wrap .i64 (2 * p0.Heads)) ≠ 0) (cond ((Int.tmod p0.Width (IntKind.wrap .i64 (2 * p0.Heads))) == 0) ((weight_in p0.Inner 1 256).bind fun x19 => cond x19 ((weight_in p0.Vocab 1 512).bind fun x23 => cond x23 ((weight_in p0.Places 1 256).bind fun x27 => weight_Right_k1 x27) (weight_Right_k1 false)) (weight_Right_k1 false)) (weight_Right_k1 false))) (weight_Right_k1 false)) (weight_Right_k1 false)) (weight_Right_k1 false)
theorem weight_Right_ok {F : Mem} {p0 : S_api_Shape} {cs_0 : List Value} (h_0 : R_api_Shape F cs_0 p0) {r : Bool} (hr : weight_Right p0 = some r) (Φ : List (List Chunk)) :
    CallsRet Try.prog 21 (List.toArray [.agg cs_0.toArray]) F Φ (fun v w => v = .bool r ∧ Sat F (Φ) w) := by
  obtain rfl := h_0
  refine CallsRet.enter (rs := [.tmp 2]) Try.func21 rfl rfl rfl rfl ?_
  unfold weight_Right at hr
  refine WC.then ?_
  refine WC.region [(0, false), (1, true)] rfl ?_
  refine WO.box rfl rfl rfl rfl rfl (fun _ _ _ => trivial) (fun b1 => ?_)
  refine WO.assign rfl rfl rfl rfl ?_
  refine WO.done ?_
  refine At.seq_wc ?_
  refine WC.seq (fun a w => ∃ (v4 : Bool), weight_Right_k1 v4 = some r ∧ Ctx 40 [(2, .bool v4)] a ∧ Sat F ([(b1, row [.int .i64 p0.Layers, .int .i64 p0.Width, .int .i64 p0.Heads, .int .i64 p0.Inner, .int .i64 p0.Vocab, .int .i64 p0.Places] 23)] :: Φ) w) ?_ ?_
  · refine WC.region [(0, true), (1, false), (2, false), (3, true), (4, true), (5, false), (6, false), (7, true), (8, true), (9, true), (10, false), (11, false), (12, true), (13, true), (14, true), (15, false), (16, true), (17, false), (18, true), (19, true), (20, true), (21, true), (22, true), (23, true), (24, false), (25, false), (26, true), (27, true), (28, true), (29, false), (30, false), (31, true), (32, true), (33, true), (34, false), (35, false), (36, true), (37, true)] rfl ?_
    refine WO.fieldAddr 0 rfl rfl rfl rfl fl_23_0 ?_
    refine WO.load 0 rfl rfl rfl rfl sc_3 rfl rfl ?_
    obtain ⟨x5, hx6, hr⟩ := bind_some' hr
    refine WO.call rfl rfl rfl rfl rfl cl_31 (weight_in_ok (F := F) hx6 ([(b1, row [.int .i64 p0.Layers, .int .i64 p0.Width, .int .i64 p0.Heads, .int .i64 p0.Inner, .int .i64 p0.Vocab, .int .i64 p0.Places] 23)] :: Φ)) ?_
    rintro _ _ ⟨rfl, hs7⟩
    refine ⟨F, ([(b1, row [.int .i64 p0.Layers, .int .i64 p0.Width, .int .i64 p0.Heads, .int .i64 p0.Inner, .int .i64 p0.Vocab, .int .i64 p0.Places] 23)] :: Φ), hs7, trivial, ?_⟩
    refine WO.move rfl rfl rfl rfl ?_
    refine WO.split (t := 6) rfl (fun hg8 => ?_) (fun hg8 => ?_)
    · have hr := cond_t hg8 hr
      refine WO.fieldAddr 2 rfl rfl rfl rfl fl_23_2 ?_
      refine WO.load 0 rfl rfl rfl rfl sc_3 rfl rfl ?_
      obtain ⟨x9, hx10, hr⟩ := bind_some' hr
      refine WO.call rfl rfl rfl rfl rfl cl_31 (weight_in_ok (F := F) hx10 ([(b1, row [.int .i64 p0.Layers, .int .i64 p0.Width, .int .i64 p0.Heads, .int .i64 p0.Inner, .int .i64 p0.Vocab, .int .i64 p0.Places] 23)] :: Φ)) ?_
      rintro _ _ ⟨rfl, hs11⟩
      refine ⟨F, ([(b1, row [.int .i64 p0.Layers, .int .i64 p0.Width, .int .i64 p0.Heads, .int .i64 p0.Inner, .int .i64 p0.Vocab, .int .i64 p0.Places] 23)] :: Φ), hs11, trivial, ?_⟩
      refine WO.pickT rfl rfl rfl rfl rfl ?_
      refine WO.move rfl rfl rfl rfl ?_
      refine WO.split (t := 11) rfl (fun hg12 => ?_) (fun hg12 => ?_)
      · have hr := cond_t hg12 hr
        refine WO.fieldAddr 1 rfl rfl rfl rfl fl_23_1 ?_
        refine WO.load 0 rfl rfl rfl rfl sc_3 rfl rfl ?_
        obtain ⟨x13, hx14, hr⟩ := bind_some' hr
        refine WO.call rfl rfl rfl rfl rfl cl_31 (weight_in_ok (F := F) hx14 ([(b1, row [.int .i64 p0.Layers, .int .i64 p0.Width, .int .i64 p0.Heads, .int .i64 p0.Inner, .int .i64 p0.Vocab, .int .i64 p0.Places] 23)] :: Φ)) ?_
        rintro _ _ ⟨rfl, hs15⟩
        refine ⟨F, ([(b1, row [.int .i64 p0.Layers, .int .i64 p0.Width, .int .i64 p0.Heads, .int .i64 p0.Inner, .int .i64 p0.Vocab, .int .i64 p0.Places] 23)] :: Φ), hs15, trivial, ?_⟩
        refine WO.pickT rfl rfl rfl rfl rfl ?_
        refine WO.move rfl rfl rfl rfl ?_
        refine WO.split (t := 16) rfl (fun hg16 => ?_) (fun hg16 => ?_)
        · have hr := cond_t hg16 hr
          refine WO.fieldAddr 1 rfl rfl rfl rfl fl_23_1 ?_
          refine WO.load 0 rfl rfl rfl rfl sc_3 rfl rfl ?_
          refine WO.fieldAddr 2 rfl rfl rfl rfl fl_23_2 ?_
          refine WO.load 0 rfl rfl rfl rfl sc_3 rfl rfl ?_
          refine WO.bin rfl rfl rfl rfl rfl rfl ?_
          obtain ⟨hk17, hr⟩ := guardO_some hr
          refine WO.rem hk17 rfl rfl rfl rfl rfl ?_
          refine WO.bin rfl rfl rfl rfl rfl rfl ?_
          refine WO.pickT rfl rfl rfl rfl rfl ?_
          refine WO.move rfl rfl rfl rfl ?_
          refine WO.split (t := 25) rfl (fun hg18 => ?_) (fun hg18 => ?_)
          · have hr := cond_t hg18 hr
            refine WO.fieldAddr 3 rfl rfl rfl rfl fl_23_3 ?_
            refine WO.load 0 rfl rfl rfl rfl sc_3 rfl rfl ?_
            obtain ⟨x19, hx20, hr⟩ := bind_some' hr
            refine WO.call rfl rfl rfl rfl rfl cl_31 (weight_in_ok (F := F) hx20 ([(b1, row [.int .i64 p0.Layers, .int .i64 p0.Width, .int .i64 p0.Heads, .int .i64 p0.Inner, .int .i64 p0.Vocab, .int .i64 p0.Places] 23)] :: Φ)) ?_
            rintro _ _ ⟨rfl, hs21⟩
            refine ⟨F, ([(b1, row [.int .i64 p0.Layers, .int .i64 p0.Width, .int .i64 p0.Heads, .int .i64 p0.Inner, .int .i64 p0.Vocab, .int .i64 p0.Places] 23)] :: Φ), hs21, trivial, ?_⟩
            refine WO.pickT rfl rfl rfl rfl rfl ?_
            refine WO.move rfl rfl rfl rfl ?_
            refine WO.split (t := 30) rfl (fun hg22 => ?_) (fun hg22 => ?_)
            · have hr := cond_t hg22 hr
              refine WO.fieldAddr 4 rfl rfl rfl rfl fl_23_4 ?_
              refine WO.load 0 rfl rfl rfl rfl sc_3 rfl rfl ?_
              obtain ⟨x23, hx24, hr⟩ := bind_some' hr
              refine WO.call rfl rfl rfl rfl rfl cl_31 (weight_in_ok (F := F) hx24 ([(b1, row [.int .i64 p0.Layers, .int .i64 p0.Width, .int .i64 p0.Heads, .int .i64 p0.Inner, .int .i64 p0.Vocab, .int .i64 p0.Places] 23)] :: Φ)) ?_
              rintro _ _ ⟨rfl, hs25⟩
              refine ⟨F, ([(b1, row [.int .i64 p0.Layers, .int .i64 p0.Width, .int .i64 p0.Heads, .int .i64 p0.Inner, .int .i64 p0.Vocab, .int .i64 p0.Places] 23)] :: Φ), hs25, trivial, ?_⟩
              refine WO.pickT rfl rfl rfl rfl rfl ?_
              refine WO.move rfl rfl rfl rfl ?_
              refine WO.split (t := 35) rfl (fun hg26 => ?_) (fun hg26 => ?_)
              · have hr := cond_t hg26 hr
                refine WO.fieldAddr 5 rfl rfl rfl rfl fl_23_5 ?_
                refine WO.load 0 rfl rfl rfl rfl sc_3 rfl rfl ?_
                obtain ⟨x27, hx28, hr⟩ := bind_some' hr
                refine WO.call rfl rfl rfl rfl rfl cl_31 (weight_in_ok (F := F) hx28 ([(b1, row [.int .i64 p0.Layers, .int .i64 p0.Width, .int .i64 p0.Heads, .int .i64 p0.Inner, .int .i64 p0.Vocab, .int .i64 p0.Places] 23)] :: Φ)) ?_
                rintro _ _ ⟨rfl, hs29⟩
                refine ⟨F, ([(b1, row [.int .i64 p0.Layers, .int .i64 p0.Width, .int .i64 p0.Heads, .int .i64 p0.Inner, .int .i64 p0.Vocab, .int .i64 p0.Places] 23)] :: Φ), hs29, trivial, ?_⟩
                refine WO.pickT rfl rfl rfl rfl rfl ?_
                refine WO.assign rfl rfl rfl rfl ?_
                refine WO.done ?_
                refine At.seq_at ?_
                exact fun a w hc hs => ⟨x27, hr, (hc.keep hc.nil (t := 2) rfl), hs⟩
              · have hr := cond_f hg26 hr
                refine WO.skip rfl rfl rfl rfl ?_
                refine WO.skipF rfl rfl rfl rfl ?_
                refine WO.skipF rfl rfl rfl rfl ?_
                refine WO.pickF rfl rfl rfl rfl rfl ?_
                refine WO.assign rfl rfl rfl rfl ?_
                refine WO.done ?_
                refine At.seq_at ?_
                exact fun a w hc hs => ⟨false, hr, (hc.keep hc.nil (t := 2) rfl), hs⟩
            · have hr := cond_f hg22 hr
              refine WO.skip rfl rfl rfl rfl ?_
              refine WO.skipF rfl rfl rfl rfl ?_
              refine WO.skipF rfl rfl rfl rfl ?_
              refine WO.pickF rfl rfl rfl rfl rfl ?_
              refine WO.move rfl rfl rfl rfl ?_
              refine WO.skip rfl rfl rfl rfl ?_
              refine WO.skipF rfl rfl rfl rfl ?_
              refine WO.skipF rfl rfl rfl rfl ?_
              refine WO.pickF rfl rfl rfl rfl rfl ?_
              refine WO.assign rfl rfl rfl rfl ?_
              refine WO.done ?_
              refine At.seq_at ?_
              exact fun a w hc hs => ⟨false, hr, (hc.keep hc.nil (t := 2) rfl), hs⟩
          · have hr := cond_f hg18 hr
            refine WO.skip rfl rfl rfl rfl ?_
            refine WO.skipF rfl rfl rfl rfl ?_
            refine WO.skipF rfl rfl rfl rfl ?_
            refine WO.pickF rfl rfl rfl rfl rfl ?_
            refine WO.move rfl rfl rfl rfl ?_
            refine WO.skip rfl rfl rfl rfl ?_
            refine WO.skipF rfl rfl rfl rfl ?_
            refine WO.skipF rfl rfl rfl rfl ?_
            refine WO.pickF rfl rfl rfl rfl rfl ?_
            refine WO.move rfl rfl rfl rfl ?_
            refine WO.skip rfl rfl rfl rfl ?_
            refine WO.skipF rfl rfl rfl rfl ?_
            refine WO.skipF rfl rfl rfl rfl ?_
            refine WO.pickF rfl rfl rfl rfl rfl ?_
            refine WO.assign rfl rfl rfl rfl ?_
            refine WO.done ?_
            refine At.seq_at ?_
            exact fun a w hc hs => ⟨false, hr, (hc.keep hc.nil (t := 2) rfl), hs⟩
        · have hr := cond_f hg16 hr
          refine WO.skip rfl rfl rfl rfl ?_
          refine WO.skipF rfl rfl rfl rfl ?_
          refine WO.skip rfl rfl rfl rfl ?_
          refine WO.skipF rfl rfl rfl rfl ?_
          refine WO.skip rfl rfl rfl rfl ?_
          refine WO.skip rfl rfl rfl rfl ?_
          refine WO.skip rfl rfl rfl rfl ?_
          refine WO.pickF rfl rfl rfl rfl rfl ?_
          refine WO.move rfl rfl rfl rfl ?_
          refine WO.skip rfl rfl rfl rfl ?_
          refine WO.skipF rfl rfl rfl rfl ?_
          refine WO.skipF rfl rfl rfl rfl ?_
          refine WO.pickF rfl rfl rfl rfl rfl ?_
          refine WO.move rfl rfl rfl rfl ?_
          refine WO.skip rfl rfl rfl rfl ?_
          refine WO.skipF rfl rfl rfl rfl ?_
          refine WO.skipF rfl rfl rfl rfl ?_
          refine WO.pickF rfl rfl rfl rfl rfl ?_
          refine WO.move rfl rfl rfl rfl ?_
          refine WO.skip rfl rfl rfl rfl ?_
          refine WO.skipF rfl rfl rfl rfl ?_
          refine WO.skipF rfl rfl rfl rfl ?_
          refine WO.pickF rfl rfl rfl rfl rfl ?_
          refine WO.assign rfl rfl rfl rfl ?_
          refine WO.done ?_
          refine At.seq_at ?_
          exact fun a w hc hs => ⟨false, hr, (hc.keep hc.nil (t := 2) rfl), hs⟩
      · have hr := cond_f hg12 hr
        refine WO.skip rfl rfl rfl rfl ?_
        refine WO.skipF rfl rfl rfl rfl ?_
        refine WO.skipF rfl rfl rfl rfl ?_
        refine WO.pickF rfl rfl rfl rfl rfl ?_
        refine WO.move rfl rfl rfl rfl ?_
        refine WO.skip rfl rfl rfl rfl ?_
        refine WO.skipF rfl rfl rfl rfl ?_
        refine WO.skip rfl rfl rfl rfl ?_
        refine WO.skipF rfl rfl rfl rfl ?_
        refine WO.skip rfl rfl rfl rfl ?_
        refine WO.skip rfl rfl rfl rfl ?_
        refine WO.skip rfl rfl rfl rfl ?_
        refine WO.pickF rfl rfl rfl rfl rfl ?_
        refine WO.move rfl rfl rfl rfl ?_
        refine WO.skip rfl rfl rfl rfl ?_
        refine WO.skipF rfl rfl rfl rfl ?_
        refine WO.skipF rfl rfl rfl rfl ?_
        refine WO.pickF rfl rfl rfl rfl rfl ?_
        refine WO.move rfl rfl rfl rfl ?_
        refine WO.skip rfl rfl rfl rfl ?_
        refine WO.skipF rfl rfl rfl rfl ?_
        refine WO.skipF rfl rfl rfl rfl ?_
        refine WO.pickF rfl rfl rfl rfl rfl ?_
        refine WO.move rfl rfl rfl rfl ?_
        refine WO.skip rfl rfl rfl rfl ?_
        refine WO.skipF rfl rfl rfl rfl ?_
        refine WO.skipF rfl rfl rfl rfl ?_
        refine WO.pickF rfl rfl rfl rfl rfl ?_
        refine WO.assign rfl rfl rfl rfl ?_
        refine WO.done ?_
        refine At.seq_at ?_
        exact fun a w hc hs => ⟨false, hr, (hc.keep hc.nil (t := 2) rfl), hs⟩
    · have hr := cond_f hg8 hr
      refine WO.skip rfl rfl rfl rfl ?_
      refine WO.skipF rfl rfl rfl rfl ?_
      refine WO.skipF rfl rfl rfl rfl ?_
      refine WO.pickF rfl rfl rfl rfl rfl ?_
      refine WO.move rfl rfl rfl rfl ?_
      refine WO.skip rfl rfl rfl rfl ?_
      refine WO.skipF rfl rfl rfl rfl ?_
      refine WO.skipF rfl rfl rfl rfl ?_
      refine WO.pickF rfl rfl rfl rfl rfl ?_
      refine WO.move rfl rfl rfl rfl ?_
      refine WO.skip rfl rfl rfl rfl ?_
      refine WO.skipF rfl rfl rfl rfl ?_
      refine WO.skip rfl rfl rfl rfl ?_
      refine WO.skipF rfl rfl rfl rfl ?_
      refine WO.skip rfl rfl rfl rfl ?_
      refine WO.skip rfl rfl rfl rfl ?_
      refine WO.skip rfl rfl rfl rfl ?_
      refine WO.pickF rfl rfl rfl rfl rfl ?_
      refine WO.move rfl rfl rfl rfl ?_
      refine WO.skip rfl rfl rfl rfl ?_
      refine WO.skipF rfl rfl rfl rfl ?_
      refine WO.skipF rfl rfl rfl rfl ?_
      refine WO.pickF rfl rfl rfl rfl rfl ?_
      refine WO.move rfl rfl rfl rfl ?_
      refine WO.skip rfl rfl rfl rfl ?_
      refine WO.skipF rfl rfl rfl rfl ?_
      refine WO.skipF rfl rfl rfl rfl ?_
      refine WO.pickF rfl rfl rfl rfl rfl ?_
      refine WO.move rfl rfl rfl rfl ?_
      refine WO.skip rfl rfl rfl rfl ?_
      refine WO.skipF rfl rfl rfl rfl ?_
      refine WO.skipF rfl rfl rfl rfl ?_
      refine WO.pickF rfl rfl rfl rfl rfl ?_
      refine WO.assign rfl rfl rfl rfl ?_
      refine WO.done ?_
      refine At.seq_at ?_
      exact fun a w hc hs => ⟨false, hr, (hc.keep hc.nil (t := 2) rfl), hs⟩
  · rintro a w ⟨v4, hr, hc, hs⟩
    refine WC.use hc hs ?_
    clear hc hs
    unfold weight_Right_k1 at hr
    refine WC.ret ?_
    obtain rfl := Option.some.inj hr
    exact At.ret (fun a w hc hs => (resVs_cons (hc.res rfl) resVs_nil)) (fun w hs => ⟨rfl, (hs.arrange 0 1 [] [] (by decide))⟩)
/-! peloton/admit.New -/
def admit_New_k1 (p0 : S_api_Shape) (p1 : Int) (v8 : Bool) : Option ((Option S_admit_Desk) × Int) := cond v8 (some (none, 2)) (some ((some (⟨p0, p1, ([] : List S_api_Request), ([] : List (Int × Bool))⟩ : S_admit_Desk)), 0))
def admit_New (p0 : S_api_Shape) (p1 : Int) : Option ((Option S_admit_Desk) × Int) := (weight_Right p0).bind fun x3 => cond (!x3) (some (none, 30)) (cond (decide (p1 < 0)) (admit_New_k1 p0 p1 true) (admit_New_k1 p0 p1 (decide (p1 > 4096))))
theorem admit_New_ok {F : Mem} {p0 : S_api_Shape} {p1 : Int} {cs_0 : List Value} (h_0 : R_api_Shape F cs_0 p0) {r : (Option S_admit_Desk) × Int} (hr : admit_New p0 p1 = some r) (Φ : List (List Chunk)) :
    CallsRet Try.prog 5 (List.toArray [.agg cs_0.toArray, .int .i64 p1]) F Φ (fun v w => (r.1 = none ∧ v = .tuple (List.toArray [.pointer none, .int .i64 r.2]) ∧ Sat F (Φ) w) ∨ (∃ ob bp ap_7 cp_7 ψp_7 ap_8 ψp_8, r.1 = some ob ∧ v = .tuple (List.toArray [.pointer (some ⟨bp, 0, none⟩), .int .i64 r.2]) ∧ Sat F ([(bp, row [.int .i64 ob.s.Layers, .int .i64 ob.s.Width, .int .i64 ob.s.Heads, .int .i64 ob.s.Inner, .int .i64 ob.s.Vocab, .int .i64 ob.s.Places, .int .i64 ob.room, .slice ap_7 ob.row.length cp_7, .map (some ap_8)] 57)] :: ψp_7 :: ψp_8 :: Φ) w ∧ OwnL 3 R_api_Request F 37 ap_7 cp_7 ob.row ψp_7 ∧ OwnM (fun x : Int => Value.int .i64 x) (RV1 RBool) F ap_8 ob.took ψp_8)) := by
  obtain rfl := h_0
  refine CallsRet.enter (rs := [.tmp 4, .tmp 5]) Try.func5 rfl rfl rfl rfl ?_
  unfold admit_New at hr
  refine WC.then ?_
  refine WC.region [(0, false), (1, true), (2, true)] rfl ?_
  refine WO.box rfl rfl rfl rfl rfl (fun _ _ _ => trivial) (fun b1 => ?_)
  refine WO.assign rfl rfl rfl rfl ?_
  refine WO.assign rfl rfl rfl rfl ?_
  refine WO.done ?_
  refine At.seq_wc ?_
  refine WC.then ?_
  refine WC.block ?_
  refine WC.then ?_
  refine WC.region [(0, false), (1, false), (2, true), (3, true)] rfl ?_
  refine WO.loadA 0 6 rfl rfl rfl rfl ag_23 rfl rfl rfl ?_
  obtain ⟨x3, hx4, hr⟩ := bind_some' hr
  refine WO.call rfl rfl rfl rfl rfl cl_21 (weight_Right_ok (F := F) rfl hx4 ([(b1, row [.int .i64 p0.Layers, .int .i64 p0.Width, .int .i64 p0.Heads, .int .i64 p0.Inner, .int .i64 p0.Vocab, .int .i64 p0.Places] 23)] :: Φ)) ?_
  rintro _ _ ⟨rfl, hs5⟩
  refine ⟨F, ([(b1, row [.int .i64 p0.Layers, .int .i64 p0.Width, .int .i64 p0.Heads, .int .i64 p0.Inner, .int .i64 p0.Vocab, .int .i64 p0.Places] 23)] :: Φ), hs5, trivial, ?_⟩
  refine WO.un rfl rfl rfl rfl rfl ?_
  refine WO.assign rfl rfl rfl rfl ?_
  refine WO.done ?_
  refine At.seq_wc ?_
  refine WC.cond rfl (fun hb6 => ?_) (fun hb6 => ?_)
  · have hr := cond_t hb6 hr
    refine WC.then ?_
    refine WC.region [(0, true), (1, true)] rfl ?_
    refine WO.assign rfl rfl rfl rfl ?_
    refine WO.assign rfl rfl rfl rfl ?_
    refine WO.done ?_
    refine At.seq_wc ?_
    refine WC.ret ?_
    refine At.block_ret ?_
    refine At.seq_ret ?_
    obtain rfl := Option.some.inj hr
    exact At.ret (fun a w hc hs => (resVs_cons (hc.res rfl) (resVs_cons (hc.res rfl) resVs_nil))) (fun w hs => .inl ⟨rfl, rfl, (hs.arrange 0 1 [] [] (by decide))⟩)
  · have hr := cond_f hb6 hr
    refine WC.seq (fun a w => ∃ (v8 : Bool), admit_New_k1 p0 p1 v8 = some r ∧ Ctx 22 [(1, .int .i64 p1), (2, .pointer (some ⟨b1, 0, none⟩)), (10, .bool v8)] a ∧ Sat F ([(b1, row [.int .i64 p0.Layers, .int .i64 p0.Width, .int .i64 p0.Heads, .int .i64 p0.Inner, .int .i64 p0.Vocab, .int .i64 p0.Places] 23)] :: Φ) w) ?_ ?_
    · refine WC.region [(0, true), (1, true), (2, true), (3, true), (4, true), (5, true), (6, true)] rfl ?_
      refine WO.move rfl rfl rfl rfl ?_
      refine WO.bin rfl rfl rfl rfl rfl rfl ?_
      refine WO.move rfl rfl rfl rfl ?_
      refine WO.split (t := 13) rfl (fun hg18 => ?_) (fun hg18 => ?_)
      · have hr := cond_t hg18 hr
        refine WO.skip rfl rfl rfl rfl ?_
        refine WO.skip rfl rfl rfl rfl ?_
        refine WO.pickT rfl rfl rfl rfl rfl ?_
        refine WO.assign rfl rfl rfl rfl ?_
        refine WO.done ?_
        refine At.seq_at ?_
        exact fun a w hc hs => ⟨true, hr, (hc.keep (hc.keep (hc.keep hc.nil (t := 10) rfl) (t := 2) rfl) (t := 1) rfl), hs⟩
      · have hr := cond_f hg18 hr
        refine WO.move rfl rfl rfl rfl ?_
        refine WO.bin rfl rfl rfl rfl rfl rfl ?_
        refine WO.pickF rfl rfl rfl rfl rfl ?_
        refine WO.assign rfl rfl rfl rfl ?_
        refine WO.done ?_
        refine At.seq_at ?_
        exact fun a w hc hs => ⟨(decide (p1 > 4096)), hr, (hc.keep (hc.keep (hc.keep hc.nil (t := 10) rfl) (t := 2) rfl) (t := 1) rfl), hs⟩
    · rintro a w ⟨v8, hr, hc, hs⟩
      refine WC.use hc hs ?_
      clear hc hs
      unfold admit_New_k1 at hr
      refine WC.cond rfl (fun hb9 => ?_) (fun hb9 => ?_)
      · have hr := cond_t hb9 hr
        refine WC.then ?_
        refine WC.region [(0, true), (1, true)] rfl ?_
        refine WO.assign rfl rfl rfl rfl ?_
        refine WO.assign rfl rfl rfl rfl ?_
        refine WO.done ?_
        refine At.seq_wc ?_
        refine WC.ret ?_
        refine At.block_ret ?_
        refine At.seq_ret ?_
        obtain rfl := Option.some.inj hr
        exact At.ret (fun a w hc hs => (resVs_cons (hc.res rfl) (resVs_cons (hc.res rfl) resVs_nil))) (fun w hs => .inl ⟨rfl, rfl, (hs.arrange 0 1 [] [] (by decide))⟩)
      · have hr := cond_f hb9 hr
        refine WC.skip ?_
        refine At.block_normal ?_
        refine At.seq_wc ?_
        refine WC.then ?_
        refine WC.region [(0, false), (1, true), (2, false), (3, true), (4, false), (5, true), (6, true)] rfl ?_
        refine WO.loadA 0 6 rfl rfl rfl rfl ag_23 rfl rfl rfl ?_
        refine WO.move rfl rfl rfl rfl ?_
        refine WO.makeMap (F1 := F) (enc := (fun x : Int => Value.int .i64 x)) (RV := (RV1 RBool)) rfl rfl rfl (fun _ _ _ => trivial) (fun b10 p12 hm13 => ?_)
        refine WO.build (vs := [.tmp 17, .tmp 18, .tmp 19]) [0, 1, 3] (.agg (List.toArray [.int .i64 p0.Layers, .int .i64 p0.Width, .int .i64 p0.Heads, .int .i64 p0.Inner, .int .i64 p0.Vocab, .int .i64 p0.Places, .int .i64 p1, .slice none 0 0, .map (some b10)])) rfl rfl rfl rfl rfl (fun _ => by kernel_rfl) ?_
        refine WO.box rfl rfl rfl rfl rfl (fun _ _ _ => trivial) (fun b14 => ?_)
        refine WO.assign rfl rfl rfl rfl ?_
        refine WO.assign rfl rfl rfl rfl ?_
        refine WO.done ?_
        refine At.seq_wc ?_
        refine WC.ret ?_
        refine At.empty ?_
        have ho17 : OwnL 3 R_api_Request F 37 none 0 ([] : List S_api_Request) [] := OwnL.nil
        obtain rfl := Option.some.inj hr
        exact At.ret (fun a w hc hs => (resVs_cons (hc.res rfl) (resVs_cons (hc.res rfl) resVs_nil))) (fun w hs => .inr ⟨_, _, _, _, _, _, _, rfl, rfl, (hs.arrange 0 4 [] [1, 0, 2] (by decide)), ho17, (OwnM.re (G := F) (constV1 const_bool) hm13)⟩)
/-! peloton/pelotonlaw21.asks -/
def law21_asks (p0 : Int) : Option S_api_Request := some (⟨p0, 2, [1]⟩ : S_api_Request)
theorem law21_asks_ok {F : Mem} {p0 : Int} {r : S_api_Request} (hr : law21_asks p0 = some r) (Φ : List (List Chunk)) :
    CallsRet Try.prog 20 (List.toArray [.int .i64 p0]) F Φ (fun v w => ∃ ψm cs0, v = .agg (List.toArray cs0) ∧ Sat (Mem.add F ψm) (Φ) w ∧ R_api_Request (Mem.add F ψm) cs0 r) := by
  refine CallsRet.enter (rs := [.cell 2 37]) Try.func20 rfl rfl rfl rfl ?_
  unfold law21_asks at hr
  refine WC.then ?_
  refine WC.region [(0, false)] rfl ?_
  refine WO.alloc (.agg #[.int .i64 0, .int .i64 0, .slice none 0 0]) rfl rfl rfl zb_37 rfl (fun _ _ _ => trivial) (fun b1 => ?_)
  refine WO.done ?_
  refine At.seq_wc ?_
  refine WC.then ?_
  refine WC.region [(0, true), (1, false), (2, true), (3, false)] rfl ?_
  refine WO.move rfl rfl rfl rfl ?_
  refine WO.buildSl (e := 3) (vs := [.const (.int .i64 1)]) [0] [.int .i64 1] rfl rfl rfl rfl rfl (fun _ => by kernel_rfl) (fun _ _ _ => trivial) (fun b3 => ?_)
  refine WO.build (vs := [.tmp 3, .const (.int .i64 2), .tmp 4]) [0, 1, 2] (.agg (List.toArray [.int .i64 p0, .int .i64 2, .slice (some ⟨b3, 0, none⟩) 1 1])) rfl rfl rfl rfl rfl (fun _ => by kernel_rfl) ?_
  refine WO.storeA 1 3 rfl rfl rfl rfl sz_37 rfl rfl rfl rfl (fun _ _ => trivial) ?_
  refine WO.done ?_
  refine At.seq_wc ?_
  refine WC.ret ?_
  have ho5 : OwnL 1 (RInt .i64) F 3 (some ⟨b3, 0, none⟩) 1 [1] [(b3, row [.int .i64 1] 3)] := ⟨Nat.le_refl _, .inr ⟨_, [[.int .i64 1]], [], rfl, rfl, (Rs.cons (x := 1) (cs := [.int .i64 1]) rfl rfl rfl Rs.nil), rfl⟩⟩
  refine At.freeze 0 rfl ?_
  have hz7 := (OwnL.re (G := F) (const_int _) ho5).rd (mono_int _)
  obtain rfl := Option.some.inj hr
  exact At.ret (fun a w hc hs => (resVs_cons (hc.resA hs 0 rfl rfl ag_37 rfl) resVs_nil)) (fun w hs => ⟨(List.flatten [[(b3, row [.int .i64 1] 3)]]), _, rfl, ((hs.arrange 1 1 [0] [] (by decide)).gather 1), ⟨_, _, rfl, (hz7.mono (mono_int _) (Mem.le_gather (Mem.add F [(b3, row [.int .i64 1] 3)]) 1))⟩⟩)
/-! peloton/gen.Check$1 -/
def gen_Check_1_p_k1 (v2 : Bool) : Option Bool := some v2
def gen_Check_1_p (p0 : Int) (p1 : S_api_Shape) : Option Bool := cond (decide (p0 < 0)) (gen_Check_1_p_k1 true) (gen_Check_1_p_k1 (decide (p0 ≥ p1.Vocab)))
theorem gen_Check_1_p_ok {F : Mem} {χ : List Chunk} {p0 : Int} {p1 : S_api_Shape} {b_1 o_1 : Nat} {cs_1 : List Value} (hc_1 : Cells (Mem.add F χ) b_1 o_1 cs_1) (h_1 : R_api_Shape (Mem.add F χ) cs_1 p1) {r : Bool} (hr : gen_Check_1_p p0 p1 = some r) (Φ : List (List Chunk)) :
    CallsRet Try.prog 34 (List.toArray [.int .i64 p0, .pointer (some ⟨b_1, o_1, none⟩)]) (Mem.add F χ) Φ (fun v w => v = .bool r ∧ Sat (Mem.add F χ) (Φ) w) := by
  obtain rfl := h_1
  refine CallsRet.enter (rs := [.tmp 3]) Try.func34 rfl rfl rfl rfl ?_
  unfold gen_Check_1_p at hr
  refine WC.then ?_
  refine WC.region [(0, true)] rfl ?_
  refine WO.assign rfl rfl rfl rfl ?_
  refine WO.done ?_
  refine At.seq_wc ?_
  refine WC.seq (fun a w => ∃ (v2 : Bool), gen_Check_1_p_k1 v2 = some r ∧ Ctx 12 [(3, .bool v2)] a ∧ Sat (Mem.add F χ) Φ w) ?_ ?_
  · refine WC.region [(0, true), (1, true), (2, true), (3, true), (4, true), (5, false), (6, true), (7, true), (8, true)] rfl ?_
    refine WO.move rfl rfl rfl rfl ?_
    refine WO.bin rfl rfl rfl rfl rfl rfl ?_
    refine WO.move rfl rfl rfl rfl ?_
    refine WO.split (t := 6) rfl (fun hg3 => ?_) (fun hg3 => ?_)
    · have hr := cond_t hg3 hr
      refine WO.skip rfl rfl rfl rfl ?_
      refine WO.skip rfl rfl rfl rfl ?_
      refine WO.skipF rfl rfl rfl rfl ?_
      refine WO.skip rfl rfl rfl rfl ?_
      refine WO.pickT rfl rfl rfl rfl rfl ?_
      refine WO.assign rfl rfl rfl rfl ?_
      refine WO.done ?_
      refine At.seq_at ?_
      exact fun a w hc hs => ⟨true, hr, (hc.keep hc.nil (t := 3) rfl), hs⟩
    · have hr := cond_f hg3 hr
      refine WO.move rfl rfl rfl rfl ?_
      refine WO.fieldAddr 4 rfl rfl rfl rfl fl_23_4 ?_
      refine WO.loadPn 4 hc_1 rfl rfl rfl rfl rfl sc_3 rfl ?_
      refine WO.bin rfl rfl rfl rfl rfl rfl ?_
      refine WO.pickF rfl rfl rfl rfl rfl ?_
      refine WO.assign rfl rfl rfl rfl ?_
      refine WO.done ?_
      refine At.seq_at ?_
      exact fun a w hc hs => ⟨(decide (p0 ≥ p1.Vocab)), hr, (hc.keep hc.nil (t := 3) rfl), hs⟩
  · rintro a w ⟨v2, hr, hc, hs⟩
    refine WC.use hc hs ?_
    clear hc hs
    unfold gen_Check_1_p_k1 at hr
    refine WC.ret ?_
    obtain rfl := Option.some.inj hr
    exact At.ret (fun a w hc hs => (resVs_cons (hc.res rfl) resVs_nil)) (fun w hs => ⟨rfl, hs⟩)
/-! slices.IndexFunc[[]int,int] -/
def slices_IndexFunc_int_int_Fgen_Check_1_p_k1  : Option Int := some (-1)
def slices_IndexFunc_int_int_Fgen_Check_1_p_b2 (p0 : List Int) (p1_0 : S_api_Shape) (v6 : Int) : Option (Int ⊕ (Lp Int Unit)) := cond (decide (v6 < (p0.length : Int))) ((getI p0 v6).bind fun x11 => (gen_Check_1_p x11 p1_0).bind fun x16 => cond x16 (some (.inr (.ret v6))) (some (.inl (IntKind.wrap .i64 (v6 + 1))))) (some (.inr (.brk ())))
def slices_IndexFunc_int_int_Fgen_Check_1_p (p0 : List Int) (p1_0 : S_api_Shape) : Option Int := (loopO (fun s => slices_IndexFunc_int_int_Fgen_Check_1_p_b2 p0 p1_0 s) 0).bind (fun | .ret r => some r | .brk _ => slices_IndexFunc_int_int_Fgen_Check_1_p_k1 )
theorem slices_IndexFunc_int_int_Fgen_Check_1_p_ok {F : Mem} {χ : List Chunk} {p0 : List Int} {p1_0 : S_api_Shape} {a_0 : Option Addr} {c_0 : Nat} (h_0 : RdL 1 (RInt .i64) (Mem.add F χ) a_0 c_0 p0) {b_1_0 o_1_0 : Nat} {cs_1_0 : List Value} (hc_1_0 : Cells (Mem.add F χ) b_1_0 o_1_0 cs_1_0) (h_1_0 : R_api_Shape (Mem.add F χ) cs_1_0 p1_0) {r : Int} (hr : slices_IndexFunc_int_int_Fgen_Check_1_p p0 p1_0 = some r) (Φ : List (List Chunk)) :
    CallsRet Try.prog 36 (List.toArray [.slice a_0 p0.length c_0, .func (.func 34) #[] #[.pointer (some ⟨b_1_0, o_1_0, none⟩)]]) (Mem.add F χ) Φ (fun v w => v = .int .i64 r ∧ Sat (Mem.add F χ) (Φ) w) := by
  obtain rfl := h_1_0
  refine CallsRet.enter (rs := [.tmp 4]) Try.func36 rfl rfl rfl rfl ?_
  unfold slices_IndexFunc_int_int_Fgen_Check_1_p at hr
  refine WC.then ?_
  refine WC.region [(0, true)] rfl ?_
  refine WO.assign rfl rfl rfl rfl ?_
  refine WO.done ?_
  refine At.seq_wc ?_
  refine WC.seq (fun a w => slices_IndexFunc_int_int_Fgen_Check_1_p_k1  = some r ∧ Ctx 19 [] a ∧ Sat (Mem.add F χ) Φ w) ?_ ?_
  · refine WC.then ?_
    refine WC.region [(0, true), (1, true), (2, true)] rfl ?_
    refine WO.move rfl rfl rfl rfl ?_
    refine WO.len rfl rfl rfl rfl Try.underlying33 ?_
    refine WO.move rfl rfl rfl rfl ?_
    refine WO.done ?_
    refine At.seq_wc ?_
    obtain ⟨xl3, hl3, hk3⟩ := bind_some' hr
    refine WC.weaken (fun a w => .brk () = xl3 ∧ Ctx 19 [] a ∧ Sat (Mem.add F χ) Φ w) ?_ ?_
    · refine WC.block ?_
      refine WC.loop (fun (v6 : Int) a w => Ctx 19 [(0, .slice a_0 p0.length c_0), (1, .func (.func 34) #[] #[.pointer (some ⟨b_1_0, o_1_0, none⟩)]), (7, .int .i64 (p0.length : Int)), (8, .int .i64 v6)] a ∧ Sat (Mem.add F χ) Φ w) hl3 ?_ ?_
      · exact fun a w hc hs => ⟨(hc.keep (hc.keep (hc.keep (hc.keep hc.nil (t := 8) rfl) (t := 7) rfl) (t := 1) rfl) (t := 0) rfl), hs⟩
      · rintro v6 r3 hr a w ⟨hc, hs⟩
        refine WC.use hc hs ?_
        clear hc hs
        (try dsimp only at hr)
        unfold slices_IndexFunc_int_int_Fgen_Check_1_p_b2 at hr
        refine WC.then ?_
        refine WC.region [(0, true)] rfl ?_
        refine WO.bin rfl rfl rfl rfl rfl rfl ?_
        refine WO.done ?_
        refine At.seq_wc ?_
        refine WC.then ?_
        refine WC.cond rfl (fun hb10 => ?_) (fun hb10 => ?_)
        · have hr := cond_t hb10 hr
          refine WC.skip ?_
          refine At.seq_wc ?_
          refine WC.then ?_
          refine WC.block ?_
          refine WC.then ?_
          refine WC.region [(0, true), (1, true)] rfl ?_
          refine WO.move rfl rfl rfl rfl ?_
          refine WO.assign rfl rfl rfl rfl ?_
          refine WO.done ?_
          refine At.seq_wc ?_
          refine WC.then ?_
          refine WC.region [(0, true), (1, true), (2, true), (3, true), (4, false), (5, false)] rfl ?_
          refine WO.move rfl rfl rfl rfl ?_
          refine WO.move rfl rfl rfl rfl ?_
          refine WO.move rfl rfl rfl rfl ?_
          obtain ⟨x11, hx12, hr⟩ := bind_some' hr
          refine WO.indexR h_0 hx12 rfl rfl rfl rfl rfl rfl Try.underlying33 sz_3 ?_
          rintro b13 o14 _ hc15 rfl
          refine WO.loadPn 0 hc15 rfl rfl rfl rfl rfl sc_3 rfl ?_
          obtain ⟨x16, hx17, hr⟩ := bind_some' hr
          refine WO.call rfl rfl rfl rfl rfl cl_34 (CallsRet.lay 1 0 1 [0] [] (by decide) (Mem.add F (List.flatten [χ])) (Φ) rfl rfl (gen_Check_1_p_ok (F := F) (χ := (List.flatten [χ])) (hc_1_0.mono (Mem.le_gather (Mem.add F χ) 1)) rfl hx17 (Φ))) ?_
          rintro _ _ ⟨rfl, hs18⟩
          have hs18 := Sat.unlay F [χ] hs18
          have hs18 := (hs18.arrange 1 0 [0] [] (by decide))
          refine ⟨(Mem.add F χ), (Φ), hs18, trivial, ?_⟩
          refine WO.done ?_
          refine At.seq_wc ?_
          refine WC.cond rfl (fun hb19 => ?_) (fun hb19 => ?_)
          · have hr := cond_t hb19 hr
            refine WC.then ?_
            refine WC.region [(0, true), (1, true)] rfl ?_
            refine WO.move rfl rfl rfl rfl ?_
            refine WO.assign rfl rfl rfl rfl ?_
            refine WO.done ?_
            refine At.seq_wc ?_
            refine WC.ret ?_
            refine At.block_ret ?_
            refine At.seq_ret ?_
            refine At.round_ret hr (fun hy => ?_)
            subst hy
            have hr := hk3
            refine At.block_ret ?_
            refine At.seq_ret ?_
            refine At.seq_ret ?_
            obtain rfl := Option.some.inj hr
            exact At.ret (fun a w hc hs => (resVs_cons (hc.res rfl) resVs_nil)) (fun w hs => ⟨rfl, hs⟩)
          · have hr := cond_f hb19 hr
            refine WC.skip ?_
            refine At.block_normal ?_
            refine At.seq_wc ?_
            refine WC.region [(0, true), (1, true)] rfl ?_
            refine WO.bin rfl rfl rfl rfl rfl rfl ?_
            refine WO.move rfl rfl rfl rfl ?_
            refine WO.done ?_
            refine At.round_next hr ?_
            exact fun a w hc hs => ⟨(hc.keep (hc.keep (hc.keep (hc.keep hc.nil (t := 8) rfl) (t := 7) rfl) (t := 1) rfl) (t := 0) rfl), hs⟩
        · have hr := cond_f hb10 hr
          refine WC.exit ?_
          refine At.seq_exit ?_
          refine At.round_exit hr (fun hy => ?_)
          refine At.exit_block ?_
          refine At.seq_at ?_
          exact fun a w hc hs => ⟨hy, hc.nil, hs⟩
    · rintro a w ⟨rfl, hc, hs⟩
      refine At.use hc hs ?_
      clear hc hs
      (try dsimp only at hk3)
      have hr := hk3
      refine At.seq_at ?_
      exact fun a w hc hs => ⟨hr, hc.nil, hs⟩
  · rintro a w ⟨hr, hc, hs⟩
    refine WC.use hc hs ?_
    clear hc hs
    unfold slices_IndexFunc_int_int_Fgen_Check_1_p_k1 at hr
    refine WC.then ?_
    refine WC.region [(0, true)] rfl ?_
    refine WO.assign rfl rfl rfl rfl ?_
    refine WO.done ?_
    refine At.seq_wc ?_
    refine WC.ret ?_
    obtain rfl := Option.some.inj hr
    exact At.ret (fun a w hc hs => (resVs_cons (hc.res rfl) resVs_nil)) (fun w hs => ⟨rfl, hs⟩)
/-! slices.ContainsFunc[[]int,int] -/
def slices_ContainsFunc_int_int_Fgen_Check_1_p (p0 : List Int) (p1_0 : S_api_Shape) : Option Bool := (slices_IndexFunc_int_int_Fgen_Check_1_p p0 p1_0).bind fun x1 => some (decide (x1 ≥ 0))
theorem slices_ContainsFunc_int_int_Fgen_Check_1_p_ok {F : Mem} {χ : List Chunk} {p0 : List Int} {p1_0 : S_api_Shape} {a_0 : Option Addr} {c_0 : Nat} (h_0 : RdL 1 (RInt .i64) (Mem.add F χ) a_0 c_0 p0) {b_1_0 o_1_0 : Nat} {cs_1_0 : List Value} (hc_1_0 : Cells (Mem.add F χ) b_1_0 o_1_0 cs_1_0) (h_1_0 : R_api_Shape (Mem.add F χ) cs_1_0 p1_0) {r : Bool} (hr : slices_ContainsFunc_int_int_Fgen_Check_1_p p0 p1_0 = some r) (Φ : List (List Chunk)) :
    CallsRet Try.prog 35 (List.toArray [.slice a_0 p0.length c_0, .func (.func 34) #[] #[.pointer (some ⟨b_1_0, o_1_0, none⟩)]]) (Mem.add F χ) Φ (fun v w => v = .bool r ∧ Sat (Mem.add F χ) (Φ) w) := by
  obtain rfl := h_1_0
  refine CallsRet.enter (rs := [.tmp 4]) Try.func35 rfl rfl rfl rfl ?_
  unfold slices_ContainsFunc_int_int_Fgen_Check_1_p at hr
  refine WC.then ?_
  refine WC.region [(0, true)] rfl ?_
  refine WO.assign rfl rfl rfl rfl ?_
  refine WO.done ?_
  refine At.seq_wc ?_
  refine WC.then ?_
  refine WC.region [(0, true), (1, true), (2, false), (3, true), (4, true)] rfl ?_
  refine WO.move rfl rfl rfl rfl ?_
  refine WO.move rfl rfl rfl rfl ?_
  obtain ⟨x1, hx2, hr⟩ := bind_some' hr
  refine WO.call rfl rfl rfl rfl rfl cl_36 (CallsRet.lay 1 0 1 [0] [] (by decide) (Mem.add F (List.flatten [χ])) (Φ) rfl rfl (slices_IndexFunc_int_int_Fgen_Check_1_p_ok (F := F) (χ := (List.flatten [χ])) (h_0.mono (mono_int _) (Mem.le_gather (Mem.add F χ) 1)) (hc_1_0.mono (Mem.le_gather (Mem.add F χ) 1)) rfl hx2 (Φ))) ?_
  rintro _ _ ⟨rfl, hs3⟩
  have hs3 := Sat.unlay F [χ] hs3
  have hs3 := (hs3.arrange 1 0 [0] [] (by decide))
  refine ⟨(Mem.add F χ), (Φ), hs3, trivial, ?_⟩
  refine WO.bin rfl rfl rfl rfl rfl rfl ?_
  refine WO.assign rfl rfl rfl rfl ?_
  refine WO.done ?_
  refine At.seq_wc ?_
  refine WC.ret ?_
  obtain rfl := Option.some.inj hr
  exact At.ret (fun a w hc hs => (resVs_cons (hc.res rfl) resVs_nil)) (fun w hs => ⟨rfl, hs⟩)
/-! peloton/gen.Check -/
def gen_Check_k2 (v9 : Bool) : Option Int := cond v9 (some 80) (some 0)
def gen_Check_k1 (p0 : S_api_Shape) (p1 : List Int) (p2 : Int) (v6 : Bool) : Option Int := cond v6 (some 2) (cond (decide ((p1.length : Int) > p0.Places)) (gen_Check_k2 true) (gen_Check_k2 (decide ((IntKind.wrap .i64 (p2 - 1)) > (IntKind.wrap .i64 (p0.Places - (p1.length : Int)))))))
def gen_Check (p0 : S_api_Shape) (p1 : List Int) (p2 : Int) : Option Int := cond ((p1.length : Int) == 0) (some 90) ((slices_ContainsFunc_int_int_Fgen_Check_1_p p1 p0).bind fun x12 => cond x12 (gen_Check_k1 p0 p1 p2 true) (gen_Check_k1 p0 p1 p2 (decide (p2 < 1))))
theorem gen_Check_ok {F : Mem} {χ : List Chunk} {p0 : S_api_Shape} {p1 : List Int} {p2 : Int} {cs_0 : List Value} (h_0 : R_api_Shape F cs_0 p0) {a_1 : Option Addr} {c_1 : Nat} (h_1 : RdL 1 (RInt .i64) (Mem.add F χ) a_1 c_1 p1) {r : Int} (hr : gen_Check p0 p1 p2 = some r) (Φ : List (List Chunk)) :
    CallsRet Try.prog 29 (List.toArray [.agg cs_0.toArray, .slice a_1 p1.length c_1, .int .i64 p2]) (Mem.add F χ) Φ (fun v w => v = .int .i64 r ∧ Sat (Mem.add F χ) (Φ) w) := by
  obtain rfl := h_0
  refine CallsRet.enter (rs := [.tmp 6]) Try.func29 rfl rfl rfl rfl ?_
  unfold gen_Check at hr
  refine WC.then ?_
  refine WC.region [(0, false), (1, true)] rfl ?_
  refine WO.box rfl rfl rfl rfl rfl (fun _ _ _ => trivial) (fun b1 => ?_)
  refine WO.assign rfl rfl rfl rfl ?_
  refine WO.done ?_
  refine At.seq_wc ?_
  refine WC.then ?_
  refine WC.region [(0, true), (1, true)] rfl ?_
  refine WO.freeze 0 rfl ?_
  have hc3 := Cells.ofAdd F b1 [.int .i64 p0.Layers, .int .i64 p0.Width, .int .i64 p0.Heads, .int .i64 p0.Inner, .int .i64 p0.Vocab, .int .i64 p0.Places] 23
  refine WO.makeFunc (ca := [.tmp 3]) rfl rfl rfl rfl ?_
  refine WO.assign rfl rfl rfl rfl ?_
  refine WO.done ?_
  refine At.seq_wc ?_
  refine WC.then ?_
  refine WC.block ?_
  refine WC.then ?_
  refine WC.region [(0, true), (1, true), (2, true), (3, true)] rfl ?_
  refine WO.move rfl rfl rfl rfl ?_
  refine WO.len rfl rfl rfl rfl Try.underlying33 ?_
  refine WO.bin rfl rfl rfl rfl rfl rfl ?_
  refine WO.assign rfl rfl rfl rfl ?_
  refine WO.done ?_
  refine At.seq_wc ?_
  refine WC.cond rfl (fun hb4 => ?_) (fun hb4 => ?_)
  · have hr := cond_t hb4 hr
    refine WC.then ?_
    refine WC.region [(0, true)] rfl ?_
    refine WO.assign rfl rfl rfl rfl ?_
    refine WO.done ?_
    refine At.seq_wc ?_
    refine WC.ret ?_
    refine At.block_ret ?_
    refine At.seq_ret ?_
    obtain rfl := Option.some.inj hr
    exact At.ret (fun a w hc hs => (resVs_cons (hc.res rfl) resVs_nil)) (fun w hs => ⟨rfl, (hs.arrange 2 0 [1] [] (by decide))⟩)
  · have hr := cond_f hb4 hr
    refine WC.seq (fun a w => ∃ (v6 : Bool), gen_Check_k1 p0 p1 p2 v6 = some r ∧ Ctx 37 [(1, .slice a_1 p1.length c_1), (2, .int .i64 p2), (3, .pointer (some ⟨b1, 0, none⟩)), (13, .bool v6)] a ∧ Sat (Mem.add (Mem.add F χ) [(b1, row [.int .i64 p0.Layers, .int .i64 p0.Width, .int .i64 p0.Heads, .int .i64 p0.Inner, .int .i64 p0.Vocab, .int .i64 p0.Places] 23)]) Φ w) ?_ ?_
    · refine WC.region [(0, true), (1, true), (2, false), (3, true), (4, true), (5, true), (6, true), (7, true)] rfl ?_
      refine WO.move rfl rfl rfl rfl ?_
      refine WO.move rfl rfl rfl rfl ?_
      obtain ⟨x12, hx13, hr⟩ := bind_some' hr
      refine WO.call rfl rfl rfl rfl rfl cl_35 (CallsRet.lay 2 0 2 [0, 1] [] (by decide) (Mem.add F (List.flatten [[(b1, row [.int .i64 p0.Layers, .int .i64 p0.Width, .int .i64 p0.Heads, .int .i64 p0.Inner, .int .i64 p0.Vocab, .int .i64 p0.Places] 23)], χ])) (Φ) rfl rfl (slices_ContainsFunc_int_int_Fgen_Check_1_p_ok (F := F) (χ := (List.flatten [[(b1, row [.int .i64 p0.Layers, .int .i64 p0.Width, .int .i64 p0.Heads, .int .i64 p0.Inner, .int .i64 p0.Vocab, .int .i64 p0.Places] 23)], χ])) (h_1.mono (mono_int _) (Mem.le.trans (Mem.le_pick (Mem.add (Mem.add F χ) [(b1, row [.int .i64 p0.Layers, .int .i64 p0.Width, .int .i64 p0.Heads, .int .i64 p0.Inner, .int .i64 p0.Vocab, .int .i64 p0.Places] 23)]) 2 [1] (by decide)) (Mem.le_gather (Mem.add (Mem.add F χ) [(b1, row [.int .i64 p0.Layers, .int .i64 p0.Width, .int .i64 p0.Heads, .int .i64 p0.Inner, .int .i64 p0.Vocab, .int .i64 p0.Places] 23)]) 2))) (hc3.mono (Mem.le.trans (Mem.le_pick (Mem.add (Mem.add F χ) [(b1, row [.int .i64 p0.Layers, .int .i64 p0.Width, .int .i64 p0.Heads, .int .i64 p0.Inner, .int .i64 p0.Vocab, .int .i64 p0.Places] 23)]) 2 [0] (by decide)) (Mem.le_gather (Mem.add (Mem.add F χ) [(b1, row [.int .i64 p0.Layers, .int .i64 p0.Width, .int .i64 p0.Heads, .int .i64 p0.Inner, .int .i64 p0.Vocab, .int .i64 p0.Places] 23)]) 2))) rfl hx13 (Φ))) ?_
      rintro _ _ ⟨rfl, hs14⟩
      have hs14 := Sat.unlay F [[(b1, row [.int .i64 p0.Layers, .int .i64 p0.Width, .int .i64 p0.Heads, .int .i64 p0.Inner, .int .i64 p0.Vocab, .int .i64 p0.Places] 23)], χ] hs14
      have hs14 := (hs14.arrange 2 0 [0, 1] [] (by decide))
      refine ⟨(Mem.add (Mem.add F χ) [(b1, row [.int .i64 p0.Layers, .int .i64 p0.Width, .int .i64 p0.Heads, .int .i64 p0.Inner, .int .i64 p0.Vocab, .int .i64 p0.Places] 23)]), (Φ), hs14, trivial, ?_⟩
      refine WO.move rfl rfl rfl rfl ?_
      refine WO.split (t := 17) rfl (fun hg15 => ?_) (fun hg15 => ?_)
      · have hr := cond_t hg15 hr
        refine WO.skip rfl rfl rfl rfl ?_
        refine WO.skip rfl rfl rfl rfl ?_
        refine WO.pickT rfl rfl rfl rfl rfl ?_
        refine WO.assign rfl rfl rfl rfl ?_
        refine WO.done ?_
        refine At.seq_at ?_
        exact fun a w hc hs => ⟨true, hr, (hc.keep (hc.keep (hc.keep (hc.keep hc.nil (t := 13) rfl) (t := 3) rfl) (t := 2) rfl) (t := 1) rfl), hs⟩
      · have hr := cond_f hg15 hr
        refine WO.move rfl rfl rfl rfl ?_
        refine WO.bin rfl rfl rfl rfl rfl rfl ?_
        refine WO.pickF rfl rfl rfl rfl rfl ?_
        refine WO.assign rfl rfl rfl rfl ?_
        refine WO.done ?_
        refine At.seq_at ?_
        exact fun a w hc hs => ⟨(decide (p2 < 1)), hr, (hc.keep (hc.keep (hc.keep (hc.keep hc.nil (t := 13) rfl) (t := 3) rfl) (t := 2) rfl) (t := 1) rfl), hs⟩
    · rintro a w ⟨v6, hr, hc, hs⟩
      refine WC.use hc hs ?_
      clear hc hs
      unfold gen_Check_k1 at hr
      refine WC.cond rfl (fun hb7 => ?_) (fun hb7 => ?_)
      · have hr := cond_t hb7 hr
        refine WC.then ?_
        refine WC.region [(0, true)] rfl ?_
        refine WO.assign rfl rfl rfl rfl ?_
        refine WO.done ?_
        refine At.seq_wc ?_
        refine WC.ret ?_
        refine At.block_ret ?_
        refine At.seq_ret ?_
        obtain rfl := Option.some.inj hr
        exact At.ret (fun a w hc hs => (resVs_cons (hc.res rfl) resVs_nil)) (fun w hs => ⟨rfl, (hs.arrange 2 0 [1] [] (by decide))⟩)
      · have hr := cond_f hb7 hr
        refine WC.seq (fun a w => ∃ (v9 : Bool), gen_Check_k2 v9 = some r ∧ Ctx 37 [(21, .bool v9)] a ∧ Sat (Mem.add (Mem.add F χ) [(b1, row [.int .i64 p0.Layers, .int .i64 p0.Width, .int .i64 p0.Heads, .int .i64 p0.Inner, .int .i64 p0.Vocab, .int .i64 p0.Places] 23)]) Φ w) ?_ ?_
        · refine WC.region [(0, true), (1, true), (2, true), (3, false), (4, true), (5, true), (6, true), (7, true), (8, true), (9, false), (10, true), (11, true), (12, true), (13, true), (14, true), (15, true)] rfl ?_
          refine WO.move rfl rfl rfl rfl ?_
          refine WO.len rfl rfl rfl rfl Try.underlying33 ?_
          refine WO.fieldAddr 5 rfl rfl rfl rfl fl_23_5 ?_
          refine WO.loadPn 5 (hc3.mono (Mem.le_pick (Mem.add (Mem.add F χ) [(b1, row [.int .i64 p0.Layers, .int .i64 p0.Width, .int .i64 p0.Heads, .int .i64 p0.Inner, .int .i64 p0.Vocab, .int .i64 p0.Places] 23)]) 2 [0] (by decide))) rfl rfl rfl rfl rfl sc_3 rfl ?_
          refine WO.bin rfl rfl rfl rfl rfl rfl ?_
          refine WO.move rfl rfl rfl rfl ?_
          refine WO.split (t := 27) rfl (fun hg11 => ?_) (fun hg11 => ?_)
          · have hr := cond_t hg11 hr
            refine WO.skip rfl rfl rfl rfl ?_
            refine WO.skip rfl rfl rfl rfl ?_
            refine WO.skip rfl rfl rfl rfl ?_
            refine WO.skipF rfl rfl rfl rfl ?_
            refine WO.skip rfl rfl rfl rfl ?_
            refine WO.skip rfl rfl rfl rfl ?_
            refine WO.skip rfl rfl rfl rfl ?_
            refine WO.skip rfl rfl rfl rfl ?_
            refine WO.pickT rfl rfl rfl rfl rfl ?_
            refine WO.assign rfl rfl rfl rfl ?_
            refine WO.done ?_
            refine At.seq_at ?_
            exact fun a w hc hs => ⟨true, hr, (hc.keep hc.nil (t := 21) rfl), hs⟩
          · have hr := cond_f hg11 hr
            refine WO.move rfl rfl rfl rfl ?_
            refine WO.bin rfl rfl rfl rfl rfl rfl ?_
            refine WO.fieldAddr 5 rfl rfl rfl rfl fl_23_5 ?_
            refine WO.loadPn 5 (hc3.mono (Mem.le_pick (Mem.add (Mem.add F χ) [(b1, row [.int .i64 p0.Layers, .int .i64 p0.Width, .int .i64 p0.Heads, .int .i64 p0.Inner, .int .i64 p0.Vocab, .int .i64 p0.Places] 23)]) 2 [0] (by decide))) rfl rfl rfl rfl rfl sc_3 rfl ?_
            refine WO.move rfl rfl rfl rfl ?_
            refine WO.len rfl rfl rfl rfl Try.underlying33 ?_
            refine WO.bin rfl rfl rfl rfl rfl rfl ?_
            refine WO.bin rfl rfl rfl rfl rfl rfl ?_
            refine WO.pickF rfl rfl rfl rfl rfl ?_
            refine WO.assign rfl rfl rfl rfl ?_
            refine WO.done ?_
            refine At.seq_at ?_
            exact fun a w hc hs => ⟨(decide ((IntKind.wrap .i64 (p2 - 1)) > (IntKind.wrap .i64 (p0.Places - (p1.length : Int))))), hr, (hc.keep hc.nil (t := 21) rfl), hs⟩
        · rintro a w ⟨v9, hr, hc, hs⟩
          refine WC.use hc hs ?_
          clear hc hs
          unfold gen_Check_k2 at hr
          refine WC.cond rfl (fun hb10 => ?_) (fun hb10 => ?_)
          · have hr := cond_t hb10 hr
            refine WC.then ?_
            refine WC.region [(0, true)] rfl ?_
            refine WO.assign rfl rfl rfl rfl ?_
            refine WO.done ?_
            refine At.seq_wc ?_
            refine WC.ret ?_
            refine At.block_ret ?_
            refine At.seq_ret ?_
            obtain rfl := Option.some.inj hr
            exact At.ret (fun a w hc hs => (resVs_cons (hc.res rfl) resVs_nil)) (fun w hs => ⟨rfl, (hs.arrange 2 0 [1] [] (by decide))⟩)
          · have hr := cond_f hb10 hr
            refine WC.skip ?_
            refine At.block_normal ?_
            refine At.seq_wc ?_
            refine WC.then ?_
            refine WC.region [(0, true)] rfl ?_
            refine WO.assign rfl rfl rfl rfl ?_
            refine WO.done ?_
            refine At.seq_wc ?_
            refine WC.ret ?_
            obtain rfl := Option.some.inj hr
            exact At.ret (fun a w hc hs => (resVs_cons (hc.res rfl) resVs_nil)) (fun w hs => ⟨rfl, (hs.arrange 2 0 [1] [] (by decide))⟩)
/-! (*peloton/admit.Desk).Judge -/
def admit_Desk_Judge_vvvvvvvom_k1 (p0 : S_admit_Desk) (p1 : S_api_Request) (v7 : Bool) : Option Int := cond v7 (some 2) ((some (Option.getD (mget p0.took p1.ID) false)).bind fun x9 => cond x9 (some 210) ((gen_Check p0.s p1.Prompt p1.Most).bind fun x14 => cond (x14 != 0) (some x14) (cond (decide ((p0.row.length : Int) ≥ p0.room)) (some 211) (some 0))))
def admit_Desk_Judge_vvvvvvvom (p0 : S_admit_Desk) (p1 : S_api_Request) : Option Int := cond (decide (p1.ID < 0)) (admit_Desk_Judge_vvvvvvvom_k1 p0 p1 true) (admit_Desk_Judge_vvvvvvvom_k1 p0 p1 (decide (p1.ID ≥ 1099511627776)))
theorem admit_Desk_Judge_vvvvvvvom_ok {F : Mem} {χ : List Chunk} {p0 : S_admit_Desk} {p1 : S_api_Request} {b_0 : Nat} {a_0_7 : Option Addr} {c_0_7 : Nat} {ψ_0_7 : List Chunk} (ho_0_7 : OwnL 3 R_api_Request F 37 a_0_7 c_0_7 p0.row ψ_0_7) {bm_0_8 : Nat} {ψ_0_8 : List Chunk} (hm_0_8 : OwnM (fun x : Int => Value.int .i64 x) (RV1 RBool) F bm_0_8 p0.took ψ_0_8) {cs_1 : List Value} (h_1 : R_api_Request (Mem.add F χ) cs_1 p1) {r : Int} (hr : admit_Desk_Judge_vvvvvvvom p0 p1 = some r) (Φ : List (List Chunk)) :
    CallsRet Try.prog 14 (List.toArray [.pointer (some ⟨b_0, 0, none⟩), .agg cs_1.toArray]) (Mem.add F χ) ([(b_0, row [.int .i64 p0.s.Layers, .int .i64 p0.s.Width, .int .i64 p0.s.Heads, .int .i64 p0.s.Inner, .int .i64 p0.s.Vocab, .int .i64 p0.s.Places, .int .i64 p0.room, .slice a_0_7 p0.row.length c_0_7, .map (some bm_0_8)] 57)] :: ψ_0_7 :: ψ_0_8 :: Φ) (fun v w => v = .int .i64 r ∧ Sat (Mem.add F χ) ([(b_0, row [.int .i64 p0.s.Layers, .int .i64 p0.s.Width, .int .i64 p0.s.Heads, .int .i64 p0.s.Inner, .int .i64 p0.s.Vocab, .int .i64 p0.s.Places, .int .i64 p0.room, .slice a_0_7 p0.row.length c_0_7, .map (some bm_0_8)] 57)] :: ψ_0_7 :: ψ_0_8 :: Φ) w) := by
  obtain ⟨a1, c2, rfl, h3⟩ := h_1
  refine CallsRet.enter (rs := [.tmp 4]) Try.func14 rfl rfl rfl rfl ?_
  unfold admit_Desk_Judge_vvvvvvvom at hr
  refine WC.then ?_
  refine WC.region [(0, false), (1, true)] rfl ?_
  refine WO.box rfl rfl rfl rfl rfl (fun _ _ _ => trivial) (fun b4 => ?_)
  refine WO.assign rfl rfl rfl rfl ?_
  refine WO.done ?_
  refine At.seq_wc ?_
  refine WC.then ?_
  refine WC.block ?_
  refine WC.seq (fun a w => ∃ (v7 : Bool), admit_Desk_Judge_vvvvvvvom_k1 p0 p1 v7 = some r ∧ Ctx 45 [(0, .pointer (some ⟨b_0, 0, none⟩)), (3, .pointer (some ⟨b4, 0, none⟩)), (6, .bool v7)] a ∧ Sat (Mem.add F χ) ([(b4, row [.int .i64 p1.ID, .int .i64 p1.Most, .slice a1 p1.Prompt.length c2] 37)] :: [(b_0, row [.int .i64 p0.s.Layers, .int .i64 p0.s.Width, .int .i64 p0.s.Heads, .int .i64 p0.s.Inner, .int .i64 p0.s.Vocab, .int .i64 p0.s.Places, .int .i64 p0.room, .slice a_0_7 p0.row.length c_0_7, .map (some bm_0_8)] 57)] :: ψ_0_7 :: ψ_0_8 :: Φ) w) ?_ ?_
  · refine WC.region [(0, true), (1, false), (2, true), (3, true), (4, true), (5, false), (6, true), (7, true), (8, true)] rfl ?_
    refine WO.fieldAddr 0 rfl rfl rfl rfl fl_37_0 ?_
    refine WO.load 0 rfl rfl rfl rfl sc_3 rfl rfl ?_
    refine WO.bin rfl rfl rfl rfl rfl rfl ?_
    refine WO.move rfl rfl rfl rfl ?_
    refine WO.split (t := 10) rfl (fun hg19 => ?_) (fun hg19 => ?_)
    · have hr := cond_t hg19 hr
      refine WO.skip rfl rfl rfl rfl ?_
      refine WO.skipF rfl rfl rfl rfl ?_
      refine WO.skip rfl rfl rfl rfl ?_
      refine WO.pickT rfl rfl rfl rfl rfl ?_
      refine WO.assign rfl rfl rfl rfl ?_
      refine WO.done ?_
      refine At.seq_at ?_
      exact fun a w hc hs => ⟨true, hr, (hc.keep (hc.keep (hc.keep hc.nil (t := 6) rfl) (t := 3) rfl) (t := 0) rfl), hs⟩
    · have hr := cond_f hg19 hr
      refine WO.fieldAddr 0 rfl rfl rfl rfl fl_37_0 ?_
      refine WO.load 0 rfl rfl rfl rfl sc_3 rfl rfl ?_
      refine WO.bin rfl rfl rfl rfl rfl rfl ?_
      refine WO.pickF rfl rfl rfl rfl rfl ?_
      refine WO.assign rfl rfl rfl rfl ?_
      refine WO.done ?_
      refine At.seq_at ?_
      exact fun a w hc hs => ⟨(decide (p1.ID ≥ 1099511627776)), hr, (hc.keep (hc.keep (hc.keep hc.nil (t := 6) rfl) (t := 3) rfl) (t := 0) rfl), hs⟩
  · rintro a w ⟨v7, hr, hc, hs⟩
    refine WC.use hc hs ?_
    clear hc hs
    unfold admit_Desk_Judge_vvvvvvvom_k1 at hr
    refine WC.cond rfl (fun hb8 => ?_) (fun hb8 => ?_)
    · have hr := cond_t hb8 hr
      refine WC.then ?_
      refine WC.region [(0, true)] rfl ?_
      refine WO.assign rfl rfl rfl rfl ?_
      refine WO.done ?_
      refine At.seq_wc ?_
      refine WC.ret ?_
      refine At.block_ret ?_
      refine At.seq_ret ?_
      obtain rfl := Option.some.inj hr
      exact At.ret (fun a w hc hs => (resVs_cons (hc.res rfl) resVs_nil)) (fun w hs => ⟨rfl, (hs.arrange 1 4 [0] [2, 3, 4] (by decide))⟩)
    · have hr := cond_f hb8 hr
      refine WC.then ?_
      refine WC.draw (Sat (Mem.add F χ) ([(b4, row [.int .i64 p1.ID, .int .i64 p1.Most, .slice a1 p1.Prompt.length c2] 37)] :: [(b_0, row [.int .i64 p0.s.Layers, .int .i64 p0.s.Width, .int .i64 p0.s.Heads, .int .i64 p0.s.Inner, .int .i64 p0.s.Vocab, .int .i64 p0.s.Places, .int .i64 p0.room, .slice a_0_7 p0.row.length c_0_7, .map (some bm_0_8)] 57)] :: ψ_0_7 :: ψ_0_8 :: Φ)) (fun _ h => (h.arrange 1 4 [0] [1, 2, 3, 4] (by decide))) [(0, true), (1, true), (2, true), (3, true), (4, true), (5, true), (6, true), (7, true)] mixed (by kernel_rfl) rfl (by kernel_rfl) ?_
      refine WO.move rfl rfl rfl rfl ?_
      refine WO.nilCheck rfl rfl rfl rfl ?_
      refine WO.fieldAddr 8 rfl rfl rfl rfl fl_57_3 ?_
      refine WO.loadY 1 rfl rfl rfl rfl sc_55 rfl rfl ?_
      refine WO.fieldAddr 0 rfl rfl rfl rfl fl_37_0 ?_
      refine WO.loadY 0 rfl rfl rfl rfl sc_3 rfl rfl ?_
      obtain ⟨x9, hx10, hr⟩ := bind_some' hr
      have hx10 := Option.some.inj hx10
      refine WO.lookupY (q := p1.ID) (z' := false) false 3 key_3 hm_0_8 rfl zb_4 ⟨rfl, rfl⟩ rfl rfl rfl rfl rfl Try.underlying55 (fun v11 hv12 => ?_)
      rw [hx10] at hv12
      obtain ⟨_, hv12⟩ := hv12
      obtain rfl := (List.cons.inj hv12).1
      refine WO.assign rfl rfl rfl rfl ?_
      refine WO.done ?_
      refine At.seq_wc ?_
      refine WC.cond rfl (fun hb13 => ?_) (fun hb13 => ?_)
      · have hr := cond_t hb13 hr
        refine WC.then ?_
        refine WC.region [(0, true)] rfl ?_
        refine WO.assign rfl rfl rfl rfl ?_
        refine WO.done ?_
        refine At.seq_wc ?_
        refine WC.ret ?_
        refine At.block_ret ?_
        refine At.seq_ret ?_
        obtain rfl := Option.some.inj hr
        exact At.ret (fun a w hc hs => (resVs_cons (hc.res rfl) resVs_nil)) (fun w hs => ⟨rfl, (hs.arrange 1 4 [0] [2, 3, 4] (by decide))⟩)
      · have hr := cond_f hb13 hr
        refine WC.skip ?_
        refine At.block_normal ?_
        refine At.seq_wc ?_
        refine WC.then ?_
        refine WC.then ?_
        refine WC.draw (Sat (Mem.add F χ) ([(b4, row [.int .i64 p1.ID, .int .i64 p1.Most, .slice a1 p1.Prompt.length c2] 37)] :: [(b_0, row [.int .i64 p0.s.Layers, .int .i64 p0.s.Width, .int .i64 p0.s.Heads, .int .i64 p0.s.Inner, .int .i64 p0.s.Vocab, .int .i64 p0.s.Places, .int .i64 p0.room, .slice a_0_7 p0.row.length c_0_7, .map (some bm_0_8)] 57)] :: Φ)) (fun _ h => (h.arrange 1 4 [0] [1, 2] (by decide))) [(0, true), (1, true), (2, true), (3, true), (4, true), (5, true), (6, true), (7, true), (8, false), (9, true)] mixed (by kernel_rfl) rfl (by kernel_rfl) ?_
        refine WO.move rfl rfl rfl rfl ?_
        refine WO.nilCheck rfl rfl rfl rfl ?_
        refine WO.fieldAddr 0 rfl rfl rfl rfl fl_57_0 ?_
        refine WO.loadAY 1 6 rfl rfl rfl rfl ag_23 rfl rfl rfl ?_
        refine WO.fieldAddr 2 rfl rfl rfl rfl fl_37_2 ?_
        refine WO.loadY 0 rfl rfl rfl rfl sc_33 rfl rfl ?_
        refine WO.fieldAddr 1 rfl rfl rfl rfl fl_37_1 ?_
        refine WO.loadY 0 rfl rfl rfl rfl sc_3 rfl rfl ?_
        obtain ⟨x14, hx15, hr⟩ := bind_some' hr
        refine WO.call rfl rfl rfl rfl rfl cl_29 (CallsRet.lay 1 4 1 [0] [1, 2, 3, 4] (by decide) (Mem.add F (List.flatten [χ])) ([(b4, row [.int .i64 p1.ID, .int .i64 p1.Most, .slice a1 p1.Prompt.length c2] 37)] :: [(b_0, row [.int .i64 p0.s.Layers, .int .i64 p0.s.Width, .int .i64 p0.s.Heads, .int .i64 p0.s.Inner, .int .i64 p0.s.Vocab, .int .i64 p0.s.Places, .int .i64 p0.room, .slice a_0_7 p0.row.length c_0_7, .map (some bm_0_8)] 57)] :: ψ_0_7 :: ψ_0_8 :: Φ) rfl rfl (gen_Check_ok (F := F) (χ := (List.flatten [χ])) rfl (h3.mono (mono_int _) (Mem.le_gather (Mem.add F χ) 1)) hx15 ([(b4, row [.int .i64 p1.ID, .int .i64 p1.Most, .slice a1 p1.Prompt.length c2] 37)] :: [(b_0, row [.int .i64 p0.s.Layers, .int .i64 p0.s.Width, .int .i64 p0.s.Heads, .int .i64 p0.s.Inner, .int .i64 p0.s.Vocab, .int .i64 p0.s.Places, .int .i64 p0.room, .slice a_0_7 p0.row.length c_0_7, .map (some bm_0_8)] 57)] :: ψ_0_7 :: ψ_0_8 :: Φ))) ?_
        rintro _ _ ⟨rfl, hs16⟩
        have hs16 := Sat.unlay F [χ] hs16
        have hs16 := (hs16.arrange 1 4 [0] [1, 2, 3, 4] (by decide))
        refine ⟨(Mem.add F χ), ([(b4, row [.int .i64 p1.ID, .int .i64 p1.Most, .slice a1 p1.Prompt.length c2] 37)] :: [(b_0, row [.int .i64 p0.s.Layers, .int .i64 p0.s.Width, .int .i64 p0.s.Heads, .int .i64 p0.s.Inner, .int .i64 p0.s.Vocab, .int .i64 p0.s.Places, .int .i64 p0.room, .slice a_0_7 p0.row.length c_0_7, .map (some bm_0_8)] 57)] :: ψ_0_7 :: ψ_0_8 :: Φ), hs16, (hs16.arrange 1 4 [0] [1, 2] (by decide)), ?_⟩
        refine WO.assign rfl rfl rfl rfl ?_
        refine WO.done ?_
        refine At.seq_wc ?_
        refine WC.then ?_
        refine WC.region [(0, true), (1, true)] rfl ?_
        refine WO.move rfl rfl rfl rfl ?_
        refine WO.bin rfl rfl rfl rfl rfl rfl ?_
        refine WO.done ?_
        refine At.seq_wc ?_
        refine WC.cond rfl (fun hb17 => ?_) (fun hb17 => ?_)
        · have hr := cond_t hb17 hr
          refine WC.then ?_
          refine WC.region [(0, true), (1, true)] rfl ?_
          refine WO.move rfl rfl rfl rfl ?_
          refine WO.assign rfl rfl rfl rfl ?_
          refine WO.done ?_
          refine At.seq_wc ?_
          refine WC.ret ?_
          refine At.seq_ret ?_
          obtain rfl := Option.some.inj hr
          exact At.ret (fun a w hc hs => (resVs_cons (hc.res rfl) resVs_nil)) (fun w hs => ⟨rfl, (hs.arrange 1 4 [0] [2, 3, 4] (by decide))⟩)
        · have hr := cond_f hb17 hr
          refine WC.skip ?_
          refine At.seq_wc ?_
          refine WC.then ?_
          refine WC.then ?_
          refine WC.draw (Sat (Mem.add F χ) ([(b4, row [.int .i64 p1.ID, .int .i64 p1.Most, .slice a1 p1.Prompt.length c2] 37)] :: [(b_0, row [.int .i64 p0.s.Layers, .int .i64 p0.s.Width, .int .i64 p0.s.Heads, .int .i64 p0.s.Inner, .int .i64 p0.s.Vocab, .int .i64 p0.s.Places, .int .i64 p0.room, .slice a_0_7 p0.row.length c_0_7, .map (some bm_0_8)] 57)] :: ψ_0_7 :: ψ_0_8 :: Φ)) (fun _ h => (h.arrange 1 4 [0] [1, 2, 3, 4] (by decide))) [(0, true), (1, true), (2, true), (3, true), (4, true), (5, true), (6, true), (7, true), (8, true), (9, true)] mixed (by kernel_rfl) rfl (by kernel_rfl) ?_
          refine WO.move rfl rfl rfl rfl ?_
          refine WO.nilCheck rfl rfl rfl rfl ?_
          refine WO.fieldAddr 7 rfl rfl rfl rfl fl_57_2 ?_
          refine WO.loadY 1 rfl rfl rfl rfl sc_32 rfl rfl ?_
          refine WO.len rfl rfl rfl rfl Try.underlying32 ?_
          refine WO.move rfl rfl rfl rfl ?_
          refine WO.nilCheck rfl rfl rfl rfl ?_
          refine WO.fieldAddr 6 rfl rfl rfl rfl fl_57_1 ?_
          refine WO.loadY 1 rfl rfl rfl rfl sc_3 rfl rfl ?_
          refine WO.bin rfl rfl rfl rfl rfl rfl ?_
          refine WO.done ?_
          refine At.seq_wc ?_
          refine WC.cond rfl (fun hb18 => ?_) (fun hb18 => ?_)
          · have hr := cond_t hb18 hr
            refine WC.then ?_
            refine WC.region [(0, true)] rfl ?_
            refine WO.assign rfl rfl rfl rfl ?_
            refine WO.done ?_
            refine At.seq_wc ?_
            refine WC.ret ?_
            refine At.seq_ret ?_
            obtain rfl := Option.some.inj hr
            exact At.ret (fun a w hc hs => (resVs_cons (hc.res rfl) resVs_nil)) (fun w hs => ⟨rfl, (hs.arrange 1 4 [0] [2, 3, 4] (by decide))⟩)
          · have hr := cond_f hb18 hr
            refine WC.skip ?_
            refine At.seq_wc ?_
            refine WC.then ?_
            refine WC.region [(0, true)] rfl ?_
            refine WO.assign rfl rfl rfl rfl ?_
            refine WO.done ?_
            refine At.seq_wc ?_
            refine WC.ret ?_
            obtain rfl := Option.some.inj hr
            exact At.ret (fun a w hc hs => (resVs_cons (hc.res rfl) resVs_nil)) (fun w hs => ⟨rfl, (hs.arrange 1 4 [0] [2, 3, 4] (by decide))⟩)
/-! slices.Clone[[]int,int] -/
def slices_Clone_int_int (p0 : List Int) : Option (List Int) := (app ([] : List Int) p0).bind fun x6 => some x6
theorem slices_Clone_int_int_ok {F : Mem} {χ : List Chunk} {p0 : List Int} {a_0 : Option Addr} {c_0 : Nat} (h_0 : RdL 1 (RInt .i64) (Mem.add F χ) a_0 c_0 p0) {r : (List Int)} (hr : slices_Clone_int_int p0 = some r) (Φ : List (List Chunk)) :
    CallsRet Try.prog 22 (List.toArray [.slice a_0 p0.length c_0]) (Mem.add F χ) Φ (fun v w => ∃ a0 c0 ψ0, v = .slice a0 r.length c0 ∧ Sat (Mem.add F χ) (ψ0 :: Φ) w ∧ OwnL 1 (RInt .i64) F 3 a0 c0 r ψ0) := by
  refine CallsRet.enter (rs := [.tmp 2]) Try.func22 rfl rfl rfl rfl ?_
  unfold slices_Clone_int_int at hr
  refine WC.then ?_
  refine WC.region [(0, true)] rfl ?_
  refine WO.assign rfl rfl rfl rfl ?_
  refine WO.done ?_
  refine At.seq_wc ?_
  refine WC.then ?_
  refine WC.then ?_
  refine WC.region [(0, true), (1, true)] rfl ?_
  refine WO.move rfl rfl rfl rfl ?_
  refine WO.slNil rfl rfl rfl rfl rfl Try.underlying33 ?_
  rcases a_0 with _ | ad1
  · have z14 := RdL.ofNone h_0
    subst z14
    have hr : some ([] : List Int) = some r := by first | exact hr | simpa [app, lim] using hr
    refine WO.done ?_
    refine At.seq_wc ?_
    refine WC.condT rfl ?_
    refine WC.then ?_
    refine WC.region [(0, true)] rfl ?_
    refine WO.assign rfl rfl rfl rfl ?_
    refine WO.done ?_
    refine At.seq_wc ?_
    refine WC.ret ?_
    refine At.seq_ret ?_
    refine At.empty ?_
    have ho13 : OwnL 1 (RInt .i64) F 3 none 0 ([] : List Int) [] := OwnL.nil
    obtain rfl := Option.some.inj hr
    exact At.ret (fun a w hc hs => (resVs_cons (hc.res rfl) resVs_nil)) (fun w hs => ⟨_, _, _, rfl, hs, (OwnL.re (G := F) (const_int _) ho13)⟩)
  · refine WO.done ?_
    refine At.seq_wc ?_
    refine WC.condF rfl ?_
    refine WC.skip ?_
    refine At.seq_wc ?_
    refine WC.then ?_
    refine WC.region [(0, false), (1, true), (2, false), (3, true)] rfl ?_
    refine WO.buildSl (e := 3) (vs := []) [] [] rfl rfl rfl rfl rfl (fun _ => by kernel_rfl) (fun _ _ _ => trivial) (fun b2 => ?_)
    refine WO.move rfl rfl rfl rfl ?_
    have ho4 : OwnL 1 (RInt .i64) F 3 (some ⟨b2, 0, none⟩) 0 ([] : List Int) [(b2, row [] 3)] := ⟨Nat.le_refl _, .inr ⟨_, [], [], rfl, rfl, Rs.nil, rfl⟩⟩
    obtain ⟨x6, hx7, hr⟩ := bind_some' hr
    refine WO.append 0 (OwnL.re (G := (Mem.add F χ)) (const_int _) ho4) rfl (SrcL.ofRd Try.underlying33 h_0 (Mem.le_refl _)) hx7 rfl rfl rfl rfl rfl rfl Try.underlying33 el_3 (fun _ _ _ => trivial) (fun a8 c9 p10 ho11 => ?_)
    refine WO.assign rfl rfl rfl rfl ?_
    refine WO.done ?_
    refine At.seq_wc ?_
    refine WC.ret ?_
    obtain rfl := Option.some.inj hr
    exact At.ret (fun a w hc hs => (resVs_cons (hc.res rfl) resVs_nil)) (fun w hs => ⟨_, _, _, rfl, hs, (OwnL.re (G := F) (const_int _) ho11)⟩)
/-! (peloton/admit.set[int]).put -/
def admit_set_int_put_m (p0 : List (Int × Bool)) (p1 : Int) : Option (List (Int × Bool)) := some (mput p0 p1 true)
theorem admit_set_int_put_m_ok {F : Mem} {p0 : List (Int × Bool)} {p1 : Int} {bm_0 : Nat} {ψ_0 : List Chunk} (hm_0 : OwnM (fun x : Int => Value.int .i64 x) (RV1 RBool) F bm_0 p0 ψ_0) {r : (List (Int × Bool))} (hr : admit_set_int_put_m p0 p1 = some r) (Φ : List (List Chunk)) :
    CallsRet Try.prog 23 (List.toArray [.map (some bm_0), .int .i64 p1]) F (ψ_0 :: Φ) (fun v w => ∃ ψ0_0, v = .tuple (List.toArray []) ∧ Sat F (ψ0_0 :: Φ) w ∧ OwnM (fun x : Int => Value.int .i64 x) (RV1 RBool) F bm_0 r ψ0_0) := by
  refine CallsRet.enter (rs := []) Try.func23 rfl rfl rfl rfl ?_
  unfold admit_set_int_put_m at hr
  refine WC.region [(0, true), (1, true), (2, false)] rfl ?_
  refine WO.move rfl rfl rfl rfl ?_
  refine WO.move rfl rfl rfl rfl ?_
  refine WO.mapUpdate (q := p1) (u := true) 0 key_3 (OwnM.re (G := F) (constV1 const_bool) hm_0) rfl ⟨rfl, rfl⟩ rfl rfl rfl rfl rfl Try.underlying55 (fun _ _ _ => trivial) (fun p1 hm2 => ?_)
  refine WO.done ?_
  obtain rfl := Option.some.inj hr
  exact At.end (fun a w hc hs => resVs_nil) (fun w hs => ⟨_, rfl, hs, (OwnM.re (G := F) (constV1 const_bool) hm2)⟩)
/-! (*peloton/admit.Desk).Submit -/
def admit_Desk_Submit_vvvvvvvom_k1 (v2 : List Int) (v8 : S_admit_Desk) : Option ((List Int) × S_admit_Desk) := some (v2, v8)
def admit_Desk_Submit_vvvvvvvom_k4 (v38 : List Int) (v44 : Int) (x101 : Int) (v105 : List Int) (v109 : S_admit_Desk) : Option (((List Int) × Int × S_admit_Desk) ⊕ ((List Int) × S_admit_Desk)) := (app v38 [x101]).bind fun x121 => some (.inl (x121, (IntKind.wrap .i64 (v44 + 1)), v109))
def admit_Desk_Submit_vvvvvvvom_k5 (v38 : List Int) (v44 : Int) (v45 : S_admit_Desk) (x91 : S_api_Request) (x101 : Int) (x128 : (List Int)) (v140 : List S_api_Request) : Option (((List Int) × Int × S_admit_Desk) ⊕ ((List Int) × S_admit_Desk)) := (admit_set_int_put_m v45.took x91.ID).bind fun x146 => admit_Desk_Submit_vvvvvvvom_k4 v38 v44 x101 x128 (⟨v45.s, v45.room, v140, x146⟩ : S_admit_Desk)
def admit_Desk_Submit_vvvvvvvom_b2 (p1 : List S_api_Request) (v38 : List Int) (v44 : Int) (v45 : S_admit_Desk) : Option (((List Int) × Int × S_admit_Desk) ⊕ ((List Int) × S_admit_Desk)) := cond (decide (v44 < (p1.length : Int))) ((getI p1 v44).bind fun x91 => (admit_Desk_Judge_vvvvvvvom v45 x91).bind fun x101 => cond (x101 == 0) ((slices_Clone_int_int x91.Prompt).bind fun x128 => (app v45.row [(⟨x91.ID, x91.Most, x128⟩ : S_api_Request)]).bind fun x154 => admit_Desk_Submit_vvvvvvvom_k5 v38 v44 v45 x91 x101 x128 x154) (admit_Desk_Submit_vvvvvvvom_k4 v38 v44 x101 x91.Prompt v45)) (some (.inr (v38, v45)))
def admit_Desk_Submit_vvvvvvvom (p0 : S_admit_Desk) (p1 : List S_api_Request) : Option ((List Int) × S_admit_Desk) := (loopO (fun s => admit_Desk_Submit_vvvvvvvom_b2 p1 s.1 s.2.1 s.2.2) (([] : List Int), 0, p0)).bind (fun (v74, v80) => admit_Desk_Submit_vvvvvvvom_k1 v74 v80)
theorem admit_Desk_Submit_vvvvvvvom_ok {F : Mem} {χ : List Chunk} {p0 : S_admit_Desk} {p1 : List S_api_Request} {b_0 : Nat} {a_0_7 : Option Addr} {c_0_7 : Nat} {ψ_0_7 : List Chunk} (ho_0_7 : OwnL 3 R_api_Request F 37 a_0_7 c_0_7 p0.row ψ_0_7) {bm_0_8 : Nat} {ψ_0_8 : List Chunk} (hm_0_8 : OwnM (fun x : Int => Value.int .i64 x) (RV1 RBool) F bm_0_8 p0.took ψ_0_8) {a_1 : Option Addr} {c_1 : Nat} (h_1 : RdL 3 R_api_Request (Mem.add F χ) a_1 c_1 p1) {r : (List Int) × S_admit_Desk} (hr : admit_Desk_Submit_vvvvvvvom p0 p1 = some r) (Φ : List (List Chunk)) :
    CallsRet Try.prog 7 (List.toArray [.pointer (some ⟨b_0, 0, none⟩), .slice a_1 p1.length c_1]) (Mem.add F χ) ([(b_0, row [.int .i64 p0.s.Layers, .int .i64 p0.s.Width, .int .i64 p0.s.Heads, .int .i64 p0.s.Inner, .int .i64 p0.s.Vocab, .int .i64 p0.s.Places, .int .i64 p0.room, .slice a_0_7 p0.row.length c_0_7, .map (some bm_0_8)] 57)] :: ψ_0_7 :: ψ_0_8 :: Φ) (fun v w => ∃ ψm a0 c0 ψ0 a0_7 c0_7 ψ0_7 bm0_8 ψ0_8, v = .slice a0 r.1.length c0 ∧ Sat (Mem.add (Mem.add F χ) ψm) (ψ0 :: [(b_0, row [.int .i64 r.2.s.Layers, .int .i64 r.2.s.Width, .int .i64 r.2.s.Heads, .int .i64 r.2.s.Inner, .int .i64 r.2.s.Vocab, .int .i64 r.2.s.Places, .int .i64 r.2.room, .slice a0_7 r.2.row.length c0_7, .map (some bm0_8)] 57)] :: ψ0_7 :: ψ0_8 :: Φ) w ∧ OwnL 1 (RInt .i64) (Mem.add F ψm) 27 a0 c0 r.1 ψ0 ∧ OwnL 3 R_api_Request (Mem.add F ψm) 37 a0_7 c0_7 r.2.row ψ0_7 ∧ OwnM (fun x : Int => Value.int .i64 x) (RV1 RBool) (Mem.add F ψm) bm0_8 r.2.took ψ0_8) := by
  refine CallsRet.enter (rs := [.tmp 4]) Try.func7 rfl rfl rfl rfl ?_
  unfold admit_Desk_Submit_vvvvvvvom at hr
  refine WC.then ?_
  refine WC.region [(0, true)] rfl ?_
  refine WO.assign rfl rfl rfl rfl ?_
  refine WO.done ?_
  refine At.seq_wc ?_
  refine WC.then ?_
  refine WC.region [(0, true)] rfl ?_
  refine WO.assign rfl rfl rfl rfl ?_
  refine WO.done ?_
  refine At.seq_wc ?_
  refine WC.seq (fun a w => ∃ (v2 : List Int) (v8 : S_admit_Desk) (a3 : Option Addr) (c4 : Nat) (p5 : List Chunk) (a9 : Option Addr) (c10 : Nat) (p11 : List Chunk) (b14 : Nat) (p15 : List Chunk) (w1 : List Chunk), admit_Desk_Submit_vvvvvvvom_k1 v2 v8 = some r ∧ Ctx 47 [(5, .slice a3 v2.length c4)] a ∧ Sat (Mem.add (Mem.add F χ) w1) (p5 :: p11 :: p15 :: [(b_0, row [.int .i64 v8.s.Layers, .int .i64 v8.s.Width, .int .i64 v8.s.Heads, .int .i64 v8.s.Inner, .int .i64 v8.s.Vocab, .int .i64 v8.s.Places, .int .i64 v8.room, .slice a9 v8.row.length c10, .map (some b14)] 57)] :: Φ) w ∧ OwnL 1 (RInt .i64) F 27 a3 c4 v2 p5 ∧ OwnL 3 R_api_Request (Mem.add F w1) 37 a9 c10 v8.row p11 ∧ OwnM (fun x : Int => Value.int .i64 x) (RV1 RBool) F b14 v8.took p15) ?_ ?_
  · refine WC.then ?_
    refine WC.region [(0, true), (1, true), (2, true)] rfl ?_
    refine WO.move rfl rfl rfl rfl ?_
    refine WO.len rfl rfl rfl rfl Try.underlying32 ?_
    refine WO.move rfl rfl rfl rfl ?_
    refine WO.done ?_
    refine At.seq_wc ?_
    obtain ⟨xl3, hl3, hk3⟩ := bind_some' hr
    refine WC.weaken (fun a w => ∃ (v74 : List Int) (v80 : S_admit_Desk) (a75 : Option Addr) (c76 : Nat) (p77 : List Chunk) (a81 : Option Addr) (c82 : Nat) (p83 : List Chunk) (b86 : Nat) (p87 : List Chunk) (w73 : List Chunk), (v74, v80) = xl3 ∧ Ctx 47 [(5, .slice a75 v74.length c76)] a ∧ Sat (Mem.add (Mem.add F χ) w73) (p77 :: p83 :: p87 :: [(b_0, row [.int .i64 v80.s.Layers, .int .i64 v80.s.Width, .int .i64 v80.s.Heads, .int .i64 v80.s.Inner, .int .i64 v80.s.Vocab, .int .i64 v80.s.Places, .int .i64 v80.room, .slice a81 v80.row.length c82, .map (some b86)] 57)] :: Φ) w ∧ OwnL 1 (RInt .i64) F 27 a75 c76 v74 p77 ∧ OwnL 3 R_api_Request (Mem.add F w73) 37 a81 c82 v80.row p83 ∧ OwnM (fun x : Int => Value.int .i64 x) (RV1 RBool) F b86 v80.took p87) ?_ ?_
    · refine WC.block ?_
      refine WC.loop (fun ⟨v38, v44, v45⟩ a w => ∃ (a39 : Option Addr) (c40 : Nat) (p41 : List Chunk) (a46 : Option Addr) (c47 : Nat) (p48 : List Chunk) (b51 : Nat) (p52 : List Chunk) (w37 : List Chunk), Ctx 47 [(0, .pointer (some ⟨b_0, 0, none⟩)), (5, .slice a39 v38.length c40), (9, .slice a_1 p1.length c_1), (10, .int .i64 (p1.length : Int)), (11, .int .i64 v44)] a ∧ Sat (Mem.add (Mem.add F χ) w37) (p41 :: p48 :: p52 :: [(b_0, row [.int .i64 v45.s.Layers, .int .i64 v45.s.Width, .int .i64 v45.s.Heads, .int .i64 v45.s.Inner, .int .i64 v45.s.Vocab, .int .i64 v45.s.Places, .int .i64 v45.room, .slice a46 v45.row.length c47, .map (some b51)] 57)] :: Φ) w ∧ OwnL 1 (RInt .i64) F 27 a39 c40 v38 p41 ∧ OwnL 3 R_api_Request (Mem.add F w37) 37 a46 c47 v45.row p48 ∧ OwnM (fun x : Int => Value.int .i64 x) (RV1 RBool) F b51 v45.took p52) hl3 ?_ ?_
      · refine At.empty ?_
        have ho161 : OwnL 1 (RInt .i64) F 27 none 0 ([] : List Int) [] := OwnL.nil
        exact fun a w hc hs => ⟨none, 0, [], a_0_7, c_0_7, ψ_0_7, bm_0_8, ψ_0_8, (List.flatten []), (hc.keep (hc.keep (hc.keep (hc.keep (hc.keep hc.nil (t := 11) rfl) (t := 10) rfl) (t := 9) rfl) (t := 5) rfl) (t := 0) rfl), ((hs.arrange 1 4 [0] [1, 3, 4, 2] (by decide)).gather 0), (OwnL.re (G := F) (const_int _) ho161), (ho_0_7.mono mono_api_Request (Mem.le_gather F 0)), (OwnM.re (G := F) (constV1 const_bool) hm_0_8)⟩
      · rintro ⟨v38, v44, v45⟩ r3 hr a w ⟨a39, c40, p41, a46, c47, p48, b51, p52, w37, hc, hs, ho42, ho49, hm53⟩
        refine WC.use hc hs ?_
        clear hc hs
        (try dsimp only at hr)
        unfold admit_Desk_Submit_vvvvvvvom_b2 at hr
        refine WC.then ?_
        refine WC.region [(0, true)] rfl ?_
        refine WO.bin rfl rfl rfl rfl rfl rfl ?_
        refine WO.done ?_
        refine At.seq_wc ?_
        refine WC.then ?_
        refine WC.cond rfl (fun hb90 => ?_) (fun hb90 => ?_)
        · have hr := cond_t hb90 hr
          refine WC.skip ?_
          refine At.seq_wc ?_
          refine WC.then ?_
          refine WC.block ?_
          refine WC.then ?_
          refine WC.region [(0, true), (1, false), (2, false), (3, false)] rfl ?_
          obtain ⟨x91, hx92, hr⟩ := bind_some' hr
          refine WO.indexR h_1 hx92 rfl rfl rfl rfl rfl rfl Try.underlying32 sz_37 ?_
          rintro b93 o94 _ hc95 ⟨a96, c97, rfl, h98⟩
          refine WO.loadPAn 0 3 (hc95.mono (Mem.le_pick (Mem.add (Mem.add F χ) w37) 2 [1] (by decide))) rfl rfl rfl rfl rfl ag_37 rfl rfl ?_
          refine WO.alloc (.agg #[.int .i64 0, .int .i64 0, .slice none 0 0]) rfl rfl rfl zb_37 rfl (fun _ _ _ => trivial) (fun b99 => ?_)
          refine WO.storeA 0 3 rfl rfl rfl rfl sz_37 rfl rfl rfl rfl (fun _ _ => trivial) ?_
          refine WO.done ?_
          refine At.seq_wc ?_
          refine WC.then ?_
          refine WC.region [(0, true), (1, false), (2, false), (3, true)] rfl ?_
          refine WO.move rfl rfl rfl rfl ?_
          refine WO.loadA 0 3 rfl rfl rfl rfl ag_37 rfl rfl rfl ?_
          obtain ⟨x101, hx102, hr⟩ := bind_some' hr
          refine WO.call rfl rfl rfl rfl rfl cl_14 (CallsRet.lay 2 5 1 [1, 0] [6, 4, 5, 2, 3] (by decide) (Mem.add (Mem.add F w37) (List.flatten [χ])) ([(b_0, row [.int .i64 v45.s.Layers, .int .i64 v45.s.Width, .int .i64 v45.s.Heads, .int .i64 v45.s.Inner, .int .i64 v45.s.Vocab, .int .i64 v45.s.Places, .int .i64 v45.room, .slice a46 v45.row.length c47, .map (some b51)] 57)] :: p48 :: p52 :: [(b99, row [.int .i64 x91.ID, .int .i64 x91.Most, .slice a96 x91.Prompt.length c97] 37)] :: p41 :: Φ) rfl rfl (admit_Desk_Judge_vvvvvvvom_ok (F := (Mem.add F w37)) (χ := (List.flatten [χ])) ho49 (OwnM.re (G := (Mem.add F w37)) (constV1 const_bool) hm53) ⟨_, _, rfl, (h98.mono (mono_int _) (Mem.le.trans (Mem.le_pick (Mem.add (Mem.add F w37) χ) 2 [0] (by decide)) (Mem.le_gather (Mem.add (Mem.add F w37) χ) 1)))⟩ hx102 ([(b99, row [.int .i64 x91.ID, .int .i64 x91.Most, .slice a96 x91.Prompt.length c97] 37)] :: p41 :: Φ))) ?_
          rintro _ _ ⟨rfl, hs103⟩
          have hs103 := Sat.unlay (Mem.add F w37) [χ] hs103
          have hs103 := (hs103.arrange 2 5 [1, 0] [5, 6, 3, 4, 2] (by decide))
          refine ⟨(Mem.add (Mem.add F χ) w37), ([(b99, row [.int .i64 x91.ID, .int .i64 x91.Most, .slice a96 x91.Prompt.length c97] 37)] :: p41 :: p48 :: p52 :: [(b_0, row [.int .i64 v45.s.Layers, .int .i64 v45.s.Width, .int .i64 v45.s.Heads, .int .i64 v45.s.Inner, .int .i64 v45.s.Vocab, .int .i64 v45.s.Places, .int .i64 v45.room, .slice a46 v45.row.length c47, .map (some b51)] 57)] :: Φ), hs103, trivial, ?_⟩
          refine WO.assign rfl rfl rfl rfl ?_
          refine WO.done ?_
          refine At.seq_wc ?_
          refine WC.seq (fun a w => ∃ (v105 : List Int) (v109 : S_admit_Desk) (a106 : Option Addr) (c107 : Nat) (a110 : Option Addr) (c111 : Nat) (p112 : List Chunk) (b115 : Nat) (p116 : List Chunk) (w104 : List Chunk), admit_Desk_Submit_vvvvvvvom_k4 v38 v44 x101 v105 v109 = some r3 ∧ Ctx 47 [(0, .pointer (some ⟨b_0, 0, none⟩)), (5, .slice a39 v38.length c40), (8, .int .i64 x101), (9, .slice a_1 p1.length c_1), (10, .int .i64 (p1.length : Int)), (11, .int .i64 v44)] a ∧ Sat (Mem.add (Mem.add (Mem.add F χ) w37) w104) (p112 :: p116 :: [(b99, row [.int .i64 x91.ID, .int .i64 x91.Most, .slice a106 v105.length c107] 37)] :: p41 :: [(b_0, row [.int .i64 v109.s.Layers, .int .i64 v109.s.Width, .int .i64 v109.s.Heads, .int .i64 v109.s.Inner, .int .i64 v109.s.Vocab, .int .i64 v109.s.Places, .int .i64 v109.room, .slice a110 v109.row.length c111, .map (some b115)] 57)] :: Φ) w ∧ RdL 1 (RInt .i64) (Mem.add (Mem.add F χ) w104) a106 c107 v105 ∧ OwnL 3 R_api_Request (Mem.add (Mem.add F w37) w104) 37 a110 c111 v109.row p112 ∧ OwnM (fun x : Int => Value.int .i64 x) (RV1 RBool) F b115 v109.took p116) ?_ ?_
          · refine WC.then ?_
            refine WC.region [(0, true), (1, true)] rfl ?_
            refine WO.move rfl rfl rfl rfl ?_
            refine WO.bin rfl rfl rfl rfl rfl rfl ?_
            refine WO.done ?_
            refine At.seq_wc ?_
            refine WC.cond rfl (fun hb127 => ?_) (fun hb127 => ?_)
            · have hr := cond_t hb127 hr
              refine WC.then ?_
              refine WC.region [(0, true), (1, false), (2, false), (3, true), (4, false)] rfl ?_
              refine WO.fieldAddr 2 rfl rfl rfl rfl fl_37_2 ?_
              refine WO.load 0 rfl rfl rfl rfl sc_33 rfl rfl ?_
              obtain ⟨x128, hx129, hr⟩ := bind_some' hr
              refine WO.call rfl rfl rfl rfl rfl cl_22 (CallsRet.lay 2 5 1 [1] [0, 2, 3, 4, 5, 6] (by decide) (Mem.add F (List.flatten [χ])) (w37 :: [(b99, row [.int .i64 x91.ID, .int .i64 x91.Most, .slice a96 x91.Prompt.length c97] 37)] :: p41 :: p48 :: p52 :: [(b_0, row [.int .i64 v45.s.Layers, .int .i64 v45.s.Width, .int .i64 v45.s.Heads, .int .i64 v45.s.Inner, .int .i64 v45.s.Vocab, .int .i64 v45.s.Places, .int .i64 v45.room, .slice a46 v45.row.length c47, .map (some b51)] 57)] :: Φ) rfl rfl (slices_Clone_int_int_ok (F := F) (χ := (List.flatten [χ])) (h98.mono (mono_int _) (Mem.le_gather (Mem.add F χ) 1)) hx129 (w37 :: [(b99, row [.int .i64 x91.ID, .int .i64 x91.Most, .slice a96 x91.Prompt.length c97] 37)] :: p41 :: p48 :: p52 :: [(b_0, row [.int .i64 v45.s.Layers, .int .i64 v45.s.Width, .int .i64 v45.s.Heads, .int .i64 v45.s.Inner, .int .i64 v45.s.Vocab, .int .i64 v45.s.Places, .int .i64 v45.room, .slice a46 v45.row.length c47, .map (some b51)] 57)] :: Φ))) ?_
              rintro _ _ ⟨a130, c131, p133, rfl, hs135, h132⟩
              have hs135 := Sat.unlay F [χ] hs135
              have hs135 := (hs135.arrange 1 7 [2, 0] [1, 3, 4, 5, 6, 7] (by decide))
              refine ⟨(Mem.add (Mem.add F χ) w37), (p133 :: [(b99, row [.int .i64 x91.ID, .int .i64 x91.Most, .slice a96 x91.Prompt.length c97] 37)] :: p41 :: p48 :: p52 :: [(b_0, row [.int .i64 v45.s.Layers, .int .i64 v45.s.Width, .int .i64 v45.s.Heads, .int .i64 v45.s.Inner, .int .i64 v45.s.Vocab, .int .i64 v45.s.Places, .int .i64 v45.room, .slice a46 v45.row.length c47, .map (some b51)] 57)] :: Φ), hs135, trivial, ?_⟩
              refine WO.fieldAddr 2 rfl rfl rfl rfl fl_37_2 ?_
              refine WO.store 1 rfl rfl rfl rfl sz_33 rfl rfl rfl (fun _ _ => trivial) ?_
              refine WO.done ?_
              refine At.seq_wc ?_
              refine WC.seq (fun a w => ∃ (v140 : List S_api_Request) (a137 : Option Addr) (c138 : Nat) (a141 : Option Addr) (c142 : Nat) (p143 : List Chunk) (w136 : List Chunk), admit_Desk_Submit_vvvvvvvom_k5 v38 v44 v45 x91 x101 x128 v140 = some r3 ∧ Ctx 47 [(0, .pointer (some ⟨b_0, 0, none⟩)), (5, .slice a39 v38.length c40), (7, .pointer (some ⟨b99, 0, none⟩)), (8, .int .i64 x101), (9, .slice a_1 p1.length c_1), (10, .int .i64 (p1.length : Int)), (11, .int .i64 v44)] a ∧ Sat (Mem.add (Mem.add (Mem.add F χ) w37) w136) (p143 :: [(b99, row [.int .i64 x91.ID, .int .i64 x91.Most, .slice a137 x128.length c138] 37)] :: p41 :: p52 :: [(b_0, row [.int .i64 v45.s.Layers, .int .i64 v45.s.Width, .int .i64 v45.s.Heads, .int .i64 v45.s.Inner, .int .i64 v45.s.Vocab, .int .i64 v45.s.Places, .int .i64 v45.room, .slice a141 v140.length c142, .map (some b51)] 57)] :: Φ) w ∧ RdL 1 (RInt .i64) (Mem.add F w136) a137 c138 x128 ∧ OwnL 3 R_api_Request (Mem.add (Mem.add F w37) w136) 37 a141 c142 v140 p143) ?_ ?_
              · refine WC.drawA (Sat (Mem.add (Mem.add F χ) w37) ([(b99, row [.int .i64 x91.ID, .int .i64 x91.Most, .slice a130 x128.length c131] 37)] :: p41 :: p52 :: Φ)) (fun _ h => (h.arrange 2 6 [0, 1] [3, 4, 6] (by decide))) mixed rfl ?_
                refine WA.lin (fuel := 6) [(0, true), (1, true), (2, true), (3, true), (5, true)] (by kernel_rfl) (by kernel_rfl) ?_
                refine WO.move rfl rfl rfl rfl ?_
                refine WO.move rfl rfl rfl rfl ?_
                refine WO.nilCheck rfl rfl rfl rfl ?_
                refine WO.fieldAddr 7 rfl rfl rfl rfl fl_57_2 ?_
                refine WO.loadAY 0 3 rfl rfl rfl rfl ag_37 rfl rfl rfl ?_
                refine WO.done ?_
                refine WA.of ?_
                refine WA.two (fuel := 5) 4 6 (by kernel_rfl) ?_ ?_
                · refine WO.load 5 rfl rfl rfl rfl sc_32 rfl rfl ?_
                  refine WO.done ?_
                  refine WA.of ?_
                  refine WA.lin (fuel := 0) [(6, false), (7, false), (8, true), (9, true), (10, false)] (by kernel_rfl) (by kernel_rfl) ?_
                  refine WO.buildSl (e := 37) (vs := [.tmp 29]) [0] [.int .i64 x91.ID, .int .i64 x91.Most, .slice a130 x128.length c131] rfl rfl rfl rfl rfl (fun _ => by kernel_rfl) (fun _ _ h => (h.arrange 2 7 [0, 1] [4, 5, 7] (by decide))) (fun b151 => ?_)
                  refine WO.freeze 1 rfl ?_
                  have hz153 := (OwnL.re (G := F) (const_int _) h132).rd (mono_int _)
                  obtain ⟨x154, hx155, hr⟩ := bind_some' hr
                  refine WO.append 3 (ho49.mono mono_api_Request (Mem.le_pick (Mem.add (Mem.add F w37) p133) 2 [1] (by decide))) rfl (SrcL.ofRow 0 Try.underlying32 [[.int .i64 x91.ID, .int .i64 x91.Most, .slice a130 x128.length c131]] rfl rfl rfl (Rs.cons (x := (⟨x91.ID, x91.Most, x128⟩ : S_api_Request)) (cs := [.int .i64 x91.ID, .int .i64 x91.Most, .slice a130 x128.length c131]) rfl ⟨_, _, rfl, (hz153.mono (mono_int _) (Mem.le_pick (Mem.add (Mem.add F w37) p133) 2 [0] (by decide)))⟩ rfl Rs.nil)) hx155 rfl rfl rfl rfl rfl rfl Try.underlying32 el_37 (fun _ _ h => (h.arrange 3 6 [1, 2] [4, 5, 7] (by decide))) (fun a156 c157 p158 ho159 => ?_)
                  refine WO.nilCheck rfl rfl rfl rfl ?_
                  refine WO.fieldAddr 7 rfl rfl rfl rfl fl_57_2 ?_
                  refine WO.store 5 rfl rfl rfl rfl sz_32 rfl rfl rfl (fun _ h => (h.arrange 3 6 [1, 2] [4, 5, 7] (by decide))) ?_
                  refine WO.done ?_
                  refine WA.of ?_
                  refine WA.done (by kernel_rfl) ?_
                  refine At.seq_at ?_
                  exact fun a w hc hs => ⟨x154, a130, c131, a156, c157, p158, (List.flatten [p133]), hr, (hc.keep (hc.keep (hc.keep (hc.keep (hc.keep (hc.keep (hc.keep hc.nil (t := 11) rfl) (t := 10) rfl) (t := 9) rfl) (t := 8) rfl) (t := 7) rfl) (t := 5) rfl) (t := 0) rfl), ((hs.arrange 3 6 [0, 1, 2] [6, 4, 5, 7, 8] (by decide)).gather 1), (hz153.mono (mono_int _) (Mem.le_gather (Mem.add F p133) 1)), (ho159.mono mono_api_Request (Mem.le_gather (Mem.add (Mem.add F w37) p133) 1))⟩
                · refine WO.buildSl (e := 37) (vs := [.tmp 29]) [0] [.int .i64 x91.ID, .int .i64 x91.Most, .slice a130 x128.length c131] rfl rfl rfl rfl rfl (fun _ => by kernel_rfl) (fun _ _ h => (h.arrange 2 7 [0, 1] [4, 5, 7] (by decide))) (fun b151 => ?_)
                  refine WO.done ?_
                  refine WA.of ?_
                  refine WA.lin (fuel := 0) [(4, false), (7, false), (8, true), (9, true), (10, false)] (by kernel_rfl) (by kernel_rfl) ?_
                  refine WO.load 6 rfl rfl rfl rfl sc_32 rfl rfl ?_
                  refine WO.freeze 1 rfl ?_
                  have hz153 := (OwnL.re (G := F) (const_int _) h132).rd (mono_int _)
                  obtain ⟨x154, hx155, hr⟩ := bind_some' hr
                  refine WO.append 3 (ho49.mono mono_api_Request (Mem.le_pick (Mem.add (Mem.add F w37) p133) 2 [1] (by decide))) rfl (SrcL.ofRow 0 Try.underlying32 [[.int .i64 x91.ID, .int .i64 x91.Most, .slice a130 x128.length c131]] rfl rfl rfl (Rs.cons (x := (⟨x91.ID, x91.Most, x128⟩ : S_api_Request)) (cs := [.int .i64 x91.ID, .int .i64 x91.Most, .slice a130 x128.length c131]) rfl ⟨_, _, rfl, (hz153.mono (mono_int _) (Mem.le_pick (Mem.add (Mem.add F w37) p133) 2 [0] (by decide)))⟩ rfl Rs.nil)) hx155 rfl rfl rfl rfl rfl rfl Try.underlying32 el_37 (fun _ _ h => (h.arrange 3 6 [1, 2] [4, 5, 7] (by decide))) (fun a156 c157 p158 ho159 => ?_)
                  refine WO.nilCheck rfl rfl rfl rfl ?_
                  refine WO.fieldAddr 7 rfl rfl rfl rfl fl_57_2 ?_
                  refine WO.store 5 rfl rfl rfl rfl sz_32 rfl rfl rfl (fun _ h => (h.arrange 3 6 [1, 2] [4, 5, 7] (by decide))) ?_
                  refine WO.done ?_
                  refine WA.of ?_
                  refine WA.done (by kernel_rfl) ?_
                  refine At.seq_at ?_
                  exact fun a w hc hs => ⟨x154, a130, c131, a156, c157, p158, (List.flatten [p133]), hr, (hc.keep (hc.keep (hc.keep (hc.keep (hc.keep (hc.keep (hc.keep hc.nil (t := 11) rfl) (t := 10) rfl) (t := 9) rfl) (t := 8) rfl) (t := 7) rfl) (t := 5) rfl) (t := 0) rfl), ((hs.arrange 3 6 [0, 1, 2] [6, 4, 5, 7, 8] (by decide)).gather 1), (hz153.mono (mono_int _) (Mem.le_gather (Mem.add F p133) 1)), (ho159.mono mono_api_Request (Mem.le_gather (Mem.add (Mem.add F w37) p133) 1))⟩
              · rintro a w ⟨v140, a137, c138, a141, c142, p143, w136, hr, hc, hs, h139, ho144⟩
                refine WC.use hc hs ?_
                clear hc hs
                unfold admit_Desk_Submit_vvvvvvvom_k5 at hr
                refine WC.draw (Sat (Mem.add (Mem.add (Mem.add F χ) w37) w136) ([(b99, row [.int .i64 x91.ID, .int .i64 x91.Most, .slice a137 x128.length c138] 37)] :: p41 :: [(b_0, row [.int .i64 v45.s.Layers, .int .i64 v45.s.Width, .int .i64 v45.s.Heads, .int .i64 v45.s.Inner, .int .i64 v45.s.Vocab, .int .i64 v45.s.Places, .int .i64 v45.room, .slice a141 v140.length c142, .map (some b51)] 57)] :: Φ)) (fun _ h => (h.arrange 3 5 [0, 1, 2] [4, 5, 7] (by decide))) [(0, true), (1, true), (2, true), (3, true), (4, true), (5, true), (6, false)] mixed (by kernel_rfl) rfl (by kernel_rfl) ?_
                refine WO.move rfl rfl rfl rfl ?_
                refine WO.nilCheck rfl rfl rfl rfl ?_
                refine WO.fieldAddr 8 rfl rfl rfl rfl fl_57_3 ?_
                refine WO.loadY 2 rfl rfl rfl rfl sc_55 rfl rfl ?_
                refine WO.fieldAddr 0 rfl rfl rfl rfl fl_37_0 ?_
                refine WO.loadY 0 rfl rfl rfl rfl sc_3 rfl rfl ?_
                obtain ⟨x146, hx147, hr⟩ := bind_some' hr
                refine WO.call rfl rfl rfl rfl rfl cl_23 (CallsRet.lay0 3 5 [] [6, 0, 1, 2, 3, 4, 5, 7] (by decide) F (p52 :: w136 :: w37 :: χ :: p143 :: [(b99, row [.int .i64 x91.ID, .int .i64 x91.Most, .slice a137 x128.length c138] 37)] :: p41 :: [(b_0, row [.int .i64 v45.s.Layers, .int .i64 v45.s.Width, .int .i64 v45.s.Heads, .int .i64 v45.s.Inner, .int .i64 v45.s.Vocab, .int .i64 v45.s.Places, .int .i64 v45.room, .slice a141 v140.length c142, .map (some b51)] 57)] :: Φ) rfl rfl (admit_set_int_put_m_ok (F := F) (OwnM.re (G := F) (constV1 const_bool) hm53) hx147 (w136 :: w37 :: χ :: p143 :: [(b99, row [.int .i64 x91.ID, .int .i64 x91.Most, .slice a137 x128.length c138] 37)] :: p41 :: [(b_0, row [.int .i64 v45.s.Layers, .int .i64 v45.s.Width, .int .i64 v45.s.Heads, .int .i64 v45.s.Inner, .int .i64 v45.s.Vocab, .int .i64 v45.s.Places, .int .i64 v45.room, .slice a141 v140.length c142, .map (some b51)] 57)] :: Φ))) ?_
                rintro _ _ ⟨p148, rfl, hs150, hm149⟩
                have hs150 := (hs150.arrange 0 8 [1, 2, 3] [4, 5, 6, 0, 7] (by decide))
                refine ⟨(Mem.add (Mem.add (Mem.add F χ) w37) w136), (p143 :: [(b99, row [.int .i64 x91.ID, .int .i64 x91.Most, .slice a137 x128.length c138] 37)] :: p41 :: p148 :: [(b_0, row [.int .i64 v45.s.Layers, .int .i64 v45.s.Width, .int .i64 v45.s.Heads, .int .i64 v45.s.Inner, .int .i64 v45.s.Vocab, .int .i64 v45.s.Places, .int .i64 v45.room, .slice a141 v140.length c142, .map (some b51)] 57)] :: Φ), hs150, (hs150.arrange 3 5 [0, 1, 2] [4, 5, 7] (by decide)), ?_⟩
                refine WO.done ?_
                refine At.seq_at ?_
                exact fun a w hc hs => ⟨x128, (⟨v45.s, v45.room, v140, x146⟩ : S_admit_Desk), a137, c138, a141, c142, p143, b51, p148, (List.flatten [w136]), hr, (hc.keep (hc.keep (hc.keep (hc.keep (hc.keep (hc.keep hc.nil (t := 11) rfl) (t := 10) rfl) (t := 9) rfl) (t := 8) rfl) (t := 5) rfl) (t := 0) rfl), ((hs.arrange 3 5 [0, 1, 2] [3, 6, 4, 5, 7] (by decide)).gather 1), (h139.mono (mono_int _) (Mem.le.trans (Mem.le_pick (Mem.add (Mem.add F χ) w136) 2 [0] (by decide)) (Mem.le_gather (Mem.add (Mem.add F χ) w136) 1))), (ho144.mono mono_api_Request (Mem.le_gather (Mem.add (Mem.add F w37) w136) 1)), (OwnM.re (G := F) (constV1 const_bool) hm149)⟩
            · have hr := cond_f hb127 hr
              refine WC.skip ?_
              refine At.seq_at ?_
              exact fun a w hc hs => ⟨x91.Prompt, v45, a96, c97, a46, c47, p48, b51, p52, (List.flatten []), hr, (hc.keep (hc.keep (hc.keep (hc.keep (hc.keep (hc.keep hc.nil (t := 11) rfl) (t := 10) rfl) (t := 9) rfl) (t := 8) rfl) (t := 5) rfl) (t := 0) rfl), ((hs.arrange 2 5 [0, 1] [4, 5, 2, 3, 6] (by decide)).gather 0), (h98.mono (mono_int _) (Mem.le_gather (Mem.add F χ) 0)), (ho49.mono mono_api_Request (Mem.le_gather (Mem.add F w37) 0)), (OwnM.re (G := F) (constV1 const_bool) hm53)⟩
          · rintro a w ⟨v105, v109, a106, c107, a110, c111, p112, b115, p116, w104, hr, hc, hs, h108, ho113, hm117⟩
            refine WC.use hc hs ?_
            clear hc hs
            unfold admit_Desk_Submit_vvvvvvvom_k4 at hr
            refine WC.region [(0, true), (1, true), (2, false), (3, false), (4, true)] rfl ?_
            refine WO.move rfl rfl rfl rfl ?_
            refine WO.move rfl rfl rfl rfl ?_
            refine WO.buildSl (e := 27) (vs := [.tmp 42]) [0] [.int .i64 x101] rfl rfl rfl rfl rfl (fun _ => by kernel_rfl) (fun _ _ _ => trivial) (fun b119 => ?_)
            obtain ⟨x121, hx122, hr⟩ := bind_some' hr
            refine WO.append 4 (OwnL.re (G := F) (const_int _) ho42) rfl (SrcL.ofRow 0 Try.underlying40 [[.int .i64 x101]] rfl rfl rfl (Rs.cons (x := x101) (cs := [.int .i64 x101]) rfl rfl rfl Rs.nil)) hx122 rfl rfl rfl rfl rfl rfl Try.underlying40 el_27 (fun _ _ _ => trivial) (fun a123 c124 p125 ho126 => ?_)
            refine WO.assign rfl rfl rfl rfl ?_
            refine WO.done ?_
            refine At.block_normal ?_
            refine At.seq_wc ?_
            refine WC.region [(0, true), (1, true)] rfl ?_
            refine WO.bin rfl rfl rfl rfl rfl rfl ?_
            refine WO.move rfl rfl rfl rfl ?_
            refine WO.done ?_
            refine At.round_next hr ?_
            exact fun a w hc hs => ⟨a123, c124, p125, a110, c111, p112, b115, p116, (List.flatten [w104, w37]), (hc.keep (hc.keep (hc.keep (hc.keep (hc.keep hc.nil (t := 11) rfl) (t := 10) rfl) (t := 9) rfl) (t := 5) rfl) (t := 0) rfl), ((hs.arrange 3 6 [0, 1, 2] [7, 4, 5, 8] (by decide)).gather 2), (OwnL.re (G := F) (const_int _) ho126), (ho113.mono mono_api_Request (Mem.le_gather (Mem.add (Mem.add F w37) w104) 2)), (OwnM.re (G := F) (constV1 const_bool) hm117)⟩
        · have hr := cond_f hb90 hr
          refine WC.exit ?_
          refine At.seq_exit ?_
          refine At.round_exit hr (fun hy => ?_)
          refine At.exit_block ?_
          refine At.seq_at ?_
          exact fun a w hc hs => ⟨v38, v45, a39, c40, p41, a46, c47, p48, b51, p52, (List.flatten [w37]), hy, (hc.keep hc.nil (t := 5) rfl), (hs.gather 1), (OwnL.re (G := F) (const_int _) ho42), (ho49.mono mono_api_Request (Mem.le_gather (Mem.add F w37) 1)), (OwnM.re (G := F) (constV1 const_bool) hm53)⟩
    · rintro a w ⟨v74, v80, a75, c76, p77, a81, c82, p83, b86, p87, w73, rfl, hc, hs, ho78, ho84, hm88⟩
      refine At.use hc hs ?_
      clear hc hs
      (try dsimp only at hk3)
      have hr := hk3
      refine At.seq_at ?_
      exact fun a w hc hs => ⟨v74, v80, a75, c76, p77, a81, c82, p83, b86, p87, (List.flatten [w73]), hr, (hc.keep hc.nil (t := 5) rfl), (hs.gather 1), (OwnL.re (G := F) (const_int _) ho78), (ho84.mono mono_api_Request (Mem.le_gather (Mem.add F w73) 1)), (OwnM.re (G := F) (constV1 const_bool) hm88)⟩
  · rintro a w ⟨v2, v8, a3, c4, p5, a9, c10, p11, b14, p15, w1, hr, hc, hs, ho6, ho12, hm16⟩
    refine WC.use hc hs ?_
    clear hc hs
    unfold admit_Desk_Submit_vvvvvvvom_k1 at hr
    refine WC.then ?_
    refine WC.region [(0, true), (1, true)] rfl ?_
    refine WO.move rfl rfl rfl rfl ?_
    refine WO.assign rfl rfl rfl rfl ?_
    refine WO.done ?_
    refine At.seq_wc ?_
    refine WC.ret ?_
    obtain rfl := Option.some.inj hr
    exact At.ret (fun a w hc hs => (resVs_cons (hc.res rfl) resVs_nil)) (fun w hs => ⟨(List.flatten [w1]), _, _, _, _, _, _, _, _, rfl, ((hs.arrange 2 4 [0, 1] [2, 5, 3, 4] (by decide)).gather 1), (OwnL.re (G := (Mem.add F (List.flatten [w1]))) (const_int _) ho6), (ho12.mono mono_api_Request (Mem.le_gather (Mem.add F w1) 1)), (OwnM.re (G := (Mem.add F (List.flatten [w1]))) (constV1 const_bool) hm16)⟩)
/-! slices.Delete[[]peloton/api.Request,peloton/api.Request] -/
def slices_Delete_api_Request_api_Request_w (p0 : List S_api_Request) (p1 : Int) (p2 : Int) : Option (List S_api_Request) := guardO (0 ≤ p1 ∧ p1 ≤ p2 ∧ p2 ≤ (p0.length : Int)) (cond (p1 == p2) (some p0) ((subL p0 0 p1).bind fun x6 => guardO (0 ≤ p2 ∧ p2 ≤ (p0.length : Int)) (guardO ((p1 ≤ p2 ∧ p2 ≤ (p0.length : Int)) ∧ p0.length ≤ lim) (guardO (((x6 ++ List.drop (Int.toNat p2) p0).length : Int) ≤ (p0.length : Int) ∧ (p0.length : Int) ≤ (p0.length : Int)) (some (x6 ++ List.drop (Int.toNat p2) p0))))))
theorem slices_Delete_api_Request_api_Request_w_ok {F : Mem} {p0 : List S_api_Request} {p1 : Int} {p2 : Int} {a_0 : Option Addr} {c_0 : Nat} {ψ_0 : List Chunk} (ho_0 : OwnL 3 R_api_Request F 37 a_0 c_0 p0 ψ_0) {r : (List S_api_Request)} (hr : slices_Delete_api_Request_api_Request_w p0 p1 p2 = some r) (Φ : List (List Chunk)) :
    CallsRet Try.prog 24 (List.toArray [.slice a_0 p0.length c_0, .int .i64 p1, .int .i64 p2]) F (ψ_0 :: Φ) (fun v w => ∃ a0 c0 ψ0, v = .slice a0 r.length c0 ∧ Sat F (ψ0 :: Φ) w ∧ OwnL 3 R_api_Request F 37 a0 c0 r ψ0) := by
  refine CallsRet.enter (rs := [.tmp 6]) Try.func24 rfl rfl rfl rfl ?_
  unfold slices_Delete_api_Request_api_Request_w at hr
  refine WC.then ?_
  refine WC.region [(0, true)] rfl ?_
  refine WO.assign rfl rfl rfl rfl ?_
  refine WO.done ?_
  refine At.seq_wc ?_
  refine WC.then ?_
  refine WC.region [(0, true), (1, true), (2, true), (3, true), (4, true), (5, true)] rfl ?_
  refine WO.move rfl rfl rfl rfl ?_
  refine WO.move rfl rfl rfl rfl ?_
  refine WO.move rfl rfl rfl rfl ?_
  refine WO.move rfl rfl rfl rfl ?_
  refine WO.len rfl rfl rfl rfl Try.underlying32 ?_
  obtain ⟨hk1, hr⟩ := guardO_some hr
  refine WO.slice3 (m := (p0.length : Int)) ⟨hk1.1, hk1.2.1, hk1.2.2, by have := (ho_0).1; omega⟩ rfl rfl rfl rfl rfl rfl rfl Try.underlying32 sz_37 (fun a2 c3 c4 => ?_)
  refine WO.done ?_
  refine At.seq_wc ?_
  refine WC.then ?_
  refine WC.then ?_
  refine WC.region [(0, true), (1, true), (2, true)] rfl ?_
  refine WO.move rfl rfl rfl rfl ?_
  refine WO.move rfl rfl rfl rfl ?_
  refine WO.bin rfl rfl rfl rfl rfl rfl ?_
  refine WO.done ?_
  refine At.seq_wc ?_
  refine WC.cond rfl (fun hb5 => ?_) (fun hb5 => ?_)
  · have hr := cond_t hb5 hr
    refine WC.then ?_
    refine WC.region [(0, true), (1, true)] rfl ?_
    refine WO.move rfl rfl rfl rfl ?_
    refine WO.assign rfl rfl rfl rfl ?_
    refine WO.done ?_
    refine At.seq_wc ?_
    refine WC.ret ?_
    refine At.seq_ret ?_
    obtain rfl := Option.some.inj hr
    exact At.ret (fun a w hc hs => (resVs_cons (hc.res rfl) resVs_nil)) (fun w hs => ⟨_, _, _, rfl, hs, ho_0⟩)
  · have hr := cond_f hb5 hr
    refine WC.skip ?_
    refine At.seq_wc ?_
    refine WC.then ?_
    refine WC.region [(0, true), (1, true), (2, true)] rfl ?_
    refine WO.move rfl rfl rfl rfl ?_
    refine WO.len rfl rfl rfl rfl Try.underlying32 ?_
    refine WO.assign rfl rfl rfl rfl ?_
    refine WO.done ?_
    refine At.seq_wc ?_
    refine WC.then ?_
    refine WC.draw (Sat F (Φ)) (fun _ h => (h.arrange 0 1 [] [] (by decide))) [(0, true), (1, true), (2, true), (3, true), (4, true), (5, true), (6, false), (7, true)] mixed (by kernel_rfl) rfl (by kernel_rfl) ?_
    refine WO.move rfl rfl rfl rfl ?_
    refine WO.move rfl rfl rfl rfl ?_
    obtain ⟨x6, hx7, hr⟩ := bind_some' hr
    refine WO.sliceTo ho_0 hx7 rfl rfl rfl rfl rfl rfl Try.underlying32 sz_37 (fun a8 ho9 => ?_)
    refine WO.move rfl rfl rfl rfl ?_
    refine WO.move rfl rfl rfl rfl ?_
    obtain ⟨hk10, hr⟩ := guardO_some hr
    refine WO.sliceTail ho_0 hk10 rfl rfl rfl rfl rfl rfl Try.underlying32 sz_37 (fun a11 c12 ht13 => ?_)
    obtain ⟨hk14, hr⟩ := guardO_some hr
    refine WO.appendCut (i0 := p1) 0 ho_0 ho9 hx7 ht13 hk14.1 hk14.2 rfl rfl rfl rfl rfl rfl rfl rfl Try.underlying32 Try.underlying32 el_37 (fun _ _ h => (h.arrange 0 1 [] [] (by decide))) (fun p15 ho16 hcp17 => ?_)
    refine WO.assign rfl rfl rfl rfl ?_
    refine WO.done ?_
    refine At.seq_wc ?_
    refine WC.then ?_
    refine WC.region [(0, true), (1, true), (2, true), (3, true), (4, true), (5, false)] rfl ?_
    refine WO.move rfl rfl rfl rfl ?_
    refine WO.move rfl rfl rfl rfl ?_
    refine WO.len rfl rfl rfl rfl Try.underlying32 ?_
    refine WO.move rfl rfl rfl rfl ?_
    obtain ⟨hk18, hr⟩ := guardO_some hr
    refine WO.sliceSpare ho16 ⟨hk18.1, by have := hcp17; omega⟩ rfl rfl rfl rfl rfl rfl rfl Try.underlying32 sz_37 (fun a19 c20 ht21 => ?_)
    refine WO.clearSpare (zs := [.int .i64 0, .int .i64 0, .slice none 0 0]) 0 ho16 ht21 rfl zb_37 rfl rfl rfl rfl rfl rfl rfl Try.underlying32 (fun _ _ _ => trivial) (fun p22 ho23 => ?_)
    refine WO.relen 0 (k' := (x6 ++ List.drop (Int.toNat p2) p0).length) rfl rfl ?_
    refine WO.relen 26 (k' := (x6 ++ List.drop (Int.toNat p2) p0).length) rfl rfl ?_
    refine WO.relen 27 (k' := (x6 ++ List.drop (Int.toNat p2) p0).length) rfl rfl ?_
    refine WO.relen 28 (k' := (x6 ++ List.drop (Int.toNat p2) p0).length) rfl rfl ?_
    refine WO.done ?_
    refine At.seq_wc ?_
    refine WC.then ?_
    refine WC.region [(0, true), (1, true)] rfl ?_
    refine WO.move rfl rfl rfl rfl ?_
    refine WO.assign rfl rfl rfl rfl ?_
    refine WO.done ?_
    refine At.seq_wc ?_
    refine WC.ret ?_
    obtain rfl := Option.some.inj hr
    exact At.ret (fun a w hc hs => (resVs_cons (hc.res rfl) resVs_nil)) (fun w hs => ⟨_, _, _, rfl, hs, ho23⟩)
/-! (*peloton/admit.Desk).Take -/
def admit_Desk_Take_vvvvvvvom (p0 : S_admit_Desk) : Option (S_api_Request × Bool × S_admit_Desk) := cond ((p0.row.length : Int) == 0) (some ((⟨0, 0, []⟩ : S_api_Request), false, p0)) ((getI p0.row 0).bind fun x4 => (slices_Delete_api_Request_api_Request_w p0.row 0 1).bind fun x16 => some (x4, true, (⟨p0.s, p0.room, x16, p0.took⟩ : S_admit_Desk)))
theorem admit_Desk_Take_vvvvvvvom_ok {F : Mem} {p0 : S_admit_Desk} {b_0 : Nat} {a_0_7 : Option Addr} {c_0_7 : Nat} {ψ_0_7 : List Chunk} (ho_0_7 : OwnL 3 R_api_Request F 37 a_0_7 c_0_7 p0.row ψ_0_7) {bm_0_8 : Nat} {ψ_0_8 : List Chunk} (hm_0_8 : OwnM (fun x : Int => Value.int .i64 x) (RV1 RBool) F bm_0_8 p0.took ψ_0_8) {r : S_api_Request × Bool × S_admit_Desk} (hr : admit_Desk_Take_vvvvvvvom p0 = some r) (Φ : List (List Chunk)) :
    CallsRet Try.prog 9 (List.toArray [.pointer (some ⟨b_0, 0, none⟩)]) F ([(b_0, row [.int .i64 p0.s.Layers, .int .i64 p0.s.Width, .int .i64 p0.s.Heads, .int .i64 p0.s.Inner, .int .i64 p0.s.Vocab, .int .i64 p0.s.Places, .int .i64 p0.room, .slice a_0_7 p0.row.length c_0_7, .map (some bm_0_8)] 57)] :: ψ_0_7 :: ψ_0_8 :: Φ) (fun v w => ∃ cs0 a0_7 c0_7 ψ0_7 bm0_8 ψ0_8, v = .tuple (List.toArray [.agg (List.toArray cs0), .bool r.2.1]) ∧ Sat F ([(b_0, row [.int .i64 r.2.2.s.Layers, .int .i64 r.2.2.s.Width, .int .i64 r.2.2.s.Heads, .int .i64 r.2.2.s.Inner, .int .i64 r.2.2.s.Vocab, .int .i64 r.2.2.s.Places, .int .i64 r.2.2.room, .slice a0_7 r.2.2.row.length c0_7, .map (some bm0_8)] 57)] :: ψ0_7 :: ψ0_8 :: Φ) w ∧ R_api_Request F cs0 r.1 ∧ OwnL 3 R_api_Request F 37 a0_7 c0_7 r.2.2.row ψ0_7 ∧ OwnM (fun x : Int => Value.int .i64 x) (RV1 RBool) F bm0_8 r.2.2.took ψ0_8) := by
  refine CallsRet.enter (rs := [.cell 2 37, .tmp 3]) Try.func9 rfl rfl rfl rfl ?_
  unfold admit_Desk_Take_vvvvvvvom at hr
  refine WC.then ?_
  refine WC.region [(0, false), (1, true)] rfl ?_
  refine WO.alloc (.agg #[.int .i64 0, .int .i64 0, .slice none 0 0]) rfl rfl rfl zb_37 rfl (fun _ _ _ => trivial) (fun b1 => ?_)
  refine WO.assign rfl rfl rfl rfl ?_
  refine WO.done ?_
  refine At.seq_wc ?_
  refine WC.then ?_
  refine WC.then ?_
  refine WC.region [(0, true), (1, true), (2, true), (3, false), (4, true), (5, true)] rfl ?_
  refine WO.move rfl rfl rfl rfl ?_
  refine WO.nilCheck rfl rfl rfl rfl ?_
  refine WO.fieldAddr 7 rfl rfl rfl rfl fl_57_2 ?_
  refine WO.load 1 rfl rfl rfl rfl sc_32 rfl rfl ?_
  refine WO.len rfl rfl rfl rfl Try.underlying32 ?_
  refine WO.bin rfl rfl rfl rfl rfl rfl ?_
  refine WO.done ?_
  refine At.seq_wc ?_
  refine WC.cond rfl (fun hb3 => ?_) (fun hb3 => ?_)
  · have hr := cond_t hb3 hr
    refine WC.then ?_
    refine WC.region [(0, true), (1, false), (2, true)] rfl ?_
    refine WO.build (vs := []) [] (.agg (List.toArray [.int .i64 0, .int .i64 0, .slice none 0 0])) rfl rfl rfl rfl rfl (fun _ => by kernel_rfl) ?_
    refine WO.storeA 0 3 rfl rfl rfl rfl sz_37 rfl rfl rfl rfl (fun _ _ => trivial) ?_
    refine WO.assign rfl rfl rfl rfl ?_
    refine WO.done ?_
    refine At.seq_wc ?_
    refine WC.ret ?_
    refine At.seq_ret ?_
    obtain rfl := Option.some.inj hr
    exact At.ret (fun a w hc hs => (resVs_cons (hc.resA hs 0 rfl rfl ag_37 rfl) (resVs_cons (hc.res rfl) resVs_nil))) (fun w hs => ⟨_, _, _, _, _, _, rfl, (hs.arrange 0 4 [] [1, 2, 3] (by decide)), ⟨_, _, rfl, RdL.nil⟩, ho_0_7, (OwnM.re (G := F) (constV1 const_bool) hm_0_8)⟩)
  · have hr := cond_f hb3 hr
    refine WC.skip ?_
    refine At.seq_wc ?_
    refine WC.then ?_
    refine WC.region [(0, true), (1, true), (2, true), (3, false), (4, true), (5, false), (6, false), (7, false)] rfl ?_
    refine WO.move rfl rfl rfl rfl ?_
    refine WO.nilCheck rfl rfl rfl rfl ?_
    refine WO.fieldAddr 7 rfl rfl rfl rfl fl_57_2 ?_
    refine WO.load 1 rfl rfl rfl rfl sc_32 rfl rfl ?_
    obtain ⟨x4, hx5, hr⟩ := bind_some' hr
    refine WO.indexQ ho_0_7 hx5 rfl rfl rfl rfl rfl rfl Try.underlying32 sz_37 (fun b6 cs7 hb8 h9 hq10 => ?_)
    subst hb8
    obtain ⟨a11, c12, rfl, h13⟩ := h9
    refine WO.loadQA 2 0 3 hq10 rfl rfl rfl rfl rfl rfl ag_37 rfl rfl ?_
    refine WO.alloc (.agg #[.int .i64 0, .int .i64 0, .slice none 0 0]) rfl rfl rfl zb_37 rfl (fun _ _ _ => trivial) (fun b14 => ?_)
    refine WO.storeA 0 3 rfl rfl rfl rfl sz_37 rfl rfl rfl rfl (fun _ _ => trivial) ?_
    refine WO.done ?_
    refine At.seq_wc ?_
    refine WC.then ?_
    refine WC.region [(0, true), (1, true), (2, true), (3, true), (4, false), (5, false), (6, true), (7, true), (8, false)] rfl ?_
    refine WO.move rfl rfl rfl rfl ?_
    refine WO.move rfl rfl rfl rfl ?_
    refine WO.nilCheck rfl rfl rfl rfl ?_
    refine WO.fieldAddr 7 rfl rfl rfl rfl fl_57_2 ?_
    refine WO.load 2 rfl rfl rfl rfl sc_32 rfl rfl ?_
    obtain ⟨x16, hx17, hr⟩ := bind_some' hr
    refine WO.call rfl rfl rfl rfl rfl cl_24 (CallsRet.lay0 0 5 [] [3, 0, 1, 2, 4] (by decide) F (ψ_0_7 :: [(b14, row [.int .i64 x4.ID, .int .i64 x4.Most, .slice a11 x4.Prompt.length c12] 37)] :: [(b1, row [.int .i64 0, .int .i64 0, .slice none 0 0] 37)] :: [(b_0, row [.int .i64 p0.s.Layers, .int .i64 p0.s.Width, .int .i64 p0.s.Heads, .int .i64 p0.s.Inner, .int .i64 p0.s.Vocab, .int .i64 p0.s.Places, .int .i64 p0.room, .slice (some ⟨b6, 0, none⟩) p0.row.length c_0_7, .map (some bm_0_8)] 57)] :: ψ_0_8 :: Φ) rfl rfl (slices_Delete_api_Request_api_Request_w_ok (F := F) ho_0_7 hx17 ([(b14, row [.int .i64 x4.ID, .int .i64 x4.Most, .slice a11 x4.Prompt.length c12] 37)] :: [(b1, row [.int .i64 0, .int .i64 0, .slice none 0 0] 37)] :: [(b_0, row [.int .i64 p0.s.Layers, .int .i64 p0.s.Width, .int .i64 p0.s.Heads, .int .i64 p0.s.Inner, .int .i64 p0.s.Vocab, .int .i64 p0.s.Places, .int .i64 p0.room, .slice (some ⟨b6, 0, none⟩) p0.row.length c_0_7, .map (some bm_0_8)] 57)] :: ψ_0_8 :: Φ))) ?_
    rintro _ _ ⟨a18, c19, p21, rfl, hs23, h20⟩
    have hs23 := (hs23.arrange 0 5 [] [0, 1, 2, 3, 4] (by decide))
    refine ⟨F, (p21 :: [(b14, row [.int .i64 x4.ID, .int .i64 x4.Most, .slice a11 x4.Prompt.length c12] 37)] :: [(b1, row [.int .i64 0, .int .i64 0, .slice none 0 0] 37)] :: [(b_0, row [.int .i64 p0.s.Layers, .int .i64 p0.s.Width, .int .i64 p0.s.Heads, .int .i64 p0.s.Inner, .int .i64 p0.s.Vocab, .int .i64 p0.s.Places, .int .i64 p0.room, .slice (some ⟨b6, 0, none⟩) p0.row.length c_0_7, .map (some bm_0_8)] 57)] :: ψ_0_8 :: Φ), hs23, trivial, ?_⟩
    refine WO.nilCheck rfl rfl rfl rfl ?_
    refine WO.fieldAddr 7 rfl rfl rfl rfl fl_57_2 ?_
    refine WO.store 3 rfl rfl rfl rfl sz_32 rfl rfl rfl (fun _ _ => trivial) ?_
    refine WO.done ?_
    refine At.seq_wc ?_
    refine WC.then ?_
    refine WC.region [(0, false), (1, false), (2, true)] rfl ?_
    refine WO.loadA 1 3 rfl rfl rfl rfl ag_37 rfl rfl rfl ?_
    refine WO.storeA 2 3 rfl rfl rfl rfl sz_37 rfl rfl rfl rfl (fun _ _ => trivial) ?_
    refine WO.assign rfl rfl rfl rfl ?_
    refine WO.done ?_
    refine At.seq_wc ?_
    refine WC.ret ?_
    obtain rfl := Option.some.inj hr
    exact At.ret (fun a w hc hs => (resVs_cons (hc.resA hs 2 rfl rfl ag_37 rfl) (resVs_cons (hc.res rfl) resVs_nil))) (fun w hs => ⟨_, _, _, _, _, _, rfl, (hs.arrange 0 5 [] [3, 0, 4] (by decide)), ⟨_, _, rfl, h13⟩, h20, (OwnM.re (G := F) (constV1 const_bool) hm_0_8)⟩)
/-! peloton/pelotonlaw21.awake -/
def law21_awake_k1  : Option Bool := some false
def law21_awake_k3 (v127 : Bool) : Option Bool := some v127
def law21_awake_k2 (x6 : (Option S_admit_Desk) × Int) (o8 : S_admit_Desk) : Option Bool := cond (x6.2 != 0) (some false) ((law21_asks 5).bind fun x27 => (law21_asks 6).bind fun x36 => (admit_Desk_Submit_vvvvvvvom o8 [x27, x36]).bind fun x49 => (admit_Desk_Take_vvvvvvvom x49.2).bind fun x67 => (law21_asks 5).bind fun x86 => (law21_asks 6).bind fun x95 => (admit_Desk_Submit_vvvvvvvom x67.2.2 [x86, x95]).bind fun x108 => cond ((x49.1.length : Int) == 2) ((getI x49.1 0).bind fun x129 => cond (x129 == 0) ((getI x49.1 1).bind fun x134 => cond (x134 == 211) (cond x67.2.1 (cond (x67.1.ID == 5) (cond ((x108.1.length : Int) == 2) ((getI x108.1 0).bind fun x142 => cond (x142 == 210) ((getI x108.1 1).bind fun x147 => law21_awake_k3 (x147 == 0)) (law21_awake_k3 false)) (law21_awake_k3 false)) (law21_awake_k3 false)) (law21_awake_k3 false)) (law21_awake_k3 false)) (law21_awake_k3 false)) (law21_awake_k3 false))
def law21_awake  : Option Bool := (law21_shape).bind fun x1 => (admit_New x1 1).bind fun x6 => Option.elim x6.1 (law21_awake_k1 ) (fun o8 => law21_awake_k2 x6 o8)
theorem law21_awake_ok {F : Mem}  {r : Bool} (hr : law21_awake  = some r) (Φ : List (List Chunk)) :
    CallsRet Try.prog 4 (List.toArray []) F Φ (fun v w => v = .bool r ∧ Sat F (Φ) w) := by
  refine CallsRet.enter (rs := [.tmp 0]) Try.func4 rfl rfl rfl rfl ?_
  unfold law21_awake at hr
  refine WC.then ?_
  refine WC.region [(0, true)] rfl ?_
  refine WO.assign rfl rfl rfl rfl ?_
  refine WO.done ?_
  refine At.seq_wc ?_
  refine WC.then ?_
  refine WC.region [(0, false), (1, false), (2, true), (3, true), (4, true), (5, true), (6, true)] rfl ?_
  obtain ⟨x1, hx2, hr⟩ := bind_some' hr
  refine WO.call rfl rfl rfl rfl rfl cl_19 (law21_shape_ok (F := F) hx2 (Φ)) ?_
  rintro _ _ ⟨cs3, rfl, hs5, rfl⟩
  refine ⟨F, (Φ), hs5, trivial, ?_⟩
  obtain ⟨x6, hx7, hr⟩ := bind_some' hr
  refine WO.call rfl rfl rfl rfl rfl cl_5 (admit_New_ok (F := F) rfl hx7 (Φ)) ?_
  rintro _ _ (⟨hn9, rfl, hs10⟩ | ⟨o8, b13, a14, c15, p17, b19, p20, hn12, rfl, hs24, h16, hm22⟩)
  · have hr := elim_none hn9 hr
    refine ⟨F, (Φ), hs10, trivial, ?_⟩
    refine WO.move rfl rfl rfl rfl ?_
    refine WO.extract rfl rfl rfl rfl rfl ?_
    refine WO.extract rfl rfl rfl rfl rfl ?_
    refine WO.assign rfl rfl rfl rfl ?_
    refine WO.assign rfl rfl rfl rfl ?_
    refine WO.done ?_
    refine At.seq_wc ?_
    refine WC.then ?_
    refine WC.seq (fun a w => law21_awake_k1  = some r ∧ Ctx 73 [(1, .pointer none), (17, .bool true)] a ∧ Sat F Φ w) ?_ ?_
    · refine WC.region [(0, true), (1, true), (2, true), (3, true), (4, true), (5, true)] rfl ?_
      refine WO.move rfl rfl rfl rfl ?_
      refine WO.eqNil rfl rfl rfl rfl rfl Try.underlying26 ?_
      refine WO.move rfl rfl rfl rfl ?_
      refine WO.skip rfl rfl rfl rfl ?_
      refine WO.skip rfl rfl rfl rfl ?_
      refine WO.pickT rfl rfl rfl rfl rfl ?_
      refine WO.done ?_
      refine At.seq_at ?_
      exact fun a w hc hs => ⟨hr, (hc.keep (hc.keep hc.nil (t := 17) rfl) (t := 1) rfl), hs⟩
    · rintro a w ⟨hr, hc, hs⟩
      refine WC.use hc hs ?_
      clear hc hs
      unfold law21_awake_k1 at hr
      refine WC.condT rfl ?_
      refine WC.then ?_
      refine WC.region [(0, true)] rfl ?_
      refine WO.assign rfl rfl rfl rfl ?_
      refine WO.done ?_
      refine At.seq_wc ?_
      refine WC.ret ?_
      refine At.seq_ret ?_
      obtain rfl := Option.some.inj hr
      exact At.ret (fun a w hc hs => (resVs_cons (hc.res rfl) resVs_nil)) (fun w hs => ⟨rfl, hs⟩)
  · have hr := elim_some hn12 hr
    refine ⟨F, ([(b13, row [.int .i64 o8.s.Layers, .int .i64 o8.s.Width, .int .i64 o8.s.Heads, .int .i64 o8.s.Inner, .int .i64 o8.s.Vocab, .int .i64 o8.s.Places, .int .i64 o8.room, .slice a14 o8.row.length c15, .map (some b19)] 57)] :: p17 :: p20 :: Φ), hs24, trivial, ?_⟩
    refine WO.move rfl rfl rfl rfl ?_
    refine WO.extract rfl rfl rfl rfl rfl ?_
    refine WO.extract rfl rfl rfl rfl rfl ?_
    refine WO.assign rfl rfl rfl rfl ?_
    refine WO.assign rfl rfl rfl rfl ?_
    refine WO.done ?_
    refine At.seq_wc ?_
    refine WC.then ?_
    refine WC.seq (fun a w => law21_awake_k2 x6 o8 = some r ∧ Ctx 73 [(1, .pointer (some ⟨b13, 0, none⟩)), (17, .bool (x6.2 != 0))] a ∧ Sat F ([(b13, row [.int .i64 o8.s.Layers, .int .i64 o8.s.Width, .int .i64 o8.s.Heads, .int .i64 o8.s.Inner, .int .i64 o8.s.Vocab, .int .i64 o8.s.Places, .int .i64 o8.room, .slice a14 o8.row.length c15, .map (some b19)] 57)] :: p17 :: p20 :: Φ) w) ?_ ?_
    · refine WC.region [(0, true), (1, true), (2, true), (3, true), (4, true), (5, true)] rfl ?_
      refine WO.move rfl rfl rfl rfl ?_
      refine WO.eqNil rfl rfl rfl rfl rfl Try.underlying26 ?_
      refine WO.move rfl rfl rfl rfl ?_
      refine WO.move rfl rfl rfl rfl ?_
      refine WO.bin rfl rfl rfl rfl rfl rfl ?_
      refine WO.pickF rfl rfl rfl rfl rfl ?_
      refine WO.done ?_
      refine At.seq_at ?_
      exact fun a w hc hs => ⟨hr, (hc.keep (hc.keep hc.nil (t := 17) rfl) (t := 1) rfl), hs⟩
    · rintro a w ⟨hr, hc, hs⟩
      refine WC.use hc hs ?_
      clear hc hs
      unfold law21_awake_k2 at hr
      refine WC.cond rfl (fun hb26 => ?_) (fun hb26 => ?_)
      · have hr := cond_t hb26 hr
        refine WC.then ?_
        refine WC.region [(0, true)] rfl ?_
        refine WO.assign rfl rfl rfl rfl ?_
        refine WO.done ?_
        refine At.seq_wc ?_
        refine WC.ret ?_
        refine At.seq_ret ?_
        obtain rfl := Option.some.inj hr
        exact At.ret (fun a w hc hs => (resVs_cons (hc.res rfl) resVs_nil)) (fun w hs => ⟨rfl, (hs.arrange 0 3 [] [] (by decide))⟩)
      · have hr := cond_f hb26 hr
        refine WC.skip ?_
        refine At.seq_wc ?_
        refine WC.then ?_
        refine WC.region [(0, true), (1, false), (2, false), (3, false), (4, false), (5, true)] rfl ?_
        refine WO.move rfl rfl rfl rfl ?_
        obtain ⟨x27, hx28, hr⟩ := bind_some' hr
        refine WO.call rfl rfl rfl rfl rfl cl_20 (law21_asks_ok (F := F) hx28 ([(b13, row [.int .i64 o8.s.Layers, .int .i64 o8.s.Width, .int .i64 o8.s.Heads, .int .i64 o8.s.Inner, .int .i64 o8.s.Vocab, .int .i64 o8.s.Places, .int .i64 o8.room, .slice a14 o8.row.length c15, .map (some b19)] 57)] :: p17 :: p20 :: Φ)) ?_
        rintro _ _ ⟨q29, cs30, rfl, hs35, ⟨a32, c33, rfl, h34⟩⟩
        refine ⟨(Mem.add F q29), ([(b13, row [.int .i64 o8.s.Layers, .int .i64 o8.s.Width, .int .i64 o8.s.Heads, .int .i64 o8.s.Inner, .int .i64 o8.s.Vocab, .int .i64 o8.s.Places, .int .i64 o8.room, .slice a14 o8.row.length c15, .map (some b19)] 57)] :: p17 :: p20 :: Φ), hs35, trivial, ?_⟩
        obtain ⟨x36, hx37, hr⟩ := bind_some' hr
        refine WO.call rfl rfl rfl rfl rfl cl_20 (CallsRet.lay0 1 3 [] [0, 1, 2, 3] (by decide) F (q29 :: [(b13, row [.int .i64 o8.s.Layers, .int .i64 o8.s.Width, .int .i64 o8.s.Heads, .int .i64 o8.s.Inner, .int .i64 o8.s.Vocab, .int .i64 o8.s.Places, .int .i64 o8.room, .slice a14 o8.row.length c15, .map (some b19)] 57)] :: p17 :: p20 :: Φ) rfl rfl (law21_asks_ok (F := F) hx37 (q29 :: [(b13, row [.int .i64 o8.s.Layers, .int .i64 o8.s.Width, .int .i64 o8.s.Heads, .int .i64 o8.s.Inner, .int .i64 o8.s.Vocab, .int .i64 o8.s.Places, .int .i64 o8.room, .slice a14 o8.row.length c15, .map (some b19)] 57)] :: p17 :: p20 :: Φ))) ?_
        rintro _ _ ⟨q38, cs39, rfl, hs44, ⟨a41, c42, rfl, h43⟩⟩
        have hs44 := (hs44.arrange 1 4 [0, 1] [2, 3, 4] (by decide))
        refine ⟨(Mem.add (Mem.add F q29) q38), ([(b13, row [.int .i64 o8.s.Layers, .int .i64 o8.s.Width, .int .i64 o8.s.Heads, .int .i64 o8.s.Inner, .int .i64 o8.s.Vocab, .int .i64 o8.s.Places, .int .i64 o8.room, .slice a14 o8.row.length c15, .map (some b19)] 57)] :: p17 :: p20 :: Φ), hs44, trivial, ?_⟩
        refine WO.buildSl (e := 37) (vs := [.tmp 19, .tmp 20]) [0, 1] [.int .i64 x27.ID, .int .i64 x27.Most, .slice a32 x27.Prompt.length c33, .int .i64 x36.ID, .int .i64 x36.Most, .slice a41 x36.Prompt.length c42] rfl rfl rfl rfl rfl (fun _ => by kernel_rfl) (fun _ _ _ => trivial) (fun b45 => ?_)
        have ho47 : OwnL 3 R_api_Request (Mem.add (Mem.add F q29) q38) 37 (some ⟨b45, 0, none⟩) 2 [x27, x36] [(b45, row [.int .i64 x27.ID, .int .i64 x27.Most, .slice a32 x27.Prompt.length c33, .int .i64 x36.ID, .int .i64 x36.Most, .slice a41 x36.Prompt.length c42] 37)] := ⟨Nat.le_refl _, .inr ⟨_, [[.int .i64 x27.ID, .int .i64 x27.Most, .slice a32 x27.Prompt.length c33], [.int .i64 x36.ID, .int .i64 x36.Most, .slice a41 x36.Prompt.length c42]], [], rfl, rfl, (Rs.cons (x := x27) (cs := [.int .i64 x27.ID, .int .i64 x27.Most, .slice a32 x27.Prompt.length c33]) rfl ⟨_, _, rfl, (h34.mono (mono_int _) (Mem.le_pick (Mem.add (Mem.add F q29) q38) 2 [1] (by decide)))⟩ rfl (Rs.cons (x := x36) (cs := [.int .i64 x36.ID, .int .i64 x36.Most, .slice a41 x36.Prompt.length c42]) rfl ⟨_, _, rfl, (h43.mono (mono_int _) (Mem.le_pick (Mem.add (Mem.add F q29) q38) 2 [0] (by decide)))⟩ rfl Rs.nil)), rfl⟩⟩
        obtain ⟨x49, hx50, hr⟩ := bind_some' hr
        refine WO.call rfl rfl rfl rfl rfl cl_7 (CallsRet.lay 2 4 3 [2, 0, 1] [3, 4, 5] (by decide) (Mem.add F (List.flatten [[(b45, row [.int .i64 x27.ID, .int .i64 x27.Most, .slice a32 x27.Prompt.length c33, .int .i64 x36.ID, .int .i64 x36.Most, .slice a41 x36.Prompt.length c42] 37)], q38, q29])) ([(b13, row [.int .i64 o8.s.Layers, .int .i64 o8.s.Width, .int .i64 o8.s.Heads, .int .i64 o8.s.Inner, .int .i64 o8.s.Vocab, .int .i64 o8.s.Places, .int .i64 o8.room, .slice a14 o8.row.length c15, .map (some b19)] 57)] :: p17 :: p20 :: Φ) rfl rfl (admit_Desk_Submit_vvvvvvvom_ok (F := F) (χ := (List.flatten [[(b45, row [.int .i64 x27.ID, .int .i64 x27.Most, .slice a32 x27.Prompt.length c33, .int .i64 x36.ID, .int .i64 x36.Most, .slice a41 x36.Prompt.length c42] 37)], q38, q29])) h16 (OwnM.re (G := F) (constV1 const_bool) hm22) ((ho47.rd mono_api_Request).mono mono_api_Request (Mem.le_gather (Mem.add (Mem.add (Mem.add F q29) q38) [(b45, row [.int .i64 x27.ID, .int .i64 x27.Most, .slice a32 x27.Prompt.length c33, .int .i64 x36.ID, .int .i64 x36.Most, .slice a41 x36.Prompt.length c42] 37)]) 3)) hx50 (Φ))) ?_
        rintro _ _ ⟨q51, a52, c53, p55, a57, c58, p60, b62, p63, rfl, hs66, h54, h59, hm65⟩
        have hs66 := Sat.unlay1 F [[(b45, row [.int .i64 x27.ID, .int .i64 x27.Most, .slice a32 x27.Prompt.length c33, .int .i64 x36.ID, .int .i64 x36.Most, .slice a41 x36.Prompt.length c42] 37)], q38, q29] _ hs66
        have hs66 := (hs66.arrange 4 4 [0, 2, 3] [4, 6, 7, 1, 5] (by decide))
        refine ⟨(Mem.add (Mem.add (Mem.add F q29) q38) q51), (p55 :: p60 :: p63 :: [(b45, row [.int .i64 x27.ID, .int .i64 x27.Most, .slice a32 x27.Prompt.length c33, .int .i64 x36.ID, .int .i64 x36.Most, .slice a41 x36.Prompt.length c42] 37)] :: [(b13, row [.int .i64 x49.2.s.Layers, .int .i64 x49.2.s.Width, .int .i64 x49.2.s.Heads, .int .i64 x49.2.s.Inner, .int .i64 x49.2.s.Vocab, .int .i64 x49.2.s.Places, .int .i64 x49.2.room, .slice a57 x49.2.row.length c58, .map (some b62)] 57)] :: Φ), hs66, trivial, ?_⟩
        refine WO.assign rfl rfl rfl rfl ?_
        refine WO.done ?_
        refine At.seq_wc ?_
        refine WC.then ?_
        refine WC.region [(0, true), (1, false), (2, true), (3, true), (4, true), (5, false), (6, false), (7, true)] rfl ?_
        refine WO.move rfl rfl rfl rfl ?_
        obtain ⟨x67, hx68, hr⟩ := bind_some' hr
        refine WO.call rfl rfl rfl rfl rfl cl_9 (CallsRet.lay0 3 5 [0] [7, 4, 5, 1, 2, 3, 6] (by decide) (Mem.add F q51) ([(b13, row [.int .i64 x49.2.s.Layers, .int .i64 x49.2.s.Width, .int .i64 x49.2.s.Heads, .int .i64 x49.2.s.Inner, .int .i64 x49.2.s.Vocab, .int .i64 x49.2.s.Places, .int .i64 x49.2.room, .slice a57 x49.2.row.length c58, .map (some b62)] 57)] :: p60 :: p63 :: q38 :: q29 :: p55 :: [(b45, row [.int .i64 x27.ID, .int .i64 x27.Most, .slice a32 x27.Prompt.length c33, .int .i64 x36.ID, .int .i64 x36.Most, .slice a41 x36.Prompt.length c42] 37)] :: Φ) rfl rfl (admit_Desk_Take_vvvvvvvom_ok (F := (Mem.add F q51)) h59 (OwnM.re (G := (Mem.add F q51)) (constV1 const_bool) hm65) hx68 (q38 :: q29 :: p55 :: [(b45, row [.int .i64 x27.ID, .int .i64 x27.Most, .slice a32 x27.Prompt.length c33, .int .i64 x36.ID, .int .i64 x36.Most, .slice a41 x36.Prompt.length c42] 37)] :: Φ))) ?_
        rintro _ _ ⟨cs69, a74, c75, p77, b79, p80, rfl, hs83, ⟨a71, c72, rfl, h73⟩, h76, hm82⟩
        have hs83 := (hs83.arrange 1 7 [0, 4, 5] [2, 3, 6, 7, 1] (by decide))
        refine ⟨(Mem.add (Mem.add (Mem.add F q29) q38) q51), (p77 :: p80 :: p55 :: [(b45, row [.int .i64 x27.ID, .int .i64 x27.Most, .slice a32 x27.Prompt.length c33, .int .i64 x36.ID, .int .i64 x36.Most, .slice a41 x36.Prompt.length c42] 37)] :: [(b13, row [.int .i64 x67.2.2.s.Layers, .int .i64 x67.2.2.s.Width, .int .i64 x67.2.2.s.Heads, .int .i64 x67.2.2.s.Inner, .int .i64 x67.2.2.s.Vocab, .int .i64 x67.2.2.s.Places, .int .i64 x67.2.2.room, .slice a74 x67.2.2.row.length c75, .map (some b79)] 57)] :: Φ), hs83, trivial, ?_⟩
        refine WO.move rfl rfl rfl rfl ?_
        refine WO.extract rfl rfl rfl rfl rfl ?_
        refine WO.extract rfl rfl rfl rfl rfl ?_
        refine WO.alloc (.agg #[.int .i64 0, .int .i64 0, .slice none 0 0]) rfl rfl rfl zb_37 rfl (fun _ _ _ => trivial) (fun b84 => ?_)
        refine WO.storeA 0 3 rfl rfl rfl rfl sz_37 rfl rfl rfl rfl (fun _ _ => trivial) ?_
        refine WO.assign rfl rfl rfl rfl ?_
        refine WO.done ?_
        refine At.seq_wc ?_
        refine WC.then ?_
        refine WC.region [(0, true), (1, false), (2, false), (3, false), (4, false), (5, true)] rfl ?_
        refine WO.move rfl rfl rfl rfl ?_
        obtain ⟨x86, hx87, hr⟩ := bind_some' hr
        refine WO.call rfl rfl rfl rfl rfl cl_20 (CallsRet.lay0 3 6 [] [0, 1, 2, 3, 4, 5, 6, 7, 8] (by decide) F (q51 :: q38 :: q29 :: [(b84, row [.int .i64 x67.1.ID, .int .i64 x67.1.Most, .slice a71 x67.1.Prompt.length c72] 37)] :: p77 :: p80 :: p55 :: [(b45, row [.int .i64 x27.ID, .int .i64 x27.Most, .slice a32 x27.Prompt.length c33, .int .i64 x36.ID, .int .i64 x36.Most, .slice a41 x36.Prompt.length c42] 37)] :: [(b13, row [.int .i64 x67.2.2.s.Layers, .int .i64 x67.2.2.s.Width, .int .i64 x67.2.2.s.Heads, .int .i64 x67.2.2.s.Inner, .int .i64 x67.2.2.s.Vocab, .int .i64 x67.2.2.s.Places, .int .i64 x67.2.2.room, .slice a74 x67.2.2.row.length c75, .map (some b79)] 57)] :: Φ) rfl rfl (law21_asks_ok (F := F) hx87 (q51 :: q38 :: q29 :: [(b84, row [.int .i64 x67.1.ID, .int .i64 x67.1.Most, .slice a71 x67.1.Prompt.length c72] 37)] :: p77 :: p80 :: p55 :: [(b45, row [.int .i64 x27.ID, .int .i64 x27.Most, .slice a32 x27.Prompt.length c33, .int .i64 x36.ID, .int .i64 x36.Most, .slice a41 x36.Prompt.length c42] 37)] :: [(b13, row [.int .i64 x67.2.2.s.Layers, .int .i64 x67.2.2.s.Width, .int .i64 x67.2.2.s.Heads, .int .i64 x67.2.2.s.Inner, .int .i64 x67.2.2.s.Vocab, .int .i64 x67.2.2.s.Places, .int .i64 x67.2.2.room, .slice a74 x67.2.2.row.length c75, .map (some b79)] 57)] :: Φ))) ?_
        rintro _ _ ⟨q88, cs89, rfl, hs94, ⟨a91, c92, rfl, h93⟩⟩
        have hs94 := (hs94.arrange 1 9 [0, 1, 2, 3] [4, 5, 6, 7, 8, 9] (by decide))
        refine ⟨(Mem.add (Mem.add (Mem.add (Mem.add F q29) q38) q51) q88), ([(b84, row [.int .i64 x67.1.ID, .int .i64 x67.1.Most, .slice a71 x67.1.Prompt.length c72] 37)] :: p77 :: p80 :: p55 :: [(b45, row [.int .i64 x27.ID, .int .i64 x27.Most, .slice a32 x27.Prompt.length c33, .int .i64 x36.ID, .int .i64 x36.Most, .slice a41 x36.Prompt.length c42] 37)] :: [(b13, row [.int .i64 x67.2.2.s.Layers, .int .i64 x67.2.2.s.Width, .int .i64 x67.2.2.s.Heads, .int .i64 x67.2.2.s.Inner, .int .i64 x67.2.2.s.Vocab, .int .i64 x67.2.2.s.Places, .int .i64 x67.2.2.room, .slice a74 x67.2.2.row.length c75, .map (some b79)] 57)] :: Φ), hs94, trivial, ?_⟩
        obtain ⟨x95, hx96, hr⟩ := bind_some' hr
        refine WO.call rfl rfl rfl rfl rfl cl_20 (CallsRet.lay0 4 6 [] [0, 1, 2, 3, 4, 5, 6, 7, 8, 9] (by decide) F (q88 :: q51 :: q38 :: q29 :: [(b84, row [.int .i64 x67.1.ID, .int .i64 x67.1.Most, .slice a71 x67.1.Prompt.length c72] 37)] :: p77 :: p80 :: p55 :: [(b45, row [.int .i64 x27.ID, .int .i64 x27.Most, .slice a32 x27.Prompt.length c33, .int .i64 x36.ID, .int .i64 x36.Most, .slice a41 x36.Prompt.length c42] 37)] :: [(b13, row [.int .i64 x67.2.2.s.Layers, .int .i64 x67.2.2.s.Width, .int .i64 x67.2.2.s.Heads, .int .i64 x67.2.2.s.Inner, .int .i64 x67.2.2.s.Vocab, .int .i64 x67.2.2.s.Places, .int .i64 x67.2.2.room, .slice a74 x67.2.2.row.length c75, .map (some b79)] 57)] :: Φ) rfl rfl (law21_asks_ok (F := F) hx96 (q88 :: q51 :: q38 :: q29 :: [(b84, row [.int .i64 x67.1.ID, .int .i64 x67.1.Most, .slice a71 x67.1.Prompt.length c72] 37)] :: p77 :: p80 :: p55 :: [(b45, row [.int .i64 x27.ID, .int .i64 x27.Most, .slice a32 x27.Prompt.length c33, .int .i64 x36.ID, .int .i64 x36.Most, .slice a41 x36.Prompt.length c42] 37)] :: [(b13, row [.int .i64 x67.2.2.s.Layers, .int .i64 x67.2.2.s.Width, .int .i64 x67.2.2.s.Heads, .int .i64 x67.2.2.s.Inner, .int .i64 x67.2.2.s.Vocab, .int .i64 x67.2.2.s.Places, .int .i64 x67.2.2.room, .slice a74 x67.2.2.row.length c75, .map (some b79)] 57)] :: Φ))) ?_
        rintro _ _ ⟨q97, cs98, rfl, hs103, ⟨a100, c101, rfl, h102⟩⟩
        have hs103 := (hs103.arrange 1 10 [0, 1, 2, 3, 4] [5, 6, 7, 8, 9, 10] (by decide))
        refine ⟨(Mem.add (Mem.add (Mem.add (Mem.add (Mem.add F q29) q38) q51) q88) q97), ([(b84, row [.int .i64 x67.1.ID, .int .i64 x67.1.Most, .slice a71 x67.1.Prompt.length c72] 37)] :: p77 :: p80 :: p55 :: [(b45, row [.int .i64 x27.ID, .int .i64 x27.Most, .slice a32 x27.Prompt.length c33, .int .i64 x36.ID, .int .i64 x36.Most, .slice a41 x36.Prompt.length c42] 37)] :: [(b13, row [.int .i64 x67.2.2.s.Layers, .int .i64 x67.2.2.s.Width, .int .i64 x67.2.2.s.Heads, .int .i64 x67.2.2.s.Inner, .int .i64 x67.2.2.s.Vocab, .int .i64 x67.2.2.s.Places, .int .i64 x67.2.2.room, .slice a74 x67.2.2.row.length c75, .map (some b79)] 57)] :: Φ), hs103, trivial, ?_⟩
        refine WO.buildSl (e := 37) (vs := [.tmp 29, .tmp 30]) [0, 1] [.int .i64 x86.ID, .int .i64 x86.Most, .slice a91 x86.Prompt.length c92, .int .i64 x95.ID, .int .i64 x95.Most, .slice a100 x95.Prompt.length c101] rfl rfl rfl rfl rfl (fun _ => by kernel_rfl) (fun _ _ _ => trivial) (fun b104 => ?_)
        have ho106 : OwnL 3 R_api_Request (Mem.add (Mem.add F q88) q97) 37 (some ⟨b104, 0, none⟩) 2 [x86, x95] [(b104, row [.int .i64 x86.ID, .int .i64 x86.Most, .slice a91 x86.Prompt.length c92, .int .i64 x95.ID, .int .i64 x95.Most, .slice a100 x95.Prompt.length c101] 37)] := ⟨Nat.le_refl _, .inr ⟨_, [[.int .i64 x86.ID, .int .i64 x86.Most, .slice a91 x86.Prompt.length c92], [.int .i64 x95.ID, .int .i64 x95.Most, .slice a100 x95.Prompt.length c101]], [], rfl, rfl, (Rs.cons (x := x86) (cs := [.int .i64 x86.ID, .int .i64 x86.Most, .slice a91 x86.Prompt.length c92]) rfl ⟨_, _, rfl, (h93.mono (mono_int _) (Mem.le_pick (Mem.add (Mem.add F q88) q97) 2 [1] (by decide)))⟩ rfl (Rs.cons (x := x95) (cs := [.int .i64 x95.ID, .int .i64 x95.Most, .slice a100 x95.Prompt.length c101]) rfl ⟨_, _, rfl, (h102.mono (mono_int _) (Mem.le_pick (Mem.add (Mem.add F q88) q97) 2 [0] (by decide)))⟩ rfl Rs.nil)), rfl⟩⟩
        obtain ⟨x108, hx109, hr⟩ := bind_some' hr
        refine WO.call rfl rfl rfl rfl rfl cl_7 (CallsRet.lay 5 7 3 [5, 0, 1, 2] [11, 7, 8, 3, 4, 6, 9, 10] (by decide) (Mem.add (Mem.add F q51) (List.flatten [[(b104, row [.int .i64 x86.ID, .int .i64 x86.Most, .slice a91 x86.Prompt.length c92, .int .i64 x95.ID, .int .i64 x95.Most, .slice a100 x95.Prompt.length c101] 37)], q97, q88])) ([(b13, row [.int .i64 x67.2.2.s.Layers, .int .i64 x67.2.2.s.Width, .int .i64 x67.2.2.s.Heads, .int .i64 x67.2.2.s.Inner, .int .i64 x67.2.2.s.Vocab, .int .i64 x67.2.2.s.Places, .int .i64 x67.2.2.room, .slice a74 x67.2.2.row.length c75, .map (some b79)] 57)] :: p77 :: p80 :: q38 :: q29 :: [(b84, row [.int .i64 x67.1.ID, .int .i64 x67.1.Most, .slice a71 x67.1.Prompt.length c72] 37)] :: p55 :: [(b45, row [.int .i64 x27.ID, .int .i64 x27.Most, .slice a32 x27.Prompt.length c33, .int .i64 x36.ID, .int .i64 x36.Most, .slice a41 x36.Prompt.length c42] 37)] :: Φ) rfl rfl (admit_Desk_Submit_vvvvvvvom_ok (F := (Mem.add F q51)) (χ := (List.flatten [[(b104, row [.int .i64 x86.ID, .int .i64 x86.Most, .slice a91 x86.Prompt.length c92, .int .i64 x95.ID, .int .i64 x95.Most, .slice a100 x95.Prompt.length c101] 37)], q97, q88])) h76 (OwnM.re (G := (Mem.add F q51)) (constV1 const_bool) hm82) ((ho106.rd mono_api_Request).mono mono_api_Request (Mem.le.trans (Mem.le_pick (Mem.add (Mem.add (Mem.add (Mem.add F q51) q88) q97) [(b104, row [.int .i64 x86.ID, .int .i64 x86.Most, .slice a91 x86.Prompt.length c92, .int .i64 x95.ID, .int .i64 x95.Most, .slice a100 x95.Prompt.length c101] 37)]) 4 [0, 1, 2] (by decide)) (Mem.le_gather (Mem.add (Mem.add (Mem.add (Mem.add F q51) q88) q97) [(b104, row [.int .i64 x86.ID, .int .i64 x86.Most, .slice a91 x86.Prompt.length c92, .int .i64 x95.ID, .int .i64 x95.Most, .slice a100 x95.Prompt.length c101] 37)]) 3))) hx109 (q38 :: q29 :: [(b84, row [.int .i64 x67.1.ID, .int .i64 x67.1.Most, .slice a71 x67.1.Prompt.length c72] 37)] :: p55 :: [(b45, row [.int .i64 x27.ID, .int .i64 x27.Most, .slice a32 x27.Prompt.length c33, .int .i64 x36.ID, .int .i64 x36.Most, .slice a41 x36.Prompt.length c42] 37)] :: Φ))) ?_
        rintro _ _ ⟨q110, a111, c112, p114, a116, c117, p119, b121, p122, rfl, hs125, h113, h118, hm124⟩
        have hs125 := Sat.unlay1 (Mem.add F q51) [[(b104, row [.int .i64 x86.ID, .int .i64 x86.Most, .slice a91 x86.Prompt.length c92, .int .i64 x95.ID, .int .i64 x95.Most, .slice a100 x95.Prompt.length c101] 37)], q97, q88] _ hs125
        have hs125 := (hs125.arrange 5 9 [0, 2, 3, 4, 9, 10] [5, 7, 8, 1, 11, 12, 13, 6] (by decide))
        refine ⟨(Mem.add (Mem.add (Mem.add (Mem.add (Mem.add (Mem.add F q29) q38) q51) q88) q97) q110), (p114 :: p119 :: p122 :: [(b104, row [.int .i64 x86.ID, .int .i64 x86.Most, .slice a91 x86.Prompt.length c92, .int .i64 x95.ID, .int .i64 x95.Most, .slice a100 x95.Prompt.length c101] 37)] :: [(b84, row [.int .i64 x67.1.ID, .int .i64 x67.1.Most, .slice a71 x67.1.Prompt.length c72] 37)] :: p55 :: [(b45, row [.int .i64 x27.ID, .int .i64 x27.Most, .slice a32 x27.Prompt.length c33, .int .i64 x36.ID, .int .i64 x36.Most, .slice a41 x36.Prompt.length c42] 37)] :: [(b13, row [.int .i64 x108.2.s.Layers, .int .i64 x108.2.s.Width, .int .i64 x108.2.s.Heads, .int .i64 x108.2.s.Inner, .int .i64 x108.2.s.Vocab, .int .i64 x108.2.s.Places, .int .i64 x108.2.room, .slice a116 x108.2.row.length c117, .map (some b121)] 57)] :: Φ), hs125, trivial, ?_⟩
        refine WO.assign rfl rfl rfl rfl ?_
        refine WO.done ?_
        refine At.seq_wc ?_
        refine WC.seq (fun a w => ∃ (v127 : Bool), law21_awake_k3 v127 = some r ∧ Ctx 73 [(0, .bool v127)] a ∧ Sat (Mem.add (Mem.add (Mem.add (Mem.add (Mem.add (Mem.add F q29) q38) q51) q88) q97) q110) (p114 :: p119 :: p122 :: [(b104, row [.int .i64 x86.ID, .int .i64 x86.Most, .slice a91 x86.Prompt.length c92, .int .i64 x95.ID, .int .i64 x95.Most, .slice a100 x95.Prompt.length c101] 37)] :: [(b84, row [.int .i64 x67.1.ID, .int .i64 x67.1.Most, .slice a71 x67.1.Prompt.length c72] 37)] :: p55 :: [(b45, row [.int .i64 x27.ID, .int .i64 x27.Most, .slice a32 x27.Prompt.length c33, .int .i64 x36.ID, .int .i64 x36.Most, .slice a41 x36.Prompt.length c42] 37)] :: [(b13, row [.int .i64 x108.2.s.Layers, .int .i64 x108.2.s.Width, .int .i64 x108.2.s.Heads, .int .i64 x108.2.s.Inner, .int .i64 x108.2.s.Vocab, .int .i64 x108.2.s.Places, .int .i64 x108.2.room, .slice a116 x108.2.row.length c117, .map (some b121)] 57)] :: Φ) w) ?_ ?_
        · refine WC.region [(0, true), (1, true), (2, true), (3, true), (4, true), (5, true), (6, false), (7, true), (8, true), (9, true), (10, true), (11, true), (12, false), (13, true), (14, true), (15, true), (16, true), (17, true), (18, true), (19, true), (20, false), (21, true), (22, true), (23, true), (24, true), (25, true), (26, true), (27, true), (28, true), (29, true), (30, true), (31, false), (32, true), (33, true), (34, true), (35, true), (36, true), (37, false), (38, true), (39, true), (40, true)] rfl ?_
          refine WO.move rfl rfl rfl rfl ?_
          refine WO.len rfl rfl rfl rfl Try.underlying40 ?_
          refine WO.bin rfl rfl rfl rfl rfl rfl ?_
          refine WO.move rfl rfl rfl rfl ?_
          refine WO.split (t := 36) rfl (fun hg128 => ?_) (fun hg128 => ?_)
          · have hr := cond_t hg128 hr
            refine WO.move rfl rfl rfl rfl ?_
            obtain ⟨x129, hx130, hr⟩ := bind_some' hr
            refine WO.indexO h54 hx130 rfl rfl rfl rfl rfl rfl Try.underlying40 sz_27 (fun b131 hb132 => ?_)
            subst hb132
            refine WO.loadO 5 h54 hx130 rfl rfl rfl rfl rfl sc_27 ?_
            refine WO.bin rfl rfl rfl rfl rfl rfl ?_
            refine WO.pickT rfl rfl rfl rfl rfl ?_
            refine WO.move rfl rfl rfl rfl ?_
            refine WO.split (t := 42) rfl (fun hg133 => ?_) (fun hg133 => ?_)
            · have hr := cond_t hg133 hr
              refine WO.move rfl rfl rfl rfl ?_
              obtain ⟨x134, hx135, hr⟩ := bind_some' hr
              refine WO.indexO h54 hx135 rfl rfl rfl rfl rfl rfl Try.underlying40 sz_27 (fun b136 hb137 => ?_)
              obtain rfl : b131 = b136 := by cases hb137; rfl
              refine WO.loadO 5 h54 hx135 rfl rfl rfl rfl rfl sc_27 ?_
              refine WO.bin rfl rfl rfl rfl rfl rfl ?_
              refine WO.pickT rfl rfl rfl rfl rfl ?_
              refine WO.move rfl rfl rfl rfl ?_
              refine WO.split (t := 48) rfl (fun hg138 => ?_) (fun hg138 => ?_)
              · have hr := cond_t hg138 hr
                refine WO.move rfl rfl rfl rfl ?_
                refine WO.pickT rfl rfl rfl rfl rfl ?_
                refine WO.move rfl rfl rfl rfl ?_
                refine WO.split (t := 51) rfl (fun hg139 => ?_) (fun hg139 => ?_)
                · have hr := cond_t hg139 hr
                  refine WO.fieldAddr 0 rfl rfl rfl rfl fl_37_0 ?_
                  refine WO.load 4 rfl rfl rfl rfl sc_3 rfl rfl ?_
                  refine WO.bin rfl rfl rfl rfl rfl rfl ?_
                  refine WO.pickT rfl rfl rfl rfl rfl ?_
                  refine WO.move rfl rfl rfl rfl ?_
                  refine WO.split (t := 56) rfl (fun hg140 => ?_) (fun hg140 => ?_)
                  · have hr := cond_t hg140 hr
                    refine WO.move rfl rfl rfl rfl ?_
                    refine WO.len rfl rfl rfl rfl Try.underlying40 ?_
                    refine WO.bin rfl rfl rfl rfl rfl rfl ?_
                    refine WO.pickT rfl rfl rfl rfl rfl ?_
                    refine WO.move rfl rfl rfl rfl ?_
                    refine WO.split (t := 61) rfl (fun hg141 => ?_) (fun hg141 => ?_)
                    · have hr := cond_t hg141 hr
                      refine WO.move rfl rfl rfl rfl ?_
                      obtain ⟨x142, hx143, hr⟩ := bind_some' hr
                      refine WO.indexO h113 hx143 rfl rfl rfl rfl rfl rfl Try.underlying40 sz_27 (fun b144 hb145 => ?_)
                      subst hb145
                      refine WO.loadO 0 h113 hx143 rfl rfl rfl rfl rfl sc_27 ?_
                      refine WO.bin rfl rfl rfl rfl rfl rfl ?_
                      refine WO.pickT rfl rfl rfl rfl rfl ?_
                      refine WO.move rfl rfl rfl rfl ?_
                      refine WO.split (t := 67) rfl (fun hg146 => ?_) (fun hg146 => ?_)
                      · have hr := cond_t hg146 hr
                        refine WO.move rfl rfl rfl rfl ?_
                        obtain ⟨x147, hx148, hr⟩ := bind_some' hr
                        refine WO.indexO h113 hx148 rfl rfl rfl rfl rfl rfl Try.underlying40 sz_27 (fun b149 hb150 => ?_)
                        obtain rfl : b144 = b149 := by cases hb150; rfl
                        refine WO.loadO 0 h113 hx148 rfl rfl rfl rfl rfl sc_27 ?_
                        refine WO.bin rfl rfl rfl rfl rfl rfl ?_
                        refine WO.pickT rfl rfl rfl rfl rfl ?_
                        refine WO.assign rfl rfl rfl rfl ?_
                        refine WO.done ?_
                        refine At.seq_at ?_
                        exact fun a w hc hs => ⟨(x147 == 0), hr, (hc.keep hc.nil (t := 0) rfl), hs⟩
                      · have hr := cond_f hg146 hr
                        refine WO.skip rfl rfl rfl rfl ?_
                        refine WO.skip rfl rfl rfl rfl ?_
                        refine WO.skipF rfl rfl rfl rfl ?_
                        refine WO.skip rfl rfl rfl rfl ?_
                        refine WO.pickF rfl rfl rfl rfl rfl ?_
                        refine WO.assign rfl rfl rfl rfl ?_
                        refine WO.done ?_
                        refine At.seq_at ?_
                        exact fun a w hc hs => ⟨false, hr, (hc.keep hc.nil (t := 0) rfl), hs⟩
                    · have hr := cond_f hg141 hr
                      refine WO.skip rfl rfl rfl rfl ?_
                      refine WO.skip rfl rfl rfl rfl ?_
                      refine WO.skipF rfl rfl rfl rfl ?_
                      refine WO.skip rfl rfl rfl rfl ?_
                      refine WO.pickF rfl rfl rfl rfl rfl ?_
                      refine WO.move rfl rfl rfl rfl ?_
                      refine WO.skip rfl rfl rfl rfl ?_
                      refine WO.skip rfl rfl rfl rfl ?_
                      refine WO.skipF rfl rfl rfl rfl ?_
                      refine WO.skip rfl rfl rfl rfl ?_
                      refine WO.pickF rfl rfl rfl rfl rfl ?_
                      refine WO.assign rfl rfl rfl rfl ?_
                      refine WO.done ?_
                      refine At.seq_at ?_
                      exact fun a w hc hs => ⟨false, hr, (hc.keep hc.nil (t := 0) rfl), hs⟩
                  · have hr := cond_f hg140 hr
                    refine WO.skip rfl rfl rfl rfl ?_
                    refine WO.skip rfl rfl rfl rfl ?_
                    refine WO.skip rfl rfl rfl rfl ?_
                    refine WO.pickF rfl rfl rfl rfl rfl ?_
                    refine WO.move rfl rfl rfl rfl ?_
                    refine WO.skip rfl rfl rfl rfl ?_
                    refine WO.skip rfl rfl rfl rfl ?_
                    refine WO.skipF rfl rfl rfl rfl ?_
                    refine WO.skip rfl rfl rfl rfl ?_
                    refine WO.pickF rfl rfl rfl rfl rfl ?_
                    refine WO.move rfl rfl rfl rfl ?_
                    refine WO.skip rfl rfl rfl rfl ?_
                    refine WO.skip rfl rfl rfl rfl ?_
                    refine WO.skipF rfl rfl rfl rfl ?_
                    refine WO.skip rfl rfl rfl rfl ?_
                    refine WO.pickF rfl rfl rfl rfl rfl ?_
                    refine WO.assign rfl rfl rfl rfl ?_
                    refine WO.done ?_
                    refine At.seq_at ?_
                    exact fun a w hc hs => ⟨false, hr, (hc.keep hc.nil (t := 0) rfl), hs⟩
                · have hr := cond_f hg139 hr
                  refine WO.skip rfl rfl rfl rfl ?_
                  refine WO.skipF rfl rfl rfl rfl ?_
                  refine WO.skip rfl rfl rfl rfl ?_
                  refine WO.pickF rfl rfl rfl rfl rfl ?_
                  refine WO.move rfl rfl rfl rfl ?_
                  refine WO.skip rfl rfl rfl rfl ?_
                  refine WO.skip rfl rfl rfl rfl ?_
                  refine WO.skip rfl rfl rfl rfl ?_
                  refine WO.pickF rfl rfl rfl rfl rfl ?_
                  refine WO.move rfl rfl rfl rfl ?_
                  refine WO.skip rfl rfl rfl rfl ?_
                  refine WO.skip rfl rfl rfl rfl ?_
                  refine WO.skipF rfl rfl rfl rfl ?_
                  refine WO.skip rfl rfl rfl rfl ?_
                  refine WO.pickF rfl rfl rfl rfl rfl ?_
                  refine WO.move rfl rfl rfl rfl ?_
                  refine WO.skip rfl rfl rfl rfl ?_
                  refine WO.skip rfl rfl rfl rfl ?_
                  refine WO.skipF rfl rfl rfl rfl ?_
                  refine WO.skip rfl rfl rfl rfl ?_
                  refine WO.pickF rfl rfl rfl rfl rfl ?_
                  refine WO.assign rfl rfl rfl rfl ?_
                  refine WO.done ?_
                  refine At.seq_at ?_
                  exact fun a w hc hs => ⟨false, hr, (hc.keep hc.nil (t := 0) rfl), hs⟩
              · have hr := cond_f hg138 hr
                refine WO.skip rfl rfl rfl rfl ?_
                refine WO.pickF rfl rfl rfl rfl rfl ?_
                refine WO.move rfl rfl rfl rfl ?_
                refine WO.skip rfl rfl rfl rfl ?_
                refine WO.skipF rfl rfl rfl rfl ?_
                refine WO.skip rfl rfl rfl rfl ?_
                refine WO.pickF rfl rfl rfl rfl rfl ?_
                refine WO.move rfl rfl rfl rfl ?_
                refine WO.skip rfl rfl rfl rfl ?_
                refine WO.skip rfl rfl rfl rfl ?_
                refine WO.skip rfl rfl rfl rfl ?_
                refine WO.pickF rfl rfl rfl rfl rfl ?_
                refine WO.move rfl rfl rfl rfl ?_
                refine WO.skip rfl rfl rfl rfl ?_
                refine WO.skip rfl rfl rfl rfl ?_
                refine WO.skipF rfl rfl rfl rfl ?_
                refine WO.skip rfl rfl rfl rfl ?_
                refine WO.pickF rfl rfl rfl rfl rfl ?_
                refine WO.move rfl rfl rfl rfl ?_
                refine WO.skip rfl rfl rfl rfl ?_
                refine WO.skip rfl rfl rfl rfl ?_
                refine WO.skipF rfl rfl rfl rfl ?_
                refine WO.skip rfl rfl rfl rfl ?_
                refine WO.pickF rfl rfl rfl rfl rfl ?_
                refine WO.assign rfl rfl rfl rfl ?_
                refine WO.done ?_
                refine At.seq_at ?_
                exact fun a w hc hs => ⟨false, hr, (hc.keep hc.nil (t := 0) rfl), hs⟩
            · have hr := cond_f hg133 hr
              refine WO.skip rfl rfl rfl rfl ?_
              refine WO.skip rfl rfl rfl rfl ?_
              refine WO.skipF rfl rfl rfl rfl ?_
              refine WO.skip rfl rfl rfl rfl ?_
              refine WO.pickF rfl rfl rfl rfl rfl ?_
              refine WO.move rfl rfl rfl rfl ?_
              refine WO.skip rfl rfl rfl rfl ?_
              refine WO.pickF rfl rfl rfl rfl rfl ?_
              refine WO.move rfl rfl rfl rfl ?_
              refine WO.skip rfl rfl rfl rfl ?_
              refine WO.skipF rfl rfl rfl rfl ?_
              refine WO.skip rfl rfl rfl rfl ?_
              refine WO.pickF rfl rfl rfl rfl rfl ?_
              refine WO.move rfl rfl rfl rfl ?_
              refine WO.skip rfl rfl rfl rfl ?_
              refine WO.skip rfl rfl rfl rfl ?_
              refine WO.skip rfl rfl rfl rfl ?_
              refine WO.pickF rfl rfl rfl rfl rfl ?_
              refine WO.move rfl rfl rfl rfl ?_
              refine WO.skip rfl rfl rfl rfl ?_
              refine WO.skip rfl rfl rfl rfl ?_
              refine WO.skipF rfl rfl rfl rfl ?_
              refine WO.skip rfl rfl rfl rfl ?_
              refine WO.pickF rfl rfl rfl rfl rfl ?_
              refine WO.move rfl rfl rfl rfl ?_
              refine WO.skip rfl rfl rfl rfl ?_
              refine WO.skip rfl rfl rfl rfl ?_
              refine WO.skipF rfl rfl rfl rfl ?_
              refine WO.skip rfl rfl rfl rfl ?_
              refine WO.pickF rfl rfl rfl rfl rfl ?_
              refine WO.assign rfl rfl rfl rfl ?_
              refine WO.done ?_
              refine At.seq_at ?_
              exact fun a w hc hs => ⟨false, hr, (hc.keep hc.nil (t := 0) rfl), hs⟩
          · have hr := cond_f hg128 hr
            refine WO.skip rfl rfl rfl rfl ?_
            refine WO.skip rfl rfl rfl rfl ?_
            refine WO.skipF rfl rfl rfl rfl ?_
            refine WO.skip rfl rfl rfl rfl ?_
            refine WO.pickF rfl rfl rfl rfl rfl ?_
            refine WO.move rfl rfl rfl rfl ?_
            refine WO.skip rfl rfl rfl rfl ?_
            refine WO.skip rfl rfl rfl rfl ?_
            refine WO.skipF rfl rfl rfl rfl ?_
            refine WO.skip rfl rfl rfl rfl ?_
            refine WO.pickF rfl rfl rfl rfl rfl ?_
            refine WO.move rfl rfl rfl rfl ?_
            refine WO.skip rfl rfl rfl rfl ?_
            refine WO.pickF rfl rfl rfl rfl rfl ?_
            refine WO.move rfl rfl rfl rfl ?_
            refine WO.skip rfl rfl rfl rfl ?_
            refine WO.skipF rfl rfl rfl rfl ?_
            refine WO.skip rfl rfl rfl rfl ?_
            refine WO.pickF rfl rfl rfl rfl rfl ?_
            refine WO.move rfl rfl rfl rfl ?_
            refine WO.skip rfl rfl rfl rfl ?_
            refine WO.skip rfl rfl rfl rfl ?_
            refine WO.skip rfl rfl rfl rfl ?_
            refine WO.pickF rfl rfl rfl rfl rfl ?_
            refine WO.move rfl rfl rfl rfl ?_
            refine WO.skip rfl rfl rfl rfl ?_
            refine WO.skip rfl rfl rfl rfl ?_
            refine WO.skipF rfl rfl rfl rfl ?_
            refine WO.skip rfl rfl rfl rfl ?_
            refine WO.pickF rfl rfl rfl rfl rfl ?_
            refine WO.move rfl rfl rfl rfl ?_
            refine WO.skip rfl rfl rfl rfl ?_
            refine WO.skip rfl rfl rfl rfl ?_
            refine WO.skipF rfl rfl rfl rfl ?_
            refine WO.skip rfl rfl rfl rfl ?_
            refine WO.pickF rfl rfl rfl rfl rfl ?_
            refine WO.assign rfl rfl rfl rfl ?_
            refine WO.done ?_
            refine At.seq_at ?_
            exact fun a w hc hs => ⟨false, hr, (hc.keep hc.nil (t := 0) rfl), hs⟩
        · rintro a w ⟨v127, hr, hc, hs⟩
          refine WC.use hc hs ?_
          clear hc hs
          unfold law21_awake_k3 at hr
          refine WC.ret ?_
          obtain rfl := Option.some.inj hr
          exact At.ret (fun a w hc hs => (resVs_cons (hc.res rfl) resVs_nil)) (fun w hs => ⟨rfl, (hs.arrange 6 8 [] [] (by decide))⟩)
/-! peloton/pelotonref07.Right -/
def ref07_Right_k2 (v7 : Bool) : Option Bool := some v7
def ref07_Right_k1 (p0 : S_api_Shape) (v4 : Bool) : Option Bool := cond v4 (some false) (cond (decide (p0.Inner ≥ 1)) (cond (decide (p0.Inner ≤ 256)) (cond (decide (p0.Vocab ≥ 1)) (cond (decide (p0.Vocab ≤ 512)) (cond (decide (p0.Places ≥ 1)) (ref07_Right_k2 (decide (p0.Places ≤ 256))) (ref07_Right_k2 false)) (ref07_Right_k2 false)) (ref07_Right_k2 false)) (ref07_Right_k2 false)) (ref07_Right_k2 false))
def ref07_Right (p0 : S_api_Shape) : Option Bool := cond (decide (p0.Layers < 1)) (ref07_Right_k1 p0 true) (cond (decide (p0.Layers > 16)) (ref07_Right_k1 p0 true) (cond (decide (p0.Heads < 1)) (ref07_Right_k1 p0 true) (cond (decide (p0.Heads > 16)) (ref07_Right_k1 p0 true) (cond (decide (p0.Width < 2)) (ref07_Right_k1 p0 true) (cond (decide (p0.Width > 128)) (ref07_Right_k1 p0 true) (guardO ((IntKind.wrap .i64 (2 * p0.Heads)) ≠ 0) (ref07_Right_k1 p0 ((Int.tmod p0.Width (IntKind.wrap .i64 (2 * p0.Heads))) != 0))))))))
theorem ref07_Right_ok {F : Mem} {p0 : S_api_Shape} {cs_0 : List Value} (h_0 : R_api_Shape F cs_0 p0) {r : Bool} (hr : ref07_Right p0 = some r) (Φ : List (List Chunk)) :
    CallsRet Try.prog 6 (List.toArray [.agg cs_0.toArray]) F Φ (fun v w => v = .bool r ∧ Sat F (Φ) w) := by
  obtain rfl := h_0
  refine CallsRet.enter (rs := [.tmp 2]) Try.func6 rfl rfl rfl rfl ?_
  unfold ref07_Right at hr
  refine WC.then ?_
  refine WC.region [(0, false), (1, true)] rfl ?_
  refine WO.box rfl rfl rfl rfl rfl (fun _ _ _ => trivial) (fun b1 => ?_)
  refine WO.assign rfl rfl rfl rfl ?_
  refine WO.done ?_
  refine At.seq_wc ?_
  refine WC.then ?_
  refine WC.seq (fun a w => ∃ (v4 : Bool), ref07_Right_k1 p0 v4 = some r ∧ Ctx 68 [(1, .pointer (some ⟨b1, 0, none⟩)), (39, .bool v4)] a ∧ Sat F ([(b1, row [.int .i64 p0.Layers, .int .i64 p0.Width, .int .i64 p0.Heads, .int .i64 p0.Inner, .int .i64 p0.Vocab, .int .i64 p0.Places] 23)] :: Φ) w) ?_ ?_
  · refine WC.region [(0, true), (1, false), (2, true), (3, true), (4, true), (5, false), (6, true), (7, true), (8, true), (9, true), (10, false), (11, true), (12, true), (13, true), (14, true), (15, false), (16, true), (17, true), (18, true), (19, true), (20, false), (21, true), (22, true), (23, true), (24, true), (25, false), (26, true), (27, true), (28, true), (29, true), (30, false), (31, true), (32, false), (33, true), (34, true), (35, true), (36, true)] rfl ?_
    refine WO.fieldAddr 0 rfl rfl rfl rfl fl_23_0 ?_
    refine WO.load 0 rfl rfl rfl rfl sc_3 rfl rfl ?_
    refine WO.bin rfl rfl rfl rfl rfl rfl ?_
    refine WO.move rfl rfl rfl rfl ?_
    refine WO.split (t := 6) rfl (fun hg13 => ?_) (fun hg13 => ?_)
    · have hr := cond_t hg13 hr
      refine WO.skip rfl rfl rfl rfl ?_
      refine WO.skipF rfl rfl rfl rfl ?_
      refine WO.skip rfl rfl rfl rfl ?_
      refine WO.pickT rfl rfl rfl rfl rfl ?_
      refine WO.move rfl rfl rfl rfl ?_
      refine WO.skip rfl rfl rfl rfl ?_
      refine WO.skipF rfl rfl rfl rfl ?_
      refine WO.skip rfl rfl rfl rfl ?_
      refine WO.pickT rfl rfl rfl rfl rfl ?_
      refine WO.move rfl rfl rfl rfl ?_
      refine WO.skip rfl rfl rfl rfl ?_
      refine WO.skipF rfl rfl rfl rfl ?_
      refine WO.skip rfl rfl rfl rfl ?_
      refine WO.pickT rfl rfl rfl rfl rfl ?_
      refine WO.move rfl rfl rfl rfl ?_
      refine WO.skip rfl rfl rfl rfl ?_
      refine WO.skipF rfl rfl rfl rfl ?_
      refine WO.skip rfl rfl rfl rfl ?_
      refine WO.pickT rfl rfl rfl rfl rfl ?_
      refine WO.move rfl rfl rfl rfl ?_
      refine WO.skip rfl rfl rfl rfl ?_
      refine WO.skipF rfl rfl rfl rfl ?_
      refine WO.skip rfl rfl rfl rfl ?_
      refine WO.pickT rfl rfl rfl rfl rfl ?_
      refine WO.move rfl rfl rfl rfl ?_
      refine WO.skip rfl rfl rfl rfl ?_
      refine WO.skipF rfl rfl rfl rfl ?_
      refine WO.skip rfl rfl rfl rfl ?_
      refine WO.skipF rfl rfl rfl rfl ?_
      refine WO.skip rfl rfl rfl rfl ?_
      refine WO.skip rfl rfl rfl rfl ?_
      refine WO.skip rfl rfl rfl rfl ?_
      refine WO.pickT rfl rfl rfl rfl rfl ?_
      refine WO.done ?_
      refine At.seq_at ?_
      exact fun a w hc hs => ⟨true, hr, (hc.keep (hc.keep hc.nil (t := 39) rfl) (t := 1) rfl), hs⟩
    · have hr := cond_f hg13 hr
      refine WO.fieldAddr 0 rfl rfl rfl rfl fl_23_0 ?_
      refine WO.load 0 rfl rfl rfl rfl sc_3 rfl rfl ?_
      refine WO.bin rfl rfl rfl rfl rfl rfl ?_
      refine WO.pickF rfl rfl rfl rfl rfl ?_
      refine WO.move rfl rfl rfl rfl ?_
      refine WO.split (t := 11) rfl (fun hg14 => ?_) (fun hg14 => ?_)
      · have hr := cond_t hg14 hr
        refine WO.skip rfl rfl rfl rfl ?_
        refine WO.skipF rfl rfl rfl rfl ?_
        refine WO.skip rfl rfl rfl rfl ?_
        refine WO.pickT rfl rfl rfl rfl rfl ?_
        refine WO.move rfl rfl rfl rfl ?_
        refine WO.skip rfl rfl rfl rfl ?_
        refine WO.skipF rfl rfl rfl rfl ?_
        refine WO.skip rfl rfl rfl rfl ?_
        refine WO.pickT rfl rfl rfl rfl rfl ?_
        refine WO.move rfl rfl rfl rfl ?_
        refine WO.skip rfl rfl rfl rfl ?_
        refine WO.skipF rfl rfl rfl rfl ?_
        refine WO.skip rfl rfl rfl rfl ?_
        refine WO.pickT rfl rfl rfl rfl rfl ?_
        refine WO.move rfl rfl rfl rfl ?_
        refine WO.skip rfl rfl rfl rfl ?_
        refine WO.skipF rfl rfl rfl rfl ?_
        refine WO.skip rfl rfl rfl rfl ?_
        refine WO.pickT rfl rfl rfl rfl rfl ?_
        refine WO.move rfl rfl rfl rfl ?_
        refine WO.skip rfl rfl rfl rfl ?_
        refine WO.skipF rfl rfl rfl rfl ?_
        refine WO.skip rfl rfl rfl rfl ?_
        refine WO.skipF rfl rfl rfl rfl ?_
        refine WO.skip rfl rfl rfl rfl ?_
        refine WO.skip rfl rfl rfl rfl ?_
        refine WO.skip rfl rfl rfl rfl ?_
        refine WO.pickT rfl rfl rfl rfl rfl ?_
        refine WO.done ?_
        refine At.seq_at ?_
        exact fun a w hc hs => ⟨true, hr, (hc.keep (hc.keep hc.nil (t := 39) rfl) (t := 1) rfl), hs⟩
      · have hr := cond_f hg14 hr
        refine WO.fieldAddr 2 rfl rfl rfl rfl fl_23_2 ?_
        refine WO.load 0 rfl rfl rfl rfl sc_3 rfl rfl ?_
        refine WO.bin rfl rfl rfl rfl rfl rfl ?_
        refine WO.pickF rfl rfl rfl rfl rfl ?_
        refine WO.move rfl rfl rfl rfl ?_
        refine WO.split (t := 16) rfl (fun hg15 => ?_) (fun hg15 => ?_)
        · have hr := cond_t hg15 hr
          refine WO.skip rfl rfl rfl rfl ?_
          refine WO.skipF rfl rfl rfl rfl ?_
          refine WO.skip rfl rfl rfl rfl ?_
          refine WO.pickT rfl rfl rfl rfl rfl ?_
          refine WO.move rfl rfl rfl rfl ?_
          refine WO.skip rfl rfl rfl rfl ?_
          refine WO.skipF rfl rfl rfl rfl ?_
          refine WO.skip rfl rfl rfl rfl ?_
          refine WO.pickT rfl rfl rfl rfl rfl ?_
          refine WO.move rfl rfl rfl rfl ?_
          refine WO.skip rfl rfl rfl rfl ?_
          refine WO.skipF rfl rfl rfl rfl ?_
          refine WO.skip rfl rfl rfl rfl ?_
          refine WO.pickT rfl rfl rfl rfl rfl ?_
          refine WO.move rfl rfl rfl rfl ?_
          refine WO.skip rfl rfl rfl rfl ?_
          refine WO.skipF rfl rfl rfl rfl ?_
          refine WO.skip rfl rfl rfl rfl ?_
          refine WO.skipF rfl rfl rfl rfl ?_
          refine WO.skip rfl rfl rfl rfl ?_
          refine WO.skip rfl rfl rfl rfl ?_
          refine WO.skip rfl rfl rfl rfl ?_
          refine WO.pickT rfl rfl rfl rfl rfl ?_
          refine WO.done ?_
          refine At.seq_at ?_
          exact fun a w hc hs => ⟨true, hr, (hc.keep (hc.keep hc.nil (t := 39) rfl) (t := 1) rfl), hs⟩
        · have hr := cond_f hg15 hr
          refine WO.fieldAddr 2 rfl rfl rfl rfl fl_23_2 ?_
          refine WO.load 0 rfl rfl rfl rfl sc_3 rfl rfl ?_
          refine WO.bin rfl rfl rfl rfl rfl rfl ?_
          refine WO.pickF rfl rfl rfl rfl rfl ?_
          refine WO.move rfl rfl rfl rfl ?_
          refine WO.split (t := 21) rfl (fun hg16 => ?_) (fun hg16 => ?_)
          · have hr := cond_t hg16 hr
            refine WO.skip rfl rfl rfl rfl ?_
            refine WO.skipF rfl rfl rfl rfl ?_
            refine WO.skip rfl rfl rfl rfl ?_
            refine WO.pickT rfl rfl rfl rfl rfl ?_
            refine WO.move rfl rfl rfl rfl ?_
            refine WO.skip rfl rfl rfl rfl ?_
            refine WO.skipF rfl rfl rfl rfl ?_
            refine WO.skip rfl rfl rfl rfl ?_
            refine WO.pickT rfl rfl rfl rfl rfl ?_
            refine WO.move rfl rfl rfl rfl ?_
            refine WO.skip rfl rfl rfl rfl ?_
            refine WO.skipF rfl rfl rfl rfl ?_
            refine WO.skip rfl rfl rfl rfl ?_
            refine WO.skipF rfl rfl rfl rfl ?_
            refine WO.skip rfl rfl rfl rfl ?_
            refine WO.skip rfl rfl rfl rfl ?_
            refine WO.skip rfl rfl rfl rfl ?_
            refine WO.pickT rfl rfl rfl rfl rfl ?_
            refine WO.done ?_
            refine At.seq_at ?_
            exact fun a w hc hs => ⟨true, hr, (hc.keep (hc.keep hc.nil (t := 39) rfl) (t := 1) rfl), hs⟩
          · have hr := cond_f hg16 hr
            refine WO.fieldAddr 1 rfl rfl rfl rfl fl_23_1 ?_
            refine WO.load 0 rfl rfl rfl rfl sc_3 rfl rfl ?_
            refine WO.bin rfl rfl rfl rfl rfl rfl ?_
            refine WO.pickF rfl rfl rfl rfl rfl ?_
            refine WO.move rfl rfl rfl rfl ?_
            refine WO.split (t := 26) rfl (fun hg17 => ?_) (fun hg17 => ?_)
            · have hr := cond_t hg17 hr
              refine WO.skip rfl rfl rfl rfl ?_
              refine WO.skipF rfl rfl rfl rfl ?_
              refine WO.skip rfl rfl rfl rfl ?_
              refine WO.pickT rfl rfl rfl rfl rfl ?_
              refine WO.move rfl rfl rfl rfl ?_
              refine WO.skip rfl rfl rfl rfl ?_
              refine WO.skipF rfl rfl rfl rfl ?_
              refine WO.skip rfl rfl rfl rfl ?_
              refine WO.skipF rfl rfl rfl rfl ?_
              refine WO.skip rfl rfl rfl rfl ?_
              refine WO.skip rfl rfl rfl rfl ?_
              refine WO.skip rfl rfl rfl rfl ?_
              refine WO.pickT rfl rfl rfl rfl rfl ?_
              refine WO.done ?_
              refine At.seq_at ?_
              exact fun a w hc hs => ⟨true, hr, (hc.keep (hc.keep hc.nil (t := 39) rfl) (t := 1) rfl), hs⟩
            · have hr := cond_f hg17 hr
              refine WO.fieldAddr 1 rfl rfl rfl rfl fl_23_1 ?_
              refine WO.load 0 rfl rfl rfl rfl sc_3 rfl rfl ?_
              refine WO.bin rfl rfl rfl rfl rfl rfl ?_
              refine WO.pickF rfl rfl rfl rfl rfl ?_
              refine WO.move rfl rfl rfl rfl ?_
              refine WO.split (t := 31) rfl (fun hg18 => ?_) (fun hg18 => ?_)
              · have hr := cond_t hg18 hr
                refine WO.skip rfl rfl rfl rfl ?_
                refine WO.skipF rfl rfl rfl rfl ?_
                refine WO.skip rfl rfl rfl rfl ?_
                refine WO.skipF rfl rfl rfl rfl ?_
                refine WO.skip rfl rfl rfl rfl ?_
                refine WO.skip rfl rfl rfl rfl ?_
                refine WO.skip rfl rfl rfl rfl ?_
                refine WO.pickT rfl rfl rfl rfl rfl ?_
                refine WO.done ?_
                refine At.seq_at ?_
                exact fun a w hc hs => ⟨true, hr, (hc.keep (hc.keep hc.nil (t := 39) rfl) (t := 1) rfl), hs⟩
              · have hr := cond_f hg18 hr
                refine WO.fieldAddr 1 rfl rfl rfl rfl fl_23_1 ?_
                refine WO.load 0 rfl rfl rfl rfl sc_3 rfl rfl ?_
                refine WO.fieldAddr 2 rfl rfl rfl rfl fl_23_2 ?_
                refine WO.load 0 rfl rfl rfl rfl sc_3 rfl rfl ?_
                refine WO.bin rfl rfl rfl rfl rfl rfl ?_
                obtain ⟨hk19, hr⟩ := guardO_some hr
                refine WO.rem hk19 rfl rfl rfl rfl rfl ?_
                refine WO.bin rfl rfl rfl rfl rfl rfl ?_
                refine WO.pickF rfl rfl rfl rfl rfl ?_
                refine WO.done ?_
                refine At.seq_at ?_
                exact fun a w hc hs => ⟨((Int.tmod p0.Width (IntKind.wrap .i64 (2 * p0.Heads))) != 0), hr, (hc.keep (hc.keep hc.nil (t := 39) rfl) (t := 1) rfl), hs⟩
  · rintro a w ⟨v4, hr, hc, hs⟩
    refine WC.use hc hs ?_
    clear hc hs
    unfold ref07_Right_k1 at hr
    refine WC.cond rfl (fun hb5 => ?_) (fun hb5 => ?_)
    · have hr := cond_t hb5 hr
      refine WC.then ?_
      refine WC.region [(0, true)] rfl ?_
      refine WO.assign rfl rfl rfl rfl ?_
      refine WO.done ?_
      refine At.seq_wc ?_
      refine WC.ret ?_
      refine At.seq_ret ?_
      obtain rfl := Option.some.inj hr
      exact At.ret (fun a w hc hs => (resVs_cons (hc.res rfl) resVs_nil)) (fun w hs => ⟨rfl, (hs.arrange 0 1 [] [] (by decide))⟩)
    · have hr := cond_f hb5 hr
      refine WC.skip ?_
      refine At.seq_wc ?_
      refine WC.seq (fun a w => ∃ (v7 : Bool), ref07_Right_k2 v7 = some r ∧ Ctx 68 [(2, .bool v7)] a ∧ Sat F ([(b1, row [.int .i64 p0.Layers, .int .i64 p0.Width, .int .i64 p0.Heads, .int .i64 p0.Inner, .int .i64 p0.Vocab, .int .i64 p0.Places] 23)] :: Φ) w) ?_ ?_
      · refine WC.region [(0, true), (1, false), (2, true), (3, true), (4, true), (5, false), (6, true), (7, true), (8, true), (9, true), (10, false), (11, true), (12, true), (13, true), (14, true), (15, false), (16, true), (17, true), (18, true), (19, true), (20, false), (21, true), (22, true), (23, true), (24, true), (25, false), (26, true), (27, true), (28, true)] rfl ?_
        refine WO.fieldAddr 3 rfl rfl rfl rfl fl_23_3 ?_
        refine WO.load 0 rfl rfl rfl rfl sc_3 rfl rfl ?_
        refine WO.bin rfl rfl rfl rfl rfl rfl ?_
        refine WO.move rfl rfl rfl rfl ?_
        refine WO.split (t := 43) rfl (fun hg8 => ?_) (fun hg8 => ?_)
        · have hr := cond_t hg8 hr
          refine WO.fieldAddr 3 rfl rfl rfl rfl fl_23_3 ?_
          refine WO.load 0 rfl rfl rfl rfl sc_3 rfl rfl ?_
          refine WO.bin rfl rfl rfl rfl rfl rfl ?_
          refine WO.pickT rfl rfl rfl rfl rfl ?_
          refine WO.move rfl rfl rfl rfl ?_
          refine WO.split (t := 48) rfl (fun hg9 => ?_) (fun hg9 => ?_)
          · have hr := cond_t hg9 hr
            refine WO.fieldAddr 4 rfl rfl rfl rfl fl_23_4 ?_
            refine WO.load 0 rfl rfl rfl rfl sc_3 rfl rfl ?_
            refine WO.bin rfl rfl rfl rfl rfl rfl ?_
            refine WO.pickT rfl rfl rfl rfl rfl ?_
            refine WO.move rfl rfl rfl rfl ?_
            refine WO.split (t := 53) rfl (fun hg10 => ?_) (fun hg10 => ?_)
            · have hr := cond_t hg10 hr
              refine WO.fieldAddr 4 rfl rfl rfl rfl fl_23_4 ?_
              refine WO.load 0 rfl rfl rfl rfl sc_3 rfl rfl ?_
              refine WO.bin rfl rfl rfl rfl rfl rfl ?_
              refine WO.pickT rfl rfl rfl rfl rfl ?_
              refine WO.move rfl rfl rfl rfl ?_
              refine WO.split (t := 58) rfl (fun hg11 => ?_) (fun hg11 => ?_)
              · have hr := cond_t hg11 hr
                refine WO.fieldAddr 5 rfl rfl rfl rfl fl_23_5 ?_
                refine WO.load 0 rfl rfl rfl rfl sc_3 rfl rfl ?_
                refine WO.bin rfl rfl rfl rfl rfl rfl ?_
                refine WO.pickT rfl rfl rfl rfl rfl ?_
                refine WO.move rfl rfl rfl rfl ?_
                refine WO.split (t := 63) rfl (fun hg12 => ?_) (fun hg12 => ?_)
                · have hr := cond_t hg12 hr
                  refine WO.fieldAddr 5 rfl rfl rfl rfl fl_23_5 ?_
                  refine WO.load 0 rfl rfl rfl rfl sc_3 rfl rfl ?_
                  refine WO.bin rfl rfl rfl rfl rfl rfl ?_
                  refine WO.pickT rfl rfl rfl rfl rfl ?_
                  refine WO.assign rfl rfl rfl rfl ?_
                  refine WO.done ?_
                  refine At.seq_at ?_
                  exact fun a w hc hs => ⟨(decide (p0.Places ≤ 256)), hr, (hc.keep hc.nil (t := 2) rfl), hs⟩
                · have hr := cond_f hg12 hr
                  refine WO.skip rfl rfl rfl rfl ?_
                  refine WO.skipF rfl rfl rfl rfl ?_
                  refine WO.skip rfl rfl rfl rfl ?_
                  refine WO.pickF rfl rfl rfl rfl rfl ?_
                  refine WO.assign rfl rfl rfl rfl ?_
                  refine WO.done ?_
                  refine At.seq_at ?_
                  exact fun a w hc hs => ⟨false, hr, (hc.keep hc.nil (t := 2) rfl), hs⟩
              · have hr := cond_f hg11 hr
                refine WO.skip rfl rfl rfl rfl ?_
                refine WO.skipF rfl rfl rfl rfl ?_
                refine WO.skip rfl rfl rfl rfl ?_
                refine WO.pickF rfl rfl rfl rfl rfl ?_
                refine WO.move rfl rfl rfl rfl ?_
                refine WO.skip rfl rfl rfl rfl ?_
                refine WO.skipF rfl rfl rfl rfl ?_
                refine WO.skip rfl rfl rfl rfl ?_
                refine WO.pickF rfl rfl rfl rfl rfl ?_
                refine WO.assign rfl rfl rfl rfl ?_
                refine WO.done ?_
                refine At.seq_at ?_
                exact fun a w hc hs => ⟨false, hr, (hc.keep hc.nil (t := 2) rfl), hs⟩
            · have hr := cond_f hg10 hr
              refine WO.skip rfl rfl rfl rfl ?_
              refine WO.skipF rfl rfl rfl rfl ?_
              refine WO.skip rfl rfl rfl rfl ?_
              refine WO.pickF rfl rfl rfl rfl rfl ?_
              refine WO.move rfl rfl rfl rfl ?_
              refine WO.skip rfl rfl rfl rfl ?_
              refine WO.skipF rfl rfl rfl rfl ?_
              refine WO.skip rfl rfl rfl rfl ?_
              refine WO.pickF rfl rfl rfl rfl rfl ?_
              refine WO.move rfl rfl rfl rfl ?_
              refine WO.skip rfl rfl rfl rfl ?_
              refine WO.skipF rfl rfl rfl rfl ?_
              refine WO.skip rfl rfl rfl rfl ?_
              refine WO.pickF rfl rfl rfl rfl rfl ?_
              refine WO.assign rfl rfl rfl rfl ?_
              refine WO.done ?_
              refine At.seq_at ?_
              exact fun a w hc hs => ⟨false, hr, (hc.keep hc.nil (t := 2) rfl), hs⟩
          · have hr := cond_f hg9 hr
            refine WO.skip rfl rfl rfl rfl ?_
            refine WO.skipF rfl rfl rfl rfl ?_
            refine WO.skip rfl rfl rfl rfl ?_
            refine WO.pickF rfl rfl rfl rfl rfl ?_
            refine WO.move rfl rfl rfl rfl ?_
            refine WO.skip rfl rfl rfl rfl ?_
            refine WO.skipF rfl rfl rfl rfl ?_
            refine WO.skip rfl rfl rfl rfl ?_
            refine WO.pickF rfl rfl rfl rfl rfl ?_
            refine WO.move rfl rfl rfl rfl ?_
            refine WO.skip rfl rfl rfl rfl ?_
            refine WO.skipF rfl rfl rfl rfl ?_
            refine WO.skip rfl rfl rfl rfl ?_
            refine WO.pickF rfl rfl rfl rfl rfl ?_
            refine WO.move rfl rfl rfl rfl ?_
            refine WO.skip rfl rfl rfl rfl ?_
            refine WO.skipF rfl rfl rfl rfl ?_
            refine WO.skip rfl rfl rfl rfl ?_
            refine WO.pickF rfl rfl rfl rfl rfl ?_
            refine WO.assign rfl rfl rfl rfl ?_
            refine WO.done ?_
            refine At.seq_at ?_
            exact fun a w hc hs => ⟨false, hr, (hc.keep hc.nil (t := 2) rfl), hs⟩
        · have hr := cond_f hg8 hr
          refine WO.skip rfl rfl rfl rfl ?_
          refine WO.skipF rfl rfl rfl rfl ?_
          refine WO.skip rfl rfl rfl rfl ?_
          refine WO.pickF rfl rfl rfl rfl rfl ?_
          refine WO.move rfl rfl rfl rfl ?_
          refine WO.skip rfl rfl rfl rfl ?_
          refine WO.skipF rfl rfl rfl rfl ?_
          refine WO.skip rfl rfl rfl rfl ?_
          refine WO.pickF rfl rfl rfl rfl rfl ?_
          refine WO.move rfl rfl rfl rfl ?_
          refine WO.skip rfl rfl rfl rfl ?_
          refine WO.skipF rfl rfl rfl rfl ?_
          refine WO.skip rfl rfl rfl rfl ?_
          refine WO.pickF rfl rfl rfl rfl rfl ?_
          refine WO.move rfl rfl rfl rfl ?_
          refine WO.skip rfl rfl rfl rfl ?_
          refine WO.skipF rfl rfl rfl rfl ?_
          refine WO.skip rfl rfl rfl rfl ?_
          refine WO.pickF rfl rfl rfl rfl rfl ?_
          refine WO.move rfl rfl rfl rfl ?_
          refine WO.skip rfl rfl rfl rfl ?_
          refine WO.skipF rfl rfl rfl rfl ?_
          refine WO.skip rfl rfl rfl rfl ?_
          refine WO.pickF rfl rfl rfl rfl rfl ?_
          refine WO.assign rfl rfl rfl rfl ?_
          refine WO.done ?_
          refine At.seq_at ?_
          exact fun a w hc hs => ⟨false, hr, (hc.keep hc.nil (t := 2) rfl), hs⟩
      · rintro a w ⟨v7, hr, hc, hs⟩
        refine WC.use hc hs ?_
        clear hc hs
        unfold ref07_Right_k2 at hr
        refine WC.ret ?_
        obtain rfl := Option.some.inj hr
        exact At.ret (fun a w hc hs => (resVs_cons (hc.res rfl) resVs_nil)) (fun w hs => ⟨rfl, (hs.arrange 0 1 [] [] (by decide))⟩)
/-! (*peloton/pelotonref21.Desk).Took -/
def ref21_Desk_Took_vvvvvvvoo_k1  : Option Bool := some false
def ref21_Desk_Took_vvvvvvvoo_b2 (p0 : S_ref21_Desk) (p1 : Int) (v6 : Int) : Option (Int ⊕ (Lp Bool Unit)) := cond (decide (v6 < (p0.Ids.length : Int))) ((getI p0.Ids v6).bind fun x11 => cond (x11 == p1) (some (.inr (.ret true))) (some (.inl (IntKind.wrap .i64 (v6 + 1))))) (some (.inr (.brk ())))
def ref21_Desk_Took_vvvvvvvoo (p0 : S_ref21_Desk) (p1 : Int) : Option Bool := (loopO (fun s => ref21_Desk_Took_vvvvvvvoo_b2 p0 p1 s) 0).bind (fun | .ret r => some r | .brk _ => ref21_Desk_Took_vvvvvvvoo_k1 )
theorem ref21_Desk_Took_vvvvvvvoo_ok {F : Mem} {p0 : S_ref21_Desk} {p1 : Int} {b_0 : Nat} {a_0_7 : Option Addr} {c_0_7 : Nat} {ψ_0_7 : List Chunk} (ho_0_7 : OwnL 3 R_api_Request F 37 a_0_7 c_0_7 p0.L ψ_0_7) {a_0_8 : Option Addr} {c_0_8 : Nat} {ψ_0_8 : List Chunk} (ho_0_8 : OwnL 1 (RInt .i64) F 3 a_0_8 c_0_8 p0.Ids ψ_0_8) {r : Bool} (hr : ref21_Desk_Took_vvvvvvvoo p0 p1 = some r) (Φ : List (List Chunk)) :
    CallsRet Try.prog 18 (List.toArray [.pointer (some ⟨b_0, 0, none⟩), .int .i64 p1]) F ([(b_0, row [.int .i64 p0.S.Layers, .int .i64 p0.S.Width, .int .i64 p0.S.Heads, .int .i64 p0.S.Inner, .int .i64 p0.S.Vocab, .int .i64 p0.S.Places, .int .i64 p0.Room, .slice a_0_7 p0.L.length c_0_7, .slice a_0_8 p0.Ids.length c_0_8] 35)] :: ψ_0_7 :: ψ_0_8 :: Φ) (fun v w => v = .bool r ∧ Sat F ([(b_0, row [.int .i64 p0.S.Layers, .int .i64 p0.S.Width, .int .i64 p0.S.Heads, .int .i64 p0.S.Inner, .int .i64 p0.S.Vocab, .int .i64 p0.S.Places, .int .i64 p0.Room, .slice a_0_7 p0.L.length c_0_7, .slice a_0_8 p0.Ids.length c_0_8] 35)] :: ψ_0_7 :: ψ_0_8 :: Φ) w) := by
  refine CallsRet.enter (rs := [.tmp 4]) Try.func18 rfl rfl rfl rfl ?_
  unfold ref21_Desk_Took_vvvvvvvoo at hr
  refine WC.then ?_
  refine WC.region [(0, true)] rfl ?_
  refine WO.assign rfl rfl rfl rfl ?_
  refine WO.done ?_
  refine At.seq_wc ?_
  refine WC.seq (fun a w => ref21_Desk_Took_vvvvvvvoo_k1  = some r ∧ Ctx 24 [] a ∧ Sat F ([(b_0, row [.int .i64 p0.S.Layers, .int .i64 p0.S.Width, .int .i64 p0.S.Heads, .int .i64 p0.S.Inner, .int .i64 p0.S.Vocab, .int .i64 p0.S.Places, .int .i64 p0.Room, .slice a_0_7 p0.L.length c_0_7, .slice a_0_8 p0.Ids.length c_0_8] 35)] :: ψ_0_7 :: ψ_0_8 :: Φ) w) ?_ ?_
  · refine WC.then ?_
    refine WC.region [(0, true)] rfl ?_
    refine WO.assign rfl rfl rfl rfl ?_
    refine WO.done ?_
    refine At.seq_wc ?_
    obtain ⟨xl3, hl3, hk3⟩ := bind_some' hr
    refine WC.weaken (fun a w => .brk () = xl3 ∧ Ctx 24 [] a ∧ Sat F ([(b_0, row [.int .i64 p0.S.Layers, .int .i64 p0.S.Width, .int .i64 p0.S.Heads, .int .i64 p0.S.Inner, .int .i64 p0.S.Vocab, .int .i64 p0.S.Places, .int .i64 p0.Room, .slice a_0_7 p0.L.length c_0_7, .slice a_0_8 p0.Ids.length c_0_8] 35)] :: ψ_0_7 :: ψ_0_8 :: Φ) w) ?_ ?_
    · refine WC.block ?_
      refine WC.loop (fun (v6 : Int) a w => Ctx 24 [(0, .pointer (some ⟨b_0, 0, none⟩)), (1, .int .i64 p1), (5, .int .i64 v6)] a ∧ Sat F ([(b_0, row [.int .i64 p0.S.Layers, .int .i64 p0.S.Width, .int .i64 p0.S.Heads, .int .i64 p0.S.Inner, .int .i64 p0.S.Vocab, .int .i64 p0.S.Places, .int .i64 p0.Room, .slice a_0_7 p0.L.length c_0_7, .slice a_0_8 p0.Ids.length c_0_8] 35)] :: ψ_0_7 :: ψ_0_8 :: Φ) w) hl3 ?_ ?_
      · exact fun a w hc hs => ⟨(hc.keep (hc.keep (hc.keep hc.nil (t := 5) rfl) (t := 1) rfl) (t := 0) rfl), hs⟩
      · rintro v6 r3 hr a w ⟨hc, hs⟩
        refine WC.use hc hs ?_
        clear hc hs
        (try dsimp only at hr)
        unfold ref21_Desk_Took_vvvvvvvoo_b2 at hr
        refine WC.then ?_
        refine WC.then ?_
        refine WC.region [(0, true), (1, true), (2, true), (3, true), (4, false), (5, true), (6, true)] rfl ?_
        refine WO.move rfl rfl rfl rfl ?_
        refine WO.move rfl rfl rfl rfl ?_
        refine WO.nilCheck rfl rfl rfl rfl ?_
        refine WO.fieldAddr 8 rfl rfl rfl rfl fl_35_3 ?_
        refine WO.load 0 rfl rfl rfl rfl sc_33 rfl rfl ?_
        refine WO.len rfl rfl rfl rfl Try.underlying33 ?_
        refine WO.bin rfl rfl rfl rfl rfl rfl ?_
        refine WO.done ?_
        refine At.seq_wc ?_
        refine WC.cond rfl (fun hb10 => ?_) (fun hb10 => ?_)
        · have hr := cond_t hb10 hr
          refine WC.skip ?_
          refine At.seq_wc ?_
          refine WC.then ?_
          refine WC.block ?_
          refine WC.then ?_
          refine WC.region [(0, true), (1, true), (2, true), (3, false), (4, true), (5, true), (6, false), (7, true), (8, true)] rfl ?_
          refine WO.move rfl rfl rfl rfl ?_
          refine WO.nilCheck rfl rfl rfl rfl ?_
          refine WO.fieldAddr 8 rfl rfl rfl rfl fl_35_3 ?_
          refine WO.load 0 rfl rfl rfl rfl sc_33 rfl rfl ?_
          refine WO.move rfl rfl rfl rfl ?_
          obtain ⟨x11, hx12, hr⟩ := bind_some' hr
          refine WO.indexO ho_0_8 hx12 rfl rfl rfl rfl rfl rfl Try.underlying33 sz_3 (fun b13 hb14 => ?_)
          subst hb14
          refine WO.loadO 2 ho_0_8 hx12 rfl rfl rfl rfl rfl sc_3 ?_
          refine WO.move rfl rfl rfl rfl ?_
          refine WO.bin rfl rfl rfl rfl rfl rfl ?_
          refine WO.done ?_
          refine At.seq_wc ?_
          refine WC.cond rfl (fun hb15 => ?_) (fun hb15 => ?_)
          · have hr := cond_t hb15 hr
            refine WC.then ?_
            refine WC.region [(0, true)] rfl ?_
            refine WO.assign rfl rfl rfl rfl ?_
            refine WO.done ?_
            refine At.seq_wc ?_
            refine WC.ret ?_
            refine At.block_ret ?_
            refine At.seq_ret ?_
            refine At.round_ret hr (fun hy => ?_)
            subst hy
            have hr := hk3
            refine At.block_ret ?_
            refine At.seq_ret ?_
            refine At.seq_ret ?_
            obtain rfl := Option.some.inj hr
            exact At.ret (fun a w hc hs => (resVs_cons (hc.res rfl) resVs_nil)) (fun w hs => ⟨rfl, hs⟩)
          · have hr := cond_f hb15 hr
            refine WC.skip ?_
            refine At.block_normal ?_
            refine At.seq_wc ?_
            refine WC.region [(0, true), (1, true), (2, true)] rfl ?_
            refine WO.move rfl rfl rfl rfl ?_
            refine WO.bin rfl rfl rfl rfl rfl rfl ?_
            refine WO.assign rfl rfl rfl rfl ?_
            refine WO.done ?_
            refine At.round_next hr ?_
            exact fun a w hc hs => ⟨(hc.keep (hc.keep (hc.keep hc.nil (t := 5) rfl) (t := 1) rfl) (t := 0) rfl), hs⟩
        · have hr := cond_f hb10 hr
          refine WC.exit ?_
          refine At.seq_exit ?_
          refine At.round_exit hr (fun hy => ?_)
          refine At.exit_block ?_
          refine At.seq_at ?_
          exact fun a w hc hs => ⟨hy, hc.nil, hs⟩
    · rintro a w ⟨rfl, hc, hs⟩
      refine At.use hc hs ?_
      clear hc hs
      (try dsimp only at hk3)
      have hr := hk3
      refine At.seq_at ?_
      exact fun a w hc hs => ⟨hr, hc.nil, hs⟩
  · rintro a w ⟨hr, hc, hs⟩
    refine WC.use hc hs ?_
    clear hc hs
    unfold ref21_Desk_Took_vvvvvvvoo_k1 at hr
    refine WC.then ?_
    refine WC.region [(0, true)] rfl ?_
    refine WO.assign rfl rfl rfl rfl ?_
    refine WO.done ?_
    refine At.seq_wc ?_
    refine WC.ret ?_
    obtain rfl := Option.some.inj hr
    exact At.ret (fun a w hc hs => (resVs_cons (hc.res rfl) resVs_nil)) (fun w hs => ⟨rfl, hs⟩)
/-! peloton/pelotonref09.Check -/
def ref09_Check_k2 (v7 : Bool) : Option Int := cond v7 (some 80) (some 0)
def ref09_Check_k1 (p0 : S_api_Shape) (p1 : List Int) (p2 : Int) : Option Int := cond (decide (p2 < 1)) (some 2) (cond (decide ((p1.length : Int) > p0.Places)) (ref09_Check_k2 true) (ref09_Check_k2 (decide (p2 > (IntKind.wrap .i64 ((IntKind.wrap .i64 (p0.Places - (p1.length : Int))) + 1))))))
def ref09_Check_k5 (v14 : Int) (v20 : Bool) : Option (Int ⊕ (Lp Int Unit)) := cond v20 (some (.inr (.ret 2))) (some (.inl (IntKind.wrap .i64 (v14 + 1))))
def ref09_Check_b3 (p0 : S_api_Shape) (p1 : List Int) (v14 : Int) : Option (Int ⊕ (Lp Int Unit)) := cond (decide (v14 < (p1.length : Int))) ((getI p1 v14).bind fun x22 => cond (decide (x22 < 0)) (ref09_Check_k5 v14 true) ((getI p1 v14).bind fun x28 => ref09_Check_k5 v14 (decide (x28 ≥ p0.Vocab)))) (some (.inr (.brk ())))
def ref09_Check (p0 : S_api_Shape) (p1 : List Int) (p2 : Int) : Option Int := cond ((p1.length : Int) == 0) (some 90) ((loopO (fun s => ref09_Check_b3 p0 p1 s) 0).bind (fun | .ret r => some r | .brk _ => ref09_Check_k1 p0 p1 p2))
theorem ref09_Check_ok {F : Mem} {χ : List Chunk} {p0 : S_api_Shape} {p1 : List Int} {p2 : Int} {cs_0 : List Value} (h_0 : R_api_Shape F cs_0 p0) {a_1 : Option Addr} {c_1 : Nat} (h_1 : RdL 1 (RInt .i64) (Mem.add F χ) a_1 c_1 p1) {r : Int} (hr : ref09_Check p0 p1 p2 = some r) (Φ : List (List Chunk)) :
    CallsRet Try.prog 30 (List.toArray [.agg cs_0.toArray, .slice a_1 p1.length c_1, .int .i64 p2]) (Mem.add F χ) Φ (fun v w => v = .int .i64 r ∧ Sat (Mem.add F χ) (Φ) w) := by
  obtain rfl := h_0
  refine CallsRet.enter (rs := [.tmp 6]) Try.func30 rfl rfl rfl rfl ?_
  unfold ref09_Check at hr
  refine WC.then ?_
  refine WC.region [(0, false), (1, true)] rfl ?_
  refine WO.box rfl rfl rfl rfl rfl (fun _ _ _ => trivial) (fun b1 => ?_)
  refine WO.assign rfl rfl rfl rfl ?_
  refine WO.done ?_
  refine At.seq_wc ?_
  refine WC.then ?_
  refine WC.then ?_
  refine WC.region [(0, true), (1, true), (2, true)] rfl ?_
  refine WO.move rfl rfl rfl rfl ?_
  refine WO.len rfl rfl rfl rfl Try.underlying33 ?_
  refine WO.bin rfl rfl rfl rfl rfl rfl ?_
  refine WO.done ?_
  refine At.seq_wc ?_
  refine WC.cond rfl (fun hb3 => ?_) (fun hb3 => ?_)
  · have hr := cond_t hb3 hr
    refine WC.then ?_
    refine WC.region [(0, true)] rfl ?_
    refine WO.assign rfl rfl rfl rfl ?_
    refine WO.done ?_
    refine At.seq_wc ?_
    refine WC.ret ?_
    refine At.seq_ret ?_
    obtain rfl := Option.some.inj hr
    exact At.ret (fun a w hc hs => (resVs_cons (hc.res rfl) resVs_nil)) (fun w hs => ⟨rfl, (hs.arrange 1 1 [0] [] (by decide))⟩)
  · have hr := cond_f hb3 hr
    refine WC.skip ?_
    refine At.seq_wc ?_
    refine WC.seq (fun a w => ref09_Check_k1 p0 p1 p2 = some r ∧ Ctx 48 [(1, .slice a_1 p1.length c_1), (2, .int .i64 p2), (3, .pointer (some ⟨b1, 0, none⟩))] a ∧ Sat (Mem.add F χ) ([(b1, row [.int .i64 p0.Layers, .int .i64 p0.Width, .int .i64 p0.Heads, .int .i64 p0.Inner, .int .i64 p0.Vocab, .int .i64 p0.Places] 23)] :: Φ) w) ?_ ?_
    · refine WC.then ?_
      refine WC.region [(0, true)] rfl ?_
      refine WO.assign rfl rfl rfl rfl ?_
      refine WO.done ?_
      refine At.seq_wc ?_
      obtain ⟨xl4, hl4, hk4⟩ := bind_some' hr
      refine WC.weaken (fun a w => .brk () = xl4 ∧ Ctx 48 [(1, .slice a_1 p1.length c_1), (2, .int .i64 p2), (3, .pointer (some ⟨b1, 0, none⟩))] a ∧ Sat (Mem.add F χ) ([(b1, row [.int .i64 p0.Layers, .int .i64 p0.Width, .int .i64 p0.Heads, .int .i64 p0.Inner, .int .i64 p0.Vocab, .int .i64 p0.Places] 23)] :: Φ) w) ?_ ?_
      · refine WC.block ?_
        refine WC.loop (fun (v14 : Int) a w => Ctx 48 [(1, .slice a_1 p1.length c_1), (2, .int .i64 p2), (3, .pointer (some ⟨b1, 0, none⟩)), (7, .int .i64 v14)] a ∧ Sat (Mem.add F χ) ([(b1, row [.int .i64 p0.Layers, .int .i64 p0.Width, .int .i64 p0.Heads, .int .i64 p0.Inner, .int .i64 p0.Vocab, .int .i64 p0.Places] 23)] :: Φ) w) hl4 ?_ ?_
        · exact fun a w hc hs => ⟨(hc.keep (hc.keep (hc.keep (hc.keep hc.nil (t := 7) rfl) (t := 3) rfl) (t := 2) rfl) (t := 1) rfl), hs⟩
        · rintro v14 r4 hr a w ⟨hc, hs⟩
          refine WC.use hc hs ?_
          clear hc hs
          (try dsimp only at hr)
          unfold ref09_Check_b3 at hr
          refine WC.then ?_
          refine WC.then ?_
          refine WC.region [(0, true), (1, true), (2, true), (3, true)] rfl ?_
          refine WO.move rfl rfl rfl rfl ?_
          refine WO.move rfl rfl rfl rfl ?_
          refine WO.len rfl rfl rfl rfl Try.underlying33 ?_
          refine WO.bin rfl rfl rfl rfl rfl rfl ?_
          refine WO.done ?_
          refine At.seq_wc ?_
          refine WC.cond rfl (fun hb18 => ?_) (fun hb18 => ?_)
          · have hr := cond_t hb18 hr
            refine WC.skip ?_
            refine At.seq_wc ?_
            refine WC.then ?_
            refine WC.block ?_
            refine WC.seq (fun a w => ∃ (v20 : Bool), ref09_Check_k5 v14 v20 = some r4 ∧ Ctx 48 [(1, .slice a_1 p1.length c_1), (2, .int .i64 p2), (3, .pointer (some ⟨b1, 0, none⟩)), (7, .int .i64 v14), (30, .bool v20)] a ∧ Sat (Mem.add F χ) ([(b1, row [.int .i64 p0.Layers, .int .i64 p0.Width, .int .i64 p0.Heads, .int .i64 p0.Inner, .int .i64 p0.Vocab, .int .i64 p0.Places] 23)] :: Φ) w) ?_ ?_
            · refine WC.draw (Sat (Mem.add F χ) ([(b1, row [.int .i64 p0.Layers, .int .i64 p0.Width, .int .i64 p0.Heads, .int .i64 p0.Inner, .int .i64 p0.Vocab, .int .i64 p0.Places] 23)] :: Φ)) (fun _ h => (h.arrange 1 1 [0] [1] (by decide))) [(0, true), (1, true), (2, true), (3, true), (4, true), (5, true), (6, true), (7, true), (8, true), (9, true), (10, true), (11, true), (12, true), (13, true)] mixed (by kernel_rfl) rfl (by kernel_rfl) ?_
              refine WO.move rfl rfl rfl rfl ?_
              refine WO.move rfl rfl rfl rfl ?_
              obtain ⟨x22, hx23, hr⟩ := bind_some' hr
              refine WO.indexR h_1 hx23 rfl rfl rfl rfl rfl rfl Try.underlying33 sz_3 ?_
              rintro b24 o25 _ hc26 rfl
              refine WO.loadP 0 hc26 rfl rfl rfl rfl rfl sc_3 rfl ?_
              refine WO.bin rfl rfl rfl rfl rfl rfl ?_
              refine WO.move rfl rfl rfl rfl ?_
              refine WO.split (t := 22) rfl (fun hg27 => ?_) (fun hg27 => ?_)
              · have hr := cond_t hg27 hr
                refine WO.skip rfl rfl rfl rfl ?_
                refine WO.skip rfl rfl rfl rfl ?_
                refine WO.skip rfl rfl rfl rfl ?_
                refine WO.skip rfl rfl rfl rfl ?_
                refine WO.skip rfl rfl rfl rfl ?_
                refine WO.skip rfl rfl rfl rfl ?_
                refine WO.skip rfl rfl rfl rfl ?_
                refine WO.pickT rfl rfl rfl rfl rfl ?_
                refine WO.done ?_
                refine At.seq_at ?_
                exact fun a w hc hs => ⟨true, hr, (hc.keep (hc.keep (hc.keep (hc.keep (hc.keep hc.nil (t := 30) rfl) (t := 7) rfl) (t := 3) rfl) (t := 2) rfl) (t := 1) rfl), hs⟩
              · have hr := cond_f hg27 hr
                refine WO.move rfl rfl rfl rfl ?_
                refine WO.move rfl rfl rfl rfl ?_
                obtain ⟨x28, hx29, hr⟩ := bind_some' hr
                refine WO.indexR h_1 hx29 rfl rfl rfl rfl rfl rfl Try.underlying33 sz_3 ?_
                rintro b30 o31 _ hc32 rfl
                refine WO.loadP 0 hc32 rfl rfl rfl rfl rfl sc_3 rfl ?_
                refine WO.fieldAddr 4 rfl rfl rfl rfl fl_23_4 ?_
                refine WO.loadY 0 rfl rfl rfl rfl sc_3 rfl rfl ?_
                refine WO.bin rfl rfl rfl rfl rfl rfl ?_
                refine WO.pickF rfl rfl rfl rfl rfl ?_
                refine WO.done ?_
                refine At.seq_at ?_
                exact fun a w hc hs => ⟨(decide (x28 ≥ p0.Vocab)), hr, (hc.keep (hc.keep (hc.keep (hc.keep (hc.keep hc.nil (t := 30) rfl) (t := 7) rfl) (t := 3) rfl) (t := 2) rfl) (t := 1) rfl), hs⟩
            · rintro a w ⟨v20, hr, hc, hs⟩
              refine WC.use hc hs ?_
              clear hc hs
              unfold ref09_Check_k5 at hr
              refine WC.cond rfl (fun hb21 => ?_) (fun hb21 => ?_)
              · have hr := cond_t hb21 hr
                refine WC.then ?_
                refine WC.region [(0, true)] rfl ?_
                refine WO.assign rfl rfl rfl rfl ?_
                refine WO.done ?_
                refine At.seq_wc ?_
                refine WC.ret ?_
                refine At.block_ret ?_
                refine At.seq_ret ?_
                refine At.round_ret hr (fun hy => ?_)
                subst hy
                have hr := hk4
                refine At.block_ret ?_
                refine At.seq_ret ?_
                refine At.seq_ret ?_
                obtain rfl := Option.some.inj hr
                exact At.ret (fun a w hc hs => (resVs_cons (hc.res rfl) resVs_nil)) (fun w hs => ⟨rfl, (hs.arrange 1 1 [0] [] (by decide))⟩)
              · have hr := cond_f hb21 hr
                refine WC.skip ?_
                refine At.block_normal ?_
                refine At.seq_wc ?_
                refine WC.region [(0, true), (1, true), (2, true)] rfl ?_
                refine WO.move rfl rfl rfl rfl ?_
                refine WO.bin rfl rfl rfl rfl rfl rfl ?_
                refine WO.assign rfl rfl rfl rfl ?_
                refine WO.done ?_
                refine At.round_next hr ?_
                exact fun a w hc hs => ⟨(hc.keep (hc.keep (hc.keep (hc.keep hc.nil (t := 7) rfl) (t := 3) rfl) (t := 2) rfl) (t := 1) rfl), hs⟩
          · have hr := cond_f hb18 hr
            refine WC.exit ?_
            refine At.seq_exit ?_
            refine At.round_exit hr (fun hy => ?_)
            refine At.exit_block ?_
            refine At.seq_at ?_
            exact fun a w hc hs => ⟨hy, (hc.keep (hc.keep (hc.keep hc.nil (t := 3) rfl) (t := 2) rfl) (t := 1) rfl), hs⟩
      · rintro a w ⟨rfl, hc, hs⟩
        refine At.use hc hs ?_
        clear hc hs
        (try dsimp only at hk4)
        have hr := hk4
        refine At.seq_at ?_
        exact fun a w hc hs => ⟨hr, (hc.keep (hc.keep (hc.keep hc.nil (t := 3) rfl) (t := 2) rfl) (t := 1) rfl), hs⟩
    · rintro a w ⟨hr, hc, hs⟩
      refine WC.use hc hs ?_
      clear hc hs
      unfold ref09_Check_k1 at hr
      refine WC.then ?_
      refine WC.then ?_
      refine WC.region [(0, true), (1, true)] rfl ?_
      refine WO.move rfl rfl rfl rfl ?_
      refine WO.bin rfl rfl rfl rfl rfl rfl ?_
      refine WO.done ?_
      refine At.seq_wc ?_
      refine WC.cond rfl (fun hb5 => ?_) (fun hb5 => ?_)
      · have hr := cond_t hb5 hr
        refine WC.then ?_
        refine WC.region [(0, true)] rfl ?_
        refine WO.assign rfl rfl rfl rfl ?_
        refine WO.done ?_
        refine At.seq_wc ?_
        refine WC.ret ?_
        refine At.seq_ret ?_
        obtain rfl := Option.some.inj hr
        exact At.ret (fun a w hc hs => (resVs_cons (hc.res rfl) resVs_nil)) (fun w hs => ⟨rfl, (hs.arrange 1 1 [0] [] (by decide))⟩)
      · have hr := cond_f hb5 hr
        refine WC.skip ?_
        refine At.seq_wc ?_
        refine WC.then ?_
        refine WC.seq (fun a w => ∃ (v7 : Bool), ref09_Check_k2 v7 = some r ∧ Ctx 48 [(47, .bool v7)] a ∧ Sat (Mem.add F χ) ([(b1, row [.int .i64 p0.Layers, .int .i64 p0.Width, .int .i64 p0.Heads, .int .i64 p0.Inner, .int .i64 p0.Vocab, .int .i64 p0.Places] 23)] :: Φ) w) ?_ ?_
        · refine WC.region [(0, true), (1, true), (2, true), (3, false), (4, true), (5, true), (6, true), (7, true), (8, false), (9, true), (10, true), (11, true), (12, true), (13, true), (14, true)] rfl ?_
          refine WO.move rfl rfl rfl rfl ?_
          refine WO.len rfl rfl rfl rfl Try.underlying33 ?_
          refine WO.fieldAddr 5 rfl rfl rfl rfl fl_23_5 ?_
          refine WO.load 0 rfl rfl rfl rfl sc_3 rfl rfl ?_
          refine WO.bin rfl rfl rfl rfl rfl rfl ?_
          refine WO.move rfl rfl rfl rfl ?_
          refine WO.split (t := 38) rfl (fun hg9 => ?_) (fun hg9 => ?_)
          · have hr := cond_t hg9 hr
            refine WO.skip rfl rfl rfl rfl ?_
            refine WO.skip rfl rfl rfl rfl ?_
            refine WO.skipF rfl rfl rfl rfl ?_
            refine WO.skip rfl rfl rfl rfl ?_
            refine WO.skip rfl rfl rfl rfl ?_
            refine WO.skip rfl rfl rfl rfl ?_
            refine WO.skip rfl rfl rfl rfl ?_
            refine WO.skip rfl rfl rfl rfl ?_
            refine WO.pickT rfl rfl rfl rfl rfl ?_
            refine WO.done ?_
            refine At.seq_at ?_
            exact fun a w hc hs => ⟨true, hr, (hc.keep hc.nil (t := 47) rfl), hs⟩
          · have hr := cond_f hg9 hr
            refine WO.move rfl rfl rfl rfl ?_
            refine WO.fieldAddr 5 rfl rfl rfl rfl fl_23_5 ?_
            refine WO.load 0 rfl rfl rfl rfl sc_3 rfl rfl ?_
            refine WO.move rfl rfl rfl rfl ?_
            refine WO.len rfl rfl rfl rfl Try.underlying33 ?_
            refine WO.bin rfl rfl rfl rfl rfl rfl ?_
            refine WO.bin rfl rfl rfl rfl rfl rfl ?_
            refine WO.bin rfl rfl rfl rfl rfl rfl ?_
            refine WO.pickF rfl rfl rfl rfl rfl ?_
            refine WO.done ?_
            refine At.seq_at ?_
            exact fun a w hc hs => ⟨(decide (p2 > (IntKind.wrap .i64 ((IntKind.wrap .i64 (p0.Places - (p1.length : Int))) + 1)))), hr, (hc.keep hc.nil (t := 47) rfl), hs⟩
        · rintro a w ⟨v7, hr, hc, hs⟩
          refine WC.use hc hs ?_
          clear hc hs
          unfold ref09_Check_k2 at hr
          refine WC.cond rfl (fun hb8 => ?_) (fun hb8 => ?_)
          · have hr := cond_t hb8 hr
            refine WC.then ?_
            refine WC.region [(0, true)] rfl ?_
            refine WO.assign rfl rfl rfl rfl ?_
            refine WO.done ?_
            refine At.seq_wc ?_
            refine WC.ret ?_
            refine At.seq_ret ?_
            obtain rfl := Option.some.inj hr
            exact At.ret (fun a w hc hs => (resVs_cons (hc.res rfl) resVs_nil)) (fun w hs => ⟨rfl, (hs.arrange 1 1 [0] [] (by decide))⟩)
          · have hr := cond_f hb8 hr
            refine WC.skip ?_
            refine At.seq_wc ?_
            refine WC.then ?_
            refine WC.region [(0, true)] rfl ?_
            refine WO.assign rfl rfl rfl rfl ?_
            refine WO.done ?_
            refine At.seq_wc ?_
            refine WC.ret ?_
            obtain rfl := Option.some.inj hr
            exact At.ret (fun a w hc hs => (resVs_cons (hc.res rfl) resVs_nil)) (fun w hs => ⟨rfl, (hs.arrange 1 1 [0] [] (by decide))⟩)
/-! (*peloton/pelotonref21.Desk).Judge -/
def ref21_Desk_Judge_vvvvvvvoo_k1 (p0 : S_ref21_Desk) (p1 : S_api_Request) (v7 : Bool) : Option Int := cond v7 (some 2) ((ref21_Desk_Took_vvvvvvvoo p0 p1.ID).bind fun x9 => cond x9 (some 210) ((ref09_Check p0.S p1.Prompt p1.Most).bind fun x13 => cond (x13 != 0) (some x13) (cond (decide ((p0.L.length : Int) ≥ p0.Room)) (some 211) (some 0))))
def ref21_Desk_Judge_vvvvvvvoo (p0 : S_ref21_Desk) (p1 : S_api_Request) : Option Int := cond (decide (p1.ID < 0)) (ref21_Desk_Judge_vvvvvvvoo_k1 p0 p1 true) (ref21_Desk_Judge_vvvvvvvoo_k1 p0 p1 (decide (p1.ID ≥ 1099511627776)))
theorem ref21_Desk_Judge_vvvvvvvoo_ok {F : Mem} {χ : List Chunk} {p0 : S_ref21_Desk} {p1 : S_api_Request} {b_0 : Nat} {a_0_7 : Option Addr} {c_0_7 : Nat} {ψ_0_7 : List Chunk} (ho_0_7 : OwnL 3 R_api_Request F 37 a_0_7 c_0_7 p0.L ψ_0_7) {a_0_8 : Option Addr} {c_0_8 : Nat} {ψ_0_8 : List Chunk} (ho_0_8 : OwnL 1 (RInt .i64) F 3 a_0_8 c_0_8 p0.Ids ψ_0_8) {cs_1 : List Value} (h_1 : R_api_Request (Mem.add F χ) cs_1 p1) {r : Int} (hr : ref21_Desk_Judge_vvvvvvvoo p0 p1 = some r) (Φ : List (List Chunk)) :
    CallsRet Try.prog 15 (List.toArray [.pointer (some ⟨b_0, 0, none⟩), .agg cs_1.toArray]) (Mem.add F χ) ([(b_0, row [.int .i64 p0.S.Layers, .int .i64 p0.S.Width, .int .i64 p0.S.Heads, .int .i64 p0.S.Inner, .int .i64 p0.S.Vocab, .int .i64 p0.S.Places, .int .i64 p0.Room, .slice a_0_7 p0.L.length c_0_7, .slice a_0_8 p0.Ids.length c_0_8] 35)] :: ψ_0_7 :: ψ_0_8 :: Φ) (fun v w => v = .int .i64 r ∧ Sat (Mem.add F χ) ([(b_0, row [.int .i64 p0.S.Layers, .int .i64 p0.S.Width, .int .i64 p0.S.Heads, .int .i64 p0.S.Inner, .int .i64 p0.S.Vocab, .int .i64 p0.S.Places, .int .i64 p0.Room, .slice a_0_7 p0.L.length c_0_7, .slice a_0_8 p0.Ids.length c_0_8] 35)] :: ψ_0_7 :: ψ_0_8 :: Φ) w) := by
  obtain ⟨a1, c2, rfl, h3⟩ := h_1
  refine CallsRet.enter (rs := [.tmp 4]) Try.func15 rfl rfl rfl rfl ?_
  unfold ref21_Desk_Judge_vvvvvvvoo at hr
  refine WC.then ?_
  refine WC.region [(0, false), (1, true)] rfl ?_
  refine WO.box rfl rfl rfl rfl rfl (fun _ _ _ => trivial) (fun b4 => ?_)
  refine WO.assign rfl rfl rfl rfl ?_
  refine WO.done ?_
  refine At.seq_wc ?_
  refine WC.then ?_
  refine WC.seq (fun a w => ∃ (v7 : Bool), ref21_Desk_Judge_vvvvvvvoo_k1 p0 p1 v7 = some r ∧ Ctx 40 [(0, .pointer (some ⟨b_0, 0, none⟩)), (3, .pointer (some ⟨b4, 0, none⟩)), (13, .bool v7)] a ∧ Sat (Mem.add F χ) ([(b4, row [.int .i64 p1.ID, .int .i64 p1.Most, .slice a1 p1.Prompt.length c2] 37)] :: [(b_0, row [.int .i64 p0.S.Layers, .int .i64 p0.S.Width, .int .i64 p0.S.Heads, .int .i64 p0.S.Inner, .int .i64 p0.S.Vocab, .int .i64 p0.S.Places, .int .i64 p0.Room, .slice a_0_7 p0.L.length c_0_7, .slice a_0_8 p0.Ids.length c_0_8] 35)] :: ψ_0_7 :: ψ_0_8 :: Φ) w) ?_ ?_
  · refine WC.region [(0, true), (1, false), (2, true), (3, true), (4, true), (5, false), (6, true), (7, true)] rfl ?_
    refine WO.fieldAddr 0 rfl rfl rfl rfl fl_37_0 ?_
    refine WO.load 0 rfl rfl rfl rfl sc_3 rfl rfl ?_
    refine WO.bin rfl rfl rfl rfl rfl rfl ?_
    refine WO.move rfl rfl rfl rfl ?_
    refine WO.split (t := 9) rfl (fun hg18 => ?_) (fun hg18 => ?_)
    · have hr := cond_t hg18 hr
      refine WO.skip rfl rfl rfl rfl ?_
      refine WO.skipF rfl rfl rfl rfl ?_
      refine WO.skip rfl rfl rfl rfl ?_
      refine WO.pickT rfl rfl rfl rfl rfl ?_
      refine WO.done ?_
      refine At.seq_at ?_
      exact fun a w hc hs => ⟨true, hr, (hc.keep (hc.keep (hc.keep hc.nil (t := 13) rfl) (t := 3) rfl) (t := 0) rfl), hs⟩
    · have hr := cond_f hg18 hr
      refine WO.fieldAddr 0 rfl rfl rfl rfl fl_37_0 ?_
      refine WO.load 0 rfl rfl rfl rfl sc_3 rfl rfl ?_
      refine WO.bin rfl rfl rfl rfl rfl rfl ?_
      refine WO.pickF rfl rfl rfl rfl rfl ?_
      refine WO.done ?_
      refine At.seq_at ?_
      exact fun a w hc hs => ⟨(decide (p1.ID ≥ 1099511627776)), hr, (hc.keep (hc.keep (hc.keep hc.nil (t := 13) rfl) (t := 3) rfl) (t := 0) rfl), hs⟩
  · rintro a w ⟨v7, hr, hc, hs⟩
    refine WC.use hc hs ?_
    clear hc hs
    unfold ref21_Desk_Judge_vvvvvvvoo_k1 at hr
    refine WC.cond rfl (fun hb8 => ?_) (fun hb8 => ?_)
    · have hr := cond_t hb8 hr
      refine WC.then ?_
      refine WC.region [(0, true)] rfl ?_
      refine WO.assign rfl rfl rfl rfl ?_
      refine WO.done ?_
      refine At.seq_wc ?_
      refine WC.ret ?_
      refine At.seq_ret ?_
      obtain rfl := Option.some.inj hr
      exact At.ret (fun a w hc hs => (resVs_cons (hc.res rfl) resVs_nil)) (fun w hs => ⟨rfl, (hs.arrange 1 4 [0] [2, 3, 4] (by decide))⟩)
    · have hr := cond_f hb8 hr
      refine WC.skip ?_
      refine At.seq_wc ?_
      refine WC.then ?_
      refine WC.then ?_
      refine WC.region [(0, true), (1, true), (2, false), (3, false)] rfl ?_
      refine WO.move rfl rfl rfl rfl ?_
      refine WO.fieldAddr 0 rfl rfl rfl rfl fl_37_0 ?_
      refine WO.load 0 rfl rfl rfl rfl sc_3 rfl rfl ?_
      obtain ⟨x9, hx10, hr⟩ := bind_some' hr
      refine WO.call rfl rfl rfl rfl rfl cl_18 (CallsRet.lay0 1 4 [] [2, 3, 4, 0, 1] (by decide) F ([(b_0, row [.int .i64 p0.S.Layers, .int .i64 p0.S.Width, .int .i64 p0.S.Heads, .int .i64 p0.S.Inner, .int .i64 p0.S.Vocab, .int .i64 p0.S.Places, .int .i64 p0.Room, .slice a_0_7 p0.L.length c_0_7, .slice a_0_8 p0.Ids.length c_0_8] 35)] :: ψ_0_7 :: ψ_0_8 :: χ :: [(b4, row [.int .i64 p1.ID, .int .i64 p1.Most, .slice a1 p1.Prompt.length c2] 37)] :: Φ) rfl rfl (ref21_Desk_Took_vvvvvvvoo_ok (F := F) ho_0_7 (OwnL.re (G := F) (const_int _) ho_0_8) hx10 (χ :: [(b4, row [.int .i64 p1.ID, .int .i64 p1.Most, .slice a1 p1.Prompt.length c2] 37)] :: Φ))) ?_
      rintro _ _ ⟨rfl, hs11⟩
      have hs11 := (hs11.arrange 0 5 [3] [4, 0, 1, 2] (by decide))
      refine ⟨(Mem.add F χ), ([(b4, row [.int .i64 p1.ID, .int .i64 p1.Most, .slice a1 p1.Prompt.length c2] 37)] :: [(b_0, row [.int .i64 p0.S.Layers, .int .i64 p0.S.Width, .int .i64 p0.S.Heads, .int .i64 p0.S.Inner, .int .i64 p0.S.Vocab, .int .i64 p0.S.Places, .int .i64 p0.Room, .slice a_0_7 p0.L.length c_0_7, .slice a_0_8 p0.Ids.length c_0_8] 35)] :: ψ_0_7 :: ψ_0_8 :: Φ), hs11, trivial, ?_⟩
      refine WO.done ?_
      refine At.seq_wc ?_
      refine WC.cond rfl (fun hb12 => ?_) (fun hb12 => ?_)
      · have hr := cond_t hb12 hr
        refine WC.then ?_
        refine WC.region [(0, true)] rfl ?_
        refine WO.assign rfl rfl rfl rfl ?_
        refine WO.done ?_
        refine At.seq_wc ?_
        refine WC.ret ?_
        refine At.seq_ret ?_
        obtain rfl := Option.some.inj hr
        exact At.ret (fun a w hc hs => (resVs_cons (hc.res rfl) resVs_nil)) (fun w hs => ⟨rfl, (hs.arrange 1 4 [0] [2, 3, 4] (by decide))⟩)
      · have hr := cond_f hb12 hr
        refine WC.skip ?_
        refine At.seq_wc ?_
        refine WC.then ?_
        refine WC.draw (Sat (Mem.add F χ) ([(b4, row [.int .i64 p1.ID, .int .i64 p1.Most, .slice a1 p1.Prompt.length c2] 37)] :: [(b_0, row [.int .i64 p0.S.Layers, .int .i64 p0.S.Width, .int .i64 p0.S.Heads, .int .i64 p0.S.Inner, .int .i64 p0.S.Vocab, .int .i64 p0.S.Places, .int .i64 p0.Room, .slice a_0_7 p0.L.length c_0_7, .slice a_0_8 p0.Ids.length c_0_8] 35)] :: Φ)) (fun _ h => (h.arrange 1 4 [0] [1, 2] (by decide))) [(0, true), (1, true), (2, true), (3, true), (4, true), (5, true), (6, true), (7, true), (8, false), (9, true)] mixed (by kernel_rfl) rfl (by kernel_rfl) ?_
        refine WO.move rfl rfl rfl rfl ?_
        refine WO.nilCheck rfl rfl rfl rfl ?_
        refine WO.fieldAddr 0 rfl rfl rfl rfl fl_35_0 ?_
        refine WO.loadAY 1 6 rfl rfl rfl rfl ag_23 rfl rfl rfl ?_
        refine WO.fieldAddr 2 rfl rfl rfl rfl fl_37_2 ?_
        refine WO.loadY 0 rfl rfl rfl rfl sc_33 rfl rfl ?_
        refine WO.fieldAddr 1 rfl rfl rfl rfl fl_37_1 ?_
        refine WO.loadY 0 rfl rfl rfl rfl sc_3 rfl rfl ?_
        obtain ⟨x13, hx14, hr⟩ := bind_some' hr
        refine WO.call rfl rfl rfl rfl rfl cl_30 (CallsRet.lay 1 4 1 [0] [1, 2, 3, 4] (by decide) (Mem.add F (List.flatten [χ])) ([(b4, row [.int .i64 p1.ID, .int .i64 p1.Most, .slice a1 p1.Prompt.length c2] 37)] :: [(b_0, row [.int .i64 p0.S.Layers, .int .i64 p0.S.Width, .int .i64 p0.S.Heads, .int .i64 p0.S.Inner, .int .i64 p0.S.Vocab, .int .i64 p0.S.Places, .int .i64 p0.Room, .slice a_0_7 p0.L.length c_0_7, .slice a_0_8 p0.Ids.length c_0_8] 35)] :: ψ_0_7 :: ψ_0_8 :: Φ) rfl rfl (ref09_Check_ok (F := F) (χ := (List.flatten [χ])) rfl (h3.mono (mono_int _) (Mem.le_gather (Mem.add F χ) 1)) hx14 ([(b4, row [.int .i64 p1.ID, .int .i64 p1.Most, .slice a1 p1.Prompt.length c2] 37)] :: [(b_0, row [.int .i64 p0.S.Layers, .int .i64 p0.S.Width, .int .i64 p0.S.Heads, .int .i64 p0.S.Inner, .int .i64 p0.S.Vocab, .int .i64 p0.S.Places, .int .i64 p0.Room, .slice a_0_7 p0.L.length c_0_7, .slice a_0_8 p0.Ids.length c_0_8] 35)] :: ψ_0_7 :: ψ_0_8 :: Φ))) ?_
        rintro _ _ ⟨rfl, hs15⟩
        have hs15 := Sat.unlay F [χ] hs15
        have hs15 := (hs15.arrange 1 4 [0] [1, 2, 3, 4] (by decide))
        refine ⟨(Mem.add F χ), ([(b4, row [.int .i64 p1.ID, .int .i64 p1.Most, .slice a1 p1.Prompt.length c2] 37)] :: [(b_0, row [.int .i64 p0.S.Layers, .int .i64 p0.S.Width, .int .i64 p0.S.Heads, .int .i64 p0.S.Inner, .int .i64 p0.S.Vocab, .int .i64 p0.S.Places, .int .i64 p0.Room, .slice a_0_7 p0.L.length c_0_7, .slice a_0_8 p0.Ids.length c_0_8] 35)] :: ψ_0_7 :: ψ_0_8 :: Φ), hs15, (hs15.arrange 1 4 [0] [1, 2] (by decide)), ?_⟩
        refine WO.assign rfl rfl rfl rfl ?_
        refine WO.done ?_
        refine At.seq_wc ?_
        refine WC.then ?_
        refine WC.then ?_
        refine WC.region [(0, true), (1, true)] rfl ?_
        refine WO.move rfl rfl rfl rfl ?_
        refine WO.bin rfl rfl rfl rfl rfl rfl ?_
        refine WO.done ?_
        refine At.seq_wc ?_
        refine WC.cond rfl (fun hb16 => ?_) (fun hb16 => ?_)
        · have hr := cond_t hb16 hr
          refine WC.then ?_
          refine WC.region [(0, true), (1, true)] rfl ?_
          refine WO.move rfl rfl rfl rfl ?_
          refine WO.assign rfl rfl rfl rfl ?_
          refine WO.done ?_
          refine At.seq_wc ?_
          refine WC.ret ?_
          refine At.seq_ret ?_
          obtain rfl := Option.some.inj hr
          exact At.ret (fun a w hc hs => (resVs_cons (hc.res rfl) resVs_nil)) (fun w hs => ⟨rfl, (hs.arrange 1 4 [0] [2, 3, 4] (by decide))⟩)
        · have hr := cond_f hb16 hr
          refine WC.skip ?_
          refine At.seq_wc ?_
          refine WC.then ?_
          refine WC.then ?_
          refine WC.draw (Sat (Mem.add F χ) ([(b4, row [.int .i64 p1.ID, .int .i64 p1.Most, .slice a1 p1.Prompt.length c2] 37)] :: [(b_0, row [.int .i64 p0.S.Layers, .int .i64 p0.S.Width, .int .i64 p0.S.Heads, .int .i64 p0.S.Inner, .int .i64 p0.S.Vocab, .int .i64 p0.S.Places, .int .i64 p0.Room, .slice a_0_7 p0.L.length c_0_7, .slice a_0_8 p0.Ids.length c_0_8] 35)] :: ψ_0_7 :: ψ_0_8 :: Φ)) (fun _ h => (h.arrange 1 4 [0] [1, 2, 3, 4] (by decide))) [(0, true), (1, true), (2, true), (3, true), (4, true), (5, true), (6, true), (7, true), (8, true), (9, true)] mixed (by kernel_rfl) rfl (by kernel_rfl) ?_
          refine WO.move rfl rfl rfl rfl ?_
          refine WO.nilCheck rfl rfl rfl rfl ?_
          refine WO.fieldAddr 7 rfl rfl rfl rfl fl_35_2 ?_
          refine WO.loadY 1 rfl rfl rfl rfl sc_32 rfl rfl ?_
          refine WO.len rfl rfl rfl rfl Try.underlying32 ?_
          refine WO.move rfl rfl rfl rfl ?_
          refine WO.nilCheck rfl rfl rfl rfl ?_
          refine WO.fieldAddr 6 rfl rfl rfl rfl fl_35_1 ?_
          refine WO.loadY 1 rfl rfl rfl rfl sc_3 rfl rfl ?_
          refine WO.bin rfl rfl rfl rfl rfl rfl ?_
          refine WO.done ?_
          refine At.seq_wc ?_
          refine WC.cond rfl (fun hb17 => ?_) (fun hb17 => ?_)
          · have hr := cond_t hb17 hr
            refine WC.then ?_
            refine WC.region [(0, true)] rfl ?_
            refine WO.assign rfl rfl rfl rfl ?_
            refine WO.done ?_
            refine At.seq_wc ?_
            refine WC.ret ?_
            refine At.seq_ret ?_
            obtain rfl := Option.some.inj hr
            exact At.ret (fun a w hc hs => (resVs_cons (hc.res rfl) resVs_nil)) (fun w hs => ⟨rfl, (hs.arrange 1 4 [0] [2, 3, 4] (by decide))⟩)
          · have hr := cond_f hb17 hr
            refine WC.skip ?_
            refine At.seq_wc ?_
            refine WC.then ?_
            refine WC.region [(0, true)] rfl ?_
            refine WO.assign rfl rfl rfl rfl ?_
            refine WO.done ?_
            refine At.seq_wc ?_
            refine WC.ret ?_
            obtain rfl := Option.some.inj hr
            exact At.ret (fun a w hc hs => (resVs_cons (hc.res rfl) resVs_nil)) (fun w hs => ⟨rfl, (hs.arrange 1 4 [0] [2, 3, 4] (by decide))⟩)
/-! (*peloton/pelotonref21.Desk).Submit -/
def ref21_Desk_Submit_vvvvvvvoo_k1 (x6 : Int) (v10 : List Int) (v14 : S_ref21_Desk) : Option (Int × S_ref21_Desk) := some (x6, v14)
def ref21_Desk_Submit_vvvvvvvoo_k2 (p0 : S_ref21_Desk) (p1 : S_api_Request) (x6 : Int) (x30 : List Int) (v40 : List S_api_Request) : Option (Int × S_ref21_Desk) := (app p0.Ids [p1.ID]).bind fun x48 => ref21_Desk_Submit_vvvvvvvoo_k1 x6 x30 (⟨p0.S, p0.Room, v40, x48⟩ : S_ref21_Desk)
def ref21_Desk_Submit_vvvvvvvoo (p0 : S_ref21_Desk) (p1 : S_api_Request) : Option (Int × S_ref21_Desk) := (ref21_Desk_Judge_vvvvvvvoo p0 p1).bind fun x6 => cond (x6 == 0) ((app ([] : List Int) p1.Prompt).bind fun x30 => (app p0.L [(⟨p1.ID, p1.Most, x30⟩ : S_api_Request)]).bind fun x57 => ref21_Desk_Submit_vvvvvvvoo_k2 p0 p1 x6 x30 x57) (ref21_Desk_Submit_vvvvvvvoo_k1 x6 p1.Prompt p0)
theorem ref21_Desk_Submit_vvvvvvvoo_ok {F : Mem} {χ : List Chunk} {p0 : S_ref21_Desk} {p1 : S_api_Request} {b_0 : Nat} {a_0_7 : Option Addr} {c_0_7 : Nat} {ψ_0_7 : List Chunk} (ho_0_7 : OwnL 3 R_api_Request F 37 a_0_7 c_0_7 p0.L ψ_0_7) {a_0_8 : Option Addr} {c_0_8 : Nat} {ψ_0_8 : List Chunk} (ho_0_8 : OwnL 1 (RInt .i64) F 3 a_0_8 c_0_8 p0.Ids ψ_0_8) {cs_1 : List Value} (h_1 : R_api_Request (Mem.add F χ) cs_1 p1) {r : Int × S_ref21_Desk} (hr : ref21_Desk_Submit_vvvvvvvoo p0 p1 = some r) (Φ : List (List Chunk)) :
    CallsRet Try.prog 8 (List.toArray [.pointer (some ⟨b_0, 0, none⟩), .agg cs_1.toArray]) (Mem.add F χ) ([(b_0, row [.int .i64 p0.S.Layers, .int .i64 p0.S.Width, .int .i64 p0.S.Heads, .int .i64 p0.S.Inner, .int .i64 p0.S.Vocab, .int .i64 p0.S.Places, .int .i64 p0.Room, .slice a_0_7 p0.L.length c_0_7, .slice a_0_8 p0.Ids.length c_0_8] 35)] :: ψ_0_7 :: ψ_0_8 :: Φ) (fun v w => ∃ ψm a0_7 c0_7 ψ0_7 a0_8 c0_8 ψ0_8, v = .int .i64 r.1 ∧ Sat (Mem.add (Mem.add F χ) ψm) ([(b_0, row [.int .i64 r.2.S.Layers, .int .i64 r.2.S.Width, .int .i64 r.2.S.Heads, .int .i64 r.2.S.Inner, .int .i64 r.2.S.Vocab, .int .i64 r.2.S.Places, .int .i64 r.2.Room, .slice a0_7 r.2.L.length c0_7, .slice a0_8 r.2.Ids.length c0_8] 35)] :: ψ0_7 :: ψ0_8 :: Φ) w ∧ OwnL 3 R_api_Request (Mem.add F ψm) 37 a0_7 c0_7 r.2.L ψ0_7 ∧ OwnL 1 (RInt .i64) (Mem.add F ψm) 3 a0_8 c0_8 r.2.Ids ψ0_8) := by
  obtain ⟨a1, c2, rfl, h3⟩ := h_1
  refine CallsRet.enter (rs := [.tmp 4]) Try.func8 rfl rfl rfl rfl ?_
  unfold ref21_Desk_Submit_vvvvvvvoo at hr
  refine WC.then ?_
  refine WC.region [(0, false), (1, true)] rfl ?_
  refine WO.box rfl rfl rfl rfl rfl (fun _ _ _ => trivial) (fun b4 => ?_)
  refine WO.assign rfl rfl rfl rfl ?_
  refine WO.done ?_
  refine At.seq_wc ?_
  refine WC.then ?_
  refine WC.region [(0, true), (1, false), (2, false), (3, true)] rfl ?_
  refine WO.move rfl rfl rfl rfl ?_
  refine WO.loadA 0 3 rfl rfl rfl rfl ag_37 rfl rfl rfl ?_
  obtain ⟨x6, hx7, hr⟩ := bind_some' hr
  refine WO.call rfl rfl rfl rfl rfl cl_15 (CallsRet.lay 1 4 1 [0] [2, 3, 4, 1] (by decide) (Mem.add F (List.flatten [χ])) ([(b_0, row [.int .i64 p0.S.Layers, .int .i64 p0.S.Width, .int .i64 p0.S.Heads, .int .i64 p0.S.Inner, .int .i64 p0.S.Vocab, .int .i64 p0.S.Places, .int .i64 p0.Room, .slice a_0_7 p0.L.length c_0_7, .slice a_0_8 p0.Ids.length c_0_8] 35)] :: ψ_0_7 :: ψ_0_8 :: [(b4, row [.int .i64 p1.ID, .int .i64 p1.Most, .slice a1 p1.Prompt.length c2] 37)] :: Φ) rfl rfl (ref21_Desk_Judge_vvvvvvvoo_ok (F := F) (χ := (List.flatten [χ])) ho_0_7 (OwnL.re (G := F) (const_int _) ho_0_8) ⟨_, _, rfl, (h3.mono (mono_int _) (Mem.le_gather (Mem.add F χ) 1))⟩ hx7 ([(b4, row [.int .i64 p1.ID, .int .i64 p1.Most, .slice a1 p1.Prompt.length c2] 37)] :: Φ))) ?_
  rintro _ _ ⟨rfl, hs8⟩
  have hs8 := Sat.unlay F [χ] hs8
  have hs8 := (hs8.arrange 1 4 [0] [4, 1, 2, 3] (by decide))
  refine ⟨(Mem.add F χ), ([(b4, row [.int .i64 p1.ID, .int .i64 p1.Most, .slice a1 p1.Prompt.length c2] 37)] :: [(b_0, row [.int .i64 p0.S.Layers, .int .i64 p0.S.Width, .int .i64 p0.S.Heads, .int .i64 p0.S.Inner, .int .i64 p0.S.Vocab, .int .i64 p0.S.Places, .int .i64 p0.Room, .slice a_0_7 p0.L.length c_0_7, .slice a_0_8 p0.Ids.length c_0_8] 35)] :: ψ_0_7 :: ψ_0_8 :: Φ), hs8, trivial, ?_⟩
  refine WO.assign rfl rfl rfl rfl ?_
  refine WO.done ?_
  refine At.seq_wc ?_
  refine WC.seq (fun a w => ∃ (v10 : List Int) (v14 : S_ref21_Desk) (a11 : Option Addr) (c12 : Nat) (a15 : Option Addr) (c16 : Nat) (p17 : List Chunk) (a20 : Option Addr) (c21 : Nat) (p22 : List Chunk) (w9 : List Chunk), ref21_Desk_Submit_vvvvvvvoo_k1 x6 v10 v14 = some r ∧ Ctx 38 [(5, .int .i64 x6)] a ∧ Sat (Mem.add (Mem.add F χ) w9) (p17 :: p22 :: [(b4, row [.int .i64 p1.ID, .int .i64 p1.Most, .slice a11 v10.length c12] 37)] :: [(b_0, row [.int .i64 v14.S.Layers, .int .i64 v14.S.Width, .int .i64 v14.S.Heads, .int .i64 v14.S.Inner, .int .i64 v14.S.Vocab, .int .i64 v14.S.Places, .int .i64 v14.Room, .slice a15 v14.L.length c16, .slice a20 v14.Ids.length c21] 35)] :: Φ) w ∧ RdL 1 (RInt .i64) (Mem.add (Mem.add F χ) w9) a11 c12 v10 ∧ OwnL 3 R_api_Request (Mem.add F w9) 37 a15 c16 v14.L p17 ∧ OwnL 1 (RInt .i64) F 3 a20 c21 v14.Ids p22) ?_ ?_
  · refine WC.then ?_
    refine WC.region [(0, true), (1, true)] rfl ?_
    refine WO.move rfl rfl rfl rfl ?_
    refine WO.bin rfl rfl rfl rfl rfl rfl ?_
    refine WO.done ?_
    refine At.seq_wc ?_
    refine WC.cond rfl (fun hb25 => ?_) (fun hb25 => ?_)
    · have hr := cond_t hb25 hr
      refine WC.then ?_
      refine WC.region [(0, false), (1, true), (2, false), (3, false), (4, true), (5, false)] rfl ?_
      refine WO.buildSl (e := 3) (vs := []) [] [] rfl rfl rfl rfl rfl (fun _ => by kernel_rfl) (fun _ _ _ => trivial) (fun b26 => ?_)
      refine WO.fieldAddr 2 rfl rfl rfl rfl fl_37_2 ?_
      refine WO.load 1 rfl rfl rfl rfl sc_33 rfl rfl ?_
      have ho28 : OwnL 1 (RInt .i64) F 3 (some ⟨b26, 0, none⟩) 0 ([] : List Int) [(b26, row [] 3)] := ⟨Nat.le_refl _, .inr ⟨_, [], [], rfl, rfl, Rs.nil, rfl⟩⟩
      obtain ⟨x30, hx31, hr⟩ := bind_some' hr
      refine WO.append 0 (OwnL.re (G := (Mem.add F χ)) (const_int _) ho28) rfl (SrcL.ofRd Try.underlying33 h3 (Mem.le_refl _)) hx31 rfl rfl rfl rfl rfl rfl Try.underlying33 el_3 (fun _ _ _ => trivial) (fun a32 c33 p34 ho35 => ?_)
      refine WO.fieldAddr 2 rfl rfl rfl rfl fl_37_2 ?_
      refine WO.store 1 rfl rfl rfl rfl sz_33 rfl rfl rfl (fun _ _ => trivial) ?_
      refine WO.done ?_
      refine At.seq_wc ?_
      refine WC.seq (fun a w => ∃ (v40 : List S_api_Request) (a37 : Option Addr) (c38 : Nat) (a41 : Option Addr) (c42 : Nat) (p43 : List Chunk) (w36 : List Chunk), ref21_Desk_Submit_vvvvvvvoo_k2 p0 p1 x6 x30 v40 = some r ∧ Ctx 38 [(0, .pointer (some ⟨b_0, 0, none⟩)), (3, .pointer (some ⟨b4, 0, none⟩)), (5, .int .i64 x6)] a ∧ Sat (Mem.add (Mem.add F χ) w36) (p43 :: [(b4, row [.int .i64 p1.ID, .int .i64 p1.Most, .slice a37 x30.length c38] 37)] :: [(b_0, row [.int .i64 p0.S.Layers, .int .i64 p0.S.Width, .int .i64 p0.S.Heads, .int .i64 p0.S.Inner, .int .i64 p0.S.Vocab, .int .i64 p0.S.Places, .int .i64 p0.Room, .slice a41 v40.length c42, .slice a_0_8 p0.Ids.length c_0_8] 35)] :: ψ_0_8 :: Φ) w ∧ RdL 1 (RInt .i64) (Mem.add F w36) a37 c38 x30 ∧ OwnL 3 R_api_Request (Mem.add F w36) 37 a41 c42 v40 p43) ?_ ?_
      · refine WC.drawA (Sat (Mem.add F χ) ([(b4, row [.int .i64 p1.ID, .int .i64 p1.Most, .slice a32 x30.length c33] 37)] :: Φ)) (fun _ h => (h.arrange 1 5 [0] [2] (by decide))) mixed rfl ?_
        refine WA.lin (fuel := 6) [(0, true), (1, true), (2, true), (3, true), (5, true)] (by kernel_rfl) (by kernel_rfl) ?_
        refine WO.move rfl rfl rfl rfl ?_
        refine WO.move rfl rfl rfl rfl ?_
        refine WO.nilCheck rfl rfl rfl rfl ?_
        refine WO.fieldAddr 7 rfl rfl rfl rfl fl_35_2 ?_
        refine WO.loadAY 0 3 rfl rfl rfl rfl ag_37 rfl rfl rfl ?_
        refine WO.done ?_
        refine WA.of ?_
        refine WA.two (fuel := 5) 4 6 (by kernel_rfl) ?_ ?_
        · refine WO.load 2 rfl rfl rfl rfl sc_32 rfl rfl ?_
          refine WO.done ?_
          refine WA.of ?_
          refine WA.lin (fuel := 0) [(6, false), (7, false), (8, true), (9, true), (10, false)] (by kernel_rfl) (by kernel_rfl) ?_
          refine WO.buildSl (e := 37) (vs := [.tmp 21]) [0] [.int .i64 p1.ID, .int .i64 p1.Most, .slice a32 x30.length c33] rfl rfl rfl rfl rfl (fun _ => by kernel_rfl) (fun _ _ h => (h.arrange 1 6 [0] [3] (by decide))) (fun b54 => ?_)
          refine WO.freeze 1 rfl ?_
          have hz56 := (OwnL.re (G := F) (const_int _) ho35).rd (mono_int _)
          obtain ⟨x57, hx58, hr⟩ := bind_some' hr
          refine WO.append 3 (ho_0_7.mono mono_api_Request (Mem.le_pick (Mem.add F p34) 1 [] (by decide))) rfl (SrcL.ofRow 0 Try.underlying32 [[.int .i64 p1.ID, .int .i64 p1.Most, .slice a32 x30.length c33]] rfl rfl rfl (Rs.cons (x := (⟨p1.ID, p1.Most, x30⟩ : S_api_Request)) (cs := [.int .i64 p1.ID, .int .i64 p1.Most, .slice a32 x30.length c33]) rfl ⟨_, _, rfl, hz56⟩ rfl Rs.nil)) hx58 rfl rfl rfl rfl rfl rfl Try.underlying32 el_37 (fun _ _ h => (h.arrange 2 5 [1] [3] (by decide))) (fun a59 c60 p61 ho62 => ?_)
          refine WO.nilCheck rfl rfl rfl rfl ?_
          refine WO.fieldAddr 7 rfl rfl rfl rfl fl_35_2 ?_
          refine WO.store 2 rfl rfl rfl rfl sz_32 rfl rfl rfl (fun _ h => (h.arrange 2 5 [1] [3] (by decide))) ?_
          refine WO.done ?_
          refine WA.of ?_
          refine WA.done (by kernel_rfl) ?_
          refine At.seq_at ?_
          exact fun a w hc hs => ⟨x57, a32, c33, a59, c60, p61, (List.flatten [p34]), hr, (hc.keep (hc.keep (hc.keep hc.nil (t := 5) rfl) (t := 3) rfl) (t := 0) rfl), ((hs.arrange 2 5 [0, 1] [5, 3, 4, 6] (by decide)).gather 1), (hz56.mono (mono_int _) (Mem.le_gather (Mem.add F p34) 1)), (ho62.mono mono_api_Request (Mem.le_gather (Mem.add F p34) 1))⟩
        · refine WO.buildSl (e := 37) (vs := [.tmp 21]) [0] [.int .i64 p1.ID, .int .i64 p1.Most, .slice a32 x30.length c33] rfl rfl rfl rfl rfl (fun _ => by kernel_rfl) (fun _ _ h => (h.arrange 1 6 [0] [3] (by decide))) (fun b54 => ?_)
          refine WO.done ?_
          refine WA.of ?_
          refine WA.lin (fuel := 0) [(4, false), (7, false), (8, true), (9, true), (10, false)] (by kernel_rfl) (by kernel_rfl) ?_
          refine WO.load 3 rfl rfl rfl rfl sc_32 rfl rfl ?_
          refine WO.freeze 1 rfl ?_
          have hz56 := (OwnL.re (G := F) (const_int _) ho35).rd (mono_int _)
          obtain ⟨x57, hx58, hr⟩ := bind_some' hr
          refine WO.append 3 (ho_0_7.mono mono_api_Request (Mem.le_pick (Mem.add F p34) 1 [] (by decide))) rfl (SrcL.ofRow 0 Try.underlying32 [[.int .i64 p1.ID, .int .i64 p1.Most, .slice a32 x30.length c33]] rfl rfl rfl (Rs.cons (x := (⟨p1.ID, p1.Most, x30⟩ : S_api_Request)) (cs := [.int .i64 p1.ID, .int .i64 p1.Most, .slice a32 x30.length c33]) rfl ⟨_, _, rfl, hz56⟩ rfl Rs.nil)) hx58 rfl rfl rfl rfl rfl rfl Try.underlying32 el_37 (fun _ _ h => (h.arrange 2 5 [1] [3] (by decide))) (fun a59 c60 p61 ho62 => ?_)
          refine WO.nilCheck rfl rfl rfl rfl ?_
          refine WO.fieldAddr 7 rfl rfl rfl rfl fl_35_2 ?_
          refine WO.store 2 rfl rfl rfl rfl sz_32 rfl rfl rfl (fun _ h => (h.arrange 2 5 [1] [3] (by decide))) ?_
          refine WO.done ?_
          refine WA.of ?_
          refine WA.done (by kernel_rfl) ?_
          refine At.seq_at ?_
          exact fun a w hc hs => ⟨x57, a32, c33, a59, c60, p61, (List.flatten [p34]), hr, (hc.keep (hc.keep (hc.keep hc.nil (t := 5) rfl) (t := 3) rfl) (t := 0) rfl), ((hs.arrange 2 5 [0, 1] [5, 3, 4, 6] (by decide)).gather 1), (hz56.mono (mono_int _) (Mem.le_gather (Mem.add F p34) 1)), (ho62.mono mono_api_Request (Mem.le_gather (Mem.add F p34) 1))⟩
      · rintro a w ⟨v40, a37, c38, a41, c42, p43, w36, hr, hc, hs, h39, ho44⟩
        refine WC.use hc hs ?_
        clear hc hs
        unfold ref21_Desk_Submit_vvvvvvvoo_k2 at hr
        refine WC.drawA (Sat (Mem.add (Mem.add F χ) w36) ([(b4, row [.int .i64 p1.ID, .int .i64 p1.Most, .slice a37 x30.length c38] 37)] :: Φ)) (fun _ h => (h.arrange 2 4 [0, 1] [3] (by decide))) mixed rfl ?_
        refine WA.lin (fuel := 6) [(0, true), (1, true), (2, true), (3, true), (5, true), (6, true)] (by kernel_rfl) (by kernel_rfl) ?_
        refine WO.move rfl rfl rfl rfl ?_
        refine WO.move rfl rfl rfl rfl ?_
        refine WO.nilCheck rfl rfl rfl rfl ?_
        refine WO.fieldAddr 8 rfl rfl rfl rfl fl_35_3 ?_
        refine WO.fieldAddr 0 rfl rfl rfl rfl fl_37_0 ?_
        refine WO.loadY 0 rfl rfl rfl rfl sc_3 rfl rfl ?_
        refine WO.done ?_
        refine WA.of ?_
        refine WA.two (fuel := 5) 4 7 (by kernel_rfl) ?_ ?_
        · refine WO.load 2 rfl rfl rfl rfl sc_33 rfl rfl ?_
          refine WO.done ?_
          refine WA.of ?_
          refine WA.lin (fuel := 0) [(7, false), (8, false), (9, true), (10, true), (11, false)] (by kernel_rfl) (by kernel_rfl) ?_
          refine WO.buildSl (e := 3) (vs := [.tmp 32]) [0] [.int .i64 p1.ID] rfl rfl rfl rfl rfl (fun _ => by kernel_rfl) (fun _ _ h => (h.arrange 2 5 [0, 1] [4] (by decide))) (fun b46 => ?_)
          obtain ⟨x48, hx49, hr⟩ := bind_some' hr
          refine WO.append 4 (OwnL.re (G := F) (const_int _) ho_0_8) rfl (SrcL.ofRow 0 Try.underlying33 [[.int .i64 p1.ID]] rfl rfl rfl (Rs.cons (x := p1.ID) (cs := [.int .i64 p1.ID]) rfl rfl rfl Rs.nil)) hx49 rfl rfl rfl rfl rfl rfl Try.underlying33 el_3 (fun _ _ h => (h.arrange 2 5 [0, 1] [4] (by decide))) (fun a50 c51 p52 ho53 => ?_)
          refine WO.nilCheck rfl rfl rfl rfl ?_
          refine WO.fieldAddr 8 rfl rfl rfl rfl fl_35_3 ?_
          refine WO.store 3 rfl rfl rfl rfl sz_33 rfl rfl rfl (fun _ h => (h.arrange 2 5 [0, 1] [4] (by decide))) ?_
          refine WO.done ?_
          refine WA.of ?_
          refine WA.done (by kernel_rfl) ?_
          refine At.seq_at ?_
          exact fun a w hc hs => ⟨x30, (⟨p0.S, p0.Room, v40, x48⟩ : S_ref21_Desk), a37, c38, a41, c42, p43, a50, c51, p52, (List.flatten [w36]), hr, (hc.keep hc.nil (t := 5) rfl), ((hs.arrange 2 5 [0, 1] [3, 6, 4, 5] (by decide)).gather 1), (h39.mono (mono_int _) (Mem.le.trans (Mem.le_pick (Mem.add (Mem.add F χ) w36) 2 [0] (by decide)) (Mem.le_gather (Mem.add (Mem.add F χ) w36) 1))), (ho44.mono mono_api_Request (Mem.le_gather (Mem.add F w36) 1)), (OwnL.re (G := F) (const_int _) ho53)⟩
        · refine WO.buildSl (e := 3) (vs := [.tmp 32]) [0] [.int .i64 p1.ID] rfl rfl rfl rfl rfl (fun _ => by kernel_rfl) (fun _ _ h => (h.arrange 2 5 [0, 1] [4] (by decide))) (fun b46 => ?_)
          refine WO.done ?_
          refine WA.of ?_
          refine WA.lin (fuel := 0) [(4, false), (8, false), (9, true), (10, true), (11, false)] (by kernel_rfl) (by kernel_rfl) ?_
          refine WO.load 3 rfl rfl rfl rfl sc_33 rfl rfl ?_
          obtain ⟨x48, hx49, hr⟩ := bind_some' hr
          refine WO.append 4 (OwnL.re (G := F) (const_int _) ho_0_8) rfl (SrcL.ofRow 0 Try.underlying33 [[.int .i64 p1.ID]] rfl rfl rfl (Rs.cons (x := p1.ID) (cs := [.int .i64 p1.ID]) rfl rfl rfl Rs.nil)) hx49 rfl rfl rfl rfl rfl rfl Try.underlying33 el_3 (fun _ _ h => (h.arrange 2 5 [0, 1] [4] (by decide))) (fun a50 c51 p52 ho53 => ?_)
          refine WO.nilCheck rfl rfl rfl rfl ?_
          refine WO.fieldAddr 8 rfl rfl rfl rfl fl_35_3 ?_
          refine WO.store 3 rfl rfl rfl rfl sz_33 rfl rfl rfl (fun _ h => (h.arrange 2 5 [0, 1] [4] (by decide))) ?_
          refine WO.done ?_
          refine WA.of ?_
          refine WA.done (by kernel_rfl) ?_
          refine At.seq_at ?_
          exact fun a w hc hs => ⟨x30, (⟨p0.S, p0.Room, v40, x48⟩ : S_ref21_Desk), a37, c38, a41, c42, p43, a50, c51, p52, (List.flatten [w36]), hr, (hc.keep hc.nil (t := 5) rfl), ((hs.arrange 2 5 [0, 1] [3, 6, 4, 5] (by decide)).gather 1), (h39.mono (mono_int _) (Mem.le.trans (Mem.le_pick (Mem.add (Mem.add F χ) w36) 2 [0] (by decide)) (Mem.le_gather (Mem.add (Mem.add F χ) w36) 1))), (ho44.mono mono_api_Request (Mem.le_gather (Mem.add F w36) 1)), (OwnL.re (G := F) (const_int _) ho53)⟩
    · have hr := cond_f hb25 hr
      refine WC.skip ?_
      refine At.seq_at ?_
      exact fun a w hc hs => ⟨p1.Prompt, p0, a1, c2, a_0_7, c_0_7, ψ_0_7, a_0_8, c_0_8, ψ_0_8, (List.flatten []), hr, (hc.keep hc.nil (t := 5) rfl), ((hs.arrange 1 4 [0] [3, 4, 1, 2] (by decide)).gather 0), (h3.mono (mono_int _) (Mem.le_gather (Mem.add F χ) 0)), (ho_0_7.mono mono_api_Request (Mem.le_gather F 0)), (OwnL.re (G := F) (const_int _) ho_0_8)⟩
  · rintro a w ⟨v10, v14, a11, c12, a15, c16, p17, a20, c21, p22, w9, hr, hc, hs, h13, ho18, ho23⟩
    refine WC.use hc hs ?_
    clear hc hs
    unfold ref21_Desk_Submit_vvvvvvvoo_k1 at hr
    refine WC.then ?_
    refine WC.region [(0, true), (1, true)] rfl ?_
    refine WO.move rfl rfl rfl rfl ?_
    refine WO.assign rfl rfl rfl rfl ?_
    refine WO.done ?_
    refine At.seq_wc ?_
    refine WC.ret ?_
    obtain rfl := Option.some.inj hr
    exact At.ret (fun a w hc hs => (resVs_cons (hc.res rfl) resVs_nil)) (fun w hs => ⟨(List.flatten [w9]), _, _, _, _, _, _, rfl, ((hs.arrange 2 4 [0, 1] [5, 2, 3] (by decide)).gather 1), (ho18.mono mono_api_Request (Mem.le_gather (Mem.add F w9) 1)), (OwnL.re (G := (Mem.add F (List.flatten [w9]))) (const_int _) ho23)⟩)
/-! (*peloton/pelotonref21.Desk).Take -/
def ref21_Desk_Take_vvvvvvvoo (p0 : S_ref21_Desk) : Option (S_api_Request × Bool × S_ref21_Desk) := cond ((p0.L.length : Int) == 0) (some ((⟨0, 0, []⟩ : S_api_Request), false, p0)) ((getI p0.L 0).bind fun x4 => (subL p0.L 1 (p0.L.length : Int)).bind fun x17 => (app ([] : List S_api_Request) x17).bind fun x24 => some (x4, true, (⟨p0.S, p0.Room, x24, p0.Ids⟩ : S_ref21_Desk)))
theorem ref21_Desk_Take_vvvvvvvoo_ok {F : Mem} {p0 : S_ref21_Desk} {b_0 : Nat} {a_0_7 : Option Addr} {c_0_7 : Nat} {ψ_0_7 : List Chunk} (ho_0_7 : OwnL 3 R_api_Request F 37 a_0_7 c_0_7 p0.L ψ_0_7) {a_0_8 : Option Addr} {c_0_8 : Nat} {ψ_0_8 : List Chunk} (ho_0_8 : OwnL 1 (RInt .i64) F 3 a_0_8 c_0_8 p0.Ids ψ_0_8) {r : S_api_Request × Bool × S_ref21_Desk} (hr : ref21_Desk_Take_vvvvvvvoo p0 = some r) (Φ : List (List Chunk)) :
    CallsRet Try.prog 10 (List.toArray [.pointer (some ⟨b_0, 0, none⟩)]) F ([(b_0, row [.int .i64 p0.S.Layers, .int .i64 p0.S.Width, .int .i64 p0.S.Heads, .int .i64 p0.S.Inner, .int .i64 p0.S.Vocab, .int .i64 p0.S.Places, .int .i64 p0.Room, .slice a_0_7 p0.L.length c_0_7, .slice a_0_8 p0.Ids.length c_0_8] 35)] :: ψ_0_7 :: ψ_0_8 :: Φ) (fun v w => ∃ ψm cs0 a0_7 c0_7 ψ0_7 a0_8 c0_8 ψ0_8, v = .tuple (List.toArray [.agg (List.toArray cs0), .bool r.2.1]) ∧ Sat (Mem.add F ψm) ([(b_0, row [.int .i64 r.2.2.S.Layers, .int .i64 r.2.2.S.Width, .int .i64 r.2.2.S.Heads, .int .i64 r.2.2.S.Inner, .int .i64 r.2.2.S.Vocab, .int .i64 r.2.2.S.Places, .int .i64 r.2.2.Room, .slice a0_7 r.2.2.L.length c0_7, .slice a0_8 r.2.2.Ids.length c0_8] 35)] :: ψ0_7 :: ψ0_8 :: Φ) w ∧ R_api_Request (Mem.add F ψm) cs0 r.1 ∧ OwnL 3 R_api_Request (Mem.add F ψm) 37 a0_7 c0_7 r.2.2.L ψ0_7 ∧ OwnL 1 (RInt .i64) (Mem.add F ψm) 3 a0_8 c0_8 r.2.2.Ids ψ0_8) := by
  refine CallsRet.enter (rs := [.cell 2 37, .tmp 3]) Try.func10 rfl rfl rfl rfl ?_
  unfold ref21_Desk_Take_vvvvvvvoo at hr
  refine WC.then ?_
  refine WC.region [(0, false), (1, true)] rfl ?_
  refine WO.alloc (.agg #[.int .i64 0, .int .i64 0, .slice none 0 0]) rfl rfl rfl zb_37 rfl (fun _ _ _ => trivial) (fun b1 => ?_)
  refine WO.assign rfl rfl rfl rfl ?_
  refine WO.done ?_
  refine At.seq_wc ?_
  refine WC.then ?_
  refine WC.then ?_
  refine WC.region [(0, true), (1, true), (2, true), (3, false), (4, true), (5, true)] rfl ?_
  refine WO.move rfl rfl rfl rfl ?_
  refine WO.nilCheck rfl rfl rfl rfl ?_
  refine WO.fieldAddr 7 rfl rfl rfl rfl fl_35_2 ?_
  refine WO.load 1 rfl rfl rfl rfl sc_32 rfl rfl ?_
  refine WO.len rfl rfl rfl rfl Try.underlying32 ?_
  refine WO.bin rfl rfl rfl rfl rfl rfl ?_
  refine WO.done ?_
  refine At.seq_wc ?_
  refine WC.cond rfl (fun hb3 => ?_) (fun hb3 => ?_)
  · have hr := cond_t hb3 hr
    refine WC.then ?_
    refine WC.region [(0, true), (1, false), (2, true)] rfl ?_
    refine WO.build (vs := []) [] (.agg (List.toArray [.int .i64 0, .int .i64 0, .slice none 0 0])) rfl rfl rfl rfl rfl (fun _ => by kernel_rfl) ?_
    refine WO.storeA 0 3 rfl rfl rfl rfl sz_37 rfl rfl rfl rfl (fun _ _ => trivial) ?_
    refine WO.assign rfl rfl rfl rfl ?_
    refine WO.done ?_
    refine At.seq_wc ?_
    refine WC.ret ?_
    refine At.seq_ret ?_
    obtain rfl := Option.some.inj hr
    exact At.ret (fun a w hc hs => (resVs_cons (hc.resA hs 0 rfl rfl ag_37 rfl) (resVs_cons (hc.res rfl) resVs_nil))) (fun w hs => ⟨(List.flatten []), _, _, _, _, _, _, _, rfl, ((hs.arrange 0 4 [] [1, 2, 3] (by decide)).gather 0), ⟨_, _, rfl, RdL.nil⟩, (ho_0_7.mono mono_api_Request (Mem.le_gather F 0)), (OwnL.re (G := (Mem.add F (List.flatten []))) (const_int _) ho_0_8)⟩)
  · have hr := cond_f hb3 hr
    refine WC.skip ?_
    refine At.seq_wc ?_
    refine WC.then ?_
    refine WC.region [(0, true), (1, true), (2, true), (3, false), (4, true), (5, false), (6, false), (7, false)] rfl ?_
    refine WO.move rfl rfl rfl rfl ?_
    refine WO.nilCheck rfl rfl rfl rfl ?_
    refine WO.fieldAddr 7 rfl rfl rfl rfl fl_35_2 ?_
    refine WO.load 1 rfl rfl rfl rfl sc_32 rfl rfl ?_
    obtain ⟨x4, hx5, hr⟩ := bind_some' hr
    refine WO.indexQ ho_0_7 hx5 rfl rfl rfl rfl rfl rfl Try.underlying32 sz_37 (fun b6 cs7 hb8 h9 hq10 => ?_)
    subst hb8
    obtain ⟨a11, c12, rfl, h13⟩ := h9
    refine WO.loadQA 2 0 3 hq10 rfl rfl rfl rfl rfl rfl ag_37 rfl rfl ?_
    refine WO.alloc (.agg #[.int .i64 0, .int .i64 0, .slice none 0 0]) rfl rfl rfl zb_37 rfl (fun _ _ _ => trivial) (fun b14 => ?_)
    refine WO.storeA 0 3 rfl rfl rfl rfl sz_37 rfl rfl rfl rfl (fun _ _ => trivial) ?_
    refine WO.done ?_
    refine At.seq_wc ?_
    refine WC.then ?_
    refine WC.region [(0, true)] rfl ?_
    refine WO.assign rfl rfl rfl rfl ?_
    refine WO.done ?_
    refine At.seq_wc ?_
    refine WC.then ?_
    refine WC.region [(0, true), (1, true), (2, true), (3, true), (4, true), (5, false), (6, true), (7, false), (8, true), (9, true), (10, false)] rfl ?_
    refine WO.move rfl rfl rfl rfl ?_
    refine WO.move rfl rfl rfl rfl ?_
    refine WO.move rfl rfl rfl rfl ?_
    refine WO.nilCheck rfl rfl rfl rfl ?_
    refine WO.fieldAddr 7 rfl rfl rfl rfl fl_35_2 ?_
    refine WO.load 2 rfl rfl rfl rfl sc_32 rfl rfl ?_
    refine WO.freeze 3 rfl ?_
    have hz16 := ho_0_7.rd mono_api_Request
    obtain ⟨x17, hx18, hr⟩ := bind_some' hr
    refine WO.slice hz16 hx18 rfl rfl rfl rfl rfl rfl rfl (.inr ⟨_, rfl⟩) (.inl ⟨rfl, rfl⟩) Try.underlying32 sz_37 (fun a19 c20 h21 => ?_)
    refine WO.empty ?_
    have ho23 : OwnL 3 R_api_Request F 37 none 0 ([] : List S_api_Request) [] := OwnL.nil
    obtain ⟨x24, hx25, hr⟩ := bind_some' hr
    refine WO.append 0 (ho23.mono mono_api_Request (Mem.le_pick (Mem.add F ψ_0_7) 1 [] (by decide))) rfl (SrcL.ofRd Try.underlying32 h21 (Mem.le_refl _)) hx25 rfl rfl rfl rfl rfl rfl Try.underlying32 el_37 (fun _ _ _ => trivial) (fun a26 c27 p28 ho29 => ?_)
    refine WO.nilCheck rfl rfl rfl rfl ?_
    refine WO.fieldAddr 7 rfl rfl rfl rfl fl_35_2 ?_
    refine WO.store 3 rfl rfl rfl rfl sz_32 rfl rfl rfl (fun _ _ => trivial) ?_
    refine WO.done ?_
    refine At.seq_wc ?_
    refine WC.then ?_
    refine WC.region [(0, false), (1, false), (2, true)] rfl ?_
    refine WO.loadA 1 3 rfl rfl rfl rfl ag_37 rfl rfl rfl ?_
    refine WO.storeA 2 3 rfl rfl rfl rfl sz_37 rfl rfl rfl rfl (fun _ _ => trivial) ?_
    refine WO.assign rfl rfl rfl rfl ?_
    refine WO.done ?_
    refine At.seq_wc ?_
    refine WC.ret ?_
    obtain rfl := Option.some.inj hr
    exact At.ret (fun a w hc hs => (resVs_cons (hc.resA hs 2 rfl rfl ag_37 rfl) (resVs_cons (hc.res rfl) resVs_nil))) (fun w hs => ⟨(List.flatten [ψ_0_7]), _, _, _, _, _, _, _, rfl, ((hs.arrange 1 5 [0] [4, 1, 5] (by decide)).gather 1), ⟨_, _, rfl, (h13.mono (mono_int _) (Mem.le.trans (Mem.le_pick (Mem.add F ψ_0_7) 1 [] (by decide)) (Mem.le_gather (Mem.add F ψ_0_7) 1)))⟩, (ho29.mono mono_api_Request (Mem.le_gather (Mem.add F ψ_0_7) 1)), (OwnL.re (G := (Mem.add F (List.flatten [ψ_0_7]))) (const_int _) ho_0_8)⟩)
/-! peloton/pelotonref09.Ints -/
def ref09_Ints_k1  : Option Bool := some true
def ref09_Ints_b2 (p0 : List Int) (p1 : List Int) (v7 : Int) : Option (Int ⊕ (Lp Bool Unit)) := cond (decide (v7 < (p0.length : Int))) ((getI p0 v7).bind fun x12 => (getI p1 v7).bind fun x17 => cond (x12 != x17) (some (.inr (.ret false))) (some (.inl (IntKind.wrap .i64 (v7 + 1))))) (some (.inr (.brk ())))
def ref09_Ints (p0 : List Int) (p1 : List Int) : Option Bool := cond ((p0.length : Int) != (p1.length : Int)) (some false) ((loopO (fun s => ref09_Ints_b2 p0 p1 s) 0).bind (fun | .ret r => some r | .brk _ => ref09_Ints_k1 ))
theorem ref09_Ints_ok {F : Mem} {χ : List Chunk} {p0 : List Int} {p1 : List Int} {a_0 : Option Addr} {c_0 : Nat} (h_0 : RdL 1 (RInt .i64) (Mem.add F χ) a_0 c_0 p0) {a_1 : Option Addr} {c_1 : Nat} (h_1 : RdL 1 (RInt .i64) (Mem.add F χ) a_1 c_1 p1) {r : Bool} (hr : ref09_Ints p0 p1 = some r) (Φ : List (List Chunk)) :
    CallsRet Try.prog 25 (List.toArray [.slice a_0 p0.length c_0, .slice a_1 p1.length c_1]) (Mem.add F χ) Φ (fun v w => v = .bool r ∧ Sat (Mem.add F χ) (Φ) w) := by
  refine CallsRet.enter (rs := [.tmp 4]) Try.func25 rfl rfl rfl rfl ?_
  unfold ref09_Ints at hr
  refine WC.then ?_
  refine WC.region [(0, true)] rfl ?_
  refine WO.assign rfl rfl rfl rfl ?_
  refine WO.done ?_
  refine At.seq_wc ?_
  refine WC.then ?_
  refine WC.then ?_
  refine WC.region [(0, true), (1, true), (2, true), (3, true), (4, true)] rfl ?_
  refine WO.move rfl rfl rfl rfl ?_
  refine WO.len rfl rfl rfl rfl Try.underlying33 ?_
  refine WO.move rfl rfl rfl rfl ?_
  refine WO.len rfl rfl rfl rfl Try.underlying33 ?_
  refine WO.bin rfl rfl rfl rfl rfl rfl ?_
  refine WO.done ?_
  refine At.seq_wc ?_
  refine WC.cond rfl (fun hb1 => ?_) (fun hb1 => ?_)
  · have hr := cond_t hb1 hr
    refine WC.then ?_
    refine WC.region [(0, true)] rfl ?_
    refine WO.assign rfl rfl rfl rfl ?_
    refine WO.done ?_
    refine At.seq_wc ?_
    refine WC.ret ?_
    refine At.seq_ret ?_
    obtain rfl := Option.some.inj hr
    exact At.ret (fun a w hc hs => (resVs_cons (hc.res rfl) resVs_nil)) (fun w hs => ⟨rfl, hs⟩)
  · have hr := cond_f hb1 hr
    refine WC.skip ?_
    refine At.seq_wc ?_
    refine WC.seq (fun a w => ref09_Ints_k1  = some r ∧ Ctx 26 [] a ∧ Sat (Mem.add F χ) Φ w) ?_ ?_
    · refine WC.then ?_
      refine WC.region [(0, true)] rfl ?_
      refine WO.assign rfl rfl rfl rfl ?_
      refine WO.done ?_
      refine At.seq_wc ?_
      obtain ⟨xl3, hl3, hk3⟩ := bind_some' hr
      refine WC.weaken (fun a w => .brk () = xl3 ∧ Ctx 26 [] a ∧ Sat (Mem.add F χ) Φ w) ?_ ?_
      · refine WC.block ?_
        refine WC.loop (fun (v7 : Int) a w => Ctx 26 [(0, .slice a_0 p0.length c_0), (1, .slice a_1 p1.length c_1), (5, .int .i64 v7)] a ∧ Sat (Mem.add F χ) Φ w) hl3 ?_ ?_
        · exact fun a w hc hs => ⟨(hc.keep (hc.keep (hc.keep hc.nil (t := 5) rfl) (t := 1) rfl) (t := 0) rfl), hs⟩
        · rintro v7 r3 hr a w ⟨hc, hs⟩
          refine WC.use hc hs ?_
          clear hc hs
          (try dsimp only at hr)
          unfold ref09_Ints_b2 at hr
          refine WC.then ?_
          refine WC.then ?_
          refine WC.region [(0, true), (1, true), (2, true), (3, true)] rfl ?_
          refine WO.move rfl rfl rfl rfl ?_
          refine WO.move rfl rfl rfl rfl ?_
          refine WO.len rfl rfl rfl rfl Try.underlying33 ?_
          refine WO.bin rfl rfl rfl rfl rfl rfl ?_
          refine WO.done ?_
          refine At.seq_wc ?_
          refine WC.cond rfl (fun hb11 => ?_) (fun hb11 => ?_)
          · have hr := cond_t hb11 hr
            refine WC.skip ?_
            refine At.seq_wc ?_
            refine WC.then ?_
            refine WC.block ?_
            refine WC.then ?_
            refine WC.draw (Sat (Mem.add F χ) (Φ)) (fun _ h => (h.arrange 1 0 [0] [] (by decide))) [(0, true), (1, true), (2, true), (3, true), (4, true), (5, true), (6, true), (7, true), (8, true)] mixed (by kernel_rfl) rfl (by kernel_rfl) ?_
            refine WO.move rfl rfl rfl rfl ?_
            refine WO.move rfl rfl rfl rfl ?_
            obtain ⟨x12, hx13, hr⟩ := bind_some' hr
            refine WO.indexR h_0 hx13 rfl rfl rfl rfl rfl rfl Try.underlying33 sz_3 ?_
            rintro b14 o15 _ hc16 rfl
            refine WO.loadP 0 hc16 rfl rfl rfl rfl rfl sc_3 rfl ?_
            refine WO.move rfl rfl rfl rfl ?_
            refine WO.move rfl rfl rfl rfl ?_
            obtain ⟨x17, hx18, hr⟩ := bind_some' hr
            refine WO.indexR h_1 hx18 rfl rfl rfl rfl rfl rfl Try.underlying33 sz_3 ?_
            rintro b19 o20 _ hc21 rfl
            refine WO.loadP 0 hc21 rfl rfl rfl rfl rfl sc_3 rfl ?_
            refine WO.bin rfl rfl rfl rfl rfl rfl ?_
            refine WO.done ?_
            refine At.seq_wc ?_
            refine WC.cond rfl (fun hb22 => ?_) (fun hb22 => ?_)
            · have hr := cond_t hb22 hr
              refine WC.then ?_
              refine WC.region [(0, true)] rfl ?_
              refine WO.assign rfl rfl rfl rfl ?_
              refine WO.done ?_
              refine At.seq_wc ?_
              refine WC.ret ?_
              refine At.block_ret ?_
              refine At.seq_ret ?_
              refine At.round_ret hr (fun hy => ?_)
              subst hy
              have hr := hk3
              refine At.block_ret ?_
              refine At.seq_ret ?_
              refine At.seq_ret ?_
              obtain rfl := Option.some.inj hr
              exact At.ret (fun a w hc hs => (resVs_cons (hc.res rfl) resVs_nil)) (fun w hs => ⟨rfl, hs⟩)
            · have hr := cond_f hb22 hr
              refine WC.skip ?_
              refine At.block_normal ?_
              refine At.seq_wc ?_
              refine WC.region [(0, true), (1, true), (2, true)] rfl ?_
              refine WO.move rfl rfl rfl rfl ?_
              refine WO.bin rfl rfl rfl rfl rfl rfl ?_
              refine WO.assign rfl rfl rfl rfl ?_
              refine WO.done ?_
              refine At.round_next hr ?_
              exact fun a w hc hs => ⟨(hc.keep (hc.keep (hc.keep hc.nil (t := 5) rfl) (t := 1) rfl) (t := 0) rfl), hs⟩
          · have hr := cond_f hb11 hr
            refine WC.exit ?_
            refine At.seq_exit ?_
            refine At.round_exit hr (fun hy => ?_)
            refine At.exit_block ?_
            refine At.seq_at ?_
            exact fun a w hc hs => ⟨hy, hc.nil, hs⟩
      · rintro a w ⟨rfl, hc, hs⟩
        refine At.use hc hs ?_
        clear hc hs
        (try dsimp only at hk3)
        have hr := hk3
        refine At.seq_at ?_
        exact fun a w hc hs => ⟨hr, hc.nil, hs⟩
    · rintro a w ⟨hr, hc, hs⟩
      refine WC.use hc hs ?_
      clear hc hs
      unfold ref09_Ints_k1 at hr
      refine WC.then ?_
      refine WC.region [(0, true)] rfl ?_
      refine WO.assign rfl rfl rfl rfl ?_
      refine WO.done ?_
      refine At.seq_wc ?_
      refine WC.ret ?_
      obtain rfl := Option.some.inj hr
      exact At.ret (fun a w hc hs => (resVs_cons (hc.res rfl) resVs_nil)) (fun w hs => ⟨rfl, hs⟩)
/-! peloton/pelotonlaw21.same -/
def law21_same_k1 (v12 : Bool) : Option Bool := some v12
def law21_same (p0 : S_api_Request) (p1 : S_api_Request) : Option Bool := cond (p0.ID == p1.ID) (cond (p0.Most == p1.Most) ((ref09_Ints p0.Prompt p1.Prompt).bind fun x15 => law21_same_k1 x15) (law21_same_k1 false)) (law21_same_k1 false)
theorem law21_same_ok {F : Mem} {χ : List Chunk} {p0 : S_api_Request} {p1 : S_api_Request} {cs_0 : List Value} (h_0 : R_api_Request (Mem.add F χ) cs_0 p0) {cs_1 : List Value} (h_1 : R_api_Request (Mem.add F χ) cs_1 p1) {r : Bool} (hr : law21_same p0 p1 = some r) (Φ : List (List Chunk)) :
    CallsRet Try.prog 11 (List.toArray [.agg cs_0.toArray, .agg cs_1.toArray]) (Mem.add F χ) Φ (fun v w => v = .bool r ∧ Sat (Mem.add F χ) (Φ) w) := by
  obtain ⟨a1, c2, rfl, h3⟩ := h_0
  obtain ⟨a4, c5, rfl, h6⟩ := h_1
  refine CallsRet.enter (rs := [.tmp 4]) Try.func11 rfl rfl rfl rfl ?_
  unfold law21_same at hr
  refine WC.then ?_
  refine WC.region [(0, false), (1, false), (2, true)] rfl ?_
  refine WO.box rfl rfl rfl rfl rfl (fun _ _ _ => trivial) (fun b7 => ?_)
  refine WO.box rfl rfl rfl rfl rfl (fun _ _ _ => trivial) (fun b9 => ?_)
  refine WO.assign rfl rfl rfl rfl ?_
  refine WO.done ?_
  refine At.seq_wc ?_
  refine WC.seq (fun a w => ∃ (v12 : Bool), law21_same_k1 v12 = some r ∧ Ctx 24 [(4, .bool v12)] a ∧ Sat (Mem.add F χ) ([(b9, row [.int .i64 p1.ID, .int .i64 p1.Most, .slice a4 p1.Prompt.length c5] 37)] :: [(b7, row [.int .i64 p0.ID, .int .i64 p0.Most, .slice a1 p0.Prompt.length c2] 37)] :: Φ) w) ?_ ?_
  · refine WC.region [(0, true), (1, false), (2, true), (3, false), (4, true), (5, true), (6, true), (7, false), (8, true), (9, false), (10, true), (11, true), (12, true), (13, true), (14, false), (15, true), (16, false), (17, false), (18, true), (19, true)] rfl ?_
    refine WO.fieldAddr 0 rfl rfl rfl rfl fl_37_0 ?_
    refine WO.load 1 rfl rfl rfl rfl sc_3 rfl rfl ?_
    refine WO.fieldAddr 0 rfl rfl rfl rfl fl_37_0 ?_
    refine WO.load 0 rfl rfl rfl rfl sc_3 rfl rfl ?_
    refine WO.bin rfl rfl rfl rfl rfl rfl ?_
    refine WO.move rfl rfl rfl rfl ?_
    refine WO.split (t := 10) rfl (fun hg13 => ?_) (fun hg13 => ?_)
    · have hr := cond_t hg13 hr
      refine WO.fieldAddr 1 rfl rfl rfl rfl fl_37_1 ?_
      refine WO.load 1 rfl rfl rfl rfl sc_3 rfl rfl ?_
      refine WO.fieldAddr 1 rfl rfl rfl rfl fl_37_1 ?_
      refine WO.load 0 rfl rfl rfl rfl sc_3 rfl rfl ?_
      refine WO.bin rfl rfl rfl rfl rfl rfl ?_
      refine WO.pickT rfl rfl rfl rfl rfl ?_
      refine WO.move rfl rfl rfl rfl ?_
      refine WO.split (t := 17) rfl (fun hg14 => ?_) (fun hg14 => ?_)
      · have hr := cond_t hg14 hr
        refine WO.fieldAddr 2 rfl rfl rfl rfl fl_37_2 ?_
        refine WO.load 1 rfl rfl rfl rfl sc_33 rfl rfl ?_
        refine WO.fieldAddr 2 rfl rfl rfl rfl fl_37_2 ?_
        refine WO.load 0 rfl rfl rfl rfl sc_33 rfl rfl ?_
        obtain ⟨x15, hx16, hr⟩ := bind_some' hr
        refine WO.call rfl rfl rfl rfl rfl cl_25 (CallsRet.lay 1 2 1 [0] [1, 2] (by decide) (Mem.add F (List.flatten [χ])) ([(b9, row [.int .i64 p1.ID, .int .i64 p1.Most, .slice a4 p1.Prompt.length c5] 37)] :: [(b7, row [.int .i64 p0.ID, .int .i64 p0.Most, .slice a1 p0.Prompt.length c2] 37)] :: Φ) rfl rfl (ref09_Ints_ok (F := F) (χ := (List.flatten [χ])) (h3.mono (mono_int _) (Mem.le_gather (Mem.add F χ) 1)) (h6.mono (mono_int _) (Mem.le_gather (Mem.add F χ) 1)) hx16 ([(b9, row [.int .i64 p1.ID, .int .i64 p1.Most, .slice a4 p1.Prompt.length c5] 37)] :: [(b7, row [.int .i64 p0.ID, .int .i64 p0.Most, .slice a1 p0.Prompt.length c2] 37)] :: Φ))) ?_
        rintro _ _ ⟨rfl, hs17⟩
        have hs17 := Sat.unlay F [χ] hs17
        have hs17 := (hs17.arrange 1 2 [0] [1, 2] (by decide))
        refine ⟨(Mem.add F χ), ([(b9, row [.int .i64 p1.ID, .int .i64 p1.Most, .slice a4 p1.Prompt.length c5] 37)] :: [(b7, row [.int .i64 p0.ID, .int .i64 p0.Most, .slice a1 p0.Prompt.length c2] 37)] :: Φ), hs17, trivial, ?_⟩
        refine WO.pickT rfl rfl rfl rfl rfl ?_
        refine WO.assign rfl rfl rfl rfl ?_
        refine WO.done ?_
        refine At.seq_at ?_
        exact fun a w hc hs => ⟨x15, hr, (hc.keep hc.nil (t := 4) rfl), hs⟩
      · have hr := cond_f hg14 hr
        refine WO.skip rfl rfl rfl rfl ?_
        refine WO.skipF rfl rfl rfl rfl ?_
        refine WO.skip rfl rfl rfl rfl ?_
        refine WO.skipF rfl rfl rfl rfl ?_
        refine WO.skipF rfl rfl rfl rfl ?_
        refine WO.pickF rfl rfl rfl rfl rfl ?_
        refine WO.assign rfl rfl rfl rfl ?_
        refine WO.done ?_
        refine At.seq_at ?_
        exact fun a w hc hs => ⟨false, hr, (hc.keep hc.nil (t := 4) rfl), hs⟩
    · have hr := cond_f hg13 hr
      refine WO.skip rfl rfl rfl rfl ?_
      refine WO.skipF rfl rfl rfl rfl ?_
      refine WO.skip rfl rfl rfl rfl ?_
      refine WO.skipF rfl rfl rfl rfl ?_
      refine WO.skip rfl rfl rfl rfl ?_
      refine WO.pickF rfl rfl rfl rfl rfl ?_
      refine WO.move rfl rfl rfl rfl ?_
      refine WO.skip rfl rfl rfl rfl ?_
      refine WO.skipF rfl rfl rfl rfl ?_
      refine WO.skip rfl rfl rfl rfl ?_
      refine WO.skipF rfl rfl rfl rfl ?_
      refine WO.skipF rfl rfl rfl rfl ?_
      refine WO.pickF rfl rfl rfl rfl rfl ?_
      refine WO.assign rfl rfl rfl rfl ?_
      refine WO.done ?_
      refine At.seq_at ?_
      exact fun a w hc hs => ⟨false, hr, (hc.keep hc.nil (t := 4) rfl), hs⟩
  · rintro a w ⟨v12, hr, hc, hs⟩
    refine WC.use hc hs ?_
    clear hc hs
    unfold law21_same_k1 at hr
    refine WC.ret ?_
    obtain rfl := Option.some.inj hr
    exact At.ret (fun a w hc hs => (resVs_cons (hc.res rfl) resVs_nil)) (fun w hs => ⟨rfl, (hs.arrange 1 2 [0] [] (by decide))⟩)
/-! slices.Index[[]int,int] -/
def slices_Index_int_int_k1  : Option Int := some (-1)
def slices_Index_int_int_b2 (p0 : List Int) (p1 : Int) (v6 : Int) : Option (Int ⊕ (Lp Int Unit)) := cond (decide (v6 < (p0.length : Int))) ((getI p0 v6).bind fun x11 => cond (p1 == x11) (some (.inr (.ret v6))) (some (.inl (IntKind.wrap .i64 (v6 + 1))))) (some (.inr (.brk ())))
def slices_Index_int_int (p0 : List Int) (p1 : Int) : Option Int := (loopO (fun s => slices_Index_int_int_b2 p0 p1 s) 0).bind (fun | .ret r => some r | .brk _ => slices_Index_int_int_k1 )
theorem slices_Index_int_int_ok {F : Mem} {χ : List Chunk} {p0 : List Int} {p1 : Int} {a_0 : Option Addr} {c_0 : Nat} (h_0 : RdL 1 (RInt .i64) (Mem.add F χ) a_0 c_0 p0) {r : Int} (hr : slices_Index_int_int p0 p1 = some r) (Φ : List (List Chunk)) :
    CallsRet Try.prog 33 (List.toArray [.slice a_0 p0.length c_0, .int .i64 p1]) (Mem.add F χ) Φ (fun v w => v = .int .i64 r ∧ Sat (Mem.add F χ) (Φ) w) := by
  refine CallsRet.enter (rs := [.tmp 4]) Try.func33 rfl rfl rfl rfl ?_
  unfold slices_Index_int_int at hr
  refine WC.then ?_
  refine WC.region [(0, true)] rfl ?_
  refine WO.assign rfl rfl rfl rfl ?_
  refine WO.done ?_
  refine At.seq_wc ?_
  refine WC.seq (fun a w => slices_Index_int_int_k1  = some r ∧ Ctx 19 [] a ∧ Sat (Mem.add F χ) Φ w) ?_ ?_
  · refine WC.then ?_
    refine WC.region [(0, true), (1, true), (2, true)] rfl ?_
    refine WO.move rfl rfl rfl rfl ?_
    refine WO.len rfl rfl rfl rfl Try.underlying33 ?_
    refine WO.move rfl rfl rfl rfl ?_
    refine WO.done ?_
    refine At.seq_wc ?_
    obtain ⟨xl3, hl3, hk3⟩ := bind_some' hr
    refine WC.weaken (fun a w => .brk () = xl3 ∧ Ctx 19 [] a ∧ Sat (Mem.add F χ) Φ w) ?_ ?_
    · refine WC.block ?_
      refine WC.loop (fun (v6 : Int) a w => Ctx 19 [(0, .slice a_0 p0.length c_0), (1, .int .i64 p1), (7, .int .i64 (p0.length : Int)), (8, .int .i64 v6)] a ∧ Sat (Mem.add F χ) Φ w) hl3 ?_ ?_
      · exact fun a w hc hs => ⟨(hc.keep (hc.keep (hc.keep (hc.keep hc.nil (t := 8) rfl) (t := 7) rfl) (t := 1) rfl) (t := 0) rfl), hs⟩
      · rintro v6 r3 hr a w ⟨hc, hs⟩
        refine WC.use hc hs ?_
        clear hc hs
        (try dsimp only at hr)
        unfold slices_Index_int_int_b2 at hr
        refine WC.then ?_
        refine WC.region [(0, true)] rfl ?_
        refine WO.bin rfl rfl rfl rfl rfl rfl ?_
        refine WO.done ?_
        refine At.seq_wc ?_
        refine WC.then ?_
        refine WC.cond rfl (fun hb10 => ?_) (fun hb10 => ?_)
        · have hr := cond_t hb10 hr
          refine WC.skip ?_
          refine At.seq_wc ?_
          refine WC.then ?_
          refine WC.block ?_
          refine WC.then ?_
          refine WC.region [(0, true), (1, true)] rfl ?_
          refine WO.move rfl rfl rfl rfl ?_
          refine WO.assign rfl rfl rfl rfl ?_
          refine WO.done ?_
          refine At.seq_wc ?_
          refine WC.then ?_
          refine WC.region [(0, true), (1, true), (2, true), (3, true), (4, false), (5, true)] rfl ?_
          refine WO.move rfl rfl rfl rfl ?_
          refine WO.move rfl rfl rfl rfl ?_
          refine WO.move rfl rfl rfl rfl ?_
          obtain ⟨x11, hx12, hr⟩ := bind_some' hr
          refine WO.indexR h_0 hx12 rfl rfl rfl rfl rfl rfl Try.underlying33 sz_3 ?_
          rintro b13 o14 _ hc15 rfl
          refine WO.loadPn 0 hc15 rfl rfl rfl rfl rfl sc_3 rfl ?_
          refine WO.bin rfl rfl rfl rfl rfl rfl ?_
          refine WO.done ?_
          refine At.seq_wc ?_
          refine WC.cond rfl (fun hb16 => ?_) (fun hb16 => ?_)
          · have hr := cond_t hb16 hr
            refine WC.then ?_
            refine WC.region [(0, true), (1, true)] rfl ?_
            refine WO.move rfl rfl rfl rfl ?_
            refine WO.assign rfl rfl rfl rfl ?_
            refine WO.done ?_
            refine At.seq_wc ?_
            refine WC.ret ?_
            refine At.block_ret ?_
            refine At.seq_ret ?_
            refine At.round_ret hr (fun hy => ?_)
            subst hy
            have hr := hk3
            refine At.block_ret ?_
            refine At.seq_ret ?_
            refine At.seq_ret ?_
            obtain rfl := Option.some.inj hr
            exact At.ret (fun a w hc hs => (resVs_cons (hc.res rfl) resVs_nil)) (fun w hs => ⟨rfl, hs⟩)
          · have hr := cond_f hb16 hr
            refine WC.skip ?_
            refine At.block_normal ?_
            refine At.seq_wc ?_
            refine WC.region [(0, true), (1, true)] rfl ?_
            refine WO.bin rfl rfl rfl rfl rfl rfl ?_
            refine WO.move rfl rfl rfl rfl ?_
            refine WO.done ?_
            refine At.round_next hr ?_
            exact fun a w hc hs => ⟨(hc.keep (hc.keep (hc.keep (hc.keep hc.nil (t := 8) rfl) (t := 7) rfl) (t := 1) rfl) (t := 0) rfl), hs⟩
        · have hr := cond_f hb10 hr
          refine WC.exit ?_
          refine At.seq_exit ?_
          refine At.round_exit hr (fun hy => ?_)
          refine At.exit_block ?_
          refine At.seq_at ?_
          exact fun a w hc hs => ⟨hy, hc.nil, hs⟩
    · rintro a w ⟨rfl, hc, hs⟩
      refine At.use hc hs ?_
      clear hc hs
      (try dsimp only at hk3)
      have hr := hk3
      refine At.seq_at ?_
      exact fun a w hc hs => ⟨hr, hc.nil, hs⟩
  · rintro a w ⟨hr, hc, hs⟩
    refine WC.use hc hs ?_
    clear hc hs
    unfold slices_Index_int_int_k1 at hr
    refine WC.then ?_
    refine WC.region [(0, true)] rfl ?_
    refine WO.assign rfl rfl rfl rfl ?_
    refine WO.done ?_
    refine At.seq_wc ?_
    refine WC.ret ?_
    obtain rfl := Option.some.inj hr
    exact At.ret (fun a w hc hs => (resVs_cons (hc.res rfl) resVs_nil)) (fun w hs => ⟨rfl, hs⟩)
/-! slices.Contains[[]int,int] -/
def slices_Contains_int_int (p0 : List Int) (p1 : Int) : Option Bool := (slices_Index_int_int p0 p1).bind fun x1 => some (decide (x1 ≥ 0))
theorem slices_Contains_int_int_ok {F : Mem} {χ : List Chunk} {p0 : List Int} {p1 : Int} {a_0 : Option Addr} {c_0 : Nat} (h_0 : RdL 1 (RInt .i64) (Mem.add F χ) a_0 c_0 p0) {r : Bool} (hr : slices_Contains_int_int p0 p1 = some r) (Φ : List (List Chunk)) :
    CallsRet Try.prog 28 (List.toArray [.slice a_0 p0.length c_0, .int .i64 p1]) (Mem.add F χ) Φ (fun v w => v = .bool r ∧ Sat (Mem.add F χ) (Φ) w) := by
  refine CallsRet.enter (rs := [.tmp 4]) Try.func28 rfl rfl rfl rfl ?_
  unfold slices_Contains_int_int at hr
  refine WC.then ?_
  refine WC.region [(0, true)] rfl ?_
  refine WO.assign rfl rfl rfl rfl ?_
  refine WO.done ?_
  refine At.seq_wc ?_
  refine WC.then ?_
  refine WC.region [(0, true), (1, true), (2, false), (3, true), (4, true)] rfl ?_
  refine WO.move rfl rfl rfl rfl ?_
  refine WO.move rfl rfl rfl rfl ?_
  obtain ⟨x1, hx2, hr⟩ := bind_some' hr
  refine WO.call rfl rfl rfl rfl rfl cl_33 (CallsRet.lay 1 0 1 [0] [] (by decide) (Mem.add F (List.flatten [χ])) (Φ) rfl rfl (slices_Index_int_int_ok (F := F) (χ := (List.flatten [χ])) (h_0.mono (mono_int _) (Mem.le_gather (Mem.add F χ) 1)) hx2 (Φ))) ?_
  rintro _ _ ⟨rfl, hs3⟩
  have hs3 := Sat.unlay F [χ] hs3
  have hs3 := (hs3.arrange 1 0 [0] [] (by decide))
  refine ⟨(Mem.add F χ), (Φ), hs3, trivial, ?_⟩
  refine WO.bin rfl rfl rfl rfl rfl rfl ?_
  refine WO.assign rfl rfl rfl rfl ?_
  refine WO.done ?_
  refine At.seq_wc ?_
  refine WC.ret ?_
  obtain rfl := Option.some.inj hr
  exact At.ret (fun a w hc hs => (resVs_cons (hc.res rfl) resVs_nil)) (fun w hs => ⟨rfl, hs⟩)
/-! (*peloton/admit.Desk).Cancel$1 -/
def admit_Desk_Cancel_1_p (p0 : S_api_Request) (p1 : List Int) : Option Bool := (slices_Contains_int_int p1 p0.ID).bind fun x9 => some x9
theorem admit_Desk_Cancel_1_p_ok {F : Mem} {χ : List Chunk} {p0 : S_api_Request} {p1 : List Int} {cs_0 : List Value} (h_0 : R_api_Request (Mem.add F χ) cs_0 p0) {b_1 o_1 : Nat} {cs_1 : List Value} (hc_1 : Cells (Mem.add F χ) b_1 o_1 cs_1) (h_1 : (RSl 1 (RInt .i64)) (Mem.add F χ) cs_1 p1) {r : Bool} (hr : admit_Desk_Cancel_1_p p0 p1 = some r) (Φ : List (List Chunk)) :
    CallsRet Try.prog 27 (List.toArray [.agg cs_0.toArray, .pointer (some ⟨b_1, o_1, none⟩)]) (Mem.add F χ) Φ (fun v w => v = .bool r ∧ Sat (Mem.add F χ) (Φ) w) := by
  obtain ⟨a1, c2, rfl, h3⟩ := h_0
  obtain ⟨a4, c5, rfl, h6⟩ := h_1
  refine CallsRet.enter (rs := [.tmp 3]) Try.func27 rfl rfl rfl rfl ?_
  unfold admit_Desk_Cancel_1_p at hr
  refine WC.then ?_
  refine WC.region [(0, false), (1, true)] rfl ?_
  refine WO.box rfl rfl rfl rfl rfl (fun _ _ _ => trivial) (fun b7 => ?_)
  refine WO.assign rfl rfl rfl rfl ?_
  refine WO.done ?_
  refine At.seq_wc ?_
  refine WC.then ?_
  refine WC.region [(0, false), (1, true), (2, false), (3, false), (4, true)] rfl ?_
  refine WO.loadPn 0 hc_1 rfl rfl rfl rfl rfl sc_33 rfl ?_
  refine WO.fieldAddr 0 rfl rfl rfl rfl fl_37_0 ?_
  refine WO.load 0 rfl rfl rfl rfl sc_3 rfl rfl ?_
  obtain ⟨x9, hx10, hr⟩ := bind_some' hr
  refine WO.call rfl rfl rfl rfl rfl cl_28 (CallsRet.lay 1 1 1 [0] [1] (by decide) (Mem.add F (List.flatten [χ])) ([(b7, row [.int .i64 p0.ID, .int .i64 p0.Most, .slice a1 p0.Prompt.length c2] 37)] :: Φ) rfl rfl (slices_Contains_int_int_ok (F := F) (χ := (List.flatten [χ])) (h6.mono (mono_int _) (Mem.le_gather (Mem.add F χ) 1)) hx10 ([(b7, row [.int .i64 p0.ID, .int .i64 p0.Most, .slice a1 p0.Prompt.length c2] 37)] :: Φ))) ?_
  rintro _ _ ⟨rfl, hs11⟩
  have hs11 := Sat.unlay F [χ] hs11
  have hs11 := (hs11.arrange 1 1 [0] [1] (by decide))
  refine ⟨(Mem.add F χ), ([(b7, row [.int .i64 p0.ID, .int .i64 p0.Most, .slice a1 p0.Prompt.length c2] 37)] :: Φ), hs11, trivial, ?_⟩
  refine WO.assign rfl rfl rfl rfl ?_
  refine WO.done ?_
  refine At.seq_wc ?_
  refine WC.ret ?_
  obtain rfl := Option.some.inj hr
  exact At.ret (fun a w hc hs => (resVs_cons (hc.res rfl) resVs_nil)) (fun w hs => ⟨rfl, (hs.arrange 1 1 [0] [] (by decide))⟩)
/-! slices.IndexFunc[[]peloton/api.Request,peloton/api.Request] -/
def slices_IndexFunc_api_Request_api_Request_Fadmit_Desk_Cancel_1_p_k1  : Option Int := some (-1)
def slices_IndexFunc_api_Request_api_Request_Fadmit_Desk_Cancel_1_p_b2 (p0 : List S_api_Request) (p1_0 : List Int) (v9 : Int) : Option (Int ⊕ (Lp Int Unit)) := cond (decide (v9 < (p0.length : Int))) ((getI p0 v9).bind fun x14 => (admit_Desk_Cancel_1_p x14 p1_0).bind fun x22 => cond x22 (some (.inr (.ret v9))) (some (.inl (IntKind.wrap .i64 (v9 + 1))))) (some (.inr (.brk ())))
def slices_IndexFunc_api_Request_api_Request_Fadmit_Desk_Cancel_1_p (p0 : List S_api_Request) (p1_0 : List Int) : Option Int := (loopO (fun s => slices_IndexFunc_api_Request_api_Request_Fadmit_Desk_Cancel_1_p_b2 p0 p1_0 s) 0).bind (fun | .ret r => some r | .brk _ => slices_IndexFunc_api_Request_api_Request_Fadmit_Desk_Cancel_1_p_k1 )
theorem slices_IndexFunc_api_Request_api_Request_Fadmit_Desk_Cancel_1_p_ok {F : Mem} {χ : List Chunk} {p0 : List S_api_Request} {p1_0 : List Int} {a_0 : Option Addr} {c_0 : Nat} (h_0 : RdL 3 R_api_Request (Mem.add F χ) a_0 c_0 p0) {b_1_0 o_1_0 : Nat} {cs_1_0 : List Value} (hc_1_0 : Cells (Mem.add F χ) b_1_0 o_1_0 cs_1_0) (h_1_0 : (RSl 1 (RInt .i64)) (Mem.add F χ) cs_1_0 p1_0) {r : Int} (hr : slices_IndexFunc_api_Request_api_Request_Fadmit_Desk_Cancel_1_p p0 p1_0 = some r) (Φ : List (List Chunk)) :
    CallsRet Try.prog 32 (List.toArray [.slice a_0 p0.length c_0, .func (.func 27) #[] #[.pointer (some ⟨b_1_0, o_1_0, none⟩)]]) (Mem.add F χ) Φ (fun v w => v = .int .i64 r ∧ Sat (Mem.add F χ) (Φ) w) := by
  obtain ⟨a1, c2, rfl, h3⟩ := h_1_0
  refine CallsRet.enter (rs := [.tmp 4]) Try.func32 rfl rfl rfl rfl ?_
  unfold slices_IndexFunc_api_Request_api_Request_Fadmit_Desk_Cancel_1_p at hr
  refine WC.then ?_
  refine WC.region [(0, true)] rfl ?_
  refine WO.assign rfl rfl rfl rfl ?_
  refine WO.done ?_
  refine At.seq_wc ?_
  refine WC.seq (fun a w => slices_IndexFunc_api_Request_api_Request_Fadmit_Desk_Cancel_1_p_k1  = some r ∧ Ctx 19 [] a ∧ Sat (Mem.add F χ) Φ w) ?_ ?_
  · refine WC.then ?_
    refine WC.region [(0, true), (1, true), (2, true)] rfl ?_
    refine WO.move rfl rfl rfl rfl ?_
    refine WO.len rfl rfl rfl rfl Try.underlying32 ?_
    refine WO.move rfl rfl rfl rfl ?_
    refine WO.done ?_
    refine At.seq_wc ?_
    obtain ⟨xl3, hl3, hk3⟩ := bind_some' hr
    refine WC.weaken (fun a w => .brk () = xl3 ∧ Ctx 19 [] a ∧ Sat (Mem.add F χ) Φ w) ?_ ?_
    · refine WC.block ?_
      refine WC.loop (fun (v9 : Int) a w => Ctx 19 [(0, .slice a_0 p0.length c_0), (1, .func (.func 27) #[] #[.pointer (some ⟨b_1_0, o_1_0, none⟩)]), (7, .int .i64 (p0.length : Int)), (8, .int .i64 v9)] a ∧ Sat (Mem.add F χ) Φ w) hl3 ?_ ?_
      · exact fun a w hc hs => ⟨(hc.keep (hc.keep (hc.keep (hc.keep hc.nil (t := 8) rfl) (t := 7) rfl) (t := 1) rfl) (t := 0) rfl), hs⟩
      · rintro v9 r3 hr a w ⟨hc, hs⟩
        refine WC.use hc hs ?_
        clear hc hs
        (try dsimp only at hr)
        unfold slices_IndexFunc_api_Request_api_Request_Fadmit_Desk_Cancel_1_p_b2 at hr
        refine WC.then ?_
        refine WC.region [(0, true)] rfl ?_
        refine WO.bin rfl rfl rfl rfl rfl rfl ?_
        refine WO.done ?_
        refine At.seq_wc ?_
        refine WC.then ?_
        refine WC.cond rfl (fun hb13 => ?_) (fun hb13 => ?_)
        · have hr := cond_t hb13 hr
          refine WC.skip ?_
          refine At.seq_wc ?_
          refine WC.then ?_
          refine WC.block ?_
          refine WC.then ?_
          refine WC.region [(0, true), (1, true)] rfl ?_
          refine WO.move rfl rfl rfl rfl ?_
          refine WO.assign rfl rfl rfl rfl ?_
          refine WO.done ?_
          refine At.seq_wc ?_
          refine WC.then ?_
          refine WC.region [(0, true), (1, true), (2, true), (3, true), (4, false), (5, false)] rfl ?_
          refine WO.move rfl rfl rfl rfl ?_
          refine WO.move rfl rfl rfl rfl ?_
          refine WO.move rfl rfl rfl rfl ?_
          obtain ⟨x14, hx15, hr⟩ := bind_some' hr
          refine WO.indexR h_0 hx15 rfl rfl rfl rfl rfl rfl Try.underlying32 sz_37 ?_
          rintro b16 o17 _ hc18 ⟨a19, c20, rfl, h21⟩
          refine WO.loadPAn 0 3 hc18 rfl rfl rfl rfl rfl ag_37 rfl rfl ?_
          obtain ⟨x22, hx23, hr⟩ := bind_some' hr
          refine WO.call rfl rfl rfl rfl rfl cl_27 (CallsRet.lay 1 0 1 [0] [] (by decide) (Mem.add F (List.flatten [χ])) (Φ) rfl rfl (admit_Desk_Cancel_1_p_ok (F := F) (χ := (List.flatten [χ])) ⟨_, _, rfl, (h21.mono (mono_int _) (Mem.le_gather (Mem.add F χ) 1))⟩ (hc_1_0.mono (Mem.le_gather (Mem.add F χ) 1)) ⟨_, _, rfl, (h3.mono (mono_int _) (Mem.le_gather (Mem.add F χ) 1))⟩ hx23 (Φ))) ?_
          rintro _ _ ⟨rfl, hs24⟩
          have hs24 := Sat.unlay F [χ] hs24
          have hs24 := (hs24.arrange 1 0 [0] [] (by decide))
          refine ⟨(Mem.add F χ), (Φ), hs24, trivial, ?_⟩
          refine WO.done ?_
          refine At.seq_wc ?_
          refine WC.cond rfl (fun hb25 => ?_) (fun hb25 => ?_)
          · have hr := cond_t hb25 hr
            refine WC.then ?_
            refine WC.region [(0, true), (1, true)] rfl ?_
            refine WO.move rfl rfl rfl rfl ?_
            refine WO.assign rfl rfl rfl rfl ?_
            refine WO.done ?_
            refine At.seq_wc ?_
            refine WC.ret ?_
            refine At.block_ret ?_
            refine At.seq_ret ?_
            refine At.round_ret hr (fun hy => ?_)
            subst hy
            have hr := hk3
            refine At.block_ret ?_
            refine At.seq_ret ?_
            refine At.seq_ret ?_
            obtain rfl := Option.some.inj hr
            exact At.ret (fun a w hc hs => (resVs_cons (hc.res rfl) resVs_nil)) (fun w hs => ⟨rfl, hs⟩)
          · have hr := cond_f hb25 hr
            refine WC.skip ?_
            refine At.block_normal ?_
            refine At.seq_wc ?_
            refine WC.region [(0, true), (1, true)] rfl ?_
            refine WO.bin rfl rfl rfl rfl rfl rfl ?_
            refine WO.move rfl rfl rfl rfl ?_
            refine WO.done ?_
            refine At.round_next hr ?_
            exact fun a w hc hs => ⟨(hc.keep (hc.keep (hc.keep (hc.keep hc.nil (t := 8) rfl) (t := 7) rfl) (t := 1) rfl) (t := 0) rfl), hs⟩
        · have hr := cond_f hb13 hr
          refine WC.exit ?_
          refine At.seq_exit ?_
          refine At.round_exit hr (fun hy => ?_)
          refine At.exit_block ?_
          refine At.seq_at ?_
          exact fun a w hc hs => ⟨hy, hc.nil, hs⟩
    · rintro a w ⟨rfl, hc, hs⟩
      refine At.use hc hs ?_
      clear hc hs
      (try dsimp only at hk3)
      have hr := hk3
      refine At.seq_at ?_
      exact fun a w hc hs => ⟨hr, hc.nil, hs⟩
  · rintro a w ⟨hr, hc, hs⟩
    refine WC.use hc hs ?_
    clear hc hs
    unfold slices_IndexFunc_api_Request_api_Request_Fadmit_Desk_Cancel_1_p_k1 at hr
    refine WC.then ?_
    refine WC.region [(0, true)] rfl ?_
    refine WO.assign rfl rfl rfl rfl ?_
    refine WO.done ?_
    refine At.seq_wc ?_
    refine WC.ret ?_
    obtain rfl := Option.some.inj hr
    exact At.ret (fun a w hc hs => (resVs_cons (hc.res rfl) resVs_nil)) (fun w hs => ⟨rfl, hs⟩)
end
end Go.Pel
