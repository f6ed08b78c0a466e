/- Each function: its pure text, and that it comes to it. -/
import Derived.Test.YtmkegcgnjaldpaaPelNest
import Derived.Test.YtmkegcgnjaldpaaProg
import Derived.Test.YtmkegcgnjaldpaaPelCsS
set_option linter.unusedVariables false
set_option maxHeartbeats 2000000
set_option maxRecDepth 20000
namespace Go.Pel
open Go.RowKit Go.Proofs
noncomputable section
structure S_api_Spot where
  Request : Int
  Layer : Int
  Place : Int
deriving DecidableEq
abbrev enc_api_Spot : S_api_Spot → Value := fun x => .agg (List.map (Value.int .i64) [x.Request, x.Layer, x.Place]).toArray
def R_api_Spot : Mem → List Value → S_api_Spot → Prop := fun F cs x => cs = [.int .i64 x.Request, .int .i64 x.Layer, .int .i64 x.Place]
theorem mono_api_Spot : Mono R_api_Spot := fun _ _ _ _ _ h => h
theorem const_api_Spot : Const R_api_Spot := fun _ _ _ _ h => h
structure S_law12_Act where
  Kind : Int
  At : S_api_Spot
  K : List Int
  V : List Int
def R_law12_Act : Mem → List Value → S_law12_Act → Prop := fun F cs x => ∃ a0 c0 a1 c1, cs = [.int .i64 x.Kind, .int .i64 x.At.Request, .int .i64 x.At.Layer, .int .i64 x.At.Place, .slice a0 x.K.length c0, .slice a1 x.V.length c1] ∧ RdL 1 (RInt .i8) F a0 c0 x.K ∧ RdL 1 (RInt .i8) F a1 c1 x.V
theorem mono_law12_Act : Mono R_law12_Act := fun _ _ _ _ hl ⟨a0, c0, a1, c1, e, h0, h1⟩ => ⟨a0, c0, a1, c1, e, h0.mono (mono_int _) hl, h1.mono (mono_int _) hl⟩
structure S_cache_rows where
  k_ : List Int
  v_ : List Int
def R_cache_rows : Mem → List Value → S_cache_rows → Prop := fun F cs x => ∃ a0 c0 a1 c1, cs = [.slice a0 x.k_.length c0, .slice a1 x.v_.length c1] ∧ RdL 1 (RInt .i8) F a0 c0 x.k_ ∧ RdL 1 (RInt .i8) F a1 c1 x.v_
theorem mono_cache_rows : Mono R_cache_rows := fun _ _ _ _ hl ⟨a0, c0, a1, c1, e, h0, h1⟩ => ⟨a0, c0, a1, c1, e, h0.mono (mono_int _) hl, h1.mono (mono_int _) hl⟩
structure S_cache_Store where
  room : Int
  m : List (S_api_Spot × S_cache_rows)
def RO_L31 : Mem → List Value → List Int → List Chunk → Prop := fun F cs x φ => ∃ a0 c0 f0, cs = [.slice a0 x.length c0] ∧ φ = List.flatten [f0] ∧ OwnL 1 (RInt .i8) F 45 a0 c0 x f0
theorem monoE_L31 : MonoE RO_L31 := fun _ _ _ _ _ hl ⟨a0, c0, f0, e1, e2, h0⟩ => ⟨a0, c0, f0, e1, e2, h0.mono (mono_int _) hl⟩
theorem constE_L31 : ConstE RO_L31 := fun _ _ _ _ _ ⟨a0, c0, f0, e1, e2, h0⟩ => ⟨a0, c0, f0, e1, e2, h0.re (const_int _)⟩
theorem cl_7 : callable Try.prog 7 = true := by kernel_rfl
theorem zb_30 : zeroB Try.prog 30 (.agg #[.int .i64 0, .int .i64 0, .int .i64 0]) := by unfold zeroB; kernel_rfl
theorem sz_30 : sizeB Try.prog 30 3 = true := by kernel_rfl
theorem ag_30 : aggB Try.prog 30 3 = true := by kernel_rfl
theorem cl_8 : callable Try.prog 8 = true := by kernel_rfl
theorem mixed : Try.prog.follows .mixedOrders = true := by kernel_rfl
theorem fl_62_1 : fieldB Try.prog 62 1 1 = true := by kernel_rfl
theorem sc_60 : scalarB Try.prog 60 = true := by kernel_rfl
theorem key_30 : KeyB Try.prog 30 enc_api_Spot := key_flat (fun x : S_api_Spot => [x.Request, x.Layer, x.Place]) (by kernel_rfl : flatB Try.prog 30 .i64 3 = true) Try.stoodInHeld30 (fun _ => rfl) (fun x y h => by cases x; cases y; simpa using h)
theorem zb_65 : zeroB Try.prog 65 (.agg #[.slice none 0 0, .slice none 0 0]) := by unfold zeroB; kernel_rfl
theorem sz_65 : sizeB Try.prog 65 2 = true := by kernel_rfl
theorem fl_30_0 : fieldB Try.prog 30 0 0 = true := by kernel_rfl
theorem sc_3 : scalarB Try.prog 3 = true := by kernel_rfl
theorem fl_30_1 : fieldB Try.prog 30 1 1 = true := by kernel_rfl
theorem fl_30_2 : fieldB Try.prog 30 2 2 = true := by kernel_rfl
theorem sz_3 : sizeB Try.prog 3 1 = true := by kernel_rfl
theorem cl_26 : callable Try.prog 26 = true := by kernel_rfl
theorem fl_65_0 : fieldB Try.prog 65 0 0 = true := by kernel_rfl
theorem sc_31 : scalarB Try.prog 31 = true := by kernel_rfl
theorem sz_45 : sizeB Try.prog 45 1 = true := by kernel_rfl
theorem sc_45 : scalarB Try.prog 45 = true := by kernel_rfl
theorem cl_27 : callable Try.prog 27 = true := by kernel_rfl
theorem fl_65_1 : fieldB Try.prog 65 1 1 = true := by kernel_rfl
theorem fl_62_0 : fieldB Try.prog 62 0 0 = true := by kernel_rfl
theorem el_45 : elemB Try.prog 45 1 1 = true := by kernel_rfl
theorem cl_28 : callable Try.prog 28 = true := by kernel_rfl
theorem cl_10 : callable Try.prog 10 = true := by kernel_rfl
theorem ag_65 : aggB Try.prog 65 2 = true := by kernel_rfl
theorem sc_46 : scalarB Try.prog 46 = true := by kernel_rfl
theorem cl_31 : callable Try.prog 31 = true := by kernel_rfl
theorem cl_25 : callable Try.prog 25 = true := by kernel_rfl
theorem cl_24 : callable Try.prog 24 = true := by kernel_rfl
theorem cl_23 : callable Try.prog 23 = true := by kernel_rfl
theorem cl_9 : callable Try.prog 9 = true := by kernel_rfl
theorem cl_6 : callable Try.prog 6 = true := by kernel_rfl
theorem sz_33 : sizeB Try.prog 33 6 = true := by kernel_rfl
theorem ag_33 : aggB Try.prog 33 6 = true := by kernel_rfl
theorem zb_33 : zeroB Try.prog 33 (.agg #[.int .i64 0, .int .i64 0, .int .i64 0, .int .i64 0, .slice none 0 0, .slice none 0 0]) := by unfold zeroB; kernel_rfl
theorem fl_33_2 : fieldB Try.prog 33 2 4 = true := by kernel_rfl
theorem fl_33_3 : fieldB Try.prog 33 3 5 = true := by kernel_rfl
theorem fl_33_0 : fieldB Try.prog 33 0 0 = true := by kernel_rfl
theorem fl_33_1 : fieldB Try.prog 33 1 1 = true := by kernel_rfl
theorem cl_13 : callable Try.prog 13 = true := by kernel_rfl
theorem cl_14 : callable Try.prog 14 = true := by kernel_rfl
theorem el_31 : elemB Try.prog 31 1 24 = true := by kernel_rfl
theorem cl_11 : callable Try.prog 11 = true := by kernel_rfl
theorem sz_31 : sizeB Try.prog 31 1 = true := by kernel_rfl
theorem key_3 : KeyB Try.prog 3 (fun x : Int => Value.int .i64 x) := key_int Try.underlying3
theorem cl_30 : callable Try.prog 30 = true := by kernel_rfl
theorem cl_29 : callable Try.prog 29 = true := by kernel_rfl
theorem cl_15 : callable Try.prog 15 = true := by kernel_rfl
/-! peloton/cache.New -/
def cache_New_k1 (p0 : Int) (v2 : Bool) : Option ((Option S_cache_Store) × Int) := cond v2 (some (none, 2)) (some ((some (⟨p0, ([] : List (S_api_Spot × S_cache_rows))⟩ : S_cache_Store)), 0))
def cache_New (p0 : Int) : Option ((Option S_cache_Store) × Int) := cond (decide (p0 < 0)) (cache_New_k1 p0 true) (cache_New_k1 p0 (decide (p0 > 1048576)))
theorem cache_New_ok {F : Mem} {p0 : Int} {r : (Option S_cache_Store) × Int} (hr : cache_New p0 = some r) (Φ : List (List Chunk)) :
    CallsRet Try.prog 7 (List.toArray [.int .i64 p0]) F Φ (fun v w => (r.1 = none ∧ v = .tuple (List.toArray [.pointer none, .int .i64 r.2]) ∧ Sat F (Φ) w) ∨ (∃ ob bp ap_1 ψp_1, r.1 = some ob ∧ v = .tuple (List.toArray [.pointer (some ⟨bp, 0, none⟩), .int .i64 r.2]) ∧ Sat F ([(bp, row [.int .i64 ob.room, .map (some ap_1)] 62)] :: ψp_1 :: Φ) w ∧ OwnM enc_api_Spot (RVA R_cache_rows) F ap_1 ob.m ψp_1)) := by
  refine CallsRet.enter (rs := [.tmp 2, .tmp 3]) Try.func7 rfl rfl rfl rfl ?_
  unfold cache_New at hr
  refine WC.then ?_
  refine WC.region [(0, true), (1, true)] rfl ?_
  refine WO.assign rfl rfl rfl rfl ?_
  refine WO.assign rfl rfl rfl rfl ?_
  refine WO.done ?_
  refine At.seq_wc ?_
  refine WC.then ?_
  refine WC.seq (fun a w => ∃ (v2 : Bool), cache_New_k1 p0 v2 = some r ∧ Ctx 14 [(0, .int .i64 p0), (9, .bool v2)] a ∧ Sat F Φ w) ?_ ?_
  · refine WC.region [(0, true), (1, true), (2, true), (3, true), (4, true), (5, true)] rfl ?_
    refine WO.move rfl rfl rfl rfl ?_
    refine WO.bin rfl rfl rfl rfl rfl rfl ?_
    refine WO.move rfl rfl rfl rfl ?_
    refine WO.split (t := 6) rfl (fun hg10 => ?_) (fun hg10 => ?_)
    · have hr := cond_t hg10 hr
      refine WO.skip rfl rfl rfl rfl ?_
      refine WO.skip rfl rfl rfl rfl ?_
      refine WO.pickT rfl rfl rfl rfl rfl ?_
      refine WO.done ?_
      refine At.seq_at ?_
      exact fun a w hc hs => ⟨true, hr, (hc.keep (hc.keep hc.nil (t := 9) rfl) (t := 0) rfl), hs⟩
    · have hr := cond_f hg10 hr
      refine WO.move rfl rfl rfl rfl ?_
      refine WO.bin rfl rfl rfl rfl rfl rfl ?_
      refine WO.pickF rfl rfl rfl rfl rfl ?_
      refine WO.done ?_
      refine At.seq_at ?_
      exact fun a w hc hs => ⟨(decide (p0 > 1048576)), hr, (hc.keep (hc.keep hc.nil (t := 9) rfl) (t := 0) rfl), hs⟩
  · rintro a w ⟨v2, hr, hc, hs⟩
    refine WC.use hc hs ?_
    clear hc hs
    unfold cache_New_k1 at hr
    refine WC.cond rfl (fun hb3 => ?_) (fun hb3 => ?_)
    · have hr := cond_t hb3 hr
      refine WC.then ?_
      refine WC.region [(0, true), (1, true)] rfl ?_
      refine WO.assign rfl rfl rfl rfl ?_
      refine WO.assign rfl rfl rfl rfl ?_
      refine WO.done ?_
      refine At.seq_wc ?_
      refine WC.ret ?_
      refine At.seq_ret ?_
      obtain rfl := Option.some.inj hr
      exact At.ret (fun a w hc hs => (resVs_cons (hc.res rfl) (resVs_cons (hc.res rfl) resVs_nil))) (fun w hs => .inl ⟨rfl, rfl, hs⟩)
    · have hr := cond_f hb3 hr
      refine WC.skip ?_
      refine At.seq_wc ?_
      refine WC.then ?_
      refine WC.region [(0, true), (1, false), (2, true), (3, false), (4, true), (5, true)] rfl ?_
      refine WO.move rfl rfl rfl rfl ?_
      refine WO.makeMap (F1 := F) (enc := enc_api_Spot) (RV := (RVA R_cache_rows)) rfl rfl rfl (fun _ _ _ => trivial) (fun b4 p6 hm7 => ?_)
      refine WO.build (vs := [.tmp 10, .tmp 11]) [0, 1] (.agg (List.toArray [.int .i64 p0, .map (some b4)])) rfl rfl rfl rfl rfl (fun _ => by kernel_rfl) ?_
      refine WO.box rfl rfl rfl rfl rfl (fun _ _ _ => trivial) (fun b8 => ?_)
      refine WO.assign rfl rfl rfl rfl ?_
      refine WO.assign rfl rfl rfl rfl ?_
      refine WO.done ?_
      refine At.seq_wc ?_
      refine WC.ret ?_
      obtain rfl := Option.some.inj hr
      exact At.ret (fun a w hc hs => (resVs_cons (hc.res rfl) (resVs_cons (hc.res rfl) resVs_nil))) (fun w hs => .inr ⟨_, _, _, _, rfl, rfl, hs, hm7⟩)
/-! peloton/pelotonlaw12.spot -/
def law12_spot (p0 : Int) (p1 : Int) (p2 : Int) : Option S_api_Spot := some (⟨p0, p1, p2⟩ : S_api_Spot)
theorem law12_spot_ok {F : Mem} {p0 : Int} {p1 : Int} {p2 : Int} {r : S_api_Spot} (hr : law12_spot p0 p1 p2 = some r) (Φ : List (List Chunk)) :
    CallsRet Try.prog 8 (List.toArray [.int .i64 p0, .int .i64 p1, .int .i64 p2]) F Φ (fun v w => ∃ cs0, v = .agg (List.toArray cs0) ∧ Sat F (Φ) w ∧ R_api_Spot F cs0 r) := by
  refine CallsRet.enter (rs := [.cell 6 30]) Try.func8 rfl rfl rfl rfl ?_
  unfold law12_spot at hr
  refine WC.then ?_
  refine WC.region [(0, false)] rfl ?_
  refine WO.alloc (.agg #[.int .i64 0, .int .i64 0, .int .i64 0]) rfl rfl rfl zb_30 rfl (fun _ _ _ => trivial) (fun b1 => ?_)
  refine WO.done ?_
  refine At.seq_wc ?_
  refine WC.then ?_
  refine WC.region [(0, true), (1, true), (2, true), (3, true), (4, false)] rfl ?_
  refine WO.move rfl rfl rfl rfl ?_
  refine WO.move rfl rfl rfl rfl ?_
  refine WO.move rfl rfl rfl rfl ?_
  refine WO.build (vs := [.tmp 7, .tmp 8, .tmp 9]) [0, 1, 2] (.agg (List.toArray [.int .i64 p0, .int .i64 p1, .int .i64 p2])) rfl rfl rfl rfl rfl (fun _ => by kernel_rfl) ?_
  refine WO.storeA 0 3 rfl rfl rfl rfl sz_30 rfl rfl rfl rfl (fun _ _ => trivial) ?_
  refine WO.done ?_
  refine At.seq_wc ?_
  refine WC.ret ?_
  obtain rfl := Option.some.inj hr
  exact At.ret (fun a w hc hs => (resVs_cons (hc.resA hs 0 rfl rfl ag_30 rfl) resVs_nil)) (fun w hs => ⟨_, rfl, (hs.arrange 0 1 [] [] (by decide)), rfl⟩)
/-! (*peloton/cache.Store).ahead -/
def cache_Store_ahead_vm (p0 : S_cache_Store) (p1 : S_api_Spot) : Option Bool := cond (p1.Place == 0) (some true) ((some (Option.getD (mget p0.m (⟨p1.Request, p1.Layer, (IntKind.wrap .i64 (p1.Place - 1))⟩ : S_api_Spot)) (⟨([] : List Int), ([] : List Int)⟩ : S_cache_rows))).bind fun x4 => some (Option.isSome (mget p0.m (⟨p1.Request, p1.Layer, (IntKind.wrap .i64 (p1.Place - 1))⟩ : S_api_Spot))))
theorem cache_Store_ahead_vm_ok {F : Mem} {p0 : S_cache_Store} {p1 : S_api_Spot} {b_0 : Nat} {bm_0_1 : Nat} {ψ_0_1 : List Chunk} (hm_0_1 : OwnM enc_api_Spot (RVA R_cache_rows) F bm_0_1 p0.m ψ_0_1) {cs_1 : List Value} (h_1 : R_api_Spot F cs_1 p1) {r : Bool} (hr : cache_Store_ahead_vm p0 p1 = some r) (Φ : List (List Chunk)) :
    CallsRet Try.prog 26 (List.toArray [.pointer (some ⟨b_0, 0, none⟩), .agg cs_1.toArray]) F ([(b_0, row [.int .i64 p0.room, .map (some bm_0_1)] 62)] :: ψ_0_1 :: Φ) (fun v w => v = .bool r ∧ Sat F ([(b_0, row [.int .i64 p0.room, .map (some bm_0_1)] 62)] :: ψ_0_1 :: Φ) w) := by
  obtain rfl := h_1
  refine CallsRet.enter (rs := [.tmp 4]) Try.func26 rfl rfl rfl rfl ?_
  unfold cache_Store_ahead_vm at hr
  refine WC.then ?_
  refine WC.region [(0, false), (1, true)] rfl ?_
  refine WO.box rfl rfl rfl rfl rfl (fun _ _ _ => trivial) (fun b1 => ?_)
  refine WO.assign rfl rfl rfl rfl ?_
  refine WO.done ?_
  refine At.seq_wc ?_
  refine WC.then ?_
  refine WC.then ?_
  refine WC.region [(0, true), (1, false), (2, true)] rfl ?_
  refine WO.fieldAddr 2 rfl rfl rfl rfl fl_30_2 ?_
  refine WO.load 0 rfl rfl rfl rfl sc_3 rfl rfl ?_
  refine WO.bin rfl rfl rfl rfl rfl rfl ?_
  refine WO.done ?_
  refine At.seq_wc ?_
  refine WC.cond rfl (fun hb3 => ?_) (fun hb3 => ?_)
  · have hr := cond_t hb3 hr
    refine WC.then ?_
    refine WC.region [(0, true)] rfl ?_
    refine WO.assign rfl rfl rfl rfl ?_
    refine WO.done ?_
    refine At.seq_wc ?_
    refine WC.ret ?_
    refine At.seq_ret ?_
    obtain rfl := Option.some.inj hr
    exact At.ret (fun a w hc hs => (resVs_cons (hc.res rfl) resVs_nil)) (fun w hs => ⟨rfl, (hs.arrange 0 3 [] [1, 2] (by decide))⟩)
  · have hr := cond_f hb3 hr
    refine WC.skip ?_
    refine At.seq_wc ?_
    refine WC.then ?_
    refine WC.region [(0, true), (1, false), (2, true), (3, true), (4, false)] rfl ?_
    refine WO.fieldAddr 2 rfl rfl rfl rfl fl_30_2 ?_
    refine WO.load 0 rfl rfl rfl rfl sc_3 rfl rfl ?_
    refine WO.bin rfl rfl rfl rfl rfl rfl ?_
    refine WO.fieldAddr 2 rfl rfl rfl rfl fl_30_2 ?_
    refine WO.store 0 rfl rfl rfl rfl sz_3 rfl rfl rfl (fun _ _ => trivial) ?_
    refine WO.done ?_
    refine At.seq_wc ?_
    refine WC.then ?_
    refine WC.draw (Sat F ([(b1, row [.int .i64 p1.Request, .int .i64 p1.Layer, .int .i64 (IntKind.wrap .i64 (p1.Place - 1))] 30)] :: [(b_0, row [.int .i64 p0.room, .map (some bm_0_1)] 62)] :: ψ_0_1 :: Φ)) (fun _ h => (h.arrange 0 3 [] [0, 1, 2] (by decide))) [(0, true), (1, true), (2, true), (3, true), (4, true), (5, true), (6, true), (7, true), (8, true), (9, false), (10, false), (11, true)] mixed (by kernel_rfl) rfl (by kernel_rfl) ?_
    refine WO.move rfl rfl rfl rfl ?_
    refine WO.nilCheck rfl rfl rfl rfl ?_
    refine WO.fieldAddr 1 rfl rfl rfl rfl fl_62_1 ?_
    refine WO.loadY 1 rfl rfl rfl rfl sc_60 rfl rfl ?_
    refine WO.loadAY 0 3 rfl rfl rfl rfl ag_30 rfl rfl rfl ?_
    obtain ⟨x4, hx5, hr⟩ := bind_some' hr
    have hx5 := Option.some.inj hx5
    refine WO.lookupY (q := (⟨p1.Request, p1.Layer, (IntKind.wrap .i64 (p1.Place - 1))⟩ : S_api_Spot)) (z' := (⟨([] : List Int), ([] : List Int)⟩ : S_cache_rows)) true 2 key_30 hm_0_1 rfl zb_65 ⟨_, rfl, ⟨_, _, _, _, rfl, RdL.nil, RdL.nil⟩⟩ rfl rfl rfl rfl rfl Try.underlying60 (fun v6 hv7 => ?_)
    rw [hx5] at hv7
    obtain ⟨cs8, rfl, hv7⟩ := hv7
    obtain ⟨a9, c10, a12, c13, rfl, h11, h14⟩ := hv7
    refine WO.move rfl rfl rfl rfl ?_
    refine WO.extract rfl rfl rfl rfl rfl ?_
    refine WO.extract rfl rfl rfl rfl rfl ?_
    refine WO.alloc (.agg #[.slice none 0 0, .slice none 0 0]) rfl rfl rfl zb_65 rfl (fun _ _ h => (h.arrange 0 4 [] [1, 2, 3] (by decide))) (fun b15 => ?_)
    refine WO.storeA 0 2 rfl rfl rfl rfl sz_65 rfl rfl rfl rfl (fun _ h => (h.arrange 0 4 [] [1, 2, 3] (by decide))) ?_
    refine WO.assign rfl rfl rfl rfl ?_
    refine WO.done ?_
    refine At.seq_wc ?_
    refine WC.then ?_
    refine WC.region [(0, true), (1, true)] rfl ?_
    refine WO.move rfl rfl rfl rfl ?_
    refine WO.assign rfl rfl rfl rfl ?_
    refine WO.done ?_
    refine At.seq_wc ?_
    refine WC.ret ?_
    obtain rfl := Option.some.inj hr
    exact At.ret (fun a w hc hs => (resVs_cons (hc.res rfl) resVs_nil)) (fun w hs => ⟨rfl, (hs.arrange 0 4 [] [2, 3] (by decide))⟩)
/-! slices.Equal[[]int8,int8] -/
def slices_Equal_int8_int8_k1  : Option Bool := some true
def slices_Equal_int8_int8_b2 (p0 : List Int) (p1 : List Int) (v7 : Int) : Option (Int ⊕ (Lp Bool Unit)) := cond (decide (v7 < (p0.length : Int))) ((getI p0 v7).bind fun x12 => (getI p1 v7).bind fun x17 => cond (x12 != x17) (some (.inr (.ret false))) (some (.inl (IntKind.wrap .i64 (v7 + 1))))) (some (.inr (.brk ())))
def slices_Equal_int8_int8 (p0 : List Int) (p1 : List Int) : Option Bool := cond ((p0.length : Int) != (p1.length : Int)) (some false) ((loopO (fun s => slices_Equal_int8_int8_b2 p0 p1 s) 0).bind (fun | .ret r => some r | .brk _ => slices_Equal_int8_int8_k1 ))
theorem slices_Equal_int8_int8_ok {F : Mem} {χ : List Chunk} {p0 : List Int} {p1 : List Int} {a_0 : Option Addr} {c_0 : Nat} (h_0 : RdL 1 (RInt .i8) (Mem.add F χ) a_0 c_0 p0) {a_1 : Option Addr} {c_1 : Nat} (h_1 : RdL 1 (RInt .i8) (Mem.add F χ) a_1 c_1 p1) {r : Bool} (hr : slices_Equal_int8_int8 p0 p1 = some r) (Φ : List (List Chunk)) :
    CallsRet Try.prog 27 (List.toArray [.slice a_0 p0.length c_0, .slice a_1 p1.length c_1]) (Mem.add F χ) Φ (fun v w => v = .bool r ∧ Sat (Mem.add F χ) (Φ) w) := by
  refine CallsRet.enter (rs := [.tmp 4]) Try.func27 rfl rfl rfl rfl ?_
  unfold slices_Equal_int8_int8 at hr
  refine WC.then ?_
  refine WC.region [(0, true)] rfl ?_
  refine WO.assign rfl rfl rfl rfl ?_
  refine WO.done ?_
  refine At.seq_wc ?_
  refine WC.then ?_
  refine WC.then ?_
  refine WC.region [(0, true), (1, true), (2, true), (3, true), (4, true)] rfl ?_
  refine WO.move rfl rfl rfl rfl ?_
  refine WO.len rfl rfl rfl rfl Try.underlying31 ?_
  refine WO.move rfl rfl rfl rfl ?_
  refine WO.len rfl rfl rfl rfl Try.underlying31 ?_
  refine WO.bin rfl rfl rfl rfl rfl rfl ?_
  refine WO.done ?_
  refine At.seq_wc ?_
  refine WC.cond rfl (fun hb1 => ?_) (fun hb1 => ?_)
  · have hr := cond_t hb1 hr
    refine WC.then ?_
    refine WC.region [(0, true)] rfl ?_
    refine WO.assign rfl rfl rfl rfl ?_
    refine WO.done ?_
    refine At.seq_wc ?_
    refine WC.ret ?_
    refine At.seq_ret ?_
    obtain rfl := Option.some.inj hr
    exact At.ret (fun a w hc hs => (resVs_cons (hc.res rfl) resVs_nil)) (fun w hs => ⟨rfl, hs⟩)
  · have hr := cond_f hb1 hr
    refine WC.skip ?_
    refine At.seq_wc ?_
    refine WC.seq (fun a w => slices_Equal_int8_int8_k1  = some r ∧ Ctx 26 [] a ∧ Sat (Mem.add F χ) Φ w) ?_ ?_
    · refine WC.then ?_
      refine WC.region [(0, true), (1, true), (2, true)] rfl ?_
      refine WO.move rfl rfl rfl rfl ?_
      refine WO.len rfl rfl rfl rfl Try.underlying31 ?_
      refine WO.move rfl rfl rfl rfl ?_
      refine WO.done ?_
      refine At.seq_wc ?_
      obtain ⟨xl3, hl3, hk3⟩ := bind_some' hr
      refine WC.weaken (fun a w => .brk () = xl3 ∧ Ctx 26 [] a ∧ Sat (Mem.add F χ) Φ w) ?_ ?_
      · refine WC.block ?_
        refine WC.loop (fun (v7 : Int) a w => Ctx 26 [(0, .slice a_0 p0.length c_0), (1, .slice a_1 p1.length c_1), (12, .int .i64 (p0.length : Int)), (13, .int .i64 v7)] a ∧ Sat (Mem.add F χ) Φ w) hl3 ?_ ?_
        · exact fun a w hc hs => ⟨(hc.keep (hc.keep (hc.keep (hc.keep hc.nil (t := 13) rfl) (t := 12) rfl) (t := 1) rfl) (t := 0) rfl), hs⟩
        · rintro v7 r3 hr a w ⟨hc, hs⟩
          refine WC.use hc hs ?_
          clear hc hs
          (try dsimp only at hr)
          unfold slices_Equal_int8_int8_b2 at hr
          refine WC.then ?_
          refine WC.region [(0, true)] rfl ?_
          refine WO.bin rfl rfl rfl rfl rfl rfl ?_
          refine WO.done ?_
          refine At.seq_wc ?_
          refine WC.then ?_
          refine WC.cond rfl (fun hb11 => ?_) (fun hb11 => ?_)
          · have hr := cond_t hb11 hr
            refine WC.skip ?_
            refine At.seq_wc ?_
            refine WC.then ?_
            refine WC.block ?_
            refine WC.then ?_
            refine WC.region [(0, true), (1, true)] rfl ?_
            refine WO.move rfl rfl rfl rfl ?_
            refine WO.assign rfl rfl rfl rfl ?_
            refine WO.done ?_
            refine At.seq_wc ?_
            refine WC.then ?_
            refine WC.draw (Sat (Mem.add F χ) (Φ)) (fun _ h => (h.arrange 1 0 [0] [] (by decide))) [(0, true), (1, true), (2, true), (3, true), (4, true), (5, true), (6, true), (7, true), (8, true)] mixed (by kernel_rfl) rfl (by kernel_rfl) ?_
            refine WO.move rfl rfl rfl rfl ?_
            refine WO.move rfl rfl rfl rfl ?_
            obtain ⟨x12, hx13, hr⟩ := bind_some' hr
            refine WO.indexR h_0 hx13 rfl rfl rfl rfl rfl rfl Try.underlying31 sz_45 ?_
            rintro b14 o15 _ hc16 rfl
            refine WO.loadP 0 hc16 rfl rfl rfl rfl rfl sc_45 rfl ?_
            refine WO.move rfl rfl rfl rfl ?_
            refine WO.move rfl rfl rfl rfl ?_
            obtain ⟨x17, hx18, hr⟩ := bind_some' hr
            refine WO.indexR h_1 hx18 rfl rfl rfl rfl rfl rfl Try.underlying31 sz_45 ?_
            rintro b19 o20 _ hc21 rfl
            refine WO.loadP 0 hc21 rfl rfl rfl rfl rfl sc_45 rfl ?_
            refine WO.bin rfl rfl rfl rfl rfl rfl ?_
            refine WO.done ?_
            refine At.seq_wc ?_
            refine WC.cond rfl (fun hb22 => ?_) (fun hb22 => ?_)
            · have hr := cond_t hb22 hr
              refine WC.then ?_
              refine WC.region [(0, true)] rfl ?_
              refine WO.assign rfl rfl rfl rfl ?_
              refine WO.done ?_
              refine At.seq_wc ?_
              refine WC.ret ?_
              refine At.block_ret ?_
              refine At.seq_ret ?_
              refine At.round_ret hr (fun hy => ?_)
              subst hy
              have hr := hk3
              refine At.block_ret ?_
              refine At.seq_ret ?_
              refine At.seq_ret ?_
              obtain rfl := Option.some.inj hr
              exact At.ret (fun a w hc hs => (resVs_cons (hc.res rfl) resVs_nil)) (fun w hs => ⟨rfl, hs⟩)
            · have hr := cond_f hb22 hr
              refine WC.skip ?_
              refine At.block_normal ?_
              refine At.seq_wc ?_
              refine WC.region [(0, true), (1, true)] rfl ?_
              refine WO.bin rfl rfl rfl rfl rfl rfl ?_
              refine WO.move rfl rfl rfl rfl ?_
              refine WO.done ?_
              refine At.round_next hr ?_
              exact fun a w hc hs => ⟨(hc.keep (hc.keep (hc.keep (hc.keep hc.nil (t := 13) rfl) (t := 12) rfl) (t := 1) rfl) (t := 0) rfl), hs⟩
          · have hr := cond_f hb11 hr
            refine WC.exit ?_
            refine At.seq_exit ?_
            refine At.round_exit hr (fun hy => ?_)
            refine At.exit_block ?_
            refine At.seq_at ?_
            exact fun a w hc hs => ⟨hy, hc.nil, hs⟩
      · rintro a w ⟨rfl, hc, hs⟩
        refine At.use hc hs ?_
        clear hc hs
        (try dsimp only at hk3)
        have hr := hk3
        refine At.seq_at ?_
        exact fun a w hc hs => ⟨hr, hc.nil, hs⟩
    · rintro a w ⟨hr, hc, hs⟩
      refine WC.use hc hs ?_
      clear hc hs
      unfold slices_Equal_int8_int8_k1 at hr
      refine WC.then ?_
      refine WC.region [(0, true)] rfl ?_
      refine WO.assign rfl rfl rfl rfl ?_
      refine WO.done ?_
      refine At.seq_wc ?_
      refine WC.ret ?_
      obtain rfl := Option.some.inj hr
      exact At.ret (fun a w hc hs => (resVs_cons (hc.res rfl) resVs_nil)) (fun w hs => ⟨rfl, hs⟩)
/-! slices.Clone[[]int8,int8] -/
def slices_Clone_int8_int8 (p0 : List Int) : Option (List Int) := (app ([] : List Int) p0).bind fun x6 => some x6
theorem slices_Clone_int8_int8_ok {F : Mem} {χ : List Chunk} {p0 : List Int} {a_0 : Option Addr} {c_0 : Nat} (h_0 : RdL 1 (RInt .i8) (Mem.add F χ) a_0 c_0 p0) {r : (List Int)} (hr : slices_Clone_int8_int8 p0 = some r) (Φ : List (List Chunk)) :
    CallsRet Try.prog 28 (List.toArray [.slice a_0 p0.length c_0]) (Mem.add F χ) Φ (fun v w => ∃ a0 c0 ψ0, v = .slice a0 r.length c0 ∧ Sat (Mem.add F χ) (ψ0 :: Φ) w ∧ OwnL 1 (RInt .i8) F 45 a0 c0 r ψ0) := by
  refine CallsRet.enter (rs := [.tmp 2]) Try.func28 rfl rfl rfl rfl ?_
  unfold slices_Clone_int8_int8 at hr
  refine WC.then ?_
  refine WC.region [(0, true)] rfl ?_
  refine WO.assign rfl rfl rfl rfl ?_
  refine WO.done ?_
  refine At.seq_wc ?_
  refine WC.then ?_
  refine WC.then ?_
  refine WC.region [(0, true), (1, true)] rfl ?_
  refine WO.move rfl rfl rfl rfl ?_
  refine WO.slNil rfl rfl rfl rfl rfl Try.underlying31 ?_
  rcases a_0 with _ | ad1
  · have z14 := RdL.ofNone h_0
    subst z14
    have hr : some ([] : List Int) = some r := by first | exact hr | simpa [app, lim] using hr
    refine WO.done ?_
    refine At.seq_wc ?_
    refine WC.condT rfl ?_
    refine WC.then ?_
    refine WC.region [(0, true)] rfl ?_
    refine WO.assign rfl rfl rfl rfl ?_
    refine WO.done ?_
    refine At.seq_wc ?_
    refine WC.ret ?_
    refine At.seq_ret ?_
    refine At.empty ?_
    have ho13 : OwnL 1 (RInt .i8) F 45 none 0 ([] : List Int) [] := OwnL.nil
    obtain rfl := Option.some.inj hr
    exact At.ret (fun a w hc hs => (resVs_cons (hc.res rfl) resVs_nil)) (fun w hs => ⟨_, _, _, rfl, hs, (OwnL.re (G := F) (const_int _) ho13)⟩)
  · refine WO.done ?_
    refine At.seq_wc ?_
    refine WC.condF rfl ?_
    refine WC.skip ?_
    refine At.seq_wc ?_
    refine WC.then ?_
    refine WC.region [(0, false), (1, true), (2, false), (3, true)] rfl ?_
    refine WO.buildSl (e := 45) (vs := []) [] [] rfl rfl rfl rfl rfl (fun _ => by kernel_rfl) (fun _ _ _ => trivial) (fun b2 => ?_)
    refine WO.move rfl rfl rfl rfl ?_
    have ho4 : OwnL 1 (RInt .i8) F 45 (some ⟨b2, 0, none⟩) 0 ([] : List Int) [(b2, row [] 45)] := ⟨Nat.le_refl _, .inr ⟨_, [], [], rfl, rfl, Rs.nil, rfl⟩⟩
    obtain ⟨x6, hx7, hr⟩ := bind_some' hr
    refine WO.append 0 (OwnL.re (G := (Mem.add F χ)) (const_int _) ho4) rfl (SrcL.ofRd Try.underlying31 h_0 (Mem.le_refl _)) hx7 rfl rfl rfl rfl rfl rfl Try.underlying31 el_45 (fun _ _ _ => trivial) (fun a8 c9 p10 ho11 => ?_)
    refine WO.assign rfl rfl rfl rfl ?_
    refine WO.done ?_
    refine At.seq_wc ?_
    refine WC.ret ?_
    obtain rfl := Option.some.inj hr
    exact At.ret (fun a w hc hs => (resVs_cons (hc.res rfl) resVs_nil)) (fun w hs => ⟨_, _, _, rfl, hs, (OwnL.re (G := F) (const_int _) ho11)⟩)
/-! (*peloton/cache.Store).Put -/
def cache_Store_Put_vm_k2 (p0 : S_cache_Store) (p1 : S_api_Spot) (p2 : List Int) (p3 : List Int) (v25 : Bool) : Option (Int × S_cache_Store) := cond v25 (some (0, p0)) (cond (Option.isSome (mget p0.m p1)) (some (2, p0)) (cond (decide (((p0.m).length : Int) ≥ p0.room)) (some (80, p0)) ((slices_Clone_int8_int8 p2).bind fun x29 => (slices_Clone_int8_int8 p3).bind fun x37 => some (0, (⟨p0.room, (mput p0.m p1 (⟨x29, x37⟩ : S_cache_rows))⟩ : S_cache_Store)))))
def cache_Store_Put_vm_k1 (p0 : S_cache_Store) (p1 : S_api_Spot) (p2 : List Int) (p3 : List Int) (x3 : S_cache_rows) (v17 : Bool) : Option (Int × S_cache_Store) := cond v17 (some (2, p0)) (cond ((p2.length : Int) != (p3.length : Int)) (some (30, p0)) ((cache_Store_ahead_vm p0 p1).bind fun x20 => cond (!x20) (some (120, p0)) (cond (Option.isSome (mget p0.m p1)) ((slices_Equal_int8_int8 x3.k_ p2).bind fun x50 => cond x50 ((slices_Equal_int8_int8 x3.v_ p3).bind fun x54 => cache_Store_Put_vm_k2 p0 p1 p2 p3 x54) (cache_Store_Put_vm_k2 p0 p1 p2 p3 false)) (cache_Store_Put_vm_k2 p0 p1 p2 p3 false))))
def cache_Store_Put_vm (p0 : S_cache_Store) (p1 : S_api_Spot) (p2 : List Int) (p3 : List Int) : Option (Int × S_cache_Store) := (some (Option.getD (mget p0.m p1) (⟨([] : List Int), ([] : List Int)⟩ : S_cache_rows))).bind fun x3 => cond (decide (p1.Request < 0)) (cache_Store_Put_vm_k1 p0 p1 p2 p3 x3 true) (cond (decide (p1.Layer < 0)) (cache_Store_Put_vm_k1 p0 p1 p2 p3 x3 true) (cache_Store_Put_vm_k1 p0 p1 p2 p3 x3 (decide (p1.Place < 0))))
theorem cache_Store_Put_vm_ok {F : Mem} {χ : List Chunk} {p0 : S_cache_Store} {p1 : S_api_Spot} {p2 : List Int} {p3 : List Int} {b_0 : Nat} {bm_0_1 : Nat} {ψ_0_1 : List Chunk} (hm_0_1 : OwnM enc_api_Spot (RVA R_cache_rows) F bm_0_1 p0.m ψ_0_1) {cs_1 : List Value} (h_1 : R_api_Spot F cs_1 p1) {a_2 : Option Addr} {c_2 : Nat} (h_2 : RdL 1 (RInt .i8) (Mem.add F χ) a_2 c_2 p2) {a_3 : Option Addr} {c_3 : Nat} (h_3 : RdL 1 (RInt .i8) (Mem.add F χ) a_3 c_3 p3) {r : Int × S_cache_Store} (hr : cache_Store_Put_vm p0 p1 p2 p3 = some r) (Φ : List (List Chunk)) :
    CallsRet Try.prog 10 (List.toArray [.pointer (some ⟨b_0, 0, none⟩), .agg cs_1.toArray, .slice a_2 p2.length c_2, .slice a_3 p3.length c_3]) (Mem.add F χ) ([(b_0, row [.int .i64 p0.room, .map (some bm_0_1)] 62)] :: ψ_0_1 :: Φ) (fun v w => ∃ ψm bm0_1 ψ0_1, v = .int .i64 r.1 ∧ Sat (Mem.add (Mem.add F χ) ψm) ([(b_0, row [.int .i64 r.2.room, .map (some bm0_1)] 62)] :: ψ0_1 :: Φ) w ∧ OwnM enc_api_Spot (RVA R_cache_rows) (Mem.add F ψm) bm0_1 r.2.m ψ0_1) := by
  obtain rfl := h_1
  refine CallsRet.enter (rs := [.tmp 8]) Try.func10 rfl rfl rfl rfl ?_
  unfold cache_Store_Put_vm at hr
  refine WC.then ?_
  refine WC.region [(0, false), (1, true)] rfl ?_
  refine WO.box rfl rfl rfl rfl rfl (fun _ _ _ => trivial) (fun b1 => ?_)
  refine WO.assign rfl rfl rfl rfl ?_
  refine WO.done ?_
  refine At.seq_wc ?_
  refine WC.then ?_
  refine WC.draw (Sat (Mem.add F χ) ([(b1, row [.int .i64 p1.Request, .int .i64 p1.Layer, .int .i64 p1.Place] 30)] :: [(b_0, row [.int .i64 p0.room, .map (some bm_0_1)] 62)] :: ψ_0_1 :: Φ)) (fun _ h => (h.arrange 1 3 [0] [1, 2, 3] (by decide))) [(0, true), (1, true), (2, true), (3, true), (4, true), (5, true), (6, true), (7, true), (8, true), (9, false), (10, false), (11, true)] mixed (by kernel_rfl) rfl (by kernel_rfl) ?_
  refine WO.move rfl rfl rfl rfl ?_
  refine WO.nilCheck rfl rfl rfl rfl ?_
  refine WO.fieldAddr 1 rfl rfl rfl rfl fl_62_1 ?_
  refine WO.loadY 1 rfl rfl rfl rfl sc_60 rfl rfl ?_
  refine WO.loadAY 0 3 rfl rfl rfl rfl ag_30 rfl rfl rfl ?_
  obtain ⟨x3, hx4, hr⟩ := bind_some' hr
  have hx4 := Option.some.inj hx4
  refine WO.lookupY (q := p1) (z' := (⟨([] : List Int), ([] : List Int)⟩ : S_cache_rows)) true 2 key_30 hm_0_1 rfl zb_65 ⟨_, rfl, ⟨_, _, _, _, rfl, RdL.nil, RdL.nil⟩⟩ rfl rfl rfl rfl rfl Try.underlying60 (fun v5 hv6 => ?_)
  rw [hx4] at hv6
  obtain ⟨cs7, rfl, hv6⟩ := hv6
  obtain ⟨a8, c9, a11, c12, rfl, h10, h13⟩ := hv6
  refine WO.move rfl rfl rfl rfl ?_
  refine WO.extract rfl rfl rfl rfl rfl ?_
  refine WO.extract rfl rfl rfl rfl rfl ?_
  refine WO.alloc (.agg #[.slice none 0 0, .slice none 0 0]) rfl rfl rfl zb_65 rfl (fun _ _ h => (h.arrange 1 4 [0] [2, 3, 4] (by decide))) (fun b14 => ?_)
  refine WO.storeA 0 2 rfl rfl rfl rfl sz_65 rfl rfl rfl rfl (fun _ h => (h.arrange 1 4 [0] [2, 3, 4] (by decide))) ?_
  refine WO.assign rfl rfl rfl rfl ?_
  refine WO.done ?_
  refine At.seq_wc ?_
  refine WC.then ?_
  refine WC.block ?_
  refine WC.seq (fun a w => ∃ (v17 : Bool), cache_Store_Put_vm_k1 p0 p1 p2 p3 x3 v17 = some r ∧ Ctx 82 [(0, .pointer (some ⟨b_0, 0, none⟩)), (2, .slice a_2 p2.length c_2), (3, .slice a_3 p3.length c_3), (5, .pointer (some ⟨b1, 0, none⟩)), (9, .pointer (some ⟨b14, 0, none⟩)), (10, .bool (Option.isSome (mget p0.m p1))), (20, .bool v17)] a ∧ Sat (Mem.add F χ) ([(b14, row [.slice a8 x3.k_.length c9, .slice a11 x3.v_.length c12] 65)] :: [(b1, row [.int .i64 p1.Request, .int .i64 p1.Layer, .int .i64 p1.Place] 30)] :: [(b_0, row [.int .i64 p0.room, .map (some bm_0_1)] 62)] :: ψ_0_1 :: Φ) w) ?_ ?_
  · refine WC.region [(0, true), (1, false), (2, true), (3, true), (4, true), (5, false), (6, true), (7, true), (8, true), (9, true), (10, false), (11, true), (12, true), (13, true)] rfl ?_
    refine WO.fieldAddr 0 rfl rfl rfl rfl fl_30_0 ?_
    refine WO.load 1 rfl rfl rfl rfl sc_3 rfl rfl ?_
    refine WO.bin rfl rfl rfl rfl rfl rfl ?_
    refine WO.move rfl rfl rfl rfl ?_
    refine WO.split (t := 24) rfl (fun hg57 => ?_) (fun hg57 => ?_)
    · have hr := cond_t hg57 hr
      refine WO.skip rfl rfl rfl rfl ?_
      refine WO.skipF rfl rfl rfl rfl ?_
      refine WO.skip rfl rfl rfl rfl ?_
      refine WO.pickT rfl rfl rfl rfl rfl ?_
      refine WO.move rfl rfl rfl rfl ?_
      refine WO.skip rfl rfl rfl rfl ?_
      refine WO.skipF rfl rfl rfl rfl ?_
      refine WO.skip rfl rfl rfl rfl ?_
      refine WO.pickT rfl rfl rfl rfl rfl ?_
      refine WO.assign rfl rfl rfl rfl ?_
      refine WO.done ?_
      refine At.seq_at ?_
      exact fun a w hc hs => ⟨true, hr, (hc.keep (hc.keep (hc.keep (hc.keep (hc.keep (hc.keep (hc.keep hc.nil (t := 20) rfl) (t := 10) rfl) (t := 9) rfl) (t := 5) rfl) (t := 3) rfl) (t := 2) rfl) (t := 0) rfl), hs⟩
    · have hr := cond_f hg57 hr
      refine WO.fieldAddr 1 rfl rfl rfl rfl fl_30_1 ?_
      refine WO.load 1 rfl rfl rfl rfl sc_3 rfl rfl ?_
      refine WO.bin rfl rfl rfl rfl rfl rfl ?_
      refine WO.pickF rfl rfl rfl rfl rfl ?_
      refine WO.move rfl rfl rfl rfl ?_
      refine WO.split (t := 29) rfl (fun hg58 => ?_) (fun hg58 => ?_)
      · have hr := cond_t hg58 hr
        refine WO.skip rfl rfl rfl rfl ?_
        refine WO.skipF rfl rfl rfl rfl ?_
        refine WO.skip rfl rfl rfl rfl ?_
        refine WO.pickT rfl rfl rfl rfl rfl ?_
        refine WO.assign rfl rfl rfl rfl ?_
        refine WO.done ?_
        refine At.seq_at ?_
        exact fun a w hc hs => ⟨true, hr, (hc.keep (hc.keep (hc.keep (hc.keep (hc.keep (hc.keep (hc.keep hc.nil (t := 20) rfl) (t := 10) rfl) (t := 9) rfl) (t := 5) rfl) (t := 3) rfl) (t := 2) rfl) (t := 0) rfl), hs⟩
      · have hr := cond_f hg58 hr
        refine WO.fieldAddr 2 rfl rfl rfl rfl fl_30_2 ?_
        refine WO.load 1 rfl rfl rfl rfl sc_3 rfl rfl ?_
        refine WO.bin rfl rfl rfl rfl rfl rfl ?_
        refine WO.pickF rfl rfl rfl rfl rfl ?_
        refine WO.assign rfl rfl rfl rfl ?_
        refine WO.done ?_
        refine At.seq_at ?_
        exact fun a w hc hs => ⟨(decide (p1.Place < 0)), hr, (hc.keep (hc.keep (hc.keep (hc.keep (hc.keep (hc.keep (hc.keep hc.nil (t := 20) rfl) (t := 10) rfl) (t := 9) rfl) (t := 5) rfl) (t := 3) rfl) (t := 2) rfl) (t := 0) rfl), hs⟩
  · rintro a w ⟨v17, hr, hc, hs⟩
    refine WC.use hc hs ?_
    clear hc hs
    unfold cache_Store_Put_vm_k1 at hr
    refine WC.cond rfl (fun hb18 => ?_) (fun hb18 => ?_)
    · have hr := cond_t hb18 hr
      refine WC.then ?_
      refine WC.region [(0, true)] rfl ?_
      refine WO.assign rfl rfl rfl rfl ?_
      refine WO.done ?_
      refine At.seq_wc ?_
      refine WC.ret ?_
      refine At.block_ret ?_
      refine At.seq_ret ?_
      obtain rfl := Option.some.inj hr
      exact At.ret (fun a w hc hs => (resVs_cons (hc.res rfl) resVs_nil)) (fun w hs => ⟨(List.flatten []), _, _, rfl, ((hs.arrange 1 4 [0] [3, 4] (by decide)).gather 0), (hm_0_1.mono (monoVA mono_cache_rows) (Mem.le_gather F 0))⟩)
    · have hr := cond_f hb18 hr
      refine WC.then ?_
      refine WC.region [(0, true), (1, true), (2, true), (3, true), (4, true), (5, true)] rfl ?_
      refine WO.move rfl rfl rfl rfl ?_
      refine WO.len rfl rfl rfl rfl Try.underlying31 ?_
      refine WO.move rfl rfl rfl rfl ?_
      refine WO.len rfl rfl rfl rfl Try.underlying31 ?_
      refine WO.bin rfl rfl rfl rfl rfl rfl ?_
      refine WO.assign rfl rfl rfl rfl ?_
      refine WO.done ?_
      refine At.seq_wc ?_
      refine WC.cond rfl (fun hb19 => ?_) (fun hb19 => ?_)
      · have hr := cond_t hb19 hr
        refine WC.then ?_
        refine WC.region [(0, true)] rfl ?_
        refine WO.assign rfl rfl rfl rfl ?_
        refine WO.done ?_
        refine At.seq_wc ?_
        refine WC.ret ?_
        refine At.block_ret ?_
        refine At.seq_ret ?_
        obtain rfl := Option.some.inj hr
        exact At.ret (fun a w hc hs => (resVs_cons (hc.res rfl) resVs_nil)) (fun w hs => ⟨(List.flatten []), _, _, rfl, ((hs.arrange 1 4 [0] [3, 4] (by decide)).gather 0), (hm_0_1.mono (monoVA mono_cache_rows) (Mem.le_gather F 0))⟩)
      · have hr := cond_f hb19 hr
        refine WC.then ?_
        refine WC.region [(0, true), (1, false), (2, false), (3, true), (4, true)] rfl ?_
        refine WO.move rfl rfl rfl rfl ?_
        refine WO.loadA 1 3 rfl rfl rfl rfl ag_30 rfl rfl rfl ?_
        obtain ⟨x20, hx21, hr⟩ := bind_some' hr
        refine WO.call rfl rfl rfl rfl rfl cl_26 (CallsRet.lay0 1 4 [] [3, 4, 0, 1, 2] (by decide) F ([(b_0, row [.int .i64 p0.room, .map (some bm_0_1)] 62)] :: ψ_0_1 :: χ :: [(b14, row [.slice a8 x3.k_.length c9, .slice a11 x3.v_.length c12] 65)] :: [(b1, row [.int .i64 p1.Request, .int .i64 p1.Layer, .int .i64 p1.Place] 30)] :: Φ) rfl rfl (cache_Store_ahead_vm_ok (F := F) hm_0_1 rfl hx21 (χ :: [(b14, row [.slice a8 x3.k_.length c9, .slice a11 x3.v_.length c12] 65)] :: [(b1, row [.int .i64 p1.Request, .int .i64 p1.Layer, .int .i64 p1.Place] 30)] :: Φ))) ?_
        rintro _ _ ⟨rfl, hs22⟩
        have hs22 := (hs22.arrange 0 5 [2] [3, 4, 0, 1] (by decide))
        refine ⟨(Mem.add F χ), ([(b14, row [.slice a8 x3.k_.length c9, .slice a11 x3.v_.length c12] 65)] :: [(b1, row [.int .i64 p1.Request, .int .i64 p1.Layer, .int .i64 p1.Place] 30)] :: [(b_0, row [.int .i64 p0.room, .map (some bm_0_1)] 62)] :: ψ_0_1 :: Φ), hs22, trivial, ?_⟩
        refine WO.un rfl rfl rfl rfl rfl ?_
        refine WO.assign rfl rfl rfl rfl ?_
        refine WO.done ?_
        refine At.seq_wc ?_
        refine WC.cond rfl (fun hb23 => ?_) (fun hb23 => ?_)
        · have hr := cond_t hb23 hr
          refine WC.then ?_
          refine WC.region [(0, true)] rfl ?_
          refine WO.assign rfl rfl rfl rfl ?_
          refine WO.done ?_
          refine At.seq_wc ?_
          refine WC.ret ?_
          refine At.block_ret ?_
          refine At.seq_ret ?_
          obtain rfl := Option.some.inj hr
          exact At.ret (fun a w hc hs => (resVs_cons (hc.res rfl) resVs_nil)) (fun w hs => ⟨(List.flatten []), _, _, rfl, ((hs.arrange 1 4 [0] [3, 4] (by decide)).gather 0), (hm_0_1.mono (monoVA mono_cache_rows) (Mem.le_gather F 0))⟩)
        · have hr := cond_f hb23 hr
          refine WC.seq (fun a w => ∃ (v25 : Bool), cache_Store_Put_vm_k2 p0 p1 p2 p3 v25 = some r ∧ Ctx 82 [(0, .pointer (some ⟨b_0, 0, none⟩)), (2, .slice a_2 p2.length c_2), (3, .slice a_3 p3.length c_3), (5, .pointer (some ⟨b1, 0, none⟩)), (10, .bool (Option.isSome (mget p0.m p1))), (45, .bool v25)] a ∧ Sat (Mem.add F χ) ([(b14, row [.slice a8 x3.k_.length c9, .slice a11 x3.v_.length c12] 65)] :: [(b1, row [.int .i64 p1.Request, .int .i64 p1.Layer, .int .i64 p1.Place] 30)] :: [(b_0, row [.int .i64 p0.room, .map (some bm_0_1)] 62)] :: ψ_0_1 :: Φ) w) ?_ ?_
          · refine WC.region [(0, true), (1, true), (2, true), (3, false), (4, true), (5, false), (6, true), (7, true), (8, true), (9, false), (10, true), (11, false), (12, true), (13, true)] rfl ?_
            refine WO.move rfl rfl rfl rfl ?_
            refine WO.move rfl rfl rfl rfl ?_
            refine WO.split (t := 47) rfl (fun hg49 => ?_) (fun hg49 => ?_)
            · have hr := cond_t hg49 hr
              refine WO.fieldAddr 0 rfl rfl rfl rfl fl_65_0 ?_
              refine WO.load 0 rfl rfl rfl rfl sc_31 rfl rfl ?_
              refine WO.move rfl rfl rfl rfl ?_
              obtain ⟨x50, hx51, hr⟩ := bind_some' hr
              refine WO.call rfl rfl rfl rfl rfl cl_27 (CallsRet.lay 1 4 1 [0] [1, 2, 3, 4] (by decide) (Mem.add F (List.flatten [χ])) ([(b14, row [.slice a8 x3.k_.length c9, .slice a11 x3.v_.length c12] 65)] :: [(b1, row [.int .i64 p1.Request, .int .i64 p1.Layer, .int .i64 p1.Place] 30)] :: [(b_0, row [.int .i64 p0.room, .map (some bm_0_1)] 62)] :: ψ_0_1 :: Φ) rfl rfl (slices_Equal_int8_int8_ok (F := F) (χ := (List.flatten [χ])) (h10.mono (mono_int _) (Mem.le.trans (Mem.le_pick (Mem.add F χ) 1 [] (by decide)) (Mem.le_gather (Mem.add F χ) 1))) (h_2.mono (mono_int _) (Mem.le_gather (Mem.add F χ) 1)) hx51 ([(b14, row [.slice a8 x3.k_.length c9, .slice a11 x3.v_.length c12] 65)] :: [(b1, row [.int .i64 p1.Request, .int .i64 p1.Layer, .int .i64 p1.Place] 30)] :: [(b_0, row [.int .i64 p0.room, .map (some bm_0_1)] 62)] :: ψ_0_1 :: Φ))) ?_
              rintro _ _ ⟨rfl, hs52⟩
              have hs52 := Sat.unlay F [χ] hs52
              have hs52 := (hs52.arrange 1 4 [0] [1, 2, 3, 4] (by decide))
              refine ⟨(Mem.add F χ), ([(b14, row [.slice a8 x3.k_.length c9, .slice a11 x3.v_.length c12] 65)] :: [(b1, row [.int .i64 p1.Request, .int .i64 p1.Layer, .int .i64 p1.Place] 30)] :: [(b_0, row [.int .i64 p0.room, .map (some bm_0_1)] 62)] :: ψ_0_1 :: Φ), hs52, trivial, ?_⟩
              refine WO.pickT rfl rfl rfl rfl rfl ?_
              refine WO.move rfl rfl rfl rfl ?_
              refine WO.split (t := 53) rfl (fun hg53 => ?_) (fun hg53 => ?_)
              · have hr := cond_t hg53 hr
                refine WO.fieldAddr 1 rfl rfl rfl rfl fl_65_1 ?_
                refine WO.load 0 rfl rfl rfl rfl sc_31 rfl rfl ?_
                refine WO.move rfl rfl rfl rfl ?_
                obtain ⟨x54, hx55, hr⟩ := bind_some' hr
                refine WO.call rfl rfl rfl rfl rfl cl_27 (CallsRet.lay 1 4 1 [0] [1, 2, 3, 4] (by decide) (Mem.add F (List.flatten [χ])) ([(b14, row [.slice a8 x3.k_.length c9, .slice a11 x3.v_.length c12] 65)] :: [(b1, row [.int .i64 p1.Request, .int .i64 p1.Layer, .int .i64 p1.Place] 30)] :: [(b_0, row [.int .i64 p0.room, .map (some bm_0_1)] 62)] :: ψ_0_1 :: Φ) rfl rfl (slices_Equal_int8_int8_ok (F := F) (χ := (List.flatten [χ])) (h13.mono (mono_int _) (Mem.le.trans (Mem.le_pick (Mem.add F χ) 1 [] (by decide)) (Mem.le_gather (Mem.add F χ) 1))) (h_3.mono (mono_int _) (Mem.le_gather (Mem.add F χ) 1)) hx55 ([(b14, row [.slice a8 x3.k_.length c9, .slice a11 x3.v_.length c12] 65)] :: [(b1, row [.int .i64 p1.Request, .int .i64 p1.Layer, .int .i64 p1.Place] 30)] :: [(b_0, row [.int .i64 p0.room, .map (some bm_0_1)] 62)] :: ψ_0_1 :: Φ))) ?_
                rintro _ _ ⟨rfl, hs56⟩
                have hs56 := Sat.unlay F [χ] hs56
                have hs56 := (hs56.arrange 1 4 [0] [1, 2, 3, 4] (by decide))
                refine ⟨(Mem.add F χ), ([(b14, row [.slice a8 x3.k_.length c9, .slice a11 x3.v_.length c12] 65)] :: [(b1, row [.int .i64 p1.Request, .int .i64 p1.Layer, .int .i64 p1.Place] 30)] :: [(b_0, row [.int .i64 p0.room, .map (some bm_0_1)] 62)] :: ψ_0_1 :: Φ), hs56, trivial, ?_⟩
                refine WO.pickT rfl rfl rfl rfl rfl ?_
                refine WO.assign rfl rfl rfl rfl ?_
                refine WO.done ?_
                refine At.seq_at ?_
                exact fun a w hc hs => ⟨x54, hr, (hc.keep (hc.keep (hc.keep (hc.keep (hc.keep (hc.keep hc.nil (t := 45) rfl) (t := 10) rfl) (t := 5) rfl) (t := 3) rfl) (t := 2) rfl) (t := 0) rfl), hs⟩
              · have hr := cond_f hg53 hr
                refine WO.skip rfl rfl rfl rfl ?_
                refine WO.skipF rfl rfl rfl rfl ?_
                refine WO.skip rfl rfl rfl rfl ?_
                refine WO.skipF rfl rfl rfl rfl ?_
                refine WO.pickF rfl rfl rfl rfl rfl ?_
                refine WO.assign rfl rfl rfl rfl ?_
                refine WO.done ?_
                refine At.seq_at ?_
                exact fun a w hc hs => ⟨false, hr, (hc.keep (hc.keep (hc.keep (hc.keep (hc.keep (hc.keep hc.nil (t := 45) rfl) (t := 10) rfl) (t := 5) rfl) (t := 3) rfl) (t := 2) rfl) (t := 0) rfl), hs⟩
            · have hr := cond_f hg49 hr
              refine WO.skip rfl rfl rfl rfl ?_
              refine WO.skipF rfl rfl rfl rfl ?_
              refine WO.skip rfl rfl rfl rfl ?_
              refine WO.skipF rfl rfl rfl rfl ?_
              refine WO.pickF rfl rfl rfl rfl rfl ?_
              refine WO.move rfl rfl rfl rfl ?_
              refine WO.skip rfl rfl rfl rfl ?_
              refine WO.skipF rfl rfl rfl rfl ?_
              refine WO.skip rfl rfl rfl rfl ?_
              refine WO.skipF rfl rfl rfl rfl ?_
              refine WO.pickF rfl rfl rfl rfl rfl ?_
              refine WO.assign rfl rfl rfl rfl ?_
              refine WO.done ?_
              refine At.seq_at ?_
              exact fun a w hc hs => ⟨false, hr, (hc.keep (hc.keep (hc.keep (hc.keep (hc.keep (hc.keep hc.nil (t := 45) rfl) (t := 10) rfl) (t := 5) rfl) (t := 3) rfl) (t := 2) rfl) (t := 0) rfl), hs⟩
          · rintro a w ⟨v25, hr, hc, hs⟩
            refine WC.use hc hs ?_
            clear hc hs
            unfold cache_Store_Put_vm_k2 at hr
            refine WC.cond rfl (fun hb26 => ?_) (fun hb26 => ?_)
            · have hr := cond_t hb26 hr
              refine WC.then ?_
              refine WC.region [(0, true)] rfl ?_
              refine WO.assign rfl rfl rfl rfl ?_
              refine WO.done ?_
              refine At.seq_wc ?_
              refine WC.ret ?_
              refine At.block_ret ?_
              refine At.seq_ret ?_
              obtain rfl := Option.some.inj hr
              exact At.ret (fun a w hc hs => (resVs_cons (hc.res rfl) resVs_nil)) (fun w hs => ⟨(List.flatten []), _, _, rfl, ((hs.arrange 1 4 [0] [3, 4] (by decide)).gather 0), (hm_0_1.mono (monoVA mono_cache_rows) (Mem.le_gather F 0))⟩)
            · have hr := cond_f hb26 hr
              refine WC.then ?_
              refine WC.region [(0, true), (1, true)] rfl ?_
              refine WO.move rfl rfl rfl rfl ?_
              refine WO.assign rfl rfl rfl rfl ?_
              refine WO.done ?_
              refine At.seq_wc ?_
              refine WC.cond rfl (fun hb27 => ?_) (fun hb27 => ?_)
              · have hr := cond_t hb27 hr
                refine WC.then ?_
                refine WC.region [(0, true)] rfl ?_
                refine WO.assign rfl rfl rfl rfl ?_
                refine WO.done ?_
                refine At.seq_wc ?_
                refine WC.ret ?_
                refine At.block_ret ?_
                refine At.seq_ret ?_
                obtain rfl := Option.some.inj hr
                exact At.ret (fun a w hc hs => (resVs_cons (hc.res rfl) resVs_nil)) (fun w hs => ⟨(List.flatten []), _, _, rfl, ((hs.arrange 1 4 [0] [3, 4] (by decide)).gather 0), (hm_0_1.mono (monoVA mono_cache_rows) (Mem.le_gather F 0))⟩)
              · have hr := cond_f hb27 hr
                refine WC.then ?_
                refine WC.draw (Sat (Mem.add F χ) ([(b14, row [.slice a8 x3.k_.length c9, .slice a11 x3.v_.length c12] 65)] :: [(b1, row [.int .i64 p1.Request, .int .i64 p1.Layer, .int .i64 p1.Place] 30)] :: [(b_0, row [.int .i64 p0.room, .map (some bm_0_1)] 62)] :: ψ_0_1 :: Φ)) (fun _ h => (h.arrange 1 4 [0] [1, 2, 3, 4] (by decide))) [(0, true), (1, true), (2, true), (3, true), (4, true), (5, true), (6, true), (7, true), (8, true), (9, true), (10, true)] mixed (by kernel_rfl) rfl (by kernel_rfl) ?_
                refine WO.move rfl rfl rfl rfl ?_
                refine WO.nilCheck rfl rfl rfl rfl ?_
                refine WO.fieldAddr 1 rfl rfl rfl rfl fl_62_1 ?_
                refine WO.loadY 2 rfl rfl rfl rfl sc_60 rfl rfl ?_
                refine WO.lenMY 3 hm_0_1 rfl rfl rfl rfl rfl Try.underlying60 ?_
                refine WO.move rfl rfl rfl rfl ?_
                refine WO.nilCheck rfl rfl rfl rfl ?_
                refine WO.fieldAddr 0 rfl rfl rfl rfl fl_62_0 ?_
                refine WO.loadY 2 rfl rfl rfl rfl sc_3 rfl rfl ?_
                refine WO.bin rfl rfl rfl rfl rfl rfl ?_
                refine WO.assign rfl rfl rfl rfl ?_
                refine WO.done ?_
                refine At.seq_wc ?_
                refine WC.cond rfl (fun hb28 => ?_) (fun hb28 => ?_)
                · have hr := cond_t hb28 hr
                  refine WC.then ?_
                  refine WC.region [(0, true)] rfl ?_
                  refine WO.assign rfl rfl rfl rfl ?_
                  refine WO.done ?_
                  refine At.seq_wc ?_
                  refine WC.ret ?_
                  refine At.block_ret ?_
                  refine At.seq_ret ?_
                  obtain rfl := Option.some.inj hr
                  exact At.ret (fun a w hc hs => (resVs_cons (hc.res rfl) resVs_nil)) (fun w hs => ⟨(List.flatten []), _, _, rfl, ((hs.arrange 1 4 [0] [3, 4] (by decide)).gather 0), (hm_0_1.mono (monoVA mono_cache_rows) (Mem.le_gather F 0))⟩)
                · have hr := cond_f hb28 hr
                  refine WC.skip ?_
                  refine At.block_normal ?_
                  refine At.seq_wc ?_
                  refine WC.then ?_
                  refine WC.draw (Sat (Mem.add F χ) ([(b14, row [.slice a8 x3.k_.length c9, .slice a11 x3.v_.length c12] 65)] :: [(b1, row [.int .i64 p1.Request, .int .i64 p1.Layer, .int .i64 p1.Place] 30)] :: [(b_0, row [.int .i64 p0.room, .map (some bm_0_1)] 62)] :: Φ)) (fun _ h => (h.arrange 1 4 [0] [1, 2, 3] (by decide))) [(0, true), (1, true), (2, true), (3, true), (4, true), (5, true), (7, true), (6, false), (8, false), (9, true), (10, false)] mixed (by kernel_rfl) rfl (by kernel_rfl) ?_
                  refine WO.move rfl rfl rfl rfl ?_
                  refine WO.nilCheck rfl rfl rfl rfl ?_
                  refine WO.fieldAddr 1 rfl rfl rfl rfl fl_62_1 ?_
                  refine WO.loadY 2 rfl rfl rfl rfl sc_60 rfl rfl ?_
                  refine WO.loadAY 1 3 rfl rfl rfl rfl ag_30 rfl rfl rfl ?_
                  refine WO.move rfl rfl rfl rfl ?_
                  refine WO.move rfl rfl rfl rfl ?_
                  obtain ⟨x29, hx30, hr⟩ := bind_some' hr
                  refine WO.call rfl rfl rfl rfl rfl cl_28 (CallsRet.lay 1 4 1 [0] [1, 2, 3, 4] (by decide) (Mem.add F (List.flatten [χ])) ([(b14, row [.slice a8 x3.k_.length c9, .slice a11 x3.v_.length c12] 65)] :: [(b1, row [.int .i64 p1.Request, .int .i64 p1.Layer, .int .i64 p1.Place] 30)] :: [(b_0, row [.int .i64 p0.room, .map (some bm_0_1)] 62)] :: ψ_0_1 :: Φ) rfl rfl (slices_Clone_int8_int8_ok (F := F) (χ := (List.flatten [χ])) (h_2.mono (mono_int _) (Mem.le_gather (Mem.add F χ) 1)) hx30 ([(b14, row [.slice a8 x3.k_.length c9, .slice a11 x3.v_.length c12] 65)] :: [(b1, row [.int .i64 p1.Request, .int .i64 p1.Layer, .int .i64 p1.Place] 30)] :: [(b_0, row [.int .i64 p0.room, .map (some bm_0_1)] 62)] :: ψ_0_1 :: Φ))) ?_
                  rintro _ _ ⟨a31, c32, p34, rfl, hs36, h33⟩
                  have hs36 := Sat.unlay F [χ] hs36
                  have hs36 := (hs36.arrange 1 5 [0] [1, 2, 3, 4, 5] (by decide))
                  refine ⟨(Mem.add F χ), (p34 :: [(b14, row [.slice a8 x3.k_.length c9, .slice a11 x3.v_.length c12] 65)] :: [(b1, row [.int .i64 p1.Request, .int .i64 p1.Layer, .int .i64 p1.Place] 30)] :: [(b_0, row [.int .i64 p0.room, .map (some bm_0_1)] 62)] :: ψ_0_1 :: Φ), hs36, (hs36.arrange 1 5 [0] [2, 3, 4] (by decide)), ?_⟩
                  obtain ⟨x37, hx38, hr⟩ := bind_some' hr
                  refine WO.call rfl rfl rfl rfl rfl cl_28 (CallsRet.lay 1 5 1 [0] [1, 2, 3, 4, 5] (by decide) (Mem.add F (List.flatten [χ])) (p34 :: [(b14, row [.slice a8 x3.k_.length c9, .slice a11 x3.v_.length c12] 65)] :: [(b1, row [.int .i64 p1.Request, .int .i64 p1.Layer, .int .i64 p1.Place] 30)] :: [(b_0, row [.int .i64 p0.room, .map (some bm_0_1)] 62)] :: ψ_0_1 :: Φ) rfl rfl (slices_Clone_int8_int8_ok (F := F) (χ := (List.flatten [χ])) (h_3.mono (mono_int _) (Mem.le_gather (Mem.add F χ) 1)) hx38 (p34 :: [(b14, row [.slice a8 x3.k_.length c9, .slice a11 x3.v_.length c12] 65)] :: [(b1, row [.int .i64 p1.Request, .int .i64 p1.Layer, .int .i64 p1.Place] 30)] :: [(b_0, row [.int .i64 p0.room, .map (some bm_0_1)] 62)] :: ψ_0_1 :: Φ))) ?_
                  rintro _ _ ⟨a39, c40, p42, rfl, hs44, h41⟩
                  have hs44 := Sat.unlay F [χ] hs44
                  have hs44 := (hs44.arrange 1 6 [0] [1, 2, 3, 4, 5, 6] (by decide))
                  refine ⟨(Mem.add F χ), (p42 :: p34 :: [(b14, row [.slice a8 x3.k_.length c9, .slice a11 x3.v_.length c12] 65)] :: [(b1, row [.int .i64 p1.Request, .int .i64 p1.Layer, .int .i64 p1.Place] 30)] :: [(b_0, row [.int .i64 p0.room, .map (some bm_0_1)] 62)] :: ψ_0_1 :: Φ), hs44, (hs44.arrange 1 6 [0] [3, 4, 5] (by decide)), ?_⟩
                  refine WO.build (vs := [.tmp 78, .tmp 80]) [0, 1] (.agg (List.toArray [.slice a31 x29.length c32, .slice a39 x37.length c40])) rfl rfl rfl rfl rfl (fun _ => by kernel_rfl) ?_
                  refine WO.freeze 1 rfl ?_
                  have hz45 := (OwnL.re (G := F) (const_int _) h33).rd (mono_int _)
                  refine WO.freeze 0 rfl ?_
                  have hz46 := (OwnL.re (G := F) (const_int _) h41).rd (mono_int _)
                  refine WO.mapUpdate (q := p1) (u := (⟨x29, x37⟩ : S_cache_rows)) 3 key_30 (hm_0_1.mono (monoVA mono_cache_rows) (Mem.le_pick (Mem.add (Mem.add F p34) p42) 2 [] (by decide))) rfl ⟨_, rfl, ⟨_, _, _, _, rfl, (hz45.mono (mono_int _) (Mem.le_pick (Mem.add (Mem.add F p34) p42) 2 [1] (by decide))), (hz46.mono (mono_int _) (Mem.le_pick (Mem.add (Mem.add F p34) p42) 2 [0] (by decide)))⟩⟩ rfl rfl rfl rfl rfl Try.underlying60 (fun _ _ h => (h.arrange 3 4 [2] [3, 4, 5] (by decide))) (fun p47 hm48 => ?_)
                  refine WO.done ?_
                  refine At.seq_wc ?_
                  refine WC.then ?_
                  refine WC.region [(0, true)] rfl ?_
                  refine WO.assign rfl rfl rfl rfl ?_
                  refine WO.done ?_
                  refine At.seq_wc ?_
                  refine WC.ret ?_
                  obtain rfl := Option.some.inj hr
                  exact At.ret (fun a w hc hs => (resVs_cons (hc.res rfl) resVs_nil)) (fun w hs => ⟨(List.flatten [p42, p34]), _, _, rfl, ((hs.arrange 3 4 [0, 1, 2] [5, 6] (by decide)).gather 2), (hm48.mono (monoVA mono_cache_rows) (Mem.le_gather (Mem.add (Mem.add F p34) p42) 2))⟩)
/-! slices.Index[[]int,int] -/
def slices_Index_int_int_k1  : Option Int := some (-1)
def slices_Index_int_int_b2 (p0 : List Int) (p1 : Int) (v6 : Int) : Option (Int ⊕ (Lp Int Unit)) := cond (decide (v6 < (p0.length : Int))) ((getI p0 v6).bind fun x11 => cond (p1 == x11) (some (.inr (.ret v6))) (some (.inl (IntKind.wrap .i64 (v6 + 1))))) (some (.inr (.brk ())))
def slices_Index_int_int (p0 : List Int) (p1 : Int) : Option Int := (loopO (fun s => slices_Index_int_int_b2 p0 p1 s) 0).bind (fun | .ret r => some r | .brk _ => slices_Index_int_int_k1 )
theorem slices_Index_int_int_ok {F : Mem} {χ : List Chunk} {p0 : List Int} {p1 : Int} {a_0 : Option Addr} {c_0 : Nat} (h_0 : RdL 1 (RInt .i64) (Mem.add F χ) a_0 c_0 p0) {r : Int} (hr : slices_Index_int_int p0 p1 = some r) (Φ : List (List Chunk)) :
    CallsRet Try.prog 31 (List.toArray [.slice a_0 p0.length c_0, .int .i64 p1]) (Mem.add F χ) Φ (fun v w => v = .int .i64 r ∧ Sat (Mem.add F χ) (Φ) w) := by
  refine CallsRet.enter (rs := [.tmp 4]) Try.func31 rfl rfl rfl rfl ?_
  unfold slices_Index_int_int at hr
  refine WC.then ?_
  refine WC.region [(0, true)] rfl ?_
  refine WO.assign rfl rfl rfl rfl ?_
  refine WO.done ?_
  refine At.seq_wc ?_
  refine WC.seq (fun a w => slices_Index_int_int_k1  = some r ∧ Ctx 19 [] a ∧ Sat (Mem.add F χ) Φ w) ?_ ?_
  · refine WC.then ?_
    refine WC.region [(0, true), (1, true), (2, true)] rfl ?_
    refine WO.move rfl rfl rfl rfl ?_
    refine WO.len rfl rfl rfl rfl Try.underlying46 ?_
    refine WO.move rfl rfl rfl rfl ?_
    refine WO.done ?_
    refine At.seq_wc ?_
    obtain ⟨xl3, hl3, hk3⟩ := bind_some' hr
    refine WC.weaken (fun a w => .brk () = xl3 ∧ Ctx 19 [] a ∧ Sat (Mem.add F χ) Φ w) ?_ ?_
    · refine WC.block ?_
      refine WC.loop (fun (v6 : Int) a w => Ctx 19 [(0, .slice a_0 p0.length c_0), (1, .int .i64 p1), (7, .int .i64 (p0.length : Int)), (8, .int .i64 v6)] a ∧ Sat (Mem.add F χ) Φ w) hl3 ?_ ?_
      · exact fun a w hc hs => ⟨(hc.keep (hc.keep (hc.keep (hc.keep hc.nil (t := 8) rfl) (t := 7) rfl) (t := 1) rfl) (t := 0) rfl), hs⟩
      · rintro v6 r3 hr a w ⟨hc, hs⟩
        refine WC.use hc hs ?_
        clear hc hs
        (try dsimp only at hr)
        unfold slices_Index_int_int_b2 at hr
        refine WC.then ?_
        refine WC.region [(0, true)] rfl ?_
        refine WO.bin rfl rfl rfl rfl rfl rfl ?_
        refine WO.done ?_
        refine At.seq_wc ?_
        refine WC.then ?_
        refine WC.cond rfl (fun hb10 => ?_) (fun hb10 => ?_)
        · have hr := cond_t hb10 hr
          refine WC.skip ?_
          refine At.seq_wc ?_
          refine WC.then ?_
          refine WC.block ?_
          refine WC.then ?_
          refine WC.region [(0, true), (1, true)] rfl ?_
          refine WO.move rfl rfl rfl rfl ?_
          refine WO.assign rfl rfl rfl rfl ?_
          refine WO.done ?_
          refine At.seq_wc ?_
          refine WC.then ?_
          refine WC.region [(0, true), (1, true), (2, true), (3, true), (4, false), (5, true)] rfl ?_
          refine WO.move rfl rfl rfl rfl ?_
          refine WO.move rfl rfl rfl rfl ?_
          refine WO.move rfl rfl rfl rfl ?_
          obtain ⟨x11, hx12, hr⟩ := bind_some' hr
          refine WO.indexR h_0 hx12 rfl rfl rfl rfl rfl rfl Try.underlying46 sz_3 ?_
          rintro b13 o14 _ hc15 rfl
          refine WO.loadPn 0 hc15 rfl rfl rfl rfl rfl sc_3 rfl ?_
          refine WO.bin rfl rfl rfl rfl rfl rfl ?_
          refine WO.done ?_
          refine At.seq_wc ?_
          refine WC.cond rfl (fun hb16 => ?_) (fun hb16 => ?_)
          · have hr := cond_t hb16 hr
            refine WC.then ?_
            refine WC.region [(0, true), (1, true)] rfl ?_
            refine WO.move rfl rfl rfl rfl ?_
            refine WO.assign rfl rfl rfl rfl ?_
            refine WO.done ?_
            refine At.seq_wc ?_
            refine WC.ret ?_
            refine At.block_ret ?_
            refine At.seq_ret ?_
            refine At.round_ret hr (fun hy => ?_)
            subst hy
            have hr := hk3
            refine At.block_ret ?_
            refine At.seq_ret ?_
            refine At.seq_ret ?_
            obtain rfl := Option.some.inj hr
            exact At.ret (fun a w hc hs => (resVs_cons (hc.res rfl) resVs_nil)) (fun w hs => ⟨rfl, hs⟩)
          · have hr := cond_f hb16 hr
            refine WC.skip ?_
            refine At.block_normal ?_
            refine At.seq_wc ?_
            refine WC.region [(0, true), (1, true)] rfl ?_
            refine WO.bin rfl rfl rfl rfl rfl rfl ?_
            refine WO.move rfl rfl rfl rfl ?_
            refine WO.done ?_
            refine At.round_next hr ?_
            exact fun a w hc hs => ⟨(hc.keep (hc.keep (hc.keep (hc.keep hc.nil (t := 8) rfl) (t := 7) rfl) (t := 1) rfl) (t := 0) rfl), hs⟩
        · have hr := cond_f hb10 hr
          refine WC.exit ?_
          refine At.seq_exit ?_
          refine At.round_exit hr (fun hy => ?_)
          refine At.exit_block ?_
          refine At.seq_at ?_
          exact fun a w hc hs => ⟨hy, hc.nil, hs⟩
    · rintro a w ⟨rfl, hc, hs⟩
      refine At.use hc hs ?_
      clear hc hs
      (try dsimp only at hk3)
      have hr := hk3
      refine At.seq_at ?_
      exact fun a w hc hs => ⟨hr, hc.nil, hs⟩
  · rintro a w ⟨hr, hc, hs⟩
    refine WC.use hc hs ?_
    clear hc hs
    unfold slices_Index_int_int_k1 at hr
    refine WC.then ?_
    refine WC.region [(0, true)] rfl ?_
    refine WO.assign rfl rfl rfl rfl ?_
    refine WO.done ?_
    refine At.seq_wc ?_
    refine WC.ret ?_
    obtain rfl := Option.some.inj hr
    exact At.ret (fun a w hc hs => (resVs_cons (hc.res rfl) resVs_nil)) (fun w hs => ⟨rfl, hs⟩)
/-! slices.Contains[[]int,int] -/
def slices_Contains_int_int (p0 : List Int) (p1 : Int) : Option Bool := (slices_Index_int_int p0 p1).bind fun x1 => some (decide (x1 ≥ 0))
theorem slices_Contains_int_int_ok {F : Mem} {χ : List Chunk} {p0 : List Int} {p1 : Int} {a_0 : Option Addr} {c_0 : Nat} (h_0 : RdL 1 (RInt .i64) (Mem.add F χ) a_0 c_0 p0) {r : Bool} (hr : slices_Contains_int_int p0 p1 = some r) (Φ : List (List Chunk)) :
    CallsRet Try.prog 25 (List.toArray [.slice a_0 p0.length c_0, .int .i64 p1]) (Mem.add F χ) Φ (fun v w => v = .bool r ∧ Sat (Mem.add F χ) (Φ) w) := by
  refine CallsRet.enter (rs := [.tmp 4]) Try.func25 rfl rfl rfl rfl ?_
  unfold slices_Contains_int_int at hr
  refine WC.then ?_
  refine WC.region [(0, true)] rfl ?_
  refine WO.assign rfl rfl rfl rfl ?_
  refine WO.done ?_
  refine At.seq_wc ?_
  refine WC.then ?_
  refine WC.region [(0, true), (1, true), (2, false), (3, true), (4, true)] rfl ?_
  refine WO.move rfl rfl rfl rfl ?_
  refine WO.move rfl rfl rfl rfl ?_
  obtain ⟨x1, hx2, hr⟩ := bind_some' hr
  refine WO.call rfl rfl rfl rfl rfl cl_31 (CallsRet.lay 1 0 1 [0] [] (by decide) (Mem.add F (List.flatten [χ])) (Φ) rfl rfl (slices_Index_int_int_ok (F := F) (χ := (List.flatten [χ])) (h_0.mono (mono_int _) (Mem.le_gather (Mem.add F χ) 1)) hx2 (Φ))) ?_
  rintro _ _ ⟨rfl, hs3⟩
  have hs3 := Sat.unlay F [χ] hs3
  have hs3 := (hs3.arrange 1 0 [0] [] (by decide))
  refine ⟨(Mem.add F χ), (Φ), hs3, trivial, ?_⟩
  refine WO.bin rfl rfl rfl rfl rfl rfl ?_
  refine WO.assign rfl rfl rfl rfl ?_
  refine WO.done ?_
  refine At.seq_wc ?_
  refine WC.ret ?_
  obtain rfl := Option.some.inj hr
  exact At.ret (fun a w hc hs => (resVs_cons (hc.res rfl) resVs_nil)) (fun w hs => ⟨rfl, hs⟩)
/-! (*peloton/cache.Store).Drop$1 -/
def cache_Store_Drop_1_p (p0 : S_api_Spot) (p1 : S_cache_rows) (p2 : List Int) : Option Bool := (slices_Contains_int_int p2 p0.Request).bind fun x14 => some x14
theorem cache_Store_Drop_1_p_ok {F : Mem} {χ : List Chunk} {p0 : S_api_Spot} {p1 : S_cache_rows} {p2 : List Int} {cs_0 : List Value} (h_0 : R_api_Spot F cs_0 p0) {cs_1 : List Value} (h_1 : R_cache_rows (Mem.add F χ) cs_1 p1) {b_2 o_2 : Nat} {cs_2 : List Value} (hc_2 : Cells (Mem.add F χ) b_2 o_2 cs_2) (h_2 : (RSl 1 (RInt .i64)) (Mem.add F χ) cs_2 p2) {r : Bool} (hr : cache_Store_Drop_1_p p0 p1 p2 = some r) (Φ : List (List Chunk)) :
    CallsRet Try.prog 24 (List.toArray [.agg cs_0.toArray, .agg cs_1.toArray, .pointer (some ⟨b_2, o_2, none⟩)]) (Mem.add F χ) Φ (fun v w => v = .bool r ∧ Sat (Mem.add F χ) (Φ) w) := by
  obtain rfl := h_0
  obtain ⟨a1, c2, a4, c5, rfl, h3, h6⟩ := h_1
  obtain ⟨a7, c8, rfl, h9⟩ := h_2
  refine CallsRet.enter (rs := [.tmp 5]) Try.func24 rfl rfl rfl rfl ?_
  unfold cache_Store_Drop_1_p at hr
  refine WC.then ?_
  refine WC.region [(0, false), (1, false), (2, true)] rfl ?_
  refine WO.box rfl rfl rfl rfl rfl (fun _ _ _ => trivial) (fun b10 => ?_)
  refine WO.box rfl rfl rfl rfl rfl (fun _ _ _ => trivial) (fun b12 => ?_)
  refine WO.assign rfl rfl rfl rfl ?_
  refine WO.done ?_
  refine At.seq_wc ?_
  refine WC.then ?_
  refine WC.region [(0, false), (1, true), (2, false), (3, false), (4, true)] rfl ?_
  refine WO.loadPn 0 hc_2 rfl rfl rfl rfl rfl sc_46 rfl ?_
  refine WO.fieldAddr 0 rfl rfl rfl rfl fl_30_0 ?_
  refine WO.load 1 rfl rfl rfl rfl sc_3 rfl rfl ?_
  obtain ⟨x14, hx15, hr⟩ := bind_some' hr
  refine WO.call rfl rfl rfl rfl rfl cl_25 (CallsRet.lay 1 2 1 [0] [1, 2] (by decide) (Mem.add F (List.flatten [χ])) ([(b12, row [.slice a1 p1.k_.length c2, .slice a4 p1.v_.length c5] 65)] :: [(b10, row [.int .i64 p0.Request, .int .i64 p0.Layer, .int .i64 p0.Place] 30)] :: Φ) rfl rfl (slices_Contains_int_int_ok (F := F) (χ := (List.flatten [χ])) (h9.mono (mono_int _) (Mem.le_gather (Mem.add F χ) 1)) hx15 ([(b12, row [.slice a1 p1.k_.length c2, .slice a4 p1.v_.length c5] 65)] :: [(b10, row [.int .i64 p0.Request, .int .i64 p0.Layer, .int .i64 p0.Place] 30)] :: Φ))) ?_
  rintro _ _ ⟨rfl, hs16⟩
  have hs16 := Sat.unlay F [χ] hs16
  have hs16 := (hs16.arrange 1 2 [0] [1, 2] (by decide))
  refine ⟨(Mem.add F χ), ([(b12, row [.slice a1 p1.k_.length c2, .slice a4 p1.v_.length c5] 65)] :: [(b10, row [.int .i64 p0.Request, .int .i64 p0.Layer, .int .i64 p0.Place] 30)] :: Φ), hs16, trivial, ?_⟩
  refine WO.assign rfl rfl rfl rfl ?_
  refine WO.done ?_
  refine At.seq_wc ?_
  refine WC.ret ?_
  obtain rfl := Option.some.inj hr
  exact At.ret (fun a w hc hs => (resVs_cons (hc.res rfl) resVs_nil)) (fun w hs => ⟨rfl, (hs.arrange 1 2 [0] [] (by decide))⟩)
/-! maps.DeleteFunc[map[peloton/api.Spot]peloton/cache.rows,peloton/api.Spot,peloton/cache.rows] -/
def maps_DeleteFunc_map_api_Spot_cache_rows_api_Spot_cache_rows_m_Fcache_Store_Drop_1_p_b1 (p1_0 : List Int) (q_1 : S_api_Spot × S_cache_rows) : Option Bool := (cache_Store_Drop_1_p q_1.1 q_1.2 p1_0).bind fun x25 => cond x25 (some true) (some false)
def maps_DeleteFunc_map_api_Spot_cache_rows_api_Spot_cache_rows_m_Fcache_Store_Drop_1_p (p0 : List (S_api_Spot × S_cache_rows)) (p1_0 : List Int) : Option (List (S_api_Spot × S_cache_rows)) := (mfilterO (fun (k : S_api_Spot) (v : S_cache_rows) => maps_DeleteFunc_map_api_Spot_cache_rows_api_Spot_cache_rows_m_Fcache_Store_Drop_1_p_b1 p1_0 (k, v)) p0).bind fun xm_1 => some xm_1
theorem maps_DeleteFunc_map_api_Spot_cache_rows_api_Spot_cache_rows_m_Fcache_Store_Drop_1_p_ok {F : Mem} {χ : List Chunk} {p0 : List (S_api_Spot × S_cache_rows)} {p1_0 : List Int} {bm_0 : Nat} {ψ_0 : List Chunk} (hm_0 : OwnM enc_api_Spot (RVA R_cache_rows) F bm_0 p0 ψ_0) {b_1_0 o_1_0 : Nat} {cs_1_0 : List Value} (hc_1_0 : Cells (Mem.add F χ) b_1_0 o_1_0 cs_1_0) (h_1_0 : (RSl 1 (RInt .i64)) (Mem.add F χ) cs_1_0 p1_0) {r : (List (S_api_Spot × S_cache_rows))} (hr : maps_DeleteFunc_map_api_Spot_cache_rows_api_Spot_cache_rows_m_Fcache_Store_Drop_1_p p0 p1_0 = some r) (Φ : List (List Chunk)) :
    CallsRet Try.prog 23 (List.toArray [.map (some bm_0), .func (.func 24) #[] #[.pointer (some ⟨b_1_0, o_1_0, none⟩)]]) (Mem.add F χ) (ψ_0 :: Φ) (fun v w => ∃ ψ0_0, v = .tuple (List.toArray []) ∧ Sat (Mem.add F χ) (ψ0_0 :: Φ) w ∧ OwnM enc_api_Spot (RVA R_cache_rows) F bm_0 r ψ0_0) := by
  obtain ⟨a1, c2, rfl, h3⟩ := h_1_0
  refine CallsRet.enter (rs := []) Try.func23 rfl rfl rfl rfl ?_
  unfold maps_DeleteFunc_map_api_Spot_cache_rows_api_Spot_cache_rows_m_Fcache_Store_Drop_1_p at hr
  refine WC.then ?_
  refine WC.region [(0, true), (1, false)] rfl ?_
  refine WO.move rfl rfl rfl rfl ?_
  refine WO.range (F1 := F) 0 hm_0 rfl rfl rfl rfl rfl Try.underlying60 (fun _ _ _ => trivial) (fun b4 p5 hR6 => ?_)
  refine WO.done ?_
  refine At.seq_wc ?_
  obtain ⟨xm_1, hx_1, hr⟩ := bind_some' hr
  have hfa_1 := mfilterO_some hx_1
  refine WC.weaken (fun a w => ∃ pn_1 : List Chunk, Ctx 19 [] a ∧ Sat (Mem.add F χ) (pn_1 :: Φ) w ∧ OwnM enc_api_Spot (RVA R_cache_rows) F bm_0 xm_1 pn_1) ?_ ?_
  · refine WC.block ?_
    refine WC.loopI (fun cnt_1 a w => ∃ (m_1 : List (S_api_Spot × S_cache_rows)) (pm_1 pi_1 : List Chunk) (sk_1 : List S_api_Spot), Ctx 19 [(0, .map (some bm_0)), (1, .func (.func 24) #[] #[.pointer (some ⟨b_1_0, o_1_0, none⟩)]), (7, .pointer (some ⟨b4, 0, none⟩))] a ∧ Sat (Mem.add F χ) (pi_1 :: pm_1 :: Φ) w ∧ RangeM enc_api_Spot (RVA R_cache_rows) F bm_0 m_1 pm_1 b4 pi_1 sk_1 ∧ MI (fun (k : S_api_Spot) (v : S_cache_rows) => maps_DeleteFunc_map_api_Spot_cache_rows_api_Spot_cache_rows_m_Fcache_Store_Drop_1_p_b1 p1_0 (k, v)) p0 m_1 sk_1 cnt_1) (p0).length ?_ ?_
    · exact fun a w hc hs => ⟨_, _, _, [], (hc.keep (hc.keep (hc.keep hc.nil (t := 7) rfl) (t := 1) rfl) (t := 0) rfl), hs, hR6, MI.start hR6.nodup⟩
    · rintro cnt_1 a w ⟨m_1, pm_1, pi_1, sk_1, hc, hs, hR_1, hM_1⟩
      refine WC.use hc hs ?_
      clear hc hs
      have hmo_1 := hR_1.own
      refine WC.then ?_
      refine WC.region [(0, false), (1, true)] rfl ?_
      refine WO.next 1 0 hR_1 rfl rfl rfl rfl rfl rfl (fun _ _ _ => trivial) (fun _ _ => trivial) (fun ha_1 => ?_) (fun q_1 v12 p11 hp_1 hn_1 hv8 hR9 hC10 => ?_)
      · refine WO.extract rfl rfl rfl rfl rfl ?_
        refine WO.done ?_
        refine At.seq_wc ?_
        refine WC.then ?_
        refine WC.condF rfl ?_
        refine WC.exit ?_
        refine At.seq_exit ?_
        refine At.roundI_exit ?_
        refine At.exit_block ?_
        refine At.seq_at ?_
        exact fun a w hc hs => ⟨_, hc.nil, (hs.arrange 1 2 [0] [2] (by decide)), by rw [hfa_1.2, ← hM_1.over ha_1]; exact hR_1.own⟩
      · obtain ⟨cs13, rfl, hv8⟩ := hv8
        obtain ⟨a14, c15, a17, c18, rfl, h16, h19⟩ := hv8
        have hm20 := hR9.own
        obtain ⟨r_1, hr⟩ := hfa_1.1 q_1 (hM_1.mem hp_1)
        have hf_1 := hr
        unfold maps_DeleteFunc_map_api_Spot_cache_rows_api_Spot_cache_rows_m_Fcache_Store_Drop_1_p_b1 at hr
        refine WO.extract rfl rfl rfl rfl rfl ?_
        refine WO.done ?_
        refine At.seq_wc ?_
        refine WC.then ?_
        refine WC.condT rfl ?_
        refine WC.skip ?_
        refine At.seq_wc ?_
        refine WC.block ?_
        refine WC.then ?_
        refine WC.region [(0, false), (1, true), (2, true), (3, false), (4, false), (5, false), (6, false)] rfl ?_
        refine WO.entry (k := q_1.1) 1 0 hC10 rfl rfl rfl rfl rfl rfl ?_
        refine WO.extract rfl rfl rfl rfl rfl ?_
        refine WO.extract rfl rfl rfl rfl rfl ?_
        refine WO.alloc (.agg #[.int .i64 0, .int .i64 0, .int .i64 0]) rfl rfl rfl zb_30 rfl (fun _ _ _ => trivial) (fun b21 => ?_)
        refine WO.alloc (.agg #[.slice none 0 0, .slice none 0 0]) rfl rfl rfl zb_65 rfl (fun _ _ _ => trivial) (fun b23 => ?_)
        refine WO.storeA 1 3 rfl rfl rfl rfl sz_30 rfl rfl rfl rfl (fun _ _ => trivial) ?_
        refine WO.storeA 0 2 rfl rfl rfl rfl sz_65 rfl rfl rfl rfl (fun _ _ => trivial) ?_
        refine WO.done ?_
        refine At.seq_wc ?_
        refine WC.then ?_
        refine WC.region [(0, true), (1, false), (2, false), (3, false)] rfl ?_
        refine WO.move rfl rfl rfl rfl ?_
        refine WO.loadA 1 3 rfl rfl rfl rfl ag_30 rfl rfl rfl ?_
        refine WO.loadA 0 2 rfl rfl rfl rfl ag_65 rfl rfl rfl ?_
        obtain ⟨x25, hx26, hr⟩ := bind_some' hr
        refine WO.call rfl rfl rfl rfl rfl cl_24 (CallsRet.lay 1 4 1 [0] [1, 2, 3, 4] (by decide) (Mem.add F (List.flatten [χ])) ([(b23, row [.slice a14 q_1.2.k_.length c15, .slice a17 q_1.2.v_.length c18] 65)] :: [(b21, row [.int .i64 q_1.1.Request, .int .i64 q_1.1.Layer, .int .i64 q_1.1.Place] 30)] :: p11 :: pm_1 :: Φ) rfl rfl (cache_Store_Drop_1_p_ok (F := F) (χ := (List.flatten [χ])) rfl ⟨_, _, _, _, rfl, (h16.mono (mono_int _) (Mem.le.trans (Mem.le_pick (Mem.add F χ) 1 [] (by decide)) (Mem.le_gather (Mem.add F χ) 1))), (h19.mono (mono_int _) (Mem.le.trans (Mem.le_pick (Mem.add F χ) 1 [] (by decide)) (Mem.le_gather (Mem.add F χ) 1)))⟩ (hc_1_0.mono (Mem.le_gather (Mem.add F χ) 1)) ⟨_, _, rfl, (h3.mono (mono_int _) (Mem.le_gather (Mem.add F χ) 1))⟩ hx26 ([(b23, row [.slice a14 q_1.2.k_.length c15, .slice a17 q_1.2.v_.length c18] 65)] :: [(b21, row [.int .i64 q_1.1.Request, .int .i64 q_1.1.Layer, .int .i64 q_1.1.Place] 30)] :: p11 :: pm_1 :: Φ))) ?_
        rintro _ _ ⟨rfl, hs27⟩
        have hs27 := Sat.unlay F [χ] hs27
        have hs27 := (hs27.arrange 1 4 [0] [1, 2, 3, 4] (by decide))
        refine ⟨(Mem.add F χ), ([(b23, row [.slice a14 q_1.2.k_.length c15, .slice a17 q_1.2.v_.length c18] 65)] :: [(b21, row [.int .i64 q_1.1.Request, .int .i64 q_1.1.Layer, .int .i64 q_1.1.Place] 30)] :: p11 :: pm_1 :: Φ), hs27, trivial, ?_⟩
        refine WO.done ?_
        refine At.seq_wc ?_
        refine WC.cond rfl (fun hb28 => ?_) (fun hb28 => ?_)
        · have hr := cond_t hb28 hr
          refine WC.region [(0, true), (1, false), (2, false)] rfl ?_
          refine WO.move rfl rfl rfl rfl ?_
          refine WO.loadA 1 3 rfl rfl rfl rfl ag_30 rfl rfl rfl ?_
          refine WO.deleteR (q := q_1.1) 3 key_30 hR9 rfl rfl rfl rfl rfl Try.underlying60 (fun _ _ _ => trivial) (fun p29 hR30 => ?_)
          have hm31 := hR30.own
          refine WO.done ?_
          refine At.block_normal ?_
          obtain rfl := Option.some.inj hr
          obtain ⟨cn_1, hl_1, hN_1⟩ := hM_1.del hp_1 hn_1 hf_1
          refine At.roundI hl_1 ?_
          exact fun a w hc hs => ⟨_, _, _, _, (hc.keep (hc.keep (hc.keep hc.nil (t := 7) rfl) (t := 1) rfl) (t := 0) rfl), (hs.arrange 1 4 [0] [3, 4] (by decide)), hR30, hN_1⟩
        · have hr := cond_f hb28 hr
          refine WC.skip ?_
          refine At.block_normal ?_
          obtain rfl := Option.some.inj hr
          obtain ⟨cn_1, hl_1, hN_1⟩ := hM_1.keep hp_1 hn_1 hf_1
          refine At.roundI hl_1 ?_
          exact fun a w hc hs => ⟨_, _, _, _, (hc.keep (hc.keep (hc.keep hc.nil (t := 7) rfl) (t := 1) rfl) (t := 0) rfl), (hs.arrange 1 4 [0] [3, 4] (by decide)), hR9, hN_1⟩
  · rintro a w ⟨pn_1, hc, hs, hmn_1⟩
    refine At.use hc hs ?_
    clear hc hs
    obtain rfl := Option.some.inj hr
    exact At.end (fun a w hc hs => resVs_nil) (fun w hs => ⟨_, rfl, hs, hmn_1⟩)
/-! (*peloton/cache.Store).Drop -/
def cache_Store_Drop_vm (p0 : S_cache_Store) (p1 : List Int) : Option (Int × S_cache_Store) := (maps_DeleteFunc_map_api_Spot_cache_rows_api_Spot_cache_rows_m_Fcache_Store_Drop_1_p p0.m p1).bind fun x4 => some ((IntKind.wrap .i64 (((p0.m).length : Int) - ((x4).length : Int))), (⟨p0.room, x4⟩ : S_cache_Store))
theorem cache_Store_Drop_vm_ok {F : Mem} {χ : List Chunk} {p0 : S_cache_Store} {p1 : List Int} {b_0 : Nat} {bm_0_1 : Nat} {ψ_0_1 : List Chunk} (hm_0_1 : OwnM enc_api_Spot (RVA R_cache_rows) F bm_0_1 p0.m ψ_0_1) {a_1 : Option Addr} {c_1 : Nat} (h_1 : RdL 1 (RInt .i64) (Mem.add F χ) a_1 c_1 p1) {r : Int × S_cache_Store} (hr : cache_Store_Drop_vm p0 p1 = some r) (Φ : List (List Chunk)) :
    CallsRet Try.prog 9 (List.toArray [.pointer (some ⟨b_0, 0, none⟩), .slice a_1 p1.length c_1]) (Mem.add F χ) ([(b_0, row [.int .i64 p0.room, .map (some bm_0_1)] 62)] :: ψ_0_1 :: Φ) (fun v w => ∃ bm0_1 ψ0_1, v = .int .i64 r.1 ∧ Sat (Mem.add F χ) ([(b_0, row [.int .i64 r.2.room, .map (some bm0_1)] 62)] :: ψ0_1 :: Φ) w ∧ OwnM enc_api_Spot (RVA R_cache_rows) F bm0_1 r.2.m ψ0_1) := by
  refine CallsRet.enter (rs := [.tmp 4]) Try.func9 rfl rfl rfl rfl ?_
  unfold cache_Store_Drop_vm at hr
  refine WC.then ?_
  refine WC.region [(0, false), (1, true)] rfl ?_
  refine WO.box rfl rfl rfl rfl rfl (fun _ _ _ => trivial) (fun b1 => ?_)
  refine WO.assign rfl rfl rfl rfl ?_
  refine WO.done ?_
  refine At.seq_wc ?_
  refine WC.then ?_
  refine WC.region [(0, true), (1, true), (2, true), (3, false), (4, false), (5, true)] rfl ?_
  refine WO.move rfl rfl rfl rfl ?_
  refine WO.nilCheck rfl rfl rfl rfl ?_
  refine WO.fieldAddr 1 rfl rfl rfl rfl fl_62_1 ?_
  refine WO.load 1 rfl rfl rfl rfl sc_60 rfl rfl ?_
  refine WO.lenM 2 hm_0_1 rfl rfl rfl rfl rfl Try.underlying60 ?_
  refine WO.assign rfl rfl rfl rfl ?_
  refine WO.done ?_
  refine At.seq_wc ?_
  refine WC.then ?_
  refine WC.region [(0, true), (1, true), (2, true), (3, false), (4, true), (5, false)] rfl ?_
  refine WO.move rfl rfl rfl rfl ?_
  refine WO.nilCheck rfl rfl rfl rfl ?_
  refine WO.fieldAddr 1 rfl rfl rfl rfl fl_62_1 ?_
  refine WO.load 1 rfl rfl rfl rfl sc_60 rfl rfl ?_
  refine WO.freeze 0 rfl ?_
  have hc3 := Cells.ofAdd F b1 [.slice a_1 p1.length c_1] 46
  refine WO.makeFunc (ca := [.tmp 3]) rfl rfl rfl rfl ?_
  obtain ⟨x4, hx5, hr⟩ := bind_some' hr
  refine WO.call rfl rfl rfl rfl rfl cl_23 (CallsRet.lay 2 2 2 [0, 1] [3, 2] (by decide) (Mem.add F (List.flatten [[(b1, row [.slice a_1 p1.length c_1] 46)], χ])) (ψ_0_1 :: [(b_0, row [.int .i64 p0.room, .map (some bm_0_1)] 62)] :: Φ) rfl rfl (maps_DeleteFunc_map_api_Spot_cache_rows_api_Spot_cache_rows_m_Fcache_Store_Drop_1_p_ok (F := F) (χ := (List.flatten [[(b1, row [.slice a_1 p1.length c_1] 46)], χ])) hm_0_1 (hc3.mono (Mem.le.trans (Mem.le_pick (Mem.add (Mem.add F χ) [(b1, row [.slice a_1 p1.length c_1] 46)]) 2 [0] (by decide)) (Mem.le_gather (Mem.add (Mem.add F χ) [(b1, row [.slice a_1 p1.length c_1] 46)]) 2))) ⟨_, _, rfl, (h_1.mono (mono_int _) (Mem.le.trans (Mem.le_pick (Mem.add (Mem.add F χ) [(b1, row [.slice a_1 p1.length c_1] 46)]) 2 [1] (by decide)) (Mem.le_gather (Mem.add (Mem.add F χ) [(b1, row [.slice a_1 p1.length c_1] 46)]) 2)))⟩ hx5 ([(b_0, row [.int .i64 p0.room, .map (some bm_0_1)] 62)] :: Φ))) ?_
  rintro _ _ ⟨p6, rfl, hs8, hm7⟩
  have hs8 := Sat.unlay F [[(b1, row [.slice a_1 p1.length c_1] 46)], χ] hs8
  have hs8 := (hs8.arrange 2 2 [0, 1] [3, 2] (by decide))
  refine ⟨(Mem.add (Mem.add F χ) [(b1, row [.slice a_1 p1.length c_1] 46)]), ([(b_0, row [.int .i64 p0.room, .map (some bm_0_1)] 62)] :: p6 :: Φ), hs8, trivial, ?_⟩
  refine WO.done ?_
  refine At.seq_wc ?_
  refine WC.then ?_
  refine WC.region [(0, true), (1, true), (2, true), (3, true), (4, false), (5, false), (6, true), (7, true)] rfl ?_
  refine WO.move rfl rfl rfl rfl ?_
  refine WO.move rfl rfl rfl rfl ?_
  refine WO.nilCheck rfl rfl rfl rfl ?_
  refine WO.fieldAddr 1 rfl rfl rfl rfl fl_62_1 ?_
  refine WO.load 0 rfl rfl rfl rfl sc_60 rfl rfl ?_
  refine WO.lenM 1 hm7 rfl rfl rfl rfl rfl Try.underlying60 ?_
  refine WO.bin rfl rfl rfl rfl rfl rfl ?_
  refine WO.assign rfl rfl rfl rfl ?_
  refine WO.done ?_
  refine At.seq_wc ?_
  refine WC.ret ?_
  obtain rfl := Option.some.inj hr
  exact At.ret (fun a w hc hs => (resVs_cons (hc.res rfl) resVs_nil)) (fun w hs => ⟨_, _, rfl, (hs.arrange 2 2 [1] [2, 3] (by decide)), hm7⟩)
/-! peloton/pelotonlaw12.awake -/
def law12_awake_k1  : Option Bool := some false
def law12_awake_k3 (v104 : Bool) (v105 : S_cache_Store) : Option Bool := some v104
def law12_awake_k2 (x1 : (Option S_cache_Store) × Int) (o3 : S_cache_Store) : Option Bool := cond (x1.2 != 0) (some false) ((law12_spot 7 0 1).bind fun x19 => (cache_Store_Put_vm o3 x19 [1] [1]).bind fun x26 => (law12_spot 7 0 0).bind fun x34 => (cache_Store_Put_vm x26.2 x34 [1] [1]).bind fun x39 => (law12_spot 7 0 1).bind fun x47 => (cache_Store_Put_vm x39.2 x47 [1] [1]).bind fun x52 => (law12_spot 7 1 0).bind fun x60 => (cache_Store_Put_vm x52.2 x60 [1] [1]).bind fun x65 => (law12_spot 7 0 0).bind fun x73 => (cache_Store_Put_vm x65.2 x73 [1] [1]).bind fun x78 => (law12_spot 7 0 0).bind fun x86 => (cache_Store_Put_vm x78.2 x86 [1] [2]).bind fun x95 => cond (x26.1 == 120) (cond (x39.1 == 0) (cond (x52.1 == 0) (cond (x65.1 == 80) (cond (x78.1 == 0) (cond (x95.1 == 2) ((cache_Store_Drop_vm x95.2 [7]).bind fun x120 => law12_awake_k3 (x120.1 == 2) x120.2) (law12_awake_k3 false x95.2)) (law12_awake_k3 false x95.2)) (law12_awake_k3 false x95.2)) (law12_awake_k3 false x95.2)) (law12_awake_k3 false x95.2)) (law12_awake_k3 false x95.2))
def law12_awake  : Option Bool := (cache_New 2).bind fun x1 => Option.elim x1.1 (law12_awake_k1 ) (fun o3 => law12_awake_k2 x1 o3)
theorem law12_awake_ok {F : Mem}  {r : Bool} (hr : law12_awake  = some r) (Φ : List (List Chunk)) :
    CallsRet Try.prog 6 (List.toArray []) F Φ (fun v w => v = .bool r ∧ Sat F (Φ) w) := by
  refine CallsRet.enter (rs := [.tmp 0]) Try.func6 rfl rfl rfl rfl ?_
  unfold law12_awake at hr
  refine WC.then ?_
  refine WC.region [(0, true)] rfl ?_
  refine WO.assign rfl rfl rfl rfl ?_
  refine WO.done ?_
  refine At.seq_wc ?_
  refine WC.then ?_
  refine WC.region [(0, false), (1, true), (2, true), (3, true), (4, true), (5, true)] rfl ?_
  obtain ⟨x1, hx2, hr⟩ := bind_some' hr
  refine WO.call rfl rfl rfl rfl rfl cl_7 (cache_New_ok (F := F) hx2 (Φ)) ?_
  rintro _ _ (⟨hn4, rfl, hs5⟩ | ⟨o3, b8, b9, p10, hn7, rfl, hs14, hm12⟩)
  · have hr := elim_none hn4 hr
    refine ⟨F, (Φ), hs5, trivial, ?_⟩
    refine WO.move rfl rfl rfl rfl ?_
    refine WO.extract rfl rfl rfl rfl rfl ?_
    refine WO.extract rfl rfl rfl rfl rfl ?_
    refine WO.assign rfl rfl rfl rfl ?_
    refine WO.assign rfl rfl rfl rfl ?_
    refine WO.done ?_
    refine At.seq_wc ?_
    refine WC.then ?_
    refine WC.seq (fun a w => law12_awake_k1  = some r ∧ Ctx 79 [(1, .pointer none), (19, .bool true)] a ∧ Sat F Φ w) ?_ ?_
    · refine WC.region [(0, true), (1, true), (2, true), (3, true), (4, true), (5, true)] rfl ?_
      refine WO.move rfl rfl rfl rfl ?_
      refine WO.eqNil rfl rfl rfl rfl rfl Try.underlying24 ?_
      refine WO.move rfl rfl rfl rfl ?_
      refine WO.skip rfl rfl rfl rfl ?_
      refine WO.skip rfl rfl rfl rfl ?_
      refine WO.pickT rfl rfl rfl rfl rfl ?_
      refine WO.done ?_
      refine At.seq_at ?_
      exact fun a w hc hs => ⟨hr, (hc.keep (hc.keep hc.nil (t := 19) rfl) (t := 1) rfl), hs⟩
    · rintro a w ⟨hr, hc, hs⟩
      refine WC.use hc hs ?_
      clear hc hs
      unfold law12_awake_k1 at hr
      refine WC.condT rfl ?_
      refine WC.then ?_
      refine WC.region [(0, true)] rfl ?_
      refine WO.assign rfl rfl rfl rfl ?_
      refine WO.done ?_
      refine At.seq_wc ?_
      refine WC.ret ?_
      refine At.seq_ret ?_
      obtain rfl := Option.some.inj hr
      exact At.ret (fun a w hc hs => (resVs_cons (hc.res rfl) resVs_nil)) (fun w hs => ⟨rfl, hs⟩)
  · have hr := elim_some hn7 hr
    refine ⟨F, ([(b8, row [.int .i64 o3.room, .map (some b9)] 62)] :: p10 :: Φ), hs14, trivial, ?_⟩
    refine WO.move rfl rfl rfl rfl ?_
    refine WO.extract rfl rfl rfl rfl rfl ?_
    refine WO.extract rfl rfl rfl rfl rfl ?_
    refine WO.assign rfl rfl rfl rfl ?_
    refine WO.assign rfl rfl rfl rfl ?_
    refine WO.done ?_
    refine At.seq_wc ?_
    refine WC.then ?_
    refine WC.seq (fun a w => law12_awake_k2 x1 o3 = some r ∧ Ctx 79 [(1, .pointer (some ⟨b8, 0, none⟩)), (19, .bool (x1.2 != 0))] a ∧ Sat F ([(b8, row [.int .i64 o3.room, .map (some b9)] 62)] :: p10 :: Φ) w) ?_ ?_
    · refine WC.region [(0, true), (1, true), (2, true), (3, true), (4, true), (5, true)] rfl ?_
      refine WO.move rfl rfl rfl rfl ?_
      refine WO.eqNil rfl rfl rfl rfl rfl Try.underlying24 ?_
      refine WO.move rfl rfl rfl rfl ?_
      refine WO.move rfl rfl rfl rfl ?_
      refine WO.bin rfl rfl rfl rfl rfl rfl ?_
      refine WO.pickF rfl rfl rfl rfl rfl ?_
      refine WO.done ?_
      refine At.seq_at ?_
      exact fun a w hc hs => ⟨hr, (hc.keep (hc.keep hc.nil (t := 19) rfl) (t := 1) rfl), hs⟩
    · rintro a w ⟨hr, hc, hs⟩
      refine WC.use hc hs ?_
      clear hc hs
      unfold law12_awake_k2 at hr
      refine WC.cond rfl (fun hb16 => ?_) (fun hb16 => ?_)
      · have hr := cond_t hb16 hr
        refine WC.then ?_
        refine WC.region [(0, true)] rfl ?_
        refine WO.assign rfl rfl rfl rfl ?_
        refine WO.done ?_
        refine At.seq_wc ?_
        refine WC.ret ?_
        refine At.seq_ret ?_
        obtain rfl := Option.some.inj hr
        exact At.ret (fun a w hc hs => (resVs_cons (hc.res rfl) resVs_nil)) (fun w hs => ⟨rfl, (hs.arrange 0 2 [] [] (by decide))⟩)
      · have hr := cond_f hb16 hr
        refine WC.skip ?_
        refine At.seq_wc ?_
        refine WC.then ?_
        refine WC.region [(0, false), (1, true)] rfl ?_
        refine WO.buildSl (e := 45) (vs := [.const (.int .i8 1)]) [0] [.int .i8 1] rfl rfl rfl rfl rfl (fun _ => by kernel_rfl) (fun _ _ _ => trivial) (fun b17 => ?_)
        refine WO.assign rfl rfl rfl rfl ?_
        refine WO.done ?_
        refine At.seq_wc ?_
        refine WC.then ?_
        refine WC.region [(0, true), (1, false), (2, true), (3, true), (4, false), (5, true), (6, false), (7, true), (8, true), (9, false), (10, true), (11, false), (12, true), (13, true), (14, false), (15, true), (16, true), (17, true)] rfl ?_
        refine WO.move rfl rfl rfl rfl ?_
        obtain ⟨x19, hx20, hr⟩ := bind_some' hr
        refine WO.call rfl rfl rfl rfl rfl cl_8 (law12_spot_ok (F := F) hx20 ([(b17, row [.int .i8 1] 45)] :: [(b8, row [.int .i64 o3.room, .map (some b9)] 62)] :: p10 :: Φ)) ?_
        rintro _ _ ⟨cs21, rfl, hs23, rfl⟩
        refine ⟨F, ([(b17, row [.int .i8 1] 45)] :: [(b8, row [.int .i64 o3.room, .map (some b9)] 62)] :: p10 :: Φ), hs23, trivial, ?_⟩
        refine WO.move rfl rfl rfl rfl ?_
        refine WO.move rfl rfl rfl rfl ?_
        have ho24 : OwnL 1 (RInt .i8) F 45 (some ⟨b17, 0, none⟩) 1 [1] [(b17, row [.int .i8 1] 45)] := ⟨Nat.le_refl _, .inr ⟨_, [[.int .i8 1]], [], rfl, rfl, (Rs.cons (x := 1) (cs := [.int .i8 1]) rfl rfl rfl Rs.nil), rfl⟩⟩
        obtain ⟨x26, hx27, hr⟩ := bind_some' hr
        refine WO.call rfl rfl rfl rfl rfl cl_10 (CallsRet.lay 0 3 1 [0] [1, 2] (by decide) (Mem.add F (List.flatten [[(b17, row [.int .i8 1] 45)]])) ([(b8, row [.int .i64 o3.room, .map (some b9)] 62)] :: p10 :: Φ) rfl rfl (cache_Store_Put_vm_ok (F := F) (χ := (List.flatten [[(b17, row [.int .i8 1] 45)]])) hm12 rfl (((OwnL.re (G := F) (const_int _) ho24).rd (mono_int _)).mono (mono_int _) (Mem.le_gather (Mem.add F [(b17, row [.int .i8 1] 45)]) 1)) (((OwnL.re (G := F) (const_int _) ho24).rd (mono_int _)).mono (mono_int _) (Mem.le_gather (Mem.add F [(b17, row [.int .i8 1] 45)]) 1)) hx27 (Φ))) ?_
        rintro _ _ ⟨q28, b29, p30, rfl, hs33, hm32⟩
        have hs33 := Sat.unlay1 F [[(b17, row [.int .i8 1] 45)]] _ hs33
        have hs33 := (hs33.arrange 2 2 [0] [3, 1, 2] (by decide))
        refine ⟨(Mem.add F q28), (p30 :: [(b17, row [.int .i8 1] 45)] :: [(b8, row [.int .i64 x26.2.room, .map (some b29)] 62)] :: Φ), hs33, trivial, ?_⟩
        refine WO.move rfl rfl rfl rfl ?_
        obtain ⟨x34, hx35, hr⟩ := bind_some' hr
        refine WO.call rfl rfl rfl rfl rfl cl_8 (CallsRet.lay0 1 3 [] [0, 1, 2, 3] (by decide) F (q28 :: p30 :: [(b17, row [.int .i8 1] 45)] :: [(b8, row [.int .i64 x26.2.room, .map (some b29)] 62)] :: Φ) rfl rfl (law12_spot_ok (F := F) hx35 (q28 :: p30 :: [(b17, row [.int .i8 1] 45)] :: [(b8, row [.int .i64 x26.2.room, .map (some b29)] 62)] :: Φ))) ?_
        rintro _ _ ⟨cs36, rfl, hs38, rfl⟩
        have hs38 := (hs38.arrange 0 4 [0] [1, 2, 3] (by decide))
        refine ⟨(Mem.add F q28), (p30 :: [(b17, row [.int .i8 1] 45)] :: [(b8, row [.int .i64 x26.2.room, .map (some b29)] 62)] :: Φ), hs38, trivial, ?_⟩
        refine WO.move rfl rfl rfl rfl ?_
        refine WO.move rfl rfl rfl rfl ?_
        obtain ⟨x39, hx40, hr⟩ := bind_some' hr
        refine WO.call rfl rfl rfl rfl rfl cl_10 (CallsRet.lay 1 3 1 [2, 0] [3, 1] (by decide) (Mem.add (Mem.add F q28) (List.flatten [[(b17, row [.int .i8 1] 45)]])) ([(b8, row [.int .i64 x26.2.room, .map (some b29)] 62)] :: p30 :: Φ) rfl rfl (cache_Store_Put_vm_ok (F := (Mem.add F q28)) (χ := (List.flatten [[(b17, row [.int .i8 1] 45)]])) hm32 rfl (((OwnL.re (G := F) (const_int _) ho24).rd (mono_int _)).mono (mono_int _) (Mem.le.trans (Mem.le_pick (Mem.add (Mem.add F q28) [(b17, row [.int .i8 1] 45)]) 2 [0] (by decide)) (Mem.le_gather (Mem.add (Mem.add F q28) [(b17, row [.int .i8 1] 45)]) 1))) (((OwnL.re (G := F) (const_int _) ho24).rd (mono_int _)).mono (mono_int _) (Mem.le.trans (Mem.le_pick (Mem.add (Mem.add F q28) [(b17, row [.int .i8 1] 45)]) 2 [0] (by decide)) (Mem.le_gather (Mem.add (Mem.add F q28) [(b17, row [.int .i8 1] 45)]) 1))) hx40 (Φ))) ?_
        rintro _ _ ⟨q41, b42, p43, rfl, hs46, hm45⟩
        have hs46 := Sat.unlay1 (Mem.add F q28) [[(b17, row [.int .i8 1] 45)]] _ hs46
        have hs46 := (hs46.arrange 3 2 [0, 2] [4, 1, 3] (by decide))
        refine ⟨(Mem.add (Mem.add F q28) q41), (p43 :: [(b17, row [.int .i8 1] 45)] :: [(b8, row [.int .i64 x39.2.room, .map (some b42)] 62)] :: Φ), hs46, trivial, ?_⟩
        refine WO.move rfl rfl rfl rfl ?_
        obtain ⟨x47, hx48, hr⟩ := bind_some' hr
        refine WO.call rfl rfl rfl rfl rfl cl_8 (CallsRet.lay0 2 3 [] [0, 1, 2, 3, 4] (by decide) F (q41 :: q28 :: p43 :: [(b17, row [.int .i8 1] 45)] :: [(b8, row [.int .i64 x39.2.room, .map (some b42)] 62)] :: Φ) rfl rfl (law12_spot_ok (F := F) hx48 (q41 :: q28 :: p43 :: [(b17, row [.int .i8 1] 45)] :: [(b8, row [.int .i64 x39.2.room, .map (some b42)] 62)] :: Φ))) ?_
        rintro _ _ ⟨cs49, rfl, hs51, rfl⟩
        have hs51 := (hs51.arrange 0 5 [0, 1] [2, 3, 4] (by decide))
        refine ⟨(Mem.add (Mem.add F q28) q41), (p43 :: [(b17, row [.int .i8 1] 45)] :: [(b8, row [.int .i64 x39.2.room, .map (some b42)] 62)] :: Φ), hs51, trivial, ?_⟩
        refine WO.move rfl rfl rfl rfl ?_
        refine WO.move rfl rfl rfl rfl ?_
        obtain ⟨x52, hx53, hr⟩ := bind_some' hr
        refine WO.call rfl rfl rfl rfl rfl cl_10 (CallsRet.lay 2 3 1 [3, 0, 1] [4, 2] (by decide) (Mem.add (Mem.add (Mem.add F q28) q41) (List.flatten [[(b17, row [.int .i8 1] 45)]])) ([(b8, row [.int .i64 x39.2.room, .map (some b42)] 62)] :: p43 :: Φ) rfl rfl (cache_Store_Put_vm_ok (F := (Mem.add (Mem.add F q28) q41)) (χ := (List.flatten [[(b17, row [.int .i8 1] 45)]])) hm45 rfl (((OwnL.re (G := F) (const_int _) ho24).rd (mono_int _)).mono (mono_int _) (Mem.le.trans (Mem.le_pick (Mem.add (Mem.add (Mem.add F q28) q41) [(b17, row [.int .i8 1] 45)]) 3 [0] (by decide)) (Mem.le_gather (Mem.add (Mem.add (Mem.add F q28) q41) [(b17, row [.int .i8 1] 45)]) 1))) (((OwnL.re (G := F) (const_int _) ho24).rd (mono_int _)).mono (mono_int _) (Mem.le.trans (Mem.le_pick (Mem.add (Mem.add (Mem.add F q28) q41) [(b17, row [.int .i8 1] 45)]) 3 [0] (by decide)) (Mem.le_gather (Mem.add (Mem.add (Mem.add F q28) q41) [(b17, row [.int .i8 1] 45)]) 1))) hx53 (Φ))) ?_
        rintro _ _ ⟨q54, b55, p56, rfl, hs59, hm58⟩
        have hs59 := Sat.unlay1 (Mem.add (Mem.add F q28) q41) [[(b17, row [.int .i8 1] 45)]] _ hs59
        have hs59 := (hs59.arrange 4 2 [0, 2, 3] [5, 1, 4] (by decide))
        refine ⟨(Mem.add (Mem.add (Mem.add F q28) q41) q54), (p56 :: [(b17, row [.int .i8 1] 45)] :: [(b8, row [.int .i64 x52.2.room, .map (some b55)] 62)] :: Φ), hs59, trivial, ?_⟩
        refine WO.assign rfl rfl rfl rfl ?_
        refine WO.assign rfl rfl rfl rfl ?_
        refine WO.assign rfl rfl rfl rfl ?_
        refine WO.done ?_
        refine At.seq_wc ?_
        refine WC.then ?_
        refine WC.region [(0, true), (1, false), (2, true), (3, true), (4, false), (5, true), (6, false), (7, true), (8, true), (9, false), (10, true), (11, false), (12, true), (13, false), (14, false), (15, true), (16, true), (17, true)] rfl ?_
        refine WO.move rfl rfl rfl rfl ?_
        obtain ⟨x60, hx61, hr⟩ := bind_some' hr
        refine WO.call rfl rfl rfl rfl rfl cl_8 (CallsRet.lay0 3 3 [] [0, 1, 2, 3, 4, 5] (by decide) F (q54 :: q41 :: q28 :: p56 :: [(b17, row [.int .i8 1] 45)] :: [(b8, row [.int .i64 x52.2.room, .map (some b55)] 62)] :: Φ) rfl rfl (law12_spot_ok (F := F) hx61 (q54 :: q41 :: q28 :: p56 :: [(b17, row [.int .i8 1] 45)] :: [(b8, row [.int .i64 x52.2.room, .map (some b55)] 62)] :: Φ))) ?_
        rintro _ _ ⟨cs62, rfl, hs64, rfl⟩
        have hs64 := (hs64.arrange 0 6 [0, 1, 2] [3, 4, 5] (by decide))
        refine ⟨(Mem.add (Mem.add (Mem.add F q28) q41) q54), (p56 :: [(b17, row [.int .i8 1] 45)] :: [(b8, row [.int .i64 x52.2.room, .map (some b55)] 62)] :: Φ), hs64, trivial, ?_⟩
        refine WO.move rfl rfl rfl rfl ?_
        refine WO.move rfl rfl rfl rfl ?_
        obtain ⟨x65, hx66, hr⟩ := bind_some' hr
        refine WO.call rfl rfl rfl rfl rfl cl_10 (CallsRet.lay 3 3 1 [4, 0, 1, 2] [5, 3] (by decide) (Mem.add (Mem.add (Mem.add (Mem.add F q28) q41) q54) (List.flatten [[(b17, row [.int .i8 1] 45)]])) ([(b8, row [.int .i64 x52.2.room, .map (some b55)] 62)] :: p56 :: Φ) rfl rfl (cache_Store_Put_vm_ok (F := (Mem.add (Mem.add (Mem.add F q28) q41) q54)) (χ := (List.flatten [[(b17, row [.int .i8 1] 45)]])) hm58 rfl (((OwnL.re (G := F) (const_int _) ho24).rd (mono_int _)).mono (mono_int _) (Mem.le.trans (Mem.le_pick (Mem.add (Mem.add (Mem.add (Mem.add F q28) q41) q54) [(b17, row [.int .i8 1] 45)]) 4 [0] (by decide)) (Mem.le_gather (Mem.add (Mem.add (Mem.add (Mem.add F q28) q41) q54) [(b17, row [.int .i8 1] 45)]) 1))) (((OwnL.re (G := F) (const_int _) ho24).rd (mono_int _)).mono (mono_int _) (Mem.le.trans (Mem.le_pick (Mem.add (Mem.add (Mem.add (Mem.add F q28) q41) q54) [(b17, row [.int .i8 1] 45)]) 4 [0] (by decide)) (Mem.le_gather (Mem.add (Mem.add (Mem.add (Mem.add F q28) q41) q54) [(b17, row [.int .i8 1] 45)]) 1))) hx66 (Φ))) ?_
        rintro _ _ ⟨q67, b68, p69, rfl, hs72, hm71⟩
        have hs72 := Sat.unlay1 (Mem.add (Mem.add (Mem.add F q28) q41) q54) [[(b17, row [.int .i8 1] 45)]] _ hs72
        have hs72 := (hs72.arrange 5 2 [0, 2, 3, 4] [6, 1, 5] (by decide))
        refine ⟨(Mem.add (Mem.add (Mem.add (Mem.add F q28) q41) q54) q67), (p69 :: [(b17, row [.int .i8 1] 45)] :: [(b8, row [.int .i64 x65.2.room, .map (some b68)] 62)] :: Φ), hs72, trivial, ?_⟩
        refine WO.move rfl rfl rfl rfl ?_
        obtain ⟨x73, hx74, hr⟩ := bind_some' hr
        refine WO.call rfl rfl rfl rfl rfl cl_8 (CallsRet.lay0 4 3 [] [0, 1, 2, 3, 4, 5, 6] (by decide) F (q67 :: q54 :: q41 :: q28 :: p69 :: [(b17, row [.int .i8 1] 45)] :: [(b8, row [.int .i64 x65.2.room, .map (some b68)] 62)] :: Φ) rfl rfl (law12_spot_ok (F := F) hx74 (q67 :: q54 :: q41 :: q28 :: p69 :: [(b17, row [.int .i8 1] 45)] :: [(b8, row [.int .i64 x65.2.room, .map (some b68)] 62)] :: Φ))) ?_
        rintro _ _ ⟨cs75, rfl, hs77, rfl⟩
        have hs77 := (hs77.arrange 0 7 [0, 1, 2, 3] [4, 5, 6] (by decide))
        refine ⟨(Mem.add (Mem.add (Mem.add (Mem.add F q28) q41) q54) q67), (p69 :: [(b17, row [.int .i8 1] 45)] :: [(b8, row [.int .i64 x65.2.room, .map (some b68)] 62)] :: Φ), hs77, trivial, ?_⟩
        refine WO.move rfl rfl rfl rfl ?_
        refine WO.move rfl rfl rfl rfl ?_
        obtain ⟨x78, hx79, hr⟩ := bind_some' hr
        refine WO.call rfl rfl rfl rfl rfl cl_10 (CallsRet.lay 4 3 1 [5, 0, 1, 2, 3] [6, 4] (by decide) (Mem.add (Mem.add (Mem.add (Mem.add (Mem.add F q28) q41) q54) q67) (List.flatten [[(b17, row [.int .i8 1] 45)]])) ([(b8, row [.int .i64 x65.2.room, .map (some b68)] 62)] :: p69 :: Φ) rfl rfl (cache_Store_Put_vm_ok (F := (Mem.add (Mem.add (Mem.add (Mem.add F q28) q41) q54) q67)) (χ := (List.flatten [[(b17, row [.int .i8 1] 45)]])) hm71 rfl (((OwnL.re (G := F) (const_int _) ho24).rd (mono_int _)).mono (mono_int _) (Mem.le.trans (Mem.le_pick (Mem.add (Mem.add (Mem.add (Mem.add (Mem.add F q28) q41) q54) q67) [(b17, row [.int .i8 1] 45)]) 5 [0] (by decide)) (Mem.le_gather (Mem.add (Mem.add (Mem.add (Mem.add (Mem.add F q28) q41) q54) q67) [(b17, row [.int .i8 1] 45)]) 1))) (((OwnL.re (G := F) (const_int _) ho24).rd (mono_int _)).mono (mono_int _) (Mem.le.trans (Mem.le_pick (Mem.add (Mem.add (Mem.add (Mem.add (Mem.add F q28) q41) q54) q67) [(b17, row [.int .i8 1] 45)]) 5 [0] (by decide)) (Mem.le_gather (Mem.add (Mem.add (Mem.add (Mem.add (Mem.add F q28) q41) q54) q67) [(b17, row [.int .i8 1] 45)]) 1))) hx79 (Φ))) ?_
        rintro _ _ ⟨q80, b81, p82, rfl, hs85, hm84⟩
        have hs85 := Sat.unlay1 (Mem.add (Mem.add (Mem.add (Mem.add F q28) q41) q54) q67) [[(b17, row [.int .i8 1] 45)]] _ hs85
        have hs85 := (hs85.arrange 6 2 [0, 2, 3, 4, 5] [7, 1, 6] (by decide))
        refine ⟨(Mem.add (Mem.add (Mem.add (Mem.add (Mem.add F q28) q41) q54) q67) q80), (p82 :: [(b17, row [.int .i8 1] 45)] :: [(b8, row [.int .i64 x78.2.room, .map (some b81)] 62)] :: Φ), hs85, trivial, ?_⟩
        refine WO.move rfl rfl rfl rfl ?_
        obtain ⟨x86, hx87, hr⟩ := bind_some' hr
        refine WO.call rfl rfl rfl rfl rfl cl_8 (CallsRet.lay0 5 3 [] [0, 1, 2, 3, 4, 5, 6, 7] (by decide) F (q80 :: q67 :: q54 :: q41 :: q28 :: p82 :: [(b17, row [.int .i8 1] 45)] :: [(b8, row [.int .i64 x78.2.room, .map (some b81)] 62)] :: Φ) rfl rfl (law12_spot_ok (F := F) hx87 (q80 :: q67 :: q54 :: q41 :: q28 :: p82 :: [(b17, row [.int .i8 1] 45)] :: [(b8, row [.int .i64 x78.2.room, .map (some b81)] 62)] :: Φ))) ?_
        rintro _ _ ⟨cs88, rfl, hs90, rfl⟩
        have hs90 := (hs90.arrange 0 8 [0, 1, 2, 3, 4] [5, 6, 7] (by decide))
        refine ⟨(Mem.add (Mem.add (Mem.add (Mem.add (Mem.add F q28) q41) q54) q67) q80), (p82 :: [(b17, row [.int .i8 1] 45)] :: [(b8, row [.int .i64 x78.2.room, .map (some b81)] 62)] :: Φ), hs90, trivial, ?_⟩
        refine WO.move rfl rfl rfl rfl ?_
        refine WO.buildSl (e := 45) (vs := [.const (.int .i8 2)]) [0] [.int .i8 2] rfl rfl rfl rfl rfl (fun _ => by kernel_rfl) (fun _ _ _ => trivial) (fun b91 => ?_)
        have ho93 : OwnL 1 (RInt .i8) F 45 (some ⟨b91, 0, none⟩) 1 [2] [(b91, row [.int .i8 2] 45)] := ⟨Nat.le_refl _, .inr ⟨_, [[.int .i8 2]], [], rfl, rfl, (Rs.cons (x := 2) (cs := [.int .i8 2]) rfl rfl rfl Rs.nil), rfl⟩⟩
        obtain ⟨x95, hx96, hr⟩ := bind_some' hr
        refine WO.call rfl rfl rfl rfl rfl cl_10 (CallsRet.lay 5 4 2 [5, 7, 0, 1, 2, 3, 4] [8, 6] (by decide) (Mem.add (Mem.add (Mem.add (Mem.add (Mem.add (Mem.add F q28) q41) q54) q67) q80) (List.flatten [[(b91, row [.int .i8 2] 45)], [(b17, row [.int .i8 1] 45)]])) ([(b8, row [.int .i64 x78.2.room, .map (some b81)] 62)] :: p82 :: Φ) rfl rfl (cache_Store_Put_vm_ok (F := (Mem.add (Mem.add (Mem.add (Mem.add (Mem.add F q28) q41) q54) q67) q80)) (χ := (List.flatten [[(b91, row [.int .i8 2] 45)], [(b17, row [.int .i8 1] 45)]])) hm84 rfl (((OwnL.re (G := F) (const_int _) ho24).rd (mono_int _)).mono (mono_int _) (Mem.le.trans (Mem.le_pick (Mem.add (Mem.add (Mem.add (Mem.add (Mem.add (Mem.add (Mem.add F q28) q41) q54) q67) q80) [(b17, row [.int .i8 1] 45)]) [(b91, row [.int .i8 2] 45)]) 7 [1] (by decide)) (Mem.le_gather (Mem.add (Mem.add (Mem.add (Mem.add (Mem.add (Mem.add (Mem.add F q28) q41) q54) q67) q80) [(b17, row [.int .i8 1] 45)]) [(b91, row [.int .i8 2] 45)]) 2))) (((OwnL.re (G := F) (const_int _) ho93).rd (mono_int _)).mono (mono_int _) (Mem.le.trans (Mem.le_pick (Mem.add (Mem.add (Mem.add (Mem.add (Mem.add (Mem.add (Mem.add F q28) q41) q54) q67) q80) [(b17, row [.int .i8 1] 45)]) [(b91, row [.int .i8 2] 45)]) 7 [0] (by decide)) (Mem.le_gather (Mem.add (Mem.add (Mem.add (Mem.add (Mem.add (Mem.add (Mem.add F q28) q41) q54) q67) q80) [(b17, row [.int .i8 1] 45)]) [(b91, row [.int .i8 2] 45)]) 2))) hx96 (Φ))) ?_
        rintro _ _ ⟨q97, b98, p99, rfl, hs102, hm101⟩
        have hs102 := Sat.unlay1 (Mem.add (Mem.add (Mem.add (Mem.add (Mem.add F q28) q41) q54) q67) q80) [[(b91, row [.int .i8 2] 45)], [(b17, row [.int .i8 1] 45)]] _ hs102
        have hs102 := (hs102.arrange 8 2 [0, 3, 4, 5, 6, 7] [9, 1, 2, 8] (by decide))
        refine ⟨(Mem.add (Mem.add (Mem.add (Mem.add (Mem.add (Mem.add F q28) q41) q54) q67) q80) q97), (p99 :: [(b91, row [.int .i8 2] 45)] :: [(b17, row [.int .i8 1] 45)] :: [(b8, row [.int .i64 x95.2.room, .map (some b98)] 62)] :: Φ), hs102, trivial, ?_⟩
        refine WO.assign rfl rfl rfl rfl ?_
        refine WO.assign rfl rfl rfl rfl ?_
        refine WO.assign rfl rfl rfl rfl ?_
        refine WO.done ?_
        refine At.seq_wc ?_
        refine WC.seq (fun a w => ∃ (v104 : Bool) (v105 : S_cache_Store) (b106 : Nat) (p107 : List Chunk), law12_awake_k3 v104 v105 = some r ∧ Ctx 79 [(0, .bool v104)] a ∧ Sat (Mem.add (Mem.add (Mem.add (Mem.add (Mem.add (Mem.add F q28) q41) q54) q67) q80) q97) (p107 :: [(b91, row [.int .i8 2] 45)] :: [(b17, row [.int .i8 1] 45)] :: [(b8, row [.int .i64 v105.room, .map (some b106)] 62)] :: Φ) w ∧ OwnM enc_api_Spot (RVA R_cache_rows) (Mem.add (Mem.add (Mem.add (Mem.add (Mem.add (Mem.add F q28) q41) q54) q67) q80) q97) b106 v105.m p107) ?_ ?_
        · refine WC.region [(0, true), (1, true), (2, true), (3, true), (4, true), (5, true), (6, true), (7, true), (8, true), (9, true), (10, true), (11, true), (12, true), (13, true), (14, true), (15, true), (16, true), (17, true), (18, true), (19, true), (20, true), (21, true), (22, true), (23, true), (24, false), (25, false), (26, true), (27, true), (28, true)] rfl ?_
          refine WO.move rfl rfl rfl rfl ?_
          refine WO.bin rfl rfl rfl rfl rfl rfl ?_
          refine WO.move rfl rfl rfl rfl ?_
          refine WO.split (t := 53) rfl (fun hg110 => ?_) (fun hg110 => ?_)
          · have hr := cond_t hg110 hr
            refine WO.move rfl rfl rfl rfl ?_
            refine WO.bin rfl rfl rfl rfl rfl rfl ?_
            refine WO.pickT rfl rfl rfl rfl rfl ?_
            refine WO.move rfl rfl rfl rfl ?_
            refine WO.split (t := 57) rfl (fun hg111 => ?_) (fun hg111 => ?_)
            · have hr := cond_t hg111 hr
              refine WO.move rfl rfl rfl rfl ?_
              refine WO.bin rfl rfl rfl rfl rfl rfl ?_
              refine WO.pickT rfl rfl rfl rfl rfl ?_
              refine WO.move rfl rfl rfl rfl ?_
              refine WO.split (t := 61) rfl (fun hg112 => ?_) (fun hg112 => ?_)
              · have hr := cond_t hg112 hr
                refine WO.move rfl rfl rfl rfl ?_
                refine WO.bin rfl rfl rfl rfl rfl rfl ?_
                refine WO.pickT rfl rfl rfl rfl rfl ?_
                refine WO.move rfl rfl rfl rfl ?_
                refine WO.split (t := 65) rfl (fun hg113 => ?_) (fun hg113 => ?_)
                · have hr := cond_t hg113 hr
                  refine WO.move rfl rfl rfl rfl ?_
                  refine WO.bin rfl rfl rfl rfl rfl rfl ?_
                  refine WO.pickT rfl rfl rfl rfl rfl ?_
                  refine WO.move rfl rfl rfl rfl ?_
                  refine WO.split (t := 69) rfl (fun hg114 => ?_) (fun hg114 => ?_)
                  · have hr := cond_t hg114 hr
                    refine WO.move rfl rfl rfl rfl ?_
                    refine WO.bin rfl rfl rfl rfl rfl rfl ?_
                    refine WO.pickT rfl rfl rfl rfl rfl ?_
                    refine WO.move rfl rfl rfl rfl ?_
                    refine WO.split (t := 73) rfl (fun hg115 => ?_) (fun hg115 => ?_)
                    · have hr := cond_t hg115 hr
                      refine WO.move rfl rfl rfl rfl ?_
                      refine WO.buildSl (e := 3) (vs := [.const (.int .i64 7)]) [0] [.int .i64 7] rfl rfl rfl rfl rfl (fun _ => by kernel_rfl) (fun _ _ _ => trivial) (fun b116 => ?_)
                      have ho118 : OwnL 1 (RInt .i64) F 3 (some ⟨b116, 0, none⟩) 1 [7] [(b116, row [.int .i64 7] 3)] := ⟨Nat.le_refl _, .inr ⟨_, [[.int .i64 7]], [], rfl, rfl, (Rs.cons (x := 7) (cs := [.int .i64 7]) rfl rfl rfl Rs.nil), rfl⟩⟩
                      obtain ⟨x120, hx121, hr⟩ := bind_some' hr
                      refine WO.call rfl rfl rfl rfl rfl cl_9 (CallsRet.lay 6 5 1 [6, 0, 1, 2, 3, 4, 5] [10, 7, 8, 9] (by decide) (Mem.add (Mem.add (Mem.add (Mem.add (Mem.add (Mem.add (Mem.add F q28) q41) q54) q67) q80) q97) (List.flatten [[(b116, row [.int .i64 7] 3)]])) ([(b8, row [.int .i64 x95.2.room, .map (some b98)] 62)] :: p99 :: [(b91, row [.int .i8 2] 45)] :: [(b17, row [.int .i8 1] 45)] :: Φ) rfl rfl (cache_Store_Drop_vm_ok (F := (Mem.add (Mem.add (Mem.add (Mem.add (Mem.add (Mem.add F q28) q41) q54) q67) q80) q97)) (χ := (List.flatten [[(b116, row [.int .i64 7] 3)]])) hm101 (((OwnL.re (G := F) (const_int _) ho118).rd (mono_int _)).mono (mono_int _) (Mem.le.trans (Mem.le_pick (Mem.add (Mem.add (Mem.add (Mem.add (Mem.add (Mem.add (Mem.add F q28) q41) q54) q67) q80) q97) [(b116, row [.int .i64 7] 3)]) 7 [0] (by decide)) (Mem.le_gather (Mem.add (Mem.add (Mem.add (Mem.add (Mem.add (Mem.add (Mem.add F q28) q41) q54) q67) q80) q97) [(b116, row [.int .i64 7] 3)]) 1))) hx121 ([(b91, row [.int .i8 2] 45)] :: [(b17, row [.int .i8 1] 45)] :: Φ))) ?_
                      rintro _ _ ⟨b122, p123, rfl, hs126, hm125⟩
                      have hs126 := Sat.unlay (Mem.add (Mem.add (Mem.add (Mem.add (Mem.add (Mem.add F q28) q41) q54) q67) q80) q97) [[(b116, row [.int .i64 7] 3)]] hs126
                      have hs126 := (hs126.arrange 7 4 [1, 2, 3, 4, 5, 6] [8, 0, 9, 10, 7] (by decide))
                      refine ⟨(Mem.add (Mem.add (Mem.add (Mem.add (Mem.add (Mem.add F q28) q41) q54) q67) q80) q97), (p123 :: [(b116, row [.int .i64 7] 3)] :: [(b91, row [.int .i8 2] 45)] :: [(b17, row [.int .i8 1] 45)] :: [(b8, row [.int .i64 x120.2.room, .map (some b122)] 62)] :: Φ), hs126, trivial, ?_⟩
                      refine WO.bin rfl rfl rfl rfl rfl rfl ?_
                      refine WO.pickT rfl rfl rfl rfl rfl ?_
                      refine WO.assign rfl rfl rfl rfl ?_
                      refine WO.done ?_
                      refine At.seq_at ?_
                      exact fun a w hc hs => ⟨(x120.1 == 2), x120.2, b122, p123, hr, (hc.keep hc.nil (t := 0) rfl), (hs.arrange 6 5 [0, 1, 2, 3, 4, 5] [6, 8, 9, 10] (by decide)), hm125⟩
                    · have hr := cond_f hg115 hr
                      refine WO.skip rfl rfl rfl rfl ?_
                      refine WO.skipF rfl rfl rfl rfl ?_
                      refine WO.skipF rfl rfl rfl rfl ?_
                      refine WO.skip rfl rfl rfl rfl ?_
                      refine WO.pickF rfl rfl rfl rfl rfl ?_
                      refine WO.assign rfl rfl rfl rfl ?_
                      refine WO.done ?_
                      refine At.seq_at ?_
                      exact fun a w hc hs => ⟨false, x95.2, b98, p99, hr, (hc.keep hc.nil (t := 0) rfl), hs, hm101⟩
                  · have hr := cond_f hg114 hr
                    refine WO.skip rfl rfl rfl rfl ?_
                    refine WO.skip rfl rfl rfl rfl ?_
                    refine WO.pickF rfl rfl rfl rfl rfl ?_
                    refine WO.move rfl rfl rfl rfl ?_
                    refine WO.skip rfl rfl rfl rfl ?_
                    refine WO.skipF rfl rfl rfl rfl ?_
                    refine WO.skipF rfl rfl rfl rfl ?_
                    refine WO.skip rfl rfl rfl rfl ?_
                    refine WO.pickF rfl rfl rfl rfl rfl ?_
                    refine WO.assign rfl rfl rfl rfl ?_
                    refine WO.done ?_
                    refine At.seq_at ?_
                    exact fun a w hc hs => ⟨false, x95.2, b98, p99, hr, (hc.keep hc.nil (t := 0) rfl), hs, hm101⟩
                · have hr := cond_f hg113 hr
                  refine WO.skip rfl rfl rfl rfl ?_
                  refine WO.skip rfl rfl rfl rfl ?_
                  refine WO.pickF rfl rfl rfl rfl rfl ?_
                  refine WO.move rfl rfl rfl rfl ?_
                  refine WO.skip rfl rfl rfl rfl ?_
                  refine WO.skip rfl rfl rfl rfl ?_
                  refine WO.pickF rfl rfl rfl rfl rfl ?_
                  refine WO.move rfl rfl rfl rfl ?_
                  refine WO.skip rfl rfl rfl rfl ?_
                  refine WO.skipF rfl rfl rfl rfl ?_
                  refine WO.skipF rfl rfl rfl rfl ?_
                  refine WO.skip rfl rfl rfl rfl ?_
                  refine WO.pickF rfl rfl rfl rfl rfl ?_
                  refine WO.assign rfl rfl rfl rfl ?_
                  refine WO.done ?_
                  refine At.seq_at ?_
                  exact fun a w hc hs => ⟨false, x95.2, b98, p99, hr, (hc.keep hc.nil (t := 0) rfl), hs, hm101⟩
              · have hr := cond_f hg112 hr
                refine WO.skip rfl rfl rfl rfl ?_
                refine WO.skip rfl rfl rfl rfl ?_
                refine WO.pickF rfl rfl rfl rfl rfl ?_
                refine WO.move rfl rfl rfl rfl ?_
                refine WO.skip rfl rfl rfl rfl ?_
                refine WO.skip rfl rfl rfl rfl ?_
                refine WO.pickF rfl rfl rfl rfl rfl ?_
                refine WO.move rfl rfl rfl rfl ?_
                refine WO.skip rfl rfl rfl rfl ?_
                refine WO.skip rfl rfl rfl rfl ?_
                refine WO.pickF rfl rfl rfl rfl rfl ?_
                refine WO.move rfl rfl rfl rfl ?_
                refine WO.skip rfl rfl rfl rfl ?_
                refine WO.skipF rfl rfl rfl rfl ?_
                refine WO.skipF rfl rfl rfl rfl ?_
                refine WO.skip rfl rfl rfl rfl ?_
                refine WO.pickF rfl rfl rfl rfl rfl ?_
                refine WO.assign rfl rfl rfl rfl ?_
                refine WO.done ?_
                refine At.seq_at ?_
                exact fun a w hc hs => ⟨false, x95.2, b98, p99, hr, (hc.keep hc.nil (t := 0) rfl), hs, hm101⟩
            · have hr := cond_f hg111 hr
              refine WO.skip rfl rfl rfl rfl ?_
              refine WO.skip rfl rfl rfl rfl ?_
              refine WO.pickF rfl rfl rfl rfl rfl ?_
              refine WO.move rfl rfl rfl rfl ?_
              refine WO.skip rfl rfl rfl rfl ?_
              refine WO.skip rfl rfl rfl rfl ?_
              refine WO.pickF rfl rfl rfl rfl rfl ?_
              refine WO.move rfl rfl rfl rfl ?_
              refine WO.skip rfl rfl rfl rfl ?_
              refine WO.skip rfl rfl rfl rfl ?_
              refine WO.pickF rfl rfl rfl rfl rfl ?_
              refine WO.move rfl rfl rfl rfl ?_
              refine WO.skip rfl rfl rfl rfl ?_
              refine WO.skip rfl rfl rfl rfl ?_
              refine WO.pickF rfl rfl rfl rfl rfl ?_
              refine WO.move rfl rfl rfl rfl ?_
              refine WO.skip rfl rfl rfl rfl ?_
              refine WO.skipF rfl rfl rfl rfl ?_
              refine WO.skipF rfl rfl rfl rfl ?_
              refine WO.skip rfl rfl rfl rfl ?_
              refine WO.pickF rfl rfl rfl rfl rfl ?_
              refine WO.assign rfl rfl rfl rfl ?_
              refine WO.done ?_
              refine At.seq_at ?_
              exact fun a w hc hs => ⟨false, x95.2, b98, p99, hr, (hc.keep hc.nil (t := 0) rfl), hs, hm101⟩
          · have hr := cond_f hg110 hr
            refine WO.skip rfl rfl rfl rfl ?_
            refine WO.skip rfl rfl rfl rfl ?_
            refine WO.pickF rfl rfl rfl rfl rfl ?_
            refine WO.move rfl rfl rfl rfl ?_
            refine WO.skip rfl rfl rfl rfl ?_
            refine WO.skip rfl rfl rfl rfl ?_
            refine WO.pickF rfl rfl rfl rfl rfl ?_
            refine WO.move rfl rfl rfl rfl ?_
            refine WO.skip rfl rfl rfl rfl ?_
            refine WO.skip rfl rfl rfl rfl ?_
            refine WO.pickF rfl rfl rfl rfl rfl ?_
            refine WO.move rfl rfl rfl rfl ?_
            refine WO.skip rfl rfl rfl rfl ?_
            refine WO.skip rfl rfl rfl rfl ?_
            refine WO.pickF rfl rfl rfl rfl rfl ?_
            refine WO.move rfl rfl rfl rfl ?_
            refine WO.skip rfl rfl rfl rfl ?_
            refine WO.skip rfl rfl rfl rfl ?_
            refine WO.pickF rfl rfl rfl rfl rfl ?_
            refine WO.move rfl rfl rfl rfl ?_
            refine WO.skip rfl rfl rfl rfl ?_
            refine WO.skipF rfl rfl rfl rfl ?_
            refine WO.skipF rfl rfl rfl rfl ?_
            refine WO.skip rfl rfl rfl rfl ?_
            refine WO.pickF rfl rfl rfl rfl rfl ?_
            refine WO.assign rfl rfl rfl rfl ?_
            refine WO.done ?_
            refine At.seq_at ?_
            exact fun a w hc hs => ⟨false, x95.2, b98, p99, hr, (hc.keep hc.nil (t := 0) rfl), hs, hm101⟩
        · rintro a w ⟨v104, v105, b106, p107, hr, hc, hs, hm108⟩
          refine WC.use hc hs ?_
          clear hc hs
          unfold law12_awake_k3 at hr
          refine WC.ret ?_
          obtain rfl := Option.some.inj hr
          exact At.ret (fun a w hc hs => (resVs_cons (hc.res rfl) resVs_nil)) (fun w hs => ⟨rfl, (hs.arrange 6 4 [] [] (by decide))⟩)
/-! (*peloton/cache.Store).Get -/
def cache_Store_Get_vm (p0 : S_cache_Store) (p1 : S_api_Spot) : Option ((List Int) × (List Int) × Bool) := (some (Option.getD (mget p0.m p1) (⟨([] : List Int), ([] : List Int)⟩ : S_cache_rows))).bind fun x3 => (slices_Clone_int8_int8 x3.k_).bind fun x16 => (slices_Clone_int8_int8 x3.v_).bind fun x24 => some (x16, x24, (Option.isSome (mget p0.m p1)))
theorem cache_Store_Get_vm_ok {F : Mem} {p0 : S_cache_Store} {p1 : S_api_Spot} {b_0 : Nat} {bm_0_1 : Nat} {ψ_0_1 : List Chunk} (hm_0_1 : OwnM enc_api_Spot (RVA R_cache_rows) F bm_0_1 p0.m ψ_0_1) {cs_1 : List Value} (h_1 : R_api_Spot F cs_1 p1) {r : (List Int) × (List Int) × Bool} (hr : cache_Store_Get_vm p0 p1 = some r) (Φ : List (List Chunk)) :
    CallsRet Try.prog 13 (List.toArray [.pointer (some ⟨b_0, 0, none⟩), .agg cs_1.toArray]) F ([(b_0, row [.int .i64 p0.room, .map (some bm_0_1)] 62)] :: ψ_0_1 :: Φ) (fun v w => ∃ a0 c0 ψ0 a1 c1 ψ1, v = .tuple (List.toArray [.slice a0 r.1.length c0, .slice a1 r.2.1.length c1, .bool r.2.2]) ∧ Sat F (ψ0 :: ψ1 :: [(b_0, row [.int .i64 p0.room, .map (some bm_0_1)] 62)] :: ψ_0_1 :: Φ) w ∧ OwnL 1 (RInt .i8) F 45 a0 c0 r.1 ψ0 ∧ OwnL 1 (RInt .i8) F 45 a1 c1 r.2.1 ψ1) := by
  obtain rfl := h_1
  refine CallsRet.enter (rs := [.tmp 4, .tmp 5, .tmp 6]) Try.func13 rfl rfl rfl rfl ?_
  unfold cache_Store_Get_vm at hr
  refine WC.then ?_
  refine WC.region [(0, false), (1, true), (2, true), (3, true)] rfl ?_
  refine WO.box rfl rfl rfl rfl rfl (fun _ _ _ => trivial) (fun b1 => ?_)
  refine WO.assign rfl rfl rfl rfl ?_
  refine WO.assign rfl rfl rfl rfl ?_
  refine WO.assign rfl rfl rfl rfl ?_
  refine WO.done ?_
  refine At.seq_wc ?_
  refine WC.then ?_
  refine WC.draw (Sat F ([(b1, row [.int .i64 p1.Request, .int .i64 p1.Layer, .int .i64 p1.Place] 30)] :: [(b_0, row [.int .i64 p0.room, .map (some bm_0_1)] 62)] :: ψ_0_1 :: Φ)) (fun _ h => (h.arrange 0 3 [] [0, 1, 2] (by decide))) [(0, true), (1, true), (2, true), (3, true), (4, true), (5, true), (6, true), (7, true), (8, true), (9, false), (10, false), (11, true)] mixed (by kernel_rfl) rfl (by kernel_rfl) ?_
  refine WO.move rfl rfl rfl rfl ?_
  refine WO.nilCheck rfl rfl rfl rfl ?_
  refine WO.fieldAddr 1 rfl rfl rfl rfl fl_62_1 ?_
  refine WO.loadY 1 rfl rfl rfl rfl sc_60 rfl rfl ?_
  refine WO.loadAY 0 3 rfl rfl rfl rfl ag_30 rfl rfl rfl ?_
  obtain ⟨x3, hx4, hr⟩ := bind_some' hr
  have hx4 := Option.some.inj hx4
  refine WO.lookupY (q := p1) (z' := (⟨([] : List Int), ([] : List Int)⟩ : S_cache_rows)) true 2 key_30 hm_0_1 rfl zb_65 ⟨_, rfl, ⟨_, _, _, _, rfl, RdL.nil, RdL.nil⟩⟩ rfl rfl rfl rfl rfl Try.underlying60 (fun v5 hv6 => ?_)
  rw [hx4] at hv6
  obtain ⟨cs7, rfl, hv6⟩ := hv6
  obtain ⟨a8, c9, a11, c12, rfl, h10, h13⟩ := hv6
  refine WO.move rfl rfl rfl rfl ?_
  refine WO.extract rfl rfl rfl rfl rfl ?_
  refine WO.extract rfl rfl rfl rfl rfl ?_
  refine WO.alloc (.agg #[.slice none 0 0, .slice none 0 0]) rfl rfl rfl zb_65 rfl (fun _ _ h => (h.arrange 0 4 [] [1, 2, 3] (by decide))) (fun b14 => ?_)
  refine WO.storeA 0 2 rfl rfl rfl rfl sz_65 rfl rfl rfl rfl (fun _ h => (h.arrange 0 4 [] [1, 2, 3] (by decide))) ?_
  refine WO.assign rfl rfl rfl rfl ?_
  refine WO.done ?_
  refine At.seq_wc ?_
  refine WC.then ?_
  refine WC.draw (Sat F ([(b14, row [.slice a8 x3.k_.length c9, .slice a11 x3.v_.length c12] 65)] :: [(b1, row [.int .i64 p1.Request, .int .i64 p1.Layer, .int .i64 p1.Place] 30)] :: [(b_0, row [.int .i64 p0.room, .map (some bm_0_1)] 62)] :: Φ)) (fun _ h => (h.arrange 0 4 [] [0, 1, 2] (by decide))) [(0, true), (1, true), (3, true), (4, true), (6, true), (2, false), (5, false), (7, true), (8, true), (9, true)] mixed (by kernel_rfl) rfl (by kernel_rfl) ?_
  refine WO.fieldAddr 0 rfl rfl rfl rfl fl_65_0 ?_
  refine WO.loadY 0 rfl rfl rfl rfl sc_31 rfl rfl ?_
  refine WO.fieldAddr 1 rfl rfl rfl rfl fl_65_1 ?_
  refine WO.loadY 0 rfl rfl rfl rfl sc_31 rfl rfl ?_
  refine WO.move rfl rfl rfl rfl ?_
  obtain ⟨x16, hx17, hr⟩ := bind_some' hr
  refine WO.call rfl rfl rfl rfl rfl cl_28 (CallsRet.lay 0 4 0 [] [0, 1, 2, 3] (by decide) (Mem.add F (List.flatten [])) ([(b14, row [.slice a8 x3.k_.length c9, .slice a11 x3.v_.length c12] 65)] :: [(b1, row [.int .i64 p1.Request, .int .i64 p1.Layer, .int .i64 p1.Place] 30)] :: [(b_0, row [.int .i64 p0.room, .map (some bm_0_1)] 62)] :: ψ_0_1 :: Φ) rfl rfl (slices_Clone_int8_int8_ok (F := F) (χ := (List.flatten [])) (h10.mono (mono_int _) (Mem.le_gather F 0)) hx17 ([(b14, row [.slice a8 x3.k_.length c9, .slice a11 x3.v_.length c12] 65)] :: [(b1, row [.int .i64 p1.Request, .int .i64 p1.Layer, .int .i64 p1.Place] 30)] :: [(b_0, row [.int .i64 p0.room, .map (some bm_0_1)] 62)] :: ψ_0_1 :: Φ))) ?_
  rintro _ _ ⟨a18, c19, p21, rfl, hs23, h20⟩
  have hs23 := Sat.unlay F [] hs23
  have hs23 := (hs23.arrange 0 5 [] [0, 1, 2, 3, 4] (by decide))
  refine ⟨F, (p21 :: [(b14, row [.slice a8 x3.k_.length c9, .slice a11 x3.v_.length c12] 65)] :: [(b1, row [.int .i64 p1.Request, .int .i64 p1.Layer, .int .i64 p1.Place] 30)] :: [(b_0, row [.int .i64 p0.room, .map (some bm_0_1)] 62)] :: ψ_0_1 :: Φ), hs23, (hs23.arrange 0 5 [] [1, 2, 3] (by decide)), ?_⟩
  obtain ⟨x24, hx25, hr⟩ := bind_some' hr
  refine WO.call rfl rfl rfl rfl rfl cl_28 (CallsRet.lay 0 5 0 [] [0, 1, 2, 3, 4] (by decide) (Mem.add F (List.flatten [])) (p21 :: [(b14, row [.slice a8 x3.k_.length c9, .slice a11 x3.v_.length c12] 65)] :: [(b1, row [.int .i64 p1.Request, .int .i64 p1.Layer, .int .i64 p1.Place] 30)] :: [(b_0, row [.int .i64 p0.room, .map (some bm_0_1)] 62)] :: ψ_0_1 :: Φ) rfl rfl (slices_Clone_int8_int8_ok (F := F) (χ := (List.flatten [])) (h13.mono (mono_int _) (Mem.le_gather F 0)) hx25 (p21 :: [(b14, row [.slice a8 x3.k_.length c9, .slice a11 x3.v_.length c12] 65)] :: [(b1, row [.int .i64 p1.Request, .int .i64 p1.Layer, .int .i64 p1.Place] 30)] :: [(b_0, row [.int .i64 p0.room, .map (some bm_0_1)] 62)] :: ψ_0_1 :: Φ))) ?_
  rintro _ _ ⟨a26, c27, p29, rfl, hs31, h28⟩
  have hs31 := Sat.unlay F [] hs31
  have hs31 := (hs31.arrange 0 6 [] [0, 1, 2, 3, 4, 5] (by decide))
  refine ⟨F, (p29 :: p21 :: [(b14, row [.slice a8 x3.k_.length c9, .slice a11 x3.v_.length c12] 65)] :: [(b1, row [.int .i64 p1.Request, .int .i64 p1.Layer, .int .i64 p1.Place] 30)] :: [(b_0, row [.int .i64 p0.room, .map (some bm_0_1)] 62)] :: ψ_0_1 :: Φ), hs31, (hs31.arrange 0 6 [] [2, 3, 4] (by decide)), ?_⟩
  refine WO.assign rfl rfl rfl rfl ?_
  refine WO.assign rfl rfl rfl rfl ?_
  refine WO.assign rfl rfl rfl rfl ?_
  refine WO.done ?_
  refine At.seq_wc ?_
  refine WC.ret ?_
  obtain rfl := Option.some.inj hr
  exact At.ret (fun a w hc hs => (resVs_cons (hc.res rfl) (resVs_cons (hc.res rfl) (resVs_cons (hc.res rfl) resVs_nil)))) (fun w hs => ⟨_, _, _, _, _, _, rfl, (hs.arrange 0 6 [] [1, 0, 4, 5] (by decide)), (OwnL.re (G := F) (const_int _) h20), (OwnL.re (G := F) (const_int _) h28)⟩)
/-! peloton/pelotonref04.Bytes -/
def ref04_Bytes_k1  : Option Bool := some true
def ref04_Bytes_b2 (p0 : List Int) (p1 : List Int) (v7 : Int) : Option (Int ⊕ (Lp Bool Unit)) := cond (decide (v7 < (p0.length : Int))) ((getI p0 v7).bind fun x12 => (getI p1 v7).bind fun x17 => cond (x12 != x17) (some (.inr (.ret false))) (some (.inl (IntKind.wrap .i64 (v7 + 1))))) (some (.inr (.brk ())))
def ref04_Bytes (p0 : List Int) (p1 : List Int) : Option Bool := cond ((p0.length : Int) != (p1.length : Int)) (some false) ((loopO (fun s => ref04_Bytes_b2 p0 p1 s) 0).bind (fun | .ret r => some r | .brk _ => ref04_Bytes_k1 ))
theorem ref04_Bytes_ok {F : Mem} {χ : List Chunk} {p0 : List Int} {p1 : List Int} {a_0 : Option Addr} {c_0 : Nat} (h_0 : RdL 1 (RInt .i8) (Mem.add F χ) a_0 c_0 p0) {a_1 : Option Addr} {c_1 : Nat} (h_1 : RdL 1 (RInt .i8) (Mem.add F χ) a_1 c_1 p1) {r : Bool} (hr : ref04_Bytes p0 p1 = some r) (Φ : List (List Chunk)) :
    CallsRet Try.prog 14 (List.toArray [.slice a_0 p0.length c_0, .slice a_1 p1.length c_1]) (Mem.add F χ) Φ (fun v w => v = .bool r ∧ Sat (Mem.add F χ) (Φ) w) := by
  refine CallsRet.enter (rs := [.tmp 4]) Try.func14 rfl rfl rfl rfl ?_
  unfold ref04_Bytes at hr
  refine WC.then ?_
  refine WC.region [(0, true)] rfl ?_
  refine WO.assign rfl rfl rfl rfl ?_
  refine WO.done ?_
  refine At.seq_wc ?_
  refine WC.then ?_
  refine WC.then ?_
  refine WC.region [(0, true), (1, true), (2, true), (3, true), (4, true)] rfl ?_
  refine WO.move rfl rfl rfl rfl ?_
  refine WO.len rfl rfl rfl rfl Try.underlying31 ?_
  refine WO.move rfl rfl rfl rfl ?_
  refine WO.len rfl rfl rfl rfl Try.underlying31 ?_
  refine WO.bin rfl rfl rfl rfl rfl rfl ?_
  refine WO.done ?_
  refine At.seq_wc ?_
  refine WC.cond rfl (fun hb1 => ?_) (fun hb1 => ?_)
  · have hr := cond_t hb1 hr
    refine WC.then ?_
    refine WC.region [(0, true)] rfl ?_
    refine WO.assign rfl rfl rfl rfl ?_
    refine WO.done ?_
    refine At.seq_wc ?_
    refine WC.ret ?_
    refine At.seq_ret ?_
    obtain rfl := Option.some.inj hr
    exact At.ret (fun a w hc hs => (resVs_cons (hc.res rfl) resVs_nil)) (fun w hs => ⟨rfl, hs⟩)
  · have hr := cond_f hb1 hr
    refine WC.skip ?_
    refine At.seq_wc ?_
    refine WC.seq (fun a w => ref04_Bytes_k1  = some r ∧ Ctx 26 [] a ∧ Sat (Mem.add F χ) Φ w) ?_ ?_
    · refine WC.then ?_
      refine WC.region [(0, true)] rfl ?_
      refine WO.assign rfl rfl rfl rfl ?_
      refine WO.done ?_
      refine At.seq_wc ?_
      obtain ⟨xl3, hl3, hk3⟩ := bind_some' hr
      refine WC.weaken (fun a w => .brk () = xl3 ∧ Ctx 26 [] a ∧ Sat (Mem.add F χ) Φ w) ?_ ?_
      · refine WC.block ?_
        refine WC.loop (fun (v7 : Int) a w => Ctx 26 [(0, .slice a_0 p0.length c_0), (1, .slice a_1 p1.length c_1), (5, .int .i64 v7)] a ∧ Sat (Mem.add F χ) Φ w) hl3 ?_ ?_
        · exact fun a w hc hs => ⟨(hc.keep (hc.keep (hc.keep hc.nil (t := 5) rfl) (t := 1) rfl) (t := 0) rfl), hs⟩
        · rintro v7 r3 hr a w ⟨hc, hs⟩
          refine WC.use hc hs ?_
          clear hc hs
          (try dsimp only at hr)
          unfold ref04_Bytes_b2 at hr
          refine WC.then ?_
          refine WC.then ?_
          refine WC.region [(0, true), (1, true), (2, true), (3, true)] rfl ?_
          refine WO.move rfl rfl rfl rfl ?_
          refine WO.move rfl rfl rfl rfl ?_
          refine WO.len rfl rfl rfl rfl Try.underlying31 ?_
          refine WO.bin rfl rfl rfl rfl rfl rfl ?_
          refine WO.done ?_
          refine At.seq_wc ?_
          refine WC.cond rfl (fun hb11 => ?_) (fun hb11 => ?_)
          · have hr := cond_t hb11 hr
            refine WC.skip ?_
            refine At.seq_wc ?_
            refine WC.then ?_
            refine WC.block ?_
            refine WC.then ?_
            refine WC.draw (Sat (Mem.add F χ) (Φ)) (fun _ h => (h.arrange 1 0 [0] [] (by decide))) [(0, true), (1, true), (2, true), (3, true), (4, true), (5, true), (6, true), (7, true), (8, true)] mixed (by kernel_rfl) rfl (by kernel_rfl) ?_
            refine WO.move rfl rfl rfl rfl ?_
            refine WO.move rfl rfl rfl rfl ?_
            obtain ⟨x12, hx13, hr⟩ := bind_some' hr
            refine WO.indexR h_0 hx13 rfl rfl rfl rfl rfl rfl Try.underlying31 sz_45 ?_
            rintro b14 o15 _ hc16 rfl
            refine WO.loadP 0 hc16 rfl rfl rfl rfl rfl sc_45 rfl ?_
            refine WO.move rfl rfl rfl rfl ?_
            refine WO.move rfl rfl rfl rfl ?_
            obtain ⟨x17, hx18, hr⟩ := bind_some' hr
            refine WO.indexR h_1 hx18 rfl rfl rfl rfl rfl rfl Try.underlying31 sz_45 ?_
            rintro b19 o20 _ hc21 rfl
            refine WO.loadP 0 hc21 rfl rfl rfl rfl rfl sc_45 rfl ?_
            refine WO.bin rfl rfl rfl rfl rfl rfl ?_
            refine WO.done ?_
            refine At.seq_wc ?_
            refine WC.cond rfl (fun hb22 => ?_) (fun hb22 => ?_)
            · have hr := cond_t hb22 hr
              refine WC.then ?_
              refine WC.region [(0, true)] rfl ?_
              refine WO.assign rfl rfl rfl rfl ?_
              refine WO.done ?_
              refine At.seq_wc ?_
              refine WC.ret ?_
              refine At.block_ret ?_
              refine At.seq_ret ?_
              refine At.round_ret hr (fun hy => ?_)
              subst hy
              have hr := hk3
              refine At.block_ret ?_
              refine At.seq_ret ?_
              refine At.seq_ret ?_
              obtain rfl := Option.some.inj hr
              exact At.ret (fun a w hc hs => (resVs_cons (hc.res rfl) resVs_nil)) (fun w hs => ⟨rfl, hs⟩)
            · have hr := cond_f hb22 hr
              refine WC.skip ?_
              refine At.block_normal ?_
              refine At.seq_wc ?_
              refine WC.region [(0, true), (1, true), (2, true)] rfl ?_
              refine WO.move rfl rfl rfl rfl ?_
              refine WO.bin rfl rfl rfl rfl rfl rfl ?_
              refine WO.assign rfl rfl rfl rfl ?_
              refine WO.done ?_
              refine At.round_next hr ?_
              exact fun a w hc hs => ⟨(hc.keep (hc.keep (hc.keep hc.nil (t := 5) rfl) (t := 1) rfl) (t := 0) rfl), hs⟩
          · have hr := cond_f hb11 hr
            refine WC.exit ?_
            refine At.seq_exit ?_
            refine At.round_exit hr (fun hy => ?_)
            refine At.exit_block ?_
            refine At.seq_at ?_
            exact fun a w hc hs => ⟨hy, hc.nil, hs⟩
      · rintro a w ⟨rfl, hc, hs⟩
        refine At.use hc hs ?_
        clear hc hs
        (try dsimp only at hk3)
        have hr := hk3
        refine At.seq_at ?_
        exact fun a w hc hs => ⟨hr, hc.nil, hs⟩
    · rintro a w ⟨hr, hc, hs⟩
      refine WC.use hc hs ?_
      clear hc hs
      unfold ref04_Bytes_k1 at hr
      refine WC.then ?_
      refine WC.region [(0, true)] rfl ?_
      refine WO.assign rfl rfl rfl rfl ?_
      refine WO.done ?_
      refine At.seq_wc ?_
      refine WC.ret ?_
      obtain rfl := Option.some.inj hr
      exact At.ret (fun a w hc hs => (resVs_cons (hc.res rfl) resVs_nil)) (fun w hs => ⟨rfl, hs⟩)
/-! (*peloton/cache.Store).Line -/
def cache_Store_Line_vm_b1 (p0 : S_cache_Store) (p1 : Int) (p2 : Int) (v21 : List (List Int)) (v27 : List (List Int)) (v35 : Int) : Option (((List (List Int)) × (List (List Int)) × Int) ⊕ (Lp ((List (List Int)) × (List (List Int))) Unit)) := (cache_Store_Get_vm p0 (⟨p1, p2, v35⟩ : S_api_Spot)).bind fun x52 => cond (!x52.2.2) (some (.inr (.ret (v21, v27)))) ((app v21 [x52.1]).bind fun x68 => (app v27 [x52.2.1]).bind fun x76 => some (.inl (x68, x76, (IntKind.wrap .i64 (v35 + 1)))))
def cache_Store_Line_vm (p0 : S_cache_Store) (p1 : Int) (p2 : Int) : Option ((List (List Int)) × (List (List Int))) := (loopO (fun s => cache_Store_Line_vm_b1 p0 p1 p2 s.1 s.2.1 s.2.2) (([] : List (List Int)), ([] : List (List Int)), 0)).bind (fun | .ret r => some r | .brk _ => none)
theorem cache_Store_Line_vm_ok {F : Mem} {p0 : S_cache_Store} {p1 : Int} {p2 : Int} {b_0 : Nat} {bm_0_1 : Nat} {ψ_0_1 : List Chunk} (hm_0_1 : OwnM enc_api_Spot (RVA R_cache_rows) F bm_0_1 p0.m ψ_0_1) {r : (List (List Int)) × (List (List Int))} (hr : cache_Store_Line_vm p0 p1 p2 = some r) (Φ : List (List Chunk)) :
    CallsRet Try.prog 11 (List.toArray [.pointer (some ⟨b_0, 0, none⟩), .int .i64 p1, .int .i64 p2]) F ([(b_0, row [.int .i64 p0.room, .map (some bm_0_1)] 62)] :: ψ_0_1 :: Φ) (fun v w => ∃ a0 c0 ψ0 a1 c1 ψ1, v = .tuple (List.toArray [.slice a0 r.1.length c0, .slice a1 r.2.length c1]) ∧ Sat F (ψ0 :: ψ1 :: [(b_0, row [.int .i64 p0.room, .map (some bm_0_1)] 62)] :: ψ_0_1 :: Φ) w ∧ OwnE 1 RO_L31 F 31 a0 c0 r.1 ψ0 ∧ OwnE 1 RO_L31 F 31 a1 c1 r.2 ψ1) := by
  refine CallsRet.enter (rs := [.tmp 6, .tmp 7]) Try.func11 rfl rfl rfl rfl ?_
  unfold cache_Store_Line_vm at hr
  refine WC.then ?_
  refine WC.region [(0, true), (1, true)] rfl ?_
  refine WO.assign rfl rfl rfl rfl ?_
  refine WO.assign rfl rfl rfl rfl ?_
  refine WO.done ?_
  refine At.seq_wc ?_
  refine WC.then ?_
  refine WC.region [(0, true), (1, true)] rfl ?_
  refine WO.assign rfl rfl rfl rfl ?_
  refine WO.assign rfl rfl rfl rfl ?_
  refine WO.done ?_
  refine At.seq_wc ?_
  refine WC.then ?_
  refine WC.region [(0, true), (1, true), (2, true), (3, false), (4, false)] rfl ?_
  refine WO.move rfl rfl rfl rfl ?_
  refine WO.move rfl rfl rfl rfl ?_
  refine WO.build (vs := [.tmp 14, .tmp 15]) [0, 1] (.agg (List.toArray [.int .i64 p1, .int .i64 p2, .int .i64 0])) rfl rfl rfl rfl rfl (fun _ => by kernel_rfl) ?_
  refine WO.alloc (.agg #[.int .i64 0, .int .i64 0, .int .i64 0]) rfl rfl rfl zb_30 rfl (fun _ _ _ => trivial) (fun b1 => ?_)
  refine WO.storeA 0 3 rfl rfl rfl rfl sz_30 rfl rfl rfl rfl (fun _ _ => trivial) ?_
  refine WO.done ?_
  refine At.seq_wc ?_
  obtain ⟨xl2, hl2, hk2⟩ := bind_some' hr
  refine WC.weaken (fun _ _ => False) ?_ (fun _ _ h => h.elim)
  refine WC.block ?_
  refine WC.loop (fun ⟨v21, v27, v35⟩ a w => ∃ (a22 : Option Addr) (c23 : Nat) (p24 : List Chunk) (a28 : Option Addr) (c29 : Nat) (p30 : List Chunk) (b34 : Nat), Ctx 41 [(0, .pointer (some ⟨b_0, 0, none⟩)), (8, .slice a22 v21.length c23), (9, .slice a28 v27.length c29), (10, .pointer (some ⟨b34, 0, none⟩))] a ∧ Sat F (p24 :: p30 :: [(b34, row [.int .i64 p1, .int .i64 p2, .int .i64 v35] 30)] :: [(b_0, row [.int .i64 p0.room, .map (some bm_0_1)] 62)] :: ψ_0_1 :: Φ) w ∧ OwnE 1 RO_L31 F 31 a22 c23 v21 p24 ∧ OwnE 1 RO_L31 F 31 a28 c29 v27 p30) hl2 ?_ ?_
  · refine At.empty ?_
    have ho85 : OwnE 1 RO_L31 F 31 none 0 ([] : List (List Int)) [] := OwnE.nil
    refine At.empty ?_
    have ho87 : OwnE 1 RO_L31 F 31 none 0 ([] : List (List Int)) [] := OwnE.nil
    exact fun a w hc hs => ⟨none, 0, [], none, 0, [], b1, (hc.keep (hc.keep (hc.keep (hc.keep hc.nil (t := 10) rfl) (t := 9) rfl) (t := 8) rfl) (t := 0) rfl), (hs.arrange 0 5 [] [1, 0, 2, 3, 4] (by decide)), (OwnE.re (G := F) constE_L31 ho85), (OwnE.re (G := F) constE_L31 ho87)⟩
  · rintro ⟨v21, v27, v35⟩ r2 hr a w ⟨a22, c23, p24, a28, c29, p30, b34, hc, hs, ho25, ho31⟩
    refine WC.use hc hs ?_
    clear hc hs
    (try dsimp only at hr)
    unfold cache_Store_Line_vm_b1 at hr
    refine WC.then ?_
    refine WC.block ?_
    refine WC.then ?_
    refine WC.region [(0, true), (1, false), (2, false), (3, true), (4, true), (5, true), (6, true), (7, true), (8, true), (9, true)] rfl ?_
    refine WO.move rfl rfl rfl rfl ?_
    refine WO.loadA 2 3 rfl rfl rfl rfl ag_30 rfl rfl rfl ?_
    obtain ⟨x52, hx53, hr⟩ := bind_some' hr
    refine WO.call rfl rfl rfl rfl rfl cl_13 (CallsRet.lay0 0 5 [] [3, 4, 0, 1, 2] (by decide) F ([(b_0, row [.int .i64 p0.room, .map (some bm_0_1)] 62)] :: ψ_0_1 :: p24 :: p30 :: [(b34, row [.int .i64 p1, .int .i64 p2, .int .i64 v35] 30)] :: Φ) rfl rfl (cache_Store_Get_vm_ok (F := F) (p1 := (⟨p1, p2, v35⟩ : S_api_Spot)) hm_0_1 rfl hx53 (p24 :: p30 :: [(b34, row [.int .i64 p1, .int .i64 p2, .int .i64 v35] 30)] :: Φ))) ?_
    rintro _ _ ⟨a54, c55, p57, a59, c60, p62, rfl, hs64, h56, h61⟩
    have hs64 := (hs64.arrange 0 7 [] [0, 1, 4, 5, 6, 2, 3] (by decide))
    refine ⟨F, (p57 :: p62 :: p24 :: p30 :: [(b34, row [.int .i64 p1, .int .i64 p2, .int .i64 v35] 30)] :: [(b_0, row [.int .i64 p0.room, .map (some bm_0_1)] 62)] :: ψ_0_1 :: Φ), hs64, trivial, ?_⟩
    refine WO.move rfl rfl rfl rfl ?_
    refine WO.extract rfl rfl rfl rfl rfl ?_
    refine WO.extract rfl rfl rfl rfl rfl ?_
    refine WO.extract rfl rfl rfl rfl rfl ?_
    refine WO.assign rfl rfl rfl rfl ?_
    refine WO.assign rfl rfl rfl rfl ?_
    refine WO.assign rfl rfl rfl rfl ?_
    refine WO.done ?_
    refine At.seq_wc ?_
    refine WC.then ?_
    refine WC.then ?_
    refine WC.region [(0, true), (1, true)] rfl ?_
    refine WO.move rfl rfl rfl rfl ?_
    refine WO.un rfl rfl rfl rfl rfl ?_
    refine WO.done ?_
    refine At.seq_wc ?_
    refine WC.cond rfl (fun hb65 => ?_) (fun hb65 => ?_)
    · have hr := cond_t hb65 hr
      refine WC.then ?_
      refine WC.region [(0, true), (1, true), (2, true), (3, true)] rfl ?_
      refine WO.move rfl rfl rfl rfl ?_
      refine WO.move rfl rfl rfl rfl ?_
      refine WO.assign rfl rfl rfl rfl ?_
      refine WO.assign rfl rfl rfl rfl ?_
      refine WO.done ?_
      refine At.seq_wc ?_
      refine WC.ret ?_
      refine At.seq_ret ?_
      refine At.block_ret ?_
      refine At.seq_ret ?_
      refine At.round_ret hr (fun hy => ?_)
      subst hy
      have hr := hk2
      refine At.block_ret ?_
      refine At.seq_ret ?_
      obtain rfl := Option.some.inj hr
      exact At.ret (fun a w hc hs => (resVs_cons (hc.res rfl) (resVs_cons (hc.res rfl) resVs_nil))) (fun w hs => ⟨_, _, _, _, _, _, rfl, (hs.arrange 0 7 [] [2, 3, 5, 6] (by decide)), (OwnE.re (G := F) constE_L31 ho25), (OwnE.re (G := F) constE_L31 ho31)⟩)
    · have hr := cond_f hb65 hr
      refine WC.skip ?_
      refine At.seq_wc ?_
      refine WC.region [(0, true), (1, true), (2, false), (3, false), (4, true), (5, true), (6, false), (7, false), (8, true), (9, true)] rfl ?_
      refine WO.move rfl rfl rfl rfl ?_
      refine WO.move rfl rfl rfl rfl ?_
      refine WO.buildSl (e := 31) (vs := [.tmp 33]) [0] [.slice a54 x52.1.length c55] rfl rfl rfl rfl rfl (fun _ => by kernel_rfl) (fun _ _ _ => trivial) (fun b66 => ?_)
      refine WO.arrange 0 8 [] [1, 0, 2, 3, 4, 5, 6, 7] (by decide) F (p57 :: [(b66, row [.slice a54 x52.1.length c55] 31)] :: p62 :: p24 :: p30 :: [(b34, row [.int .i64 p1, .int .i64 p2, .int .i64 v35] 30)] :: [(b_0, row [.int .i64 p0.room, .map (some bm_0_1)] 62)] :: ψ_0_1 :: Φ) rfl rfl ?_
      obtain ⟨x68, hx69, hr⟩ := bind_some' hr
      refine WO.appendE (F1 := F) (Φ := ([(b66, row [.slice a54 x52.1.length c55] 31)] :: p62 :: p24 :: p30 :: [(b34, row [.int .i64 p1, .int .i64 p2, .int .i64 v35] 30)] :: [(b_0, row [.int .i64 p0.room, .map (some bm_0_1)] 62)] :: ψ_0_1 :: Φ)) (u := [.slice a54 x52.1.length c55]) (z := x52.1) 2 [p57] (OwnE.re (G := F) constE_L31 ho25) rfl ⟨_, _, _, rfl, rfl, (OwnL.re (G := F) (const_int _) h56)⟩ (SrcL.ofRow 0 Try.underlying37 [[.slice a54 x52.1.length c55]] rfl rfl rfl (Rs.cons (x := ([.slice a54 x52.1.length c55] : List Value)) (cs := [.slice a54 x52.1.length c55]) rfl rfl rfl Rs.nil)) hx69 rfl rfl rfl rfl rfl rfl Try.underlying37 el_31 (fun _ _ _ => trivial) (fun a70 c71 p72 hE73 => ?_)
      refine WO.move rfl rfl rfl rfl ?_
      refine WO.move rfl rfl rfl rfl ?_
      refine WO.buildSl (e := 31) (vs := [.tmp 37]) [0] [.slice a59 x52.2.1.length c60] rfl rfl rfl rfl rfl (fun _ => by kernel_rfl) (fun _ _ _ => trivial) (fun b74 => ?_)
      refine WO.arrange 0 8 [] [3, 0, 1, 2, 4, 5, 6, 7] (by decide) F (p62 :: [(b74, row [.slice a59 x52.2.1.length c60] 31)] :: p72 :: [(b66, row [.slice a54 x52.1.length c55] 31)] :: p30 :: [(b34, row [.int .i64 p1, .int .i64 p2, .int .i64 v35] 30)] :: [(b_0, row [.int .i64 p0.room, .map (some bm_0_1)] 62)] :: ψ_0_1 :: Φ) rfl rfl ?_
      obtain ⟨x76, hx77, hr⟩ := bind_some' hr
      refine WO.appendE (F1 := F) (Φ := ([(b74, row [.slice a59 x52.2.1.length c60] 31)] :: p72 :: [(b66, row [.slice a54 x52.1.length c55] 31)] :: p30 :: [(b34, row [.int .i64 p1, .int .i64 p2, .int .i64 v35] 30)] :: [(b_0, row [.int .i64 p0.room, .map (some bm_0_1)] 62)] :: ψ_0_1 :: Φ)) (u := [.slice a59 x52.2.1.length c60]) (z := x52.2.1) 3 [p62] (OwnE.re (G := F) constE_L31 ho31) rfl ⟨_, _, _, rfl, rfl, (OwnL.re (G := F) (const_int _) h61)⟩ (SrcL.ofRow 0 Try.underlying37 [[.slice a59 x52.2.1.length c60]] rfl rfl rfl (Rs.cons (x := ([.slice a59 x52.2.1.length c60] : List Value)) (cs := [.slice a59 x52.2.1.length c60]) rfl rfl rfl Rs.nil)) hx77 rfl rfl rfl rfl rfl rfl Try.underlying37 el_31 (fun _ _ _ => trivial) (fun a78 c79 p80 hE81 => ?_)
      refine WO.assign rfl rfl rfl rfl ?_
      refine WO.assign rfl rfl rfl rfl ?_
      refine WO.done ?_
      refine At.block_normal ?_
      refine At.seq_wc ?_
      refine WC.then ?_
      refine WC.then ?_
      refine WC.region [(0, false)] rfl ?_
      refine WO.loadA 4 3 rfl rfl rfl rfl ag_30 rfl rfl rfl ?_
      refine WO.done ?_
      refine At.seq_wc ?_
      refine WC.region [(0, false), (1, false)] rfl ?_
      refine WO.alloc (.agg #[.int .i64 0, .int .i64 0, .int .i64 0]) rfl rfl rfl zb_30 rfl (fun _ _ _ => trivial) (fun b82 => ?_)
      refine WO.storeA 0 3 rfl rfl rfl rfl sz_30 rfl rfl rfl rfl (fun _ _ => trivial) ?_
      refine WO.done ?_
      refine At.seq_wc ?_
      refine WC.region [(0, true), (1, false), (2, true), (3, true), (4, false)] rfl ?_
      refine WO.fieldAddr 2 rfl rfl rfl rfl fl_30_2 ?_
      refine WO.load 0 rfl rfl rfl rfl sc_3 rfl rfl ?_
      refine WO.bin rfl rfl rfl rfl rfl rfl ?_
      refine WO.fieldAddr 2 rfl rfl rfl rfl fl_30_2 ?_
      refine WO.store 0 rfl rfl rfl rfl sz_3 rfl rfl rfl (fun _ _ => trivial) ?_
      refine WO.done ?_
      refine At.round_next hr ?_
      exact fun a w hc hs => ⟨a70, c71, p72, a78, c79, p80, b82, (hc.keep (hc.keep (hc.keep (hc.keep hc.nil (t := 10) rfl) (t := 9) rfl) (t := 8) rfl) (t := 0) rfl), (hs.arrange 0 8 [] [3, 1, 0, 6, 7] (by decide)), (OwnE.re (G := F) constE_L31 hE73), (OwnE.re (G := F) constE_L31 hE81)⟩
/-! (*peloton/cache.Store).Requests -/
def cache_Store_Requests_vm (p0 : S_cache_Store) : Option ((List Int) × S_cache_Store) := (sortO (nubI (List.map (fun (q_1 : S_api_Spot × S_cache_rows) => q_1.1.Request) p0.m))).bind fun x29 => some (x29, p0)
theorem cache_Store_Requests_vm_ok {F : Mem} {p0 : S_cache_Store} {b_0 : Nat} {bm_0_1 : Nat} {ψ_0_1 : List Chunk} (hm_0_1 : OwnM enc_api_Spot (RVA R_cache_rows) F bm_0_1 p0.m ψ_0_1) {r : (List Int) × S_cache_Store} (hr : cache_Store_Requests_vm p0 = some r) (Φ : List (List Chunk)) :
    CallsRet Try.prog 15 (List.toArray [.pointer (some ⟨b_0, 0, none⟩)]) F ([(b_0, row [.int .i64 p0.room, .map (some bm_0_1)] 62)] :: ψ_0_1 :: Φ) (fun v w => ∃ a0 c0 ψ0 bm0_1 ψ0_1, v = .slice a0 r.1.length c0 ∧ Sat F (ψ0 :: [(b_0, row [.int .i64 r.2.room, .map (some bm0_1)] 62)] :: ψ0_1 :: Φ) w ∧ OwnL 1 (RInt .i64) F 3 a0 c0 r.1 ψ0 ∧ OwnM enc_api_Spot (RVA R_cache_rows) F bm0_1 r.2.m ψ0_1) := by
  refine CallsRet.enter (rs := [.tmp 2]) Try.func15 rfl rfl rfl rfl ?_
  unfold cache_Store_Requests_vm at hr
  refine WC.then ?_
  refine WC.region [(0, true)] rfl ?_
  refine WO.assign rfl rfl rfl rfl ?_
  refine WO.done ?_
  refine At.seq_wc ?_
  refine WC.then ?_
  refine WC.region [(0, false), (1, true)] rfl ?_
  refine WO.makeMap (F1 := F) (enc := (fun x : Int => Value.int .i64 x)) (RV := (RV1 RBool)) rfl rfl rfl (fun _ _ _ => trivial) (fun b1 p3 hm4 => ?_)
  refine WO.assign rfl rfl rfl rfl ?_
  refine WO.done ?_
  refine At.seq_wc ?_
  refine WC.then ?_
  refine WC.then ?_
  refine WC.region [(0, true), (1, true), (2, true), (3, false), (4, false)] rfl ?_
  refine WO.move rfl rfl rfl rfl ?_
  refine WO.nilCheck rfl rfl rfl rfl ?_
  refine WO.fieldAddr 1 rfl rfl rfl rfl fl_62_1 ?_
  refine WO.load 1 rfl rfl rfl rfl sc_60 rfl rfl ?_
  refine WO.range (F1 := F) 2 hm_0_1 rfl rfl rfl rfl rfl Try.underlying60 (fun _ _ _ => trivial) (fun b5 p6 hR7 => ?_)
  refine WO.done ?_
  refine At.seq_wc ?_
  refine WC.weaken (fun a w => ∃ (pn_1 : List Chunk) (hz_1 : List (Int × Bool)) (phz_1 : List Chunk), Ctx 21 [(3, .map (some b1))] a ∧ Sat F (phz_1 :: [(b_0, row [.int .i64 p0.room, .map (some bm_0_1)] 62)] :: pn_1 :: Φ) w ∧ OwnM enc_api_Spot (RVA R_cache_rows) F bm_0_1 p0.m pn_1 ∧ OwnM (fun x : Int => Value.int .i64 x) (RV1 RBool) F b1 hz_1 phz_1 ∧ KI (List.map (fun (q_1 : S_api_Spot × S_cache_rows) => q_1.1.Request) p0.m) hz_1) ?_ ?_
  · refine WC.block ?_
    refine WC.loopI (fun cnt_1 a w => ∃ (pm_1 pi_1 : List Chunk) (sk_1 : List S_api_Spot) (h_1 : List (Int × Bool)) (ph_1 : List Chunk), Ctx 21 [(3, .map (some b1)), (10, .pointer (some ⟨b5, 0, none⟩))] a ∧ Sat F (pi_1 :: ph_1 :: [(b_0, row [.int .i64 p0.room, .map (some bm_0_1)] 62)] :: pm_1 :: Φ) w ∧ RangeM enc_api_Spot (RVA R_cache_rows) F bm_0_1 p0.m pm_1 b5 pi_1 sk_1 ∧ MI (fun _ _ => some false) p0.m p0.m sk_1 cnt_1 ∧ OwnM (fun x : Int => Value.int .i64 x) (RV1 RBool) F b1 h_1 ph_1 ∧ AI (fun (q_1 : S_api_Spot × S_cache_rows) => q_1.1.Request) p0.m sk_1 h_1) (p0.m).length ?_ ?_
    · exact fun a w hc hs => ⟨_, _, [], _, _, (hc.keep (hc.keep hc.nil (t := 10) rfl) (t := 3) rfl), hs, hR7, MI.start hR7.nodup, hm4, AI.start⟩
    · rintro cnt_1 a w ⟨pm_1, pi_1, sk_1, h_1, ph_1, hc, hs, hR_1, hM_1, hh_1, hA_1⟩
      refine WC.use hc hs ?_
      clear hc hs
      have hmo_1 := hR_1.own
      refine WC.then ?_
      refine WC.region [(0, false), (1, true)] rfl ?_
      refine WO.next 3 0 hR_1 rfl rfl rfl rfl rfl rfl (fun _ _ _ => trivial) (fun _ _ => trivial) (fun ha_1 => ?_) (fun q_1 v13 p12 hp_1 hn_1 hv9 hR10 hC11 => ?_)
      · refine WO.extract rfl rfl rfl rfl rfl ?_
        refine WO.done ?_
        refine At.seq_wc ?_
        refine WC.then ?_
        refine WC.condF rfl ?_
        refine WC.exit ?_
        refine At.seq_exit ?_
        refine At.roundI_exit ?_
        refine At.exit_block ?_
        refine At.seq_at ?_
        exact fun a w hc hs => ⟨_, _, _, (hc.keep hc.nil (t := 3) rfl), (hs.arrange 0 4 [] [1, 2, 3] (by decide)), hR_1.own, hh_1, hA_1.over ha_1⟩
      · obtain ⟨cs14, rfl, hv9⟩ := hv9
        obtain ⟨a15, c16, a18, c19, rfl, h17, h20⟩ := hv9
        have hm21 := hR10.own
        refine WO.extract rfl rfl rfl rfl rfl ?_
        refine WO.done ?_
        refine At.seq_wc ?_
        refine WC.then ?_
        refine WC.condT rfl ?_
        refine WC.skip ?_
        refine At.seq_wc ?_
        refine WC.block ?_
        refine WC.then ?_
        refine WC.region [(0, false), (1, true), (2, false), (3, false)] rfl ?_
        refine WO.entry (k := q_1.1) 3 0 hC11 rfl rfl rfl rfl rfl rfl ?_
        refine WO.extract rfl rfl rfl rfl rfl ?_
        refine WO.alloc (.agg #[.int .i64 0, .int .i64 0, .int .i64 0]) rfl rfl rfl zb_30 rfl (fun _ _ _ => trivial) (fun b22 => ?_)
        refine WO.storeA 0 3 rfl rfl rfl rfl sz_30 rfl rfl rfl rfl (fun _ _ => trivial) ?_
        refine WO.done ?_
        refine At.seq_wc ?_
        refine WC.region [(0, true), (1, true), (2, false), (3, false)] rfl ?_
        refine WO.move rfl rfl rfl rfl ?_
        refine WO.fieldAddr 0 rfl rfl rfl rfl fl_30_0 ?_
        refine WO.load 0 rfl rfl rfl rfl sc_3 rfl rfl ?_
        refine WO.mapUpdate (q := q_1.1.Request) (u := true) 2 key_3 (OwnM.re (G := F) (constV1 const_bool) hh_1) rfl ⟨rfl, rfl⟩ rfl rfl rfl rfl rfl Try.underlying71 (fun _ _ _ => trivial) (fun p24 hm25 => ?_)
        refine WO.done ?_
        refine At.block_normal ?_
        obtain ⟨cn_1, hl_1, hN_1⟩ := hM_1.keep hp_1 hn_1 rfl
        refine At.roundI hl_1 ?_
        exact fun a w hc hs => ⟨_, _, _, _, _, (hc.keep (hc.keep hc.nil (t := 10) rfl) (t := 3) rfl), (hs.arrange 0 5 [] [1, 2, 3, 4] (by decide)), hR10, hN_1, hm25, hA_1.put hR10.nodup hp_1 _⟩
  · rintro a w ⟨pn_1, hz_1, phz_1, hc, hs, hmn_1, hhz_1, hkz_1⟩
    refine At.use hc hs ?_
    clear hc hs
    refine At.seq_wc ?_
    refine WC.then ?_
    refine WC.region [(0, true), (1, false), (2, false), (3, true)] rfl ?_
    refine WO.move rfl rfl rfl rfl ?_
    refine WO.call rfl rfl rfl rfl rfl cl_30 (sk_30_29.keysC (some b1)) ?_
    rintro _ _ ⟨b26, rfl, hs27⟩
    refine ⟨F, ([(b26, row [.map (some b1)] 71)] :: phz_1 :: [(b_0, row [.int .i64 p0.room, .map (some bm_0_1)] 62)] :: pn_1 :: Φ), hs27, trivial, ?_⟩
    obtain ⟨x29, hx30, hr⟩ := bind_some' hr
    refine WO.call rfl rfl rfl rfl rfl cl_29 (sk_30_29.sortedC 1 hhz_1 rfl (hkz_1.sort hhz_1.nodup hx30)) ?_
    rintro _ _ ⟨a31, c32, p33, rfl, hs34, ho35⟩
    have ho35 := ho35 F
    refine ⟨F, (p33 :: [(b26, row [.map (some b1)] 71)] :: phz_1 :: [(b_0, row [.int .i64 p0.room, .map (some bm_0_1)] 62)] :: pn_1 :: Φ), hs34, trivial, ?_⟩
    refine WO.assign rfl rfl rfl rfl ?_
    refine WO.done ?_
    refine At.seq_wc ?_
    refine WC.ret ?_
    obtain rfl := Option.some.inj hr
    exact At.ret (fun a w hc hs => (resVs_cons (hc.res rfl) resVs_nil)) (fun w hs => ⟨_, _, _, _, _, rfl, (hs.arrange 0 5 [] [0, 3, 4] (by decide)), (OwnL.re (G := F) (const_int _) ho35), hmn_1⟩)
/-! peloton/pelotonlaw12.CacheStays -/
def law12_CacheStays_k2  : Option Bool := some false
def law12_CacheStays_k5 (v44 : Bool) (v45 : S_cache_Store) : Option Bool := some v44
def law12_CacheStays_k4 (v6 : List S_law12_Act) (v38 : S_cache_Store) : Option Bool := (cache_Store_Drop_vm v38 [3]).bind fun x54 => cond (decide (x54.1 ≥ 1)) ((cache_Store_Requests_vm x54.2).bind fun x62 => law12_CacheStays_k5 (decide ((x62.1.length : Int) ≤ (v6.length : Int))) x62.2) (law12_CacheStays_k5 false x54.2)
def law12_CacheStays_k8 (v83 : Int) (v104 : S_cache_Store) : Option ((Int × S_cache_Store) ⊕ (Lp Bool S_cache_Store)) := some (.inl ((IntKind.wrap .i64 (v83 + 1)), v104))
def law12_CacheStays_b14 (p0 : List Int) (v185 : List (List Int)) (v191 : Int) : Option (((List (List Int)) × Int) ⊕ Unit) := cond (decide (v191 < (p0.length : Int))) ((getI v185 0).bind fun x210 => (getI x210 v191).bind fun x229 => some (.inl ((List.set v185 (Int.toNat 0) (List.set x210 (Int.toNat v191) 9)), (IntKind.wrap .i64 (v191 + 1))))) (some (.inr ()))
def law12_CacheStays_k13 (p0 : List Int) (v83 : Int) (v126 : S_cache_Store) (v167 : List (List Int)) (v173 : Bool) : Option ((Int × S_cache_Store) ⊕ (Lp Bool S_cache_Store)) := cond v173 (some (.inr (.ret false))) ((loopO (fun s => law12_CacheStays_b14 p0 s.1 s.2) (v167, 0)).bind (fun _ => law12_CacheStays_k8 v83 v126))
def law12_CacheStays_k12 (p0 : List Int) (v83 : Int) (v126 : S_cache_Store) : Option ((Int × S_cache_Store) ⊕ (Lp Bool S_cache_Store)) := (cache_Store_Line_vm v126 3 1).bind fun x153 => cond (decide ((x153.1.length : Int) < 1)) (law12_CacheStays_k13 p0 v83 v126 x153.1 true) ((getI x153.1 0).bind fun x251 => (ref04_Bytes x251 p0).bind fun x270 => law12_CacheStays_k13 p0 v83 v126 x153.1 (!x270))
def law12_CacheStays_b16 (v295 : List Int) (v301 : List Int) (v307 : Int) : Option (((List Int) × (List Int) × Int) ⊕ Unit) := cond (decide (v307 < (v295.length : Int))) ((getI v295 v307).bind fun x324 => (getI v301 v307).bind fun x330 => some (.inl ((List.set v295 (Int.toNat v307) 0), (List.set v301 (Int.toNat v307) 0), (IntKind.wrap .i64 (v307 + 1))))) (some (.inr ()))
def law12_CacheStays_k11 (p0 : List Int) (v83 : Int) (v126 : S_cache_Store) (x136 : (List Int) × (List Int) × Bool) (v150 : Bool) : Option ((Int × S_cache_Store) ⊕ (Lp Bool S_cache_Store)) := cond v150 (some (.inr (.ret false))) ((loopO (fun s => law12_CacheStays_b16  s.1 s.2.1 s.2.2) (x136.1, x136.2.1, 0)).bind (fun _ => law12_CacheStays_k12 p0 v83 v126))
def law12_CacheStays_k10 (p0 : List Int) (v2 : List Int) (v83 : Int) (v126 : S_cache_Store) : Option ((Int × S_cache_Store) ⊕ (Lp Bool S_cache_Store)) := (law12_spot 3 1 0).bind fun x131 => (cache_Store_Get_vm v126 x131).bind fun x136 => cond (!x136.2.2) (law12_CacheStays_k11 p0 v83 v126 x136 true) ((ref04_Bytes x136.1 p0).bind fun x337 => cond (!x337) (law12_CacheStays_k11 p0 v83 v126 x136 true) ((ref04_Bytes x136.2.1 v2).bind fun x341 => law12_CacheStays_k11 p0 v83 v126 x136 (!x341)))
def law12_CacheStays_k9 (p0 : List Int) (v2 : List Int) (v83 : Int) (v84 : S_cache_Store) (x109 : S_law12_Act) (v123 : Bool) : Option ((Int × S_cache_Store) ⊕ (Lp Bool S_cache_Store)) := cond v123 (some (.inr (.ret true))) (cond (x109.Kind == 0) ((cache_Store_Put_vm v84 x109.At x109.K x109.V).bind fun x345 => law12_CacheStays_k10 p0 v2 v83 x345.2) (cond (x109.Kind == 1) (cond (x109.At.Request != 3) ((cache_Store_Drop_vm v84 [x109.At.Request]).bind fun x359 => law12_CacheStays_k10 p0 v2 v83 x359.2) (law12_CacheStays_k10 p0 v2 v83 v84)) (law12_CacheStays_k10 p0 v2 v83 v84)))
def law12_CacheStays_b6 (p0 : List Int) (v2 : List Int) (v6 : List S_law12_Act) (v83 : Int) (v84 : S_cache_Store) : Option ((Int × S_cache_Store) ⊕ (Lp Bool S_cache_Store)) := cond (decide (v83 < (v6.length : Int))) ((getI v6 v83).bind fun x109 => cond (decide ((x109.K.length : Int) > 100)) (law12_CacheStays_k9 p0 v2 v83 v84 x109 true) (law12_CacheStays_k9 p0 v2 v83 v84 x109 (decide ((x109.V.length : Int) > 100)))) (some (.inr (.brk v84)))
def law12_CacheStays_k3 (p0 : List Int) (v2 : List Int) (v6 : List S_law12_Act) (v30 : Bool) (v31 : S_cache_Store) : Option Bool := cond v30 (some false) ((loopO (fun s => law12_CacheStays_b6 p0 v2 v6 s.1 s.2) (0, v31)).bind (fun | .ret r => some r | .brk v97 => law12_CacheStays_k4 v6 v97))
def law12_CacheStays_k1 (p0 : List Int) (v2 : List Int) (v6 : List S_law12_Act) (v10 : Bool) : Option Bool := cond v10 ((law12_awake).bind fun x12 => some x12) ((cache_New 50).bind fun x15 => Option.elim x15.1 (law12_CacheStays_k2 ) (fun o17 => cond (x15.2 != 0) (law12_CacheStays_k3 p0 v2 v6 true o17) ((law12_spot 3 1 0).bind fun x368 => (cache_Store_Put_vm o17 x368 p0 v2).bind fun x373 => law12_CacheStays_k3 p0 v2 v6 (x373.1 != 0) x373.2)))
def law12_CacheStays (p0 : List Int) (p1 : List Int) (p2 : List S_law12_Act) : Option Bool := (law12_awake).bind fun x381 => cond (!x381) (law12_CacheStays_k1 p0 p1 p2 true) (cond (decide ((p0.length : Int) > 100)) (law12_CacheStays_k1 p0 p1 p2 true) (cond ((p1.length : Int) != (p0.length : Int)) (law12_CacheStays_k1 p0 p1 p2 true) (law12_CacheStays_k1 p0 p1 p2 (decide ((p2.length : Int) > 60)))))
theorem law12_CacheStays_ok {F : Mem} {χ : List Chunk} {p0 : List Int} {p1 : List Int} {p2 : List S_law12_Act} {a_0 : Option Addr} {c_0 : Nat} (h_0 : RdL 1 (RInt .i8) (Mem.add F χ) a_0 c_0 p0) {a_1 : Option Addr} {c_1 : Nat} (h_1 : RdL 1 (RInt .i8) (Mem.add F χ) a_1 c_1 p1) {a_2 : Option Addr} {c_2 : Nat} (h_2 : RdL 6 R_law12_Act (Mem.add F χ) a_2 c_2 p2) {r : Bool} (hr : law12_CacheStays p0 p1 p2 = some r) (Φ : List (List Chunk)) :
    CallsRet Try.prog 4 (List.toArray [.slice a_0 p0.length c_0, .slice a_1 p1.length c_1, .slice a_2 p2.length c_2]) (Mem.add F χ) Φ (fun v w => v = .bool r ∧ Sat (Mem.add F χ) (Φ) w) := by
  refine CallsRet.enter (rs := [.tmp 6]) Try.func4 rfl rfl rfl rfl ?_
  unfold law12_CacheStays at hr
  refine WC.then ?_
  refine WC.region [(0, true)] rfl ?_
  refine WO.assign rfl rfl rfl rfl ?_
  refine WO.done ?_
  refine At.seq_wc ?_
  refine WC.then ?_
  refine WC.seq (fun a w => ∃ (v2 : List Int) (v6 : List S_law12_Act) (v10 : Bool) (a3 : Option Addr) (c4 : Nat) (a7 : Option Addr) (c8 : Nat), law12_CacheStays_k1 p0 v2 v6 v10 = some r ∧ Ctx 172 [(0, .slice a_0 p0.length c_0), (1, .slice a3 v2.length c4), (2, .slice a7 v6.length c8), (36, .bool v10)] a ∧ Sat (Mem.add F χ) Φ w ∧ RdL 1 (RInt .i8) (Mem.add F χ) a3 c4 v2 ∧ RdL 6 R_law12_Act (Mem.add F χ) a7 c8 v6) ?_ ?_
  · refine WC.region [(0, false), (1, true), (2, true), (3, true), (4, true), (5, true), (6, true), (7, true), (8, true), (9, true), (10, true), (11, true), (12, true), (13, true), (14, true), (15, true), (16, true), (17, true), (18, true)] rfl ?_
    obtain ⟨x381, hx382, hr⟩ := bind_some' hr
    refine WO.call rfl rfl rfl rfl rfl cl_6 (CallsRet.lay0 1 0 [] [0] (by decide) F (χ :: Φ) rfl rfl (law12_awake_ok (F := F) hx382 (χ :: Φ))) ?_
    rintro _ _ ⟨rfl, hs383⟩
    have hs383 := (hs383.arrange 0 1 [0] [] (by decide))
    refine ⟨(Mem.add F χ), (Φ), hs383, trivial, ?_⟩
    refine WO.un rfl rfl rfl rfl rfl ?_
    refine WO.move rfl rfl rfl rfl ?_
    refine WO.split (t := 20) rfl (fun hg384 => ?_) (fun hg384 => ?_)
    · have hr := cond_t hg384 hr
      refine WO.skip rfl rfl rfl rfl ?_
      refine WO.skip rfl rfl rfl rfl ?_
      refine WO.skip rfl rfl rfl rfl ?_
      refine WO.pickT rfl rfl rfl rfl rfl ?_
      refine WO.move rfl rfl rfl rfl ?_
      refine WO.skip rfl rfl rfl rfl ?_
      refine WO.skip rfl rfl rfl rfl ?_
      refine WO.skip rfl rfl rfl rfl ?_
      refine WO.skip rfl rfl rfl rfl ?_
      refine WO.skip rfl rfl rfl rfl ?_
      refine WO.pickT rfl rfl rfl rfl rfl ?_
      refine WO.move rfl rfl rfl rfl ?_
      refine WO.skip rfl rfl rfl rfl ?_
      refine WO.skip rfl rfl rfl rfl ?_
      refine WO.skip rfl rfl rfl rfl ?_
      refine WO.pickT rfl rfl rfl rfl rfl ?_
      refine WO.done ?_
      refine At.seq_at ?_
      exact fun a w hc hs => ⟨p1, p2, true, a_1, c_1, a_2, c_2, hr, (hc.keep (hc.keep (hc.keep (hc.keep hc.nil (t := 36) rfl) (t := 2) rfl) (t := 1) rfl) (t := 0) rfl), hs, h_1, h_2⟩
    · have hr := cond_f hg384 hr
      refine WO.move rfl rfl rfl rfl ?_
      refine WO.len rfl rfl rfl rfl Try.underlying31 ?_
      refine WO.bin rfl rfl rfl rfl rfl rfl ?_
      refine WO.pickF rfl rfl rfl rfl rfl ?_
      refine WO.move rfl rfl rfl rfl ?_
      refine WO.split (t := 25) rfl (fun hg385 => ?_) (fun hg385 => ?_)
      · have hr := cond_t hg385 hr
        refine WO.skip rfl rfl rfl rfl ?_
        refine WO.skip rfl rfl rfl rfl ?_
        refine WO.skip rfl rfl rfl rfl ?_
        refine WO.skip rfl rfl rfl rfl ?_
        refine WO.skip rfl rfl rfl rfl ?_
        refine WO.pickT rfl rfl rfl rfl rfl ?_
        refine WO.move rfl rfl rfl rfl ?_
        refine WO.skip rfl rfl rfl rfl ?_
        refine WO.skip rfl rfl rfl rfl ?_
        refine WO.skip rfl rfl rfl rfl ?_
        refine WO.pickT rfl rfl rfl rfl rfl ?_
        refine WO.done ?_
        refine At.seq_at ?_
        exact fun a w hc hs => ⟨p1, p2, true, a_1, c_1, a_2, c_2, hr, (hc.keep (hc.keep (hc.keep (hc.keep hc.nil (t := 36) rfl) (t := 2) rfl) (t := 1) rfl) (t := 0) rfl), hs, h_1, h_2⟩
      · have hr := cond_f hg385 hr
        refine WO.move rfl rfl rfl rfl ?_
        refine WO.len rfl rfl rfl rfl Try.underlying31 ?_
        refine WO.move rfl rfl rfl rfl ?_
        refine WO.len rfl rfl rfl rfl Try.underlying31 ?_
        refine WO.bin rfl rfl rfl rfl rfl rfl ?_
        refine WO.pickF rfl rfl rfl rfl rfl ?_
        refine WO.move rfl rfl rfl rfl ?_
        refine WO.split (t := 32) rfl (fun hg386 => ?_) (fun hg386 => ?_)
        · have hr := cond_t hg386 hr
          refine WO.skip rfl rfl rfl rfl ?_
          refine WO.skip rfl rfl rfl rfl ?_
          refine WO.skip rfl rfl rfl rfl ?_
          refine WO.pickT rfl rfl rfl rfl rfl ?_
          refine WO.done ?_
          refine At.seq_at ?_
          exact fun a w hc hs => ⟨p1, p2, true, a_1, c_1, a_2, c_2, hr, (hc.keep (hc.keep (hc.keep (hc.keep hc.nil (t := 36) rfl) (t := 2) rfl) (t := 1) rfl) (t := 0) rfl), hs, h_1, h_2⟩
        · have hr := cond_f hg386 hr
          refine WO.move rfl rfl rfl rfl ?_
          refine WO.len rfl rfl rfl rfl Try.underlying22 ?_
          refine WO.bin rfl rfl rfl rfl rfl rfl ?_
          refine WO.pickF rfl rfl rfl rfl rfl ?_
          refine WO.done ?_
          refine At.seq_at ?_
          exact fun a w hc hs => ⟨p1, p2, (decide ((p2.length : Int) > 60)), a_1, c_1, a_2, c_2, hr, (hc.keep (hc.keep (hc.keep (hc.keep hc.nil (t := 36) rfl) (t := 2) rfl) (t := 1) rfl) (t := 0) rfl), hs, h_1, h_2⟩
  · rintro a w ⟨v2, v6, v10, a3, c4, a7, c8, hr, hc, hs, h5, h9⟩
    refine WC.use hc hs ?_
    clear hc hs
    unfold law12_CacheStays_k1 at hr
    refine WC.cond rfl (fun hb11 => ?_) (fun hb11 => ?_)
    · have hr := cond_t hb11 hr
      refine WC.then ?_
      refine WC.region [(0, false), (1, true)] rfl ?_
      obtain ⟨x12, hx13, hr⟩ := bind_some' hr
      refine WO.call rfl rfl rfl rfl rfl cl_6 (CallsRet.lay0 1 0 [] [0] (by decide) F (χ :: Φ) rfl rfl (law12_awake_ok (F := F) hx13 (χ :: Φ))) ?_
      rintro _ _ ⟨rfl, hs14⟩
      have hs14 := (hs14.arrange 0 1 [0] [] (by decide))
      refine ⟨(Mem.add F χ), (Φ), hs14, trivial, ?_⟩
      refine WO.assign rfl rfl rfl rfl ?_
      refine WO.done ?_
      refine At.seq_wc ?_
      refine WC.ret ?_
      refine At.seq_ret ?_
      obtain rfl := Option.some.inj hr
      exact At.ret (fun a w hc hs => (resVs_cons (hc.res rfl) resVs_nil)) (fun w hs => ⟨rfl, hs⟩)
    · have hr := cond_f hb11 hr
      refine WC.skip ?_
      refine At.seq_wc ?_
      refine WC.then ?_
      refine WC.region [(0, false), (1, true), (2, true), (3, true), (4, true), (5, true)] rfl ?_
      obtain ⟨x15, hx16, hr⟩ := bind_some' hr
      refine WO.call rfl rfl rfl rfl rfl cl_7 (CallsRet.lay0 1 0 [] [0] (by decide) F (χ :: Φ) rfl rfl (cache_New_ok (F := F) hx16 (χ :: Φ))) ?_
      rintro _ _ (⟨hn18, rfl, hs19⟩ | ⟨o17, b22, b23, p24, hn21, rfl, hs28, hm26⟩)
      · have hr := elim_none hn18 hr
        have hs19 := (hs19.arrange 0 1 [0] [] (by decide))
        refine ⟨(Mem.add F χ), (Φ), hs19, trivial, ?_⟩
        refine WO.move rfl rfl rfl rfl ?_
        refine WO.extract rfl rfl rfl rfl rfl ?_
        refine WO.extract rfl rfl rfl rfl rfl ?_
        refine WO.assign rfl rfl rfl rfl ?_
        refine WO.assign rfl rfl rfl rfl ?_
        refine WO.done ?_
        refine At.seq_wc ?_
        refine WC.then ?_
        refine WC.seq (fun a w => law12_CacheStays_k2  = some r ∧ Ctx 172 [(0, .slice a_0 p0.length c_0), (1, .slice a3 v2.length c4), (2, .slice a7 v6.length c8), (7, .pointer none), (55, .bool true)] a ∧ Sat (Mem.add F χ) Φ w) ?_ ?_
        · refine WC.region [(0, true), (1, true), (2, true), (3, true), (4, true), (5, true), (6, true), (7, true), (8, false), (9, true), (10, true), (11, false), (12, true), (13, true)] rfl ?_
          refine WO.move rfl rfl rfl rfl ?_
          refine WO.eqNil rfl rfl rfl rfl rfl Try.underlying24 ?_
          refine WO.move rfl rfl rfl rfl ?_
          refine WO.skip rfl rfl rfl rfl ?_
          refine WO.skip rfl rfl rfl rfl ?_
          refine WO.pickT rfl rfl rfl rfl rfl ?_
          refine WO.move rfl rfl rfl rfl ?_
          refine WO.skip rfl rfl rfl rfl ?_
          refine WO.skipF rfl rfl rfl rfl ?_
          refine WO.skip rfl rfl rfl rfl ?_
          refine WO.skip rfl rfl rfl rfl ?_
          refine WO.skipF rfl rfl rfl rfl ?_
          refine WO.skip rfl rfl rfl rfl ?_
          refine WO.pickT rfl rfl rfl rfl rfl ?_
          refine WO.done ?_
          refine At.seq_at ?_
          exact fun a w hc hs => ⟨hr, (hc.keep (hc.keep (hc.keep (hc.keep (hc.keep hc.nil (t := 55) rfl) (t := 7) rfl) (t := 2) rfl) (t := 1) rfl) (t := 0) rfl), hs⟩
        · rintro a w ⟨hr, hc, hs⟩
          refine WC.use hc hs ?_
          clear hc hs
          unfold law12_CacheStays_k2 at hr
          refine WC.condT rfl ?_
          refine WC.then ?_
          refine WC.region [(0, true)] rfl ?_
          refine WO.assign rfl rfl rfl rfl ?_
          refine WO.done ?_
          refine At.seq_wc ?_
          refine WC.ret ?_
          refine At.seq_ret ?_
          obtain rfl := Option.some.inj hr
          exact At.ret (fun a w hc hs => (resVs_cons (hc.res rfl) resVs_nil)) (fun w hs => ⟨rfl, hs⟩)
      · have hr := elim_some hn21 hr
        have hs28 := (hs28.arrange 0 3 [2] [0, 1] (by decide))
        refine ⟨(Mem.add F χ), ([(b22, row [.int .i64 o17.room, .map (some b23)] 62)] :: p24 :: Φ), hs28, trivial, ?_⟩
        refine WO.move rfl rfl rfl rfl ?_
        refine WO.extract rfl rfl rfl rfl rfl ?_
        refine WO.extract rfl rfl rfl rfl rfl ?_
        refine WO.assign rfl rfl rfl rfl ?_
        refine WO.assign rfl rfl rfl rfl ?_
        refine WO.done ?_
        refine At.seq_wc ?_
        refine WC.then ?_
        refine WC.seq (fun a w => ∃ (v30 : Bool) (v31 : S_cache_Store) (b32 : Nat) (p33 : List Chunk) (w29 : List Chunk), law12_CacheStays_k3 p0 v2 v6 v30 v31 = some r ∧ Ctx 172 [(0, .slice a_0 p0.length c_0), (1, .slice a3 v2.length c4), (2, .slice a7 v6.length c8), (7, .pointer (some ⟨b22, 0, none⟩)), (55, .bool v30)] a ∧ Sat (Mem.add (Mem.add F χ) w29) (p33 :: [(b22, row [.int .i64 v31.room, .map (some b32)] 62)] :: Φ) w ∧ OwnM enc_api_Spot (RVA R_cache_rows) (Mem.add F w29) b32 v31.m p33) ?_ ?_
        · refine WC.region [(0, true), (1, true), (2, true), (3, true), (4, true), (5, true), (6, true), (7, true), (8, false), (9, true), (10, true), (11, false), (12, true), (13, true)] rfl ?_
          refine WO.move rfl rfl rfl rfl ?_
          refine WO.eqNil rfl rfl rfl rfl rfl Try.underlying24 ?_
          refine WO.move rfl rfl rfl rfl ?_
          refine WO.move rfl rfl rfl rfl ?_
          refine WO.bin rfl rfl rfl rfl rfl rfl ?_
          refine WO.pickF rfl rfl rfl rfl rfl ?_
          refine WO.move rfl rfl rfl rfl ?_
          refine WO.split (t := 48) rfl (fun hg367 => ?_) (fun hg367 => ?_)
          · have hr := cond_t hg367 hr
            refine WO.skip rfl rfl rfl rfl ?_
            refine WO.skipF rfl rfl rfl rfl ?_
            refine WO.skip rfl rfl rfl rfl ?_
            refine WO.skip rfl rfl rfl rfl ?_
            refine WO.skipF rfl rfl rfl rfl ?_
            refine WO.skip rfl rfl rfl rfl ?_
            refine WO.pickT rfl rfl rfl rfl rfl ?_
            refine WO.done ?_
            refine At.seq_at ?_
            exact fun a w hc hs => ⟨true, o17, b23, p24, (List.flatten []), hr, (hc.keep (hc.keep (hc.keep (hc.keep (hc.keep hc.nil (t := 55) rfl) (t := 7) rfl) (t := 2) rfl) (t := 1) rfl) (t := 0) rfl), ((hs.arrange 1 2 [0] [2, 1] (by decide)).gather 0), (hm26.mono (monoVA mono_cache_rows) (Mem.le_gather F 0))⟩
          · have hr := cond_f hg367 hr
            refine WO.move rfl rfl rfl rfl ?_
            obtain ⟨x368, hx369, hr⟩ := bind_some' hr
            refine WO.call rfl rfl rfl rfl rfl cl_8 (CallsRet.lay0 1 2 [] [0, 1, 2] (by decide) F (χ :: [(b22, row [.int .i64 o17.room, .map (some b23)] 62)] :: p24 :: Φ) rfl rfl (law12_spot_ok (F := F) hx369 (χ :: [(b22, row [.int .i64 o17.room, .map (some b23)] 62)] :: p24 :: Φ))) ?_
            rintro _ _ ⟨cs370, rfl, hs372, rfl⟩
            have hs372 := (hs372.arrange 0 3 [0] [1, 2] (by decide))
            refine ⟨(Mem.add F χ), ([(b22, row [.int .i64 o17.room, .map (some b23)] 62)] :: p24 :: Φ), hs372, trivial, ?_⟩
            refine WO.move rfl rfl rfl rfl ?_
            refine WO.move rfl rfl rfl rfl ?_
            obtain ⟨x373, hx374, hr⟩ := bind_some' hr
            refine WO.call rfl rfl rfl rfl rfl cl_10 (CallsRet.lay 1 2 1 [0] [1, 2] (by decide) (Mem.add F (List.flatten [χ])) ([(b22, row [.int .i64 o17.room, .map (some b23)] 62)] :: p24 :: Φ) rfl rfl (cache_Store_Put_vm_ok (F := F) (χ := (List.flatten [χ])) hm26 rfl (h_0.mono (mono_int _) (Mem.le_gather (Mem.add F χ) 1)) (h5.mono (mono_int _) (Mem.le_gather (Mem.add F χ) 1)) hx374 (Φ))) ?_
            rintro _ _ ⟨q375, b376, p377, rfl, hs380, hm379⟩
            have hs380 := Sat.unlay1 F [χ] _ hs380
            have hs380 := (hs380.arrange 2 2 [0, 1] [3, 2] (by decide))
            refine ⟨(Mem.add (Mem.add F χ) q375), (p377 :: [(b22, row [.int .i64 x373.2.room, .map (some b376)] 62)] :: Φ), hs380, trivial, ?_⟩
            refine WO.bin rfl rfl rfl rfl rfl rfl ?_
            refine WO.pickF rfl rfl rfl rfl rfl ?_
            refine WO.done ?_
            refine At.seq_at ?_
            exact fun a w hc hs => ⟨(x373.1 != 0), x373.2, b376, p377, (List.flatten [q375]), hr, (hc.keep (hc.keep (hc.keep (hc.keep (hc.keep hc.nil (t := 55) rfl) (t := 7) rfl) (t := 2) rfl) (t := 1) rfl) (t := 0) rfl), (hs.gather 1), (hm379.mono (monoVA mono_cache_rows) (Mem.le_gather (Mem.add F q375) 1))⟩
        · rintro a w ⟨v30, v31, b32, p33, w29, hr, hc, hs, hm34⟩
          refine WC.use hc hs ?_
          clear hc hs
          unfold law12_CacheStays_k3 at hr
          refine WC.cond rfl (fun hb36 => ?_) (fun hb36 => ?_)
          · have hr := cond_t hb36 hr
            refine WC.then ?_
            refine WC.region [(0, true)] rfl ?_
            refine WO.assign rfl rfl rfl rfl ?_
            refine WO.done ?_
            refine At.seq_wc ?_
            refine WC.ret ?_
            refine At.seq_ret ?_
            obtain rfl := Option.some.inj hr
            exact At.ret (fun a w hc hs => (resVs_cons (hc.res rfl) resVs_nil)) (fun w hs => ⟨rfl, (hs.arrange 2 2 [1] [] (by decide))⟩)
          · have hr := cond_f hb36 hr
            refine WC.skip ?_
            refine At.seq_wc ?_
            refine WC.seq (fun a w => ∃ (v38 : S_cache_Store) (b39 : Nat) (p40 : List Chunk) (w37 : List Chunk), law12_CacheStays_k4 v6 v38 = some r ∧ Ctx 172 [(2, .slice a7 v6.length c8), (7, .pointer (some ⟨b22, 0, none⟩))] a ∧ Sat (Mem.add (Mem.add (Mem.add F χ) w29) w37) (p40 :: [(b22, row [.int .i64 v38.room, .map (some b39)] 62)] :: Φ) w ∧ OwnM enc_api_Spot (RVA R_cache_rows) (Mem.add (Mem.add F w29) w37) b39 v38.m p40) ?_ ?_
            · refine WC.then ?_
              refine WC.region [(0, true)] rfl ?_
              refine WO.assign rfl rfl rfl rfl ?_
              refine WO.done ?_
              refine At.seq_wc ?_
              obtain ⟨xl7, hl7, hk7⟩ := bind_some' hr
              refine WC.weaken (fun a w => ∃ (v97 : S_cache_Store) (b98 : Nat) (p99 : List Chunk) (w96 : List Chunk), .brk v97 = xl7 ∧ Ctx 172 [(2, .slice a7 v6.length c8), (7, .pointer (some ⟨b22, 0, none⟩))] a ∧ Sat (Mem.add (Mem.add (Mem.add F χ) w29) w96) (p99 :: [(b22, row [.int .i64 v97.room, .map (some b98)] 62)] :: Φ) w ∧ OwnM enc_api_Spot (RVA R_cache_rows) (Mem.add (Mem.add F w29) w96) b98 v97.m p99) ?_ ?_
              · refine WC.block ?_
                refine WC.loop (fun ⟨v83, v84⟩ a w => ∃ (b85 : Nat) (p86 : List Chunk) (w82 : List Chunk), Ctx 172 [(0, .slice a_0 p0.length c_0), (1, .slice a3 v2.length c4), (2, .slice a7 v6.length c8), (7, .pointer (some ⟨b22, 0, none⟩)), (9, .int .i64 v83)] a ∧ Sat (Mem.add (Mem.add (Mem.add F χ) w29) w82) (p86 :: [(b22, row [.int .i64 v84.room, .map (some b85)] 62)] :: Φ) w ∧ OwnM enc_api_Spot (RVA R_cache_rows) (Mem.add (Mem.add F w29) w82) b85 v84.m p86) hl7 ?_ ?_
                · exact fun a w hc hs => ⟨b32, p33, (List.flatten []), (hc.keep (hc.keep (hc.keep (hc.keep (hc.keep hc.nil (t := 9) rfl) (t := 7) rfl) (t := 2) rfl) (t := 1) rfl) (t := 0) rfl), (hs.gather 0), (hm34.mono (monoVA mono_cache_rows) (Mem.le_gather (Mem.add F w29) 0))⟩
                · rintro ⟨v83, v84⟩ r7 hr a w ⟨b85, p86, w82, hc, hs, hm87⟩
                  refine WC.use hc hs ?_
                  clear hc hs
                  (try dsimp only at hr)
                  unfold law12_CacheStays_b6 at hr
                  refine WC.then ?_
                  refine WC.then ?_
                  refine WC.region [(0, true), (1, true), (2, true), (3, true)] rfl ?_
                  refine WO.move rfl rfl rfl rfl ?_
                  refine WO.move rfl rfl rfl rfl ?_
                  refine WO.len rfl rfl rfl rfl Try.underlying22 ?_
                  refine WO.bin rfl rfl rfl rfl rfl rfl ?_
                  refine WO.done ?_
                  refine At.seq_wc ?_
                  refine WC.cond rfl (fun hb102 => ?_) (fun hb102 => ?_)
                  · have hr := cond_t hb102 hr
                    refine WC.skip ?_
                    refine At.seq_wc ?_
                    refine WC.seq (fun a w => ∃ (v104 : S_cache_Store) (b105 : Nat) (p106 : List Chunk) (w103 : List Chunk), law12_CacheStays_k8 v83 v104 = some r7 ∧ Ctx 172 [(0, .slice a_0 p0.length c_0), (1, .slice a3 v2.length c4), (2, .slice a7 v6.length c8), (7, .pointer (some ⟨b22, 0, none⟩)), (9, .int .i64 v83)] a ∧ Sat (Mem.add (Mem.add (Mem.add (Mem.add F χ) w29) w82) w103) (p106 :: [(b22, row [.int .i64 v104.room, .map (some b105)] 62)] :: Φ) w ∧ OwnM enc_api_Spot (RVA R_cache_rows) (Mem.add (Mem.add (Mem.add F w29) w82) w103) b105 v104.m p106) ?_ ?_
                    · refine WC.block ?_
                      refine WC.then ?_
                      refine WC.region [(0, true), (1, true), (2, true), (3, false), (4, false), (5, false)] rfl ?_
                      refine WO.move rfl rfl rfl rfl ?_
                      refine WO.move rfl rfl rfl rfl ?_
                      obtain ⟨x109, hx110, hr⟩ := bind_some' hr
                      refine WO.indexR h9 hx110 rfl rfl rfl rfl rfl rfl Try.underlying22 sz_33 ?_
                      rintro b111 o112 _ hc113 ⟨a114, c115, a117, c118, rfl, h116, h119⟩
                      refine WO.loadPAn 0 6 (hc113.mono (Mem.le_pick (Mem.add (Mem.add (Mem.add F χ) w29) w82) 3 [2] (by decide))) rfl rfl rfl rfl rfl ag_33 rfl rfl ?_
                      refine WO.alloc (.agg #[.int .i64 0, .int .i64 0, .int .i64 0, .int .i64 0, .slice none 0 0, .slice none 0 0]) rfl rfl rfl zb_33 rfl (fun _ _ _ => trivial) (fun b120 => ?_)
                      refine WO.storeA 0 6 rfl rfl rfl rfl sz_33 rfl rfl rfl rfl (fun _ _ => trivial) ?_
                      refine WO.done ?_
                      refine At.seq_wc ?_
                      refine WC.then ?_
                      refine WC.seq (fun a w => ∃ (v123 : Bool), law12_CacheStays_k9 p0 v2 v83 v84 x109 v123 = some r7 ∧ Ctx 172 [(0, .slice a_0 p0.length c_0), (1, .slice a3 v2.length c4), (2, .slice a7 v6.length c8), (7, .pointer (some ⟨b22, 0, none⟩)), (9, .int .i64 v83), (10, .pointer (some ⟨b120, 0, none⟩)), (75, .bool v123)] a ∧ Sat (Mem.add (Mem.add (Mem.add F χ) w29) w82) ([(b120, row [.int .i64 x109.Kind, .int .i64 x109.At.Request, .int .i64 x109.At.Layer, .int .i64 x109.At.Place, .slice a114 x109.K.length c115, .slice a117 x109.V.length c118] 33)] :: p86 :: [(b22, row [.int .i64 v84.room, .map (some b85)] 62)] :: Φ) w) ?_ ?_
                      · refine WC.region [(0, true), (1, false), (2, true), (3, true), (4, true), (5, true), (6, false), (7, true), (8, true), (9, true)] rfl ?_
                        refine WO.fieldAddr 4 rfl rfl rfl rfl fl_33_2 ?_
                        refine WO.load 0 rfl rfl rfl rfl sc_31 rfl rfl ?_
                        refine WO.len rfl rfl rfl rfl Try.underlying31 ?_
                        refine WO.bin rfl rfl rfl rfl rfl rfl ?_
                        refine WO.move rfl rfl rfl rfl ?_
                        refine WO.split (t := 70) rfl (fun hg366 => ?_) (fun hg366 => ?_)
                        · have hr := cond_t hg366 hr
                          refine WO.skip rfl rfl rfl rfl ?_
                          refine WO.skipF rfl rfl rfl rfl ?_
                          refine WO.skip rfl rfl rfl rfl ?_
                          refine WO.skip rfl rfl rfl rfl ?_
                          refine WO.pickT rfl rfl rfl rfl rfl ?_
                          refine WO.done ?_
                          refine At.seq_at ?_
                          exact fun a w hc hs => ⟨true, hr, (hc.keep (hc.keep (hc.keep (hc.keep (hc.keep (hc.keep (hc.keep hc.nil (t := 75) rfl) (t := 10) rfl) (t := 9) rfl) (t := 7) rfl) (t := 2) rfl) (t := 1) rfl) (t := 0) rfl), hs⟩
                        · have hr := cond_f hg366 hr
                          refine WO.fieldAddr 5 rfl rfl rfl rfl fl_33_3 ?_
                          refine WO.load 0 rfl rfl rfl rfl sc_31 rfl rfl ?_
                          refine WO.len rfl rfl rfl rfl Try.underlying31 ?_
                          refine WO.bin rfl rfl rfl rfl rfl rfl ?_
                          refine WO.pickF rfl rfl rfl rfl rfl ?_
                          refine WO.done ?_
                          refine At.seq_at ?_
                          exact fun a w hc hs => ⟨(decide ((x109.V.length : Int) > 100)), hr, (hc.keep (hc.keep (hc.keep (hc.keep (hc.keep (hc.keep (hc.keep hc.nil (t := 75) rfl) (t := 10) rfl) (t := 9) rfl) (t := 7) rfl) (t := 2) rfl) (t := 1) rfl) (t := 0) rfl), hs⟩
                      · rintro a w ⟨v123, hr, hc, hs⟩
                        refine WC.use hc hs ?_
                        clear hc hs
                        unfold law12_CacheStays_k9 at hr
                        refine WC.cond rfl (fun hb124 => ?_) (fun hb124 => ?_)
                        · have hr := cond_t hb124 hr
                          refine WC.then ?_
                          refine WC.region [(0, true)] rfl ?_
                          refine WO.assign rfl rfl rfl rfl ?_
                          refine WO.done ?_
                          refine At.seq_wc ?_
                          refine WC.ret ?_
                          refine At.seq_ret ?_
                          refine At.block_ret ?_
                          refine At.seq_ret ?_
                          refine At.round_ret hr (fun hy => ?_)
                          subst hy
                          have hr := hk7
                          refine At.block_ret ?_
                          refine At.seq_ret ?_
                          refine At.seq_ret ?_
                          obtain rfl := Option.some.inj hr
                          exact At.ret (fun a w hc hs => (resVs_cons (hc.res rfl) resVs_nil)) (fun w hs => ⟨rfl, (hs.arrange 3 3 [2] [] (by decide))⟩)
                        · have hr := cond_f hb124 hr
                          refine WC.skip ?_
                          refine At.seq_wc ?_
                          refine WC.seq (fun a w => ∃ (v126 : S_cache_Store) (b127 : Nat) (p128 : List Chunk) (w125 : List Chunk), law12_CacheStays_k10 p0 v2 v83 v126 = some r7 ∧ Ctx 172 [(0, .slice a_0 p0.length c_0), (1, .slice a3 v2.length c4), (2, .slice a7 v6.length c8), (7, .pointer (some ⟨b22, 0, none⟩)), (9, .int .i64 v83)] a ∧ Sat (Mem.add (Mem.add (Mem.add (Mem.add F χ) w29) w82) w125) (p128 :: [(b120, row [.int .i64 x109.Kind, .int .i64 x109.At.Request, .int .i64 x109.At.Layer, .int .i64 x109.At.Place, .slice a114 x109.K.length c115, .slice a117 x109.V.length c118] 33)] :: [(b22, row [.int .i64 v126.room, .map (some b127)] 62)] :: Φ) w ∧ OwnM enc_api_Spot (RVA R_cache_rows) (Mem.add (Mem.add (Mem.add F w29) w82) w125) b127 v126.m p128) ?_ ?_
                          · refine WC.then ?_
                            refine WC.region [(0, true), (1, false)] rfl ?_
                            refine WO.fieldAddr 0 rfl rfl rfl rfl fl_33_0 ?_
                            refine WO.load 0 rfl rfl rfl rfl sc_3 rfl rfl ?_
                            refine WO.done ?_
                            refine At.seq_wc ?_
                            refine WC.block ?_
                            refine WC.then ?_
                            refine WC.region [(0, true), (1, true)] rfl ?_
                            refine WO.bin rfl rfl rfl rfl rfl rfl ?_
                            refine WO.assign rfl rfl rfl rfl ?_
                            refine WO.done ?_
                            refine At.seq_wc ?_
                            refine WC.cond rfl (fun hb344 => ?_) (fun hb344 => ?_)
                            · have hr := cond_t hb344 hr
                              refine WC.region [(0, true), (1, true), (2, false), (3, true), (4, false), (5, true), (6, false), (7, false)] rfl ?_
                              refine WO.move rfl rfl rfl rfl ?_
                              refine WO.fieldAddr 1 rfl rfl rfl rfl fl_33_1 ?_
                              refine WO.loadA 0 3 rfl rfl rfl rfl ag_30 rfl rfl rfl ?_
                              refine WO.fieldAddr 4 rfl rfl rfl rfl fl_33_2 ?_
                              refine WO.load 0 rfl rfl rfl rfl sc_31 rfl rfl ?_
                              refine WO.fieldAddr 5 rfl rfl rfl rfl fl_33_3 ?_
                              refine WO.load 0 rfl rfl rfl rfl sc_31 rfl rfl ?_
                              obtain ⟨x345, hx346, hr⟩ := bind_some' hr
                              refine WO.call rfl rfl rfl rfl rfl cl_10 (CallsRet.lay 3 3 1 [2, 0, 1] [5, 4, 3] (by decide) (Mem.add (Mem.add (Mem.add F w29) w82) (List.flatten [χ])) ([(b22, row [.int .i64 v84.room, .map (some b85)] 62)] :: p86 :: [(b120, row [.int .i64 x109.Kind, .int .i64 x109.At.Request, .int .i64 x109.At.Layer, .int .i64 x109.At.Place, .slice a114 x109.K.length c115, .slice a117 x109.V.length c118] 33)] :: Φ) rfl rfl (cache_Store_Put_vm_ok (F := (Mem.add (Mem.add F w29) w82)) (χ := (List.flatten [χ])) hm87 rfl (h116.mono (mono_int _) (Mem.le.trans (Mem.le_pick (Mem.add (Mem.add (Mem.add F w29) w82) χ) 3 [0] (by decide)) (Mem.le_gather (Mem.add (Mem.add (Mem.add F w29) w82) χ) 1))) (h119.mono (mono_int _) (Mem.le.trans (Mem.le_pick (Mem.add (Mem.add (Mem.add F w29) w82) χ) 3 [0] (by decide)) (Mem.le_gather (Mem.add (Mem.add (Mem.add F w29) w82) χ) 1))) hx346 ([(b120, row [.int .i64 x109.Kind, .int .i64 x109.At.Request, .int .i64 x109.At.Layer, .int .i64 x109.At.Place, .slice a114 x109.K.length c115, .slice a117 x109.V.length c118] 33)] :: Φ))) ?_
                              rintro _ _ ⟨q347, b348, p349, rfl, hs352, hm351⟩
                              have hs352 := Sat.unlay1 (Mem.add (Mem.add F w29) w82) [χ] _ hs352
                              have hs352 := (hs352.arrange 4 3 [0, 2, 3, 1] [5, 6, 4] (by decide))
                              refine ⟨(Mem.add (Mem.add (Mem.add (Mem.add F χ) w29) w82) q347), (p349 :: [(b120, row [.int .i64 x109.Kind, .int .i64 x109.At.Request, .int .i64 x109.At.Layer, .int .i64 x109.At.Place, .slice a114 x109.K.length c115, .slice a117 x109.V.length c118] 33)] :: [(b22, row [.int .i64 x345.2.room, .map (some b348)] 62)] :: Φ), hs352, trivial, ?_⟩
                              refine WO.done ?_
                              refine At.block_normal ?_
                              refine At.seq_at ?_
                              exact fun a w hc hs => ⟨x345.2, b348, p349, (List.flatten [q347]), hr, (hc.keep (hc.keep (hc.keep (hc.keep (hc.keep hc.nil (t := 9) rfl) (t := 7) rfl) (t := 2) rfl) (t := 1) rfl) (t := 0) rfl), (hs.gather 1), (hm351.mono (monoVA mono_cache_rows) (Mem.le_gather (Mem.add (Mem.add (Mem.add F w29) w82) q347) 1))⟩
                            · have hr := cond_f hb344 hr
                              refine WC.then ?_
                              refine WC.region [(0, true), (1, true)] rfl ?_
                              refine WO.bin rfl rfl rfl rfl rfl rfl ?_
                              refine WO.assign rfl rfl rfl rfl ?_
                              refine WO.done ?_
                              refine At.seq_wc ?_
                              refine WC.cond rfl (fun hb353 => ?_) (fun hb353 => ?_)
                              · have hr := cond_t hb353 hr
                                refine WC.then ?_
                                refine WC.region [(0, true), (1, true), (2, false), (3, true)] rfl ?_
                                refine WO.fieldAddr 1 rfl rfl rfl rfl fl_33_1 ?_
                                refine WO.fieldAddr 0 rfl rfl rfl rfl fl_30_0 ?_
                                refine WO.load 0 rfl rfl rfl rfl sc_3 rfl rfl ?_
                                refine WO.bin rfl rfl rfl rfl rfl rfl ?_
                                refine WO.done ?_
                                refine At.seq_wc ?_
                                refine WC.cond rfl (fun hb354 => ?_) (fun hb354 => ?_)
                                · have hr := cond_t hb354 hr
                                  refine WC.region [(0, true), (1, true), (2, true), (3, false), (4, false), (5, false)] rfl ?_
                                  refine WO.move rfl rfl rfl rfl ?_
                                  refine WO.fieldAddr 1 rfl rfl rfl rfl fl_33_1 ?_
                                  refine WO.fieldAddr 0 rfl rfl rfl rfl fl_30_0 ?_
                                  refine WO.load 0 rfl rfl rfl rfl sc_3 rfl rfl ?_
                                  refine WO.buildSl (e := 3) (vs := [.tmp 97]) [0] [.int .i64 x109.At.Request] rfl rfl rfl rfl rfl (fun _ => by kernel_rfl) (fun _ _ _ => trivial) (fun b355 => ?_)
                                  have ho357 : OwnL 1 (RInt .i64) F 3 (some ⟨b355, 0, none⟩) 1 [x109.At.Request] [(b355, row [.int .i64 x109.At.Request] 3)] := ⟨Nat.le_refl _, .inr ⟨_, [[.int .i64 x109.At.Request]], [], rfl, rfl, (Rs.cons (x := x109.At.Request) (cs := [.int .i64 x109.At.Request]) rfl rfl rfl Rs.nil), rfl⟩⟩
                                  obtain ⟨x359, hx360, hr⟩ := bind_some' hr
                                  refine WO.call rfl rfl rfl rfl rfl cl_9 (CallsRet.lay 3 4 1 [3, 0, 1] [6, 5, 2, 4] (by decide) (Mem.add (Mem.add (Mem.add F w29) w82) (List.flatten [[(b355, row [.int .i64 x109.At.Request] 3)]])) ([(b22, row [.int .i64 v84.room, .map (some b85)] 62)] :: p86 :: χ :: [(b120, row [.int .i64 x109.Kind, .int .i64 x109.At.Request, .int .i64 x109.At.Layer, .int .i64 x109.At.Place, .slice a114 x109.K.length c115, .slice a117 x109.V.length c118] 33)] :: Φ) rfl rfl (cache_Store_Drop_vm_ok (F := (Mem.add (Mem.add F w29) w82)) (χ := (List.flatten [[(b355, row [.int .i64 x109.At.Request] 3)]])) hm87 (((OwnL.re (G := F) (const_int _) ho357).rd (mono_int _)).mono (mono_int _) (Mem.le.trans (Mem.le_pick (Mem.add (Mem.add (Mem.add F w29) w82) [(b355, row [.int .i64 x109.At.Request] 3)]) 3 [0] (by decide)) (Mem.le_gather (Mem.add (Mem.add (Mem.add F w29) w82) [(b355, row [.int .i64 x109.At.Request] 3)]) 1))) hx360 (χ :: [(b120, row [.int .i64 x109.Kind, .int .i64 x109.At.Request, .int .i64 x109.At.Layer, .int .i64 x109.At.Place, .slice a114 x109.K.length c115, .slice a117 x109.V.length c118] 33)] :: Φ))) ?_
                                  rintro _ _ ⟨b361, p362, rfl, hs365, hm364⟩
                                  have hs365 := Sat.unlay (Mem.add (Mem.add F w29) w82) [[(b355, row [.int .i64 x109.At.Request] 3)]] hs365
                                  have hs365 := (hs365.arrange 3 4 [1, 2, 5] [4, 0, 6, 3] (by decide))
                                  refine ⟨(Mem.add (Mem.add (Mem.add F χ) w29) w82), (p362 :: [(b355, row [.int .i64 x109.At.Request] 3)] :: [(b120, row [.int .i64 x109.Kind, .int .i64 x109.At.Request, .int .i64 x109.At.Layer, .int .i64 x109.At.Place, .slice a114 x109.K.length c115, .slice a117 x109.V.length c118] 33)] :: [(b22, row [.int .i64 x359.2.room, .map (some b361)] 62)] :: Φ), hs365, trivial, ?_⟩
                                  refine WO.done ?_
                                  refine At.block_normal ?_
                                  refine At.seq_at ?_
                                  exact fun a w hc hs => ⟨x359.2, b361, p362, (List.flatten []), hr, (hc.keep (hc.keep (hc.keep (hc.keep (hc.keep hc.nil (t := 9) rfl) (t := 7) rfl) (t := 2) rfl) (t := 1) rfl) (t := 0) rfl), ((hs.arrange 3 4 [0, 1, 2] [3, 5, 6] (by decide)).gather 0), (hm364.mono (monoVA mono_cache_rows) (Mem.le_gather (Mem.add (Mem.add F w29) w82) 0))⟩
                                · have hr := cond_f hb354 hr
                                  refine WC.skip ?_
                                  refine At.block_normal ?_
                                  refine At.seq_at ?_
                                  exact fun a w hc hs => ⟨v84, b85, p86, (List.flatten []), hr, (hc.keep (hc.keep (hc.keep (hc.keep (hc.keep hc.nil (t := 9) rfl) (t := 7) rfl) (t := 2) rfl) (t := 1) rfl) (t := 0) rfl), ((hs.arrange 3 3 [0, 1, 2] [4, 3, 5] (by decide)).gather 0), (hm87.mono (monoVA mono_cache_rows) (Mem.le_gather (Mem.add (Mem.add F w29) w82) 0))⟩
                              · have hr := cond_f hb353 hr
                                refine WC.skip ?_
                                refine At.block_normal ?_
                                refine At.seq_at ?_
                                exact fun a w hc hs => ⟨v84, b85, p86, (List.flatten []), hr, (hc.keep (hc.keep (hc.keep (hc.keep (hc.keep hc.nil (t := 9) rfl) (t := 7) rfl) (t := 2) rfl) (t := 1) rfl) (t := 0) rfl), ((hs.arrange 3 3 [0, 1, 2] [4, 3, 5] (by decide)).gather 0), (hm87.mono (monoVA mono_cache_rows) (Mem.le_gather (Mem.add (Mem.add F w29) w82) 0))⟩
                          · rintro a w ⟨v126, b127, p128, w125, hr, hc, hs, hm129⟩
                            refine WC.use hc hs ?_
                            clear hc hs
                            unfold law12_CacheStays_k10 at hr
                            refine WC.then ?_
                            refine WC.region [(0, true), (1, false), (2, false), (3, true), (4, true), (5, true), (6, true), (7, true), (8, true), (9, true)] rfl ?_
                            refine WO.move rfl rfl rfl rfl ?_
                            obtain ⟨x131, hx132, hr⟩ := bind_some' hr
                            refine WO.call rfl rfl rfl rfl rfl cl_8 (CallsRet.lay0 4 3 [] [0, 1, 2, 3, 4, 5, 6] (by decide) F (w125 :: w82 :: w29 :: χ :: p128 :: [(b120, row [.int .i64 x109.Kind, .int .i64 x109.At.Request, .int .i64 x109.At.Layer, .int .i64 x109.At.Place, .slice a114 x109.K.length c115, .slice a117 x109.V.length c118] 33)] :: [(b22, row [.int .i64 v126.room, .map (some b127)] 62)] :: Φ) rfl rfl (law12_spot_ok (F := F) hx132 (w125 :: w82 :: w29 :: χ :: p128 :: [(b120, row [.int .i64 x109.Kind, .int .i64 x109.At.Request, .int .i64 x109.At.Layer, .int .i64 x109.At.Place, .slice a114 x109.K.length c115, .slice a117 x109.V.length c118] 33)] :: [(b22, row [.int .i64 v126.room, .map (some b127)] 62)] :: Φ))) ?_
                            rintro _ _ ⟨cs133, rfl, hs135, rfl⟩
                            have hs135 := (hs135.arrange 0 7 [0, 1, 2, 3] [4, 5, 6] (by decide))
                            refine ⟨(Mem.add (Mem.add (Mem.add (Mem.add F χ) w29) w82) w125), (p128 :: [(b120, row [.int .i64 x109.Kind, .int .i64 x109.At.Request, .int .i64 x109.At.Layer, .int .i64 x109.At.Place, .slice a114 x109.K.length c115, .slice a117 x109.V.length c118] 33)] :: [(b22, row [.int .i64 v126.room, .map (some b127)] 62)] :: Φ), hs135, trivial, ?_⟩
                            obtain ⟨x136, hx137, hr⟩ := bind_some' hr
                            refine WO.call rfl rfl rfl rfl rfl cl_13 (CallsRet.lay0 4 3 [0, 1, 2] [6, 4, 3, 5] (by decide) (Mem.add (Mem.add (Mem.add F w29) w82) w125) ([(b22, row [.int .i64 v126.room, .map (some b127)] 62)] :: p128 :: χ :: [(b120, row [.int .i64 x109.Kind, .int .i64 x109.At.Request, .int .i64 x109.At.Layer, .int .i64 x109.At.Place, .slice a114 x109.K.length c115, .slice a117 x109.V.length c118] 33)] :: Φ) rfl rfl (cache_Store_Get_vm_ok (F := (Mem.add (Mem.add (Mem.add F w29) w82) w125)) hm129 rfl hx137 (χ :: [(b120, row [.int .i64 x109.Kind, .int .i64 x109.At.Request, .int .i64 x109.At.Layer, .int .i64 x109.At.Place, .slice a114 x109.K.length c115, .slice a117 x109.V.length c118] 33)] :: Φ))) ?_
                            rintro _ _ ⟨a138, c139, p141, a143, c144, p146, rfl, hs148, h140, h145⟩
                            have hs148 := (hs148.arrange 3 6 [0, 1, 2, 7] [3, 4, 6, 8, 5] (by decide))
                            refine ⟨(Mem.add (Mem.add (Mem.add (Mem.add F χ) w29) w82) w125), (p141 :: p146 :: p128 :: [(b120, row [.int .i64 x109.Kind, .int .i64 x109.At.Request, .int .i64 x109.At.Layer, .int .i64 x109.At.Place, .slice a114 x109.K.length c115, .slice a117 x109.V.length c118] 33)] :: [(b22, row [.int .i64 v126.room, .map (some b127)] 62)] :: Φ), hs148, trivial, ?_⟩
                            refine WO.move rfl rfl rfl rfl ?_
                            refine WO.extract rfl rfl rfl rfl rfl ?_
                            refine WO.extract rfl rfl rfl rfl rfl ?_
                            refine WO.extract rfl rfl rfl rfl rfl ?_
                            refine WO.assign rfl rfl rfl rfl ?_
                            refine WO.assign rfl rfl rfl rfl ?_
                            refine WO.assign rfl rfl rfl rfl ?_
                            refine WO.done ?_
                            refine At.seq_wc ?_
                            refine WC.then ?_
                            refine WC.seq (fun a w => ∃ (v150 : Bool), law12_CacheStays_k11 p0 v83 v126 x136 v150 = some r7 ∧ Ctx 172 [(0, .slice a_0 p0.length c_0), (1, .slice a3 v2.length c4), (2, .slice a7 v6.length c8), (7, .pointer (some ⟨b22, 0, none⟩)), (9, .int .i64 v83), (11, .slice a138 x136.1.length c139), (12, .slice a143 x136.2.1.length c144), (120, .bool v150)] a ∧ Sat (Mem.add (Mem.add (Mem.add (Mem.add F χ) w29) w82) w125) (p141 :: p146 :: p128 :: [(b120, row [.int .i64 x109.Kind, .int .i64 x109.At.Request, .int .i64 x109.At.Layer, .int .i64 x109.At.Place, .slice a114 x109.K.length c115, .slice a117 x109.V.length c118] 33)] :: [(b22, row [.int .i64 v126.room, .map (some b127)] 62)] :: Φ) w) ?_ ?_
                            · refine WC.region [(0, true), (1, true), (2, true), (3, true), (4, true), (5, false), (6, true), (7, true), (8, true), (9, true), (10, true), (11, false), (12, true), (13, true)] rfl ?_
                              refine WO.move rfl rfl rfl rfl ?_
                              refine WO.un rfl rfl rfl rfl rfl ?_
                              refine WO.move rfl rfl rfl rfl ?_
                              refine WO.split (t := 109) rfl (fun hg336 => ?_) (fun hg336 => ?_)
                              · have hr := cond_t hg336 hr
                                refine WO.skip rfl rfl rfl rfl ?_
                                refine WO.skip rfl rfl rfl rfl ?_
                                refine WO.skipF rfl rfl rfl rfl ?_
                                refine WO.skip rfl rfl rfl rfl ?_
                                refine WO.pickT rfl rfl rfl rfl rfl ?_
                                refine WO.move rfl rfl rfl rfl ?_
                                refine WO.skip rfl rfl rfl rfl ?_
                                refine WO.skip rfl rfl rfl rfl ?_
                                refine WO.skipF rfl rfl rfl rfl ?_
                                refine WO.skip rfl rfl rfl rfl ?_
                                refine WO.pickT rfl rfl rfl rfl rfl ?_
                                refine WO.done ?_
                                refine At.seq_at ?_
                                exact fun a w hc hs => ⟨true, hr, (hc.keep (hc.keep (hc.keep (hc.keep (hc.keep (hc.keep (hc.keep (hc.keep hc.nil (t := 120) rfl) (t := 12) rfl) (t := 11) rfl) (t := 9) rfl) (t := 7) rfl) (t := 2) rfl) (t := 1) rfl) (t := 0) rfl), hs⟩
                              · have hr := cond_f hg336 hr
                                refine WO.move rfl rfl rfl rfl ?_
                                refine WO.move rfl rfl rfl rfl ?_
                                obtain ⟨x337, hx338, hr⟩ := bind_some' hr
                                refine WO.call rfl rfl rfl rfl rfl cl_14 (CallsRet.lay 4 5 2 [4, 3] [0, 1, 2, 5, 6, 7, 8] (by decide) (Mem.add F (List.flatten [p141, χ])) (w125 :: w82 :: w29 :: p146 :: p128 :: [(b120, row [.int .i64 x109.Kind, .int .i64 x109.At.Request, .int .i64 x109.At.Layer, .int .i64 x109.At.Place, .slice a114 x109.K.length c115, .slice a117 x109.V.length c118] 33)] :: [(b22, row [.int .i64 v126.room, .map (some b127)] 62)] :: Φ) rfl rfl (ref04_Bytes_ok (F := F) (χ := (List.flatten [p141, χ])) (((OwnL.re (G := F) (const_int _) h140).rd (mono_int _)).mono (mono_int _) (Mem.le.trans (Mem.le_pick (Mem.add (Mem.add F χ) p141) 2 [0] (by decide)) (Mem.le_gather (Mem.add (Mem.add F χ) p141) 2))) (h_0.mono (mono_int _) (Mem.le.trans (Mem.le_pick (Mem.add (Mem.add F χ) p141) 2 [1] (by decide)) (Mem.le_gather (Mem.add (Mem.add F χ) p141) 2))) hx338 (w125 :: w82 :: w29 :: p146 :: p128 :: [(b120, row [.int .i64 x109.Kind, .int .i64 x109.At.Request, .int .i64 x109.At.Layer, .int .i64 x109.At.Place, .slice a114 x109.K.length c115, .slice a117 x109.V.length c118] 33)] :: [(b22, row [.int .i64 v126.room, .map (some b127)] 62)] :: Φ))) ?_
                                rintro _ _ ⟨rfl, hs339⟩
                                have hs339 := Sat.unlay F [p141, χ] hs339
                                have hs339 := (hs339.arrange 2 7 [2, 3, 4, 1] [0, 5, 6, 7, 8] (by decide))
                                refine ⟨(Mem.add (Mem.add (Mem.add (Mem.add F χ) w29) w82) w125), (p141 :: p146 :: p128 :: [(b120, row [.int .i64 x109.Kind, .int .i64 x109.At.Request, .int .i64 x109.At.Layer, .int .i64 x109.At.Place, .slice a114 x109.K.length c115, .slice a117 x109.V.length c118] 33)] :: [(b22, row [.int .i64 v126.room, .map (some b127)] 62)] :: Φ), hs339, trivial, ?_⟩
                                refine WO.un rfl rfl rfl rfl rfl ?_
                                refine WO.pickF rfl rfl rfl rfl rfl ?_
                                refine WO.move rfl rfl rfl rfl ?_
                                refine WO.split (t := 115) rfl (fun hg340 => ?_) (fun hg340 => ?_)
                                · have hr := cond_t hg340 hr
                                  refine WO.skip rfl rfl rfl rfl ?_
                                  refine WO.skip rfl rfl rfl rfl ?_
                                  refine WO.skipF rfl rfl rfl rfl ?_
                                  refine WO.skip rfl rfl rfl rfl ?_
                                  refine WO.pickT rfl rfl rfl rfl rfl ?_
                                  refine WO.done ?_
                                  refine At.seq_at ?_
                                  exact fun a w hc hs => ⟨true, hr, (hc.keep (hc.keep (hc.keep (hc.keep (hc.keep (hc.keep (hc.keep (hc.keep hc.nil (t := 120) rfl) (t := 12) rfl) (t := 11) rfl) (t := 9) rfl) (t := 7) rfl) (t := 2) rfl) (t := 1) rfl) (t := 0) rfl), hs⟩
                                · have hr := cond_f hg340 hr
                                  refine WO.move rfl rfl rfl rfl ?_
                                  refine WO.move rfl rfl rfl rfl ?_
                                  obtain ⟨x341, hx342, hr⟩ := bind_some' hr
                                  refine WO.call rfl rfl rfl rfl rfl cl_14 (CallsRet.lay 4 5 2 [5, 3] [0, 1, 2, 4, 6, 7, 8] (by decide) (Mem.add F (List.flatten [p146, χ])) (w125 :: w82 :: w29 :: p141 :: p128 :: [(b120, row [.int .i64 x109.Kind, .int .i64 x109.At.Request, .int .i64 x109.At.Layer, .int .i64 x109.At.Place, .slice a114 x109.K.length c115, .slice a117 x109.V.length c118] 33)] :: [(b22, row [.int .i64 v126.room, .map (some b127)] 62)] :: Φ) rfl rfl (ref04_Bytes_ok (F := F) (χ := (List.flatten [p146, χ])) (((OwnL.re (G := F) (const_int _) h145).rd (mono_int _)).mono (mono_int _) (Mem.le.trans (Mem.le_pick (Mem.add (Mem.add F χ) p146) 2 [0] (by decide)) (Mem.le_gather (Mem.add (Mem.add F χ) p146) 2))) (h5.mono (mono_int _) (Mem.le.trans (Mem.le_pick (Mem.add (Mem.add F χ) p146) 2 [1] (by decide)) (Mem.le_gather (Mem.add (Mem.add F χ) p146) 2))) hx342 (w125 :: w82 :: w29 :: p141 :: p128 :: [(b120, row [.int .i64 x109.Kind, .int .i64 x109.At.Request, .int .i64 x109.At.Layer, .int .i64 x109.At.Place, .slice a114 x109.K.length c115, .slice a117 x109.V.length c118] 33)] :: [(b22, row [.int .i64 v126.room, .map (some b127)] 62)] :: Φ))) ?_
                                  rintro _ _ ⟨rfl, hs343⟩
                                  have hs343 := Sat.unlay F [p146, χ] hs343
                                  have hs343 := (hs343.arrange 2 7 [2, 3, 4, 1] [5, 0, 6, 7, 8] (by decide))
                                  refine ⟨(Mem.add (Mem.add (Mem.add (Mem.add F χ) w29) w82) w125), (p141 :: p146 :: p128 :: [(b120, row [.int .i64 x109.Kind, .int .i64 x109.At.Request, .int .i64 x109.At.Layer, .int .i64 x109.At.Place, .slice a114 x109.K.length c115, .slice a117 x109.V.length c118] 33)] :: [(b22, row [.int .i64 v126.room, .map (some b127)] 62)] :: Φ), hs343, trivial, ?_⟩
                                  refine WO.un rfl rfl rfl rfl rfl ?_
                                  refine WO.pickF rfl rfl rfl rfl rfl ?_
                                  refine WO.done ?_
                                  refine At.seq_at ?_
                                  exact fun a w hc hs => ⟨(!x341), hr, (hc.keep (hc.keep (hc.keep (hc.keep (hc.keep (hc.keep (hc.keep (hc.keep hc.nil (t := 120) rfl) (t := 12) rfl) (t := 11) rfl) (t := 9) rfl) (t := 7) rfl) (t := 2) rfl) (t := 1) rfl) (t := 0) rfl), hs⟩
                            · rintro a w ⟨v150, hr, hc, hs⟩
                              refine WC.use hc hs ?_
                              clear hc hs
                              unfold law12_CacheStays_k11 at hr
                              refine WC.cond rfl (fun hb151 => ?_) (fun hb151 => ?_)
                              · have hr := cond_t hb151 hr
                                refine WC.then ?_
                                refine WC.region [(0, true)] rfl ?_
                                refine WO.assign rfl rfl rfl rfl ?_
                                refine WO.done ?_
                                refine At.seq_wc ?_
                                refine WC.ret ?_
                                refine At.seq_ret ?_
                                refine At.block_ret ?_
                                refine At.seq_ret ?_
                                refine At.round_ret hr (fun hy => ?_)
                                subst hy
                                have hr := hk7
                                refine At.block_ret ?_
                                refine At.seq_ret ?_
                                refine At.seq_ret ?_
                                obtain rfl := Option.some.inj hr
                                exact At.ret (fun a w hc hs => (resVs_cons (hc.res rfl) resVs_nil)) (fun w hs => ⟨rfl, (hs.arrange 4 5 [3] [] (by decide))⟩)
                              · have hr := cond_f hb151 hr
                                refine WC.skip ?_
                                refine At.seq_wc ?_
                                refine WC.seq (fun a w => law12_CacheStays_k12 p0 v83 v126 = some r7 ∧ Ctx 172 [(0, .slice a_0 p0.length c_0), (1, .slice a3 v2.length c4), (2, .slice a7 v6.length c8), (7, .pointer (some ⟨b22, 0, none⟩)), (9, .int .i64 v83)] a ∧ Sat (Mem.add (Mem.add (Mem.add (Mem.add F χ) w29) w82) w125) (p128 :: [(b120, row [.int .i64 x109.Kind, .int .i64 x109.At.Request, .int .i64 x109.At.Layer, .int .i64 x109.At.Place, .slice a114 x109.K.length c115, .slice a117 x109.V.length c118] 33)] :: [(b22, row [.int .i64 v126.room, .map (some b127)] 62)] :: Φ) w) ?_ ?_
                                · refine WC.then ?_
                                  refine WC.region [(0, true)] rfl ?_
                                  refine WO.assign rfl rfl rfl rfl ?_
                                  refine WO.done ?_
                                  refine At.seq_wc ?_
                                  obtain ⟨xl17, hl17, hk17⟩ := bind_some' hr
                                  refine WC.weaken (fun a w => () = xl17 ∧ Ctx 172 [(0, .slice a_0 p0.length c_0), (1, .slice a3 v2.length c4), (2, .slice a7 v6.length c8), (7, .pointer (some ⟨b22, 0, none⟩)), (9, .int .i64 v83)] a ∧ Sat (Mem.add (Mem.add (Mem.add (Mem.add F χ) w29) w82) w125) (p128 :: [(b120, row [.int .i64 x109.Kind, .int .i64 x109.At.Request, .int .i64 x109.At.Layer, .int .i64 x109.At.Place, .slice a114 x109.K.length c115, .slice a117 x109.V.length c118] 33)] :: [(b22, row [.int .i64 v126.room, .map (some b127)] 62)] :: Φ) w) ?_ ?_
                                  · refine WC.block ?_
                                    refine WC.loop (fun ⟨v295, v301, v307⟩ a w => ∃ (a296 : Option Addr) (c297 : Nat) (p298 : List Chunk) (a302 : Option Addr) (c303 : Nat) (p304 : List Chunk), Ctx 172 [(0, .slice a_0 p0.length c_0), (1, .slice a3 v2.length c4), (2, .slice a7 v6.length c8), (7, .pointer (some ⟨b22, 0, none⟩)), (9, .int .i64 v83), (11, .slice a296 v295.length c297), (12, .slice a302 v301.length c303), (14, .int .i64 v307)] a ∧ Sat (Mem.add (Mem.add (Mem.add (Mem.add F χ) w29) w82) w125) (p298 :: p304 :: p128 :: [(b120, row [.int .i64 x109.Kind, .int .i64 x109.At.Request, .int .i64 x109.At.Layer, .int .i64 x109.At.Place, .slice a114 x109.K.length c115, .slice a117 x109.V.length c118] 33)] :: [(b22, row [.int .i64 v126.room, .map (some b127)] 62)] :: Φ) w ∧ OwnL 1 (RInt .i8) F 45 a296 c297 v295 p298 ∧ OwnL 1 (RInt .i8) F 45 a302 c303 v301 p304) hl17 ?_ ?_
                                    · exact fun a w hc hs => ⟨a138, c139, p141, a143, c144, p146, (hc.keep (hc.keep (hc.keep (hc.keep (hc.keep (hc.keep (hc.keep (hc.keep hc.nil (t := 14) rfl) (t := 12) rfl) (t := 11) rfl) (t := 9) rfl) (t := 7) rfl) (t := 2) rfl) (t := 1) rfl) (t := 0) rfl), hs, (OwnL.re (G := F) (const_int _) h140), (OwnL.re (G := F) (const_int _) h145)⟩
                                    · rintro ⟨v295, v301, v307⟩ r17 hr a w ⟨a296, c297, p298, a302, c303, p304, hc, hs, ho299, ho305⟩
                                      refine WC.use hc hs ?_
                                      clear hc hs
                                      (try dsimp only at hr)
                                      unfold law12_CacheStays_b16 at hr
                                      refine WC.then ?_
                                      refine WC.then ?_
                                      refine WC.region [(0, true), (1, true), (2, true), (3, true)] rfl ?_
                                      refine WO.move rfl rfl rfl rfl ?_
                                      refine WO.move rfl rfl rfl rfl ?_
                                      refine WO.len rfl rfl rfl rfl Try.underlying31 ?_
                                      refine WO.bin rfl rfl rfl rfl rfl rfl ?_
                                      refine WO.done ?_
                                      refine At.seq_wc ?_
                                      refine WC.cond rfl (fun hb323 => ?_) (fun hb323 => ?_)
                                      · have hr := cond_t hb323 hr
                                        refine WC.skip ?_
                                        refine At.seq_wc ?_
                                        refine WC.then ?_
                                        refine WC.block ?_
                                        refine WC.region [(0, true), (1, true), (2, true), (3, true), (4, true), (5, false), (6, true), (7, false)] rfl ?_
                                        refine WO.move rfl rfl rfl rfl ?_
                                        refine WO.move rfl rfl rfl rfl ?_
                                        refine WO.move rfl rfl rfl rfl ?_
                                        refine WO.move rfl rfl rfl rfl ?_
                                        obtain ⟨x324, hx325, hr⟩ := bind_some' hr
                                        refine WO.indexO ho299 hx325 rfl rfl rfl rfl rfl rfl Try.underlying31 sz_45 (fun b326 hb327 => ?_)
                                        subst hb327
                                        refine WO.storeO 0 ho299 hx325 rfl rfl rfl rfl rfl sz_45 (fun _ _ _ => trivial) (fun p328 ho329 => ?_)
                                        refine WO.relen 11 (k' := (List.set v295 (Int.toNat v307) 0).length) rfl (List.length_set ..).symm ?_
                                        refine WO.relen 122 (k' := (List.set v295 (Int.toNat v307) 0).length) rfl (List.length_set ..).symm ?_
                                        refine WO.relen 127 (k' := (List.set v295 (Int.toNat v307) 0).length) rfl (List.length_set ..).symm ?_
                                        obtain ⟨x330, hx331, hr⟩ := bind_some' hr
                                        refine WO.indexO ho305 hx331 rfl rfl rfl rfl rfl rfl Try.underlying31 sz_45 (fun b332 hb333 => ?_)
                                        subst hb333
                                        refine WO.storeO 1 ho305 hx331 rfl rfl rfl rfl rfl sz_45 (fun _ _ _ => trivial) (fun p334 ho335 => ?_)
                                        refine WO.relen 12 (k' := (List.set v301 (Int.toNat v307) 0).length) rfl (List.length_set ..).symm ?_
                                        refine WO.relen 129 (k' := (List.set v301 (Int.toNat v307) 0).length) rfl (List.length_set ..).symm ?_
                                        refine WO.done ?_
                                        refine At.block_normal ?_
                                        refine At.seq_wc ?_
                                        refine WC.region [(0, true), (1, true), (2, true)] rfl ?_
                                        refine WO.move rfl rfl rfl rfl ?_
                                        refine WO.bin rfl rfl rfl rfl rfl rfl ?_
                                        refine WO.assign rfl rfl rfl rfl ?_
                                        refine WO.done ?_
                                        refine At.round_next hr ?_
                                        exact fun a w hc hs => ⟨(some ⟨b326, 0, none⟩), c297, p328, (some ⟨b332, 0, none⟩), c303, p334, (hc.keep (hc.keep (hc.keep (hc.keep (hc.keep (hc.keep (hc.keep (hc.keep hc.nil (t := 14) rfl) (t := 12) rfl) (t := 11) rfl) (t := 9) rfl) (t := 7) rfl) (t := 2) rfl) (t := 1) rfl) (t := 0) rfl), hs, (OwnL.re (G := F) (const_int _) ho329), (OwnL.re (G := F) (const_int _) ho335)⟩
                                      · have hr := cond_f hb323 hr
                                        refine WC.exit ?_
                                        refine At.seq_exit ?_
                                        refine At.round_exit hr (fun hy => ?_)
                                        refine At.exit_block ?_
                                        refine At.seq_at ?_
                                        exact fun a w hc hs => ⟨hy, (hc.keep (hc.keep (hc.keep (hc.keep (hc.keep hc.nil (t := 9) rfl) (t := 7) rfl) (t := 2) rfl) (t := 1) rfl) (t := 0) rfl), (hs.arrange 4 5 [0, 1, 2, 3] [6, 7, 8] (by decide))⟩
                                  · rintro a w ⟨rfl, hc, hs⟩
                                    refine At.use hc hs ?_
                                    clear hc hs
                                    (try dsimp only at hk17)
                                    have hr := hk17
                                    refine At.seq_at ?_
                                    exact fun a w hc hs => ⟨hr, (hc.keep (hc.keep (hc.keep (hc.keep (hc.keep hc.nil (t := 9) rfl) (t := 7) rfl) (t := 2) rfl) (t := 1) rfl) (t := 0) rfl), hs⟩
                                · rintro a w ⟨hr, hc, hs⟩
                                  refine WC.use hc hs ?_
                                  clear hc hs
                                  unfold law12_CacheStays_k12 at hr
                                  refine WC.then ?_
                                  refine WC.region [(0, true), (1, false), (2, true), (3, true), (4, true), (5, true), (6, true)] rfl ?_
                                  refine WO.move rfl rfl rfl rfl ?_
                                  obtain ⟨x153, hx154, hr⟩ := bind_some' hr
                                  refine WO.call rfl rfl rfl rfl rfl cl_11 (CallsRet.lay0 4 3 [0, 1, 2] [6, 4, 3, 5] (by decide) (Mem.add (Mem.add (Mem.add F w29) w82) w125) ([(b22, row [.int .i64 v126.room, .map (some b127)] 62)] :: p128 :: χ :: [(b120, row [.int .i64 x109.Kind, .int .i64 x109.At.Request, .int .i64 x109.At.Layer, .int .i64 x109.At.Place, .slice a114 x109.K.length c115, .slice a117 x109.V.length c118] 33)] :: Φ) rfl rfl (cache_Store_Line_vm_ok (F := (Mem.add (Mem.add (Mem.add F w29) w82) w125)) hm129 hx154 (χ :: [(b120, row [.int .i64 x109.Kind, .int .i64 x109.At.Request, .int .i64 x109.At.Layer, .int .i64 x109.At.Place, .slice a114 x109.K.length c115, .slice a117 x109.V.length c118] 33)] :: Φ))) ?_
                                  rintro _ _ ⟨a155, c156, p158, a160, c161, p163, rfl, hs165, h157, h162⟩
                                  have hs165 := (hs165.arrange 3 6 [0, 1, 2, 7] [3, 4, 6, 8, 5] (by decide))
                                  refine ⟨(Mem.add (Mem.add (Mem.add (Mem.add F χ) w29) w82) w125), (p158 :: p163 :: p128 :: [(b120, row [.int .i64 x109.Kind, .int .i64 x109.At.Request, .int .i64 x109.At.Layer, .int .i64 x109.At.Place, .slice a114 x109.K.length c115, .slice a117 x109.V.length c118] 33)] :: [(b22, row [.int .i64 v126.room, .map (some b127)] 62)] :: Φ), hs165, trivial, ?_⟩
                                  refine WO.move rfl rfl rfl rfl ?_
                                  refine WO.extract rfl rfl rfl rfl rfl ?_
                                  refine WO.extract rfl rfl rfl rfl rfl ?_
                                  refine WO.assign rfl rfl rfl rfl ?_
                                  refine WO.assign rfl rfl rfl rfl ?_
                                  refine WO.done ?_
                                  refine At.seq_wc ?_
                                  refine WC.then ?_
                                  refine WC.seq (fun a w => ∃ (v167 : List (List Int)) (v173 : Bool) (a168 : Option Addr) (c169 : Nat) (p170 : List Chunk), law12_CacheStays_k13 p0 v83 v126 v167 v173 = some r7 ∧ Ctx 172 [(0, .slice a_0 p0.length c_0), (1, .slice a3 v2.length c4), (2, .slice a7 v6.length c8), (7, .pointer (some ⟨b22, 0, none⟩)), (9, .int .i64 v83), (15, .slice a168 v167.length c169), (148, .bool v173)] a ∧ Sat (Mem.add (Mem.add (Mem.add (Mem.add F χ) w29) w82) w125) (p170 :: p163 :: p128 :: [(b120, row [.int .i64 x109.Kind, .int .i64 x109.At.Request, .int .i64 x109.At.Layer, .int .i64 x109.At.Place, .slice a114 x109.K.length c115, .slice a117 x109.V.length c118] 33)] :: [(b22, row [.int .i64 v126.room, .map (some b127)] 62)] :: Φ) w ∧ OwnE 1 RO_L31 F 31 a168 c169 v167 p170) ?_ ?_
                                  · refine WC.region [(0, true), (1, true), (2, true), (3, true), (4, true), (5, true), (6, false), (7, true), (8, false), (9, true), (10, true)] rfl ?_
                                    refine WO.move rfl rfl rfl rfl ?_
                                    refine WO.len rfl rfl rfl rfl Try.underlying37 ?_
                                    refine WO.bin rfl rfl rfl rfl rfl rfl ?_
                                    refine WO.move rfl rfl rfl rfl ?_
                                    refine WO.split (t := 141) rfl (fun hg242 => ?_) (fun hg242 => ?_)
                                    · have hr := cond_t hg242 hr
                                      refine WO.skip rfl rfl rfl rfl ?_
                                      refine WO.skip rfl rfl rfl rfl ?_
                                      refine WO.skipF rfl rfl rfl rfl ?_
                                      refine WO.skip rfl rfl rfl rfl ?_
                                      refine WO.skipF rfl rfl rfl rfl ?_
                                      refine WO.skip rfl rfl rfl rfl ?_
                                      refine WO.pickT rfl rfl rfl rfl rfl ?_
                                      refine WO.done ?_
                                      refine At.seq_at ?_
                                      exact fun a w hc hs => ⟨x153.1, true, a155, c156, p158, hr, (hc.keep (hc.keep (hc.keep (hc.keep (hc.keep (hc.keep (hc.keep hc.nil (t := 148) rfl) (t := 15) rfl) (t := 9) rfl) (t := 7) rfl) (t := 2) rfl) (t := 1) rfl) (t := 0) rfl), hs, (OwnE.re (G := F) constE_L31 h157)⟩
                                    · have hr := cond_f hg242 hr
                                      refine WO.move rfl rfl rfl rfl ?_
                                      refine WO.unE 0 h157 rfl (fun y243 p244 p245 hp246 hO247 hI248 => ?_)
                                      obtain ⟨x251, hx252, hr⟩ := bind_some' hr
                                      refine WO.openI 1 hI248 rfl hx252 (fun y258 p259 p260 hy261 hR262 hH263 => ?_)
                                      obtain ⟨a264, c265, p266, rfl, rfl, ho267⟩ := hR262
                                      refine WO.flatE [p266] (p260 :: p244 :: p163 :: p128 :: [(b120, row [.int .i64 x109.Kind, .int .i64 x109.At.Request, .int .i64 x109.At.Layer, .int .i64 x109.At.Place, .slice a114 x109.K.length c115, .slice a117 x109.V.length c118] 33)] :: [(b22, row [.int .i64 v126.room, .map (some b127)] 62)] :: Φ) ?_
                                      refine WO.indexQ hO247 hy261 rfl rfl rfl rfl (hH263.len) rfl Try.underlying37 sz_31 (fun b253 cs254 hb255 h256 hq257 => ?_)
                                      cases h256
                                      subst hb255
                                      refine WO.loadQ 2 0 hq257 rfl rfl rfl rfl rfl rfl sc_31 rfl ?_
                                      refine WO.move rfl rfl rfl rfl ?_
                                      obtain ⟨x270, hx271, hr⟩ := bind_some' hr
                                      refine WO.call rfl rfl rfl rfl rfl cl_14 (CallsRet.lay 4 7 2 [4, 3] [0, 1, 2, 5, 6, 7, 8, 9, 10] (by decide) (Mem.add F (List.flatten [p266, χ])) (w125 :: w82 :: w29 :: p260 :: p244 :: p163 :: p128 :: [(b120, row [.int .i64 x109.Kind, .int .i64 x109.At.Request, .int .i64 x109.At.Layer, .int .i64 x109.At.Place, .slice a114 x109.K.length c115, .slice a117 x109.V.length c118] 33)] :: [(b22, row [.int .i64 v126.room, .map (some b127)] 62)] :: Φ) rfl rfl (ref04_Bytes_ok (F := F) (χ := (List.flatten [p266, χ])) (((OwnL.re (G := F) (const_int _) ho267).rd (mono_int _)).mono (mono_int _) (Mem.le.trans (Mem.le_pick (Mem.add (Mem.add F χ) p266) 2 [0] (by decide)) (Mem.le_gather (Mem.add (Mem.add F χ) p266) 2))) (h_0.mono (mono_int _) (Mem.le.trans (Mem.le_pick (Mem.add (Mem.add F χ) p266) 2 [1] (by decide)) (Mem.le_gather (Mem.add (Mem.add F χ) p266) 2))) hx271 (w125 :: w82 :: w29 :: p260 :: p244 :: p163 :: p128 :: [(b120, row [.int .i64 x109.Kind, .int .i64 x109.At.Request, .int .i64 x109.At.Layer, .int .i64 x109.At.Place, .slice a114 x109.K.length c115, .slice a117 x109.V.length c118] 33)] :: [(b22, row [.int .i64 v126.room, .map (some b127)] 62)] :: Φ))) ?_
                                      rintro _ _ ⟨rfl, hs272⟩
                                      have hs272 := Sat.unlay F [p266, χ] hs272
                                      have hs272 := (hs272.arrange 2 9 [2, 3, 4, 1] [0, 5, 6, 7, 8, 9, 10] (by decide))
                                      refine ⟨(Mem.add (Mem.add (Mem.add (Mem.add F χ) w29) w82) w125), (p266 :: p260 :: p244 :: p163 :: p128 :: [(b120, row [.int .i64 x109.Kind, .int .i64 x109.At.Request, .int .i64 x109.At.Layer, .int .i64 x109.At.Place, .slice a114 x109.K.length c115, .slice a117 x109.V.length c118] 33)] :: [(b22, row [.int .i64 v126.room, .map (some b127)] 62)] :: Φ), hs272, trivial, ?_⟩
                                      refine WO.un rfl rfl rfl rfl rfl ?_
                                      refine WO.pickF rfl rfl rfl rfl rfl ?_
                                      refine WO.done ?_
                                      refine At.closeI0 (F1 := F) [p266] (p244 :: p163 :: p128 :: [(b120, row [.int .i64 x109.Kind, .int .i64 x109.At.Request, .int .i64 x109.At.Layer, .int .i64 x109.At.Place, .slice a114 x109.K.length c115, .slice a117 x109.V.length c118] 33)] :: [(b22, row [.int .i64 v126.room, .map (some b127)] 62)] :: Φ) hx252 (InH.re (G := F) constE_L31 hH263) hy261 ⟨_, _, _, rfl, rfl, (OwnL.re (G := F) (const_int _) ho267)⟩ (fun p273 hI274 => ?_)
                                      refine At.arrange 4 6 [0, 1, 2, 3] [5, 4, 6, 7, 8, 9] (by decide) (Mem.add (Mem.add (Mem.add (Mem.add F χ) w29) w82) w125) (p244 :: p273 :: p163 :: p128 :: [(b120, row [.int .i64 x109.Kind, .int .i64 x109.At.Request, .int .i64 x109.At.Layer, .int .i64 x109.At.Place, .slice a114 x109.K.length c115, .slice a117 x109.V.length c118] 33)] :: [(b22, row [.int .i64 v126.room, .map (some b127)] 62)] :: Φ) rfl rfl ?_
                                      refine At.packE (p163 :: p128 :: [(b120, row [.int .i64 x109.Kind, .int .i64 x109.At.Request, .int .i64 x109.At.Layer, .int .i64 x109.At.Place, .slice a114 x109.K.length c115, .slice a117 x109.V.length c118] 33)] :: [(b22, row [.int .i64 v126.room, .map (some b127)] 62)] :: Φ) (hO247.raw (G := F)) (InE.re (G := F) constE_L31 hI274) (fun p276 hp277 hE278 => ?_)
                                      refine At.seq_at ?_
                                      exact fun a w hc hs => ⟨x153.1, (!x270), (some ⟨b253, 0, none⟩), c156, p276, hr, (hc.keep (hc.keep (hc.keep (hc.keep (hc.keep (hc.keep (hc.keep hc.nil (t := 148) rfl) (t := 15) rfl) (t := 9) rfl) (t := 7) rfl) (t := 2) rfl) (t := 1) rfl) (t := 0) rfl), hs, (OwnE.re (G := F) constE_L31 hE278)⟩
                                  · rintro a w ⟨v167, v173, a168, c169, p170, hr, hc, hs, ho171⟩
                                    refine WC.use hc hs ?_
                                    clear hc hs
                                    unfold law12_CacheStays_k13 at hr
                                    refine WC.cond rfl (fun hb174 => ?_) (fun hb174 => ?_)
                                    · have hr := cond_t hb174 hr
                                      refine WC.then ?_
                                      refine WC.region [(0, true)] rfl ?_
                                      refine WO.assign rfl rfl rfl rfl ?_
                                      refine WO.done ?_
                                      refine At.seq_wc ?_
                                      refine WC.ret ?_
                                      refine At.seq_ret ?_
                                      refine At.block_ret ?_
                                      refine At.seq_ret ?_
                                      refine At.round_ret hr (fun hy => ?_)
                                      subst hy
                                      have hr := hk7
                                      refine At.block_ret ?_
                                      refine At.seq_ret ?_
                                      refine At.seq_ret ?_
                                      obtain rfl := Option.some.inj hr
                                      exact At.ret (fun a w hc hs => (resVs_cons (hc.res rfl) resVs_nil)) (fun w hs => ⟨rfl, (hs.arrange 4 5 [3] [] (by decide))⟩)
                                    · have hr := cond_f hb174 hr
                                      refine WC.skip ?_
                                      refine At.seq_wc ?_
                                      refine WC.then ?_
                                      refine WC.region [(0, true)] rfl ?_
                                      refine WO.assign rfl rfl rfl rfl ?_
                                      refine WO.done ?_
                                      refine At.seq_wc ?_
                                      obtain ⟨xl15, hl15, hk15⟩ := bind_some' hr
                                      refine WC.weaken (fun a w => () = xl15 ∧ Ctx 172 [(0, .slice a_0 p0.length c_0), (1, .slice a3 v2.length c4), (2, .slice a7 v6.length c8), (7, .pointer (some ⟨b22, 0, none⟩)), (9, .int .i64 v83)] a ∧ Sat (Mem.add (Mem.add (Mem.add (Mem.add F χ) w29) w82) w125) (p163 :: p128 :: [(b120, row [.int .i64 x109.Kind, .int .i64 x109.At.Request, .int .i64 x109.At.Layer, .int .i64 x109.At.Place, .slice a114 x109.K.length c115, .slice a117 x109.V.length c118] 33)] :: [(b22, row [.int .i64 v126.room, .map (some b127)] 62)] :: Φ) w) ?_ ?_
                                      · refine WC.block ?_
                                        refine WC.loop (fun ⟨v185, v191⟩ a w => ∃ (a186 : Option Addr) (c187 : Nat) (p188 : List Chunk), Ctx 172 [(0, .slice a_0 p0.length c_0), (1, .slice a3 v2.length c4), (2, .slice a7 v6.length c8), (7, .pointer (some ⟨b22, 0, none⟩)), (9, .int .i64 v83), (15, .slice a186 v185.length c187), (17, .int .i64 v191)] a ∧ Sat (Mem.add (Mem.add (Mem.add (Mem.add F χ) w29) w82) w125) (p188 :: p163 :: p128 :: [(b120, row [.int .i64 x109.Kind, .int .i64 x109.At.Request, .int .i64 x109.At.Layer, .int .i64 x109.At.Place, .slice a114 x109.K.length c115, .slice a117 x109.V.length c118] 33)] :: [(b22, row [.int .i64 v126.room, .map (some b127)] 62)] :: Φ) w ∧ OwnE 1 RO_L31 F 31 a186 c187 v185 p188) hl15 ?_ ?_
                                        · exact fun a w hc hs => ⟨a168, c169, p170, (hc.keep (hc.keep (hc.keep (hc.keep (hc.keep (hc.keep (hc.keep hc.nil (t := 17) rfl) (t := 15) rfl) (t := 9) rfl) (t := 7) rfl) (t := 2) rfl) (t := 1) rfl) (t := 0) rfl), hs, (OwnE.re (G := F) constE_L31 ho171)⟩
                                        · rintro ⟨v185, v191⟩ r15 hr a w ⟨a186, c187, p188, hc, hs, ho189⟩
                                          refine WC.use hc hs ?_
                                          clear hc hs
                                          (try dsimp only at hr)
                                          unfold law12_CacheStays_b14 at hr
                                          refine WC.then ?_
                                          refine WC.then ?_
                                          refine WC.region [(0, true), (1, true), (2, true), (3, true)] rfl ?_
                                          refine WO.move rfl rfl rfl rfl ?_
                                          refine WO.move rfl rfl rfl rfl ?_
                                          refine WO.len rfl rfl rfl rfl Try.underlying31 ?_
                                          refine WO.bin rfl rfl rfl rfl rfl rfl ?_
                                          refine WO.done ?_
                                          refine At.seq_wc ?_
                                          refine WC.cond rfl (fun hb201 => ?_) (fun hb201 => ?_)
                                          · have hr := cond_t hb201 hr
                                            refine WC.skip ?_
                                            refine At.seq_wc ?_
                                            refine WC.then ?_
                                            refine WC.block ?_
                                            refine WC.region [(0, true), (1, true), (2, false), (3, true), (4, true), (5, false)] rfl ?_
                                            refine WO.move rfl rfl rfl rfl ?_
                                            refine WO.unE 0 ho189 rfl (fun y202 p203 p204 hp205 hO206 hI207 => ?_)
                                            obtain ⟨x210, hx211, hr⟩ := bind_some' hr
                                            refine WO.openI 1 hI207 rfl hx211 (fun y217 p218 p219 hy220 hR221 hH222 => ?_)
                                            obtain ⟨a223, c224, p225, rfl, rfl, ho226⟩ := hR221
                                            refine WO.flatE [p225] (p219 :: p203 :: p163 :: p128 :: [(b120, row [.int .i64 x109.Kind, .int .i64 x109.At.Request, .int .i64 x109.At.Layer, .int .i64 x109.At.Place, .slice a114 x109.K.length c115, .slice a117 x109.V.length c118] 33)] :: [(b22, row [.int .i64 v126.room, .map (some b127)] 62)] :: Φ) ?_
                                            refine WO.indexQ hO206 hy220 rfl rfl rfl rfl (hH222.len) rfl Try.underlying37 sz_31 (fun b212 cs213 hb214 h215 hq216 => ?_)
                                            cases h215
                                            subst hb214
                                            refine WO.loadQ 2 0 hq216 rfl rfl rfl rfl rfl rfl sc_31 rfl ?_
                                            refine WO.move rfl rfl rfl rfl ?_
                                            obtain ⟨x229, hx230, hr⟩ := bind_some' hr
                                            refine WO.indexO ho226 hx230 rfl rfl rfl rfl rfl rfl Try.underlying31 sz_45 (fun b231 hb232 => ?_)
                                            subst hb232
                                            refine WO.storeO 0 ho226 hx230 rfl rfl rfl rfl rfl sz_45 (fun _ _ _ => trivial) (fun p233 ho234 => ?_)
                                            refine WO.relen 157 (k' := (List.set x210 (Int.toNat v191) 9).length) rfl (List.length_set ..).symm ?_
                                            have hy235 := hy220.trans (show _ = some ([.slice (some ⟨b231, 0, none⟩) ((List.set x210 (Int.toNat v191) 9).length) c224] : List Value) from by simp only [List.length_set])
                                            refine WO.done ?_
                                            refine At.closeI (F1 := F) [p233] (p203 :: p163 :: p128 :: [(b120, row [.int .i64 x109.Kind, .int .i64 x109.At.Request, .int .i64 x109.At.Layer, .int .i64 x109.At.Place, .slice a114 x109.K.length c115, .slice a117 x109.V.length c118] 33)] :: [(b22, row [.int .i64 v126.room, .map (some b127)] 62)] :: Φ) (List.set x210 (Int.toNat v191) 9) (InH.re (G := F) constE_L31 hH222) hy235 ⟨_, _, _, rfl, rfl, (OwnL.re (G := F) (const_int _) ho234)⟩ (fun p236 hI237 => ?_)
                                            refine At.arrange 4 6 [0, 1, 2, 3] [5, 4, 6, 7, 8, 9] (by decide) (Mem.add (Mem.add (Mem.add (Mem.add F χ) w29) w82) w125) (p203 :: p236 :: p163 :: p128 :: [(b120, row [.int .i64 x109.Kind, .int .i64 x109.At.Request, .int .i64 x109.At.Layer, .int .i64 x109.At.Place, .slice a114 x109.K.length c115, .slice a117 x109.V.length c118] 33)] :: [(b22, row [.int .i64 v126.room, .map (some b127)] 62)] :: Φ) rfl rfl ?_
                                            refine At.packE (p163 :: p128 :: [(b120, row [.int .i64 x109.Kind, .int .i64 x109.At.Request, .int .i64 x109.At.Layer, .int .i64 x109.At.Place, .slice a114 x109.K.length c115, .slice a117 x109.V.length c118] 33)] :: [(b22, row [.int .i64 v126.room, .map (some b127)] 62)] :: Φ) (hO206.raw (G := F)) (InE.re (G := F) constE_L31 hI237) (fun p239 hp240 hE241 => ?_)
                                            refine At.relen 15 (k' := (List.set v185 (Int.toNat 0) (List.set x210 (Int.toNat v191) 9)).length) rfl (by simp only [List.length_set]) ?_
                                            refine At.relen 155 (k' := (List.set v185 (Int.toNat 0) (List.set x210 (Int.toNat v191) 9)).length) rfl (by simp only [List.length_set]) ?_
                                            refine At.block_normal ?_
                                            refine At.seq_wc ?_
                                            refine WC.region [(0, true), (1, true), (2, true)] rfl ?_
                                            refine WO.move rfl rfl rfl rfl ?_
                                            refine WO.bin rfl rfl rfl rfl rfl rfl ?_
                                            refine WO.assign rfl rfl rfl rfl ?_
                                            refine WO.done ?_
                                            refine At.round_next hr ?_
                                            exact fun a w hc hs => ⟨(some ⟨b212, 0, none⟩), c187, p239, (hc.keep (hc.keep (hc.keep (hc.keep (hc.keep (hc.keep (hc.keep hc.nil (t := 17) rfl) (t := 15) rfl) (t := 9) rfl) (t := 7) rfl) (t := 2) rfl) (t := 1) rfl) (t := 0) rfl), hs, (OwnE.re (G := F) constE_L31 hE241)⟩
                                          · have hr := cond_f hb201 hr
                                            refine WC.exit ?_
                                            refine At.seq_exit ?_
                                            refine At.round_exit hr (fun hy => ?_)
                                            refine At.exit_block ?_
                                            refine At.seq_at ?_
                                            exact fun a w hc hs => ⟨hy, (hc.keep (hc.keep (hc.keep (hc.keep (hc.keep hc.nil (t := 9) rfl) (t := 7) rfl) (t := 2) rfl) (t := 1) rfl) (t := 0) rfl), (hs.arrange 4 5 [0, 1, 2, 3] [5, 6, 7, 8] (by decide))⟩
                                      · rintro a w ⟨rfl, hc, hs⟩
                                        refine At.use hc hs ?_
                                        clear hc hs
                                        (try dsimp only at hk15)
                                        have hr := hk15
                                        refine At.block_normal ?_
                                        refine At.seq_at ?_
                                        exact fun a w hc hs => ⟨v126, b127, p128, (List.flatten [w125]), hr, (hc.keep (hc.keep (hc.keep (hc.keep (hc.keep hc.nil (t := 9) rfl) (t := 7) rfl) (t := 2) rfl) (t := 1) rfl) (t := 0) rfl), ((hs.arrange 4 4 [0, 1, 2, 3] [5, 7] (by decide)).gather 1), (hm129.mono (monoVA mono_cache_rows) (Mem.le_gather (Mem.add (Mem.add (Mem.add F w29) w82) w125) 1))⟩
                    · rintro a w ⟨v104, b105, p106, w103, hr, hc, hs, hm107⟩
                      refine WC.use hc hs ?_
                      clear hc hs
                      unfold law12_CacheStays_k8 at hr
                      refine WC.region [(0, true), (1, true), (2, true)] rfl ?_
                      refine WO.move rfl rfl rfl rfl ?_
                      refine WO.bin rfl rfl rfl rfl rfl rfl ?_
                      refine WO.assign rfl rfl rfl rfl ?_
                      refine WO.done ?_
                      refine At.round_next hr ?_
                      exact fun a w hc hs => ⟨b105, p106, (List.flatten [w103, w82]), (hc.keep (hc.keep (hc.keep (hc.keep (hc.keep hc.nil (t := 9) rfl) (t := 7) rfl) (t := 2) rfl) (t := 1) rfl) (t := 0) rfl), (hs.gather 2), (hm107.mono (monoVA mono_cache_rows) (Mem.le_gather (Mem.add (Mem.add (Mem.add F w29) w82) w103) 2))⟩
                  · have hr := cond_f hb102 hr
                    refine WC.exit ?_
                    refine At.seq_exit ?_
                    refine At.round_exit hr (fun hy => ?_)
                    refine At.exit_block ?_
                    refine At.seq_at ?_
                    exact fun a w hc hs => ⟨v84, b85, p86, (List.flatten [w82]), hy, (hc.keep (hc.keep hc.nil (t := 7) rfl) (t := 2) rfl), (hs.gather 1), (hm87.mono (monoVA mono_cache_rows) (Mem.le_gather (Mem.add (Mem.add F w29) w82) 1))⟩
              · rintro a w ⟨v97, b98, p99, w96, rfl, hc, hs, hm100⟩
                refine At.use hc hs ?_
                clear hc hs
                (try dsimp only at hk7)
                have hr := hk7
                refine At.seq_at ?_
                exact fun a w hc hs => ⟨v97, b98, p99, (List.flatten [w96]), hr, (hc.keep (hc.keep hc.nil (t := 7) rfl) (t := 2) rfl), (hs.gather 1), (hm100.mono (monoVA mono_cache_rows) (Mem.le_gather (Mem.add (Mem.add F w29) w96) 1))⟩
            · rintro a w ⟨v38, b39, p40, w37, hr, hc, hs, hm41⟩
              refine WC.use hc hs ?_
              clear hc hs
              unfold law12_CacheStays_k4 at hr
              refine WC.seq (fun a w => ∃ (v44 : Bool) (v45 : S_cache_Store) (b46 : Nat) (p47 : List Chunk), law12_CacheStays_k5 v44 v45 = some r ∧ Ctx 172 [(6, .bool v44)] a ∧ Sat (Mem.add (Mem.add (Mem.add F χ) w29) w37) (p47 :: [(b22, row [.int .i64 v45.room, .map (some b46)] 62)] :: Φ) w ∧ OwnM enc_api_Spot (RVA R_cache_rows) (Mem.add (Mem.add F w29) w37) b46 v45.m p47) ?_ ?_
              · refine WC.region [(0, true), (1, false), (2, false), (3, true), (4, true), (5, true), (6, false), (7, true), (8, true), (9, true), (10, true), (11, true), (12, true)] rfl ?_
                refine WO.move rfl rfl rfl rfl ?_
                refine WO.buildSl (e := 3) (vs := [.const (.int .i64 3)]) [0] [.int .i64 3] rfl rfl rfl rfl rfl (fun _ => by kernel_rfl) (fun _ _ _ => trivial) (fun b50 => ?_)
                have ho52 : OwnL 1 (RInt .i64) F 3 (some ⟨b50, 0, none⟩) 1 [3] [(b50, row [.int .i64 3] 3)] := ⟨Nat.le_refl _, .inr ⟨_, [[.int .i64 3]], [], rfl, rfl, (Rs.cons (x := 3) (cs := [.int .i64 3]) rfl rfl rfl Rs.nil), rfl⟩⟩
                obtain ⟨x54, hx55, hr⟩ := bind_some' hr
                refine WO.call rfl rfl rfl rfl rfl cl_9 (CallsRet.lay 3 3 1 [3, 0, 1] [5, 4, 2] (by decide) (Mem.add (Mem.add (Mem.add F w29) w37) (List.flatten [[(b50, row [.int .i64 3] 3)]])) ([(b22, row [.int .i64 v38.room, .map (some b39)] 62)] :: p40 :: χ :: Φ) rfl rfl (cache_Store_Drop_vm_ok (F := (Mem.add (Mem.add F w29) w37)) (χ := (List.flatten [[(b50, row [.int .i64 3] 3)]])) hm41 (((OwnL.re (G := F) (const_int _) ho52).rd (mono_int _)).mono (mono_int _) (Mem.le.trans (Mem.le_pick (Mem.add (Mem.add (Mem.add F w29) w37) [(b50, row [.int .i64 3] 3)]) 3 [0] (by decide)) (Mem.le_gather (Mem.add (Mem.add (Mem.add F w29) w37) [(b50, row [.int .i64 3] 3)]) 1))) hx55 (χ :: Φ))) ?_
                rintro _ _ ⟨b56, p57, rfl, hs60, hm59⟩
                have hs60 := Sat.unlay (Mem.add (Mem.add F w29) w37) [[(b50, row [.int .i64 3] 3)]] hs60
                have hs60 := (hs60.arrange 3 3 [1, 2, 5] [4, 0, 3] (by decide))
                refine ⟨(Mem.add (Mem.add (Mem.add F χ) w29) w37), (p57 :: [(b50, row [.int .i64 3] 3)] :: [(b22, row [.int .i64 x54.2.room, .map (some b56)] 62)] :: Φ), hs60, trivial, ?_⟩
                refine WO.bin rfl rfl rfl rfl rfl rfl ?_
                refine WO.move rfl rfl rfl rfl ?_
                refine WO.split (t := 164) rfl (fun hg61 => ?_) (fun hg61 => ?_)
                · have hr := cond_t hg61 hr
                  refine WO.move rfl rfl rfl rfl ?_
                  obtain ⟨x62, hx63, hr⟩ := bind_some' hr
                  refine WO.call rfl rfl rfl rfl rfl cl_15 (CallsRet.lay0 3 3 [0, 1] [5, 3, 2, 4] (by decide) (Mem.add (Mem.add F w29) w37) ([(b22, row [.int .i64 x54.2.room, .map (some b56)] 62)] :: p57 :: χ :: [(b50, row [.int .i64 3] 3)] :: Φ) rfl rfl (cache_Store_Requests_vm_ok (F := (Mem.add (Mem.add F w29) w37)) hm59 hx63 (χ :: [(b50, row [.int .i64 3] 3)] :: Φ))) ?_
                  rintro _ _ ⟨a64, c65, p67, b69, p70, rfl, hs73, h66, hm72⟩
                  have hs73 := (hs73.arrange 2 5 [0, 1, 5] [2, 4, 6, 3] (by decide))
                  refine ⟨(Mem.add (Mem.add (Mem.add F χ) w29) w37), (p67 :: p70 :: [(b50, row [.int .i64 3] 3)] :: [(b22, row [.int .i64 x62.2.room, .map (some b69)] 62)] :: Φ), hs73, trivial, ?_⟩
                  refine WO.len rfl rfl rfl rfl Try.underlying46 ?_
                  refine WO.move rfl rfl rfl rfl ?_
                  refine WO.len rfl rfl rfl rfl Try.underlying22 ?_
                  refine WO.bin rfl rfl rfl rfl rfl rfl ?_
                  refine WO.pickT rfl rfl rfl rfl rfl ?_
                  refine WO.assign rfl rfl rfl rfl ?_
                  refine WO.done ?_
                  refine At.seq_at ?_
                  exact fun a w hc hs => ⟨(decide ((x62.1.length : Int) ≤ (v6.length : Int))), x62.2, b69, p70, hr, (hc.keep hc.nil (t := 6) rfl), (hs.arrange 3 4 [0, 1, 2] [4, 6] (by decide)), hm72⟩
                · have hr := cond_f hg61 hr
                  refine WO.skip rfl rfl rfl rfl ?_
                  refine WO.skipF rfl rfl rfl rfl ?_
                  refine WO.skip rfl rfl rfl rfl ?_
                  refine WO.skip rfl rfl rfl rfl ?_
                  refine WO.skip rfl rfl rfl rfl ?_
                  refine WO.skip rfl rfl rfl rfl ?_
                  refine WO.pickF rfl rfl rfl rfl rfl ?_
                  refine WO.assign rfl rfl rfl rfl ?_
                  refine WO.done ?_
                  refine At.seq_at ?_
                  exact fun a w hc hs => ⟨false, x54.2, b56, p57, hr, (hc.keep hc.nil (t := 6) rfl), (hs.arrange 3 3 [0, 1, 2] [3, 5] (by decide)), hm59⟩
              · rintro a w ⟨v44, v45, b46, p47, hr, hc, hs, hm48⟩
                refine WC.use hc hs ?_
                clear hc hs
                unfold law12_CacheStays_k5 at hr
                refine WC.ret ?_
                obtain rfl := Option.some.inj hr
                exact At.ret (fun a w hc hs => (resVs_cons (hc.res rfl) resVs_nil)) (fun w hs => ⟨rfl, (hs.arrange 3 2 [2] [] (by decide))⟩)
end
end Go.Pel
