/- Each function: its pure text, and that it comes to it. -/
import Derived.Test.YtmkegcgnjaldpaaPelCxX0
set_option linter.unusedVariables false
set_option maxHeartbeats 2000000
namespace Go.Pel
open Go.RowKit Go.Proofs
noncomputable section
/-! peloton/pelotonlaw12.lines -/
def law12_lines_vm_vo_k3 (v52 : Bool) : Option (Int ⊕ (Lp Bool Unit)) := some (.inr (.ret v52))
def law12_lines_vm_vo_k4 (v33 : Int) (v55 : Bool) : Option (Int ⊕ (Lp Bool Unit)) := cond v55 (some (.inr (.ret false))) (some (.inl (IntKind.wrap .i64 (v33 + 1))))
def law12_lines_vm_vo_b1 (p1 : S_ref12_Store) (p2 : S_api_Spot) (x3 : (List (List Int)) × (List (List Int))) (v33 : Int) : Option (Int ⊕ (Lp Bool Unit)) := (law12_spot p2.Request p2.Layer v33).bind fun x42 => (ref12_Store_Find_vo p1 x42).bind fun x47 => cond (decide (x47 < 0)) (cond ((x3.1.length : Int) == v33) (law12_lines_vm_vo_k3 ((x3.2.length : Int) == v33)) (law12_lines_vm_vo_k3 false)) (cond (decide (v33 ≥ (x3.1.length : Int))) (law12_lines_vm_vo_k4 v33 true) (cond (decide (v33 ≥ (x3.2.length : Int))) (law12_lines_vm_vo_k4 v33 true) ((getI x3.1 v33).bind fun x59 => (getI p1.L x47).bind fun x67 => (ref04_Bytes x59 x67.K).bind fun x80 => cond (!x80) (law12_lines_vm_vo_k4 v33 true) ((getI x3.2 v33).bind fun x84 => (getI p1.L x47).bind fun x92 => (ref04_Bytes x84 x92.V).bind fun x105 => law12_lines_vm_vo_k4 v33 (!x105)))))
def law12_lines_vm_vo (p0 : S_cache_Store) (p1 : S_ref12_Store) (p2 : S_api_Spot) : Option Bool := (cache_Store_Line_vm p0 p2.Request p2.Layer).bind fun x3 => (loopO (fun s => law12_lines_vm_vo_b1 p1 p2 x3 s) 0).bind (fun | .ret r => some r | .brk _ => none)
theorem law12_lines_vm_vo_ok {F : Mem} {p0 : S_cache_Store} {p1 : S_ref12_Store} {p2 : S_api_Spot} {b_0 : Nat} {bm_0_1 : Nat} {ψ_0_1 : List Chunk} (hm_0_1 : OwnM enc_api_Spot (RVA R_cache_rows) F bm_0_1 p0.m ψ_0_1) {b_1 : Nat} {a_1_1 : Option Addr} {c_1_1 : Nat} {ψ_1_1 : List Chunk} (ho_1_1 : OwnL 5 R_ref12_Row F 56 a_1_1 c_1_1 p1.L ψ_1_1) {cs_2 : List Value} (h_2 : R_api_Spot F cs_2 p2) {r : Bool} (hr : law12_lines_vm_vo p0 p1 p2 = some r) (Φ : List (List Chunk)) :
    CallsRet Try.prog 21 (List.toArray [.pointer (some ⟨b_0, 0, none⟩), .pointer (some ⟨b_1, 0, none⟩), .agg cs_2.toArray]) F ([(b_0, row [.int .i64 p0.room, .map (some bm_0_1)] 62)] :: ψ_0_1 :: [(b_1, row [.int .i64 p1.Room, .slice a_1_1 p1.L.length c_1_1] 52)] :: ψ_1_1 :: Φ) (fun v w => v = .bool r ∧ Sat F ([(b_0, row [.int .i64 p0.room, .map (some bm_0_1)] 62)] :: ψ_0_1 :: [(b_1, row [.int .i64 p1.Room, .slice a_1_1 p1.L.length c_1_1] 52)] :: ψ_1_1 :: Φ) w) := by
  obtain rfl := h_2
  refine CallsRet.enter (rs := [.tmp 6]) Try.func21 rfl rfl rfl rfl ?_
  unfold law12_lines_vm_vo at hr
  refine WC.then ?_
  refine WC.region [(0, false), (1, true)] rfl ?_
  refine WO.box rfl rfl rfl rfl rfl (fun _ _ _ => trivial) (fun b1 => ?_)
  refine WO.assign rfl rfl rfl rfl ?_
  refine WO.done ?_
  refine At.seq_wc ?_
  refine WC.then ?_
  refine WC.region [(0, true), (1, true), (2, false), (3, true), (4, false), (5, false), (6, true), (7, true), (8, true), (9, true), (10, true)] rfl ?_
  refine WO.move rfl rfl rfl rfl ?_
  refine WO.fieldAddr 0 rfl rfl rfl rfl fl_30_0 ?_
  refine WO.load 0 rfl rfl rfl rfl sc_3 rfl rfl ?_
  refine WO.fieldAddr 1 rfl rfl rfl rfl fl_30_1 ?_
  refine WO.load 0 rfl rfl rfl rfl sc_3 rfl rfl ?_
  obtain ⟨x3, hx4, hr⟩ := bind_some' hr
  refine WO.call rfl rfl rfl rfl rfl cl_11 (CallsRet.lay0 0 5 [] [1, 2, 0, 3, 4] (by decide) F ([(b_0, row [.int .i64 p0.room, .map (some bm_0_1)] 62)] :: ψ_0_1 :: [(b1, row [.int .i64 p2.Request, .int .i64 p2.Layer, .int .i64 p2.Place] 30)] :: [(b_1, row [.int .i64 p1.Room, .slice a_1_1 p1.L.length c_1_1] 52)] :: ψ_1_1 :: Φ) rfl rfl (cache_Store_Line_vm_ok (F := F) hm_0_1 hx4 ([(b1, row [.int .i64 p2.Request, .int .i64 p2.Layer, .int .i64 p2.Place] 30)] :: [(b_1, row [.int .i64 p1.Room, .slice a_1_1 p1.L.length c_1_1] 52)] :: ψ_1_1 :: Φ))) ?_
  rintro _ _ ⟨q5, a6, c7, p9, a11, c12, p14, rfl, hs16, h8, h13⟩
  have hs16 := (hs16.arrange 1 7 [0] [1, 2, 5, 3, 4, 6, 7] (by decide))
  refine ⟨(Mem.add F q5), (p9 :: p14 :: [(b1, row [.int .i64 p2.Request, .int .i64 p2.Layer, .int .i64 p2.Place] 30)] :: [(b_0, row [.int .i64 p0.room, .map (some bm_0_1)] 62)] :: ψ_0_1 :: [(b_1, row [.int .i64 p1.Room, .slice a_1_1 p1.L.length c_1_1] 52)] :: ψ_1_1 :: Φ), hs16, trivial, ?_⟩
  refine WO.move rfl rfl rfl rfl ?_
  refine WO.extract rfl rfl rfl rfl rfl ?_
  refine WO.extract rfl rfl rfl rfl rfl ?_
  refine WO.assign rfl rfl rfl rfl ?_
  refine WO.assign rfl rfl rfl rfl ?_
  refine WO.done ?_
  refine At.seq_wc ?_
  refine WC.then ?_
  refine WC.region [(0, true)] rfl ?_
  refine WO.assign rfl rfl rfl rfl ?_
  refine WO.done ?_
  refine At.seq_wc ?_
  obtain ⟨xl2, hl2, hk2⟩ := bind_some' hr
  refine WC.weaken (fun _ _ => False) ?_ (fun _ _ h => h.elim)
  refine WC.block ?_
  refine WC.loop (fun (v33 : Int) a w => ∃ (a27 : Option Addr) (c28 : Nat) (a30 : Option Addr) (c31 : Nat) (w26 : List Chunk), Ctx 84 [(1, .pointer (some ⟨b_1, 0, none⟩)), (5, .pointer (some ⟨b1, 0, none⟩)), (7, .slice a27 x3.1.length c28), (8, .slice a30 x3.2.length c31), (9, .int .i64 v33)] a ∧ Sat (Mem.add (Mem.add F q5) w26) ([(b1, row [.int .i64 p2.Request, .int .i64 p2.Layer, .int .i64 p2.Place] 30)] :: [(b_0, row [.int .i64 p0.room, .map (some bm_0_1)] 62)] :: ψ_0_1 :: [(b_1, row [.int .i64 p1.Room, .slice a_1_1 p1.L.length c_1_1] 52)] :: ψ_1_1 :: Φ) w ∧ RdL 1 (RSl 1 (RInt .i8)) (Mem.add (Mem.add F q5) w26) a27 c28 x3.1 ∧ RdL 1 (RSl 1 (RInt .i8)) (Mem.add (Mem.add F q5) w26) a30 c31 x3.2) hl2 ?_ ?_
  · refine At.freeze 0 rfl ?_
    have hz108 := h8.rd (mono_sl (mono_int _))
    refine At.freeze 0 rfl ?_
    have hz109 := h13.rd (mono_sl (mono_int _))
    exact fun a w hc hs => ⟨a6, c7, a11, c12, (List.flatten [p14, p9]), (hc.keep (hc.keep (hc.keep (hc.keep (hc.keep hc.nil (t := 9) rfl) (t := 8) rfl) (t := 7) rfl) (t := 5) rfl) (t := 1) rfl), (hs.gather 2), (hz108.mono (mono_sl (mono_int _)) (Mem.le.trans (Mem.le_pick (Mem.add (Mem.add (Mem.add F q5) p9) p14) 3 [1, 2] (by decide)) (Mem.le_gather (Mem.add (Mem.add (Mem.add F q5) p9) p14) 2))), (hz109.mono (mono_sl (mono_int _)) (Mem.le.trans (Mem.le_pick (Mem.add (Mem.add (Mem.add F q5) p9) p14) 3 [0, 2] (by decide)) (Mem.le_gather (Mem.add (Mem.add (Mem.add F q5) p9) p14) 2)))⟩
  · rintro v33 r2 hr a w ⟨a27, c28, a30, c31, w26, hc, hs, h29, h32⟩
    refine WC.use hc hs ?_
    clear hc hs
    (try dsimp only at hr)
    unfold law12_lines_vm_vo_b1 at hr
    refine WC.block ?_
    refine WC.then ?_
    refine WC.region [(0, true), (1, true), (2, false), (3, true), (4, false), (5, true), (6, false), (7, false), (8, true)] rfl ?_
    refine WO.move rfl rfl rfl rfl ?_
    refine WO.fieldAddr 0 rfl rfl rfl rfl fl_30_0 ?_
    refine WO.load 0 rfl rfl rfl rfl sc_3 rfl rfl ?_
    refine WO.fieldAddr 1 rfl rfl rfl rfl fl_30_1 ?_
    refine WO.load 0 rfl rfl rfl rfl sc_3 rfl rfl ?_
    refine WO.move rfl rfl rfl rfl ?_
    obtain ⟨x42, hx43, hr⟩ := bind_some' hr
    refine WO.call rfl rfl rfl rfl rfl cl_8 (CallsRet.lay0 2 5 [] [0, 1, 2, 3, 4, 5, 6] (by decide) F (w26 :: q5 :: [(b1, row [.int .i64 p2.Request, .int .i64 p2.Layer, .int .i64 p2.Place] 30)] :: [(b_0, row [.int .i64 p0.room, .map (some bm_0_1)] 62)] :: ψ_0_1 :: [(b_1, row [.int .i64 p1.Room, .slice a_1_1 p1.L.length c_1_1] 52)] :: ψ_1_1 :: Φ) rfl rfl (law12_spot_ok (F := F) hx43 (w26 :: q5 :: [(b1, row [.int .i64 p2.Request, .int .i64 p2.Layer, .int .i64 p2.Place] 30)] :: [(b_0, row [.int .i64 p0.room, .map (some bm_0_1)] 62)] :: ψ_0_1 :: [(b_1, row [.int .i64 p1.Room, .slice a_1_1 p1.L.length c_1_1] 52)] :: ψ_1_1 :: Φ))) ?_
    rintro _ _ ⟨cs44, rfl, hs46, rfl⟩
    have hs46 := (hs46.arrange 0 7 [0, 1] [2, 3, 4, 5, 6] (by decide))
    refine ⟨(Mem.add (Mem.add F q5) w26), ([(b1, row [.int .i64 p2.Request, .int .i64 p2.Layer, .int .i64 p2.Place] 30)] :: [(b_0, row [.int .i64 p0.room, .map (some bm_0_1)] 62)] :: ψ_0_1 :: [(b_1, row [.int .i64 p1.Room, .slice a_1_1 p1.L.length c_1_1] 52)] :: ψ_1_1 :: Φ), hs46, trivial, ?_⟩
    obtain ⟨x47, hx48, hr⟩ := bind_some' hr
    refine WO.call rfl rfl rfl rfl rfl cl_20 (CallsRet.lay0 2 5 [] [5, 6, 0, 1, 2, 3, 4] (by decide) F ([(b_1, row [.int .i64 p1.Room, .slice a_1_1 p1.L.length c_1_1] 52)] :: ψ_1_1 :: w26 :: q5 :: [(b1, row [.int .i64 p2.Request, .int .i64 p2.Layer, .int .i64 p2.Place] 30)] :: [(b_0, row [.int .i64 p0.room, .map (some bm_0_1)] 62)] :: ψ_0_1 :: Φ) rfl rfl (ref12_Store_Find_vo_ok (F := F) ho_1_1 rfl hx48 (w26 :: q5 :: [(b1, row [.int .i64 p2.Request, .int .i64 p2.Layer, .int .i64 p2.Place] 30)] :: [(b_0, row [.int .i64 p0.room, .map (some bm_0_1)] 62)] :: ψ_0_1 :: Φ))) ?_
    rintro _ _ ⟨rfl, hs49⟩
    have hs49 := (hs49.arrange 0 7 [2, 3] [4, 5, 6, 0, 1] (by decide))
    refine ⟨(Mem.add (Mem.add F q5) w26), ([(b1, row [.int .i64 p2.Request, .int .i64 p2.Layer, .int .i64 p2.Place] 30)] :: [(b_0, row [.int .i64 p0.room, .map (some bm_0_1)] 62)] :: ψ_0_1 :: [(b_1, row [.int .i64 p1.Room, .slice a_1_1 p1.L.length c_1_1] 52)] :: ψ_1_1 :: Φ), hs49, trivial, ?_⟩
    refine WO.assign rfl rfl rfl rfl ?_
    refine WO.done ?_
    refine At.seq_wc ?_
    refine WC.then ?_
    refine WC.then ?_
    refine WC.region [(0, true), (1, true)] rfl ?_
    refine WO.move rfl rfl rfl rfl ?_
    refine WO.bin rfl rfl rfl rfl rfl rfl ?_
    refine WO.done ?_
    refine At.seq_wc ?_
    refine WC.cond rfl (fun hb50 => ?_) (fun hb50 => ?_)
    · have hr := cond_t hb50 hr
      refine WC.seq (fun a w => ∃ (v52 : Bool), law12_lines_vm_vo_k3 v52 = some r2 ∧ Ctx 84 [(6, .bool v52)] a ∧ Sat (Mem.add (Mem.add F q5) w26) ([(b1, row [.int .i64 p2.Request, .int .i64 p2.Layer, .int .i64 p2.Place] 30)] :: [(b_0, row [.int .i64 p0.room, .map (some bm_0_1)] 62)] :: ψ_0_1 :: [(b_1, row [.int .i64 p1.Room, .slice a_1_1 p1.L.length c_1_1] 52)] :: ψ_1_1 :: Φ) w) ?_ ?_
      · refine WC.region [(0, true), (1, true), (2, true), (3, true), (4, true), (5, true), (6, true), (7, true), (8, true), (9, true), (10, true)] rfl ?_
        refine WO.move rfl rfl rfl rfl ?_
        refine WO.len rfl rfl rfl rfl Try.underlying37 ?_
        refine WO.move rfl rfl rfl rfl ?_
        refine WO.bin rfl rfl rfl rfl rfl rfl ?_
        refine WO.move rfl rfl rfl rfl ?_
        refine WO.split (t := 34) rfl (fun hg53 => ?_) (fun hg53 => ?_)
        · have hr := cond_t hg53 hr
          refine WO.move rfl rfl rfl rfl ?_
          refine WO.len rfl rfl rfl rfl Try.underlying37 ?_
          refine WO.move rfl rfl rfl rfl ?_
          refine WO.bin rfl rfl rfl rfl rfl rfl ?_
          refine WO.pickT rfl rfl rfl rfl rfl ?_
          refine WO.assign rfl rfl rfl rfl ?_
          refine WO.done ?_
          refine At.seq_at ?_
          exact fun a w hc hs => ⟨((x3.2.length : Int) == v33), hr, (hc.keep hc.nil (t := 6) rfl), hs⟩
        · have hr := cond_f hg53 hr
          refine WO.skip rfl rfl rfl rfl ?_
          refine WO.skip rfl rfl rfl rfl ?_
          refine WO.skip rfl rfl rfl rfl ?_
          refine WO.skip rfl rfl rfl rfl ?_
          refine WO.pickF rfl rfl rfl rfl rfl ?_
          refine WO.assign rfl rfl rfl rfl ?_
          refine WO.done ?_
          refine At.seq_at ?_
          exact fun a w hc hs => ⟨false, hr, (hc.keep hc.nil (t := 6) rfl), hs⟩
      · rintro a w ⟨v52, hr, hc, hs⟩
        refine WC.use hc hs ?_
        clear hc hs
        unfold law12_lines_vm_vo_k3 at hr
        refine WC.ret ?_
        refine At.seq_ret ?_
        refine At.block_ret ?_
        refine At.round_ret hr (fun hy => ?_)
        subst hy
        have hr := hk2
        refine At.block_ret ?_
        refine At.seq_ret ?_
        obtain rfl := Option.some.inj hr
        exact At.ret (fun a w hc hs => (resVs_cons (hc.res rfl) resVs_nil)) (fun w hs => ⟨rfl, (hs.arrange 2 5 [] [3, 4, 5, 6] (by decide))⟩)
    · have hr := cond_f hb50 hr
      refine WC.skip ?_
      refine At.seq_wc ?_
      refine WC.then ?_
      refine WC.seq (fun a w => ∃ (v55 : Bool), law12_lines_vm_vo_k4 v33 v55 = some r2 ∧ Ctx 84 [(1, .pointer (some ⟨b_1, 0, none⟩)), (5, .pointer (some ⟨b1, 0, none⟩)), (7, .slice a27 x3.1.length c28), (8, .slice a30 x3.2.length c31), (9, .int .i64 v33), (81, .bool v55)] a ∧ Sat (Mem.add (Mem.add F q5) w26) ([(b1, row [.int .i64 p2.Request, .int .i64 p2.Layer, .int .i64 p2.Place] 30)] :: [(b_0, row [.int .i64 p0.room, .map (some bm_0_1)] 62)] :: ψ_0_1 :: [(b_1, row [.int .i64 p1.Room, .slice a_1_1 p1.L.length c_1_1] 52)] :: ψ_1_1 :: Φ) w) ?_ ?_
      · refine WC.draw (Sat (Mem.add (Mem.add F q5) w26) ([(b1, row [.int .i64 p2.Request, .int .i64 p2.Layer, .int .i64 p2.Place] 30)] :: [(b_0, row [.int .i64 p0.room, .map (some bm_0_1)] 62)] :: ψ_0_1 :: [(b_1, row [.int .i64 p1.Room, .slice a_1_1 p1.L.length c_1_1] 52)] :: Φ)) (fun _ h => (h.arrange 2 5 [0, 1] [2, 3, 4, 5] (by decide))) [(0, true), (1, true), (2, true), (3, true), (4, true), (5, true), (6, true), (7, true), (8, true), (9, true), (10, true), (11, true), (12, true), (13, true), (14, true), (15, true), (16, true), (17, true), (18, true), (19, true), (20, true), (21, true), (22, false), (23, false), (24, true), (25, true), (26, true), (27, true), (28, true), (29, true), (30, true), (31, true), (32, true), (33, true), (34, true), (35, true), (36, true), (37, true), (38, false), (39, false), (40, true), (41, true)] mixed (by kernel_rfl) rfl (by kernel_rfl) ?_
        refine WO.move rfl rfl rfl rfl ?_
        refine WO.move rfl rfl rfl rfl ?_
        refine WO.len rfl rfl rfl rfl Try.underlying37 ?_
        refine WO.bin rfl rfl rfl rfl rfl rfl ?_
        refine WO.move rfl rfl rfl rfl ?_
        refine WO.split (t := 44) rfl (fun hg57 => ?_) (fun hg57 => ?_)
        · have hr := cond_t hg57 hr
          refine WO.skip rfl rfl rfl rfl ?_
          refine WO.skip rfl rfl rfl rfl ?_
          refine WO.skip rfl rfl rfl rfl ?_
          refine WO.skip rfl rfl rfl rfl ?_
          refine WO.pickT rfl rfl rfl rfl rfl ?_
          refine WO.move rfl rfl rfl rfl ?_
          refine WO.skip rfl rfl rfl rfl ?_
          refine WO.skip rfl rfl rfl rfl ?_
          refine WO.skip rfl rfl rfl rfl ?_
          refine WO.skip rfl rfl rfl rfl ?_
          refine WO.skip rfl rfl rfl rfl ?_
          refine WO.skip rfl rfl rfl rfl ?_
          refine WO.skip rfl rfl rfl rfl ?_
          refine WO.skip rfl rfl rfl rfl ?_
          refine WO.skip rfl rfl rfl rfl ?_
          refine WO.skip rfl rfl rfl rfl ?_
          refine WO.skip rfl rfl rfl rfl ?_
          refine WO.skipF rfl rfl rfl rfl ?_
          refine WO.skipF rfl rfl rfl rfl ?_
          refine WO.skip rfl rfl rfl rfl ?_
          refine WO.pickT rfl rfl rfl rfl rfl ?_
          refine WO.move rfl rfl rfl rfl ?_
          refine WO.skip rfl rfl rfl rfl ?_
          refine WO.skip rfl rfl rfl rfl ?_
          refine WO.skip rfl rfl rfl rfl ?_
          refine WO.skip rfl rfl rfl rfl ?_
          refine WO.skip rfl rfl rfl rfl ?_
          refine WO.skip rfl rfl rfl rfl ?_
          refine WO.skip rfl rfl rfl rfl ?_
          refine WO.skip rfl rfl rfl rfl ?_
          refine WO.skip rfl rfl rfl rfl ?_
          refine WO.skip rfl rfl rfl rfl ?_
          refine WO.skip rfl rfl rfl rfl ?_
          refine WO.skipF rfl rfl rfl rfl ?_
          refine WO.skipF rfl rfl rfl rfl ?_
          refine WO.skip rfl rfl rfl rfl ?_
          refine WO.pickT rfl rfl rfl rfl rfl ?_
          refine WO.done ?_
          refine At.seq_at ?_
          exact fun a w hc hs => ⟨true, hr, (hc.keep (hc.keep (hc.keep (hc.keep (hc.keep (hc.keep hc.nil (t := 81) rfl) (t := 9) rfl) (t := 8) rfl) (t := 7) rfl) (t := 5) rfl) (t := 1) rfl), hs⟩
        · have hr := cond_f hg57 hr
          refine WO.move rfl rfl rfl rfl ?_
          refine WO.move rfl rfl rfl rfl ?_
          refine WO.len rfl rfl rfl rfl Try.underlying37 ?_
          refine WO.bin rfl rfl rfl rfl rfl rfl ?_
          refine WO.pickF rfl rfl rfl rfl rfl ?_
          refine WO.move rfl rfl rfl rfl ?_
          refine WO.split (t := 50) rfl (fun hg58 => ?_) (fun hg58 => ?_)
          · have hr := cond_t hg58 hr
            refine WO.skip rfl rfl rfl rfl ?_
            refine WO.skip rfl rfl rfl rfl ?_
            refine WO.skip rfl rfl rfl rfl ?_
            refine WO.skip rfl rfl rfl rfl ?_
            refine WO.skip rfl rfl rfl rfl ?_
            refine WO.skip rfl rfl rfl rfl ?_
            refine WO.skip rfl rfl rfl rfl ?_
            refine WO.skip rfl rfl rfl rfl ?_
            refine WO.skip rfl rfl rfl rfl ?_
            refine WO.skip rfl rfl rfl rfl ?_
            refine WO.skip rfl rfl rfl rfl ?_
            refine WO.skipF rfl rfl rfl rfl ?_
            refine WO.skipF rfl rfl rfl rfl ?_
            refine WO.skip rfl rfl rfl rfl ?_
            refine WO.pickT rfl rfl rfl rfl rfl ?_
            refine WO.move rfl rfl rfl rfl ?_
            refine WO.skip rfl rfl rfl rfl ?_
            refine WO.skip rfl rfl rfl rfl ?_
            refine WO.skip rfl rfl rfl rfl ?_
            refine WO.skip rfl rfl rfl rfl ?_
            refine WO.skip rfl rfl rfl rfl ?_
            refine WO.skip rfl rfl rfl rfl ?_
            refine WO.skip rfl rfl rfl rfl ?_
            refine WO.skip rfl rfl rfl rfl ?_
            refine WO.skip rfl rfl rfl rfl ?_
            refine WO.skip rfl rfl rfl rfl ?_
            refine WO.skip rfl rfl rfl rfl ?_
            refine WO.skipF rfl rfl rfl rfl ?_
            refine WO.skipF rfl rfl rfl rfl ?_
            refine WO.skip rfl rfl rfl rfl ?_
            refine WO.pickT rfl rfl rfl rfl rfl ?_
            refine WO.done ?_
            refine At.seq_at ?_
            exact fun a w hc hs => ⟨true, hr, (hc.keep (hc.keep (hc.keep (hc.keep (hc.keep (hc.keep hc.nil (t := 81) rfl) (t := 9) rfl) (t := 8) rfl) (t := 7) rfl) (t := 5) rfl) (t := 1) rfl), hs⟩
          · have hr := cond_f hg58 hr
            refine WO.move rfl rfl rfl rfl ?_
            refine WO.move rfl rfl rfl rfl ?_
            obtain ⟨x59, hx60, hr⟩ := bind_some' hr
            refine WO.indexR h29 hx60 rfl rfl rfl rfl rfl rfl Try.underlying37 sz_31 ?_
            rintro b61 o62 _ hc63 ⟨a64, c65, rfl, h66⟩
            refine WO.loadP 0 hc63 rfl rfl rfl rfl rfl sc_31 rfl ?_
            refine WO.move rfl rfl rfl rfl ?_
            refine WO.nilCheck rfl rfl rfl rfl ?_
            refine WO.fieldAddr 1 rfl rfl rfl rfl fl_52_1 ?_
            refine WO.loadY 3 rfl rfl rfl rfl sc_50 rfl rfl ?_
            refine WO.move rfl rfl rfl rfl ?_
            obtain ⟨x67, hx68, hr⟩ := bind_some' hr
            refine WO.indexQ ho_1_1 hx68 rfl rfl rfl rfl rfl rfl Try.underlying50 sz_56 (fun b69 cs70 hb71 h72 hq73 => ?_)
            subst hb71
            obtain ⟨a74, c75, a77, c78, rfl, h76, h79⟩ := h72
            refine WO.fieldAddr 3 rfl rfl rfl rfl fl_56_1 ?_
            refine WO.loadQ 4 3 hq73 rfl rfl rfl rfl rfl rfl sc_31 rfl ?_
            obtain ⟨x80, hx81, hr⟩ := bind_some' hr
            refine WO.call rfl rfl rfl rfl rfl cl_14 (CallsRet.lay 2 5 2 [0, 1] [2, 3, 4, 5, 6] (by decide) (Mem.add F (List.flatten [w26, q5])) ([(b1, row [.int .i64 p2.Request, .int .i64 p2.Layer, .int .i64 p2.Place] 30)] :: [(b_0, row [.int .i64 p0.room, .map (some bm_0_1)] 62)] :: ψ_0_1 :: [(b_1, row [.int .i64 p1.Room, .slice (some ⟨b69, 0, none⟩) p1.L.length c_1_1] 52)] :: ψ_1_1 :: Φ) rfl rfl (ref04_Bytes_ok (F := F) (χ := (List.flatten [w26, q5])) (h66.mono (mono_int _) (Mem.le_gather (Mem.add (Mem.add F q5) w26) 2)) (h76.mono (mono_int _) (Mem.le.trans (Mem.le_pick (Mem.add (Mem.add F q5) w26) 2 [] (by decide)) (Mem.le_gather (Mem.add (Mem.add F q5) w26) 2))) hx81 ([(b1, row [.int .i64 p2.Request, .int .i64 p2.Layer, .int .i64 p2.Place] 30)] :: [(b_0, row [.int .i64 p0.room, .map (some bm_0_1)] 62)] :: ψ_0_1 :: [(b_1, row [.int .i64 p1.Room, .slice (some ⟨b69, 0, none⟩) p1.L.length c_1_1] 52)] :: ψ_1_1 :: Φ))) ?_
            rintro _ _ ⟨rfl, hs82⟩
            have hs82 := Sat.unlay F [w26, q5] hs82
            have hs82 := (hs82.arrange 2 5 [0, 1] [2, 3, 4, 5, 6] (by decide))
            refine ⟨(Mem.add (Mem.add F q5) w26), ([(b1, row [.int .i64 p2.Request, .int .i64 p2.Layer, .int .i64 p2.Place] 30)] :: [(b_0, row [.int .i64 p0.room, .map (some bm_0_1)] 62)] :: ψ_0_1 :: [(b_1, row [.int .i64 p1.Room, .slice (some ⟨b69, 0, none⟩) p1.L.length c_1_1] 52)] :: ψ_1_1 :: Φ), hs82, (hs82.arrange 2 5 [0, 1] [2, 3, 4, 5] (by decide)), ?_⟩
            refine WO.un rfl rfl rfl rfl rfl ?_
            refine WO.pickF rfl rfl rfl rfl rfl ?_
            refine WO.move rfl rfl rfl rfl ?_
            refine WO.split (t := 66) rfl (fun hg83 => ?_) (fun hg83 => ?_)
            · have hr := cond_t hg83 hr
              refine WO.skip rfl rfl rfl rfl ?_
              refine WO.skip rfl rfl rfl rfl ?_
              refine WO.skip rfl rfl rfl rfl ?_
              refine WO.skip rfl rfl rfl rfl ?_
              refine WO.skip rfl rfl rfl rfl ?_
              refine WO.skip rfl rfl rfl rfl ?_
              refine WO.skip rfl rfl rfl rfl ?_
              refine WO.skip rfl rfl rfl rfl ?_
              refine WO.skip rfl rfl rfl rfl ?_
              refine WO.skip rfl rfl rfl rfl ?_
              refine WO.skip rfl rfl rfl rfl ?_
              refine WO.skipF rfl rfl rfl rfl ?_
              refine WO.skipF rfl rfl rfl rfl ?_
              refine WO.skip rfl rfl rfl rfl ?_
              refine WO.pickT rfl rfl rfl rfl rfl ?_
              refine WO.done ?_
              refine At.seq_at ?_
              exact fun a w hc hs => ⟨true, hr, (hc.keep (hc.keep (hc.keep (hc.keep (hc.keep (hc.keep hc.nil (t := 81) rfl) (t := 9) rfl) (t := 8) rfl) (t := 7) rfl) (t := 5) rfl) (t := 1) rfl), hs⟩
            · have hr := cond_f hg83 hr
              refine WO.move rfl rfl rfl rfl ?_
              refine WO.move rfl rfl rfl rfl ?_
              obtain ⟨x84, hx85, hr⟩ := bind_some' hr
              refine WO.indexR h32 hx85 rfl rfl rfl rfl rfl rfl Try.underlying37 sz_31 ?_
              rintro b86 o87 _ hc88 ⟨a89, c90, rfl, h91⟩
              refine WO.loadP 0 hc88 rfl rfl rfl rfl rfl sc_31 rfl ?_
              refine WO.move rfl rfl rfl rfl ?_
              refine WO.nilCheck rfl rfl rfl rfl ?_
              refine WO.fieldAddr 1 rfl rfl rfl rfl fl_52_1 ?_
              refine WO.loadY 3 rfl rfl rfl rfl sc_50 rfl rfl ?_
              refine WO.move rfl rfl rfl rfl ?_
              obtain ⟨x92, hx93, hr⟩ := bind_some' hr
              refine WO.indexQ ho_1_1 hx93 rfl rfl rfl rfl rfl rfl Try.underlying50 sz_56 (fun b94 cs95 hb96 h97 hq98 => ?_)
              obtain rfl : b69 = b94 := by cases hb96; rfl
              obtain ⟨a99, c100, a102, c103, rfl, h101, h104⟩ := h97
              refine WO.fieldAddr 4 rfl rfl rfl rfl fl_56_2 ?_
              refine WO.loadQ 4 4 hq98 rfl rfl rfl rfl rfl rfl sc_31 rfl ?_
              obtain ⟨x105, hx106, hr⟩ := bind_some' hr
              refine WO.call rfl rfl rfl rfl rfl cl_14 (CallsRet.lay 2 5 2 [0, 1] [2, 3, 4, 5, 6] (by decide) (Mem.add F (List.flatten [w26, q5])) ([(b1, row [.int .i64 p2.Request, .int .i64 p2.Layer, .int .i64 p2.Place] 30)] :: [(b_0, row [.int .i64 p0.room, .map (some bm_0_1)] 62)] :: ψ_0_1 :: [(b_1, row [.int .i64 p1.Room, .slice (some ⟨b69, 0, none⟩) p1.L.length c_1_1] 52)] :: ψ_1_1 :: Φ) rfl rfl (ref04_Bytes_ok (F := F) (χ := (List.flatten [w26, q5])) (h91.mono (mono_int _) (Mem.le_gather (Mem.add (Mem.add F q5) w26) 2)) (h104.mono (mono_int _) (Mem.le.trans (Mem.le_pick (Mem.add (Mem.add F q5) w26) 2 [] (by decide)) (Mem.le_gather (Mem.add (Mem.add F q5) w26) 2))) hx106 ([(b1, row [.int .i64 p2.Request, .int .i64 p2.Layer, .int .i64 p2.Place] 30)] :: [(b_0, row [.int .i64 p0.room, .map (some bm_0_1)] 62)] :: ψ_0_1 :: [(b_1, row [.int .i64 p1.Room, .slice (some ⟨b69, 0, none⟩) p1.L.length c_1_1] 52)] :: ψ_1_1 :: Φ))) ?_
              rintro _ _ ⟨rfl, hs107⟩
              have hs107 := Sat.unlay F [w26, q5] hs107
              have hs107 := (hs107.arrange 2 5 [0, 1] [2, 3, 4, 5, 6] (by decide))
              refine ⟨(Mem.add (Mem.add F q5) w26), ([(b1, row [.int .i64 p2.Request, .int .i64 p2.Layer, .int .i64 p2.Place] 30)] :: [(b_0, row [.int .i64 p0.room, .map (some bm_0_1)] 62)] :: ψ_0_1 :: [(b_1, row [.int .i64 p1.Room, .slice (some ⟨b69, 0, none⟩) p1.L.length c_1_1] 52)] :: ψ_1_1 :: Φ), hs107, (hs107.arrange 2 5 [0, 1] [2, 3, 4, 5] (by decide)), ?_⟩
              refine WO.un rfl rfl rfl rfl rfl ?_
              refine WO.pickF rfl rfl rfl rfl rfl ?_
              refine WO.done ?_
              refine At.seq_at ?_
              exact fun a w hc hs => ⟨(!x105), hr, (hc.keep (hc.keep (hc.keep (hc.keep (hc.keep (hc.keep hc.nil (t := 81) rfl) (t := 9) rfl) (t := 8) rfl) (t := 7) rfl) (t := 5) rfl) (t := 1) rfl), hs⟩
      · rintro a w ⟨v55, hr, hc, hs⟩
        refine WC.use hc hs ?_
        clear hc hs
        unfold law12_lines_vm_vo_k4 at hr
        refine WC.cond rfl (fun hb56 => ?_) (fun hb56 => ?_)
        · have hr := cond_t hb56 hr
          refine WC.then ?_
          refine WC.region [(0, true)] rfl ?_
          refine WO.assign rfl rfl rfl rfl ?_
          refine WO.done ?_
          refine At.seq_wc ?_
          refine WC.ret ?_
          refine At.seq_ret ?_
          refine At.block_ret ?_
          refine At.round_ret hr (fun hy => ?_)
          subst hy
          have hr := hk2
          refine At.block_ret ?_
          refine At.seq_ret ?_
          obtain rfl := Option.some.inj hr
          exact At.ret (fun a w hc hs => (resVs_cons (hc.res rfl) resVs_nil)) (fun w hs => ⟨rfl, (hs.arrange 2 5 [] [3, 4, 5, 6] (by decide))⟩)
        · have hr := cond_f hb56 hr
          refine WC.skip ?_
          refine At.seq_wc ?_
          refine WC.region [(0, true), (1, true), (2, true)] rfl ?_
          refine WO.move rfl rfl rfl rfl ?_
          refine WO.bin rfl rfl rfl rfl rfl rfl ?_
          refine WO.assign rfl rfl rfl rfl ?_
          refine WO.done ?_
          refine At.block_normal ?_
          refine At.round_next hr ?_
          exact fun a w hc hs => ⟨a27, c28, a30, c31, (List.flatten [w26]), (hc.keep (hc.keep (hc.keep (hc.keep (hc.keep hc.nil (t := 9) rfl) (t := 8) rfl) (t := 7) rfl) (t := 5) rfl) (t := 1) rfl), (hs.gather 1), (h29.mono (mono_sl (mono_int _)) (Mem.le_gather (Mem.add (Mem.add F q5) w26) 1)), (h32.mono (mono_sl (mono_int _)) (Mem.le_gather (Mem.add (Mem.add F q5) w26) 1))⟩
/-! (*peloton/cache.Store).Requests -/
def cache_Store_Requests_vm (p0 : S_cache_Store) : Option ((List Int) × S_cache_Store) := (sortO (nubI (List.map (fun (q_1 : S_api_Spot × S_cache_rows) => q_1.1.Request) p0.m))).bind fun x29 => some (x29, p0)
theorem cache_Store_Requests_vm_ok {F : Mem} {p0 : S_cache_Store} {b_0 : Nat} {bm_0_1 : Nat} {ψ_0_1 : List Chunk} (hm_0_1 : OwnM enc_api_Spot (RVA R_cache_rows) F bm_0_1 p0.m ψ_0_1) {r : (List Int) × S_cache_Store} (hr : cache_Store_Requests_vm p0 = some r) (Φ : List (List Chunk)) :
    CallsRet Try.prog 15 (List.toArray [.pointer (some ⟨b_0, 0, none⟩)]) F ([(b_0, row [.int .i64 p0.room, .map (some bm_0_1)] 62)] :: ψ_0_1 :: Φ) (fun v w => ∃ a0 c0 ψ0 bm0_1 ψ0_1, v = .slice a0 r.1.length c0 ∧ Sat F (ψ0 :: [(b_0, row [.int .i64 r.2.room, .map (some bm0_1)] 62)] :: ψ0_1 :: Φ) w ∧ OwnL 1 (RInt .i64) F 3 a0 c0 r.1 ψ0 ∧ OwnM enc_api_Spot (RVA R_cache_rows) F bm0_1 r.2.m ψ0_1) := by
  refine CallsRet.enter (rs := [.tmp 2]) Try.func15 rfl rfl rfl rfl ?_
  unfold cache_Store_Requests_vm at hr
  refine WC.then ?_
  refine WC.region [(0, true)] rfl ?_
  refine WO.assign rfl rfl rfl rfl ?_
  refine WO.done ?_
  refine At.seq_wc ?_
  refine WC.then ?_
  refine WC.region [(0, false), (1, true)] rfl ?_
  refine WO.makeMap (F1 := F) (enc := (fun x : Int => Value.int .i64 x)) (RV := (RV1 RBool)) rfl rfl rfl (fun _ _ _ => trivial) (fun b1 p3 hm4 => ?_)
  refine WO.assign rfl rfl rfl rfl ?_
  refine WO.done ?_
  refine At.seq_wc ?_
  refine WC.then ?_
  refine WC.then ?_
  refine WC.region [(0, true), (1, true), (2, true), (3, false), (4, false)] rfl ?_
  refine WO.move rfl rfl rfl rfl ?_
  refine WO.nilCheck rfl rfl rfl rfl ?_
  refine WO.fieldAddr 1 rfl rfl rfl rfl fl_62_1 ?_
  refine WO.load 1 rfl rfl rfl rfl sc_60 rfl rfl ?_
  refine WO.range (F1 := F) 2 hm_0_1 rfl rfl rfl rfl rfl Try.underlying60 (fun _ _ _ => trivial) (fun b5 p6 hR7 => ?_)
  refine WO.done ?_
  refine At.seq_wc ?_
  refine WC.weaken (fun a w => ∃ (pn_1 : List Chunk) (hz_1 : List (Int × Bool)) (phz_1 : List Chunk), Ctx 21 [(3, .map (some b1))] a ∧ Sat F (phz_1 :: [(b_0, row [.int .i64 p0.room, .map (some bm_0_1)] 62)] :: pn_1 :: Φ) w ∧ OwnM enc_api_Spot (RVA R_cache_rows) F bm_0_1 p0.m pn_1 ∧ OwnM (fun x : Int => Value.int .i64 x) (RV1 RBool) F b1 hz_1 phz_1 ∧ KI (List.map (fun (q_1 : S_api_Spot × S_cache_rows) => q_1.1.Request) p0.m) hz_1) ?_ ?_
  · refine WC.block ?_
    refine WC.loopI (fun cnt_1 a w => ∃ (pm_1 pi_1 : List Chunk) (sk_1 : List S_api_Spot) (h_1 : List (Int × Bool)) (ph_1 : List Chunk), Ctx 21 [(3, .map (some b1)), (10, .pointer (some ⟨b5, 0, none⟩))] a ∧ Sat F (pi_1 :: ph_1 :: [(b_0, row [.int .i64 p0.room, .map (some bm_0_1)] 62)] :: pm_1 :: Φ) w ∧ RangeM enc_api_Spot (RVA R_cache_rows) F bm_0_1 p0.m pm_1 b5 pi_1 sk_1 ∧ MI (fun _ _ => some false) p0.m p0.m sk_1 cnt_1 ∧ OwnM (fun x : Int => Value.int .i64 x) (RV1 RBool) F b1 h_1 ph_1 ∧ AI (fun (q_1 : S_api_Spot × S_cache_rows) => q_1.1.Request) p0.m sk_1 h_1) (p0.m).length ?_ ?_
    · exact fun a w hc hs => ⟨_, _, [], _, _, (hc.keep (hc.keep hc.nil (t := 10) rfl) (t := 3) rfl), hs, hR7, MI.start hR7.nodup, hm4, AI.start⟩
    · rintro cnt_1 a w ⟨pm_1, pi_1, sk_1, h_1, ph_1, hc, hs, hR_1, hM_1, hh_1, hA_1⟩
      refine WC.use hc hs ?_
      clear hc hs
      have hmo_1 := hR_1.own
      refine WC.then ?_
      refine WC.region [(0, false), (1, true)] rfl ?_
      refine WO.next 3 0 hR_1 rfl rfl rfl rfl rfl rfl (fun _ _ _ => trivial) (fun _ _ => trivial) (fun ha_1 => ?_) (fun q_1 v13 p12 hp_1 hn_1 hv9 hR10 hC11 => ?_)
      · refine WO.extract rfl rfl rfl rfl rfl ?_
        refine WO.done ?_
        refine At.seq_wc ?_
        refine WC.then ?_
        refine WC.condF rfl ?_
        refine WC.exit ?_
        refine At.seq_exit ?_
        refine At.roundI_exit ?_
        refine At.exit_block ?_
        refine At.seq_at ?_
        exact fun a w hc hs => ⟨_, _, _, (hc.keep hc.nil (t := 3) rfl), (hs.arrange 0 4 [] [1, 2, 3] (by decide)), hR_1.own, hh_1, hA_1.over ha_1⟩
      · obtain ⟨cs14, rfl, hv9⟩ := hv9
        obtain ⟨a15, c16, a18, c19, rfl, h17, h20⟩ := hv9
        have hm21 := hR10.own
        refine WO.extract rfl rfl rfl rfl rfl ?_
        refine WO.done ?_
        refine At.seq_wc ?_
        refine WC.then ?_
        refine WC.condT rfl ?_
        refine WC.skip ?_
        refine At.seq_wc ?_
        refine WC.block ?_
        refine WC.then ?_
        refine WC.region [(0, false), (1, true), (2, false), (3, false)] rfl ?_
        refine WO.entry (k := q_1.1) 3 0 hC11 rfl rfl rfl rfl rfl rfl ?_
        refine WO.extract rfl rfl rfl rfl rfl ?_
        refine WO.alloc (.agg #[.int .i64 0, .int .i64 0, .int .i64 0]) rfl rfl rfl zb_30 rfl (fun _ _ _ => trivial) (fun b22 => ?_)
        refine WO.storeA 0 3 rfl rfl rfl rfl sz_30 rfl rfl rfl rfl (fun _ _ => trivial) ?_
        refine WO.done ?_
        refine At.seq_wc ?_
        refine WC.region [(0, true), (1, true), (2, false), (3, false)] rfl ?_
        refine WO.move rfl rfl rfl rfl ?_
        refine WO.fieldAddr 0 rfl rfl rfl rfl fl_30_0 ?_
        refine WO.load 0 rfl rfl rfl rfl sc_3 rfl rfl ?_
        refine WO.mapUpdate (q := q_1.1.Request) (u := true) 2 key_3 (OwnM.re (G := F) (constV1 const_bool) hh_1) rfl ⟨rfl, rfl⟩ rfl rfl rfl rfl rfl Try.underlying71 (fun _ _ _ => trivial) (fun p24 hm25 => ?_)
        refine WO.done ?_
        refine At.block_normal ?_
        obtain ⟨cn_1, hl_1, hN_1⟩ := hM_1.keep hp_1 hn_1 rfl
        refine At.roundI hl_1 ?_
        exact fun a w hc hs => ⟨_, _, _, _, _, (hc.keep (hc.keep hc.nil (t := 10) rfl) (t := 3) rfl), (hs.arrange 0 5 [] [1, 2, 3, 4] (by decide)), hR10, hN_1, hm25, hA_1.put hR10.nodup hp_1 _⟩
  · rintro a w ⟨pn_1, hz_1, phz_1, hc, hs, hmn_1, hhz_1, hkz_1⟩
    refine At.use hc hs ?_
    clear hc hs
    refine At.seq_wc ?_
    refine WC.then ?_
    refine WC.region [(0, true), (1, false), (2, false), (3, true)] rfl ?_
    refine WO.move rfl rfl rfl rfl ?_
    refine WO.call rfl rfl rfl rfl rfl cl_30 (sk_30_29.keysC (some b1)) ?_
    rintro _ _ ⟨b26, rfl, hs27⟩
    refine ⟨F, ([(b26, row [.map (some b1)] 71)] :: phz_1 :: [(b_0, row [.int .i64 p0.room, .map (some bm_0_1)] 62)] :: pn_1 :: Φ), hs27, trivial, ?_⟩
    obtain ⟨x29, hx30, hr⟩ := bind_some' hr
    refine WO.call rfl rfl rfl rfl rfl cl_29 (sk_30_29.sortedC 1 hhz_1 rfl (hkz_1.sort hhz_1.nodup hx30)) ?_
    rintro _ _ ⟨a31, c32, p33, rfl, hs34, ho35⟩
    have ho35 := ho35 F
    refine ⟨F, (p33 :: [(b26, row [.map (some b1)] 71)] :: phz_1 :: [(b_0, row [.int .i64 p0.room, .map (some bm_0_1)] 62)] :: pn_1 :: Φ), hs34, trivial, ?_⟩
    refine WO.assign rfl rfl rfl rfl ?_
    refine WO.done ?_
    refine At.seq_wc ?_
    refine WC.ret ?_
    obtain rfl := Option.some.inj hr
    exact At.ret (fun a w hc hs => (resVs_cons (hc.res rfl) resVs_nil)) (fun w hs => ⟨_, _, _, _, _, rfl, (hs.arrange 0 5 [] [0, 3, 4] (by decide)), (OwnL.re (G := F) (const_int _) ho35), hmn_1⟩)
/-! (*peloton/pelotonref12.Store).Requests -/
def ref12_Store_Requests_vo_k1 (p0 : S_ref12_Store) (v2 : List Int) (v8 : List S_ref12_Row) : Option ((List Int) × S_ref12_Store) := some (v2, (⟨p0.Room, v8⟩ : S_ref12_Store))
def ref12_Store_Requests_vo_k4 (v36 : Int) (v72 : List Int) (v78 : List S_ref12_Row) : Option (((List Int) × Int × (List S_ref12_Row)) ⊕ ((List Int) × (List S_ref12_Row))) := some (.inl (v72, (IntKind.wrap .i64 (v36 + 1)), v78))
def ref12_Store_Requests_vo_k7 (v101 : Int) (v107 : Bool) : Option (Int ⊕ Int) := cond v107 (some (.inl (IntKind.wrap .i64 (v101 + 1)))) (some (.inr v101))
def ref12_Store_Requests_vo_b5 (v30 : List Int) (x84 : S_ref12_Row) (v101 : Int) : Option (Int ⊕ Int) := cond (decide (v101 < (v30.length : Int))) ((getI v30 v101).bind fun x110 => ref12_Store_Requests_vo_k7 v101 (decide (x110 < x84.At.Request))) (ref12_Store_Requests_vo_k7 v101 false)
def ref12_Store_Requests_vo_k8 (v30 : List Int) (v36 : Int) (v37 : List S_ref12_Row) (x84 : S_ref12_Row) (v105 : Int) (v115 : Bool) : Option (((List Int) × Int × (List S_ref12_Row)) ⊕ ((List Int) × (List S_ref12_Row))) := cond v115 (ref12_Store_Requests_vo_k4 v36 v30 v37) ((subL v30 0 v105).bind fun x118 => (app ([] : List Int) x118).bind fun x125 => (app x125 [x84.At.Request]).bind fun x133 => (subL v30 v105 (v30.length : Int)).bind fun x140 => (app x133 x140).bind fun x145 => ref12_Store_Requests_vo_k4 v36 x145 v37)
def ref12_Store_Requests_vo_b2 (v30 : List Int) (v36 : Int) (v37 : List S_ref12_Row) : Option (((List Int) × Int × (List S_ref12_Row)) ⊕ ((List Int) × (List S_ref12_Row))) := cond (decide (v36 < (v37.length : Int))) ((getI v37 v36).bind fun x84 => (loopO (fun s => ref12_Store_Requests_vo_b5 v30 x84 s) 0).bind (fun v105 => cond (decide (v105 < (v30.length : Int))) ((getI v30 v105).bind fun x152 => ref12_Store_Requests_vo_k8 v30 v36 v37 x84 v105 (x152 == x84.At.Request)) (ref12_Store_Requests_vo_k8 v30 v36 v37 x84 v105 false))) (some (.inr (v30, v37)))
def ref12_Store_Requests_vo (p0 : S_ref12_Store) : Option ((List Int) × S_ref12_Store) := (loopO (fun s => ref12_Store_Requests_vo_b2  s.1 s.2.1 s.2.2) (([] : List Int), 0, p0.L)).bind (fun (v58, v64) => ref12_Store_Requests_vo_k1 p0 v58 v64)
theorem ref12_Store_Requests_vo_ok {F : Mem} {p0 : S_ref12_Store} {b_0 : Nat} {a_0_1 : Option Addr} {c_0_1 : Nat} {ψ_0_1 : List Chunk} (ho_0_1 : OwnL 5 R_ref12_Row F 56 a_0_1 c_0_1 p0.L ψ_0_1) {r : (List Int) × S_ref12_Store} (hr : ref12_Store_Requests_vo p0 = some r) (Φ : List (List Chunk)) :
    CallsRet Try.prog 22 (List.toArray [.pointer (some ⟨b_0, 0, none⟩)]) F ([(b_0, row [.int .i64 p0.Room, .slice a_0_1 p0.L.length c_0_1] 52)] :: ψ_0_1 :: Φ) (fun v w => ∃ a0 c0 ψ0 a0_1 c0_1 ψ0_1, v = .slice a0 r.1.length c0 ∧ Sat F (ψ0 :: [(b_0, row [.int .i64 r.2.Room, .slice a0_1 r.2.L.length c0_1] 52)] :: ψ0_1 :: Φ) w ∧ OwnL 1 (RInt .i64) F 3 a0 c0 r.1 ψ0 ∧ OwnL 5 R_ref12_Row F 56 a0_1 c0_1 r.2.L ψ0_1) := by
  refine CallsRet.enter (rs := [.tmp 2]) Try.func22 rfl rfl rfl rfl ?_
  unfold ref12_Store_Requests_vo at hr
  refine WC.then ?_
  refine WC.region [(0, true)] rfl ?_
  refine WO.assign rfl rfl rfl rfl ?_
  refine WO.done ?_
  refine At.seq_wc ?_
  refine WC.then ?_
  refine WC.region [(0, true)] rfl ?_
  refine WO.assign rfl rfl rfl rfl ?_
  refine WO.done ?_
  refine At.seq_wc ?_
  refine WC.seq (fun a w => ∃ (v2 : List Int) (v8 : List S_ref12_Row) (a3 : Option Addr) (c4 : Nat) (p5 : List Chunk) (a9 : Option Addr) (c10 : Nat) (p11 : List Chunk), ref12_Store_Requests_vo_k1 p0 v2 v8 = some r ∧ Ctx 67 [(3, .slice a3 v2.length c4)] a ∧ Sat F (p5 :: p11 :: [(b_0, row [.int .i64 p0.Room, .slice a9 v8.length c10] 52)] :: Φ) w ∧ OwnL 1 (RInt .i64) F 3 a3 c4 v2 p5 ∧ OwnL 5 R_ref12_Row F 56 a9 c10 v8 p11) ?_ ?_
  · refine WC.then ?_
    refine WC.region [(0, true)] rfl ?_
    refine WO.assign rfl rfl rfl rfl ?_
    refine WO.done ?_
    refine At.seq_wc ?_
    obtain ⟨xl3, hl3, hk3⟩ := bind_some' hr
    refine WC.weaken (fun a w => ∃ (v58 : List Int) (v64 : List S_ref12_Row) (a59 : Option Addr) (c60 : Nat) (p61 : List Chunk) (a65 : Option Addr) (c66 : Nat) (p67 : List Chunk), (v58, v64) = xl3 ∧ Ctx 67 [(3, .slice a59 v58.length c60)] a ∧ Sat F (p61 :: p67 :: [(b_0, row [.int .i64 p0.Room, .slice a65 v64.length c66] 52)] :: Φ) w ∧ OwnL 1 (RInt .i64) F 3 a59 c60 v58 p61 ∧ OwnL 5 R_ref12_Row F 56 a65 c66 v64 p67) ?_ ?_
    · refine WC.block ?_
      refine WC.loop (fun ⟨v30, v36, v37⟩ a w => ∃ (a31 : Option Addr) (c32 : Nat) (p33 : List Chunk) (a38 : Option Addr) (c39 : Nat) (p40 : List Chunk), Ctx 67 [(0, .pointer (some ⟨b_0, 0, none⟩)), (3, .slice a31 v30.length c32), (4, .int .i64 v36)] a ∧ Sat F (p33 :: p40 :: [(b_0, row [.int .i64 p0.Room, .slice a38 v37.length c39] 52)] :: Φ) w ∧ OwnL 1 (RInt .i64) F 3 a31 c32 v30 p33 ∧ OwnL 5 R_ref12_Row F 56 a38 c39 v37 p40) hl3 ?_ ?_
      · refine At.empty ?_
        have ho157 : OwnL 1 (RInt .i64) F 3 none 0 ([] : List Int) [] := OwnL.nil
        exact fun a w hc hs => ⟨none, 0, [], a_0_1, c_0_1, ψ_0_1, (hc.keep (hc.keep (hc.keep hc.nil (t := 4) rfl) (t := 3) rfl) (t := 0) rfl), (hs.arrange 0 3 [] [0, 2, 1] (by decide)), (OwnL.re (G := F) (const_int _) ho157), ho_0_1⟩
      · rintro ⟨v30, v36, v37⟩ r3 hr a w ⟨a31, c32, p33, a38, c39, p40, hc, hs, ho34, ho41⟩
        refine WC.use hc hs ?_
        clear hc hs
        (try dsimp only at hr)
        unfold ref12_Store_Requests_vo_b2 at hr
        refine WC.then ?_
        refine WC.then ?_
        refine WC.region [(0, true), (1, true), (2, true), (3, true), (4, false), (5, true), (6, true)] rfl ?_
        refine WO.move rfl rfl rfl rfl ?_
        refine WO.move rfl rfl rfl rfl ?_
        refine WO.nilCheck rfl rfl rfl rfl ?_
        refine WO.fieldAddr 1 rfl rfl rfl rfl fl_52_1 ?_
        refine WO.load 2 rfl rfl rfl rfl sc_50 rfl rfl ?_
        refine WO.len rfl rfl rfl rfl Try.underlying50 ?_
        refine WO.bin rfl rfl rfl rfl rfl rfl ?_
        refine WO.done ?_
        refine At.seq_wc ?_
        refine WC.cond rfl (fun hb70 => ?_) (fun hb70 => ?_)
        · have hr := cond_t hb70 hr
          refine WC.skip ?_
          refine At.seq_wc ?_
          refine WC.seq (fun a w => ∃ (v72 : List Int) (v78 : List S_ref12_Row) (a73 : Option Addr) (c74 : Nat) (p75 : List Chunk) (a79 : Option Addr) (c80 : Nat) (p81 : List Chunk), ref12_Store_Requests_vo_k4 v36 v72 v78 = some r3 ∧ Ctx 67 [(0, .pointer (some ⟨b_0, 0, none⟩)), (3, .slice a73 v72.length c74), (4, .int .i64 v36)] a ∧ Sat F (p75 :: p81 :: [(b_0, row [.int .i64 p0.Room, .slice a79 v78.length c80] 52)] :: Φ) w ∧ OwnL 1 (RInt .i64) F 3 a73 c74 v72 p75 ∧ OwnL 5 R_ref12_Row F 56 a79 c80 v78 p81) ?_ ?_
          · refine WC.block ?_
            refine WC.then ?_
            refine WC.region [(0, true), (1, true), (2, true), (3, false), (4, true), (5, true), (6, true), (7, true), (8, false), (9, true)] rfl ?_
            refine WO.move rfl rfl rfl rfl ?_
            refine WO.nilCheck rfl rfl rfl rfl ?_
            refine WO.fieldAddr 1 rfl rfl rfl rfl fl_52_1 ?_
            refine WO.load 2 rfl rfl rfl rfl sc_50 rfl rfl ?_
            refine WO.move rfl rfl rfl rfl ?_
            obtain ⟨x84, hx85, hr⟩ := bind_some' hr
            refine WO.indexQ ho41 hx85 rfl rfl rfl rfl rfl rfl Try.underlying50 sz_56 (fun b86 cs87 hb88 h89 hq90 => ?_)
            subst hb88
            obtain ⟨a91, c92, a94, c95, rfl, h93, h96⟩ := h89
            refine WO.fieldAddr 0 rfl rfl rfl rfl fl_56_0 ?_
            refine WO.fieldAddr 0 rfl rfl rfl rfl fl_30_0 ?_
            refine WO.loadQ 1 0 hq90 rfl rfl rfl rfl rfl rfl sc_3 rfl ?_
            refine WO.assign rfl rfl rfl rfl ?_
            refine WO.done ?_
            refine At.seq_wc ?_
            refine WC.then ?_
            refine WC.region [(0, true)] rfl ?_
            refine WO.assign rfl rfl rfl rfl ?_
            refine WO.done ?_
            refine At.seq_wc ?_
            obtain ⟨xl6, hl6, hk6⟩ := bind_some' hr
            refine WC.seq (fun a w => ∃ (v105 : Int), v105 = xl6 ∧ Ctx 67 [(0, .pointer (some ⟨b_0, 0, none⟩)), (3, .slice a31 v30.length c32), (4, .int .i64 v36), (5, .int .i64 x84.At.Request), (6, .int .i64 v105)] a ∧ Sat F (p33 :: p40 :: [(b_0, row [.int .i64 p0.Room, .slice (some ⟨b86, 0, none⟩) v37.length c39] 52)] :: Φ) w) ?_ ?_
            · refine WC.block ?_
              refine WC.loop (fun (v101 : Int) a w => Ctx 67 [(0, .pointer (some ⟨b_0, 0, none⟩)), (3, .slice a31 v30.length c32), (4, .int .i64 v36), (5, .int .i64 x84.At.Request), (6, .int .i64 v101)] a ∧ Sat F (p33 :: p40 :: [(b_0, row [.int .i64 p0.Room, .slice (some ⟨b86, 0, none⟩) v37.length c39] 52)] :: Φ) w) hl6 ?_ ?_
              · exact fun a w hc hs => ⟨(hc.keep (hc.keep (hc.keep (hc.keep (hc.keep hc.nil (t := 6) rfl) (t := 5) rfl) (t := 4) rfl) (t := 3) rfl) (t := 0) rfl), hs⟩
              · rintro v101 r6 hr a w ⟨hc, hs⟩
                refine WC.use hc hs ?_
                clear hc hs
                (try dsimp only at hr)
                unfold ref12_Store_Requests_vo_b5 at hr
                refine WC.then ?_
                refine WC.seq (fun a w => ∃ (v107 : Bool), ref12_Store_Requests_vo_k7 v101 v107 = some r6 ∧ Ctx 67 [(0, .pointer (some ⟨b_0, 0, none⟩)), (3, .slice a31 v30.length c32), (4, .int .i64 v36), (5, .int .i64 x84.At.Request), (6, .int .i64 v101), (37, .bool v107)] a ∧ Sat F (p33 :: p40 :: [(b_0, row [.int .i64 p0.Room, .slice (some ⟨b86, 0, none⟩) v37.length c39] 52)] :: Φ) w) ?_ ?_
                · refine WC.region [(0, true), (1, true), (2, true), (3, true), (4, true), (5, true), (6, true), (7, true), (8, false), (9, true), (10, true), (11, true)] rfl ?_
                  refine WO.move rfl rfl rfl rfl ?_
                  refine WO.move rfl rfl rfl rfl ?_
                  refine WO.len rfl rfl rfl rfl Try.underlying46 ?_
                  refine WO.bin rfl rfl rfl rfl rfl rfl ?_
                  refine WO.move rfl rfl rfl rfl ?_
                  refine WO.split (t := 30) rfl (fun hg109 => ?_) (fun hg109 => ?_)
                  · have hr := cond_t hg109 hr
                    refine WO.move rfl rfl rfl rfl ?_
                    refine WO.move rfl rfl rfl rfl ?_
                    obtain ⟨x110, hx111, hr⟩ := bind_some' hr
                    refine WO.indexO ho34 hx111 rfl rfl rfl rfl rfl rfl Try.underlying46 sz_3 (fun b112 hb113 => ?_)
                    subst hb113
                    refine WO.loadO 0 ho34 hx111 rfl rfl rfl rfl rfl sc_3 ?_
                    refine WO.move rfl rfl rfl rfl ?_
                    refine WO.bin rfl rfl rfl rfl rfl rfl ?_
                    refine WO.pickT rfl rfl rfl rfl rfl ?_
                    refine WO.done ?_
                    refine At.seq_at ?_
                    exact fun a w hc hs => ⟨(decide (x110 < x84.At.Request)), hr, (hc.keep (hc.keep (hc.keep (hc.keep (hc.keep (hc.keep hc.nil (t := 37) rfl) (t := 6) rfl) (t := 5) rfl) (t := 4) rfl) (t := 3) rfl) (t := 0) rfl), hs⟩
                  · have hr := cond_f hg109 hr
                    refine WO.skip rfl rfl rfl rfl ?_
                    refine WO.skip rfl rfl rfl rfl ?_
                    refine WO.skip rfl rfl rfl rfl ?_
                    refine WO.skipF rfl rfl rfl rfl ?_
                    refine WO.skip rfl rfl rfl rfl ?_
                    refine WO.skip rfl rfl rfl rfl ?_
                    refine WO.pickF rfl rfl rfl rfl rfl ?_
                    refine WO.done ?_
                    refine At.seq_at ?_
                    exact fun a w hc hs => ⟨false, hr, (hc.keep (hc.keep (hc.keep (hc.keep (hc.keep (hc.keep hc.nil (t := 37) rfl) (t := 6) rfl) (t := 5) rfl) (t := 4) rfl) (t := 3) rfl) (t := 0) rfl), hs⟩
                · rintro a w ⟨v107, hr, hc, hs⟩
                  refine WC.use hc hs ?_
                  clear hc hs
                  unfold ref12_Store_Requests_vo_k7 at hr
                  refine WC.cond rfl (fun hb108 => ?_) (fun hb108 => ?_)
                  · have hr := cond_t hb108 hr
                    refine WC.skip ?_
                    refine At.seq_wc ?_
                    refine WC.block ?_
                    refine WC.region [(0, true), (1, true), (2, true)] rfl ?_
                    refine WO.move rfl rfl rfl rfl ?_
                    refine WO.bin rfl rfl rfl rfl rfl rfl ?_
                    refine WO.assign rfl rfl rfl rfl ?_
                    refine WO.done ?_
                    refine At.block_normal ?_
                    refine At.round_next hr ?_
                    exact fun a w hc hs => ⟨(hc.keep (hc.keep (hc.keep (hc.keep (hc.keep hc.nil (t := 6) rfl) (t := 5) rfl) (t := 4) rfl) (t := 3) rfl) (t := 0) rfl), hs⟩
                  · have hr := cond_f hb108 hr
                    refine WC.exit ?_
                    refine At.seq_exit ?_
                    refine At.round_exit hr (fun hy => ?_)
                    refine At.exit_block ?_
                    refine At.seq_at ?_
                    exact fun a w hc hs => ⟨v101, hy, (hc.keep (hc.keep (hc.keep (hc.keep (hc.keep hc.nil (t := 6) rfl) (t := 5) rfl) (t := 4) rfl) (t := 3) rfl) (t := 0) rfl), hs⟩
            · rintro a w ⟨v105, rfl, hc, hs⟩
              refine WC.use hc hs ?_
              clear hc hs
              (try dsimp only at hk6)
              have hr := hk6
              refine WC.then ?_
              refine WC.seq (fun a w => ∃ (v115 : Bool), ref12_Store_Requests_vo_k8 v30 v36 v37 x84 v105 v115 = some r3 ∧ Ctx 67 [(0, .pointer (some ⟨b_0, 0, none⟩)), (3, .slice a31 v30.length c32), (4, .int .i64 v36), (5, .int .i64 x84.At.Request), (6, .int .i64 v105), (51, .bool v115)] a ∧ Sat F (p33 :: p40 :: [(b_0, row [.int .i64 p0.Room, .slice (some ⟨b86, 0, none⟩) v37.length c39] 52)] :: Φ) w) ?_ ?_
              · refine WC.region [(0, true), (1, true), (2, true), (3, true), (4, true), (5, true), (6, true), (7, true), (8, false), (9, true), (10, true), (11, true)] rfl ?_
                refine WO.move rfl rfl rfl rfl ?_
                refine WO.move rfl rfl rfl rfl ?_
                refine WO.len rfl rfl rfl rfl Try.underlying46 ?_
                refine WO.bin rfl rfl rfl rfl rfl rfl ?_
                refine WO.move rfl rfl rfl rfl ?_
                refine WO.split (t := 44) rfl (fun hg151 => ?_) (fun hg151 => ?_)
                · have hr := cond_t hg151 hr
                  refine WO.move rfl rfl rfl rfl ?_
                  refine WO.move rfl rfl rfl rfl ?_
                  obtain ⟨x152, hx153, hr⟩ := bind_some' hr
                  refine WO.indexO ho34 hx153 rfl rfl rfl rfl rfl rfl Try.underlying46 sz_3 (fun b154 hb155 => ?_)
                  subst hb155
                  refine WO.loadO 0 ho34 hx153 rfl rfl rfl rfl rfl sc_3 ?_
                  refine WO.move rfl rfl rfl rfl ?_
                  refine WO.bin rfl rfl rfl rfl rfl rfl ?_
                  refine WO.pickT rfl rfl rfl rfl rfl ?_
                  refine WO.done ?_
                  refine At.seq_at ?_
                  exact fun a w hc hs => ⟨(x152 == x84.At.Request), hr, (hc.keep (hc.keep (hc.keep (hc.keep (hc.keep (hc.keep hc.nil (t := 51) rfl) (t := 6) rfl) (t := 5) rfl) (t := 4) rfl) (t := 3) rfl) (t := 0) rfl), hs⟩
                · have hr := cond_f hg151 hr
                  refine WO.skip rfl rfl rfl rfl ?_
                  refine WO.skip rfl rfl rfl rfl ?_
                  refine WO.skip rfl rfl rfl rfl ?_
                  refine WO.skipF rfl rfl rfl rfl ?_
                  refine WO.skip rfl rfl rfl rfl ?_
                  refine WO.skip rfl rfl rfl rfl ?_
                  refine WO.pickF rfl rfl rfl rfl rfl ?_
                  refine WO.done ?_
                  refine At.seq_at ?_
                  exact fun a w hc hs => ⟨false, hr, (hc.keep (hc.keep (hc.keep (hc.keep (hc.keep (hc.keep hc.nil (t := 51) rfl) (t := 6) rfl) (t := 5) rfl) (t := 4) rfl) (t := 3) rfl) (t := 0) rfl), hs⟩
              · rintro a w ⟨v115, hr, hc, hs⟩
                refine WC.use hc hs ?_
                clear hc hs
                unfold ref12_Store_Requests_vo_k8 at hr
                refine WC.cond rfl (fun hb116 => ?_) (fun hb116 => ?_)
                · have hr := cond_t hb116 hr
                  refine WC.exit ?_
                  refine At.seq_exit ?_
                  refine At.exit_block ?_
                  refine At.seq_at ?_
                  exact fun a w hc hs => ⟨v30, v37, a31, c32, p33, (some ⟨b86, 0, none⟩), c39, p40, hr, (hc.keep (hc.keep (hc.keep hc.nil (t := 4) rfl) (t := 3) rfl) (t := 0) rfl), hs, (OwnL.re (G := F) (const_int _) ho34), ho41⟩
                · have hr := cond_f hb116 hr
                  refine WC.skip ?_
                  refine At.seq_wc ?_
                  refine WC.then ?_
                  refine WC.region [(0, true)] rfl ?_
                  refine WO.assign rfl rfl rfl rfl ?_
                  refine WO.done ?_
                  refine At.seq_wc ?_
                  refine WC.then ?_
                  refine WC.region [(0, true), (1, true), (2, true), (3, true), (4, false), (5, true)] rfl ?_
                  refine WO.move rfl rfl rfl rfl ?_
                  refine WO.move rfl rfl rfl rfl ?_
                  refine WO.move rfl rfl rfl rfl ?_
                  refine WO.freeze 0 rfl ?_
                  have hz117 := (OwnL.re (G := F) (const_int _) ho34).rd (mono_int _)
                  obtain ⟨x118, hx119, hr⟩ := bind_some' hr
                  refine WO.slice hz117 hx119 rfl rfl rfl rfl rfl rfl rfl (.inl ⟨rfl, rfl⟩) (.inr ⟨_, rfl⟩) Try.underlying46 sz_3 (fun a120 c121 h122 => ?_)
                  refine WO.empty ?_
                  have ho124 : OwnL 1 (RInt .i64) F 3 none 0 ([] : List Int) [] := OwnL.nil
                  obtain ⟨x125, hx126, hr⟩ := bind_some' hr
                  refine WO.append 0 (OwnL.re (G := (Mem.add F p33)) (const_int _) ho124) rfl (SrcL.ofRd Try.underlying46 h122 (Mem.le_refl _)) hx126 rfl rfl rfl rfl rfl rfl Try.underlying46 el_3 (fun _ _ _ => trivial) (fun a127 c128 p129 ho130 => ?_)
                  refine WO.assign rfl rfl rfl rfl ?_
                  refine WO.done ?_
                  refine At.seq_wc ?_
                  refine WC.arrange 1 3 [] [0, 1, 2, 3] (by decide) F (p33 :: p129 :: p40 :: [(b_0, row [.int .i64 p0.Room, .slice (some ⟨b86, 0, none⟩) v37.length c39] 52)] :: Φ) rfl rfl ?_
                  refine WC.then ?_
                  refine WC.region [(0, true), (1, true), (2, false), (3, false), (4, true)] rfl ?_
                  refine WO.move rfl rfl rfl rfl ?_
                  refine WO.move rfl rfl rfl rfl ?_
                  refine WO.buildSl (e := 3) (vs := [.tmp 58]) [0] [.int .i64 x84.At.Request] rfl rfl rfl rfl rfl (fun _ => by kernel_rfl) (fun _ _ _ => trivial) (fun b131 => ?_)
                  obtain ⟨x133, hx134, hr⟩ := bind_some' hr
                  refine WO.append 2 (OwnL.re (G := F) (const_int _) ho130) rfl (SrcL.ofRow 0 Try.underlying46 [[.int .i64 x84.At.Request]] rfl rfl rfl (Rs.cons (x := x84.At.Request) (cs := [.int .i64 x84.At.Request]) rfl rfl rfl Rs.nil)) hx134 rfl rfl rfl rfl rfl rfl Try.underlying46 el_3 (fun _ _ _ => trivial) (fun a135 c136 p137 ho138 => ?_)
                  refine WO.assign rfl rfl rfl rfl ?_
                  refine WO.done ?_
                  refine At.seq_wc ?_
                  refine WC.region [(0, true), (1, true), (2, true), (3, true), (4, false), (5, true)] rfl ?_
                  refine WO.move rfl rfl rfl rfl ?_
                  refine WO.move rfl rfl rfl rfl ?_
                  refine WO.move rfl rfl rfl rfl ?_
                  refine WO.freeze 1 rfl ?_
                  have hz139 := (OwnL.re (G := F) (const_int _) ho34).rd (mono_int _)
                  obtain ⟨x140, hx141, hr⟩ := bind_some' hr
                  refine WO.slice hz139 hx141 rfl rfl rfl rfl rfl rfl rfl (.inr ⟨_, rfl⟩) (.inl ⟨rfl, rfl⟩) Try.underlying46 sz_3 (fun a142 c143 h144 => ?_)
                  obtain ⟨x145, hx146, hr⟩ := bind_some' hr
                  refine WO.append 1 (OwnL.re (G := (Mem.add F p33)) (const_int _) ho138) rfl (SrcL.ofRd Try.underlying46 h144 (Mem.le_refl _)) hx146 rfl rfl rfl rfl rfl rfl Try.underlying46 el_3 (fun _ _ _ => trivial) (fun a147 c148 p149 ho150 => ?_)
                  refine WO.assign rfl rfl rfl rfl ?_
                  refine WO.done ?_
                  refine At.block_normal ?_
                  refine At.seq_at ?_
                  exact fun a w hc hs => ⟨x145, v37, a147, c148, p149, (some ⟨b86, 0, none⟩), c39, p40, hr, (hc.keep (hc.keep (hc.keep hc.nil (t := 4) rfl) (t := 3) rfl) (t := 0) rfl), (hs.arrange 1 4 [] [2, 3, 4] (by decide)), (OwnL.re (G := F) (const_int _) ho150), ho41⟩
          · rintro a w ⟨v72, v78, a73, c74, p75, a79, c80, p81, hr, hc, hs, ho76, ho82⟩
            refine WC.use hc hs ?_
            clear hc hs
            unfold ref12_Store_Requests_vo_k4 at hr
            refine WC.region [(0, true), (1, true), (2, true)] rfl ?_
            refine WO.move rfl rfl rfl rfl ?_
            refine WO.bin rfl rfl rfl rfl rfl rfl ?_
            refine WO.assign rfl rfl rfl rfl ?_
            refine WO.done ?_
            refine At.round_next hr ?_
            exact fun a w hc hs => ⟨a73, c74, p75, a79, c80, p81, (hc.keep (hc.keep (hc.keep hc.nil (t := 4) rfl) (t := 3) rfl) (t := 0) rfl), hs, (OwnL.re (G := F) (const_int _) ho76), ho82⟩
        · have hr := cond_f hb70 hr
          refine WC.exit ?_
          refine At.seq_exit ?_
          refine At.round_exit hr (fun hy => ?_)
          refine At.exit_block ?_
          refine At.seq_at ?_
          exact fun a w hc hs => ⟨v30, v37, a31, c32, p33, a38, c39, p40, hy, (hc.keep hc.nil (t := 3) rfl), hs, (OwnL.re (G := F) (const_int _) ho34), ho41⟩
    · rintro a w ⟨v58, v64, a59, c60, p61, a65, c66, p67, rfl, hc, hs, ho62, ho68⟩
      refine At.use hc hs ?_
      clear hc hs
      (try dsimp only at hk3)
      have hr := hk3
      refine At.seq_at ?_
      exact fun a w hc hs => ⟨v58, v64, a59, c60, p61, a65, c66, p67, hr, (hc.keep hc.nil (t := 3) rfl), hs, (OwnL.re (G := F) (const_int _) ho62), ho68⟩
  · rintro a w ⟨v2, v8, a3, c4, p5, a9, c10, p11, hr, hc, hs, ho6, ho12⟩
    refine WC.use hc hs ?_
    clear hc hs
    unfold ref12_Store_Requests_vo_k1 at hr
    refine WC.then ?_
    refine WC.region [(0, true), (1, true)] rfl ?_
    refine WO.move rfl rfl rfl rfl ?_
    refine WO.assign rfl rfl rfl rfl ?_
    refine WO.done ?_
    refine At.seq_wc ?_
    refine WC.ret ?_
    obtain rfl := Option.some.inj hr
    exact At.ret (fun a w hc hs => (resVs_cons (hc.res rfl) resVs_nil)) (fun w hs => ⟨_, _, _, _, _, _, rfl, (hs.arrange 0 3 [] [0, 2, 1] (by decide)), (OwnL.re (G := F) (const_int _) ho6), ho12⟩)
/-! peloton/pelotonlaw12.CacheActs -/
def law12_CacheActs_k3 (x11 : (Option S_cache_Store) × Int) : Option Bool := some (x11.2 == 2)
def law12_CacheActs_k4  : Option Bool := some false
def law12_CacheActs_k2 (x11 : (Option S_cache_Store) × Int) (v17 : Bool) : Option Bool := cond v17 (law12_CacheActs_k3 x11) (law12_CacheActs_k4 )
def law12_CacheActs_k6  : Option Bool := some false
def law12_CacheActs_k9  : Option Bool := some true
def law12_CacheActs_b10 (x50 : (List Int) × S_cache_Store) (x62 : (List Int) × S_ref12_Store) (v81 : Int) : Option (Int ⊕ (Lp Bool Unit)) := cond (decide (v81 < (x50.1.length : Int))) ((getI x50.1 v81).bind fun x86 => (getI x62.1 v81).bind fun x90 => cond (x86 != x90) (some (.inr (.ret false))) (some (.inl (IntKind.wrap .i64 (v81 + 1))))) (some (.inr (.brk ())))
def law12_CacheActs_k8 (v39 : S_ref12_Store) (v45 : S_cache_Store) : Option Bool := (cache_Store_Requests_vm v45).bind fun x50 => (ref12_Store_Requests_vo v39).bind fun x62 => cond ((x50.1.length : Int) != (x62.1.length : Int)) (some false) ((loopO (fun s => law12_CacheActs_b10 x50 x62 s) 0).bind (fun | .ret r => some r | .brk _ => law12_CacheActs_k9 ))
def law12_CacheActs_k14 (v110 : Int) (v149 : S_ref12_Store) (v155 : S_cache_Store) : Option ((Int × S_ref12_Store × S_cache_Store) ⊕ (Lp Bool (S_ref12_Store × S_cache_Store))) := some (.inl ((IntKind.wrap .i64 (v110 + 1)), v149, v155))
def law12_CacheActs_k19 (v110 : Int) (v177 : S_ref12_Store) (v183 : S_cache_Store) (v206 : Bool) : Option ((Int × S_ref12_Store × S_cache_Store) ⊕ (Lp Bool (S_ref12_Store × S_cache_Store))) := cond v206 (some (.inr (.ret false))) (law12_CacheActs_k14 v110 v177 v183)
def law12_CacheActs_k18 (v110 : Int) (x160 : S_law12_Act) (v177 : S_ref12_Store) (v183 : S_cache_Store) : Option ((Int × S_ref12_Store × S_cache_Store) ⊕ (Lp Bool (S_ref12_Store × S_cache_Store))) := (cache_Store_Get_vm v183 x160.At).bind fun x192 => (ref12_Store_Find_vo v177 x160.At).bind fun x208 => cond (x192.2.2 != (decide (x208 ≥ 0))) (law12_CacheActs_k19 v110 v177 v183 true) ((law12_lines_vm_vo v183 v177 x160.At).bind fun x212 => law12_CacheActs_k19 v110 v177 v183 (!x212))
def law12_CacheActs_k22 (v219 : Int) (v251 : Bool) : Option (Int ⊕ (Lp Bool Unit)) := cond v251 (some (.inr (.ret false))) (some (.inl (IntKind.wrap .i64 (v219 + 1))))
def law12_CacheActs_b20 (v177 : S_ref12_Store) (v183 : S_cache_Store) (v219 : Int) : Option (Int ⊕ (Lp Bool Unit)) := cond (decide (v219 < (v177.L.length : Int))) ((getI v177.L v219).bind fun x224 => (cache_Store_Get_vm v183 x224.At).bind fun x237 => cond (!x237.2.2) (law12_CacheActs_k22 v219 true) ((getI v177.L v219).bind fun x254 => (ref04_Bytes x237.1 x254.K).bind fun x267 => cond (!x267) (law12_CacheActs_k22 v219 true) ((getI v177.L v219).bind fun x271 => (ref04_Bytes x237.2.1 x271.V).bind fun x284 => law12_CacheActs_k22 v219 (!x284)))) (some (.inr (.brk ())))
def law12_CacheActs_k17 (v110 : Int) (x160 : S_law12_Act) (v177 : S_ref12_Store) (v183 : S_cache_Store) (v189 : Bool) : Option ((Int × S_ref12_Store × S_cache_Store) ⊕ (Lp Bool (S_ref12_Store × S_cache_Store))) := cond v189 (some (.inr (.ret false))) ((loopO (fun s => law12_CacheActs_b20 v177 v183 s) 0).bind (fun | .ret r => some (.inr (.ret r)) | .brk _ => law12_CacheActs_k18 v110 x160 v177 v183))
def law12_CacheActs_k16 (p0 : Int) (v110 : Int) (x160 : S_law12_Act) (v177 : S_ref12_Store) (v183 : S_cache_Store) : Option ((Int × S_ref12_Store × S_cache_Store) ⊕ (Lp Bool (S_ref12_Store × S_cache_Store))) := (cache_Store_Len_vm v183).bind fun x287 => cond (x287 != (v177.L.length : Int)) (law12_CacheActs_k17 v110 x160 v177 v183 true) ((cache_Store_Len_vm v183).bind fun x291 => cond (decide (x291 > p0)) (law12_CacheActs_k17 v110 x160 v177 v183 true) ((cache_Store_Room_vm v183).bind fun x295 => law12_CacheActs_k17 v110 x160 v177 v183 (x295 != p0)))
def law12_CacheActs_b24 (v340 : List Int) (v346 : Int) : Option (((List Int) × Int) ⊕ Unit) := cond (decide (v346 < (v340.length : Int))) ((getI v340 v346).bind fun x357 => (getI v340 v346).bind fun x361 => some (.inl ((List.set v340 (Int.toNat v346) (IntKind.wrap .i8 (x357 + 1))), (IntKind.wrap .i64 (v346 + 1))))) (some (.inr ()))
def law12_CacheActs_k23 (p0 : Int) (v110 : Int) (v111 : S_ref12_Store) (v117 : S_cache_Store) (x160 : S_law12_Act) (v300 : List Int) (v306 : List Int) : Option ((Int × S_ref12_Store × S_cache_Store) ⊕ (Lp Bool (S_ref12_Store × S_cache_Store))) := (cache_Store_Put_vm v117 x160.At v300 v306).bind fun x312 => (ref12_Store_Put_vo v111 x160.At x160.K x160.V).bind fun x320 => cond (x312.1 != x320.1) (some (.inr (.ret false))) ((loopO (fun s => law12_CacheActs_b24  s.1 s.2) (v300, 0)).bind (fun _ => law12_CacheActs_k16 p0 v110 x160 x320.2 x312.2))
def law12_CacheActs_k15 (p0 : Int) (v110 : Int) (v111 : S_ref12_Store) (v117 : S_cache_Store) (x160 : S_law12_Act) (v174 : Bool) : Option ((Int × S_ref12_Store × S_cache_Store) ⊕ (Lp Bool (S_ref12_Store × S_cache_Store))) := cond v174 (some (.inr (.ret true))) (cond (x160.Kind == 0) ((app ([] : List Int) x160.K).bind fun x371 => (app ([] : List Int) x160.V).bind fun x381 => law12_CacheActs_k23 p0 v110 v111 v117 x160 x371 x381) (cond (x160.Kind == 1) ((cache_Store_Drop_vm v117 [x160.At.Request]).bind fun x396 => (ref12_Store_Drop_vo v111 x160.At.Request).bind fun x403 => cond (x396.1 != x403.1) (some (.inr (.ret false))) (law12_CacheActs_k16 p0 v110 x160 x403.2 x396.2)) (cond (x160.Kind == 2) ((cache_Store_Clear_vm v117).bind fun x413 => law12_CacheActs_k16 p0 v110 x160 (⟨v111.Room, ([] : List S_ref12_Row)⟩ : S_ref12_Store) x413) (law12_CacheActs_k16 p0 v110 x160 v111 v117))))
def law12_CacheActs_b12 (p0 : Int) (v2 : List S_law12_Act) (v110 : Int) (v111 : S_ref12_Store) (v117 : S_cache_Store) : Option ((Int × S_ref12_Store × S_cache_Store) ⊕ (Lp Bool (S_ref12_Store × S_cache_Store))) := cond (decide (v110 < (v2.length : Int))) ((getI v2 v110).bind fun x160 => cond (decide ((x160.K.length : Int) > 100)) (law12_CacheActs_k15 p0 v110 v111 v117 x160 true) (law12_CacheActs_k15 p0 v110 v111 v117 x160 (decide ((x160.V.length : Int) > 100)))) (some (.inr (.brk (v111, v117))))
def law12_CacheActs_k7 (p0 : Int) (v2 : List S_law12_Act) (x11 : (Option S_cache_Store) × Int) (o13 : S_cache_Store) : Option Bool := cond (x11.2 != 0) (some false) ((loopO (fun s => law12_CacheActs_b12 p0 v2 s.1 s.2.1 s.2.2) (0, (⟨p0, []⟩ : S_ref12_Store), o13)).bind (fun | .ret r => some r | .brk (v136, v142) => law12_CacheActs_k8 v136 v142))
def law12_CacheActs_k5 (p0 : Int) (v2 : List S_law12_Act) (x11 : (Option S_cache_Store) × Int) (o13 : S_cache_Store) (v31 : Bool) : Option Bool := cond v31 (law12_CacheActs_k6 ) (law12_CacheActs_k7 p0 v2 x11 o13)
def law12_CacheActs_k1 (p0 : Int) (v2 : List S_law12_Act) (v6 : Bool) : Option Bool := cond v6 ((law12_awake).bind fun x8 => some x8) ((cache_New p0).bind fun x11 => Option.elim x11.1 (cond (decide (p0 < 0)) (law12_CacheActs_k2 x11 true) (law12_CacheActs_k2 x11 (decide (p0 > 1048576)))) (fun o13 => cond (decide (p0 < 0)) (law12_CacheActs_k5 p0 v2 x11 o13 true) (law12_CacheActs_k5 p0 v2 x11 o13 (decide (p0 > 1048576)))))
def law12_CacheActs (p0 : Int) (p1 : List S_law12_Act) : Option Bool := (law12_awake).bind fun x426 => cond (!x426) (law12_CacheActs_k1 p0 p1 true) (law12_CacheActs_k1 p0 p1 (decide ((p1.length : Int) > 60)))
theorem law12_CacheActs_ok {F : Mem} {χ : List Chunk} {p0 : Int} {p1 : List S_law12_Act} {a_1 : Option Addr} {c_1 : Nat} (h_1 : RdL 6 R_law12_Act (Mem.add F χ) a_1 c_1 p1) {r : Bool} (hr : law12_CacheActs p0 p1 = some r) (Φ : List (List Chunk)) :
    CallsRet Try.prog 5 (List.toArray [.int .i64 p0, .slice a_1 p1.length c_1]) (Mem.add F χ) Φ (fun v w => v = .bool r ∧ Sat (Mem.add F χ) (Φ) w) := by
  refine CallsRet.enter (rs := [.tmp 4]) Try.func5 rfl rfl rfl rfl ?_
  unfold law12_CacheActs at hr
  refine WC.then ?_
  refine WC.region [(0, true)] rfl ?_
  refine WO.assign rfl rfl rfl rfl ?_
  refine WO.done ?_
  refine At.seq_wc ?_
  refine WC.then ?_
  refine WC.seq (fun a w => ∃ (v2 : List S_law12_Act) (v6 : Bool) (a3 : Option Addr) (c4 : Nat), law12_CacheActs_k1 p0 v2 v6 = some r ∧ Ctx 255 [(0, .int .i64 p0), (1, .slice a3 v2.length c4), (29, .bool v6)] a ∧ Sat (Mem.add F χ) Φ w ∧ RdL 6 R_law12_Act (Mem.add F χ) a3 c4 v2) ?_ ?_
  · refine WC.region [(0, false), (1, true), (2, true), (3, true), (4, true), (5, true), (6, true)] rfl ?_
    obtain ⟨x426, hx427, hr⟩ := bind_some' hr
    refine WO.call rfl rfl rfl rfl rfl cl_6 (CallsRet.lay0 1 0 [] [0] (by decide) F (χ :: Φ) rfl rfl (law12_awake_ok (F := F) hx427 (χ :: Φ))) ?_
    rintro _ _ ⟨rfl, hs428⟩
    have hs428 := (hs428.arrange 0 1 [0] [] (by decide))
    refine ⟨(Mem.add F χ), (Φ), hs428, trivial, ?_⟩
    refine WO.un rfl rfl rfl rfl rfl ?_
    refine WO.move rfl rfl rfl rfl ?_
    refine WO.split (t := 25) rfl (fun hg429 => ?_) (fun hg429 => ?_)
    · have hr := cond_t hg429 hr
      refine WO.skip rfl rfl rfl rfl ?_
      refine WO.skip rfl rfl rfl rfl ?_
      refine WO.skip rfl rfl rfl rfl ?_
      refine WO.pickT rfl rfl rfl rfl rfl ?_
      refine WO.done ?_
      refine At.seq_at ?_
      exact fun a w hc hs => ⟨p1, true, a_1, c_1, hr, (hc.keep (hc.keep (hc.keep hc.nil (t := 29) rfl) (t := 1) rfl) (t := 0) rfl), hs, h_1⟩
    · have hr := cond_f hg429 hr
      refine WO.move rfl rfl rfl rfl ?_
      refine WO.len rfl rfl rfl rfl Try.underlying22 ?_
      refine WO.bin rfl rfl rfl rfl rfl rfl ?_
      refine WO.pickF rfl rfl rfl rfl rfl ?_
      refine WO.done ?_
      refine At.seq_at ?_
      exact fun a w hc hs => ⟨p1, (decide ((p1.length : Int) > 60)), a_1, c_1, hr, (hc.keep (hc.keep (hc.keep hc.nil (t := 29) rfl) (t := 1) rfl) (t := 0) rfl), hs, h_1⟩
  · rintro a w ⟨v2, v6, a3, c4, hr, hc, hs, h5⟩
    refine WC.use hc hs ?_
    clear hc hs
    unfold law12_CacheActs_k1 at hr
    refine WC.cond rfl (fun hb7 => ?_) (fun hb7 => ?_)
    · have hr := cond_t hb7 hr
      refine WC.then ?_
      refine WC.region [(0, false), (1, true)] rfl ?_
      obtain ⟨x8, hx9, hr⟩ := bind_some' hr
      refine WO.call rfl rfl rfl rfl rfl cl_6 (CallsRet.lay0 1 0 [] [0] (by decide) F (χ :: Φ) rfl rfl (law12_awake_ok (F := F) hx9 (χ :: Φ))) ?_
      rintro _ _ ⟨rfl, hs10⟩
      have hs10 := (hs10.arrange 0 1 [0] [] (by decide))
      refine ⟨(Mem.add F χ), (Φ), hs10, trivial, ?_⟩
      refine WO.assign rfl rfl rfl rfl ?_
      refine WO.done ?_
      refine At.seq_wc ?_
      refine WC.ret ?_
      refine At.seq_ret ?_
      obtain rfl := Option.some.inj hr
      exact At.ret (fun a w hc hs => (resVs_cons (hc.res rfl) resVs_nil)) (fun w hs => ⟨rfl, hs⟩)
    · have hr := cond_f hb7 hr
      refine WC.skip ?_
      refine At.seq_wc ?_
      refine WC.then ?_
      refine WC.region [(0, true), (1, false), (2, true), (3, true), (4, true), (5, true), (6, true)] rfl ?_
      refine WO.move rfl rfl rfl rfl ?_
      obtain ⟨x11, hx12, hr⟩ := bind_some' hr
      refine WO.call rfl rfl rfl rfl rfl cl_7 (CallsRet.lay0 1 0 [] [0] (by decide) F (χ :: Φ) rfl rfl (cache_New_ok (F := F) hx12 (χ :: Φ))) ?_
      rintro _ _ (⟨hn14, rfl, hs15⟩ | ⟨o13, b23, b24, p25, hn22, rfl, hs29, hm27⟩)
      · have hr := elim_none hn14 hr
        have hs15 := (hs15.arrange 0 1 [0] [] (by decide))
        refine ⟨(Mem.add F χ), (Φ), hs15, trivial, ?_⟩
        refine WO.move rfl rfl rfl rfl ?_
        refine WO.extract rfl rfl rfl rfl rfl ?_
        refine WO.extract rfl rfl rfl rfl rfl ?_
        refine WO.assign rfl rfl rfl rfl ?_
        refine WO.assign rfl rfl rfl rfl ?_
        refine WO.done ?_
        refine At.seq_wc ?_
        refine WC.then ?_
        refine WC.seq (fun a w => ∃ (v17 : Bool), law12_CacheActs_k2 x11 v17 = some r ∧ Ctx 255 [(0, .int .i64 p0), (1, .slice a3 v2.length c4), (5, .pointer none), (6, .int .i64 x11.2), (41, .bool v17)] a ∧ Sat (Mem.add F χ) Φ w) ?_ ?_
        · refine WC.region [(0, true), (1, true), (2, true), (3, true), (4, true), (5, true)] rfl ?_
          refine WO.move rfl rfl rfl rfl ?_
          refine WO.bin rfl rfl rfl rfl rfl rfl ?_
          refine WO.move rfl rfl rfl rfl ?_
          refine WO.split (t := 38) rfl (fun hg21 => ?_) (fun hg21 => ?_)
          · have hr := cond_t hg21 hr
            refine WO.skip rfl rfl rfl rfl ?_
            refine WO.skip rfl rfl rfl rfl ?_
            refine WO.pickT rfl rfl rfl rfl rfl ?_
            refine WO.done ?_
            refine At.seq_at ?_
            exact fun a w hc hs => ⟨true, hr, (hc.keep (hc.keep (hc.keep (hc.keep (hc.keep hc.nil (t := 41) rfl) (t := 6) rfl) (t := 5) rfl) (t := 1) rfl) (t := 0) rfl), hs⟩
          · have hr := cond_f hg21 hr
            refine WO.move rfl rfl rfl rfl ?_
            refine WO.bin rfl rfl rfl rfl rfl rfl ?_
            refine WO.pickF rfl rfl rfl rfl rfl ?_
            refine WO.done ?_
            refine At.seq_at ?_
            exact fun a w hc hs => ⟨(decide (p0 > 1048576)), hr, (hc.keep (hc.keep (hc.keep (hc.keep (hc.keep hc.nil (t := 41) rfl) (t := 6) rfl) (t := 5) rfl) (t := 1) rfl) (t := 0) rfl), hs⟩
        · rintro a w ⟨v17, hr, hc, hs⟩
          refine WC.use hc hs ?_
          clear hc hs
          unfold law12_CacheActs_k2 at hr
          refine WC.cond rfl (fun hb18 => ?_) (fun hb18 => ?_)
          · have hr := cond_t hb18 hr
            refine WC.seq (fun a w => law12_CacheActs_k3 x11 = some r ∧ Ctx 255 [(4, .bool (x11.2 == 2))] a ∧ Sat (Mem.add F χ) Φ w) ?_ ?_
            · refine WC.region [(0, true), (1, true), (2, true), (3, true), (4, true), (5, true), (6, true)] rfl ?_
              refine WO.move rfl rfl rfl rfl ?_
              refine WO.eqNil rfl rfl rfl rfl rfl Try.underlying24 ?_
              refine WO.move rfl rfl rfl rfl ?_
              refine WO.move rfl rfl rfl rfl ?_
              refine WO.bin rfl rfl rfl rfl rfl rfl ?_
              refine WO.pickT rfl rfl rfl rfl rfl ?_
              refine WO.assign rfl rfl rfl rfl ?_
              refine WO.done ?_
              refine At.seq_at ?_
              exact fun a w hc hs => ⟨hr, (hc.keep hc.nil (t := 4) rfl), hs⟩
            · rintro a w ⟨hr, hc, hs⟩
              refine WC.use hc hs ?_
              clear hc hs
              unfold law12_CacheActs_k3 at hr
              refine WC.ret ?_
              refine At.seq_ret ?_
              obtain rfl := Option.some.inj hr
              exact At.ret (fun a w hc hs => (resVs_cons (hc.res rfl) resVs_nil)) (fun w hs => ⟨rfl, hs⟩)
          · have hr := cond_f hb18 hr
            refine WC.skip ?_
            refine At.seq_wc ?_
            refine WC.then ?_
            refine WC.seq (fun a w => law12_CacheActs_k4  = some r ∧ Ctx 255 [(0, .int .i64 p0), (1, .slice a3 v2.length c4), (5, .pointer none), (53, .bool true)] a ∧ Sat (Mem.add F χ) Φ w) ?_ ?_
            · refine WC.region [(0, true), (1, true), (2, true), (3, true), (4, true), (5, true)] rfl ?_
              refine WO.move rfl rfl rfl rfl ?_
              refine WO.eqNil rfl rfl rfl rfl rfl Try.underlying24 ?_
              refine WO.move rfl rfl rfl rfl ?_
              refine WO.skip rfl rfl rfl rfl ?_
              refine WO.skip rfl rfl rfl rfl ?_
              refine WO.pickT rfl rfl rfl rfl rfl ?_
              refine WO.done ?_
              refine At.seq_at ?_
              exact fun a w hc hs => ⟨hr, (hc.keep (hc.keep (hc.keep (hc.keep hc.nil (t := 53) rfl) (t := 5) rfl) (t := 1) rfl) (t := 0) rfl), hs⟩
            · rintro a w ⟨hr, hc, hs⟩
              refine WC.use hc hs ?_
              clear hc hs
              unfold law12_CacheActs_k4 at hr
              refine WC.condT rfl ?_
              refine WC.then ?_
              refine WC.region [(0, true)] rfl ?_
              refine WO.assign rfl rfl rfl rfl ?_
              refine WO.done ?_
              refine At.seq_wc ?_
              refine WC.ret ?_
              refine At.seq_ret ?_
              obtain rfl := Option.some.inj hr
              exact At.ret (fun a w hc hs => (resVs_cons (hc.res rfl) resVs_nil)) (fun w hs => ⟨rfl, hs⟩)
      · have hr := elim_some hn22 hr
        have hs29 := (hs29.arrange 0 3 [2] [0, 1] (by decide))
        refine ⟨(Mem.add F χ), ([(b23, row [.int .i64 o13.room, .map (some b24)] 62)] :: p25 :: Φ), hs29, trivial, ?_⟩
        refine WO.move rfl rfl rfl rfl ?_
        refine WO.extract rfl rfl rfl rfl rfl ?_
        refine WO.extract rfl rfl rfl rfl rfl ?_
        refine WO.assign rfl rfl rfl rfl ?_
        refine WO.assign rfl rfl rfl rfl ?_
        refine WO.done ?_
        refine At.seq_wc ?_
        refine WC.then ?_
        refine WC.seq (fun a w => ∃ (v31 : Bool), law12_CacheActs_k5 p0 v2 x11 o13 v31 = some r ∧ Ctx 255 [(0, .int .i64 p0), (1, .slice a3 v2.length c4), (5, .pointer (some ⟨b23, 0, none⟩)), (6, .int .i64 x11.2), (41, .bool v31)] a ∧ Sat (Mem.add F χ) ([(b23, row [.int .i64 o13.room, .map (some b24)] 62)] :: p25 :: Φ) w) ?_ ?_
        · refine WC.region [(0, true), (1, true), (2, true), (3, true), (4, true), (5, true)] rfl ?_
          refine WO.move rfl rfl rfl rfl ?_
          refine WO.bin rfl rfl rfl rfl rfl rfl ?_
          refine WO.move rfl rfl rfl rfl ?_
          refine WO.split (t := 38) rfl (fun hg425 => ?_) (fun hg425 => ?_)
          · have hr := cond_t hg425 hr
            refine WO.skip rfl rfl rfl rfl ?_
            refine WO.skip rfl rfl rfl rfl ?_
            refine WO.pickT rfl rfl rfl rfl rfl ?_
            refine WO.done ?_
            refine At.seq_at ?_
            exact fun a w hc hs => ⟨true, hr, (hc.keep (hc.keep (hc.keep (hc.keep (hc.keep hc.nil (t := 41) rfl) (t := 6) rfl) (t := 5) rfl) (t := 1) rfl) (t := 0) rfl), hs⟩
          · have hr := cond_f hg425 hr
            refine WO.move rfl rfl rfl rfl ?_
            refine WO.bin rfl rfl rfl rfl rfl rfl ?_
            refine WO.pickF rfl rfl rfl rfl rfl ?_
            refine WO.done ?_
            refine At.seq_at ?_
            exact fun a w hc hs => ⟨(decide (p0 > 1048576)), hr, (hc.keep (hc.keep (hc.keep (hc.keep (hc.keep hc.nil (t := 41) rfl) (t := 6) rfl) (t := 5) rfl) (t := 1) rfl) (t := 0) rfl), hs⟩
        · rintro a w ⟨v31, hr, hc, hs⟩
          refine WC.use hc hs ?_
          clear hc hs
          unfold law12_CacheActs_k5 at hr
          refine WC.cond rfl (fun hb32 => ?_) (fun hb32 => ?_)
          · have hr := cond_t hb32 hr
            refine WC.seq (fun a w => law12_CacheActs_k6  = some r ∧ Ctx 255 [(4, .bool false)] a ∧ Sat (Mem.add F χ) ([(b23, row [.int .i64 o13.room, .map (some b24)] 62)] :: p25 :: Φ) w) ?_ ?_
            · refine WC.region [(0, true), (1, true), (2, true), (3, true), (4, true), (5, true), (6, true)] rfl ?_
              refine WO.move rfl rfl rfl rfl ?_
              refine WO.eqNil rfl rfl rfl rfl rfl Try.underlying24 ?_
              refine WO.move rfl rfl rfl rfl ?_
              refine WO.skip rfl rfl rfl rfl ?_
              refine WO.skip rfl rfl rfl rfl ?_
              refine WO.pickF rfl rfl rfl rfl rfl ?_
              refine WO.assign rfl rfl rfl rfl ?_
              refine WO.done ?_
              refine At.seq_at ?_
              exact fun a w hc hs => ⟨hr, (hc.keep hc.nil (t := 4) rfl), hs⟩
            · rintro a w ⟨hr, hc, hs⟩
              refine WC.use hc hs ?_
              clear hc hs
              unfold law12_CacheActs_k6 at hr
              refine WC.ret ?_
              refine At.seq_ret ?_
              obtain rfl := Option.some.inj hr
              exact At.ret (fun a w hc hs => (resVs_cons (hc.res rfl) resVs_nil)) (fun w hs => ⟨rfl, (hs.arrange 1 2 [0] [] (by decide))⟩)
          · have hr := cond_f hb32 hr
            refine WC.skip ?_
            refine At.seq_wc ?_
            refine WC.then ?_
            refine WC.seq (fun a w => law12_CacheActs_k7 p0 v2 x11 o13 = some r ∧ Ctx 255 [(0, .int .i64 p0), (1, .slice a3 v2.length c4), (5, .pointer (some ⟨b23, 0, none⟩)), (53, .bool (x11.2 != 0))] a ∧ Sat (Mem.add F χ) ([(b23, row [.int .i64 o13.room, .map (some b24)] 62)] :: p25 :: Φ) w) ?_ ?_
            · refine WC.region [(0, true), (1, true), (2, true), (3, true), (4, true), (5, true)] rfl ?_
              refine WO.move rfl rfl rfl rfl ?_
              refine WO.eqNil rfl rfl rfl rfl rfl Try.underlying24 ?_
              refine WO.move rfl rfl rfl rfl ?_
              refine WO.move rfl rfl rfl rfl ?_
              refine WO.bin rfl rfl rfl rfl rfl rfl ?_
              refine WO.pickF rfl rfl rfl rfl rfl ?_
              refine WO.done ?_
              refine At.seq_at ?_
              exact fun a w hc hs => ⟨hr, (hc.keep (hc.keep (hc.keep (hc.keep hc.nil (t := 53) rfl) (t := 5) rfl) (t := 1) rfl) (t := 0) rfl), hs⟩
            · rintro a w ⟨hr, hc, hs⟩
              refine WC.use hc hs ?_
              clear hc hs
              unfold law12_CacheActs_k7 at hr
              refine WC.cond rfl (fun hb35 => ?_) (fun hb35 => ?_)
              · have hr := cond_t hb35 hr
                refine WC.then ?_
                refine WC.region [(0, true)] rfl ?_
                refine WO.assign rfl rfl rfl rfl ?_
                refine WO.done ?_
                refine At.seq_wc ?_
                refine WC.ret ?_
                refine At.seq_ret ?_
                obtain rfl := Option.some.inj hr
                exact At.ret (fun a w hc hs => (resVs_cons (hc.res rfl) resVs_nil)) (fun w hs => ⟨rfl, (hs.arrange 1 2 [0] [] (by decide))⟩)
              · have hr := cond_f hb35 hr
                refine WC.skip ?_
                refine At.seq_wc ?_
                refine WC.then ?_
                refine WC.region [(0, true), (1, true), (2, false), (3, true)] rfl ?_
                refine WO.move rfl rfl rfl rfl ?_
                refine WO.build (vs := [.tmp 54]) [0] (.agg (List.toArray [.int .i64 p0, .slice none 0 0])) rfl rfl rfl rfl rfl (fun _ => by kernel_rfl) ?_
                refine WO.box rfl rfl rfl rfl rfl (fun _ _ _ => trivial) (fun b36 => ?_)
                refine WO.assign rfl rfl rfl rfl ?_
                refine WO.done ?_
                refine At.seq_wc ?_
                refine WC.seq (fun a w => ∃ (v39 : S_ref12_Store) (v45 : S_cache_Store) (a40 : Option Addr) (c41 : Nat) (p42 : List Chunk) (b46 : Nat) (p47 : List Chunk) (w38 : List Chunk), law12_CacheActs_k8 v39 v45 = some r ∧ Ctx 255 [(5, .pointer (some ⟨b23, 0, none⟩)), (7, .pointer (some ⟨b36, 0, none⟩))] a ∧ Sat (Mem.add (Mem.add F χ) w38) (p42 :: p47 :: [(b36, row [.int .i64 v39.Room, .slice a40 v39.L.length c41] 52)] :: [(b23, row [.int .i64 v45.room, .map (some b46)] 62)] :: Φ) w ∧ OwnL 5 R_ref12_Row (Mem.add F w38) 56 a40 c41 v39.L p42 ∧ OwnM enc_api_Spot (RVA R_cache_rows) (Mem.add F w38) b46 v45.m p47) ?_ ?_
                · refine WC.then ?_
                  refine WC.region [(0, true)] rfl ?_
                  refine WO.assign rfl rfl rfl rfl ?_
                  refine WO.done ?_
                  refine At.seq_wc ?_
                  obtain ⟨xl13, hl13, hk13⟩ := bind_some' hr
                  refine WC.weaken (fun a w => ∃ (v136 : S_ref12_Store) (v142 : S_cache_Store) (a137 : Option Addr) (c138 : Nat) (p139 : List Chunk) (b143 : Nat) (p144 : List Chunk) (w135 : List Chunk), .brk (v136, v142) = xl13 ∧ Ctx 255 [(5, .pointer (some ⟨b23, 0, none⟩)), (7, .pointer (some ⟨b36, 0, none⟩))] a ∧ Sat (Mem.add (Mem.add F χ) w135) (p139 :: p144 :: [(b36, row [.int .i64 v136.Room, .slice a137 v136.L.length c138] 52)] :: [(b23, row [.int .i64 v142.room, .map (some b143)] 62)] :: Φ) w ∧ OwnL 5 R_ref12_Row (Mem.add F w135) 56 a137 c138 v136.L p139 ∧ OwnM enc_api_Spot (RVA R_cache_rows) (Mem.add F w135) b143 v142.m p144) ?_ ?_
                  · refine WC.block ?_
                    refine WC.loop (fun ⟨v110, v111, v117⟩ a w => ∃ (a112 : Option Addr) (c113 : Nat) (p114 : List Chunk) (b118 : Nat) (p119 : List Chunk) (w109 : List Chunk), Ctx 255 [(0, .int .i64 p0), (1, .slice a3 v2.length c4), (5, .pointer (some ⟨b23, 0, none⟩)), (7, .pointer (some ⟨b36, 0, none⟩)), (8, .int .i64 v110)] a ∧ Sat (Mem.add (Mem.add F χ) w109) (p114 :: p119 :: [(b36, row [.int .i64 v111.Room, .slice a112 v111.L.length c113] 52)] :: [(b23, row [.int .i64 v117.room, .map (some b118)] 62)] :: Φ) w ∧ OwnL 5 R_ref12_Row (Mem.add F w109) 56 a112 c113 v111.L p114 ∧ OwnM enc_api_Spot (RVA R_cache_rows) (Mem.add F w109) b118 v117.m p119) hl13 ?_ ?_
                    · refine At.empty ?_
                      have ho424 : OwnL 5 R_ref12_Row F 56 none 0 ([] : List S_ref12_Row) [] := OwnL.nil
                      exact fun a w hc hs => ⟨none, 0, [], b24, p25, (List.flatten []), (hc.keep (hc.keep (hc.keep (hc.keep (hc.keep hc.nil (t := 8) rfl) (t := 7) rfl) (t := 5) rfl) (t := 1) rfl) (t := 0) rfl), ((hs.arrange 1 4 [0] [1, 4, 2, 3] (by decide)).gather 0), (ho424.mono mono_ref12_Row (Mem.le_gather F 0)), (hm27.mono (monoVA mono_cache_rows) (Mem.le_gather F 0))⟩
                    · rintro ⟨v110, v111, v117⟩ r13 hr a w ⟨a112, c113, p114, b118, p119, w109, hc, hs, ho115, hm120⟩
                      refine WC.use hc hs ?_
                      clear hc hs
                      (try dsimp only at hr)
                      unfold law12_CacheActs_b12 at hr
                      refine WC.then ?_
                      refine WC.then ?_
                      refine WC.region [(0, true), (1, true), (2, true), (3, true)] rfl ?_
                      refine WO.move rfl rfl rfl rfl ?_
                      refine WO.move rfl rfl rfl rfl ?_
                      refine WO.len rfl rfl rfl rfl Try.underlying22 ?_
                      refine WO.bin rfl rfl rfl rfl rfl rfl ?_
                      refine WO.done ?_
                      refine At.seq_wc ?_
                      refine WC.cond rfl (fun hb147 => ?_) (fun hb147 => ?_)
                      · have hr := cond_t hb147 hr
                        refine WC.skip ?_
                        refine At.seq_wc ?_
                        refine WC.seq (fun a w => ∃ (v149 : S_ref12_Store) (v155 : S_cache_Store) (a150 : Option Addr) (c151 : Nat) (p152 : List Chunk) (b156 : Nat) (p157 : List Chunk) (w148 : List Chunk), law12_CacheActs_k14 v110 v149 v155 = some r13 ∧ Ctx 255 [(0, .int .i64 p0), (1, .slice a3 v2.length c4), (5, .pointer (some ⟨b23, 0, none⟩)), (7, .pointer (some ⟨b36, 0, none⟩)), (8, .int .i64 v110)] a ∧ Sat (Mem.add (Mem.add (Mem.add F χ) w109) w148) (p152 :: p157 :: [(b36, row [.int .i64 v149.Room, .slice a150 v149.L.length c151] 52)] :: [(b23, row [.int .i64 v155.room, .map (some b156)] 62)] :: Φ) w ∧ OwnL 5 R_ref12_Row (Mem.add (Mem.add F w109) w148) 56 a150 c151 v149.L p152 ∧ OwnM enc_api_Spot (RVA R_cache_rows) (Mem.add (Mem.add F w109) w148) b156 v155.m p157) ?_ ?_
                        · refine WC.block ?_
                          refine WC.then ?_
                          refine WC.region [(0, true), (1, true), (2, true), (3, false), (4, false), (5, false)] rfl ?_
                          refine WO.move rfl rfl rfl rfl ?_
                          refine WO.move rfl rfl rfl rfl ?_
                          obtain ⟨x160, hx161, hr⟩ := bind_some' hr
                          refine WO.indexR h5 hx161 rfl rfl rfl rfl rfl rfl Try.underlying22 sz_33 ?_
                          rintro b162 o163 _ hc164 ⟨a165, c166, a168, c169, rfl, h167, h170⟩
                          refine WO.loadPAn 0 6 (hc164.mono (Mem.le_pick (Mem.add (Mem.add F χ) w109) 2 [1] (by decide))) rfl rfl rfl rfl rfl ag_33 rfl rfl ?_
                          refine WO.alloc (.agg #[.int .i64 0, .int .i64 0, .int .i64 0, .int .i64 0, .slice none 0 0, .slice none 0 0]) rfl rfl rfl zb_33 rfl (fun _ _ _ => trivial) (fun b171 => ?_)
                          refine WO.storeA 0 6 rfl rfl rfl rfl sz_33 rfl rfl rfl rfl (fun _ _ => trivial) ?_
                          refine WO.done ?_
                          refine At.seq_wc ?_
                          refine WC.then ?_
                          refine WC.seq (fun a w => ∃ (v174 : Bool), law12_CacheActs_k15 p0 v110 v111 v117 x160 v174 = some r13 ∧ Ctx 255 [(0, .int .i64 p0), (1, .slice a3 v2.length c4), (5, .pointer (some ⟨b23, 0, none⟩)), (7, .pointer (some ⟨b36, 0, none⟩)), (8, .int .i64 v110), (9, .pointer (some ⟨b171, 0, none⟩)), (76, .bool v174)] a ∧ Sat (Mem.add (Mem.add F χ) w109) ([(b171, row [.int .i64 x160.Kind, .int .i64 x160.At.Request, .int .i64 x160.At.Layer, .int .i64 x160.At.Place, .slice a165 x160.K.length c166, .slice a168 x160.V.length c169] 33)] :: p114 :: p119 :: [(b36, row [.int .i64 v111.Room, .slice a112 v111.L.length c113] 52)] :: [(b23, row [.int .i64 v117.room, .map (some b118)] 62)] :: Φ) w) ?_ ?_
                          · refine WC.region [(0, true), (1, false), (2, true), (3, true), (4, true), (5, true), (6, false), (7, true), (8, true), (9, true)] rfl ?_
                            refine WO.fieldAddr 4 rfl rfl rfl rfl fl_33_2 ?_
                            refine WO.load 0 rfl rfl rfl rfl sc_31 rfl rfl ?_
                            refine WO.len rfl rfl rfl rfl Try.underlying31 ?_
                            refine WO.bin rfl rfl rfl rfl rfl rfl ?_
                            refine WO.move rfl rfl rfl rfl ?_
                            refine WO.split (t := 71) rfl (fun hg422 => ?_) (fun hg422 => ?_)
                            · have hr := cond_t hg422 hr
                              refine WO.skip rfl rfl rfl rfl ?_
                              refine WO.skipF rfl rfl rfl rfl ?_
                              refine WO.skip rfl rfl rfl rfl ?_
                              refine WO.skip rfl rfl rfl rfl ?_
                              refine WO.pickT rfl rfl rfl rfl rfl ?_
                              refine WO.done ?_
                              refine At.seq_at ?_
                              exact fun a w hc hs => ⟨true, hr, (hc.keep (hc.keep (hc.keep (hc.keep (hc.keep (hc.keep (hc.keep hc.nil (t := 76) rfl) (t := 9) rfl) (t := 8) rfl) (t := 7) rfl) (t := 5) rfl) (t := 1) rfl) (t := 0) rfl), hs⟩
                            · have hr := cond_f hg422 hr
                              refine WO.fieldAddr 5 rfl rfl rfl rfl fl_33_3 ?_
                              refine WO.load 0 rfl rfl rfl rfl sc_31 rfl rfl ?_
                              refine WO.len rfl rfl rfl rfl Try.underlying31 ?_
                              refine WO.bin rfl rfl rfl rfl rfl rfl ?_
                              refine WO.pickF rfl rfl rfl rfl rfl ?_
                              refine WO.done ?_
                              refine At.seq_at ?_
                              exact fun a w hc hs => ⟨(decide ((x160.V.length : Int) > 100)), hr, (hc.keep (hc.keep (hc.keep (hc.keep (hc.keep (hc.keep (hc.keep hc.nil (t := 76) rfl) (t := 9) rfl) (t := 8) rfl) (t := 7) rfl) (t := 5) rfl) (t := 1) rfl) (t := 0) rfl), hs⟩
                          · rintro a w ⟨v174, hr, hc, hs⟩
                            refine WC.use hc hs ?_
                            clear hc hs
                            unfold law12_CacheActs_k15 at hr
                            refine WC.cond rfl (fun hb175 => ?_) (fun hb175 => ?_)
                            · have hr := cond_t hb175 hr
                              refine WC.then ?_
                              refine WC.region [(0, true)] rfl ?_
                              refine WO.assign rfl rfl rfl rfl ?_
                              refine WO.done ?_
                              refine At.seq_wc ?_
                              refine WC.ret ?_
                              refine At.seq_ret ?_
                              refine At.block_ret ?_
                              refine At.seq_ret ?_
                              refine At.round_ret hr (fun hy => ?_)
                              subst hy
                              have hr := hk13
                              refine At.block_ret ?_
                              refine At.seq_ret ?_
                              refine At.seq_ret ?_
                              obtain rfl := Option.some.inj hr
                              exact At.ret (fun a w hc hs => (resVs_cons (hc.res rfl) resVs_nil)) (fun w hs => ⟨rfl, (hs.arrange 2 5 [1] [] (by decide))⟩)
                            · have hr := cond_f hb175 hr
                              refine WC.skip ?_
                              refine At.seq_wc ?_
                              refine WC.seq (fun a w => ∃ (v177 : S_ref12_Store) (v183 : S_cache_Store) (a178 : Option Addr) (c179 : Nat) (p180 : List Chunk) (b184 : Nat) (p185 : List Chunk) (w176 : List Chunk), law12_CacheActs_k16 p0 v110 x160 v177 v183 = some r13 ∧ Ctx 255 [(0, .int .i64 p0), (1, .slice a3 v2.length c4), (5, .pointer (some ⟨b23, 0, none⟩)), (7, .pointer (some ⟨b36, 0, none⟩)), (8, .int .i64 v110), (9, .pointer (some ⟨b171, 0, none⟩))] a ∧ Sat (Mem.add (Mem.add (Mem.add F χ) w109) w176) (p180 :: p185 :: [(b171, row [.int .i64 x160.Kind, .int .i64 x160.At.Request, .int .i64 x160.At.Layer, .int .i64 x160.At.Place, .slice a165 x160.K.length c166, .slice a168 x160.V.length c169] 33)] :: [(b36, row [.int .i64 v177.Room, .slice a178 v177.L.length c179] 52)] :: [(b23, row [.int .i64 v183.room, .map (some b184)] 62)] :: Φ) w ∧ OwnL 5 R_ref12_Row (Mem.add (Mem.add F w109) w176) 56 a178 c179 v177.L p180 ∧ OwnM enc_api_Spot (RVA R_cache_rows) (Mem.add (Mem.add F w109) w176) b184 v183.m p185) ?_ ?_
                              · refine WC.then ?_
                                refine WC.region [(0, true), (1, false)] rfl ?_
                                refine WO.fieldAddr 0 rfl rfl rfl rfl fl_33_0 ?_
                                refine WO.load 0 rfl rfl rfl rfl sc_3 rfl rfl ?_
                                refine WO.done ?_
                                refine At.seq_wc ?_
                                refine WC.block ?_
                                refine WC.then ?_
                                refine WC.region [(0, true), (1, true)] rfl ?_
                                refine WO.bin rfl rfl rfl rfl rfl rfl ?_
                                refine WO.assign rfl rfl rfl rfl ?_
                                refine WO.done ?_
                                refine At.seq_wc ?_
                                refine WC.cond rfl (fun hb298 => ?_) (fun hb298 => ?_)
                                · have hr := cond_t hb298 hr
                                  refine WC.seq (fun a w => ∃ (v300 : List Int) (v306 : List Int) (a301 : Option Addr) (c302 : Nat) (p303 : List Chunk) (a307 : Option Addr) (c308 : Nat) (p309 : List Chunk), law12_CacheActs_k23 p0 v110 v111 v117 x160 v300 v306 = some r13 ∧ Ctx 255 [(0, .int .i64 p0), (1, .slice a3 v2.length c4), (5, .pointer (some ⟨b23, 0, none⟩)), (7, .pointer (some ⟨b36, 0, none⟩)), (8, .int .i64 v110), (9, .pointer (some ⟨b171, 0, none⟩)), (10, .slice a301 v300.length c302), (11, .slice a307 v306.length c308)] a ∧ Sat (Mem.add (Mem.add F χ) w109) (p303 :: p309 :: [(b171, row [.int .i64 x160.Kind, .int .i64 x160.At.Request, .int .i64 x160.At.Layer, .int .i64 x160.At.Place, .slice a165 x160.K.length c166, .slice a168 x160.V.length c169] 33)] :: p114 :: p119 :: [(b36, row [.int .i64 v111.Room, .slice a112 v111.L.length c113] 52)] :: [(b23, row [.int .i64 v117.room, .map (some b118)] 62)] :: Φ) w ∧ OwnL 1 (RInt .i8) F 45 a301 c302 v300 p303 ∧ OwnL 1 (RInt .i8) F 45 a307 c308 v306 p309) ?_ ?_
                                  · refine WC.drawA (Sat (Mem.add (Mem.add F χ) w109) ([(b171, row [.int .i64 x160.Kind, .int .i64 x160.At.Request, .int .i64 x160.At.Layer, .int .i64 x160.At.Place, .slice a165 x160.K.length c166, .slice a168 x160.V.length c169] 33)] :: p119 :: [(b36, row [.int .i64 v111.Room, .slice a112 v111.L.length c113] 52)] :: [(b23, row [.int .i64 v117.room, .map (some b118)] 62)] :: Φ)) (fun _ h => (h.arrange 2 5 [0, 1] [2, 4, 5, 6] (by decide))) mixed rfl ?_
                                    refine WA.lin (fuel := 6) [(1, true), (2, true), (5, true), (6, true)] (by kernel_rfl) (by kernel_rfl) ?_
                                    refine WO.fieldAddr 4 rfl rfl rfl rfl fl_33_2 ?_
                                    refine WO.loadY 0 rfl rfl rfl rfl sc_31 rfl rfl ?_
                                    refine WO.fieldAddr 5 rfl rfl rfl rfl fl_33_3 ?_
                                    refine WO.loadY 0 rfl rfl rfl rfl sc_31 rfl rfl ?_
                                    refine WO.done ?_
                                    refine WA.of ?_
                                    refine WA.two (fuel := 5) 0 4 (by kernel_rfl) ?_ ?_
                                    · refine WO.buildSl (e := 45) (vs := []) [] [] rfl rfl rfl rfl rfl (fun _ => by kernel_rfl) (fun _ _ h => (h.arrange 2 6 [0, 1] [3, 5, 6, 7] (by decide))) (fun b367 => ?_)
                                      refine WO.done ?_
                                      refine WA.of ?_
                                      refine WA.two (fuel := 4) 3 4 (by kernel_rfl) ?_ ?_
                                      · have ho369 : OwnL 1 (RInt .i8) F 45 (some ⟨b367, 0, none⟩) 0 ([] : List Int) [(b367, row [] 45)] := ⟨Nat.le_refl _, .inr ⟨_, [], [], rfl, rfl, Rs.nil, rfl⟩⟩
                                        obtain ⟨x371, hx372, hr⟩ := bind_some' hr
                                        refine WO.append 0 (OwnL.re (G := (Mem.add F χ)) (const_int _) ho369) rfl (SrcL.ofRd Try.underlying31 h167 (Mem.le_pick (Mem.add (Mem.add F χ) w109) 2 [1] (by decide))) hx372 rfl rfl rfl rfl rfl rfl Try.underlying31 el_45 (fun _ _ h => (h.arrange 2 6 [0, 1] [3, 5, 6, 7] (by decide))) (fun a373 c374 p375 ho376 => ?_)
                                        refine WO.done ?_
                                        refine WA.of ?_
                                        refine WA.lin (fuel := 0) [(4, false), (7, false), (8, true), (9, true)] (by kernel_rfl) (by kernel_rfl) ?_
                                        refine WO.buildSl (e := 45) (vs := []) [] [] rfl rfl rfl rfl rfl (fun _ => by kernel_rfl) (fun _ _ h => (h.arrange 2 7 [0, 1] [4, 6, 7, 8] (by decide))) (fun b377 => ?_)
                                        have ho379 : OwnL 1 (RInt .i8) F 45 (some ⟨b377, 0, none⟩) 0 ([] : List Int) [(b377, row [] 45)] := ⟨Nat.le_refl _, .inr ⟨_, [], [], rfl, rfl, Rs.nil, rfl⟩⟩
                                        obtain ⟨x381, hx382, hr⟩ := bind_some' hr
                                        refine WO.append 0 (OwnL.re (G := (Mem.add F χ)) (const_int _) ho379) rfl (SrcL.ofRd Try.underlying31 h170 (Mem.le_pick (Mem.add (Mem.add F χ) w109) 2 [1] (by decide))) hx382 rfl rfl rfl rfl rfl rfl Try.underlying31 el_45 (fun _ _ h => (h.arrange 2 7 [0, 1] [4, 6, 7, 8] (by decide))) (fun a383 c384 p385 ho386 => ?_)
                                        refine WO.assign rfl rfl rfl rfl ?_
                                        refine WO.assign rfl rfl rfl rfl ?_
                                        refine WO.done ?_
                                        refine WA.of ?_
                                        refine WA.done (by kernel_rfl) ?_
                                        refine At.seq_at ?_
                                        exact fun a w hc hs => ⟨x371, x381, a373, c374, p375, a383, c384, p385, hr, (hc.keep (hc.keep (hc.keep (hc.keep (hc.keep (hc.keep (hc.keep (hc.keep hc.nil (t := 11) rfl) (t := 10) rfl) (t := 9) rfl) (t := 8) rfl) (t := 7) rfl) (t := 5) rfl) (t := 1) rfl) (t := 0) rfl), (hs.arrange 2 7 [0, 1] [3, 2, 4, 5, 6, 7, 8] (by decide)), (OwnL.re (G := F) (const_int _) ho376), (OwnL.re (G := F) (const_int _) ho386)⟩
                                      · obtain ⟨x371, hq387, hr⟩ := bind_some' hr
                                        obtain ⟨x381, hq388, hr⟩ := bind_some' hr
                                        have hr : ((app ([] : List Int) x160.K).bind fun x373 => (app ([] : List Int) x160.V).bind fun x381 => law12_CacheActs_k23 p0 v110 v111 v117 x160 x373 x381) = some r13 := (bind_intro hq387 (bind_intro hq388 hr))
                                        refine WO.buildSl (e := 45) (vs := []) [] [] rfl rfl rfl rfl rfl (fun _ => by kernel_rfl) (fun _ _ h => (h.arrange 2 7 [0, 1] [4, 6, 7, 8] (by decide))) (fun b369 => ?_)
                                        refine WO.done ?_
                                        refine WA.of ?_
                                        refine WA.lin (fuel := 0) [(3, false), (7, false), (8, true), (9, true)] (by kernel_rfl) (by kernel_rfl) ?_
                                        have ho371 : OwnL 1 (RInt .i8) F 45 (some ⟨b367, 0, none⟩) 0 ([] : List Int) [(b367, row [] 45)] := ⟨Nat.le_refl _, .inr ⟨_, [], [], rfl, rfl, Rs.nil, rfl⟩⟩
                                        obtain ⟨x373, hx374, hr⟩ := bind_some' hr
                                        refine WO.append 1 (OwnL.re (G := (Mem.add F χ)) (const_int _) ho371) rfl (SrcL.ofRd Try.underlying31 h167 (Mem.le_pick (Mem.add (Mem.add F χ) w109) 2 [1] (by decide))) hx374 rfl rfl rfl rfl rfl rfl Try.underlying31 el_45 (fun _ _ h => (h.arrange 2 7 [0, 1] [4, 6, 7, 8] (by decide))) (fun a375 c376 p377 ho378 => ?_)
                                        have ho379 : OwnL 1 (RInt .i8) F 45 (some ⟨b369, 0, none⟩) 0 ([] : List Int) [(b369, row [] 45)] := ⟨Nat.le_refl _, .inr ⟨_, [], [], rfl, rfl, Rs.nil, rfl⟩⟩
                                        obtain ⟨x381, hx382, hr⟩ := bind_some' hr
                                        refine WO.append 0 (OwnL.re (G := (Mem.add F χ)) (const_int _) ho379) rfl (SrcL.ofRd Try.underlying31 h170 (Mem.le_pick (Mem.add (Mem.add F χ) w109) 2 [1] (by decide))) hx382 rfl rfl rfl rfl rfl rfl Try.underlying31 el_45 (fun _ _ h => (h.arrange 2 7 [0, 1] [4, 6, 7, 8] (by decide))) (fun a383 c384 p385 ho386 => ?_)
                                        refine WO.assign rfl rfl rfl rfl ?_
                                        refine WO.assign rfl rfl rfl rfl ?_
                                        refine WO.done ?_
                                        refine WA.of ?_
                                        refine WA.done (by kernel_rfl) ?_
                                        refine At.seq_at ?_
                                        exact fun a w hc hs => ⟨x373, x381, a375, c376, p377, a383, c384, p385, hr, (hc.keep (hc.keep (hc.keep (hc.keep (hc.keep (hc.keep (hc.keep (hc.keep hc.nil (t := 11) rfl) (t := 10) rfl) (t := 9) rfl) (t := 8) rfl) (t := 7) rfl) (t := 5) rfl) (t := 1) rfl) (t := 0) rfl), (hs.arrange 2 7 [0, 1] [3, 2, 4, 5, 6, 7, 8] (by decide)), (OwnL.re (G := F) (const_int _) ho378), (OwnL.re (G := F) (const_int _) ho386)⟩
                                    · obtain ⟨x371, hq389, hr⟩ := bind_some' hr
                                      obtain ⟨x381, hq390, hr⟩ := bind_some' hr
                                      have hr : ((app ([] : List Int) x160.K).bind fun x373 => (app ([] : List Int) x160.V).bind fun x381 => law12_CacheActs_k23 p0 v110 v111 v117 x160 x373 x381) = some r13 := (bind_intro hq389 (bind_intro hq390 hr))
                                      refine WO.buildSl (e := 45) (vs := []) [] [] rfl rfl rfl rfl rfl (fun _ => by kernel_rfl) (fun _ _ h => (h.arrange 2 6 [0, 1] [3, 5, 6, 7] (by decide))) (fun b367 => ?_)
                                      refine WO.done ?_
                                      refine WA.of ?_
                                      refine WA.lin (fuel := 0) [(0, false), (3, false), (7, false), (8, true), (9, true)] (by kernel_rfl) (by kernel_rfl) ?_
                                      refine WO.buildSl (e := 45) (vs := []) [] [] rfl rfl rfl rfl rfl (fun _ => by kernel_rfl) (fun _ _ h => (h.arrange 2 7 [0, 1] [4, 6, 7, 8] (by decide))) (fun b369 => ?_)
                                      have ho371 : OwnL 1 (RInt .i8) F 45 (some ⟨b369, 0, none⟩) 0 ([] : List Int) [(b369, row [] 45)] := ⟨Nat.le_refl _, .inr ⟨_, [], [], rfl, rfl, Rs.nil, rfl⟩⟩
                                      obtain ⟨x373, hx374, hr⟩ := bind_some' hr
                                      refine WO.append 0 (OwnL.re (G := (Mem.add F χ)) (const_int _) ho371) rfl (SrcL.ofRd Try.underlying31 h167 (Mem.le_pick (Mem.add (Mem.add F χ) w109) 2 [1] (by decide))) hx374 rfl rfl rfl rfl rfl rfl Try.underlying31 el_45 (fun _ _ h => (h.arrange 2 7 [0, 1] [4, 6, 7, 8] (by decide))) (fun a375 c376 p377 ho378 => ?_)
                                      have ho379 : OwnL 1 (RInt .i8) F 45 (some ⟨b367, 0, none⟩) 0 ([] : List Int) [(b367, row [] 45)] := ⟨Nat.le_refl _, .inr ⟨_, [], [], rfl, rfl, Rs.nil, rfl⟩⟩
                                      obtain ⟨x381, hx382, hr⟩ := bind_some' hr
                                      refine WO.append 1 (OwnL.re (G := (Mem.add F χ)) (const_int _) ho379) rfl (SrcL.ofRd Try.underlying31 h170 (Mem.le_pick (Mem.add (Mem.add F χ) w109) 2 [1] (by decide))) hx382 rfl rfl rfl rfl rfl rfl Try.underlying31 el_45 (fun _ _ h => (h.arrange 2 7 [0, 1] [4, 6, 7, 8] (by decide))) (fun a383 c384 p385 ho386 => ?_)
                                      refine WO.assign rfl rfl rfl rfl ?_
                                      refine WO.assign rfl rfl rfl rfl ?_
                                      refine WO.done ?_
                                      refine WA.of ?_
                                      refine WA.done (by kernel_rfl) ?_
                                      refine At.seq_at ?_
                                      exact fun a w hc hs => ⟨x373, x381, a375, c376, p377, a383, c384, p385, hr, (hc.keep (hc.keep (hc.keep (hc.keep (hc.keep (hc.keep (hc.keep (hc.keep hc.nil (t := 11) rfl) (t := 10) rfl) (t := 9) rfl) (t := 8) rfl) (t := 7) rfl) (t := 5) rfl) (t := 1) rfl) (t := 0) rfl), hs, (OwnL.re (G := F) (const_int _) ho378), (OwnL.re (G := F) (const_int _) ho386)⟩
                                  · rintro a w ⟨v300, v306, a301, c302, p303, a307, c308, p309, hr, hc, hs, ho304, ho310⟩
                                    refine WC.use hc hs ?_
                                    clear hc hs
                                    unfold law12_CacheActs_k23 at hr
                                    refine WC.then ?_
                                    refine WC.then ?_
                                    refine WC.draw (Sat (Mem.add (Mem.add F χ) w109) ([(b171, row [.int .i64 x160.Kind, .int .i64 x160.At.Request, .int .i64 x160.At.Layer, .int .i64 x160.At.Place, .slice a165 x160.K.length c166, .slice a168 x160.V.length c169] 33)] :: Φ)) (fun _ h => (h.arrange 2 7 [0, 1] [4] (by decide))) [(0, true), (1, true), (2, true), (3, true), (4, true), (6, true), (7, true), (8, true), (9, true), (10, true), (11, true), (12, true), (5, false), (13, false), (14, true)] mixed (by kernel_rfl) rfl (by kernel_rfl) ?_
                                    refine WO.move rfl rfl rfl rfl ?_
                                    refine WO.fieldAddr 1 rfl rfl rfl rfl fl_33_1 ?_
                                    refine WO.loadAY 0 3 rfl rfl rfl rfl ag_30 rfl rfl rfl ?_
                                    refine WO.move rfl rfl rfl rfl ?_
                                    refine WO.move rfl rfl rfl rfl ?_
                                    refine WO.move rfl rfl rfl rfl ?_
                                    refine WO.fieldAddr 1 rfl rfl rfl rfl fl_33_1 ?_
                                    refine WO.loadAY 0 3 rfl rfl rfl rfl ag_30 rfl rfl rfl ?_
                                    refine WO.fieldAddr 4 rfl rfl rfl rfl fl_33_2 ?_
                                    refine WO.loadY 0 rfl rfl rfl rfl sc_31 rfl rfl ?_
                                    refine WO.fieldAddr 5 rfl rfl rfl rfl fl_33_3 ?_
                                    refine WO.loadY 0 rfl rfl rfl rfl sc_31 rfl rfl ?_
                                    obtain ⟨x312, hx313, hr⟩ := bind_some' hr
                                    refine WO.call rfl rfl rfl rfl rfl cl_10 (CallsRet.lay 2 7 2 [3, 2, 0] [8, 6, 1, 4, 5, 7] (by decide) (Mem.add (Mem.add F w109) (List.flatten [p309, p303])) ([(b23, row [.int .i64 v117.room, .map (some b118)] 62)] :: p119 :: χ :: [(b171, row [.int .i64 x160.Kind, .int .i64 x160.At.Request, .int .i64 x160.At.Layer, .int .i64 x160.At.Place, .slice a165 x160.K.length c166, .slice a168 x160.V.length c169] 33)] :: p114 :: [(b36, row [.int .i64 v111.Room, .slice a112 v111.L.length c113] 52)] :: Φ) rfl rfl (cache_Store_Put_vm_ok (F := (Mem.add F w109)) (χ := (List.flatten [p309, p303])) hm120 rfl (((OwnL.re (G := F) (const_int _) ho304).rd (mono_int _)).mono (mono_int _) (Mem.le.trans (Mem.le_pick (Mem.add (Mem.add (Mem.add F w109) p303) p309) 3 [1] (by decide)) (Mem.le_gather (Mem.add (Mem.add (Mem.add F w109) p303) p309) 2))) (((OwnL.re (G := F) (const_int _) ho310).rd (mono_int _)).mono (mono_int _) (Mem.le.trans (Mem.le_pick (Mem.add (Mem.add (Mem.add F w109) p303) p309) 3 [0] (by decide)) (Mem.le_gather (Mem.add (Mem.add (Mem.add F w109) p303) p309) 2))) hx313 (χ :: [(b171, row [.int .i64 x160.Kind, .int .i64 x160.At.Request, .int .i64 x160.At.Layer, .int .i64 x160.At.Place, .slice a165 x160.K.length c166, .slice a168 x160.V.length c169] 33)] :: p114 :: [(b36, row [.int .i64 v111.Room, .slice a112 v111.L.length c113] 52)] :: Φ))) ?_
                                    rintro _ _ ⟨q314, b315, p316, rfl, hs319, hm318⟩
                                    have hs319 := Sat.unlay1 (Mem.add F w109) [p309, p303] _ hs319
                                    have hs319 := (hs319.arrange 4 6 [0, 3, 6] [5, 2, 1, 7, 8, 9, 4] (by decide))
                                    refine ⟨(Mem.add (Mem.add (Mem.add F χ) w109) q314), (p316 :: p303 :: p309 :: [(b171, row [.int .i64 x160.Kind, .int .i64 x160.At.Request, .int .i64 x160.At.Layer, .int .i64 x160.At.Place, .slice a165 x160.K.length c166, .slice a168 x160.V.length c169] 33)] :: p114 :: [(b36, row [.int .i64 v111.Room, .slice a112 v111.L.length c113] 52)] :: [(b23, row [.int .i64 x312.2.room, .map (some b315)] 62)] :: Φ), hs319, (hs319.arrange 3 7 [1, 2] [6] (by decide)), ?_⟩
                                    obtain ⟨x320, hx321, hr⟩ := bind_some' hr
                                    refine WO.call rfl rfl rfl rfl rfl cl_16 (CallsRet.lay 3 7 1 [2, 1] [8, 7, 0, 3, 4, 5, 6, 9] (by decide) (Mem.add (Mem.add F w109) (List.flatten [χ])) ([(b36, row [.int .i64 v111.Room, .slice a112 v111.L.length c113] 52)] :: p114 :: q314 :: p316 :: p303 :: p309 :: [(b171, row [.int .i64 x160.Kind, .int .i64 x160.At.Request, .int .i64 x160.At.Layer, .int .i64 x160.At.Place, .slice a165 x160.K.length c166, .slice a168 x160.V.length c169] 33)] :: [(b23, row [.int .i64 x312.2.room, .map (some b315)] 62)] :: Φ) rfl rfl (ref12_Store_Put_vo_ok (F := (Mem.add F w109)) (χ := (List.flatten [χ])) ho115 rfl (h167.mono (mono_int _) (Mem.le.trans (Mem.le_pick (Mem.add (Mem.add F w109) χ) 2 [0] (by decide)) (Mem.le_gather (Mem.add (Mem.add F w109) χ) 1))) (h170.mono (mono_int _) (Mem.le.trans (Mem.le_pick (Mem.add (Mem.add F w109) χ) 2 [0] (by decide)) (Mem.le_gather (Mem.add (Mem.add F w109) χ) 1))) hx321 (q314 :: p316 :: p303 :: p309 :: [(b171, row [.int .i64 x160.Kind, .int .i64 x160.At.Request, .int .i64 x160.At.Layer, .int .i64 x160.At.Place, .slice a165 x160.K.length c166, .slice a168 x160.V.length c169] 33)] :: [(b23, row [.int .i64 x312.2.room, .map (some b315)] 62)] :: Φ))) ?_
                                    rintro _ _ ⟨q322, a323, c324, p326, rfl, hs328, h325⟩
                                    have hs328 := Sat.unlay1 (Mem.add F w109) [χ] _ hs328
                                    have hs328 := (hs328.arrange 3 8 [0, 5, 2, 1] [4, 6, 7, 8, 9, 3, 10] (by decide))
                                    refine ⟨(Mem.add (Mem.add (Mem.add (Mem.add F χ) w109) q314) q322), (p326 :: p316 :: p303 :: p309 :: [(b171, row [.int .i64 x160.Kind, .int .i64 x160.At.Request, .int .i64 x160.At.Layer, .int .i64 x160.At.Place, .slice a165 x160.K.length c166, .slice a168 x160.V.length c169] 33)] :: [(b36, row [.int .i64 x320.2.Room, .slice a323 x320.2.L.length c324] 52)] :: [(b23, row [.int .i64 x312.2.room, .map (some b315)] 62)] :: Φ), hs328, (hs328.arrange 4 7 [2, 3] [8] (by decide)), ?_⟩
                                    refine WO.bin rfl rfl rfl rfl rfl rfl ?_
                                    refine WO.done ?_
                                    refine At.seq_wc ?_
                                    refine WC.cond rfl (fun hb329 => ?_) (fun hb329 => ?_)
                                    · have hr := cond_t hb329 hr
                                      refine WC.then ?_
                                      refine WC.region [(0, true)] rfl ?_
                                      refine WO.assign rfl rfl rfl rfl ?_
                                      refine WO.done ?_
                                      refine At.seq_wc ?_
                                      refine WC.ret ?_
                                      refine At.seq_ret ?_
                                      refine At.block_ret ?_
                                      refine At.seq_ret ?_
                                      refine At.block_ret ?_
                                      refine At.seq_ret ?_
                                      refine At.round_ret hr (fun hy => ?_)
                                      subst hy
                                      have hr := hk13
                                      refine At.block_ret ?_
                                      refine At.seq_ret ?_
                                      refine At.seq_ret ?_
                                      obtain rfl := Option.some.inj hr
                                      exact At.ret (fun a w hc hs => (resVs_cons (hc.res rfl) resVs_nil)) (fun w hs => ⟨rfl, (hs.arrange 4 7 [3] [] (by decide))⟩)
                                    · have hr := cond_f hb329 hr
                                      refine WC.skip ?_
                                      refine At.seq_wc ?_
                                      refine WC.then ?_
                                      refine WC.region [(0, true)] rfl ?_
                                      refine WO.assign rfl rfl rfl rfl ?_
                                      refine WO.done ?_
                                      refine At.seq_wc ?_
                                      obtain ⟨xl25, hl25, hk25⟩ := bind_some' hr
                                      refine WC.weaken (fun a w => () = xl25 ∧ Ctx 255 [(0, .int .i64 p0), (1, .slice a3 v2.length c4), (5, .pointer (some ⟨b23, 0, none⟩)), (7, .pointer (some ⟨b36, 0, none⟩)), (8, .int .i64 v110), (9, .pointer (some ⟨b171, 0, none⟩))] a ∧ Sat (Mem.add (Mem.add (Mem.add (Mem.add F χ) w109) q314) q322) (p326 :: p316 :: p309 :: [(b171, row [.int .i64 x160.Kind, .int .i64 x160.At.Request, .int .i64 x160.At.Layer, .int .i64 x160.At.Place, .slice a165 x160.K.length c166, .slice a168 x160.V.length c169] 33)] :: [(b36, row [.int .i64 x320.2.Room, .slice a323 x320.2.L.length c324] 52)] :: [(b23, row [.int .i64 x312.2.room, .map (some b315)] 62)] :: Φ) w) ?_ ?_
                                      · refine WC.block ?_
                                        refine WC.loop (fun ⟨v340, v346⟩ a w => ∃ (a341 : Option Addr) (c342 : Nat) (p343 : List Chunk), Ctx 255 [(0, .int .i64 p0), (1, .slice a3 v2.length c4), (5, .pointer (some ⟨b23, 0, none⟩)), (7, .pointer (some ⟨b36, 0, none⟩)), (8, .int .i64 v110), (9, .pointer (some ⟨b171, 0, none⟩)), (10, .slice a341 v340.length c342), (12, .int .i64 v346)] a ∧ Sat (Mem.add (Mem.add (Mem.add (Mem.add F χ) w109) q314) q322) (p343 :: p326 :: p316 :: p309 :: [(b171, row [.int .i64 x160.Kind, .int .i64 x160.At.Request, .int .i64 x160.At.Layer, .int .i64 x160.At.Place, .slice a165 x160.K.length c166, .slice a168 x160.V.length c169] 33)] :: [(b36, row [.int .i64 x320.2.Room, .slice a323 x320.2.L.length c324] 52)] :: [(b23, row [.int .i64 x312.2.room, .map (some b315)] 62)] :: Φ) w ∧ OwnL 1 (RInt .i8) F 45 a341 c342 v340 p343) hl25 ?_ ?_
                                        · exact fun a w hc hs => ⟨a301, c302, p303, (hc.keep (hc.keep (hc.keep (hc.keep (hc.keep (hc.keep (hc.keep (hc.keep hc.nil (t := 12) rfl) (t := 10) rfl) (t := 9) rfl) (t := 8) rfl) (t := 7) rfl) (t := 5) rfl) (t := 1) rfl) (t := 0) rfl), (hs.arrange 4 7 [0, 1, 2, 3] [6, 4, 5, 7, 8, 9, 10] (by decide)), (OwnL.re (G := F) (const_int _) ho304)⟩
                                        · rintro ⟨v340, v346⟩ r25 hr a w ⟨a341, c342, p343, hc, hs, ho344⟩
                                          refine WC.use hc hs ?_
                                          clear hc hs
                                          (try dsimp only at hr)
                                          unfold law12_CacheActs_b24 at hr
                                          refine WC.then ?_
                                          refine WC.then ?_
                                          refine WC.region [(0, true), (1, true), (2, true), (3, true)] rfl ?_
                                          refine WO.move rfl rfl rfl rfl ?_
                                          refine WO.move rfl rfl rfl rfl ?_
                                          refine WO.len rfl rfl rfl rfl Try.underlying31 ?_
                                          refine WO.bin rfl rfl rfl rfl rfl rfl ?_
                                          refine WO.done ?_
                                          refine At.seq_wc ?_
                                          refine WC.cond rfl (fun hb356 => ?_) (fun hb356 => ?_)
                                          · have hr := cond_t hb356 hr
                                            refine WC.skip ?_
                                            refine At.seq_wc ?_
                                            refine WC.then ?_
                                            refine WC.block ?_
                                            refine WC.region [(0, true), (1, true), (2, true), (3, false), (4, true), (5, true), (6, false)] rfl ?_
                                            refine WO.move rfl rfl rfl rfl ?_
                                            refine WO.move rfl rfl rfl rfl ?_
                                            obtain ⟨x357, hx358, hr⟩ := bind_some' hr
                                            refine WO.indexO ho344 hx358 rfl rfl rfl rfl rfl rfl Try.underlying31 sz_45 (fun b359 hb360 => ?_)
                                            subst hb360
                                            refine WO.loadO 0 ho344 hx358 rfl rfl rfl rfl rfl sc_45 ?_
                                            refine WO.bin rfl rfl rfl rfl rfl rfl ?_
                                            obtain ⟨x361, hx362, hr⟩ := bind_some' hr
                                            refine WO.indexO ho344 hx362 rfl rfl rfl rfl rfl rfl Try.underlying31 sz_45 (fun b363 hb364 => ?_)
                                            obtain rfl : b359 = b363 := by cases hb364; rfl
                                            refine WO.storeO 0 ho344 hx362 rfl rfl rfl rfl rfl sz_45 (fun _ _ _ => trivial) (fun p365 ho366 => ?_)
                                            refine WO.relen 10 (k' := (List.set v340 (Int.toNat v346) (IntKind.wrap .i8 (x357 + 1))).length) rfl (List.length_set ..).symm ?_
                                            refine WO.relen 105 (k' := (List.set v340 (Int.toNat v346) (IntKind.wrap .i8 (x357 + 1))).length) rfl (List.length_set ..).symm ?_
                                            refine WO.relen 110 (k' := (List.set v340 (Int.toNat v346) (IntKind.wrap .i8 (x357 + 1))).length) rfl (List.length_set ..).symm ?_
                                            refine WO.done ?_
                                            refine At.block_normal ?_
                                            refine At.seq_wc ?_
                                            refine WC.region [(0, true), (1, true), (2, true)] rfl ?_
                                            refine WO.move rfl rfl rfl rfl ?_
                                            refine WO.bin rfl rfl rfl rfl rfl rfl ?_
                                            refine WO.assign rfl rfl rfl rfl ?_
                                            refine WO.done ?_
                                            refine At.round_next hr ?_
                                            exact fun a w hc hs => ⟨(some ⟨b359, 0, none⟩), c342, p365, (hc.keep (hc.keep (hc.keep (hc.keep (hc.keep (hc.keep (hc.keep (hc.keep hc.nil (t := 12) rfl) (t := 10) rfl) (t := 9) rfl) (t := 8) rfl) (t := 7) rfl) (t := 5) rfl) (t := 1) rfl) (t := 0) rfl), hs, (OwnL.re (G := F) (const_int _) ho366)⟩
                                          · have hr := cond_f hb356 hr
                                            refine WC.exit ?_
                                            refine At.seq_exit ?_
                                            refine At.round_exit hr (fun hy => ?_)
                                            refine At.exit_block ?_
                                            refine At.seq_at ?_
                                            exact fun a w hc hs => ⟨hy, (hc.keep (hc.keep (hc.keep (hc.keep (hc.keep (hc.keep hc.nil (t := 9) rfl) (t := 8) rfl) (t := 7) rfl) (t := 5) rfl) (t := 1) rfl) (t := 0) rfl), (hs.arrange 4 7 [0, 1, 2, 3] [5, 6, 7, 8, 9, 10] (by decide))⟩
                                      · rintro a w ⟨rfl, hc, hs⟩
                                        refine At.use hc hs ?_
                                        clear hc hs
                                        (try dsimp only at hk25)
                                        have hr := hk25
                                        refine At.block_normal ?_
                                        refine At.seq_at ?_
                                        exact fun a w hc hs => ⟨x320.2, x312.2, a323, c324, p326, b315, p316, (List.flatten [q322, q314]), hr, (hc.keep (hc.keep (hc.keep (hc.keep (hc.keep (hc.keep hc.nil (t := 9) rfl) (t := 8) rfl) (t := 7) rfl) (t := 5) rfl) (t := 1) rfl) (t := 0) rfl), ((hs.arrange 4 6 [0, 1, 2, 3] [4, 5, 7, 8, 9] (by decide)).gather 2), (h325.mono mono_ref12_Row (Mem.le.trans (Mem.le_pick (Mem.add (Mem.add (Mem.add F w109) q314) q322) 3 [0, 2] (by decide)) (Mem.le_gather (Mem.add (Mem.add (Mem.add F w109) q314) q322) 2))), (hm318.mono (monoVA mono_cache_rows) (Mem.le.trans (Mem.le_pick (Mem.add (Mem.add (Mem.add F w109) q314) q322) 3 [1, 2] (by decide)) (Mem.le_gather (Mem.add (Mem.add (Mem.add F w109) q314) q322) 2)))⟩
                                · have hr := cond_f hb298 hr
                                  refine WC.then ?_
                                  refine WC.region [(0, true), (1, true)] rfl ?_
                                  refine WO.bin rfl rfl rfl rfl rfl rfl ?_
                                  refine WO.assign rfl rfl rfl rfl ?_
                                  refine WO.done ?_
                                  refine At.seq_wc ?_
                                  refine WC.cond rfl (fun hb391 => ?_) (fun hb391 => ?_)
                                  · have hr := cond_t hb391 hr
                                    refine WC.then ?_
                                    refine WC.draw (Sat (Mem.add (Mem.add F χ) w109) ([(b171, row [.int .i64 x160.Kind, .int .i64 x160.At.Request, .int .i64 x160.At.Layer, .int .i64 x160.At.Place, .slice a165 x160.K.length c166, .slice a168 x160.V.length c169] 33)] :: Φ)) (fun _ h => (h.arrange 2 5 [0, 1] [2] (by decide))) [(0, true), (1, true), (2, true), (3, true), (6, true), (7, true), (8, true), (9, true), (4, false), (5, false), (10, false), (11, true)] mixed (by kernel_rfl) rfl (by kernel_rfl) ?_
                                    refine WO.move rfl rfl rfl rfl ?_
                                    refine WO.fieldAddr 1 rfl rfl rfl rfl fl_33_1 ?_
                                    refine WO.fieldAddr 0 rfl rfl rfl rfl fl_30_0 ?_
                                    refine WO.loadY 0 rfl rfl rfl rfl sc_3 rfl rfl ?_
                                    refine WO.move rfl rfl rfl rfl ?_
                                    refine WO.fieldAddr 1 rfl rfl rfl rfl fl_33_1 ?_
                                    refine WO.fieldAddr 0 rfl rfl rfl rfl fl_30_0 ?_
                                    refine WO.loadY 0 rfl rfl rfl rfl sc_3 rfl rfl ?_
                                    refine WO.buildSl (e := 3) (vs := [.tmp 121]) [0] [.int .i64 x160.At.Request] rfl rfl rfl rfl rfl (fun _ => by kernel_rfl) (fun _ _ h => (h.arrange 2 6 [0, 1] [3] (by decide))) (fun b392 => ?_)
                                    have ho394 : OwnL 1 (RInt .i64) F 3 (some ⟨b392, 0, none⟩) 1 [x160.At.Request] [(b392, row [.int .i64 x160.At.Request] 3)] := ⟨Nat.le_refl _, .inr ⟨_, [[.int .i64 x160.At.Request]], [], rfl, rfl, (Rs.cons (x := x160.At.Request) (cs := [.int .i64 x160.At.Request]) rfl rfl rfl Rs.nil), rfl⟩⟩
                                    obtain ⟨x396, hx397, hr⟩ := bind_some' hr
                                    refine WO.call rfl rfl rfl rfl rfl cl_9 (CallsRet.lay 2 6 1 [2, 0] [7, 5, 1, 3, 4, 6] (by decide) (Mem.add (Mem.add F w109) (List.flatten [[(b392, row [.int .i64 x160.At.Request] 3)]])) ([(b23, row [.int .i64 v117.room, .map (some b118)] 62)] :: p119 :: χ :: [(b171, row [.int .i64 x160.Kind, .int .i64 x160.At.Request, .int .i64 x160.At.Layer, .int .i64 x160.At.Place, .slice a165 x160.K.length c166, .slice a168 x160.V.length c169] 33)] :: p114 :: [(b36, row [.int .i64 v111.Room, .slice a112 v111.L.length c113] 52)] :: Φ) rfl rfl (cache_Store_Drop_vm_ok (F := (Mem.add F w109)) (χ := (List.flatten [[(b392, row [.int .i64 x160.At.Request] 3)]])) hm120 (((OwnL.re (G := F) (const_int _) ho394).rd (mono_int _)).mono (mono_int _) (Mem.le.trans (Mem.le_pick (Mem.add (Mem.add F w109) [(b392, row [.int .i64 x160.At.Request] 3)]) 2 [0] (by decide)) (Mem.le_gather (Mem.add (Mem.add F w109) [(b392, row [.int .i64 x160.At.Request] 3)]) 1))) hx397 (χ :: [(b171, row [.int .i64 x160.Kind, .int .i64 x160.At.Request, .int .i64 x160.At.Layer, .int .i64 x160.At.Place, .slice a165 x160.K.length c166, .slice a168 x160.V.length c169] 33)] :: p114 :: [(b36, row [.int .i64 v111.Room, .slice a112 v111.L.length c113] 52)] :: Φ))) ?_
                                    rintro _ _ ⟨b398, p399, rfl, hs402, hm401⟩
                                    have hs402 := Sat.unlay (Mem.add F w109) [[(b392, row [.int .i64 x160.At.Request] 3)]] hs402
                                    have hs402 := (hs402.arrange 2 6 [1, 4] [3, 0, 5, 6, 7, 2] (by decide))
                                    refine ⟨(Mem.add (Mem.add F χ) w109), (p399 :: [(b392, row [.int .i64 x160.At.Request] 3)] :: [(b171, row [.int .i64 x160.Kind, .int .i64 x160.At.Request, .int .i64 x160.At.Layer, .int .i64 x160.At.Place, .slice a165 x160.K.length c166, .slice a168 x160.V.length c169] 33)] :: p114 :: [(b36, row [.int .i64 v111.Room, .slice a112 v111.L.length c113] 52)] :: [(b23, row [.int .i64 x396.2.room, .map (some b398)] 62)] :: Φ), hs402, (hs402.arrange 2 6 [0, 1] [4] (by decide)), ?_⟩
                                    obtain ⟨x403, hx404, hr⟩ := bind_some' hr
                                    refine WO.call rfl rfl rfl rfl rfl cl_17 (CallsRet.lay0 2 6 [0] [6, 5, 1, 2, 3, 4, 7] (by decide) (Mem.add F w109) ([(b36, row [.int .i64 v111.Room, .slice a112 v111.L.length c113] 52)] :: p114 :: χ :: p399 :: [(b392, row [.int .i64 x160.At.Request] 3)] :: [(b171, row [.int .i64 x160.Kind, .int .i64 x160.At.Request, .int .i64 x160.At.Layer, .int .i64 x160.At.Place, .slice a165 x160.K.length c166, .slice a168 x160.V.length c169] 33)] :: [(b23, row [.int .i64 x396.2.room, .map (some b398)] 62)] :: Φ) rfl rfl (ref12_Store_Drop_vo_ok (F := (Mem.add F w109)) ho115 hx404 (χ :: p399 :: [(b392, row [.int .i64 x160.At.Request] 3)] :: [(b171, row [.int .i64 x160.Kind, .int .i64 x160.At.Request, .int .i64 x160.At.Layer, .int .i64 x160.At.Place, .slice a165 x160.K.length c166, .slice a168 x160.V.length c169] 33)] :: [(b23, row [.int .i64 x396.2.room, .map (some b398)] 62)] :: Φ))) ?_
                                    rintro _ _ ⟨a405, c406, p408, rfl, hs410, h407⟩
                                    have hs410 := (hs410.arrange 1 7 [0, 3] [2, 4, 5, 6, 1, 7] (by decide))
                                    refine ⟨(Mem.add (Mem.add F χ) w109), (p408 :: p399 :: [(b392, row [.int .i64 x160.At.Request] 3)] :: [(b171, row [.int .i64 x160.Kind, .int .i64 x160.At.Request, .int .i64 x160.At.Layer, .int .i64 x160.At.Place, .slice a165 x160.K.length c166, .slice a168 x160.V.length c169] 33)] :: [(b36, row [.int .i64 x403.2.Room, .slice a405 x403.2.L.length c406] 52)] :: [(b23, row [.int .i64 x396.2.room, .map (some b398)] 62)] :: Φ), hs410, (hs410.arrange 2 6 [0, 1] [5] (by decide)), ?_⟩
                                    refine WO.bin rfl rfl rfl rfl rfl rfl ?_
                                    refine WO.done ?_
                                    refine At.seq_wc ?_
                                    refine WC.cond rfl (fun hb411 => ?_) (fun hb411 => ?_)
                                    · have hr := cond_t hb411 hr
                                      refine WC.then ?_
                                      refine WC.region [(0, true)] rfl ?_
                                      refine WO.assign rfl rfl rfl rfl ?_
                                      refine WO.done ?_
                                      refine At.seq_wc ?_
                                      refine WC.ret ?_
                                      refine At.block_ret ?_
                                      refine At.seq_ret ?_
                                      refine At.block_ret ?_
                                      refine At.seq_ret ?_
                                      refine At.round_ret hr (fun hy => ?_)
                                      subst hy
                                      have hr := hk13
                                      refine At.block_ret ?_
                                      refine At.seq_ret ?_
                                      refine At.seq_ret ?_
                                      obtain rfl := Option.some.inj hr
                                      exact At.ret (fun a w hc hs => (resVs_cons (hc.res rfl) resVs_nil)) (fun w hs => ⟨rfl, (hs.arrange 2 6 [1] [] (by decide))⟩)
                                    · have hr := cond_f hb411 hr
                                      refine WC.skip ?_
                                      refine At.block_normal ?_
                                      refine At.seq_at ?_
                                      exact fun a w hc hs => ⟨x403.2, x396.2, a405, c406, p408, b398, p399, (List.flatten []), hr, (hc.keep (hc.keep (hc.keep (hc.keep (hc.keep (hc.keep hc.nil (t := 9) rfl) (t := 8) rfl) (t := 7) rfl) (t := 5) rfl) (t := 1) rfl) (t := 0) rfl), ((hs.arrange 2 6 [0, 1] [2, 3, 5, 6, 7] (by decide)).gather 0), (h407.mono mono_ref12_Row (Mem.le_gather (Mem.add F w109) 0)), (hm401.mono (monoVA mono_cache_rows) (Mem.le_gather (Mem.add F w109) 0))⟩
                                  · have hr := cond_f hb391 hr
                                    refine WC.then ?_
                                    refine WC.region [(0, true), (1, true)] rfl ?_
                                    refine WO.bin rfl rfl rfl rfl rfl rfl ?_
                                    refine WO.assign rfl rfl rfl rfl ?_
                                    refine WO.done ?_
                                    refine At.seq_wc ?_
                                    refine WC.cond rfl (fun hb412 => ?_) (fun hb412 => ?_)
                                    · have hr := cond_t hb412 hr
                                      refine WC.then ?_
                                      refine WC.region [(0, true), (1, false)] rfl ?_
                                      refine WO.move rfl rfl rfl rfl ?_
                                      obtain ⟨x413, hx414, hr⟩ := bind_some' hr
                                      refine WO.call rfl rfl rfl rfl rfl cl_18 (CallsRet.lay0 2 5 [0] [6, 4, 1, 2, 3, 5] (by decide) (Mem.add F w109) ([(b23, row [.int .i64 v117.room, .map (some b118)] 62)] :: p119 :: χ :: [(b171, row [.int .i64 x160.Kind, .int .i64 x160.At.Request, .int .i64 x160.At.Layer, .int .i64 x160.At.Place, .slice a165 x160.K.length c166, .slice a168 x160.V.length c169] 33)] :: p114 :: [(b36, row [.int .i64 v111.Room, .slice a112 v111.L.length c113] 52)] :: Φ) rfl rfl (cache_Store_Clear_vm_ok (F := (Mem.add F w109)) hm120 hx414 (χ :: [(b171, row [.int .i64 x160.Kind, .int .i64 x160.At.Request, .int .i64 x160.At.Layer, .int .i64 x160.At.Place, .slice a165 x160.K.length c166, .slice a168 x160.V.length c169] 33)] :: p114 :: [(b36, row [.int .i64 v111.Room, .slice a112 v111.L.length c113] 52)] :: Φ))) ?_
                                      rintro _ _ ⟨b415, p416, rfl, hs419, hm418⟩
                                      have hs419 := (hs419.arrange 1 6 [0, 3] [2, 4, 5, 6, 1] (by decide))
                                      refine ⟨(Mem.add (Mem.add F χ) w109), (p416 :: [(b171, row [.int .i64 x160.Kind, .int .i64 x160.At.Request, .int .i64 x160.At.Layer, .int .i64 x160.At.Place, .slice a165 x160.K.length c166, .slice a168 x160.V.length c169] 33)] :: p114 :: [(b36, row [.int .i64 v111.Room, .slice a112 v111.L.length c113] 52)] :: [(b23, row [.int .i64 x413.room, .map (some b415)] 62)] :: Φ), hs419, trivial, ?_⟩
                                      refine WO.done ?_
                                      refine At.seq_wc ?_
                                      refine WC.region [(0, true), (1, true), (2, true), (3, false)] rfl ?_
                                      refine WO.move rfl rfl rfl rfl ?_
                                      refine WO.nilCheck rfl rfl rfl rfl ?_
                                      refine WO.fieldAddr 1 rfl rfl rfl rfl fl_52_1 ?_
                                      refine WO.store 3 rfl rfl rfl rfl sz_50 rfl rfl rfl (fun _ _ => trivial) ?_
                                      refine WO.done ?_
                                      refine At.block_normal ?_
                                      refine At.seq_at ?_
                                      refine At.empty ?_
                                      have ho421 : OwnL 5 R_ref12_Row F 56 none 0 ([] : List S_ref12_Row) [] := OwnL.nil
                                      exact fun a w hc hs => ⟨(⟨v111.Room, ([] : List S_ref12_Row)⟩ : S_ref12_Store), x413, none, 0, [], b415, p416, (List.flatten []), hr, (hc.keep (hc.keep (hc.keep (hc.keep (hc.keep (hc.keep hc.nil (t := 9) rfl) (t := 8) rfl) (t := 7) rfl) (t := 5) rfl) (t := 1) rfl) (t := 0) rfl), ((hs.arrange 2 6 [0, 1] [2, 3, 4, 6, 7] (by decide)).gather 0), (ho421.mono mono_ref12_Row (Mem.le.trans (Mem.le_pick (Mem.add F w109) 1 [] (by decide)) (Mem.le_gather (Mem.add F w109) 0))), (hm418.mono (monoVA mono_cache_rows) (Mem.le_gather (Mem.add F w109) 0))⟩
                                    · have hr := cond_f hb412 hr
                                      refine WC.skip ?_
                                      refine At.block_normal ?_
                                      refine At.seq_at ?_
                                      exact fun a w hc hs => ⟨v111, v117, a112, c113, p114, b118, p119, (List.flatten []), hr, (hc.keep (hc.keep (hc.keep (hc.keep (hc.keep (hc.keep hc.nil (t := 9) rfl) (t := 8) rfl) (t := 7) rfl) (t := 5) rfl) (t := 1) rfl) (t := 0) rfl), ((hs.arrange 2 5 [0, 1] [3, 4, 2, 5, 6] (by decide)).gather 0), (ho115.mono mono_ref12_Row (Mem.le_gather (Mem.add F w109) 0)), (hm120.mono (monoVA mono_cache_rows) (Mem.le_gather (Mem.add F w109) 0))⟩
                              · rintro a w ⟨v177, v183, a178, c179, p180, b184, p185, w176, hr, hc, hs, ho181, hm186⟩
                                refine WC.use hc hs ?_
                                clear hc hs
                                unfold law12_CacheActs_k16 at hr
                                refine WC.then ?_
                                refine WC.seq (fun a w => ∃ (v189 : Bool), law12_CacheActs_k17 v110 x160 v177 v183 v189 = some r13 ∧ Ctx 255 [(0, .int .i64 p0), (1, .slice a3 v2.length c4), (5, .pointer (some ⟨b23, 0, none⟩)), (7, .pointer (some ⟨b36, 0, none⟩)), (8, .int .i64 v110), (9, .pointer (some ⟨b171, 0, none⟩)), (156, .bool v189)] a ∧ Sat (Mem.add (Mem.add (Mem.add F χ) w109) w176) (p180 :: p185 :: [(b171, row [.int .i64 x160.Kind, .int .i64 x160.At.Request, .int .i64 x160.At.Layer, .int .i64 x160.At.Place, .slice a165 x160.K.length c166, .slice a168 x160.V.length c169] 33)] :: [(b36, row [.int .i64 v177.Room, .slice a178 v177.L.length c179] 52)] :: [(b23, row [.int .i64 v183.room, .map (some b184)] 62)] :: Φ) w) ?_ ?_
                                · refine WC.draw (Sat (Mem.add (Mem.add (Mem.add F χ) w109) w176) ([(b171, row [.int .i64 x160.Kind, .int .i64 x160.At.Request, .int .i64 x160.At.Layer, .int .i64 x160.At.Place, .slice a165 x160.K.length c166, .slice a168 x160.V.length c169] 33)] :: [(b36, row [.int .i64 v177.Room, .slice a178 v177.L.length c179] 52)] :: Φ)) (fun _ h => (h.arrange 3 5 [0, 1, 2] [5, 6] (by decide))) [(0, true), (2, true), (3, true), (4, true), (5, true), (6, true), (1, false), (7, true), (8, true), (9, true), (11, true), (10, false), (12, true), (13, true), (14, true), (15, true), (17, true), (16, false), (18, true), (19, true)] mixed (by kernel_rfl) rfl (by kernel_rfl) ?_
                                  refine WO.move rfl rfl rfl rfl ?_
                                  refine WO.move rfl rfl rfl rfl ?_
                                  refine WO.nilCheck rfl rfl rfl rfl ?_
                                  refine WO.fieldAddr 1 rfl rfl rfl rfl fl_52_1 ?_
                                  refine WO.loadY 1 rfl rfl rfl rfl sc_50 rfl rfl ?_
                                  refine WO.len rfl rfl rfl rfl Try.underlying50 ?_
                                  obtain ⟨x287, hx288, hr⟩ := bind_some' hr
                                  refine WO.call rfl rfl rfl rfl rfl cl_12 (CallsRet.lay0 3 5 [0, 1] [7, 4, 2, 3, 5, 6] (by decide) (Mem.add (Mem.add F w109) w176) ([(b23, row [.int .i64 v183.room, .map (some b184)] 62)] :: p185 :: χ :: p180 :: [(b171, row [.int .i64 x160.Kind, .int .i64 x160.At.Request, .int .i64 x160.At.Layer, .int .i64 x160.At.Place, .slice a165 x160.K.length c166, .slice a168 x160.V.length c169] 33)] :: [(b36, row [.int .i64 v177.Room, .slice a178 v177.L.length c179] 52)] :: Φ) rfl rfl (cache_Store_Len_vm_ok (F := (Mem.add (Mem.add F w109) w176)) hm186 hx288 (χ :: p180 :: [(b171, row [.int .i64 x160.Kind, .int .i64 x160.At.Request, .int .i64 x160.At.Layer, .int .i64 x160.At.Place, .slice a165 x160.K.length c166, .slice a168 x160.V.length c169] 33)] :: [(b36, row [.int .i64 v177.Room, .slice a178 v177.L.length c179] 52)] :: Φ))) ?_
                                  rintro _ _ ⟨rfl, hs289⟩
                                  have hs289 := (hs289.arrange 2 6 [0, 1, 4] [5, 3, 6, 7, 2] (by decide))
                                  refine ⟨(Mem.add (Mem.add (Mem.add F χ) w109) w176), (p180 :: p185 :: [(b171, row [.int .i64 x160.Kind, .int .i64 x160.At.Request, .int .i64 x160.At.Layer, .int .i64 x160.At.Place, .slice a165 x160.K.length c166, .slice a168 x160.V.length c169] 33)] :: [(b36, row [.int .i64 v177.Room, .slice a178 v177.L.length c179] 52)] :: [(b23, row [.int .i64 v183.room, .map (some b184)] 62)] :: Φ), hs289, (hs289.arrange 3 5 [0, 1, 2] [5, 6] (by decide)), ?_⟩
                                  refine WO.bin rfl rfl rfl rfl rfl rfl ?_
                                  refine WO.move rfl rfl rfl rfl ?_
                                  refine WO.split (t := 145) rfl (fun hg290 => ?_) (fun hg290 => ?_)
                                  · have hr := cond_t hg290 hr
                                    refine WO.skip rfl rfl rfl rfl ?_
                                    refine WO.skip rfl rfl rfl rfl ?_
                                    refine WO.skipF rfl rfl rfl rfl ?_
                                    refine WO.skip rfl rfl rfl rfl ?_
                                    refine WO.pickT rfl rfl rfl rfl rfl ?_
                                    refine WO.move rfl rfl rfl rfl ?_
                                    refine WO.skip rfl rfl rfl rfl ?_
                                    refine WO.skip rfl rfl rfl rfl ?_
                                    refine WO.skipF rfl rfl rfl rfl ?_
                                    refine WO.skip rfl rfl rfl rfl ?_
                                    refine WO.pickT rfl rfl rfl rfl rfl ?_
                                    refine WO.done ?_
                                    refine At.seq_at ?_
                                    exact fun a w hc hs => ⟨true, hr, (hc.keep (hc.keep (hc.keep (hc.keep (hc.keep (hc.keep (hc.keep hc.nil (t := 156) rfl) (t := 9) rfl) (t := 8) rfl) (t := 7) rfl) (t := 5) rfl) (t := 1) rfl) (t := 0) rfl), hs⟩
                                  · have hr := cond_f hg290 hr
                                    refine WO.move rfl rfl rfl rfl ?_
                                    refine WO.move rfl rfl rfl rfl ?_
                                    obtain ⟨x291, hx292, hr⟩ := bind_some' hr
                                    refine WO.call rfl rfl rfl rfl rfl cl_12 (CallsRet.lay0 3 5 [0, 1] [7, 4, 2, 3, 5, 6] (by decide) (Mem.add (Mem.add F w109) w176) ([(b23, row [.int .i64 v183.room, .map (some b184)] 62)] :: p185 :: χ :: p180 :: [(b171, row [.int .i64 x160.Kind, .int .i64 x160.At.Request, .int .i64 x160.At.Layer, .int .i64 x160.At.Place, .slice a165 x160.K.length c166, .slice a168 x160.V.length c169] 33)] :: [(b36, row [.int .i64 v177.Room, .slice a178 v177.L.length c179] 52)] :: Φ) rfl rfl (cache_Store_Len_vm_ok (F := (Mem.add (Mem.add F w109) w176)) hm186 hx292 (χ :: p180 :: [(b171, row [.int .i64 x160.Kind, .int .i64 x160.At.Request, .int .i64 x160.At.Layer, .int .i64 x160.At.Place, .slice a165 x160.K.length c166, .slice a168 x160.V.length c169] 33)] :: [(b36, row [.int .i64 v177.Room, .slice a178 v177.L.length c179] 52)] :: Φ))) ?_
                                    rintro _ _ ⟨rfl, hs293⟩
                                    have hs293 := (hs293.arrange 2 6 [0, 1, 4] [5, 3, 6, 7, 2] (by decide))
                                    refine ⟨(Mem.add (Mem.add (Mem.add F χ) w109) w176), (p180 :: p185 :: [(b171, row [.int .i64 x160.Kind, .int .i64 x160.At.Request, .int .i64 x160.At.Layer, .int .i64 x160.At.Place, .slice a165 x160.K.length c166, .slice a168 x160.V.length c169] 33)] :: [(b36, row [.int .i64 v177.Room, .slice a178 v177.L.length c179] 52)] :: [(b23, row [.int .i64 v183.room, .map (some b184)] 62)] :: Φ), hs293, (hs293.arrange 3 5 [0, 1, 2] [5, 6] (by decide)), ?_⟩
                                    refine WO.bin rfl rfl rfl rfl rfl rfl ?_
                                    refine WO.pickF rfl rfl rfl rfl rfl ?_
                                    refine WO.move rfl rfl rfl rfl ?_
                                    refine WO.split (t := 151) rfl (fun hg294 => ?_) (fun hg294 => ?_)
                                    · have hr := cond_t hg294 hr
                                      refine WO.skip rfl rfl rfl rfl ?_
                                      refine WO.skip rfl rfl rfl rfl ?_
                                      refine WO.skipF rfl rfl rfl rfl ?_
                                      refine WO.skip rfl rfl rfl rfl ?_
                                      refine WO.pickT rfl rfl rfl rfl rfl ?_
                                      refine WO.done ?_
                                      refine At.seq_at ?_
                                      exact fun a w hc hs => ⟨true, hr, (hc.keep (hc.keep (hc.keep (hc.keep (hc.keep (hc.keep (hc.keep hc.nil (t := 156) rfl) (t := 9) rfl) (t := 8) rfl) (t := 7) rfl) (t := 5) rfl) (t := 1) rfl) (t := 0) rfl), hs⟩
                                    · have hr := cond_f hg294 hr
                                      refine WO.move rfl rfl rfl rfl ?_
                                      refine WO.move rfl rfl rfl rfl ?_
                                      obtain ⟨x295, hx296, hr⟩ := bind_some' hr
                                      refine WO.call rfl rfl rfl rfl rfl cl_19 (CallsRet.lay0 3 5 [0, 1] [7, 4, 2, 3, 5, 6] (by decide) (Mem.add (Mem.add F w109) w176) ([(b23, row [.int .i64 v183.room, .map (some b184)] 62)] :: p185 :: χ :: p180 :: [(b171, row [.int .i64 x160.Kind, .int .i64 x160.At.Request, .int .i64 x160.At.Layer, .int .i64 x160.At.Place, .slice a165 x160.K.length c166, .slice a168 x160.V.length c169] 33)] :: [(b36, row [.int .i64 v177.Room, .slice a178 v177.L.length c179] 52)] :: Φ) rfl rfl (cache_Store_Room_vm_ok (F := (Mem.add (Mem.add F w109) w176)) hm186 hx296 (χ :: p180 :: [(b171, row [.int .i64 x160.Kind, .int .i64 x160.At.Request, .int .i64 x160.At.Layer, .int .i64 x160.At.Place, .slice a165 x160.K.length c166, .slice a168 x160.V.length c169] 33)] :: [(b36, row [.int .i64 v177.Room, .slice a178 v177.L.length c179] 52)] :: Φ))) ?_
                                      rintro _ _ ⟨rfl, hs297⟩
                                      have hs297 := (hs297.arrange 2 6 [0, 1, 4] [5, 3, 6, 7, 2] (by decide))
                                      refine ⟨(Mem.add (Mem.add (Mem.add F χ) w109) w176), (p180 :: p185 :: [(b171, row [.int .i64 x160.Kind, .int .i64 x160.At.Request, .int .i64 x160.At.Layer, .int .i64 x160.At.Place, .slice a165 x160.K.length c166, .slice a168 x160.V.length c169] 33)] :: [(b36, row [.int .i64 v177.Room, .slice a178 v177.L.length c179] 52)] :: [(b23, row [.int .i64 v183.room, .map (some b184)] 62)] :: Φ), hs297, (hs297.arrange 3 5 [0, 1, 2] [5, 6] (by decide)), ?_⟩
                                      refine WO.bin rfl rfl rfl rfl rfl rfl ?_
                                      refine WO.pickF rfl rfl rfl rfl rfl ?_
                                      refine WO.done ?_
                                      refine At.seq_at ?_
                                      exact fun a w hc hs => ⟨(x295 != p0), hr, (hc.keep (hc.keep (hc.keep (hc.keep (hc.keep (hc.keep (hc.keep hc.nil (t := 156) rfl) (t := 9) rfl) (t := 8) rfl) (t := 7) rfl) (t := 5) rfl) (t := 1) rfl) (t := 0) rfl), hs⟩
                                · rintro a w ⟨v189, hr, hc, hs⟩
                                  refine WC.use hc hs ?_
                                  clear hc hs
                                  unfold law12_CacheActs_k17 at hr
                                  refine WC.cond rfl (fun hb190 => ?_) (fun hb190 => ?_)
                                  · have hr := cond_t hb190 hr
                                    refine WC.then ?_
                                    refine WC.region [(0, true)] rfl ?_
                                    refine WO.assign rfl rfl rfl rfl ?_
                                    refine WO.done ?_
                                    refine At.seq_wc ?_
                                    refine WC.ret ?_
                                    refine At.seq_ret ?_
                                    refine At.block_ret ?_
                                    refine At.seq_ret ?_
                                    refine At.round_ret hr (fun hy => ?_)
                                    subst hy
                                    have hr := hk13
                                    refine At.block_ret ?_
                                    refine At.seq_ret ?_
                                    refine At.seq_ret ?_
                                    obtain rfl := Option.some.inj hr
                                    exact At.ret (fun a w hc hs => (resVs_cons (hc.res rfl) resVs_nil)) (fun w hs => ⟨rfl, (hs.arrange 3 5 [2] [] (by decide))⟩)
                                  · have hr := cond_f hb190 hr
                                    refine WC.skip ?_
                                    refine At.seq_wc ?_
                                    refine WC.seq (fun a w => law12_CacheActs_k18 v110 x160 v177 v183 = some r13 ∧ Ctx 255 [(0, .int .i64 p0), (1, .slice a3 v2.length c4), (5, .pointer (some ⟨b23, 0, none⟩)), (7, .pointer (some ⟨b36, 0, none⟩)), (8, .int .i64 v110), (9, .pointer (some ⟨b171, 0, none⟩))] a ∧ Sat (Mem.add (Mem.add (Mem.add F χ) w109) w176) (p180 :: p185 :: [(b171, row [.int .i64 x160.Kind, .int .i64 x160.At.Request, .int .i64 x160.At.Layer, .int .i64 x160.At.Place, .slice a165 x160.K.length c166, .slice a168 x160.V.length c169] 33)] :: [(b36, row [.int .i64 v177.Room, .slice a178 v177.L.length c179] 52)] :: [(b23, row [.int .i64 v183.room, .map (some b184)] 62)] :: Φ) w) ?_ ?_
                                    · refine WC.then ?_
                                      refine WC.region [(0, true)] rfl ?_
                                      refine WO.assign rfl rfl rfl rfl ?_
                                      refine WO.done ?_
                                      refine At.seq_wc ?_
                                      obtain ⟨xl21, hl21, hk21⟩ := bind_some' hr
                                      refine WC.weaken (fun a w => .brk () = xl21 ∧ Ctx 255 [(0, .int .i64 p0), (1, .slice a3 v2.length c4), (5, .pointer (some ⟨b23, 0, none⟩)), (7, .pointer (some ⟨b36, 0, none⟩)), (8, .int .i64 v110), (9, .pointer (some ⟨b171, 0, none⟩))] a ∧ Sat (Mem.add (Mem.add (Mem.add F χ) w109) w176) (p180 :: p185 :: [(b171, row [.int .i64 x160.Kind, .int .i64 x160.At.Request, .int .i64 x160.At.Layer, .int .i64 x160.At.Place, .slice a165 x160.K.length c166, .slice a168 x160.V.length c169] 33)] :: [(b36, row [.int .i64 v177.Room, .slice a178 v177.L.length c179] 52)] :: [(b23, row [.int .i64 v183.room, .map (some b184)] 62)] :: Φ) w) ?_ ?_
                                      · refine WC.block ?_
                                        refine WC.loop (fun (v219 : Int) a w => Ctx 255 [(0, .int .i64 p0), (1, .slice a3 v2.length c4), (5, .pointer (some ⟨b23, 0, none⟩)), (7, .pointer (some ⟨b36, 0, none⟩)), (8, .int .i64 v110), (9, .pointer (some ⟨b171, 0, none⟩)), (13, .int .i64 v219)] a ∧ Sat (Mem.add (Mem.add (Mem.add F χ) w109) w176) (p180 :: p185 :: [(b171, row [.int .i64 x160.Kind, .int .i64 x160.At.Request, .int .i64 x160.At.Layer, .int .i64 x160.At.Place, .slice a165 x160.K.length c166, .slice a168 x160.V.length c169] 33)] :: [(b36, row [.int .i64 v177.Room, .slice a178 v177.L.length c179] 52)] :: [(b23, row [.int .i64 v183.room, .map (some b184)] 62)] :: Φ) w) hl21 ?_ ?_
                                        · exact fun a w hc hs => ⟨(hc.keep (hc.keep (hc.keep (hc.keep (hc.keep (hc.keep (hc.keep hc.nil (t := 13) rfl) (t := 9) rfl) (t := 8) rfl) (t := 7) rfl) (t := 5) rfl) (t := 1) rfl) (t := 0) rfl), hs⟩
                                        · rintro v219 r21 hr a w ⟨hc, hs⟩
                                          refine WC.use hc hs ?_
                                          clear hc hs
                                          (try dsimp only at hr)
                                          unfold law12_CacheActs_b20 at hr
                                          refine WC.then ?_
                                          refine WC.then ?_
                                          refine WC.region [(0, true), (1, true), (2, true), (3, true), (4, false), (5, true), (6, true)] rfl ?_
                                          refine WO.move rfl rfl rfl rfl ?_
                                          refine WO.move rfl rfl rfl rfl ?_
                                          refine WO.nilCheck rfl rfl rfl rfl ?_
                                          refine WO.fieldAddr 1 rfl rfl rfl rfl fl_52_1 ?_
                                          refine WO.load 3 rfl rfl rfl rfl sc_50 rfl rfl ?_
                                          refine WO.len rfl rfl rfl rfl Try.underlying50 ?_
                                          refine WO.bin rfl rfl rfl rfl rfl rfl ?_
                                          refine WO.done ?_
                                          refine At.seq_wc ?_
                                          refine WC.cond rfl (fun hb223 => ?_) (fun hb223 => ?_)
                                          · have hr := cond_t hb223 hr
                                            refine WC.skip ?_
                                            refine At.seq_wc ?_
                                            refine WC.then ?_
                                            refine WC.block ?_
                                            refine WC.then ?_
                                            refine WC.region [(0, true), (1, true), (2, true), (3, true), (4, false), (5, true), (6, true), (7, true), (8, false), (9, false), (10, true), (11, true), (12, true), (13, true), (14, true), (15, true), (16, true)] rfl ?_
                                            refine WO.move rfl rfl rfl rfl ?_
                                            refine WO.move rfl rfl rfl rfl ?_
                                            refine WO.nilCheck rfl rfl rfl rfl ?_
                                            refine WO.fieldAddr 1 rfl rfl rfl rfl fl_52_1 ?_
                                            refine WO.load 3 rfl rfl rfl rfl sc_50 rfl rfl ?_
                                            refine WO.move rfl rfl rfl rfl ?_
                                            obtain ⟨x224, hx225, hr⟩ := bind_some' hr
                                            refine WO.indexQ ho181 hx225 rfl rfl rfl rfl rfl rfl Try.underlying50 sz_56 (fun b226 cs227 hb228 h229 hq230 => ?_)
                                            subst hb228
                                            obtain ⟨a231, c232, a234, c235, rfl, h233, h236⟩ := h229
                                            refine WO.fieldAddr 0 rfl rfl rfl rfl fl_56_0 ?_
                                            refine WO.loadQA 0 0 3 hq230 rfl rfl rfl rfl rfl rfl ag_30 rfl rfl ?_
                                            obtain ⟨x237, hx238, hr⟩ := bind_some' hr
                                            refine WO.call rfl rfl rfl rfl rfl cl_13 (CallsRet.lay0 3 5 [0, 1] [7, 4, 2, 3, 5, 6] (by decide) (Mem.add (Mem.add F w109) w176) ([(b23, row [.int .i64 v183.room, .map (some b184)] 62)] :: p185 :: χ :: p180 :: [(b171, row [.int .i64 x160.Kind, .int .i64 x160.At.Request, .int .i64 x160.At.Layer, .int .i64 x160.At.Place, .slice a165 x160.K.length c166, .slice a168 x160.V.length c169] 33)] :: [(b36, row [.int .i64 v177.Room, .slice (some ⟨b226, 0, none⟩) v177.L.length c179] 52)] :: Φ) rfl rfl (cache_Store_Get_vm_ok (F := (Mem.add (Mem.add F w109) w176)) hm186 rfl hx238 (χ :: p180 :: [(b171, row [.int .i64 x160.Kind, .int .i64 x160.At.Request, .int .i64 x160.At.Layer, .int .i64 x160.At.Place, .slice a165 x160.K.length c166, .slice a168 x160.V.length c169] 33)] :: [(b36, row [.int .i64 v177.Room, .slice (some ⟨b226, 0, none⟩) v177.L.length c179] 52)] :: Φ))) ?_
                                            rintro _ _ ⟨a239, c240, p242, a244, c245, p247, rfl, hs249, h241, h246⟩
                                            have hs249 := (hs249.arrange 2 8 [0, 1, 6] [2, 3, 7, 5, 8, 9, 4] (by decide))
                                            refine ⟨(Mem.add (Mem.add (Mem.add F χ) w109) w176), (p242 :: p247 :: p180 :: p185 :: [(b171, row [.int .i64 x160.Kind, .int .i64 x160.At.Request, .int .i64 x160.At.Layer, .int .i64 x160.At.Place, .slice a165 x160.K.length c166, .slice a168 x160.V.length c169] 33)] :: [(b36, row [.int .i64 v177.Room, .slice (some ⟨b226, 0, none⟩) v177.L.length c179] 52)] :: [(b23, row [.int .i64 v183.room, .map (some b184)] 62)] :: Φ), hs249, trivial, ?_⟩
                                            refine WO.move rfl rfl rfl rfl ?_
                                            refine WO.extract rfl rfl rfl rfl rfl ?_
                                            refine WO.extract rfl rfl rfl rfl rfl ?_
                                            refine WO.extract rfl rfl rfl rfl rfl ?_
                                            refine WO.assign rfl rfl rfl rfl ?_
                                            refine WO.assign rfl rfl rfl rfl ?_
                                            refine WO.assign rfl rfl rfl rfl ?_
                                            refine WO.done ?_
                                            refine At.seq_wc ?_
                                            refine WC.seq (fun a w => ∃ (v251 : Bool), law12_CacheActs_k22 v219 v251 = some r21 ∧ Ctx 255 [(0, .int .i64 p0), (1, .slice a3 v2.length c4), (5, .pointer (some ⟨b23, 0, none⟩)), (7, .pointer (some ⟨b36, 0, none⟩)), (8, .int .i64 v110), (9, .pointer (some ⟨b171, 0, none⟩)), (13, .int .i64 v219), (207, .bool v251)] a ∧ Sat (Mem.add (Mem.add (Mem.add F χ) w109) w176) (p242 :: p247 :: p180 :: p185 :: [(b171, row [.int .i64 x160.Kind, .int .i64 x160.At.Request, .int .i64 x160.At.Layer, .int .i64 x160.At.Place, .slice a165 x160.K.length c166, .slice a168 x160.V.length c169] 33)] :: [(b36, row [.int .i64 v177.Room, .slice (some ⟨b226, 0, none⟩) v177.L.length c179] 52)] :: [(b23, row [.int .i64 v183.room, .map (some b184)] 62)] :: Φ) w) ?_ ?_
                                            · refine WC.region [(0, true), (1, true), (2, true), (3, true), (4, true), (5, true), (6, true), (7, false), (8, true), (9, true), (10, true), (11, false), (12, false), (13, true), (14, true), (15, true), (16, true), (17, true), (18, true), (19, true), (20, false), (21, true), (22, true), (23, true), (24, false), (25, false), (26, true), (27, true)] rfl ?_
                                              refine WO.move rfl rfl rfl rfl ?_
                                              refine WO.un rfl rfl rfl rfl rfl ?_
                                              refine WO.move rfl rfl rfl rfl ?_
                                              refine WO.split (t := 182) rfl (fun hg253 => ?_) (fun hg253 => ?_)
                                              · have hr := cond_t hg253 hr
                                                refine WO.skip rfl rfl rfl rfl ?_
                                                refine WO.skip rfl rfl rfl rfl ?_
                                                refine WO.skip rfl rfl rfl rfl ?_
                                                refine WO.skip rfl rfl rfl rfl ?_
                                                refine WO.skipF rfl rfl rfl rfl ?_
                                                refine WO.skip rfl rfl rfl rfl ?_
                                                refine WO.skip rfl rfl rfl rfl ?_
                                                refine WO.skip rfl rfl rfl rfl ?_
                                                refine WO.skipF rfl rfl rfl rfl ?_
                                                refine WO.skipF rfl rfl rfl rfl ?_
                                                refine WO.skip rfl rfl rfl rfl ?_
                                                refine WO.pickT rfl rfl rfl rfl rfl ?_
                                                refine WO.move rfl rfl rfl rfl ?_
                                                refine WO.skip rfl rfl rfl rfl ?_
                                                refine WO.skip rfl rfl rfl rfl ?_
                                                refine WO.skip rfl rfl rfl rfl ?_
                                                refine WO.skip rfl rfl rfl rfl ?_
                                                refine WO.skipF rfl rfl rfl rfl ?_
                                                refine WO.skip rfl rfl rfl rfl ?_
                                                refine WO.skip rfl rfl rfl rfl ?_
                                                refine WO.skip rfl rfl rfl rfl ?_
                                                refine WO.skipF rfl rfl rfl rfl ?_
                                                refine WO.skipF rfl rfl rfl rfl ?_
                                                refine WO.skip rfl rfl rfl rfl ?_
                                                refine WO.pickT rfl rfl rfl rfl rfl ?_
                                                refine WO.done ?_
                                                refine At.seq_at ?_
                                                exact fun a w hc hs => ⟨true, hr, (hc.keep (hc.keep (hc.keep (hc.keep (hc.keep (hc.keep (hc.keep (hc.keep hc.nil (t := 207) rfl) (t := 13) rfl) (t := 9) rfl) (t := 8) rfl) (t := 7) rfl) (t := 5) rfl) (t := 1) rfl) (t := 0) rfl), hs⟩
                                              · have hr := cond_f hg253 hr
                                                refine WO.move rfl rfl rfl rfl ?_
                                                refine WO.move rfl rfl rfl rfl ?_
                                                refine WO.nilCheck rfl rfl rfl rfl ?_
                                                refine WO.fieldAddr 1 rfl rfl rfl rfl fl_52_1 ?_
                                                refine WO.load 5 rfl rfl rfl rfl sc_50 rfl rfl ?_
                                                refine WO.move rfl rfl rfl rfl ?_
                                                obtain ⟨x254, hx255, hr⟩ := bind_some' hr
                                                refine WO.indexQ ho181 hx255 rfl rfl rfl rfl rfl rfl Try.underlying50 sz_56 (fun b256 cs257 hb258 h259 hq260 => ?_)
                                                obtain rfl : b226 = b256 := by cases hb258; rfl
                                                obtain ⟨a261, c262, a264, c265, rfl, h263, h266⟩ := h259
                                                refine WO.fieldAddr 3 rfl rfl rfl rfl fl_56_1 ?_
                                                refine WO.loadQ 2 3 hq260 rfl rfl rfl rfl rfl rfl sc_31 rfl ?_
                                                obtain ⟨x267, hx268, hr⟩ := bind_some' hr
                                                refine WO.call rfl rfl rfl rfl rfl cl_14 (CallsRet.lay 3 7 3 [3, 0, 1] [2, 4, 5, 6, 7, 8, 9] (by decide) (Mem.add F (List.flatten [p242, w176, w109])) (χ :: p247 :: p180 :: p185 :: [(b171, row [.int .i64 x160.Kind, .int .i64 x160.At.Request, .int .i64 x160.At.Layer, .int .i64 x160.At.Place, .slice a165 x160.K.length c166, .slice a168 x160.V.length c169] 33)] :: [(b36, row [.int .i64 v177.Room, .slice (some ⟨b226, 0, none⟩) v177.L.length c179] 52)] :: [(b23, row [.int .i64 v183.room, .map (some b184)] 62)] :: Φ) rfl rfl (ref04_Bytes_ok (F := F) (χ := (List.flatten [p242, w176, w109])) (((OwnL.re (G := F) (const_int _) h241).rd (mono_int _)).mono (mono_int _) (Mem.le.trans (Mem.le_pick (Mem.add (Mem.add (Mem.add F w109) w176) p242) 3 [0] (by decide)) (Mem.le_gather (Mem.add (Mem.add (Mem.add F w109) w176) p242) 3))) (h263.mono (mono_int _) (Mem.le.trans (Mem.le_pick (Mem.add (Mem.add (Mem.add F w109) w176) p242) 3 [1, 2] (by decide)) (Mem.le_gather (Mem.add (Mem.add (Mem.add F w109) w176) p242) 3))) hx268 (χ :: p247 :: p180 :: p185 :: [(b171, row [.int .i64 x160.Kind, .int .i64 x160.At.Request, .int .i64 x160.At.Layer, .int .i64 x160.At.Place, .slice a165 x160.K.length c166, .slice a168 x160.V.length c169] 33)] :: [(b36, row [.int .i64 v177.Room, .slice (some ⟨b226, 0, none⟩) v177.L.length c179] 52)] :: [(b23, row [.int .i64 v183.room, .map (some b184)] 62)] :: Φ))) ?_
                                                rintro _ _ ⟨rfl, hs269⟩
                                                have hs269 := Sat.unlay F [p242, w176, w109] hs269
                                                have hs269 := (hs269.arrange 3 7 [1, 2, 3] [0, 4, 5, 6, 7, 8, 9] (by decide))
                                                refine ⟨(Mem.add (Mem.add (Mem.add F χ) w109) w176), (p242 :: p247 :: p180 :: p185 :: [(b171, row [.int .i64 x160.Kind, .int .i64 x160.At.Request, .int .i64 x160.At.Layer, .int .i64 x160.At.Place, .slice a165 x160.K.length c166, .slice a168 x160.V.length c169] 33)] :: [(b36, row [.int .i64 v177.Room, .slice (some ⟨b226, 0, none⟩) v177.L.length c179] 52)] :: [(b23, row [.int .i64 v183.room, .map (some b184)] 62)] :: Φ), hs269, trivial, ?_⟩
                                                refine WO.un rfl rfl rfl rfl rfl ?_
                                                refine WO.pickF rfl rfl rfl rfl rfl ?_
                                                refine WO.move rfl rfl rfl rfl ?_
                                                refine WO.split (t := 195) rfl (fun hg270 => ?_) (fun hg270 => ?_)
                                                · have hr := cond_t hg270 hr
                                                  refine WO.skip rfl rfl rfl rfl ?_
                                                  refine WO.skip rfl rfl rfl rfl ?_
                                                  refine WO.skip rfl rfl rfl rfl ?_
                                                  refine WO.skip rfl rfl rfl rfl ?_
                                                  refine WO.skipF rfl rfl rfl rfl ?_
                                                  refine WO.skip rfl rfl rfl rfl ?_
                                                  refine WO.skip rfl rfl rfl rfl ?_
                                                  refine WO.skip rfl rfl rfl rfl ?_
                                                  refine WO.skipF rfl rfl rfl rfl ?_
                                                  refine WO.skipF rfl rfl rfl rfl ?_
                                                  refine WO.skip rfl rfl rfl rfl ?_
                                                  refine WO.pickT rfl rfl rfl rfl rfl ?_
                                                  refine WO.done ?_
                                                  refine At.seq_at ?_
                                                  exact fun a w hc hs => ⟨true, hr, (hc.keep (hc.keep (hc.keep (hc.keep (hc.keep (hc.keep (hc.keep (hc.keep hc.nil (t := 207) rfl) (t := 13) rfl) (t := 9) rfl) (t := 8) rfl) (t := 7) rfl) (t := 5) rfl) (t := 1) rfl) (t := 0) rfl), hs⟩
                                                · have hr := cond_f hg270 hr
                                                  refine WO.move rfl rfl rfl rfl ?_
                                                  refine WO.move rfl rfl rfl rfl ?_
                                                  refine WO.nilCheck rfl rfl rfl rfl ?_
                                                  refine WO.fieldAddr 1 rfl rfl rfl rfl fl_52_1 ?_
                                                  refine WO.load 5 rfl rfl rfl rfl sc_50 rfl rfl ?_
                                                  refine WO.move rfl rfl rfl rfl ?_
                                                  obtain ⟨x271, hx272, hr⟩ := bind_some' hr
                                                  refine WO.indexQ ho181 hx272 rfl rfl rfl rfl rfl rfl Try.underlying50 sz_56 (fun b273 cs274 hb275 h276 hq277 => ?_)
                                                  obtain rfl : b226 = b273 := by cases hb275; rfl
                                                  obtain ⟨a278, c279, a281, c282, rfl, h280, h283⟩ := h276
                                                  refine WO.fieldAddr 4 rfl rfl rfl rfl fl_56_2 ?_
                                                  refine WO.loadQ 2 4 hq277 rfl rfl rfl rfl rfl rfl sc_31 rfl ?_
                                                  obtain ⟨x284, hx285, hr⟩ := bind_some' hr
                                                  refine WO.call rfl rfl rfl rfl rfl cl_14 (CallsRet.lay 3 7 3 [4, 0, 1] [2, 3, 5, 6, 7, 8, 9] (by decide) (Mem.add F (List.flatten [p247, w176, w109])) (χ :: p242 :: p180 :: p185 :: [(b171, row [.int .i64 x160.Kind, .int .i64 x160.At.Request, .int .i64 x160.At.Layer, .int .i64 x160.At.Place, .slice a165 x160.K.length c166, .slice a168 x160.V.length c169] 33)] :: [(b36, row [.int .i64 v177.Room, .slice (some ⟨b226, 0, none⟩) v177.L.length c179] 52)] :: [(b23, row [.int .i64 v183.room, .map (some b184)] 62)] :: Φ) rfl rfl (ref04_Bytes_ok (F := F) (χ := (List.flatten [p247, w176, w109])) (((OwnL.re (G := F) (const_int _) h246).rd (mono_int _)).mono (mono_int _) (Mem.le.trans (Mem.le_pick (Mem.add (Mem.add (Mem.add F w109) w176) p247) 3 [0] (by decide)) (Mem.le_gather (Mem.add (Mem.add (Mem.add F w109) w176) p247) 3))) (h283.mono (mono_int _) (Mem.le.trans (Mem.le_pick (Mem.add (Mem.add (Mem.add F w109) w176) p247) 3 [1, 2] (by decide)) (Mem.le_gather (Mem.add (Mem.add (Mem.add F w109) w176) p247) 3))) hx285 (χ :: p242 :: p180 :: p185 :: [(b171, row [.int .i64 x160.Kind, .int .i64 x160.At.Request, .int .i64 x160.At.Layer, .int .i64 x160.At.Place, .slice a165 x160.K.length c166, .slice a168 x160.V.length c169] 33)] :: [(b36, row [.int .i64 v177.Room, .slice (some ⟨b226, 0, none⟩) v177.L.length c179] 52)] :: [(b23, row [.int .i64 v183.room, .map (some b184)] 62)] :: Φ))) ?_
                                                  rintro _ _ ⟨rfl, hs286⟩
                                                  have hs286 := Sat.unlay F [p247, w176, w109] hs286
                                                  have hs286 := (hs286.arrange 3 7 [1, 2, 3] [4, 0, 5, 6, 7, 8, 9] (by decide))
                                                  refine ⟨(Mem.add (Mem.add (Mem.add F χ) w109) w176), (p242 :: p247 :: p180 :: p185 :: [(b171, row [.int .i64 x160.Kind, .int .i64 x160.At.Request, .int .i64 x160.At.Layer, .int .i64 x160.At.Place, .slice a165 x160.K.length c166, .slice a168 x160.V.length c169] 33)] :: [(b36, row [.int .i64 v177.Room, .slice (some ⟨b226, 0, none⟩) v177.L.length c179] 52)] :: [(b23, row [.int .i64 v183.room, .map (some b184)] 62)] :: Φ), hs286, trivial, ?_⟩
                                                  refine WO.un rfl rfl rfl rfl rfl ?_
                                                  refine WO.pickF rfl rfl rfl rfl rfl ?_
                                                  refine WO.done ?_
                                                  refine At.seq_at ?_
                                                  exact fun a w hc hs => ⟨(!x284), hr, (hc.keep (hc.keep (hc.keep (hc.keep (hc.keep (hc.keep (hc.keep (hc.keep hc.nil (t := 207) rfl) (t := 13) rfl) (t := 9) rfl) (t := 8) rfl) (t := 7) rfl) (t := 5) rfl) (t := 1) rfl) (t := 0) rfl), hs⟩
                                            · rintro a w ⟨v251, hr, hc, hs⟩
                                              refine WC.use hc hs ?_
                                              clear hc hs
                                              unfold law12_CacheActs_k22 at hr
                                              refine WC.cond rfl (fun hb252 => ?_) (fun hb252 => ?_)
                                              · have hr := cond_t hb252 hr
                                                refine WC.then ?_
                                                refine WC.region [(0, true)] rfl ?_
                                                refine WO.assign rfl rfl rfl rfl ?_
                                                refine WO.done ?_
                                                refine At.seq_wc ?_
                                                refine WC.ret ?_
                                                refine At.block_ret ?_
                                                refine At.seq_ret ?_
                                                refine At.round_ret hr (fun hy => ?_)
                                                subst hy
                                                have hr := hk21
                                                refine At.block_ret ?_
                                                refine At.seq_ret ?_
                                                refine At.seq_ret ?_
                                                refine At.block_ret ?_
                                                refine At.seq_ret ?_
                                                refine At.round_ret hr (fun hy => ?_)
                                                subst hy
                                                have hr := hk13
                                                refine At.block_ret ?_
                                                refine At.seq_ret ?_
                                                refine At.seq_ret ?_
                                                obtain rfl := Option.some.inj hr
                                                exact At.ret (fun a w hc hs => (resVs_cons (hc.res rfl) resVs_nil)) (fun w hs => ⟨rfl, (hs.arrange 3 7 [2] [] (by decide))⟩)
                                              · have hr := cond_f hb252 hr
                                                refine WC.skip ?_
                                                refine At.block_normal ?_
                                                refine At.seq_wc ?_
                                                refine WC.region [(0, true), (1, true), (2, true)] rfl ?_
                                                refine WO.move rfl rfl rfl rfl ?_
                                                refine WO.bin rfl rfl rfl rfl rfl rfl ?_
                                                refine WO.assign rfl rfl rfl rfl ?_
                                                refine WO.done ?_
                                                refine At.round_next hr ?_
                                                exact fun a w hc hs => ⟨(hc.keep (hc.keep (hc.keep (hc.keep (hc.keep (hc.keep (hc.keep hc.nil (t := 13) rfl) (t := 9) rfl) (t := 8) rfl) (t := 7) rfl) (t := 5) rfl) (t := 1) rfl) (t := 0) rfl), (hs.arrange 3 7 [0, 1, 2] [5, 6, 7, 8, 9] (by decide))⟩
                                          · have hr := cond_f hb223 hr
                                            refine WC.exit ?_
                                            refine At.seq_exit ?_
                                            refine At.round_exit hr (fun hy => ?_)
                                            refine At.exit_block ?_
                                            refine At.seq_at ?_
                                            exact fun a w hc hs => ⟨hy, (hc.keep (hc.keep (hc.keep (hc.keep (hc.keep (hc.keep hc.nil (t := 9) rfl) (t := 8) rfl) (t := 7) rfl) (t := 5) rfl) (t := 1) rfl) (t := 0) rfl), hs⟩
                                      · rintro a w ⟨rfl, hc, hs⟩
                                        refine At.use hc hs ?_
                                        clear hc hs
                                        (try dsimp only at hk21)
                                        have hr := hk21
                                        refine At.seq_at ?_
                                        exact fun a w hc hs => ⟨hr, (hc.keep (hc.keep (hc.keep (hc.keep (hc.keep (hc.keep hc.nil (t := 9) rfl) (t := 8) rfl) (t := 7) rfl) (t := 5) rfl) (t := 1) rfl) (t := 0) rfl), hs⟩
                                    · rintro a w ⟨hr, hc, hs⟩
                                      refine WC.use hc hs ?_
                                      clear hc hs
                                      unfold law12_CacheActs_k18 at hr
                                      refine WC.then ?_
                                      refine WC.region [(0, true), (1, true), (2, false), (3, false), (4, true), (5, true), (6, true), (7, true), (8, true), (9, true), (10, true)] rfl ?_
                                      refine WO.move rfl rfl rfl rfl ?_
                                      refine WO.fieldAddr 1 rfl rfl rfl rfl fl_33_1 ?_
                                      refine WO.loadA 2 3 rfl rfl rfl rfl ag_30 rfl rfl rfl ?_
                                      obtain ⟨x192, hx193, hr⟩ := bind_some' hr
                                      refine WO.call rfl rfl rfl rfl rfl cl_13 (CallsRet.lay0 3 5 [0, 1] [7, 4, 2, 3, 5, 6] (by decide) (Mem.add (Mem.add F w109) w176) ([(b23, row [.int .i64 v183.room, .map (some b184)] 62)] :: p185 :: χ :: p180 :: [(b171, row [.int .i64 x160.Kind, .int .i64 x160.At.Request, .int .i64 x160.At.Layer, .int .i64 x160.At.Place, .slice a165 x160.K.length c166, .slice a168 x160.V.length c169] 33)] :: [(b36, row [.int .i64 v177.Room, .slice a178 v177.L.length c179] 52)] :: Φ) rfl rfl (cache_Store_Get_vm_ok (F := (Mem.add (Mem.add F w109) w176)) hm186 rfl hx193 (χ :: p180 :: [(b171, row [.int .i64 x160.Kind, .int .i64 x160.At.Request, .int .i64 x160.At.Layer, .int .i64 x160.At.Place, .slice a165 x160.K.length c166, .slice a168 x160.V.length c169] 33)] :: [(b36, row [.int .i64 v177.Room, .slice a178 v177.L.length c179] 52)] :: Φ))) ?_
                                      rintro _ _ ⟨a194, c195, p197, a199, c200, p202, rfl, hs204, h196, h201⟩
                                      have hs204 := (hs204.arrange 2 8 [0, 1, 6] [2, 3, 7, 5, 8, 9, 4] (by decide))
                                      refine ⟨(Mem.add (Mem.add (Mem.add F χ) w109) w176), (p197 :: p202 :: p180 :: p185 :: [(b171, row [.int .i64 x160.Kind, .int .i64 x160.At.Request, .int .i64 x160.At.Layer, .int .i64 x160.At.Place, .slice a165 x160.K.length c166, .slice a168 x160.V.length c169] 33)] :: [(b36, row [.int .i64 v177.Room, .slice a178 v177.L.length c179] 52)] :: [(b23, row [.int .i64 v183.room, .map (some b184)] 62)] :: Φ), hs204, trivial, ?_⟩
                                      refine WO.move rfl rfl rfl rfl ?_
                                      refine WO.extract rfl rfl rfl rfl rfl ?_
                                      refine WO.extract rfl rfl rfl rfl rfl ?_
                                      refine WO.extract rfl rfl rfl rfl rfl ?_
                                      refine WO.assign rfl rfl rfl rfl ?_
                                      refine WO.assign rfl rfl rfl rfl ?_
                                      refine WO.assign rfl rfl rfl rfl ?_
                                      refine WO.done ?_
                                      refine At.seq_wc ?_
                                      refine WC.seq (fun a w => ∃ (v206 : Bool), law12_CacheActs_k19 v110 v177 v183 v206 = some r13 ∧ Ctx 255 [(0, .int .i64 p0), (1, .slice a3 v2.length c4), (5, .pointer (some ⟨b23, 0, none⟩)), (7, .pointer (some ⟨b36, 0, none⟩)), (8, .int .i64 v110), (230, .bool v206)] a ∧ Sat (Mem.add (Mem.add (Mem.add F χ) w109) w176) (p197 :: p202 :: p180 :: p185 :: [(b171, row [.int .i64 x160.Kind, .int .i64 x160.At.Request, .int .i64 x160.At.Layer, .int .i64 x160.At.Place, .slice a165 x160.K.length c166, .slice a168 x160.V.length c169] 33)] :: [(b36, row [.int .i64 v177.Room, .slice a178 v177.L.length c179] 52)] :: [(b23, row [.int .i64 v183.room, .map (some b184)] 62)] :: Φ) w) ?_ ?_
                                      · refine WC.region [(0, true), (1, true), (2, true), (3, false), (4, false), (5, true), (6, true), (7, true), (8, true), (9, true), (10, true), (11, false), (12, false), (13, true), (14, true)] rfl ?_
                                        refine WO.move rfl rfl rfl rfl ?_
                                        refine WO.move rfl rfl rfl rfl ?_
                                        refine WO.fieldAddr 1 rfl rfl rfl rfl fl_33_1 ?_
                                        refine WO.loadA 4 3 rfl rfl rfl rfl ag_30 rfl rfl rfl ?_
                                        obtain ⟨x208, hx209, hr⟩ := bind_some' hr
                                        refine WO.call rfl rfl rfl rfl rfl cl_20 (CallsRet.lay0 3 7 [0, 1] [8, 5, 2, 3, 4, 6, 7, 9] (by decide) (Mem.add (Mem.add F w109) w176) ([(b36, row [.int .i64 v177.Room, .slice a178 v177.L.length c179] 52)] :: p180 :: χ :: p197 :: p202 :: p185 :: [(b171, row [.int .i64 x160.Kind, .int .i64 x160.At.Request, .int .i64 x160.At.Layer, .int .i64 x160.At.Place, .slice a165 x160.K.length c166, .slice a168 x160.V.length c169] 33)] :: [(b23, row [.int .i64 v183.room, .map (some b184)] 62)] :: Φ) rfl rfl (ref12_Store_Find_vo_ok (F := (Mem.add (Mem.add F w109) w176)) ho181 rfl hx209 (χ :: p197 :: p202 :: p185 :: [(b171, row [.int .i64 x160.Kind, .int .i64 x160.At.Request, .int .i64 x160.At.Layer, .int .i64 x160.At.Place, .slice a165 x160.K.length c166, .slice a168 x160.V.length c169] 33)] :: [(b23, row [.int .i64 v183.room, .map (some b184)] 62)] :: Φ))) ?_
                                        rintro _ _ ⟨rfl, hs210⟩
                                        have hs210 := (hs210.arrange 2 8 [0, 1, 4] [5, 6, 3, 7, 8, 2, 9] (by decide))
                                        refine ⟨(Mem.add (Mem.add (Mem.add F χ) w109) w176), (p197 :: p202 :: p180 :: p185 :: [(b171, row [.int .i64 x160.Kind, .int .i64 x160.At.Request, .int .i64 x160.At.Layer, .int .i64 x160.At.Place, .slice a165 x160.K.length c166, .slice a168 x160.V.length c169] 33)] :: [(b36, row [.int .i64 v177.Room, .slice a178 v177.L.length c179] 52)] :: [(b23, row [.int .i64 v183.room, .map (some b184)] 62)] :: Φ), hs210, trivial, ?_⟩
                                        refine WO.bin rfl rfl rfl rfl rfl rfl ?_
                                        refine WO.neB rfl rfl rfl rfl rfl Try.underlying4 ?_
                                        refine WO.move rfl rfl rfl rfl ?_
                                        refine WO.split (t := 223) rfl (fun hg211 => ?_) (fun hg211 => ?_)
                                        · have hr := cond_t hg211 hr
                                          refine WO.skip rfl rfl rfl rfl ?_
                                          refine WO.skip rfl rfl rfl rfl ?_
                                          refine WO.skip rfl rfl rfl rfl ?_
                                          refine WO.skipF rfl rfl rfl rfl ?_
                                          refine WO.skipF rfl rfl rfl rfl ?_
                                          refine WO.skip rfl rfl rfl rfl ?_
                                          refine WO.pickT rfl rfl rfl rfl rfl ?_
                                          refine WO.done ?_
                                          refine At.seq_at ?_
                                          exact fun a w hc hs => ⟨true, hr, (hc.keep (hc.keep (hc.keep (hc.keep (hc.keep (hc.keep hc.nil (t := 230) rfl) (t := 8) rfl) (t := 7) rfl) (t := 5) rfl) (t := 1) rfl) (t := 0) rfl), hs⟩
                                        · have hr := cond_f hg211 hr
                                          refine WO.move rfl rfl rfl rfl ?_
                                          refine WO.move rfl rfl rfl rfl ?_
                                          refine WO.fieldAddr 1 rfl rfl rfl rfl fl_33_1 ?_
                                          refine WO.loadA 4 3 rfl rfl rfl rfl ag_30 rfl rfl rfl ?_
                                          obtain ⟨x212, hx213, hr⟩ := bind_some' hr
                                          refine WO.call rfl rfl rfl rfl rfl cl_21 (CallsRet.lay0 3 7 [0, 1] [9, 6, 8, 5, 2, 3, 4, 7] (by decide) (Mem.add (Mem.add F w109) w176) ([(b23, row [.int .i64 v183.room, .map (some b184)] 62)] :: p185 :: [(b36, row [.int .i64 v177.Room, .slice a178 v177.L.length c179] 52)] :: p180 :: χ :: p197 :: p202 :: [(b171, row [.int .i64 x160.Kind, .int .i64 x160.At.Request, .int .i64 x160.At.Layer, .int .i64 x160.At.Place, .slice a165 x160.K.length c166, .slice a168 x160.V.length c169] 33)] :: Φ) rfl rfl (law12_lines_vm_vo_ok (F := (Mem.add (Mem.add F w109) w176)) hm186 ho181 rfl hx213 (χ :: p197 :: p202 :: [(b171, row [.int .i64 x160.Kind, .int .i64 x160.At.Request, .int .i64 x160.At.Layer, .int .i64 x160.At.Place, .slice a165 x160.K.length c166, .slice a168 x160.V.length c169] 33)] :: Φ))) ?_
                                          rintro _ _ ⟨rfl, hs214⟩
                                          have hs214 := (hs214.arrange 2 8 [0, 1, 6] [7, 8, 5, 3, 9, 4, 2] (by decide))
                                          refine ⟨(Mem.add (Mem.add (Mem.add F χ) w109) w176), (p197 :: p202 :: p180 :: p185 :: [(b171, row [.int .i64 x160.Kind, .int .i64 x160.At.Request, .int .i64 x160.At.Layer, .int .i64 x160.At.Place, .slice a165 x160.K.length c166, .slice a168 x160.V.length c169] 33)] :: [(b36, row [.int .i64 v177.Room, .slice a178 v177.L.length c179] 52)] :: [(b23, row [.int .i64 v183.room, .map (some b184)] 62)] :: Φ), hs214, trivial, ?_⟩
                                          refine WO.un rfl rfl rfl rfl rfl ?_
                                          refine WO.pickF rfl rfl rfl rfl rfl ?_
                                          refine WO.done ?_
                                          refine At.seq_at ?_
                                          exact fun a w hc hs => ⟨(!x212), hr, (hc.keep (hc.keep (hc.keep (hc.keep (hc.keep (hc.keep hc.nil (t := 230) rfl) (t := 8) rfl) (t := 7) rfl) (t := 5) rfl) (t := 1) rfl) (t := 0) rfl), hs⟩
                                      · rintro a w ⟨v206, hr, hc, hs⟩
                                        refine WC.use hc hs ?_
                                        clear hc hs
                                        unfold law12_CacheActs_k19 at hr
                                        refine WC.cond rfl (fun hb207 => ?_) (fun hb207 => ?_)
                                        · have hr := cond_t hb207 hr
                                          refine WC.then ?_
                                          refine WC.region [(0, true)] rfl ?_
                                          refine WO.assign rfl rfl rfl rfl ?_
                                          refine WO.done ?_
                                          refine At.seq_wc ?_
                                          refine WC.ret ?_
                                          refine At.block_ret ?_
                                          refine At.seq_ret ?_
                                          refine At.round_ret hr (fun hy => ?_)
                                          subst hy
                                          have hr := hk13
                                          refine At.block_ret ?_
                                          refine At.seq_ret ?_
                                          refine At.seq_ret ?_
                                          obtain rfl := Option.some.inj hr
                                          exact At.ret (fun a w hc hs => (resVs_cons (hc.res rfl) resVs_nil)) (fun w hs => ⟨rfl, (hs.arrange 3 7 [2] [] (by decide))⟩)
                                        · have hr := cond_f hb207 hr
                                          refine WC.skip ?_
                                          refine At.block_normal ?_
                                          refine At.seq_at ?_
                                          exact fun a w hc hs => ⟨v177, v183, a178, c179, p180, b184, p185, (List.flatten [w176]), hr, (hc.keep (hc.keep (hc.keep (hc.keep (hc.keep hc.nil (t := 8) rfl) (t := 7) rfl) (t := 5) rfl) (t := 1) rfl) (t := 0) rfl), ((hs.arrange 3 7 [0, 1, 2] [5, 6, 8, 9] (by decide)).gather 1), (ho181.mono mono_ref12_Row (Mem.le_gather (Mem.add (Mem.add F w109) w176) 1)), (hm186.mono (monoVA mono_cache_rows) (Mem.le_gather (Mem.add (Mem.add F w109) w176) 1))⟩
                        · rintro a w ⟨v149, v155, a150, c151, p152, b156, p157, w148, hr, hc, hs, ho153, hm158⟩
                          refine WC.use hc hs ?_
                          clear hc hs
                          unfold law12_CacheActs_k14 at hr
                          refine WC.region [(0, true), (1, true), (2, true)] rfl ?_
                          refine WO.move rfl rfl rfl rfl ?_
                          refine WO.bin rfl rfl rfl rfl rfl rfl ?_
                          refine WO.assign rfl rfl rfl rfl ?_
                          refine WO.done ?_
                          refine At.round_next hr ?_
                          exact fun a w hc hs => ⟨a150, c151, p152, b156, p157, (List.flatten [w148, w109]), (hc.keep (hc.keep (hc.keep (hc.keep (hc.keep hc.nil (t := 8) rfl) (t := 7) rfl) (t := 5) rfl) (t := 1) rfl) (t := 0) rfl), (hs.gather 2), (ho153.mono mono_ref12_Row (Mem.le_gather (Mem.add (Mem.add F w109) w148) 2)), (hm158.mono (monoVA mono_cache_rows) (Mem.le_gather (Mem.add (Mem.add F w109) w148) 2))⟩
                      · have hr := cond_f hb147 hr
                        refine WC.exit ?_
                        refine At.seq_exit ?_
                        refine At.round_exit hr (fun hy => ?_)
                        refine At.exit_block ?_
                        refine At.seq_at ?_
                        exact fun a w hc hs => ⟨v111, v117, a112, c113, p114, b118, p119, (List.flatten [w109]), hy, (hc.keep (hc.keep hc.nil (t := 7) rfl) (t := 5) rfl), (hs.gather 1), (ho115.mono mono_ref12_Row (Mem.le_gather (Mem.add F w109) 1)), (hm120.mono (monoVA mono_cache_rows) (Mem.le_gather (Mem.add F w109) 1))⟩
                  · rintro a w ⟨v136, v142, a137, c138, p139, b143, p144, w135, rfl, hc, hs, ho140, hm145⟩
                    refine At.use hc hs ?_
                    clear hc hs
                    (try dsimp only at hk13)
                    have hr := hk13
                    refine At.seq_at ?_
                    exact fun a w hc hs => ⟨v136, v142, a137, c138, p139, b143, p144, (List.flatten [w135]), hr, (hc.keep (hc.keep hc.nil (t := 7) rfl) (t := 5) rfl), (hs.gather 1), (ho140.mono mono_ref12_Row (Mem.le_gather (Mem.add F w135) 1)), (hm145.mono (monoVA mono_cache_rows) (Mem.le_gather (Mem.add F w135) 1))⟩
                · rintro a w ⟨v39, v45, a40, c41, p42, b46, p47, w38, hr, hc, hs, ho43, hm48⟩
                  refine WC.use hc hs ?_
                  clear hc hs
                  unfold law12_CacheActs_k8 at hr
                  refine WC.then ?_
                  refine WC.region [(0, true), (1, false), (2, true), (3, false), (4, true), (5, true)] rfl ?_
                  refine WO.move rfl rfl rfl rfl ?_
                  obtain ⟨x50, hx51, hr⟩ := bind_some' hr
                  refine WO.call rfl rfl rfl rfl rfl cl_15 (CallsRet.lay0 2 4 [0] [5, 3, 1, 2, 4] (by decide) (Mem.add F w38) ([(b23, row [.int .i64 v45.room, .map (some b46)] 62)] :: p47 :: χ :: p42 :: [(b36, row [.int .i64 v39.Room, .slice a40 v39.L.length c41] 52)] :: Φ) rfl rfl (cache_Store_Requests_vm_ok (F := (Mem.add F w38)) hm48 hx51 (χ :: p42 :: [(b36, row [.int .i64 v39.Room, .slice a40 v39.L.length c41] 52)] :: Φ))) ?_
                  rintro _ _ ⟨a52, c53, p55, b57, p58, rfl, hs61, h54, hm60⟩
                  have hs61 := (hs61.arrange 1 6 [0, 4] [1, 3, 5, 6, 2] (by decide))
                  refine ⟨(Mem.add (Mem.add F χ) w38), (p55 :: p58 :: p42 :: [(b36, row [.int .i64 v39.Room, .slice a40 v39.L.length c41] 52)] :: [(b23, row [.int .i64 x50.2.room, .map (some b57)] 62)] :: Φ), hs61, trivial, ?_⟩
                  refine WO.move rfl rfl rfl rfl ?_
                  obtain ⟨x62, hx63, hr⟩ := bind_some' hr
                  refine WO.call rfl rfl rfl rfl rfl cl_22 (CallsRet.lay0 2 5 [0] [5, 4, 1, 2, 3, 6] (by decide) (Mem.add F w38) ([(b36, row [.int .i64 v39.Room, .slice a40 v39.L.length c41] 52)] :: p42 :: χ :: p55 :: p58 :: [(b23, row [.int .i64 x50.2.room, .map (some b57)] 62)] :: Φ) rfl rfl (ref12_Store_Requests_vo_ok (F := (Mem.add F w38)) ho43 hx63 (χ :: p55 :: p58 :: [(b23, row [.int .i64 x50.2.room, .map (some b57)] 62)] :: Φ))) ?_
                  rintro _ _ ⟨a64, c65, p67, a69, c70, p72, rfl, hs74, h66, h71⟩
                  have hs74 := (hs74.arrange 1 7 [0, 4] [1, 3, 5, 6, 2, 7] (by decide))
                  refine ⟨(Mem.add (Mem.add F χ) w38), (p67 :: p72 :: p55 :: p58 :: [(b36, row [.int .i64 x62.2.Room, .slice a69 x62.2.L.length c70] 52)] :: [(b23, row [.int .i64 x50.2.room, .map (some b57)] 62)] :: Φ), hs74, trivial, ?_⟩
                  refine WO.assign rfl rfl rfl rfl ?_
                  refine WO.assign rfl rfl rfl rfl ?_
                  refine WO.done ?_
                  refine At.seq_wc ?_
                  refine WC.then ?_
                  refine WC.then ?_
                  refine WC.region [(0, true), (1, true), (2, true), (3, true), (4, true)] rfl ?_
                  refine WO.move rfl rfl rfl rfl ?_
                  refine WO.len rfl rfl rfl rfl Try.underlying46 ?_
                  refine WO.move rfl rfl rfl rfl ?_
                  refine WO.len rfl rfl rfl rfl Try.underlying46 ?_
                  refine WO.bin rfl rfl rfl rfl rfl rfl ?_
                  refine WO.done ?_
                  refine At.seq_wc ?_
                  refine WC.cond rfl (fun hb75 => ?_) (fun hb75 => ?_)
                  · have hr := cond_t hb75 hr
                    refine WC.then ?_
                    refine WC.region [(0, true)] rfl ?_
                    refine WO.assign rfl rfl rfl rfl ?_
                    refine WO.done ?_
                    refine At.seq_wc ?_
                    refine WC.ret ?_
                    refine At.seq_ret ?_
                    obtain rfl := Option.some.inj hr
                    exact At.ret (fun a w hc hs => (resVs_cons (hc.res rfl) resVs_nil)) (fun w hs => ⟨rfl, (hs.arrange 2 6 [1] [] (by decide))⟩)
                  · have hr := cond_f hb75 hr
                    refine WC.skip ?_
                    refine At.seq_wc ?_
                    refine WC.seq (fun a w => law12_CacheActs_k9  = some r ∧ Ctx 255 [] a ∧ Sat (Mem.add (Mem.add F χ) w38) (p67 :: p72 :: p55 :: p58 :: [(b36, row [.int .i64 x62.2.Room, .slice a69 x62.2.L.length c70] 52)] :: [(b23, row [.int .i64 x50.2.room, .map (some b57)] 62)] :: Φ) w) ?_ ?_
                    · refine WC.then ?_
                      refine WC.region [(0, true)] rfl ?_
                      refine WO.assign rfl rfl rfl rfl ?_
                      refine WO.done ?_
                      refine At.seq_wc ?_
                      obtain ⟨xl11, hl11, hk11⟩ := bind_some' hr
                      refine WC.weaken (fun a w => .brk () = xl11 ∧ Ctx 255 [] a ∧ Sat (Mem.add (Mem.add F χ) w38) (p67 :: p72 :: p55 :: p58 :: [(b36, row [.int .i64 x62.2.Room, .slice a69 x62.2.L.length c70] 52)] :: [(b23, row [.int .i64 x50.2.room, .map (some b57)] 62)] :: Φ) w) ?_ ?_
                      · refine WC.block ?_
                        refine WC.loop (fun (v81 : Int) a w => Ctx 255 [(20, .slice a52 x50.1.length c53), (21, .slice a64 x62.1.length c65), (22, .int .i64 v81)] a ∧ Sat (Mem.add (Mem.add F χ) w38) (p67 :: p72 :: p55 :: p58 :: [(b36, row [.int .i64 x62.2.Room, .slice a69 x62.2.L.length c70] 52)] :: [(b23, row [.int .i64 x50.2.room, .map (some b57)] 62)] :: Φ) w) hl11 ?_ ?_
                        · exact fun a w hc hs => ⟨(hc.keep (hc.keep (hc.keep hc.nil (t := 22) rfl) (t := 21) rfl) (t := 20) rfl), hs⟩
                        · rintro v81 r11 hr a w ⟨hc, hs⟩
                          refine WC.use hc hs ?_
                          clear hc hs
                          (try dsimp only at hr)
                          unfold law12_CacheActs_b10 at hr
                          refine WC.then ?_
                          refine WC.then ?_
                          refine WC.region [(0, true), (1, true), (2, true), (3, true)] rfl ?_
                          refine WO.move rfl rfl rfl rfl ?_
                          refine WO.move rfl rfl rfl rfl ?_
                          refine WO.len rfl rfl rfl rfl Try.underlying46 ?_
                          refine WO.bin rfl rfl rfl rfl rfl rfl ?_
                          refine WO.done ?_
                          refine At.seq_wc ?_
                          refine WC.cond rfl (fun hb85 => ?_) (fun hb85 => ?_)
                          · have hr := cond_t hb85 hr
                            refine WC.skip ?_
                            refine At.seq_wc ?_
                            refine WC.then ?_
                            refine WC.block ?_
                            refine WC.then ?_
                            refine WC.draw (Sat (Mem.add (Mem.add F χ) w38) (p67 :: p72 :: p55 :: p58 :: [(b36, row [.int .i64 x62.2.Room, .slice a69 x62.2.L.length c70] 52)] :: [(b23, row [.int .i64 x50.2.room, .map (some b57)] 62)] :: Φ)) (fun _ h => (h.arrange 2 6 [0, 1] [2, 3, 4, 5, 6, 7] (by decide))) [(0, true), (1, true), (2, true), (3, true), (4, true), (5, true), (6, true), (7, true), (8, true)] mixed (by kernel_rfl) rfl (by kernel_rfl) ?_
                            refine WO.move rfl rfl rfl rfl ?_
                            refine WO.move rfl rfl rfl rfl ?_
                            obtain ⟨x86, hx87, hr⟩ := bind_some' hr
                            refine WO.indexO h54 hx87 rfl rfl rfl rfl rfl rfl Try.underlying46 sz_3 (fun b88 hb89 => ?_)
                            subst hb89
                            refine WO.loadOY 2 h54 hx87 rfl rfl rfl rfl rfl sc_3 ?_
                            refine WO.move rfl rfl rfl rfl ?_
                            refine WO.move rfl rfl rfl rfl ?_
                            obtain ⟨x90, hx91, hr⟩ := bind_some' hr
                            refine WO.indexO h66 hx91 rfl rfl rfl rfl rfl rfl Try.underlying46 sz_3 (fun b92 hb93 => ?_)
                            subst hb93
                            refine WO.loadOY 0 h66 hx91 rfl rfl rfl rfl rfl sc_3 ?_
                            refine WO.bin rfl rfl rfl rfl rfl rfl ?_
                            refine WO.done ?_
                            refine At.seq_wc ?_
                            refine WC.cond rfl (fun hb94 => ?_) (fun hb94 => ?_)
                            · have hr := cond_t hb94 hr
                              refine WC.then ?_
                              refine WC.region [(0, true)] rfl ?_
                              refine WO.assign rfl rfl rfl rfl ?_
                              refine WO.done ?_
                              refine At.seq_wc ?_
                              refine WC.ret ?_
                              refine At.block_ret ?_
                              refine At.seq_ret ?_
                              refine At.round_ret hr (fun hy => ?_)
                              subst hy
                              have hr := hk11
                              refine At.block_ret ?_
                              refine At.seq_ret ?_
                              refine At.seq_ret ?_
                              obtain rfl := Option.some.inj hr
                              exact At.ret (fun a w hc hs => (resVs_cons (hc.res rfl) resVs_nil)) (fun w hs => ⟨rfl, (hs.arrange 2 6 [1] [] (by decide))⟩)
                            · have hr := cond_f hb94 hr
                              refine WC.skip ?_
                              refine At.block_normal ?_
                              refine At.seq_wc ?_
                              refine WC.region [(0, true), (1, true), (2, true)] rfl ?_
                              refine WO.move rfl rfl rfl rfl ?_
                              refine WO.bin rfl rfl rfl rfl rfl rfl ?_
                              refine WO.assign rfl rfl rfl rfl ?_
                              refine WO.done ?_
                              refine At.round_next hr ?_
                              exact fun a w hc hs => ⟨(hc.keep (hc.keep (hc.keep hc.nil (t := 22) rfl) (t := 21) rfl) (t := 20) rfl), hs⟩
                          · have hr := cond_f hb85 hr
                            refine WC.exit ?_
                            refine At.seq_exit ?_
                            refine At.round_exit hr (fun hy => ?_)
                            refine At.exit_block ?_
                            refine At.seq_at ?_
                            exact fun a w hc hs => ⟨hy, hc.nil, hs⟩
                      · rintro a w ⟨rfl, hc, hs⟩
                        refine At.use hc hs ?_
                        clear hc hs
                        (try dsimp only at hk11)
                        have hr := hk11
                        refine At.seq_at ?_
                        exact fun a w hc hs => ⟨hr, hc.nil, hs⟩
                    · rintro a w ⟨hr, hc, hs⟩
                      refine WC.use hc hs ?_
                      clear hc hs
                      unfold law12_CacheActs_k9 at hr
                      refine WC.then ?_
                      refine WC.region [(0, true)] rfl ?_
                      refine WO.assign rfl rfl rfl rfl ?_
                      refine WO.done ?_
                      refine At.seq_wc ?_
                      refine WC.ret ?_
                      obtain rfl := Option.some.inj hr
                      exact At.ret (fun a w hc hs => (resVs_cons (hc.res rfl) resVs_nil)) (fun w hs => ⟨rfl, (hs.arrange 2 6 [1] [] (by decide))⟩)
end
end Go.Pel
