/- Each function: its pure text, and that it comes to it. -/
import Derived.Test.YtnbnipdhfgemaaaPelAdmitX0
set_option linter.unusedVariables false
set_option maxHeartbeats 2000000
namespace Go.Pel
open Go.RowKit Go.Proofs
noncomputable section
/-! slices.DeleteFunc[[]peloton/api.Request,peloton/api.Request] -/
def slices_DeleteFunc_api_Request_api_Request_w_Fadmit_Desk_Cancel_1_p_k1 (v9 : List S_api_Request) (v15 : Int) : Option (List S_api_Request) := guardO (0 ≤ v15 ∧ v15 ≤ (v9.length : Int)) ((subL (List.take (Int.toNat v15) v9 ++ List.replicate (v9.length - (Int.toNat v15)) (⟨0, 0, ([] : List Int)⟩ : S_api_Request)) 0 v15).bind fun x22 => some x22)
def slices_DeleteFunc_api_Request_api_Request_w_Fadmit_Desk_Cancel_1_p_k4 (v44 : Int) (v64 : List S_api_Request) (v70 : Int) : Option (((List S_api_Request) × Int × Int) ⊕ ((List S_api_Request) × Int)) := some (.inl (v64, v70, (IntKind.wrap .i64 (v44 + 1))))
def slices_DeleteFunc_api_Request_api_Request_w_Fadmit_Desk_Cancel_1_p_b2 (p1_0 : List Int) (v37 : List S_api_Request) (v43 : Int) (v44 : Int) : Option (((List S_api_Request) × Int × Int) ⊕ ((List S_api_Request) × Int)) := cond (decide (v44 < (v37.length : Int))) ((getI v37 v44).bind fun x71 => (admit_Desk_Cancel_1_p x71 p1_0).bind fun x83 => cond (!x83) ((getI v37 v43).bind fun x87 => slices_DeleteFunc_api_Request_api_Request_w_Fadmit_Desk_Cancel_1_p_k4 v44 (List.set v37 (Int.toNat v43) x71) (IntKind.wrap .i64 (v43 + 1))) (slices_DeleteFunc_api_Request_api_Request_w_Fadmit_Desk_Cancel_1_p_k4 v44 v37 v43)) (some (.inr (v37, v43)))
def slices_DeleteFunc_api_Request_api_Request_w_Fadmit_Desk_Cancel_1_p (p0 : List S_api_Request) (p1_0 : List Int) : Option (List S_api_Request) := (slices_IndexFunc_api_Request_api_Request_Fadmit_Desk_Cancel_1_p p0 p1_0).bind fun x4 => cond (x4 == (-1)) (some p0) ((loopO (fun s => slices_DeleteFunc_api_Request_api_Request_w_Fadmit_Desk_Cancel_1_p_b2 p1_0 s.1 s.2.1 s.2.2) (p0, x4, (IntKind.wrap .i64 (x4 + 1)))).bind (fun (v55, v61) => slices_DeleteFunc_api_Request_api_Request_w_Fadmit_Desk_Cancel_1_p_k1 v55 v61))
theorem slices_DeleteFunc_api_Request_api_Request_w_Fadmit_Desk_Cancel_1_p_ok {F : Mem} {χ : List Chunk} {p0 : List S_api_Request} {p1_0 : List Int} {a_0 : Option Addr} {c_0 : Nat} {ψ_0 : List Chunk} (ho_0 : OwnL 3 R_api_Request F 37 a_0 c_0 p0 ψ_0) {b_1_0 o_1_0 : Nat} {cs_1_0 : List Value} (hc_1_0 : Cells (Mem.add F χ) b_1_0 o_1_0 cs_1_0) (h_1_0 : (RSl 1 (RInt .i64)) (Mem.add F χ) cs_1_0 p1_0) {r : (List S_api_Request)} (hr : slices_DeleteFunc_api_Request_api_Request_w_Fadmit_Desk_Cancel_1_p p0 p1_0 = some r) (Φ : List (List Chunk)) :
    CallsRet Try.prog 26 (List.toArray [.slice a_0 p0.length c_0, .func (.func 27) #[] #[.pointer (some ⟨b_1_0, o_1_0, none⟩)]]) (Mem.add F χ) (ψ_0 :: Φ) (fun v w => ∃ a0 c0 ψ0, v = .slice a0 r.length c0 ∧ Sat (Mem.add F χ) (ψ0 :: Φ) w ∧ OwnL 3 R_api_Request F 37 a0 c0 r ψ0) := by
  obtain ⟨a1, c2, rfl, h3⟩ := h_1_0
  refine CallsRet.enter (rs := [.tmp 4]) Try.func26 rfl rfl rfl rfl ?_
  unfold slices_DeleteFunc_api_Request_api_Request_w_Fadmit_Desk_Cancel_1_p at hr
  refine WC.then ?_
  refine WC.region [(0, true)] rfl ?_
  refine WO.assign rfl rfl rfl rfl ?_
  refine WO.done ?_
  refine At.seq_wc ?_
  refine WC.then ?_
  refine WC.region [(0, true), (1, true), (2, false), (3, true)] rfl ?_
  refine WO.move rfl rfl rfl rfl ?_
  refine WO.move rfl rfl rfl rfl ?_
  obtain ⟨x4, hx5, hr⟩ := bind_some' hr
  refine WO.call rfl rfl rfl rfl rfl cl_32 (CallsRet.lay 1 1 2 [1, 0] [] (by decide) (Mem.add F (List.flatten [ψ_0, χ])) (Φ) rfl rfl (slices_IndexFunc_api_Request_api_Request_Fadmit_Desk_Cancel_1_p_ok (F := F) (χ := (List.flatten [ψ_0, χ])) ((ho_0.rd mono_api_Request).mono mono_api_Request (Mem.le.trans (Mem.le_pick (Mem.add (Mem.add F χ) ψ_0) 2 [0] (by decide)) (Mem.le_gather (Mem.add (Mem.add F χ) ψ_0) 2))) (hc_1_0.mono (Mem.le.trans (Mem.le_pick (Mem.add (Mem.add F χ) ψ_0) 2 [1] (by decide)) (Mem.le_gather (Mem.add (Mem.add F χ) ψ_0) 2))) ⟨_, _, rfl, (h3.mono (mono_int _) (Mem.le.trans (Mem.le_pick (Mem.add (Mem.add F χ) ψ_0) 2 [1] (by decide)) (Mem.le_gather (Mem.add (Mem.add F χ) ψ_0) 2)))⟩ hx5 (Φ))) ?_
  rintro _ _ ⟨rfl, hs6⟩
  have hs6 := Sat.unlay F [ψ_0, χ] hs6
  have hs6 := (hs6.arrange 2 0 [1] [0] (by decide))
  refine ⟨(Mem.add F χ), (ψ_0 :: Φ), hs6, trivial, ?_⟩
  refine WO.assign rfl rfl rfl rfl ?_
  refine WO.done ?_
  refine At.seq_wc ?_
  refine WC.then ?_
  refine WC.then ?_
  refine WC.region [(0, true), (1, true)] rfl ?_
  refine WO.move rfl rfl rfl rfl ?_
  refine WO.bin rfl rfl rfl rfl rfl rfl ?_
  refine WO.done ?_
  refine At.seq_wc ?_
  refine WC.cond rfl (fun hb7 => ?_) (fun hb7 => ?_)
  · have hr := cond_t hb7 hr
    refine WC.then ?_
    refine WC.region [(0, true), (1, true)] rfl ?_
    refine WO.move rfl rfl rfl rfl ?_
    refine WO.assign rfl rfl rfl rfl ?_
    refine WO.done ?_
    refine At.seq_wc ?_
    refine WC.ret ?_
    refine At.seq_ret ?_
    obtain rfl := Option.some.inj hr
    exact At.ret (fun a w hc hs => (resVs_cons (hc.res rfl) resVs_nil)) (fun w hs => ⟨_, _, _, rfl, hs, ho_0⟩)
  · have hr := cond_f hb7 hr
    refine WC.skip ?_
    refine At.seq_wc ?_
    refine WC.seq (fun a w => ∃ (v9 : List S_api_Request) (v15 : Int) (a10 : Option Addr) (c11 : Nat) (p12 : List Chunk), slices_DeleteFunc_api_Request_api_Request_w_Fadmit_Desk_Cancel_1_p_k1 v9 v15 = some r ∧ Ctx 42 [(0, .slice a10 v9.length c11), (5, .int .i64 v15)] a ∧ Sat (Mem.add F χ) (p12 :: Φ) w ∧ OwnL 3 R_api_Request F 37 a10 c11 v9 p12) ?_ ?_
    · refine WC.then ?_
      refine WC.region [(0, true), (1, true), (2, true)] rfl ?_
      refine WO.move rfl rfl rfl rfl ?_
      refine WO.bin rfl rfl rfl rfl rfl rfl ?_
      refine WO.assign rfl rfl rfl rfl ?_
      refine WO.done ?_
      refine At.seq_wc ?_
      obtain ⟨xl3, hl3, hk3⟩ := bind_some' hr
      refine WC.weaken (fun a w => ∃ (v55 : List S_api_Request) (v61 : Int) (a56 : Option Addr) (c57 : Nat) (p58 : List Chunk), (v55, v61) = xl3 ∧ Ctx 42 [(0, .slice a56 v55.length c57), (5, .int .i64 v61)] a ∧ Sat (Mem.add F χ) (p58 :: Φ) w ∧ OwnL 3 R_api_Request F 37 a56 c57 v55 p58) ?_ ?_
      · refine WC.block ?_
        refine WC.loop (fun ⟨v37, v43, v44⟩ a w => ∃ (a38 : Option Addr) (c39 : Nat) (p40 : List Chunk), Ctx 42 [(0, .slice a38 v37.length c39), (1, .func (.func 27) #[] #[.pointer (some ⟨b_1_0, o_1_0, none⟩)]), (5, .int .i64 v43), (6, .int .i64 v44)] a ∧ Sat (Mem.add F χ) (p40 :: Φ) w ∧ OwnL 3 R_api_Request F 37 a38 c39 v37 p40) hl3 ?_ ?_
        · exact fun a w hc hs => ⟨a_0, c_0, ψ_0, (hc.keep (hc.keep (hc.keep (hc.keep hc.nil (t := 6) rfl) (t := 5) rfl) (t := 1) rfl) (t := 0) rfl), hs, ho_0⟩
        · rintro ⟨v37, v43, v44⟩ r3 hr a w ⟨a38, c39, p40, hc, hs, ho41⟩
          refine WC.use hc hs ?_
          clear hc hs
          (try dsimp only at hr)
          unfold slices_DeleteFunc_api_Request_api_Request_w_Fadmit_Desk_Cancel_1_p_b2 at hr
          refine WC.then ?_
          refine WC.then ?_
          refine WC.region [(0, true), (1, true), (2, true), (3, true)] rfl ?_
          refine WO.move rfl rfl rfl rfl ?_
          refine WO.move rfl rfl rfl rfl ?_
          refine WO.len rfl rfl rfl rfl Try.underlying32 ?_
          refine WO.bin rfl rfl rfl rfl rfl rfl ?_
          refine WO.done ?_
          refine At.seq_wc ?_
          refine WC.cond rfl (fun hb62 => ?_) (fun hb62 => ?_)
          · have hr := cond_t hb62 hr
            refine WC.skip ?_
            refine At.seq_wc ?_
            refine WC.seq (fun a w => ∃ (v64 : List S_api_Request) (v70 : Int) (a65 : Option Addr) (c66 : Nat) (p67 : List Chunk), slices_DeleteFunc_api_Request_api_Request_w_Fadmit_Desk_Cancel_1_p_k4 v44 v64 v70 = some r3 ∧ Ctx 42 [(0, .slice a65 v64.length c66), (1, .func (.func 27) #[] #[.pointer (some ⟨b_1_0, o_1_0, none⟩)]), (5, .int .i64 v70), (6, .int .i64 v44)] a ∧ Sat (Mem.add F χ) (p67 :: Φ) w ∧ OwnL 3 R_api_Request F 37 a65 c66 v64 p67) ?_ ?_
            · refine WC.block ?_
              refine WC.then ?_
              refine WC.region [(0, true), (1, true), (2, true), (3, false), (4, false), (5, false)] rfl ?_
              refine WO.move rfl rfl rfl rfl ?_
              refine WO.move rfl rfl rfl rfl ?_
              obtain ⟨x71, hx72, hr⟩ := bind_some' hr
              refine WO.indexQ ho41 hx72 rfl rfl rfl rfl rfl rfl Try.underlying32 sz_37 (fun b73 cs74 hb75 h76 hq77 => ?_)
              subst hb75
              obtain ⟨a78, c79, rfl, h80⟩ := h76
              refine WO.loadQA 0 0 3 hq77 rfl rfl rfl rfl rfl rfl ag_37 rfl rfl ?_
              refine WO.alloc (.agg #[.int .i64 0, .int .i64 0, .slice none 0 0]) rfl rfl rfl zb_37 rfl (fun _ _ _ => trivial) (fun b81 => ?_)
              refine WO.storeA 0 3 rfl rfl rfl rfl sz_37 rfl rfl rfl rfl (fun _ _ => trivial) ?_
              refine WO.done ?_
              refine At.seq_wc ?_
              refine WC.then ?_
              refine WC.region [(0, true), (1, false), (2, false), (3, true)] rfl ?_
              refine WO.move rfl rfl rfl rfl ?_
              refine WO.loadA 0 3 rfl rfl rfl rfl ag_37 rfl rfl rfl ?_
              obtain ⟨x83, hx84, hr⟩ := bind_some' hr
              refine WO.call rfl rfl rfl rfl rfl cl_27 (CallsRet.lay 1 2 1 [0] [1, 2] (by decide) (Mem.add F (List.flatten [χ])) ([(b81, row [.int .i64 x71.ID, .int .i64 x71.Most, .slice a78 x71.Prompt.length c79] 37)] :: p40 :: Φ) rfl rfl (admit_Desk_Cancel_1_p_ok (F := F) (χ := (List.flatten [χ])) ⟨_, _, rfl, (h80.mono (mono_int _) (Mem.le.trans (Mem.le_pick (Mem.add F χ) 1 [] (by decide)) (Mem.le_gather (Mem.add F χ) 1)))⟩ (hc_1_0.mono (Mem.le_gather (Mem.add F χ) 1)) ⟨_, _, rfl, (h3.mono (mono_int _) (Mem.le_gather (Mem.add F χ) 1))⟩ hx84 ([(b81, row [.int .i64 x71.ID, .int .i64 x71.Most, .slice a78 x71.Prompt.length c79] 37)] :: p40 :: Φ))) ?_
              rintro _ _ ⟨rfl, hs85⟩
              have hs85 := Sat.unlay F [χ] hs85
              have hs85 := (hs85.arrange 1 2 [0] [1, 2] (by decide))
              refine ⟨(Mem.add F χ), ([(b81, row [.int .i64 x71.ID, .int .i64 x71.Most, .slice a78 x71.Prompt.length c79] 37)] :: p40 :: Φ), hs85, trivial, ?_⟩
              refine WO.un rfl rfl rfl rfl rfl ?_
              refine WO.done ?_
              refine At.seq_wc ?_
              refine WC.cond rfl (fun hb86 => ?_) (fun hb86 => ?_)
              · have hr := cond_t hb86 hr
                refine WC.then ?_
                refine WC.region [(0, true), (1, true), (2, false), (3, true), (4, false)] rfl ?_
                refine WO.move rfl rfl rfl rfl ?_
                refine WO.move rfl rfl rfl rfl ?_
                refine WO.loadA 0 3 rfl rfl rfl rfl ag_37 rfl rfl rfl ?_
                obtain ⟨x87, hx88, hr⟩ := bind_some' hr
                refine WO.indexQ ho41 hx88 rfl rfl rfl rfl rfl rfl Try.underlying32 sz_37 (fun b89 cs90 hb91 h92 hq93 => ?_)
                obtain rfl : b73 = b89 := by cases hb91; rfl
                obtain ⟨a94, c95, rfl, h96⟩ := h92
                refine WO.storeQA 1 0 3 x71 hq93 rfl rfl rfl rfl rfl rfl sz_37 rfl rfl rfl ⟨_, _, rfl, h80⟩ rfl (fun _ _ _ => trivial) (fun p97 ho98 hq99 => ?_)
                refine WO.relen 0 (k' := (List.set v37 (Int.toNat v43) x71).length) rfl (List.length_set ..).symm ?_
                refine WO.relen 17 (k' := (List.set v37 (Int.toNat v43) x71).length) rfl (List.length_set ..).symm ?_
                refine WO.relen 22 (k' := (List.set v37 (Int.toNat v43) x71).length) rfl (List.length_set ..).symm ?_
                refine WO.relen 30 (k' := (List.set v37 (Int.toNat v43) x71).length) rfl (List.length_set ..).symm ?_
                refine WO.done ?_
                refine At.seq_wc ?_
                refine WC.region [(0, true), (1, true), (2, true)] rfl ?_
                refine WO.move rfl rfl rfl rfl ?_
                refine WO.bin rfl rfl rfl rfl rfl rfl ?_
                refine WO.assign rfl rfl rfl rfl ?_
                refine WO.done ?_
                refine At.block_normal ?_
                refine At.seq_at ?_
                exact fun a w hc hs => ⟨(List.set v37 (Int.toNat v43) x71), (IntKind.wrap .i64 (v43 + 1)), (some ⟨b73, 0, none⟩), c39, p97, hr, (hc.keep (hc.keep (hc.keep (hc.keep hc.nil (t := 6) rfl) (t := 5) rfl) (t := 1) rfl) (t := 0) rfl), (hs.arrange 1 2 [0] [2] (by decide)), ho98⟩
              · have hr := cond_f hb86 hr
                refine WC.skip ?_
                refine At.block_normal ?_
                refine At.seq_at ?_
                exact fun a w hc hs => ⟨v37, v43, (some ⟨b73, 0, none⟩), c39, p40, hr, (hc.keep (hc.keep (hc.keep (hc.keep hc.nil (t := 6) rfl) (t := 5) rfl) (t := 1) rfl) (t := 0) rfl), (hs.arrange 1 2 [0] [2] (by decide)), ho41⟩
            · rintro a w ⟨v64, v70, a65, c66, p67, hr, hc, hs, ho68⟩
              refine WC.use hc hs ?_
              clear hc hs
              unfold slices_DeleteFunc_api_Request_api_Request_w_Fadmit_Desk_Cancel_1_p_k4 at hr
              refine WC.region [(0, true), (1, true), (2, true)] rfl ?_
              refine WO.move rfl rfl rfl rfl ?_
              refine WO.bin rfl rfl rfl rfl rfl rfl ?_
              refine WO.assign rfl rfl rfl rfl ?_
              refine WO.done ?_
              refine At.round_next hr ?_
              exact fun a w hc hs => ⟨a65, c66, p67, (hc.keep (hc.keep (hc.keep (hc.keep hc.nil (t := 6) rfl) (t := 5) rfl) (t := 1) rfl) (t := 0) rfl), hs, ho68⟩
          · have hr := cond_f hb62 hr
            refine WC.exit ?_
            refine At.seq_exit ?_
            refine At.round_exit hr (fun hy => ?_)
            refine At.exit_block ?_
            refine At.seq_at ?_
            exact fun a w hc hs => ⟨v37, v43, a38, c39, p40, hy, (hc.keep (hc.keep hc.nil (t := 5) rfl) (t := 0) rfl), hs, ho41⟩
      · rintro a w ⟨v55, v61, a56, c57, p58, rfl, hc, hs, ho59⟩
        refine At.use hc hs ?_
        clear hc hs
        (try dsimp only at hk3)
        have hr := hk3
        refine At.seq_at ?_
        exact fun a w hc hs => ⟨v55, v61, a56, c57, p58, hr, (hc.keep (hc.keep hc.nil (t := 5) rfl) (t := 0) rfl), hs, ho59⟩
    · rintro a w ⟨v9, v15, a10, c11, p12, hr, hc, hs, ho13⟩
      refine WC.use hc hs ?_
      clear hc hs
      unfold slices_DeleteFunc_api_Request_api_Request_w_Fadmit_Desk_Cancel_1_p_k1 at hr
      refine WC.then ?_
      refine WC.region [(0, true), (1, true), (2, true), (3, false)] rfl ?_
      refine WO.move rfl rfl rfl rfl ?_
      refine WO.move rfl rfl rfl rfl ?_
      obtain ⟨hk16, hr⟩ := guardO_some hr
      refine WO.sliceTail ho13 hk16 rfl rfl rfl rfl rfl rfl Try.underlying32 sz_37 (fun a17 c18 ht19 => ?_)
      refine WO.clearTail (zs := [.int .i64 0, .int .i64 0, .slice none 0 0]) (z' := (⟨0, 0, ([] : List Int)⟩ : S_api_Request)) 0 ho13 ht19 (by have := hk16; omega) rfl zb_37 rfl rfl rfl ⟨_, _, rfl, RdL.nil⟩ rfl rfl rfl rfl Try.underlying32 (fun _ _ _ => trivial) (fun p20 ho21 => ?_)
      refine WO.relen 0 (k' := (List.take (Int.toNat v15) v9 ++ List.replicate (v9.length - (Int.toNat v15)) (⟨0, 0, ([] : List Int)⟩ : S_api_Request)).length) rfl (by simp only [List.length_append, List.length_take, List.length_replicate]; have := hk16; omega) ?_
      refine WO.relen 36 (k' := (List.take (Int.toNat v15) v9 ++ List.replicate (v9.length - (Int.toNat v15)) (⟨0, 0, ([] : List Int)⟩ : S_api_Request)).length) rfl (by simp only [List.length_append, List.length_take, List.length_replicate]; have := hk16; omega) ?_
      refine WO.done ?_
      refine At.seq_wc ?_
      refine WC.then ?_
      refine WC.region [(0, true), (1, true), (2, true), (3, true)] rfl ?_
      refine WO.move rfl rfl rfl rfl ?_
      refine WO.move rfl rfl rfl rfl ?_
      obtain ⟨x22, hx23, hr⟩ := bind_some' hr
      refine WO.sliceTo ho21 hx23 rfl rfl rfl rfl rfl rfl Try.underlying32 sz_37 (fun a24 ho25 => ?_)
      refine WO.assign rfl rfl rfl rfl ?_
      refine WO.done ?_
      refine At.seq_wc ?_
      refine WC.ret ?_
      obtain rfl := Option.some.inj hr
      exact At.ret (fun a w hc hs => (resVs_cons (hc.res rfl) resVs_nil)) (fun w hs => ⟨_, _, _, rfl, hs, ho25⟩)
/-! (*peloton/admit.Desk).Cancel -/
def admit_Desk_Cancel_vvvvvvvom (p0 : S_admit_Desk) (p1 : List Int) : Option (Int × S_admit_Desk) := (slices_DeleteFunc_api_Request_api_Request_w_Fadmit_Desk_Cancel_1_p p0.row p1).bind fun x4 => some ((IntKind.wrap .i64 ((p0.row.length : Int) - (x4.length : Int))), (⟨p0.s, p0.room, x4, p0.took⟩ : S_admit_Desk))
theorem admit_Desk_Cancel_vvvvvvvom_ok {F : Mem} {χ : List Chunk} {p0 : S_admit_Desk} {p1 : List Int} {b_0 : Nat} {a_0_7 : Option Addr} {c_0_7 : Nat} {ψ_0_7 : List Chunk} (ho_0_7 : OwnL 3 R_api_Request F 37 a_0_7 c_0_7 p0.row ψ_0_7) {bm_0_8 : Nat} {ψ_0_8 : List Chunk} (hm_0_8 : OwnM (fun x : Int => Value.int .i64 x) (RV1 RBool) F bm_0_8 p0.took ψ_0_8) {a_1 : Option Addr} {c_1 : Nat} (h_1 : RdL 1 (RInt .i64) (Mem.add F χ) a_1 c_1 p1) {r : Int × S_admit_Desk} (hr : admit_Desk_Cancel_vvvvvvvom p0 p1 = some r) (Φ : List (List Chunk)) :
    CallsRet Try.prog 12 (List.toArray [.pointer (some ⟨b_0, 0, none⟩), .slice a_1 p1.length c_1]) (Mem.add F χ) ([(b_0, row [.int .i64 p0.s.Layers, .int .i64 p0.s.Width, .int .i64 p0.s.Heads, .int .i64 p0.s.Inner, .int .i64 p0.s.Vocab, .int .i64 p0.s.Places, .int .i64 p0.room, .slice a_0_7 p0.row.length c_0_7, .map (some bm_0_8)] 57)] :: ψ_0_7 :: ψ_0_8 :: Φ) (fun v w => ∃ a0_7 c0_7 ψ0_7 bm0_8 ψ0_8, v = .int .i64 r.1 ∧ Sat (Mem.add F χ) ([(b_0, row [.int .i64 r.2.s.Layers, .int .i64 r.2.s.Width, .int .i64 r.2.s.Heads, .int .i64 r.2.s.Inner, .int .i64 r.2.s.Vocab, .int .i64 r.2.s.Places, .int .i64 r.2.room, .slice a0_7 r.2.row.length c0_7, .map (some bm0_8)] 57)] :: ψ0_7 :: ψ0_8 :: Φ) w ∧ OwnL 3 R_api_Request F 37 a0_7 c0_7 r.2.row ψ0_7 ∧ OwnM (fun x : Int => Value.int .i64 x) (RV1 RBool) F bm0_8 r.2.took ψ0_8) := by
  refine CallsRet.enter (rs := [.tmp 4]) Try.func12 rfl rfl rfl rfl ?_
  unfold admit_Desk_Cancel_vvvvvvvom at hr
  refine WC.then ?_
  refine WC.region [(0, false), (1, true)] rfl ?_
  refine WO.box rfl rfl rfl rfl rfl (fun _ _ _ => trivial) (fun b1 => ?_)
  refine WO.assign rfl rfl rfl rfl ?_
  refine WO.done ?_
  refine At.seq_wc ?_
  refine WC.then ?_
  refine WC.region [(0, true), (1, true), (2, true), (3, false), (4, true), (5, true)] rfl ?_
  refine WO.move rfl rfl rfl rfl ?_
  refine WO.nilCheck rfl rfl rfl rfl ?_
  refine WO.fieldAddr 7 rfl rfl rfl rfl fl_57_2 ?_
  refine WO.load 1 rfl rfl rfl rfl sc_32 rfl rfl ?_
  refine WO.len rfl rfl rfl rfl Try.underlying32 ?_
  refine WO.assign rfl rfl rfl rfl ?_
  refine WO.done ?_
  refine At.seq_wc ?_
  refine WC.then ?_
  refine WC.region [(0, true), (1, true), (2, true), (3, true), (4, false), (5, true), (6, false), (7, true), (8, true), (9, false)] rfl ?_
  refine WO.move rfl rfl rfl rfl ?_
  refine WO.move rfl rfl rfl rfl ?_
  refine WO.nilCheck rfl rfl rfl rfl ?_
  refine WO.fieldAddr 7 rfl rfl rfl rfl fl_57_2 ?_
  refine WO.load 1 rfl rfl rfl rfl sc_32 rfl rfl ?_
  refine WO.freeze 0 rfl ?_
  have hc3 := Cells.ofAdd F b1 [.slice a_1 p1.length c_1] 33
  refine WO.makeFunc (ca := [.tmp 3]) rfl rfl rfl rfl ?_
  obtain ⟨x4, hx5, hr⟩ := bind_some' hr
  refine WO.call rfl rfl rfl rfl rfl cl_26 (CallsRet.lay 2 3 2 [0, 1] [3, 2, 4] (by decide) (Mem.add F (List.flatten [[(b1, row [.slice a_1 p1.length c_1] 33)], χ])) (ψ_0_7 :: [(b_0, row [.int .i64 p0.s.Layers, .int .i64 p0.s.Width, .int .i64 p0.s.Heads, .int .i64 p0.s.Inner, .int .i64 p0.s.Vocab, .int .i64 p0.s.Places, .int .i64 p0.room, .slice a_0_7 p0.row.length c_0_7, .map (some bm_0_8)] 57)] :: ψ_0_8 :: Φ) rfl rfl (slices_DeleteFunc_api_Request_api_Request_w_Fadmit_Desk_Cancel_1_p_ok (F := F) (χ := (List.flatten [[(b1, row [.slice a_1 p1.length c_1] 33)], χ])) ho_0_7 (hc3.mono (Mem.le.trans (Mem.le_pick (Mem.add (Mem.add F χ) [(b1, row [.slice a_1 p1.length c_1] 33)]) 2 [0] (by decide)) (Mem.le_gather (Mem.add (Mem.add F χ) [(b1, row [.slice a_1 p1.length c_1] 33)]) 2))) ⟨_, _, rfl, (h_1.mono (mono_int _) (Mem.le.trans (Mem.le_pick (Mem.add (Mem.add F χ) [(b1, row [.slice a_1 p1.length c_1] 33)]) 2 [1] (by decide)) (Mem.le_gather (Mem.add (Mem.add F χ) [(b1, row [.slice a_1 p1.length c_1] 33)]) 2)))⟩ hx5 ([(b_0, row [.int .i64 p0.s.Layers, .int .i64 p0.s.Width, .int .i64 p0.s.Heads, .int .i64 p0.s.Inner, .int .i64 p0.s.Vocab, .int .i64 p0.s.Places, .int .i64 p0.room, .slice a_0_7 p0.row.length c_0_7, .map (some bm_0_8)] 57)] :: ψ_0_8 :: Φ))) ?_
  rintro _ _ ⟨a6, c7, p9, rfl, hs11, h8⟩
  have hs11 := Sat.unlay F [[(b1, row [.slice a_1 p1.length c_1] 33)], χ] hs11
  have hs11 := (hs11.arrange 2 3 [0, 1] [2, 3, 4] (by decide))
  refine ⟨(Mem.add (Mem.add F χ) [(b1, row [.slice a_1 p1.length c_1] 33)]), (p9 :: [(b_0, row [.int .i64 p0.s.Layers, .int .i64 p0.s.Width, .int .i64 p0.s.Heads, .int .i64 p0.s.Inner, .int .i64 p0.s.Vocab, .int .i64 p0.s.Places, .int .i64 p0.room, .slice a_0_7 p0.row.length c_0_7, .map (some bm_0_8)] 57)] :: ψ_0_8 :: Φ), hs11, trivial, ?_⟩
  refine WO.nilCheck rfl rfl rfl rfl ?_
  refine WO.fieldAddr 7 rfl rfl rfl rfl fl_57_2 ?_
  refine WO.store 1 rfl rfl rfl rfl sz_32 rfl rfl rfl (fun _ _ => trivial) ?_
  refine WO.done ?_
  refine At.seq_wc ?_
  refine WC.then ?_
  refine WC.region [(0, true), (1, true), (2, true), (3, true), (4, false), (5, true), (6, true), (7, true)] rfl ?_
  refine WO.move rfl rfl rfl rfl ?_
  refine WO.move rfl rfl rfl rfl ?_
  refine WO.nilCheck rfl rfl rfl rfl ?_
  refine WO.fieldAddr 7 rfl rfl rfl rfl fl_57_2 ?_
  refine WO.load 1 rfl rfl rfl rfl sc_32 rfl rfl ?_
  refine WO.len rfl rfl rfl rfl Try.underlying32 ?_
  refine WO.bin rfl rfl rfl rfl rfl rfl ?_
  refine WO.assign rfl rfl rfl rfl ?_
  refine WO.done ?_
  refine At.seq_wc ?_
  refine WC.ret ?_
  obtain rfl := Option.some.inj hr
  exact At.ret (fun a w hc hs => (resVs_cons (hc.res rfl) resVs_nil)) (fun w hs => ⟨_, _, _, _, _, rfl, (hs.arrange 2 3 [1] [3, 2, 4] (by decide)), h8, (OwnM.re (G := F) (constV1 const_bool) hm_0_8)⟩)
/-! (*peloton/pelotonref21.Desk).Cancel -/
def ref21_Desk_Cancel_vvvvvvvoo_k1 (p0 : S_ref21_Desk) (v2 : List S_api_Request) (v8 : List S_api_Request) : Option (Int × S_ref21_Desk) := some ((IntKind.wrap .i64 ((v8.length : Int) - (v2.length : Int))), (⟨p0.S, p0.Room, v2, p0.Ids⟩ : S_ref21_Desk))
def ref21_Desk_Cancel_vvvvvvvoo_k4 (v36 : Int) (v72 : List S_api_Request) (v78 : List S_api_Request) : Option (((List S_api_Request) × Int × (List S_api_Request)) ⊕ ((List S_api_Request) × (List S_api_Request))) := some (.inl (v72, (IntKind.wrap .i64 (v36 + 1)), v78))
def ref21_Desk_Cancel_vvvvvvvoo_b2 (p1 : Int) (v30 : List S_api_Request) (v36 : Int) (v37 : List S_api_Request) : Option (((List S_api_Request) × Int × (List S_api_Request)) ⊕ ((List S_api_Request) × (List S_api_Request))) := cond (decide (v36 < (v37.length : Int))) ((getI v37 v36).bind fun x84 => cond (x84.ID != p1) ((getI v37 v36).bind fun x95 => (app v30 [x95]).bind fun x107 => ref21_Desk_Cancel_vvvvvvvoo_k4 v36 x107 v37) (ref21_Desk_Cancel_vvvvvvvoo_k4 v36 v30 v37)) (some (.inr (v30, v37)))
def ref21_Desk_Cancel_vvvvvvvoo (p0 : S_ref21_Desk) (p1 : Int) : Option (Int × S_ref21_Desk) := (loopO (fun s => ref21_Desk_Cancel_vvvvvvvoo_b2 p1 s.1 s.2.1 s.2.2) (([] : List S_api_Request), 0, p0.L)).bind (fun (v58, v64) => ref21_Desk_Cancel_vvvvvvvoo_k1 p0 v58 v64)
theorem ref21_Desk_Cancel_vvvvvvvoo_ok {F : Mem} {p0 : S_ref21_Desk} {p1 : Int} {b_0 : Nat} {a_0_7 : Option Addr} {c_0_7 : Nat} {ψ_0_7 : List Chunk} (ho_0_7 : OwnL 3 R_api_Request F 37 a_0_7 c_0_7 p0.L ψ_0_7) {a_0_8 : Option Addr} {c_0_8 : Nat} {ψ_0_8 : List Chunk} (ho_0_8 : OwnL 1 (RInt .i64) F 3 a_0_8 c_0_8 p0.Ids ψ_0_8) {r : Int × S_ref21_Desk} (hr : ref21_Desk_Cancel_vvvvvvvoo p0 p1 = some r) (Φ : List (List Chunk)) :
    CallsRet Try.prog 13 (List.toArray [.pointer (some ⟨b_0, 0, none⟩), .int .i64 p1]) F ([(b_0, row [.int .i64 p0.S.Layers, .int .i64 p0.S.Width, .int .i64 p0.S.Heads, .int .i64 p0.S.Inner, .int .i64 p0.S.Vocab, .int .i64 p0.S.Places, .int .i64 p0.Room, .slice a_0_7 p0.L.length c_0_7, .slice a_0_8 p0.Ids.length c_0_8] 35)] :: ψ_0_7 :: ψ_0_8 :: Φ) (fun v w => ∃ a0_7 c0_7 ψ0_7 a0_8 c0_8 ψ0_8, v = .int .i64 r.1 ∧ Sat F ([(b_0, row [.int .i64 r.2.S.Layers, .int .i64 r.2.S.Width, .int .i64 r.2.S.Heads, .int .i64 r.2.S.Inner, .int .i64 r.2.S.Vocab, .int .i64 r.2.S.Places, .int .i64 r.2.Room, .slice a0_7 r.2.L.length c0_7, .slice a0_8 r.2.Ids.length c0_8] 35)] :: ψ0_7 :: ψ0_8 :: Φ) w ∧ OwnL 3 R_api_Request F 37 a0_7 c0_7 r.2.L ψ0_7 ∧ OwnL 1 (RInt .i64) F 3 a0_8 c0_8 r.2.Ids ψ0_8) := by
  refine CallsRet.enter (rs := [.tmp 4]) Try.func13 rfl rfl rfl rfl ?_
  unfold ref21_Desk_Cancel_vvvvvvvoo at hr
  refine WC.then ?_
  refine WC.region [(0, true)] rfl ?_
  refine WO.assign rfl rfl rfl rfl ?_
  refine WO.done ?_
  refine At.seq_wc ?_
  refine WC.then ?_
  refine WC.region [(0, true)] rfl ?_
  refine WO.assign rfl rfl rfl rfl ?_
  refine WO.done ?_
  refine At.seq_wc ?_
  refine WC.seq (fun a w => ∃ (v2 : List S_api_Request) (v8 : List S_api_Request) (a3 : Option Addr) (c4 : Nat) (p5 : List Chunk) (a9 : Option Addr) (c10 : Nat) (p11 : List Chunk), ref21_Desk_Cancel_vvvvvvvoo_k1 p0 v2 v8 = some r ∧ Ctx 50 [(0, .pointer (some ⟨b_0, 0, none⟩)), (5, .slice a3 v2.length c4)] a ∧ Sat F (p5 :: p11 :: [(b_0, row [.int .i64 p0.S.Layers, .int .i64 p0.S.Width, .int .i64 p0.S.Heads, .int .i64 p0.S.Inner, .int .i64 p0.S.Vocab, .int .i64 p0.S.Places, .int .i64 p0.Room, .slice a9 v8.length c10, .slice a_0_8 p0.Ids.length c_0_8] 35)] :: ψ_0_8 :: Φ) w ∧ OwnL 3 R_api_Request F 37 a3 c4 v2 p5 ∧ OwnL 3 R_api_Request F 37 a9 c10 v8 p11) ?_ ?_
  · refine WC.then ?_
    refine WC.region [(0, true)] rfl ?_
    refine WO.assign rfl rfl rfl rfl ?_
    refine WO.done ?_
    refine At.seq_wc ?_
    obtain ⟨xl3, hl3, hk3⟩ := bind_some' hr
    refine WC.weaken (fun a w => ∃ (v58 : List S_api_Request) (v64 : List S_api_Request) (a59 : Option Addr) (c60 : Nat) (p61 : List Chunk) (a65 : Option Addr) (c66 : Nat) (p67 : List Chunk), (v58, v64) = xl3 ∧ Ctx 50 [(0, .pointer (some ⟨b_0, 0, none⟩)), (5, .slice a59 v58.length c60)] a ∧ Sat F (p61 :: p67 :: [(b_0, row [.int .i64 p0.S.Layers, .int .i64 p0.S.Width, .int .i64 p0.S.Heads, .int .i64 p0.S.Inner, .int .i64 p0.S.Vocab, .int .i64 p0.S.Places, .int .i64 p0.Room, .slice a65 v64.length c66, .slice a_0_8 p0.Ids.length c_0_8] 35)] :: ψ_0_8 :: Φ) w ∧ OwnL 3 R_api_Request F 37 a59 c60 v58 p61 ∧ OwnL 3 R_api_Request F 37 a65 c66 v64 p67) ?_ ?_
    · refine WC.block ?_
      refine WC.loop (fun ⟨v30, v36, v37⟩ a w => ∃ (a31 : Option Addr) (c32 : Nat) (p33 : List Chunk) (a38 : Option Addr) (c39 : Nat) (p40 : List Chunk), Ctx 50 [(0, .pointer (some ⟨b_0, 0, none⟩)), (1, .int .i64 p1), (5, .slice a31 v30.length c32), (6, .int .i64 v36)] a ∧ Sat F (p33 :: p40 :: [(b_0, row [.int .i64 p0.S.Layers, .int .i64 p0.S.Width, .int .i64 p0.S.Heads, .int .i64 p0.S.Inner, .int .i64 p0.S.Vocab, .int .i64 p0.S.Places, .int .i64 p0.Room, .slice a38 v37.length c39, .slice a_0_8 p0.Ids.length c_0_8] 35)] :: ψ_0_8 :: Φ) w ∧ OwnL 3 R_api_Request F 37 a31 c32 v30 p33 ∧ OwnL 3 R_api_Request F 37 a38 c39 v37 p40) hl3 ?_ ?_
      · refine At.empty ?_
        have ho114 : OwnL 3 R_api_Request F 37 none 0 ([] : List S_api_Request) [] := OwnL.nil
        exact fun a w hc hs => ⟨none, 0, [], a_0_7, c_0_7, ψ_0_7, (hc.keep (hc.keep (hc.keep (hc.keep hc.nil (t := 6) rfl) (t := 5) rfl) (t := 1) rfl) (t := 0) rfl), (hs.arrange 0 4 [] [0, 2, 1, 3] (by decide)), ho114, ho_0_7⟩
      · rintro ⟨v30, v36, v37⟩ r3 hr a w ⟨a31, c32, p33, a38, c39, p40, hc, hs, ho34, ho41⟩
        refine WC.use hc hs ?_
        clear hc hs
        (try dsimp only at hr)
        unfold ref21_Desk_Cancel_vvvvvvvoo_b2 at hr
        refine WC.then ?_
        refine WC.then ?_
        refine WC.region [(0, true), (1, true), (2, true), (3, true), (4, false), (5, true), (6, true)] rfl ?_
        refine WO.move rfl rfl rfl rfl ?_
        refine WO.move rfl rfl rfl rfl ?_
        refine WO.nilCheck rfl rfl rfl rfl ?_
        refine WO.fieldAddr 7 rfl rfl rfl rfl fl_35_2 ?_
        refine WO.load 2 rfl rfl rfl rfl sc_32 rfl rfl ?_
        refine WO.len rfl rfl rfl rfl Try.underlying32 ?_
        refine WO.bin rfl rfl rfl rfl rfl rfl ?_
        refine WO.done ?_
        refine At.seq_wc ?_
        refine WC.cond rfl (fun hb70 => ?_) (fun hb70 => ?_)
        · have hr := cond_t hb70 hr
          refine WC.skip ?_
          refine At.seq_wc ?_
          refine WC.seq (fun a w => ∃ (v72 : List S_api_Request) (v78 : List S_api_Request) (a73 : Option Addr) (c74 : Nat) (p75 : List Chunk) (a79 : Option Addr) (c80 : Nat) (p81 : List Chunk), ref21_Desk_Cancel_vvvvvvvoo_k4 v36 v72 v78 = some r3 ∧ Ctx 50 [(0, .pointer (some ⟨b_0, 0, none⟩)), (1, .int .i64 p1), (5, .slice a73 v72.length c74), (6, .int .i64 v36)] a ∧ Sat F (p75 :: p81 :: [(b_0, row [.int .i64 p0.S.Layers, .int .i64 p0.S.Width, .int .i64 p0.S.Heads, .int .i64 p0.S.Inner, .int .i64 p0.S.Vocab, .int .i64 p0.S.Places, .int .i64 p0.Room, .slice a79 v78.length c80, .slice a_0_8 p0.Ids.length c_0_8] 35)] :: ψ_0_8 :: Φ) w ∧ OwnL 3 R_api_Request F 37 a73 c74 v72 p75 ∧ OwnL 3 R_api_Request F 37 a79 c80 v78 p81) ?_ ?_
          · refine WC.block ?_
            refine WC.then ?_
            refine WC.region [(0, true), (1, true), (2, true), (3, false), (4, true), (5, true), (6, true), (7, false), (8, true), (9, true)] rfl ?_
            refine WO.move rfl rfl rfl rfl ?_
            refine WO.nilCheck rfl rfl rfl rfl ?_
            refine WO.fieldAddr 7 rfl rfl rfl rfl fl_35_2 ?_
            refine WO.load 2 rfl rfl rfl rfl sc_32 rfl rfl ?_
            refine WO.move rfl rfl rfl rfl ?_
            obtain ⟨x84, hx85, hr⟩ := bind_some' hr
            refine WO.indexQ ho41 hx85 rfl rfl rfl rfl rfl rfl Try.underlying32 sz_37 (fun b86 cs87 hb88 h89 hq90 => ?_)
            subst hb88
            obtain ⟨a91, c92, rfl, h93⟩ := h89
            refine WO.fieldAddr 0 rfl rfl rfl rfl fl_37_0 ?_
            refine WO.loadQ 1 0 hq90 rfl rfl rfl rfl rfl rfl sc_3 rfl ?_
            refine WO.move rfl rfl rfl rfl ?_
            refine WO.bin rfl rfl rfl rfl rfl rfl ?_
            refine WO.done ?_
            refine At.seq_wc ?_
            refine WC.cond rfl (fun hb94 => ?_) (fun hb94 => ?_)
            · have hr := cond_t hb94 hr
              refine WC.region [(0, true), (1, true), (2, true), (3, true), (4, false), (5, true), (6, true), (7, false), (8, false), (9, false), (10, true)] rfl ?_
              refine WO.move rfl rfl rfl rfl ?_
              refine WO.move rfl rfl rfl rfl ?_
              refine WO.nilCheck rfl rfl rfl rfl ?_
              refine WO.fieldAddr 7 rfl rfl rfl rfl fl_35_2 ?_
              refine WO.load 2 rfl rfl rfl rfl sc_32 rfl rfl ?_
              refine WO.move rfl rfl rfl rfl ?_
              obtain ⟨x95, hx96, hr⟩ := bind_some' hr
              refine WO.indexQ ho41 hx96 rfl rfl rfl rfl rfl rfl Try.underlying32 sz_37 (fun b97 cs98 hb99 h100 hq101 => ?_)
              obtain rfl : b86 = b97 := by cases hb99; rfl
              obtain ⟨a102, c103, rfl, h104⟩ := h100
              refine WO.loadQA 1 0 3 hq101 rfl rfl rfl rfl rfl rfl ag_37 rfl rfl ?_
              refine WO.buildSl (e := 37) (vs := [.tmp 34]) [0] [.int .i64 x95.ID, .int .i64 x95.Most, .slice a102 x95.Prompt.length c103] rfl rfl rfl rfl rfl (fun _ => by kernel_rfl) (fun _ _ _ => trivial) (fun b105 => ?_)
              obtain ⟨x107, hx108, hr⟩ := bind_some' hr
              refine WO.append 1 ho34 rfl (SrcL.ofRow 0 Try.underlying32 [[.int .i64 x95.ID, .int .i64 x95.Most, .slice a102 x95.Prompt.length c103]] rfl rfl rfl (Rs.cons (x := x95) (cs := [.int .i64 x95.ID, .int .i64 x95.Most, .slice a102 x95.Prompt.length c103]) rfl ⟨_, _, rfl, h104⟩ rfl Rs.nil)) hx108 rfl rfl rfl rfl rfl rfl Try.underlying32 el_37 (fun _ _ _ => trivial) (fun a109 c110 p111 ho112 => ?_)
              refine WO.assign rfl rfl rfl rfl ?_
              refine WO.done ?_
              refine At.block_normal ?_
              refine At.seq_at ?_
              exact fun a w hc hs => ⟨x107, v37, a109, c110, p111, (some ⟨b86, 0, none⟩), c39, p40, hr, (hc.keep (hc.keep (hc.keep (hc.keep hc.nil (t := 6) rfl) (t := 5) rfl) (t := 1) rfl) (t := 0) rfl), (hs.arrange 0 5 [] [1, 2, 3, 4] (by decide)), ho112, ho41⟩
            · have hr := cond_f hb94 hr
              refine WC.skip ?_
              refine At.block_normal ?_
              refine At.seq_at ?_
              exact fun a w hc hs => ⟨v30, v37, a31, c32, p33, (some ⟨b86, 0, none⟩), c39, p40, hr, (hc.keep (hc.keep (hc.keep (hc.keep hc.nil (t := 6) rfl) (t := 5) rfl) (t := 1) rfl) (t := 0) rfl), hs, ho34, ho41⟩
          · rintro a w ⟨v72, v78, a73, c74, p75, a79, c80, p81, hr, hc, hs, ho76, ho82⟩
            refine WC.use hc hs ?_
            clear hc hs
            unfold ref21_Desk_Cancel_vvvvvvvoo_k4 at hr
            refine WC.region [(0, true), (1, true), (2, true)] rfl ?_
            refine WO.move rfl rfl rfl rfl ?_
            refine WO.bin rfl rfl rfl rfl rfl rfl ?_
            refine WO.assign rfl rfl rfl rfl ?_
            refine WO.done ?_
            refine At.round_next hr ?_
            exact fun a w hc hs => ⟨a73, c74, p75, a79, c80, p81, (hc.keep (hc.keep (hc.keep (hc.keep hc.nil (t := 6) rfl) (t := 5) rfl) (t := 1) rfl) (t := 0) rfl), hs, ho76, ho82⟩
        · have hr := cond_f hb70 hr
          refine WC.exit ?_
          refine At.seq_exit ?_
          refine At.round_exit hr (fun hy => ?_)
          refine At.exit_block ?_
          refine At.seq_at ?_
          exact fun a w hc hs => ⟨v30, v37, a31, c32, p33, a38, c39, p40, hy, (hc.keep (hc.keep hc.nil (t := 5) rfl) (t := 0) rfl), hs, ho34, ho41⟩
    · rintro a w ⟨v58, v64, a59, c60, p61, a65, c66, p67, rfl, hc, hs, ho62, ho68⟩
      refine At.use hc hs ?_
      clear hc hs
      (try dsimp only at hk3)
      have hr := hk3
      refine At.seq_at ?_
      exact fun a w hc hs => ⟨v58, v64, a59, c60, p61, a65, c66, p67, hr, (hc.keep (hc.keep hc.nil (t := 5) rfl) (t := 0) rfl), hs, ho62, ho68⟩
  · rintro a w ⟨v2, v8, a3, c4, p5, a9, c10, p11, hr, hc, hs, ho6, ho12⟩
    refine WC.use hc hs ?_
    clear hc hs
    unfold ref21_Desk_Cancel_vvvvvvvoo_k1 at hr
    refine WC.then ?_
    refine WC.region [(0, true), (1, true), (2, true), (3, false), (4, true), (5, true), (6, true), (7, true), (8, true)] rfl ?_
    refine WO.move rfl rfl rfl rfl ?_
    refine WO.nilCheck rfl rfl rfl rfl ?_
    refine WO.fieldAddr 7 rfl rfl rfl rfl fl_35_2 ?_
    refine WO.load 2 rfl rfl rfl rfl sc_32 rfl rfl ?_
    refine WO.len rfl rfl rfl rfl Try.underlying32 ?_
    refine WO.move rfl rfl rfl rfl ?_
    refine WO.len rfl rfl rfl rfl Try.underlying32 ?_
    refine WO.bin rfl rfl rfl rfl rfl rfl ?_
    refine WO.assign rfl rfl rfl rfl ?_
    refine WO.done ?_
    refine At.seq_wc ?_
    refine WC.then ?_
    refine WC.region [(0, true), (1, true), (2, true), (3, true), (4, false)] rfl ?_
    refine WO.move rfl rfl rfl rfl ?_
    refine WO.move rfl rfl rfl rfl ?_
    refine WO.nilCheck rfl rfl rfl rfl ?_
    refine WO.fieldAddr 7 rfl rfl rfl rfl fl_35_2 ?_
    refine WO.store 2 rfl rfl rfl rfl sz_32 rfl rfl rfl (fun _ _ => trivial) ?_
    refine WO.done ?_
    refine At.seq_wc ?_
    refine WC.then ?_
    refine WC.region [(0, true), (1, true)] rfl ?_
    refine WO.move rfl rfl rfl rfl ?_
    refine WO.assign rfl rfl rfl rfl ?_
    refine WO.done ?_
    refine At.seq_wc ?_
    refine WC.ret ?_
    obtain rfl := Option.some.inj hr
    exact At.ret (fun a w hc hs => (resVs_cons (hc.res rfl) resVs_nil)) (fun w hs => ⟨_, _, _, _, _, _, rfl, (hs.arrange 0 4 [] [2, 0, 3] (by decide)), ho6, (OwnL.re (G := F) (const_int _) ho_0_8)⟩)
/-! (*peloton/admit.Desk).Len -/
def admit_Desk_Len_vvvvvvvom (p0 : S_admit_Desk) : Option Int := some (p0.row.length : Int)
theorem admit_Desk_Len_vvvvvvvom_ok {F : Mem} {p0 : S_admit_Desk} {b_0 : Nat} {a_0_7 : Option Addr} {c_0_7 : Nat} {ψ_0_7 : List Chunk} (ho_0_7 : OwnL 3 R_api_Request F 37 a_0_7 c_0_7 p0.row ψ_0_7) {bm_0_8 : Nat} {ψ_0_8 : List Chunk} (hm_0_8 : OwnM (fun x : Int => Value.int .i64 x) (RV1 RBool) F bm_0_8 p0.took ψ_0_8) {r : Int} (hr : admit_Desk_Len_vvvvvvvom p0 = some r) (Φ : List (List Chunk)) :
    CallsRet Try.prog 16 (List.toArray [.pointer (some ⟨b_0, 0, none⟩)]) F ([(b_0, row [.int .i64 p0.s.Layers, .int .i64 p0.s.Width, .int .i64 p0.s.Heads, .int .i64 p0.s.Inner, .int .i64 p0.s.Vocab, .int .i64 p0.s.Places, .int .i64 p0.room, .slice a_0_7 p0.row.length c_0_7, .map (some bm_0_8)] 57)] :: ψ_0_7 :: ψ_0_8 :: Φ) (fun v w => v = .int .i64 r ∧ Sat F ([(b_0, row [.int .i64 p0.s.Layers, .int .i64 p0.s.Width, .int .i64 p0.s.Heads, .int .i64 p0.s.Inner, .int .i64 p0.s.Vocab, .int .i64 p0.s.Places, .int .i64 p0.room, .slice a_0_7 p0.row.length c_0_7, .map (some bm_0_8)] 57)] :: ψ_0_7 :: ψ_0_8 :: Φ) w) := by
  refine CallsRet.enter (rs := [.tmp 2]) Try.func16 rfl rfl rfl rfl ?_
  unfold admit_Desk_Len_vvvvvvvom at hr
  refine WC.then ?_
  refine WC.region [(0, true)] rfl ?_
  refine WO.assign rfl rfl rfl rfl ?_
  refine WO.done ?_
  refine At.seq_wc ?_
  refine WC.then ?_
  refine WC.region [(0, true), (1, true), (2, true), (3, false), (4, true), (5, true)] rfl ?_
  refine WO.move rfl rfl rfl rfl ?_
  refine WO.nilCheck rfl rfl rfl rfl ?_
  refine WO.fieldAddr 7 rfl rfl rfl rfl fl_57_2 ?_
  refine WO.load 0 rfl rfl rfl rfl sc_32 rfl rfl ?_
  refine WO.len rfl rfl rfl rfl Try.underlying32 ?_
  refine WO.assign rfl rfl rfl rfl ?_
  refine WO.done ?_
  refine At.seq_wc ?_
  refine WC.ret ?_
  obtain rfl := Option.some.inj hr
  exact At.ret (fun a w hc hs => (resVs_cons (hc.res rfl) resVs_nil)) (fun w hs => ⟨rfl, hs⟩)
/-! (*peloton/admit.Desk).Took -/
def admit_Desk_Took_vvvvvvvom (p0 : S_admit_Desk) (p1 : Int) : Option Bool := (some (Option.getD (mget p0.took p1) false)).bind fun x1 => some x1
theorem admit_Desk_Took_vvvvvvvom_ok {F : Mem} {p0 : S_admit_Desk} {p1 : Int} {b_0 : Nat} {a_0_7 : Option Addr} {c_0_7 : Nat} {ψ_0_7 : List Chunk} (ho_0_7 : OwnL 3 R_api_Request F 37 a_0_7 c_0_7 p0.row ψ_0_7) {bm_0_8 : Nat} {ψ_0_8 : List Chunk} (hm_0_8 : OwnM (fun x : Int => Value.int .i64 x) (RV1 RBool) F bm_0_8 p0.took ψ_0_8) {r : Bool} (hr : admit_Desk_Took_vvvvvvvom p0 p1 = some r) (Φ : List (List Chunk)) :
    CallsRet Try.prog 17 (List.toArray [.pointer (some ⟨b_0, 0, none⟩), .int .i64 p1]) F ([(b_0, row [.int .i64 p0.s.Layers, .int .i64 p0.s.Width, .int .i64 p0.s.Heads, .int .i64 p0.s.Inner, .int .i64 p0.s.Vocab, .int .i64 p0.s.Places, .int .i64 p0.room, .slice a_0_7 p0.row.length c_0_7, .map (some bm_0_8)] 57)] :: ψ_0_7 :: ψ_0_8 :: Φ) (fun v w => v = .bool r ∧ Sat F ([(b_0, row [.int .i64 p0.s.Layers, .int .i64 p0.s.Width, .int .i64 p0.s.Heads, .int .i64 p0.s.Inner, .int .i64 p0.s.Vocab, .int .i64 p0.s.Places, .int .i64 p0.room, .slice a_0_7 p0.row.length c_0_7, .map (some bm_0_8)] 57)] :: ψ_0_7 :: ψ_0_8 :: Φ) w) := by
  refine CallsRet.enter (rs := [.tmp 4]) Try.func17 rfl rfl rfl rfl ?_
  unfold admit_Desk_Took_vvvvvvvom at hr
  refine WC.then ?_
  refine WC.region [(0, true)] rfl ?_
  refine WO.assign rfl rfl rfl rfl ?_
  refine WO.done ?_
  refine At.seq_wc ?_
  refine WC.then ?_
  refine WC.region [(0, true), (1, true), (2, true), (3, false), (4, true), (5, false), (6, true)] rfl ?_
  refine WO.move rfl rfl rfl rfl ?_
  refine WO.nilCheck rfl rfl rfl rfl ?_
  refine WO.fieldAddr 8 rfl rfl rfl rfl fl_57_3 ?_
  refine WO.load 0 rfl rfl rfl rfl sc_55 rfl rfl ?_
  refine WO.move rfl rfl rfl rfl ?_
  obtain ⟨x1, hx2, hr⟩ := bind_some' hr
  have hx2 := Option.some.inj hx2
  refine WO.lookup (q := p1) (z' := false) false 2 key_3 hm_0_8 rfl zb_4 ⟨rfl, rfl⟩ rfl rfl rfl rfl rfl Try.underlying55 (fun v3 hv4 => ?_)
  rw [hx2] at hv4
  obtain ⟨_, hv4⟩ := hv4
  obtain rfl := (List.cons.inj hv4).1
  refine WO.assign rfl rfl rfl rfl ?_
  refine WO.done ?_
  refine At.seq_wc ?_
  refine WC.ret ?_
  obtain rfl := Option.some.inj hr
  exact At.ret (fun a w hc hs => (resVs_cons (hc.res rfl) resVs_nil)) (fun w hs => ⟨rfl, hs⟩)
/-! peloton/pelotonlaw21.AdmitActs -/
def law21_AdmitActs_k2 (x9 : (Option S_admit_Desk) × Int) : Option Bool := some (x9.2 == 30)
def law21_AdmitActs_k4 (x9 : (Option S_admit_Desk) × Int) : Option Bool := some (x9.2 == 2)
def law21_AdmitActs_k5  : Option Bool := some false
def law21_AdmitActs_k3 (x9 : (Option S_admit_Desk) × Int) (v20 : Bool) : Option Bool := cond v20 (law21_AdmitActs_k4 x9) (law21_AdmitActs_k5 )
def law21_AdmitActs_k6  : Option Bool := some false
def law21_AdmitActs_k8  : Option Bool := some false
def law21_AdmitActs_k13 (x166 : S_api_Request × Bool × S_admit_Desk) (x185 : S_api_Request × Bool × S_ref21_Desk) (v207 : Bool) : Option ((S_ref21_Desk × S_admit_Desk) ⊕ (Lp Bool (S_ref21_Desk × S_admit_Desk))) := cond v207 (some (.inr (.ret false))) (some (.inl (x185.2.2, x166.2.2)))
def law21_AdmitActs_b11 (v97 : S_ref21_Desk) (v108 : S_admit_Desk) : Option ((S_ref21_Desk × S_admit_Desk) ⊕ (Lp Bool (S_ref21_Desk × S_admit_Desk))) := (admit_Desk_Len_vvvvvvvom v108).bind fun x162 => cond (decide (x162 > 0)) ((admit_Desk_Take_vvvvvvvom v108).bind fun x166 => (ref21_Desk_Take_vvvvvvvoo v97).bind fun x185 => cond (!x185.2.1) (law21_AdmitActs_k13 x166 x185 true) ((law21_same x166.1 x185.1).bind fun x210 => law21_AdmitActs_k13 x166 x185 (!x210))) (some (.inr (.brk (v97, v108))))
def law21_AdmitActs_k10 (v52 : S_ref21_Desk) (v63 : S_admit_Desk) : Option Bool := (loopO (fun s => law21_AdmitActs_b11  s.1 s.2) (v52, v63)).bind (fun | .ret r => some r | .brk (v141, v152) => some ((v141.L.length : Int) == 0))
def law21_AdmitActs_k16 (v238 : Int) (v307 : S_ref21_Desk) (v318 : S_admit_Desk) : Option ((Int × S_ref21_Desk × S_admit_Desk) ⊕ (Lp Bool (S_ref21_Desk × S_admit_Desk))) := some (.inl ((IntKind.wrap .i64 (v238 + 1)), v307, v318))
def law21_AdmitActs_k18 (v238 : Int) (v340 : S_ref21_Desk) (v351 : S_admit_Desk) (v362 : Bool) : Option ((Int × S_ref21_Desk × S_admit_Desk) ⊕ (Lp Bool (S_ref21_Desk × S_admit_Desk))) := cond v362 (some (.inr (.ret false))) (law21_AdmitActs_k16 v238 v340 v351)
def law21_AdmitActs_k17 (p1 : Int) (v238 : Int) (x328 : S_law21_Act) (v340 : S_ref21_Desk) (v351 : S_admit_Desk) : Option ((Int × S_ref21_Desk × S_admit_Desk) ⊕ (Lp Bool (S_ref21_Desk × S_admit_Desk))) := (admit_Desk_Len_vvvvvvvom v351).bind fun x364 => cond (x364 != (v340.L.length : Int)) (law21_AdmitActs_k18 v238 v340 v351 true) ((admit_Desk_Len_vvvvvvvom v351).bind fun x368 => cond (decide (x368 > p1)) (law21_AdmitActs_k18 v238 v340 v351 true) ((admit_Desk_Took_vvvvvvvom v351 x328.R.ID).bind fun x372 => (ref21_Desk_Took_vvvvvvvoo v340 x328.R.ID).bind fun x375 => law21_AdmitActs_k18 v238 v340 v351 (x372 != x375)))
def law21_AdmitActs_b21 (v435 : Int) (v436 : List Int) : Option ((Int × (List Int)) ⊕ (List Int)) := cond (decide (v435 < (v436.length : Int))) ((getI v436 v435).bind fun x458 => some (.inl ((IntKind.wrap .i64 (v435 + 1)), (List.set v436 (Int.toNat v435) (-1))))) (some (.inr v436))
def law21_AdmitActs_k20 (p1 : Int) (v238 : Int) (x328 : S_law21_Act) (v382 : List Int) (x393 : (List Int) × S_admit_Desk) (v412 : Bool) (v413 : S_ref21_Desk) : Option ((Int × S_ref21_Desk × S_admit_Desk) ⊕ (Lp Bool (S_ref21_Desk × S_admit_Desk))) := cond v412 (some (.inr (.ret false))) ((loopO (fun s => law21_AdmitActs_b21  s.1 s.2) (0, v382)).bind (fun v451 => law21_AdmitActs_k17 p1 v238 x328 v413 x393.2))
def law21_AdmitActs_k19 (p1 : Int) (v238 : Int) (v239 : S_ref21_Desk) (v250 : S_admit_Desk) (x328 : S_law21_Act) (v382 : List Int) : Option ((Int × S_ref21_Desk × S_admit_Desk) ⊕ (Lp Bool (S_ref21_Desk × S_admit_Desk))) := (admit_Desk_Submit_vvvvvvvom v250 [(⟨x328.R.ID, x328.R.Most, v382⟩ : S_api_Request)]).bind fun x393 => cond ((x393.1.length : Int) != 1) (law21_AdmitActs_k20 p1 v238 x328 v382 x393 true v239) ((getI x393.1 0).bind fun x465 => (ref21_Desk_Submit_vvvvvvvoo v239 x328.R).bind fun x469 => law21_AdmitActs_k20 p1 v238 x328 v382 x393 (x465 != x469.1) x469.2)
def law21_AdmitActs_k23 (p1 : Int) (v238 : Int) (x328 : S_law21_Act) (x498 : S_api_Request × Bool × S_admit_Desk) (x517 : S_api_Request × Bool × S_ref21_Desk) (v539 : Bool) : Option ((Int × S_ref21_Desk × S_admit_Desk) ⊕ (Lp Bool (S_ref21_Desk × S_admit_Desk))) := cond v539 (some (.inr (.ret false))) (law21_AdmitActs_k17 p1 v238 x328 x517.2.2 x498.2.2)
def law21_AdmitActs_k24 (p1 : Int) (v238 : Int) (x328 : S_law21_Act) (v547 : Bool) (v548 : S_ref21_Desk) (v559 : S_admit_Desk) : Option ((Int × S_ref21_Desk × S_admit_Desk) ⊕ (Lp Bool (S_ref21_Desk × S_admit_Desk))) := cond v547 (some (.inr (.ret false))) (law21_AdmitActs_k17 p1 v238 x328 v548 v559)
def law21_AdmitActs_k25 (p1 : Int) (v238 : Int) (v239 : S_ref21_Desk) (v250 : S_admit_Desk) (x328 : S_law21_Act) (v601 : Bool) : Option ((Int × S_ref21_Desk × S_admit_Desk) ⊕ (Lp Bool (S_ref21_Desk × S_admit_Desk))) := cond v601 (some (.inr (.ret false))) (law21_AdmitActs_k17 p1 v238 x328 v239 v250)
def law21_AdmitActs_b14 (p1 : Int) (p2 : List S_law21_Act) (v238 : Int) (v239 : S_ref21_Desk) (v250 : S_admit_Desk) : Option ((Int × S_ref21_Desk × S_admit_Desk) ⊕ (Lp Bool (S_ref21_Desk × S_admit_Desk))) := cond (decide (v238 < (p2.length : Int))) ((getI p2 v238).bind fun x328 => cond (decide ((x328.R.Prompt.length : Int) > 300)) (some (.inr (.ret true))) (cond (x328.Kind == 0) ((app ([] : List Int) x328.R.Prompt).bind fun x487 => law21_AdmitActs_k19 p1 v238 v239 v250 x328 x487) (cond (x328.Kind == 1) ((admit_Desk_Take_vvvvvvvom v250).bind fun x498 => (ref21_Desk_Take_vvvvvvvoo v239).bind fun x517 => cond (x498.2.1 != x517.2.1) (law21_AdmitActs_k23 p1 v238 x328 x498 x517 true) ((law21_same x498.1 x517.1).bind fun x542 => law21_AdmitActs_k23 p1 v238 x328 x498 x517 (!x542))) (cond (x328.Kind == 2) ((admit_Desk_Cancel_vvvvvvvom v250 [x328.R.ID]).bind fun x574 => (ref21_Desk_Cancel_vvvvvvvoo v239 x328.R.ID).bind fun x586 => law21_AdmitActs_k24 p1 v238 x328 (x574.1 != x586.1) x586.2 x574.2) (cond (x328.Kind == 3) ((admit_Desk_Judge_vvvvvvvom v250 x328.R).bind fun x603 => (ref21_Desk_Judge_vvvvvvvoo v239 x328.R).bind fun x606 => law21_AdmitActs_k25 p1 v238 v239 v250 x328 (x603 != x606)) (law21_AdmitActs_k17 p1 v238 x328 v239 v250)))))) (some (.inr (.brk (v239, v250))))
def law21_AdmitActs_k9 (p0 : S_api_Shape) (p1 : Int) (p2 : List S_law21_Act) (x9 : (Option S_admit_Desk) × Int) (o11 : S_admit_Desk) : Option Bool := cond (x9.2 != 0) (some false) ((loopO (fun s => law21_AdmitActs_b14 p1 p2 s.1 s.2.1 s.2.2) (0, (⟨p0, p1, [], []⟩ : S_ref21_Desk), o11)).bind (fun | .ret r => some r | .brk (v284, v295) => law21_AdmitActs_k10 v284 v295))
def law21_AdmitActs_k7 (p0 : S_api_Shape) (p1 : Int) (p2 : List S_law21_Act) (x9 : (Option S_admit_Desk) × Int) (o11 : S_admit_Desk) (v44 : Bool) : Option Bool := cond v44 (law21_AdmitActs_k8 ) (law21_AdmitActs_k9 p0 p1 p2 x9 o11)
def law21_AdmitActs_k1 (p0 : S_api_Shape) (p1 : Int) (p2 : List S_law21_Act) (v4 : Bool) : Option Bool := cond v4 ((law21_awake).bind fun x6 => some x6) ((admit_New p0 p1).bind fun x9 => Option.elim x9.1 ((ref07_Right p0).bind fun x14 => cond (!x14) (law21_AdmitActs_k2 x9) (cond (decide (p1 < 0)) (law21_AdmitActs_k3 x9 true) (law21_AdmitActs_k3 x9 (decide (p1 > 4096))))) (fun o11 => (ref07_Right p0).bind fun x38 => cond (!x38) (law21_AdmitActs_k6 ) (cond (decide (p1 < 0)) (law21_AdmitActs_k7 p0 p1 p2 x9 o11 true) (law21_AdmitActs_k7 p0 p1 p2 x9 o11 (decide (p1 > 4096))))))
def law21_AdmitActs (p0 : S_api_Shape) (p1 : Int) (p2 : List S_law21_Act) : Option Bool := (law21_awake).bind fun x614 => cond (!x614) (law21_AdmitActs_k1 p0 p1 p2 true) (law21_AdmitActs_k1 p0 p1 p2 (decide ((p2.length : Int) > 80)))
theorem law21_AdmitActs_ok {F : Mem} {χ : List Chunk} {p0 : S_api_Shape} {p1 : Int} {p2 : List S_law21_Act} {cs_0 : List Value} (h_0 : R_api_Shape F cs_0 p0) {a_2 : Option Addr} {c_2 : Nat} (h_2 : RdL 4 R_law21_Act (Mem.add F χ) a_2 c_2 p2) {r : Bool} (hr : law21_AdmitActs p0 p1 p2 = some r) (Φ : List (List Chunk)) :
    CallsRet Try.prog 3 (List.toArray [.agg cs_0.toArray, .int .i64 p1, .slice a_2 p2.length c_2]) (Mem.add F χ) Φ (fun v w => v = .bool r ∧ Sat (Mem.add F χ) (Φ) w) := by
  obtain rfl := h_0
  refine CallsRet.enter (rs := [.tmp 6]) Try.func3 rfl rfl rfl rfl ?_
  unfold law21_AdmitActs at hr
  refine WC.then ?_
  refine WC.region [(0, false), (1, true)] rfl ?_
  refine WO.box rfl rfl rfl rfl rfl (fun _ _ _ => trivial) (fun b1 => ?_)
  refine WO.assign rfl rfl rfl rfl ?_
  refine WO.done ?_
  refine At.seq_wc ?_
  refine WC.then ?_
  refine WC.seq (fun a w => ∃ (v4 : Bool), law21_AdmitActs_k1 p0 p1 p2 v4 = some r ∧ Ctx 227 [(1, .int .i64 p1), (2, .slice a_2 p2.length c_2), (3, .pointer (some ⟨b1, 0, none⟩)), (29, .bool v4)] a ∧ Sat (Mem.add F χ) ([(b1, row [.int .i64 p0.Layers, .int .i64 p0.Width, .int .i64 p0.Heads, .int .i64 p0.Inner, .int .i64 p0.Vocab, .int .i64 p0.Places] 23)] :: Φ) w) ?_ ?_
  · refine WC.region [(0, false), (1, true), (2, true), (3, true), (4, true), (5, true), (6, true)] rfl ?_
    obtain ⟨x614, hx615, hr⟩ := bind_some' hr
    refine WO.call rfl rfl rfl rfl rfl cl_4 (CallsRet.lay0 1 1 [] [0, 1] (by decide) F (χ :: [(b1, row [.int .i64 p0.Layers, .int .i64 p0.Width, .int .i64 p0.Heads, .int .i64 p0.Inner, .int .i64 p0.Vocab, .int .i64 p0.Places] 23)] :: Φ) rfl rfl (law21_awake_ok (F := F) hx615 (χ :: [(b1, row [.int .i64 p0.Layers, .int .i64 p0.Width, .int .i64 p0.Heads, .int .i64 p0.Inner, .int .i64 p0.Vocab, .int .i64 p0.Places] 23)] :: Φ))) ?_
    rintro _ _ ⟨rfl, hs616⟩
    have hs616 := (hs616.arrange 0 2 [0] [1] (by decide))
    refine ⟨(Mem.add F χ), ([(b1, row [.int .i64 p0.Layers, .int .i64 p0.Width, .int .i64 p0.Heads, .int .i64 p0.Inner, .int .i64 p0.Vocab, .int .i64 p0.Places] 23)] :: Φ), hs616, trivial, ?_⟩
    refine WO.un rfl rfl rfl rfl rfl ?_
    refine WO.move rfl rfl rfl rfl ?_
    refine WO.split (t := 25) rfl (fun hg617 => ?_) (fun hg617 => ?_)
    · have hr := cond_t hg617 hr
      refine WO.skip rfl rfl rfl rfl ?_
      refine WO.skip rfl rfl rfl rfl ?_
      refine WO.skip rfl rfl rfl rfl ?_
      refine WO.pickT rfl rfl rfl rfl rfl ?_
      refine WO.done ?_
      refine At.seq_at ?_
      exact fun a w hc hs => ⟨true, hr, (hc.keep (hc.keep (hc.keep (hc.keep hc.nil (t := 29) rfl) (t := 3) rfl) (t := 2) rfl) (t := 1) rfl), hs⟩
    · have hr := cond_f hg617 hr
      refine WO.move rfl rfl rfl rfl ?_
      refine WO.len rfl rfl rfl rfl Try.underlying24 ?_
      refine WO.bin rfl rfl rfl rfl rfl rfl ?_
      refine WO.pickF rfl rfl rfl rfl rfl ?_
      refine WO.done ?_
      refine At.seq_at ?_
      exact fun a w hc hs => ⟨(decide ((p2.length : Int) > 80)), hr, (hc.keep (hc.keep (hc.keep (hc.keep hc.nil (t := 29) rfl) (t := 3) rfl) (t := 2) rfl) (t := 1) rfl), hs⟩
  · rintro a w ⟨v4, hr, hc, hs⟩
    refine WC.use hc hs ?_
    clear hc hs
    unfold law21_AdmitActs_k1 at hr
    refine WC.cond rfl (fun hb5 => ?_) (fun hb5 => ?_)
    · have hr := cond_t hb5 hr
      refine WC.then ?_
      refine WC.region [(0, false), (1, true)] rfl ?_
      obtain ⟨x6, hx7, hr⟩ := bind_some' hr
      refine WO.call rfl rfl rfl rfl rfl cl_4 (CallsRet.lay0 1 1 [] [0, 1] (by decide) F (χ :: [(b1, row [.int .i64 p0.Layers, .int .i64 p0.Width, .int .i64 p0.Heads, .int .i64 p0.Inner, .int .i64 p0.Vocab, .int .i64 p0.Places] 23)] :: Φ) rfl rfl (law21_awake_ok (F := F) hx7 (χ :: [(b1, row [.int .i64 p0.Layers, .int .i64 p0.Width, .int .i64 p0.Heads, .int .i64 p0.Inner, .int .i64 p0.Vocab, .int .i64 p0.Places] 23)] :: Φ))) ?_
      rintro _ _ ⟨rfl, hs8⟩
      have hs8 := (hs8.arrange 0 2 [0] [1] (by decide))
      refine ⟨(Mem.add F χ), ([(b1, row [.int .i64 p0.Layers, .int .i64 p0.Width, .int .i64 p0.Heads, .int .i64 p0.Inner, .int .i64 p0.Vocab, .int .i64 p0.Places] 23)] :: Φ), hs8, trivial, ?_⟩
      refine WO.assign rfl rfl rfl rfl ?_
      refine WO.done ?_
      refine At.seq_wc ?_
      refine WC.ret ?_
      refine At.seq_ret ?_
      obtain rfl := Option.some.inj hr
      exact At.ret (fun a w hc hs => (resVs_cons (hc.res rfl) resVs_nil)) (fun w hs => ⟨rfl, (hs.arrange 1 1 [0] [] (by decide))⟩)
    · have hr := cond_f hb5 hr
      refine WC.skip ?_
      refine At.seq_wc ?_
      refine WC.then ?_
      refine WC.region [(0, false), (1, true), (2, false), (3, true), (4, true), (5, true), (6, true), (7, true)] rfl ?_
      refine WO.loadA 0 6 rfl rfl rfl rfl ag_23 rfl rfl rfl ?_
      refine WO.move rfl rfl rfl rfl ?_
      obtain ⟨x9, hx10, hr⟩ := bind_some' hr
      refine WO.call rfl rfl rfl rfl rfl cl_5 (CallsRet.lay0 1 1 [] [0, 1] (by decide) F (χ :: [(b1, row [.int .i64 p0.Layers, .int .i64 p0.Width, .int .i64 p0.Heads, .int .i64 p0.Inner, .int .i64 p0.Vocab, .int .i64 p0.Places] 23)] :: Φ) rfl rfl (admit_New_ok (F := F) rfl hx10 (χ :: [(b1, row [.int .i64 p0.Layers, .int .i64 p0.Width, .int .i64 p0.Heads, .int .i64 p0.Inner, .int .i64 p0.Vocab, .int .i64 p0.Places] 23)] :: Φ))) ?_
      rintro _ _ (⟨hn12, rfl, hs13⟩ | ⟨o11, b26, a27, c28, p30, b32, p33, hn25, rfl, hs37, h29, hm35⟩)
      · have hr := elim_none hn12 hr
        have hs13 := (hs13.arrange 0 2 [0] [1] (by decide))
        refine ⟨(Mem.add F χ), ([(b1, row [.int .i64 p0.Layers, .int .i64 p0.Width, .int .i64 p0.Heads, .int .i64 p0.Inner, .int .i64 p0.Vocab, .int .i64 p0.Places] 23)] :: Φ), hs13, trivial, ?_⟩
        refine WO.move rfl rfl rfl rfl ?_
        refine WO.extract rfl rfl rfl rfl rfl ?_
        refine WO.extract rfl rfl rfl rfl rfl ?_
        refine WO.assign rfl rfl rfl rfl ?_
        refine WO.assign rfl rfl rfl rfl ?_
        refine WO.done ?_
        refine At.seq_wc ?_
        refine WC.then ?_
        refine WC.then ?_
        refine WC.region [(0, false), (1, false), (2, true)] rfl ?_
        refine WO.loadA 0 6 rfl rfl rfl rfl ag_23 rfl rfl rfl ?_
        obtain ⟨x14, hx15, hr⟩ := bind_some' hr
        refine WO.call rfl rfl rfl rfl rfl cl_6 (CallsRet.lay0 1 1 [] [0, 1] (by decide) F (χ :: [(b1, row [.int .i64 p0.Layers, .int .i64 p0.Width, .int .i64 p0.Heads, .int .i64 p0.Inner, .int .i64 p0.Vocab, .int .i64 p0.Places] 23)] :: Φ) rfl rfl (ref07_Right_ok (F := F) rfl hx15 (χ :: [(b1, row [.int .i64 p0.Layers, .int .i64 p0.Width, .int .i64 p0.Heads, .int .i64 p0.Inner, .int .i64 p0.Vocab, .int .i64 p0.Places] 23)] :: Φ))) ?_
        rintro _ _ ⟨rfl, hs16⟩
        have hs16 := (hs16.arrange 0 2 [0] [1] (by decide))
        refine ⟨(Mem.add F χ), ([(b1, row [.int .i64 p0.Layers, .int .i64 p0.Width, .int .i64 p0.Heads, .int .i64 p0.Inner, .int .i64 p0.Vocab, .int .i64 p0.Places] 23)] :: Φ), hs16, trivial, ?_⟩
        refine WO.un rfl rfl rfl rfl rfl ?_
        refine WO.done ?_
        refine At.seq_wc ?_
        refine WC.cond rfl (fun hb17 => ?_) (fun hb17 => ?_)
        · have hr := cond_t hb17 hr
          refine WC.seq (fun a w => law21_AdmitActs_k2 x9 = some r ∧ Ctx 227 [(6, .bool (x9.2 == 30))] a ∧ Sat (Mem.add F χ) ([(b1, row [.int .i64 p0.Layers, .int .i64 p0.Width, .int .i64 p0.Heads, .int .i64 p0.Inner, .int .i64 p0.Vocab, .int .i64 p0.Places] 23)] :: Φ) w) ?_ ?_
          · refine WC.region [(0, true), (1, true), (2, true), (3, true), (4, true), (5, true), (6, true)] rfl ?_
            refine WO.move rfl rfl rfl rfl ?_
            refine WO.eqNil rfl rfl rfl rfl rfl Try.underlying26 ?_
            refine WO.move rfl rfl rfl rfl ?_
            refine WO.move rfl rfl rfl rfl ?_
            refine WO.bin rfl rfl rfl rfl rfl rfl ?_
            refine WO.pickT rfl rfl rfl rfl rfl ?_
            refine WO.assign rfl rfl rfl rfl ?_
            refine WO.done ?_
            refine At.seq_at ?_
            exact fun a w hc hs => ⟨hr, (hc.keep hc.nil (t := 6) rfl), hs⟩
          · rintro a w ⟨hr, hc, hs⟩
            refine WC.use hc hs ?_
            clear hc hs
            unfold law21_AdmitActs_k2 at hr
            refine WC.ret ?_
            refine At.seq_ret ?_
            obtain rfl := Option.some.inj hr
            exact At.ret (fun a w hc hs => (resVs_cons (hc.res rfl) resVs_nil)) (fun w hs => ⟨rfl, (hs.arrange 1 1 [0] [] (by decide))⟩)
        · have hr := cond_f hb17 hr
          refine WC.skip ?_
          refine At.seq_wc ?_
          refine WC.then ?_
          refine WC.seq (fun a w => ∃ (v20 : Bool), law21_AdmitActs_k3 x9 v20 = some r ∧ Ctx 227 [(1, .int .i64 p1), (2, .slice a_2 p2.length c_2), (3, .pointer (some ⟨b1, 0, none⟩)), (7, .pointer none), (8, .int .i64 x9.2), (51, .bool v20)] a ∧ Sat (Mem.add F χ) ([(b1, row [.int .i64 p0.Layers, .int .i64 p0.Width, .int .i64 p0.Heads, .int .i64 p0.Inner, .int .i64 p0.Vocab, .int .i64 p0.Places] 23)] :: Φ) w) ?_ ?_
          · refine WC.region [(0, true), (1, true), (2, true), (3, true), (4, true), (5, true)] rfl ?_
            refine WO.move rfl rfl rfl rfl ?_
            refine WO.bin rfl rfl rfl rfl rfl rfl ?_
            refine WO.move rfl rfl rfl rfl ?_
            refine WO.split (t := 48) rfl (fun hg24 => ?_) (fun hg24 => ?_)
            · have hr := cond_t hg24 hr
              refine WO.skip rfl rfl rfl rfl ?_
              refine WO.skip rfl rfl rfl rfl ?_
              refine WO.pickT rfl rfl rfl rfl rfl ?_
              refine WO.done ?_
              refine At.seq_at ?_
              exact fun a w hc hs => ⟨true, hr, (hc.keep (hc.keep (hc.keep (hc.keep (hc.keep (hc.keep hc.nil (t := 51) rfl) (t := 8) rfl) (t := 7) rfl) (t := 3) rfl) (t := 2) rfl) (t := 1) rfl), hs⟩
            · have hr := cond_f hg24 hr
              refine WO.move rfl rfl rfl rfl ?_
              refine WO.bin rfl rfl rfl rfl rfl rfl ?_
              refine WO.pickF rfl rfl rfl rfl rfl ?_
              refine WO.done ?_
              refine At.seq_at ?_
              exact fun a w hc hs => ⟨(decide (p1 > 4096)), hr, (hc.keep (hc.keep (hc.keep (hc.keep (hc.keep (hc.keep hc.nil (t := 51) rfl) (t := 8) rfl) (t := 7) rfl) (t := 3) rfl) (t := 2) rfl) (t := 1) rfl), hs⟩
          · rintro a w ⟨v20, hr, hc, hs⟩
            refine WC.use hc hs ?_
            clear hc hs
            unfold law21_AdmitActs_k3 at hr
            refine WC.cond rfl (fun hb21 => ?_) (fun hb21 => ?_)
            · have hr := cond_t hb21 hr
              refine WC.seq (fun a w => law21_AdmitActs_k4 x9 = some r ∧ Ctx 227 [(6, .bool (x9.2 == 2))] a ∧ Sat (Mem.add F χ) ([(b1, row [.int .i64 p0.Layers, .int .i64 p0.Width, .int .i64 p0.Heads, .int .i64 p0.Inner, .int .i64 p0.Vocab, .int .i64 p0.Places] 23)] :: Φ) w) ?_ ?_
              · refine WC.region [(0, true), (1, true), (2, true), (3, true), (4, true), (5, true), (6, true)] rfl ?_
                refine WO.move rfl rfl rfl rfl ?_
                refine WO.eqNil rfl rfl rfl rfl rfl Try.underlying26 ?_
                refine WO.move rfl rfl rfl rfl ?_
                refine WO.move rfl rfl rfl rfl ?_
                refine WO.bin rfl rfl rfl rfl rfl rfl ?_
                refine WO.pickT rfl rfl rfl rfl rfl ?_
                refine WO.assign rfl rfl rfl rfl ?_
                refine WO.done ?_
                refine At.seq_at ?_
                exact fun a w hc hs => ⟨hr, (hc.keep hc.nil (t := 6) rfl), hs⟩
              · rintro a w ⟨hr, hc, hs⟩
                refine WC.use hc hs ?_
                clear hc hs
                unfold law21_AdmitActs_k4 at hr
                refine WC.ret ?_
                refine At.seq_ret ?_
                obtain rfl := Option.some.inj hr
                exact At.ret (fun a w hc hs => (resVs_cons (hc.res rfl) resVs_nil)) (fun w hs => ⟨rfl, (hs.arrange 1 1 [0] [] (by decide))⟩)
            · have hr := cond_f hb21 hr
              refine WC.skip ?_
              refine At.seq_wc ?_
              refine WC.then ?_
              refine WC.seq (fun a w => law21_AdmitActs_k5  = some r ∧ Ctx 227 [(1, .int .i64 p1), (2, .slice a_2 p2.length c_2), (3, .pointer (some ⟨b1, 0, none⟩)), (7, .pointer none), (63, .bool true)] a ∧ Sat (Mem.add F χ) ([(b1, row [.int .i64 p0.Layers, .int .i64 p0.Width, .int .i64 p0.Heads, .int .i64 p0.Inner, .int .i64 p0.Vocab, .int .i64 p0.Places] 23)] :: Φ) w) ?_ ?_
              · refine WC.region [(0, true), (1, true), (2, true), (3, true), (4, true), (5, true)] rfl ?_
                refine WO.move rfl rfl rfl rfl ?_
                refine WO.eqNil rfl rfl rfl rfl rfl Try.underlying26 ?_
                refine WO.move rfl rfl rfl rfl ?_
                refine WO.skip rfl rfl rfl rfl ?_
                refine WO.skip rfl rfl rfl rfl ?_
                refine WO.pickT rfl rfl rfl rfl rfl ?_
                refine WO.done ?_
                refine At.seq_at ?_
                exact fun a w hc hs => ⟨hr, (hc.keep (hc.keep (hc.keep (hc.keep (hc.keep hc.nil (t := 63) rfl) (t := 7) rfl) (t := 3) rfl) (t := 2) rfl) (t := 1) rfl), hs⟩
              · rintro a w ⟨hr, hc, hs⟩
                refine WC.use hc hs ?_
                clear hc hs
                unfold law21_AdmitActs_k5 at hr
                refine WC.condT rfl ?_
                refine WC.then ?_
                refine WC.region [(0, true)] rfl ?_
                refine WO.assign rfl rfl rfl rfl ?_
                refine WO.done ?_
                refine At.seq_wc ?_
                refine WC.ret ?_
                refine At.seq_ret ?_
                obtain rfl := Option.some.inj hr
                exact At.ret (fun a w hc hs => (resVs_cons (hc.res rfl) resVs_nil)) (fun w hs => ⟨rfl, (hs.arrange 1 1 [0] [] (by decide))⟩)
      · have hr := elim_some hn25 hr
        have hs37 := (hs37.arrange 0 5 [3] [0, 1, 2, 4] (by decide))
        refine ⟨(Mem.add F χ), ([(b26, row [.int .i64 o11.s.Layers, .int .i64 o11.s.Width, .int .i64 o11.s.Heads, .int .i64 o11.s.Inner, .int .i64 o11.s.Vocab, .int .i64 o11.s.Places, .int .i64 o11.room, .slice a27 o11.row.length c28, .map (some b32)] 57)] :: p30 :: p33 :: [(b1, row [.int .i64 p0.Layers, .int .i64 p0.Width, .int .i64 p0.Heads, .int .i64 p0.Inner, .int .i64 p0.Vocab, .int .i64 p0.Places] 23)] :: Φ), hs37, trivial, ?_⟩
        refine WO.move rfl rfl rfl rfl ?_
        refine WO.extract rfl rfl rfl rfl rfl ?_
        refine WO.extract rfl rfl rfl rfl rfl ?_
        refine WO.assign rfl rfl rfl rfl ?_
        refine WO.assign rfl rfl rfl rfl ?_
        refine WO.done ?_
        refine At.seq_wc ?_
        refine WC.then ?_
        refine WC.then ?_
        refine WC.region [(0, false), (1, false), (2, true)] rfl ?_
        refine WO.loadA 3 6 rfl rfl rfl rfl ag_23 rfl rfl rfl ?_
        obtain ⟨x38, hx39, hr⟩ := bind_some' hr
        refine WO.call rfl rfl rfl rfl rfl cl_6 (CallsRet.lay0 1 4 [] [0, 1, 2, 3, 4] (by decide) F (χ :: [(b26, row [.int .i64 o11.s.Layers, .int .i64 o11.s.Width, .int .i64 o11.s.Heads, .int .i64 o11.s.Inner, .int .i64 o11.s.Vocab, .int .i64 o11.s.Places, .int .i64 o11.room, .slice a27 o11.row.length c28, .map (some b32)] 57)] :: p30 :: p33 :: [(b1, row [.int .i64 p0.Layers, .int .i64 p0.Width, .int .i64 p0.Heads, .int .i64 p0.Inner, .int .i64 p0.Vocab, .int .i64 p0.Places] 23)] :: Φ) rfl rfl (ref07_Right_ok (F := F) rfl hx39 (χ :: [(b26, row [.int .i64 o11.s.Layers, .int .i64 o11.s.Width, .int .i64 o11.s.Heads, .int .i64 o11.s.Inner, .int .i64 o11.s.Vocab, .int .i64 o11.s.Places, .int .i64 o11.room, .slice a27 o11.row.length c28, .map (some b32)] 57)] :: p30 :: p33 :: [(b1, row [.int .i64 p0.Layers, .int .i64 p0.Width, .int .i64 p0.Heads, .int .i64 p0.Inner, .int .i64 p0.Vocab, .int .i64 p0.Places] 23)] :: Φ))) ?_
        rintro _ _ ⟨rfl, hs40⟩
        have hs40 := (hs40.arrange 0 5 [0] [1, 2, 3, 4] (by decide))
        refine ⟨(Mem.add F χ), ([(b26, row [.int .i64 o11.s.Layers, .int .i64 o11.s.Width, .int .i64 o11.s.Heads, .int .i64 o11.s.Inner, .int .i64 o11.s.Vocab, .int .i64 o11.s.Places, .int .i64 o11.room, .slice a27 o11.row.length c28, .map (some b32)] 57)] :: p30 :: p33 :: [(b1, row [.int .i64 p0.Layers, .int .i64 p0.Width, .int .i64 p0.Heads, .int .i64 p0.Inner, .int .i64 p0.Vocab, .int .i64 p0.Places] 23)] :: Φ), hs40, trivial, ?_⟩
        refine WO.un rfl rfl rfl rfl rfl ?_
        refine WO.done ?_
        refine At.seq_wc ?_
        refine WC.cond rfl (fun hb41 => ?_) (fun hb41 => ?_)
        · have hr := cond_t hb41 hr
          refine WC.seq (fun a w => law21_AdmitActs_k6  = some r ∧ Ctx 227 [(6, .bool false)] a ∧ Sat (Mem.add F χ) ([(b26, row [.int .i64 o11.s.Layers, .int .i64 o11.s.Width, .int .i64 o11.s.Heads, .int .i64 o11.s.Inner, .int .i64 o11.s.Vocab, .int .i64 o11.s.Places, .int .i64 o11.room, .slice a27 o11.row.length c28, .map (some b32)] 57)] :: p30 :: p33 :: [(b1, row [.int .i64 p0.Layers, .int .i64 p0.Width, .int .i64 p0.Heads, .int .i64 p0.Inner, .int .i64 p0.Vocab, .int .i64 p0.Places] 23)] :: Φ) w) ?_ ?_
          · refine WC.region [(0, true), (1, true), (2, true), (3, true), (4, true), (5, true), (6, true)] rfl ?_
            refine WO.move rfl rfl rfl rfl ?_
            refine WO.eqNil rfl rfl rfl rfl rfl Try.underlying26 ?_
            refine WO.move rfl rfl rfl rfl ?_
            refine WO.skip rfl rfl rfl rfl ?_
            refine WO.skip rfl rfl rfl rfl ?_
            refine WO.pickF rfl rfl rfl rfl rfl ?_
            refine WO.assign rfl rfl rfl rfl ?_
            refine WO.done ?_
            refine At.seq_at ?_
            exact fun a w hc hs => ⟨hr, (hc.keep hc.nil (t := 6) rfl), hs⟩
          · rintro a w ⟨hr, hc, hs⟩
            refine WC.use hc hs ?_
            clear hc hs
            unfold law21_AdmitActs_k6 at hr
            refine WC.ret ?_
            refine At.seq_ret ?_
            obtain rfl := Option.some.inj hr
            exact At.ret (fun a w hc hs => (resVs_cons (hc.res rfl) resVs_nil)) (fun w hs => ⟨rfl, (hs.arrange 1 4 [0] [] (by decide))⟩)
        · have hr := cond_f hb41 hr
          refine WC.skip ?_
          refine At.seq_wc ?_
          refine WC.then ?_
          refine WC.seq (fun a w => ∃ (v44 : Bool), law21_AdmitActs_k7 p0 p1 p2 x9 o11 v44 = some r ∧ Ctx 227 [(1, .int .i64 p1), (2, .slice a_2 p2.length c_2), (3, .pointer (some ⟨b1, 0, none⟩)), (7, .pointer (some ⟨b26, 0, none⟩)), (8, .int .i64 x9.2), (51, .bool v44)] a ∧ Sat (Mem.add F χ) ([(b26, row [.int .i64 o11.s.Layers, .int .i64 o11.s.Width, .int .i64 o11.s.Heads, .int .i64 o11.s.Inner, .int .i64 o11.s.Vocab, .int .i64 o11.s.Places, .int .i64 o11.room, .slice a27 o11.row.length c28, .map (some b32)] 57)] :: p30 :: p33 :: [(b1, row [.int .i64 p0.Layers, .int .i64 p0.Width, .int .i64 p0.Heads, .int .i64 p0.Inner, .int .i64 p0.Vocab, .int .i64 p0.Places] 23)] :: Φ) w) ?_ ?_
          · refine WC.region [(0, true), (1, true), (2, true), (3, true), (4, true), (5, true)] rfl ?_
            refine WO.move rfl rfl rfl rfl ?_
            refine WO.bin rfl rfl rfl rfl rfl rfl ?_
            refine WO.move rfl rfl rfl rfl ?_
            refine WO.split (t := 48) rfl (fun hg613 => ?_) (fun hg613 => ?_)
            · have hr := cond_t hg613 hr
              refine WO.skip rfl rfl rfl rfl ?_
              refine WO.skip rfl rfl rfl rfl ?_
              refine WO.pickT rfl rfl rfl rfl rfl ?_
              refine WO.done ?_
              refine At.seq_at ?_
              exact fun a w hc hs => ⟨true, hr, (hc.keep (hc.keep (hc.keep (hc.keep (hc.keep (hc.keep hc.nil (t := 51) rfl) (t := 8) rfl) (t := 7) rfl) (t := 3) rfl) (t := 2) rfl) (t := 1) rfl), hs⟩
            · have hr := cond_f hg613 hr
              refine WO.move rfl rfl rfl rfl ?_
              refine WO.bin rfl rfl rfl rfl rfl rfl ?_
              refine WO.pickF rfl rfl rfl rfl rfl ?_
              refine WO.done ?_
              refine At.seq_at ?_
              exact fun a w hc hs => ⟨(decide (p1 > 4096)), hr, (hc.keep (hc.keep (hc.keep (hc.keep (hc.keep (hc.keep hc.nil (t := 51) rfl) (t := 8) rfl) (t := 7) rfl) (t := 3) rfl) (t := 2) rfl) (t := 1) rfl), hs⟩
          · rintro a w ⟨v44, hr, hc, hs⟩
            refine WC.use hc hs ?_
            clear hc hs
            unfold law21_AdmitActs_k7 at hr
            refine WC.cond rfl (fun hb45 => ?_) (fun hb45 => ?_)
            · have hr := cond_t hb45 hr
              refine WC.seq (fun a w => law21_AdmitActs_k8  = some r ∧ Ctx 227 [(6, .bool false)] a ∧ Sat (Mem.add F χ) ([(b26, row [.int .i64 o11.s.Layers, .int .i64 o11.s.Width, .int .i64 o11.s.Heads, .int .i64 o11.s.Inner, .int .i64 o11.s.Vocab, .int .i64 o11.s.Places, .int .i64 o11.room, .slice a27 o11.row.length c28, .map (some b32)] 57)] :: p30 :: p33 :: [(b1, row [.int .i64 p0.Layers, .int .i64 p0.Width, .int .i64 p0.Heads, .int .i64 p0.Inner, .int .i64 p0.Vocab, .int .i64 p0.Places] 23)] :: Φ) w) ?_ ?_
              · refine WC.region [(0, true), (1, true), (2, true), (3, true), (4, true), (5, true), (6, true)] rfl ?_
                refine WO.move rfl rfl rfl rfl ?_
                refine WO.eqNil rfl rfl rfl rfl rfl Try.underlying26 ?_
                refine WO.move rfl rfl rfl rfl ?_
                refine WO.skip rfl rfl rfl rfl ?_
                refine WO.skip rfl rfl rfl rfl ?_
                refine WO.pickF rfl rfl rfl rfl rfl ?_
                refine WO.assign rfl rfl rfl rfl ?_
                refine WO.done ?_
                refine At.seq_at ?_
                exact fun a w hc hs => ⟨hr, (hc.keep hc.nil (t := 6) rfl), hs⟩
              · rintro a w ⟨hr, hc, hs⟩
                refine WC.use hc hs ?_
                clear hc hs
                unfold law21_AdmitActs_k8 at hr
                refine WC.ret ?_
                refine At.seq_ret ?_
                obtain rfl := Option.some.inj hr
                exact At.ret (fun a w hc hs => (resVs_cons (hc.res rfl) resVs_nil)) (fun w hs => ⟨rfl, (hs.arrange 1 4 [0] [] (by decide))⟩)
            · have hr := cond_f hb45 hr
              refine WC.skip ?_
              refine At.seq_wc ?_
              refine WC.then ?_
              refine WC.seq (fun a w => law21_AdmitActs_k9 p0 p1 p2 x9 o11 = some r ∧ Ctx 227 [(1, .int .i64 p1), (2, .slice a_2 p2.length c_2), (3, .pointer (some ⟨b1, 0, none⟩)), (7, .pointer (some ⟨b26, 0, none⟩)), (63, .bool (x9.2 != 0))] a ∧ Sat (Mem.add F χ) ([(b26, row [.int .i64 o11.s.Layers, .int .i64 o11.s.Width, .int .i64 o11.s.Heads, .int .i64 o11.s.Inner, .int .i64 o11.s.Vocab, .int .i64 o11.s.Places, .int .i64 o11.room, .slice a27 o11.row.length c28, .map (some b32)] 57)] :: p30 :: p33 :: [(b1, row [.int .i64 p0.Layers, .int .i64 p0.Width, .int .i64 p0.Heads, .int .i64 p0.Inner, .int .i64 p0.Vocab, .int .i64 p0.Places] 23)] :: Φ) w) ?_ ?_
              · refine WC.region [(0, true), (1, true), (2, true), (3, true), (4, true), (5, true)] rfl ?_
                refine WO.move rfl rfl rfl rfl ?_
                refine WO.eqNil rfl rfl rfl rfl rfl Try.underlying26 ?_
                refine WO.move rfl rfl rfl rfl ?_
                refine WO.move rfl rfl rfl rfl ?_
                refine WO.bin rfl rfl rfl rfl rfl rfl ?_
                refine WO.pickF rfl rfl rfl rfl rfl ?_
                refine WO.done ?_
                refine At.seq_at ?_
                exact fun a w hc hs => ⟨hr, (hc.keep (hc.keep (hc.keep (hc.keep (hc.keep hc.nil (t := 63) rfl) (t := 7) rfl) (t := 3) rfl) (t := 2) rfl) (t := 1) rfl), hs⟩
              · rintro a w ⟨hr, hc, hs⟩
                refine WC.use hc hs ?_
                clear hc hs
                unfold law21_AdmitActs_k9 at hr
                refine WC.cond rfl (fun hb48 => ?_) (fun hb48 => ?_)
                · have hr := cond_t hb48 hr
                  refine WC.then ?_
                  refine WC.region [(0, true)] rfl ?_
                  refine WO.assign rfl rfl rfl rfl ?_
                  refine WO.done ?_
                  refine At.seq_wc ?_
                  refine WC.ret ?_
                  refine At.seq_ret ?_
                  obtain rfl := Option.some.inj hr
                  exact At.ret (fun a w hc hs => (resVs_cons (hc.res rfl) resVs_nil)) (fun w hs => ⟨rfl, (hs.arrange 1 4 [0] [] (by decide))⟩)
                · have hr := cond_f hb48 hr
                  refine WC.skip ?_
                  refine At.seq_wc ?_
                  refine WC.then ?_
                  refine WC.region [(0, false), (1, true), (2, true), (3, false), (4, true)] rfl ?_
                  refine WO.loadA 3 6 rfl rfl rfl rfl ag_23 rfl rfl rfl ?_
                  refine WO.move rfl rfl rfl rfl ?_
                  refine WO.build (vs := [.tmp 64, .tmp 65]) [0, 1] (.agg (List.toArray [.int .i64 p0.Layers, .int .i64 p0.Width, .int .i64 p0.Heads, .int .i64 p0.Inner, .int .i64 p0.Vocab, .int .i64 p0.Places, .int .i64 p1, .slice none 0 0, .slice none 0 0])) rfl rfl rfl rfl rfl (fun _ => by kernel_rfl) ?_
                  refine WO.box rfl rfl rfl rfl rfl (fun _ _ _ => trivial) (fun b49 => ?_)
                  refine WO.assign rfl rfl rfl rfl ?_
                  refine WO.done ?_
                  refine At.seq_wc ?_
                  refine WC.seq (fun a w => ∃ (v52 : S_ref21_Desk) (v63 : S_admit_Desk) (a53 : Option Addr) (c54 : Nat) (p55 : List Chunk) (a58 : Option Addr) (c59 : Nat) (p60 : List Chunk) (a64 : Option Addr) (c65 : Nat) (p66 : List Chunk) (b69 : Nat) (p70 : List Chunk) (w51 : List Chunk), law21_AdmitActs_k10 v52 v63 = some r ∧ Ctx 227 [(7, .pointer (some ⟨b26, 0, none⟩)), (9, .pointer (some ⟨b49, 0, none⟩))] a ∧ Sat (Mem.add (Mem.add F χ) w51) (p55 :: p60 :: p66 :: p70 :: [(b49, row [.int .i64 v52.S.Layers, .int .i64 v52.S.Width, .int .i64 v52.S.Heads, .int .i64 v52.S.Inner, .int .i64 v52.S.Vocab, .int .i64 v52.S.Places, .int .i64 v52.Room, .slice a53 v52.L.length c54, .slice a58 v52.Ids.length c59] 35)] :: [(b26, row [.int .i64 v63.s.Layers, .int .i64 v63.s.Width, .int .i64 v63.s.Heads, .int .i64 v63.s.Inner, .int .i64 v63.s.Vocab, .int .i64 v63.s.Places, .int .i64 v63.room, .slice a64 v63.row.length c65, .map (some b69)] 57)] :: Φ) w ∧ OwnL 3 R_api_Request (Mem.add F w51) 37 a53 c54 v52.L p55 ∧ OwnL 1 (RInt .i64) F 3 a58 c59 v52.Ids p60 ∧ OwnL 3 R_api_Request (Mem.add F w51) 37 a64 c65 v63.row p66 ∧ OwnM (fun x : Int => Value.int .i64 x) (RV1 RBool) F b69 v63.took p70) ?_ ?_
                  · refine WC.then ?_
                    refine WC.region [(0, true)] rfl ?_
                    refine WO.assign rfl rfl rfl rfl ?_
                    refine WO.done ?_
                    refine At.seq_wc ?_
                    obtain ⟨xl15, hl15, hk15⟩ := bind_some' hr
                    refine WC.weaken (fun a w => ∃ (v284 : S_ref21_Desk) (v295 : S_admit_Desk) (a285 : Option Addr) (c286 : Nat) (p287 : List Chunk) (a290 : Option Addr) (c291 : Nat) (p292 : List Chunk) (a296 : Option Addr) (c297 : Nat) (p298 : List Chunk) (b301 : Nat) (p302 : List Chunk) (w283 : List Chunk), .brk (v284, v295) = xl15 ∧ Ctx 227 [(7, .pointer (some ⟨b26, 0, none⟩)), (9, .pointer (some ⟨b49, 0, none⟩))] a ∧ Sat (Mem.add (Mem.add F χ) w283) (p287 :: p292 :: p298 :: p302 :: [(b49, row [.int .i64 v284.S.Layers, .int .i64 v284.S.Width, .int .i64 v284.S.Heads, .int .i64 v284.S.Inner, .int .i64 v284.S.Vocab, .int .i64 v284.S.Places, .int .i64 v284.Room, .slice a285 v284.L.length c286, .slice a290 v284.Ids.length c291] 35)] :: [(b26, row [.int .i64 v295.s.Layers, .int .i64 v295.s.Width, .int .i64 v295.s.Heads, .int .i64 v295.s.Inner, .int .i64 v295.s.Vocab, .int .i64 v295.s.Places, .int .i64 v295.room, .slice a296 v295.row.length c297, .map (some b301)] 57)] :: Φ) w ∧ OwnL 3 R_api_Request (Mem.add F w283) 37 a285 c286 v284.L p287 ∧ OwnL 1 (RInt .i64) F 3 a290 c291 v284.Ids p292 ∧ OwnL 3 R_api_Request (Mem.add F w283) 37 a296 c297 v295.row p298 ∧ OwnM (fun x : Int => Value.int .i64 x) (RV1 RBool) F b301 v295.took p302) ?_ ?_
                    · refine WC.block ?_
                      refine WC.loop (fun ⟨v238, v239, v250⟩ a w => ∃ (a240 : Option Addr) (c241 : Nat) (p242 : List Chunk) (a245 : Option Addr) (c246 : Nat) (p247 : List Chunk) (a251 : Option Addr) (c252 : Nat) (p253 : List Chunk) (b256 : Nat) (p257 : List Chunk) (w237 : List Chunk), Ctx 227 [(1, .int .i64 p1), (2, .slice a_2 p2.length c_2), (7, .pointer (some ⟨b26, 0, none⟩)), (9, .pointer (some ⟨b49, 0, none⟩)), (10, .int .i64 v238)] a ∧ Sat (Mem.add (Mem.add F χ) w237) (p242 :: p247 :: p253 :: p257 :: [(b49, row [.int .i64 v239.S.Layers, .int .i64 v239.S.Width, .int .i64 v239.S.Heads, .int .i64 v239.S.Inner, .int .i64 v239.S.Vocab, .int .i64 v239.S.Places, .int .i64 v239.Room, .slice a240 v239.L.length c241, .slice a245 v239.Ids.length c246] 35)] :: [(b26, row [.int .i64 v250.s.Layers, .int .i64 v250.s.Width, .int .i64 v250.s.Heads, .int .i64 v250.s.Inner, .int .i64 v250.s.Vocab, .int .i64 v250.s.Places, .int .i64 v250.room, .slice a251 v250.row.length c252, .map (some b256)] 57)] :: Φ) w ∧ OwnL 3 R_api_Request (Mem.add F w237) 37 a240 c241 v239.L p242 ∧ OwnL 1 (RInt .i64) F 3 a245 c246 v239.Ids p247 ∧ OwnL 3 R_api_Request (Mem.add F w237) 37 a251 c252 v250.row p253 ∧ OwnM (fun x : Int => Value.int .i64 x) (RV1 RBool) F b256 v250.took p257) hl15 ?_ ?_
                      · refine At.empty ?_
                        have ho610 : OwnL 3 R_api_Request F 37 none 0 ([] : List S_api_Request) [] := OwnL.nil
                        refine At.empty ?_
                        have ho612 : OwnL 1 (RInt .i64) F 3 none 0 ([] : List Int) [] := OwnL.nil
                        exact fun a w hc hs => ⟨none, 0, [], none, 0, [], a27, c28, p30, b32, p33, (List.flatten []), (hc.keep (hc.keep (hc.keep (hc.keep (hc.keep hc.nil (t := 10) rfl) (t := 9) rfl) (t := 7) rfl) (t := 2) rfl) (t := 1) rfl), ((hs.arrange 1 7 [0] [2, 1, 5, 6, 3, 4] (by decide)).gather 0), (ho610.mono mono_api_Request (Mem.le_gather F 0)), (OwnL.re (G := F) (const_int _) ho612), (h29.mono mono_api_Request (Mem.le_gather F 0)), (OwnM.re (G := F) (constV1 const_bool) hm35)⟩
                      · rintro ⟨v238, v239, v250⟩ r15 hr a w ⟨a240, c241, p242, a245, c246, p247, a251, c252, p253, b256, p257, w237, hc, hs, ho243, ho248, ho254, hm258⟩
                        refine WC.use hc hs ?_
                        clear hc hs
                        (try dsimp only at hr)
                        unfold law21_AdmitActs_b14 at hr
                        refine WC.then ?_
                        refine WC.then ?_
                        refine WC.region [(0, true), (1, true), (2, true), (3, true)] rfl ?_
                        refine WO.move rfl rfl rfl rfl ?_
                        refine WO.move rfl rfl rfl rfl ?_
                        refine WO.len rfl rfl rfl rfl Try.underlying24 ?_
                        refine WO.bin rfl rfl rfl rfl rfl rfl ?_
                        refine WO.done ?_
                        refine At.seq_wc ?_
                        refine WC.cond rfl (fun hb305 => ?_) (fun hb305 => ?_)
                        · have hr := cond_t hb305 hr
                          refine WC.skip ?_
                          refine At.seq_wc ?_
                          refine WC.seq (fun a w => ∃ (v307 : S_ref21_Desk) (v318 : S_admit_Desk) (a308 : Option Addr) (c309 : Nat) (p310 : List Chunk) (a313 : Option Addr) (c314 : Nat) (p315 : List Chunk) (a319 : Option Addr) (c320 : Nat) (p321 : List Chunk) (b324 : Nat) (p325 : List Chunk) (w306 : List Chunk), law21_AdmitActs_k16 v238 v307 v318 = some r15 ∧ Ctx 227 [(1, .int .i64 p1), (2, .slice a_2 p2.length c_2), (7, .pointer (some ⟨b26, 0, none⟩)), (9, .pointer (some ⟨b49, 0, none⟩)), (10, .int .i64 v238)] a ∧ Sat (Mem.add (Mem.add (Mem.add F χ) w237) w306) (p310 :: p315 :: p321 :: p325 :: [(b49, row [.int .i64 v307.S.Layers, .int .i64 v307.S.Width, .int .i64 v307.S.Heads, .int .i64 v307.S.Inner, .int .i64 v307.S.Vocab, .int .i64 v307.S.Places, .int .i64 v307.Room, .slice a308 v307.L.length c309, .slice a313 v307.Ids.length c314] 35)] :: [(b26, row [.int .i64 v318.s.Layers, .int .i64 v318.s.Width, .int .i64 v318.s.Heads, .int .i64 v318.s.Inner, .int .i64 v318.s.Vocab, .int .i64 v318.s.Places, .int .i64 v318.room, .slice a319 v318.row.length c320, .map (some b324)] 57)] :: Φ) w ∧ OwnL 3 R_api_Request (Mem.add (Mem.add F w237) w306) 37 a308 c309 v307.L p310 ∧ OwnL 1 (RInt .i64) F 3 a313 c314 v307.Ids p315 ∧ OwnL 3 R_api_Request (Mem.add (Mem.add F w237) w306) 37 a319 c320 v318.row p321 ∧ OwnM (fun x : Int => Value.int .i64 x) (RV1 RBool) F b324 v318.took p325) ?_ ?_
                          · refine WC.block ?_
                            refine WC.then ?_
                            refine WC.region [(0, true), (1, true), (2, true), (3, false), (4, false), (5, false)] rfl ?_
                            refine WO.move rfl rfl rfl rfl ?_
                            refine WO.move rfl rfl rfl rfl ?_
                            obtain ⟨x328, hx329, hr⟩ := bind_some' hr
                            refine WO.indexR h_2 hx329 rfl rfl rfl rfl rfl rfl Try.underlying24 sz_39 ?_
                            rintro b330 o331 _ hc332 ⟨a333, c334, rfl, h335⟩
                            refine WO.loadPAn 0 4 (hc332.mono (Mem.le_pick (Mem.add (Mem.add F χ) w237) 2 [1] (by decide))) rfl rfl rfl rfl rfl ag_39 rfl rfl ?_
                            refine WO.alloc (.agg #[.int .i64 0, .int .i64 0, .int .i64 0, .slice none 0 0]) rfl rfl rfl zb_39 rfl (fun _ _ _ => trivial) (fun b336 => ?_)
                            refine WO.storeA 0 4 rfl rfl rfl rfl sz_39 rfl rfl rfl rfl (fun _ _ => trivial) ?_
                            refine WO.done ?_
                            refine At.seq_wc ?_
                            refine WC.then ?_
                            refine WC.then ?_
                            refine WC.region [(0, true), (1, true), (2, false), (3, true), (4, true)] rfl ?_
                            refine WO.fieldAddr 1 rfl rfl rfl rfl fl_39_1 ?_
                            refine WO.fieldAddr 2 rfl rfl rfl rfl fl_37_2 ?_
                            refine WO.load 0 rfl rfl rfl rfl sc_33 rfl rfl ?_
                            refine WO.len rfl rfl rfl rfl Try.underlying33 ?_
                            refine WO.bin rfl rfl rfl rfl rfl rfl ?_
                            refine WO.done ?_
                            refine At.seq_wc ?_
                            refine WC.cond rfl (fun hb338 => ?_) (fun hb338 => ?_)
                            · have hr := cond_t hb338 hr
                              refine WC.then ?_
                              refine WC.region [(0, true)] rfl ?_
                              refine WO.assign rfl rfl rfl rfl ?_
                              refine WO.done ?_
                              refine At.seq_wc ?_
                              refine WC.ret ?_
                              refine At.seq_ret ?_
                              refine At.block_ret ?_
                              refine At.seq_ret ?_
                              refine At.round_ret hr (fun hy => ?_)
                              subst hy
                              have hr := hk15
                              refine At.block_ret ?_
                              refine At.seq_ret ?_
                              refine At.seq_ret ?_
                              obtain rfl := Option.some.inj hr
                              exact At.ret (fun a w hc hs => (resVs_cons (hc.res rfl) resVs_nil)) (fun w hs => ⟨rfl, (hs.arrange 2 7 [1] [] (by decide))⟩)
                            · have hr := cond_f hb338 hr
                              refine WC.skip ?_
                              refine At.seq_wc ?_
                              refine WC.seq (fun a w => ∃ (v340 : S_ref21_Desk) (v351 : S_admit_Desk) (a341 : Option Addr) (c342 : Nat) (p343 : List Chunk) (a346 : Option Addr) (c347 : Nat) (p348 : List Chunk) (a352 : Option Addr) (c353 : Nat) (p354 : List Chunk) (b357 : Nat) (p358 : List Chunk) (w339 : List Chunk), law21_AdmitActs_k17 p1 v238 x328 v340 v351 = some r15 ∧ Ctx 227 [(1, .int .i64 p1), (2, .slice a_2 p2.length c_2), (7, .pointer (some ⟨b26, 0, none⟩)), (9, .pointer (some ⟨b49, 0, none⟩)), (10, .int .i64 v238), (11, .pointer (some ⟨b336, 0, none⟩))] a ∧ Sat (Mem.add (Mem.add (Mem.add F χ) w237) w339) (p343 :: p348 :: p354 :: p358 :: [(b336, row [.int .i64 x328.Kind, .int .i64 x328.R.ID, .int .i64 x328.R.Most, .slice a333 x328.R.Prompt.length c334] 39)] :: [(b49, row [.int .i64 v340.S.Layers, .int .i64 v340.S.Width, .int .i64 v340.S.Heads, .int .i64 v340.S.Inner, .int .i64 v340.S.Vocab, .int .i64 v340.S.Places, .int .i64 v340.Room, .slice a341 v340.L.length c342, .slice a346 v340.Ids.length c347] 35)] :: [(b26, row [.int .i64 v351.s.Layers, .int .i64 v351.s.Width, .int .i64 v351.s.Heads, .int .i64 v351.s.Inner, .int .i64 v351.s.Vocab, .int .i64 v351.s.Places, .int .i64 v351.room, .slice a352 v351.row.length c353, .map (some b357)] 57)] :: Φ) w ∧ OwnL 3 R_api_Request (Mem.add (Mem.add F w237) w339) 37 a341 c342 v340.L p343 ∧ OwnL 1 (RInt .i64) F 3 a346 c347 v340.Ids p348 ∧ OwnL 3 R_api_Request (Mem.add (Mem.add F w237) w339) 37 a352 c353 v351.row p354 ∧ OwnM (fun x : Int => Value.int .i64 x) (RV1 RBool) F b357 v351.took p358) ?_ ?_
                              · refine WC.then ?_
                                refine WC.region [(0, true), (1, false)] rfl ?_
                                refine WO.fieldAddr 0 rfl rfl rfl rfl fl_39_0 ?_
                                refine WO.load 0 rfl rfl rfl rfl sc_3 rfl rfl ?_
                                refine WO.done ?_
                                refine At.seq_wc ?_
                                refine WC.block ?_
                                refine WC.then ?_
                                refine WC.region [(0, true), (1, true)] rfl ?_
                                refine WO.bin rfl rfl rfl rfl rfl rfl ?_
                                refine WO.assign rfl rfl rfl rfl ?_
                                refine WO.done ?_
                                refine At.seq_wc ?_
                                refine WC.cond rfl (fun hb378 => ?_) (fun hb378 => ?_)
                                · have hr := cond_t hb378 hr
                                  refine WC.seq (fun a w => ∃ (v382 : List Int) (b381 : Nat) (a383 : Option Addr) (c384 : Nat) (p385 : List Chunk), law21_AdmitActs_k19 p1 v238 v239 v250 x328 v382 = some r15 ∧ Ctx 227 [(1, .int .i64 p1), (2, .slice a_2 p2.length c_2), (7, .pointer (some ⟨b26, 0, none⟩)), (9, .pointer (some ⟨b49, 0, none⟩)), (10, .int .i64 v238), (11, .pointer (some ⟨b336, 0, none⟩)), (12, .pointer (some ⟨b381, 0, none⟩))] a ∧ Sat (Mem.add (Mem.add F χ) w237) (p385 :: [(b381, row [.int .i64 x328.R.ID, .int .i64 x328.R.Most, .slice a383 v382.length c384] 37)] :: [(b336, row [.int .i64 x328.Kind, .int .i64 x328.R.ID, .int .i64 x328.R.Most, .slice a333 x328.R.Prompt.length c334] 39)] :: p242 :: p247 :: p253 :: p257 :: [(b49, row [.int .i64 v239.S.Layers, .int .i64 v239.S.Width, .int .i64 v239.S.Heads, .int .i64 v239.S.Inner, .int .i64 v239.S.Vocab, .int .i64 v239.S.Places, .int .i64 v239.Room, .slice a240 v239.L.length c241, .slice a245 v239.Ids.length c246] 35)] :: [(b26, row [.int .i64 v250.s.Layers, .int .i64 v250.s.Width, .int .i64 v250.s.Heads, .int .i64 v250.s.Inner, .int .i64 v250.s.Vocab, .int .i64 v250.s.Places, .int .i64 v250.room, .slice a251 v250.row.length c252, .map (some b256)] 57)] :: Φ) w ∧ OwnL 1 (RInt .i64) F 3 a383 c384 v382 p385) ?_ ?_
                                  · refine WC.drawA (Sat (Mem.add (Mem.add F χ) w237) ([(b336, row [.int .i64 x328.Kind, .int .i64 x328.R.ID, .int .i64 x328.R.Most, .slice a333 x328.R.Prompt.length c334] 39)] :: p257 :: [(b49, row [.int .i64 v239.S.Layers, .int .i64 v239.S.Width, .int .i64 v239.S.Heads, .int .i64 v239.S.Inner, .int .i64 v239.S.Vocab, .int .i64 v239.S.Places, .int .i64 v239.Room, .slice a240 v239.L.length c241, .slice a245 v239.Ids.length c246] 35)] :: [(b26, row [.int .i64 v250.s.Layers, .int .i64 v250.s.Width, .int .i64 v250.s.Heads, .int .i64 v250.s.Inner, .int .i64 v250.s.Vocab, .int .i64 v250.s.Places, .int .i64 v250.room, .slice a251 v250.row.length c252, .map (some b256)] 57)] :: Φ)) (fun _ h => (h.arrange 2 7 [0, 1] [2, 6, 7, 8] (by decide))) mixed rfl ?_
                                    refine WA.lin (fuel := 5) [(0, true), (1, true), (2, true), (3, true), (4, true), (5, true), (7, true), (8, true), (9, true)] (by kernel_rfl) (by kernel_rfl) ?_
                                    refine WO.fieldAddr 1 rfl rfl rfl rfl fl_39_1 ?_
                                    refine WO.fieldAddr 0 rfl rfl rfl rfl fl_37_0 ?_
                                    refine WO.loadY 0 rfl rfl rfl rfl sc_3 rfl rfl ?_
                                    refine WO.fieldAddr 1 rfl rfl rfl rfl fl_39_1 ?_
                                    refine WO.fieldAddr 1 rfl rfl rfl rfl fl_37_1 ?_
                                    refine WO.loadY 0 rfl rfl rfl rfl sc_3 rfl rfl ?_
                                    refine WO.fieldAddr 1 rfl rfl rfl rfl fl_39_1 ?_
                                    refine WO.fieldAddr 2 rfl rfl rfl rfl fl_37_2 ?_
                                    refine WO.loadY 0 rfl rfl rfl rfl sc_33 rfl rfl ?_
                                    refine WO.done ?_
                                    refine WA.of ?_
                                    refine WA.two (fuel := 4) 6 12 (by kernel_rfl) ?_ ?_
                                    · refine WO.buildSl (e := 3) (vs := []) [] [] rfl rfl rfl rfl rfl (fun _ => by kernel_rfl) (fun _ _ h => (h.arrange 2 8 [0, 1] [3, 7, 8, 9] (by decide))) (fun b483 => ?_)
                                      refine WO.done ?_
                                      refine WA.of ?_
                                      refine WA.two (fuel := 3) 10 12 (by kernel_rfl) ?_ ?_
                                      · have ho485 : OwnL 1 (RInt .i64) F 3 (some ⟨b483, 0, none⟩) 0 ([] : List Int) [(b483, row [] 3)] := ⟨Nat.le_refl _, .inr ⟨_, [], [], rfl, rfl, Rs.nil, rfl⟩⟩
                                        obtain ⟨x487, hx488, hr⟩ := bind_some' hr
                                        refine WO.append 0 (OwnL.re (G := (Mem.add F χ)) (const_int _) ho485) rfl (SrcL.ofRd Try.underlying33 h335 (Mem.le_pick (Mem.add (Mem.add F χ) w237) 2 [1] (by decide))) hx488 rfl rfl rfl rfl rfl rfl Try.underlying33 el_3 (fun _ _ h => (h.arrange 2 8 [0, 1] [3, 7, 8, 9] (by decide))) (fun a489 c490 p491 ho492 => ?_)
                                        refine WO.done ?_
                                        refine WA.of ?_
                                        refine WA.lin (fuel := 0) [(11, true), (12, false), (13, false)] (by kernel_rfl) (by kernel_rfl) ?_
                                        refine WO.build (vs := [.tmp 89, .tmp 92, .tmp 97]) [0, 1, 2] (.agg (List.toArray [.int .i64 x328.R.ID, .int .i64 x328.R.Most, .slice a489 x487.length c490])) rfl rfl rfl rfl rfl (fun _ => by kernel_rfl) ?_
                                        refine WO.alloc (.agg #[.int .i64 0, .int .i64 0, .slice none 0 0]) rfl rfl rfl zb_37 rfl (fun _ _ h => (h.arrange 2 9 [0, 1] [4, 8, 9, 10] (by decide))) (fun b493 => ?_)
                                        refine WO.storeA 0 3 rfl rfl rfl rfl sz_37 rfl rfl rfl rfl (fun _ h => (h.arrange 2 9 [0, 1] [4, 8, 9, 10] (by decide))) ?_
                                        refine WO.done ?_
                                        refine WA.of ?_
                                        refine WA.done (by kernel_rfl) ?_
                                        refine At.seq_at ?_
                                        exact fun a w hc hs => ⟨x487, b493, a489, c490, p491, hr, (hc.keep (hc.keep (hc.keep (hc.keep (hc.keep (hc.keep (hc.keep hc.nil (t := 12) rfl) (t := 11) rfl) (t := 10) rfl) (t := 9) rfl) (t := 7) rfl) (t := 2) rfl) (t := 1) rfl), (hs.arrange 2 9 [0, 1] [3, 2, 4, 5, 6, 7, 8, 9, 10] (by decide)), (OwnL.re (G := F) (const_int _) ho492)⟩
                                      · obtain ⟨x487, hq495, hr⟩ := bind_some' hr
                                        have hr : ((app ([] : List Int) x328.R.Prompt).bind fun x489 => law21_AdmitActs_k19 p1 v238 v239 v250 x328 x489) = some r15 := (bind_intro hq495 hr)
                                        refine WO.alloc (.agg #[.int .i64 0, .int .i64 0, .slice none 0 0]) rfl rfl rfl zb_37 rfl (fun _ _ h => (h.arrange 2 9 [0, 1] [4, 8, 9, 10] (by decide))) (fun b485 => ?_)
                                        refine WO.done ?_
                                        refine WA.of ?_
                                        refine WA.lin (fuel := 0) [(10, false), (11, true), (13, false)] (by kernel_rfl) (by kernel_rfl) ?_
                                        have ho487 : OwnL 1 (RInt .i64) F 3 (some ⟨b483, 0, none⟩) 0 ([] : List Int) [(b483, row [] 3)] := ⟨Nat.le_refl _, .inr ⟨_, [], [], rfl, rfl, Rs.nil, rfl⟩⟩
                                        obtain ⟨x489, hx490, hr⟩ := bind_some' hr
                                        refine WO.append 1 (OwnL.re (G := (Mem.add F χ)) (const_int _) ho487) rfl (SrcL.ofRd Try.underlying33 h335 (Mem.le_pick (Mem.add (Mem.add F χ) w237) 2 [1] (by decide))) hx490 rfl rfl rfl rfl rfl rfl Try.underlying33 el_3 (fun _ _ h => (h.arrange 2 9 [0, 1] [4, 8, 9, 10] (by decide))) (fun a491 c492 p493 ho494 => ?_)
                                        refine WO.build (vs := [.tmp 89, .tmp 92, .tmp 97]) [0, 1, 2] (.agg (List.toArray [.int .i64 x328.R.ID, .int .i64 x328.R.Most, .slice a491 x489.length c492])) rfl rfl rfl rfl rfl (fun _ => by kernel_rfl) ?_
                                        refine WO.storeA 0 3 rfl rfl rfl rfl sz_37 rfl rfl rfl rfl (fun _ h => (h.arrange 2 9 [0, 1] [4, 8, 9, 10] (by decide))) ?_
                                        refine WO.done ?_
                                        refine WA.of ?_
                                        refine WA.done (by kernel_rfl) ?_
                                        refine At.seq_at ?_
                                        exact fun a w hc hs => ⟨x489, b485, a491, c492, p493, hr, (hc.keep (hc.keep (hc.keep (hc.keep (hc.keep (hc.keep (hc.keep hc.nil (t := 12) rfl) (t := 11) rfl) (t := 10) rfl) (t := 9) rfl) (t := 7) rfl) (t := 2) rfl) (t := 1) rfl), (hs.arrange 2 9 [0, 1] [3, 2, 4, 5, 6, 7, 8, 9, 10] (by decide)), (OwnL.re (G := F) (const_int _) ho494)⟩
                                    · obtain ⟨x487, hq496, hr⟩ := bind_some' hr
                                      have hr : ((app ([] : List Int) x328.R.Prompt).bind fun x489 => law21_AdmitActs_k19 p1 v238 v239 v250 x328 x489) = some r15 := (bind_intro hq496 hr)
                                      refine WO.alloc (.agg #[.int .i64 0, .int .i64 0, .slice none 0 0]) rfl rfl rfl zb_37 rfl (fun _ _ h => (h.arrange 2 8 [0, 1] [3, 7, 8, 9] (by decide))) (fun b483 => ?_)
                                      refine WO.done ?_
                                      refine WA.of ?_
                                      refine WA.lin (fuel := 0) [(6, false), (10, false), (11, true), (13, false)] (by kernel_rfl) (by kernel_rfl) ?_
                                      refine WO.buildSl (e := 3) (vs := []) [] [] rfl rfl rfl rfl rfl (fun _ => by kernel_rfl) (fun _ _ h => (h.arrange 2 9 [0, 1] [4, 8, 9, 10] (by decide))) (fun b485 => ?_)
                                      have ho487 : OwnL 1 (RInt .i64) F 3 (some ⟨b485, 0, none⟩) 0 ([] : List Int) [(b485, row [] 3)] := ⟨Nat.le_refl _, .inr ⟨_, [], [], rfl, rfl, Rs.nil, rfl⟩⟩
                                      obtain ⟨x489, hx490, hr⟩ := bind_some' hr
                                      refine WO.append 0 (OwnL.re (G := (Mem.add F χ)) (const_int _) ho487) rfl (SrcL.ofRd Try.underlying33 h335 (Mem.le_pick (Mem.add (Mem.add F χ) w237) 2 [1] (by decide))) hx490 rfl rfl rfl rfl rfl rfl Try.underlying33 el_3 (fun _ _ h => (h.arrange 2 9 [0, 1] [4, 8, 9, 10] (by decide))) (fun a491 c492 p493 ho494 => ?_)
                                      refine WO.build (vs := [.tmp 89, .tmp 92, .tmp 97]) [0, 1, 2] (.agg (List.toArray [.int .i64 x328.R.ID, .int .i64 x328.R.Most, .slice a491 x489.length c492])) rfl rfl rfl rfl rfl (fun _ => by kernel_rfl) ?_
                                      refine WO.storeA 1 3 rfl rfl rfl rfl sz_37 rfl rfl rfl rfl (fun _ h => (h.arrange 2 9 [0, 1] [4, 8, 9, 10] (by decide))) ?_
                                      refine WO.done ?_
                                      refine WA.of ?_
                                      refine WA.done (by kernel_rfl) ?_
                                      refine At.seq_at ?_
                                      exact fun a w hc hs => ⟨x489, b483, a491, c492, p493, hr, (hc.keep (hc.keep (hc.keep (hc.keep (hc.keep (hc.keep (hc.keep hc.nil (t := 12) rfl) (t := 11) rfl) (t := 10) rfl) (t := 9) rfl) (t := 7) rfl) (t := 2) rfl) (t := 1) rfl), hs, (OwnL.re (G := F) (const_int _) ho494)⟩
                                  · rintro a w ⟨v382, b381, a383, c384, p385, hr, hc, hs, ho386⟩
                                    refine WC.use hc hs ?_
                                    clear hc hs
                                    unfold law21_AdmitActs_k19 at hr
                                    refine WC.then ?_
                                    refine WC.region [(0, true), (1, false), (2, false), (3, false), (4, true)] rfl ?_
                                    refine WO.move rfl rfl rfl rfl ?_
                                    refine WO.loadA 1 3 rfl rfl rfl rfl ag_37 rfl rfl rfl ?_
                                    refine WO.buildSl (e := 37) (vs := [.tmp 100]) [0] [.int .i64 x328.R.ID, .int .i64 x328.R.Most, .slice a383 v382.length c384] rfl rfl rfl rfl rfl (fun _ => by kernel_rfl) (fun _ _ _ => trivial) (fun b388 => ?_)
                                    refine WO.freeze 1 rfl ?_
                                    have hz390 := (OwnL.re (G := F) (const_int _) ho386).rd (mono_int _)
                                    have ho391 : OwnL 3 R_api_Request (Mem.add F p385) 37 (some ⟨b388, 0, none⟩) 1 [(⟨x328.R.ID, x328.R.Most, v382⟩ : S_api_Request)] [(b388, row [.int .i64 x328.R.ID, .int .i64 x328.R.Most, .slice a383 v382.length c384] 37)] := ⟨Nat.le_refl _, .inr ⟨_, [[.int .i64 x328.R.ID, .int .i64 x328.R.Most, .slice a383 v382.length c384]], [], rfl, rfl, (Rs.cons (x := (⟨x328.R.ID, x328.R.Most, v382⟩ : S_api_Request)) (cs := [.int .i64 x328.R.ID, .int .i64 x328.R.Most, .slice a383 v382.length c384]) rfl ⟨_, _, rfl, hz390⟩ rfl Rs.nil), rfl⟩⟩
                                    obtain ⟨x393, hx394, hr⟩ := bind_some' hr
                                    refine WO.call rfl rfl rfl rfl rfl cl_7 (CallsRet.lay 3 9 2 [3, 0, 1] [11, 8, 9, 2, 4, 5, 6, 7, 10] (by decide) (Mem.add (Mem.add F w237) (List.flatten [[(b388, row [.int .i64 x328.R.ID, .int .i64 x328.R.Most, .slice a383 v382.length c384] 37)], p385])) ([(b26, row [.int .i64 v250.s.Layers, .int .i64 v250.s.Width, .int .i64 v250.s.Heads, .int .i64 v250.s.Inner, .int .i64 v250.s.Vocab, .int .i64 v250.s.Places, .int .i64 v250.room, .slice a251 v250.row.length c252, .map (some b256)] 57)] :: p253 :: p257 :: χ :: [(b381, row [.int .i64 x328.R.ID, .int .i64 x328.R.Most, .slice a383 v382.length c384] 37)] :: [(b336, row [.int .i64 x328.Kind, .int .i64 x328.R.ID, .int .i64 x328.R.Most, .slice a333 x328.R.Prompt.length c334] 39)] :: p242 :: p247 :: [(b49, row [.int .i64 v239.S.Layers, .int .i64 v239.S.Width, .int .i64 v239.S.Heads, .int .i64 v239.S.Inner, .int .i64 v239.S.Vocab, .int .i64 v239.S.Places, .int .i64 v239.Room, .slice a240 v239.L.length c241, .slice a245 v239.Ids.length c246] 35)] :: Φ) rfl rfl (admit_Desk_Submit_vvvvvvvom_ok (F := (Mem.add F w237)) (χ := (List.flatten [[(b388, row [.int .i64 x328.R.ID, .int .i64 x328.R.Most, .slice a383 v382.length c384] 37)], p385])) ho254 (OwnM.re (G := (Mem.add F w237)) (constV1 const_bool) hm258) ((ho391.rd mono_api_Request).mono mono_api_Request (Mem.le.trans (Mem.le_pick (Mem.add (Mem.add (Mem.add F w237) p385) [(b388, row [.int .i64 x328.R.ID, .int .i64 x328.R.Most, .slice a383 v382.length c384] 37)]) 3 [0, 1] (by decide)) (Mem.le_gather (Mem.add (Mem.add (Mem.add F w237) p385) [(b388, row [.int .i64 x328.R.ID, .int .i64 x328.R.Most, .slice a383 v382.length c384] 37)]) 2))) hx394 (χ :: [(b381, row [.int .i64 x328.R.ID, .int .i64 x328.R.Most, .slice a383 v382.length c384] 37)] :: [(b336, row [.int .i64 x328.Kind, .int .i64 x328.R.ID, .int .i64 x328.R.Most, .slice a333 x328.R.Prompt.length c334] 39)] :: p242 :: p247 :: [(b49, row [.int .i64 v239.S.Layers, .int .i64 v239.S.Width, .int .i64 v239.S.Heads, .int .i64 v239.S.Inner, .int .i64 v239.S.Vocab, .int .i64 v239.S.Places, .int .i64 v239.Room, .slice a240 v239.L.length c241, .slice a245 v239.Ids.length c246] 35)] :: Φ))) ?_
                                    rintro _ _ ⟨q395, a396, c397, p399, a401, c402, p404, b406, p407, rfl, hs410, h398, h403, hm409⟩
                                    have hs410 := Sat.unlay1 (Mem.add F w237) [[(b388, row [.int .i64 x328.R.ID, .int .i64 x328.R.Most, .slice a383 v382.length c384] 37)], p385] _ hs410
                                    have hs410 := (hs410.arrange 4 10 [0, 2, 3, 8] [4, 6, 7, 1, 9, 10, 11, 12, 13, 5] (by decide))
                                    refine ⟨(Mem.add (Mem.add (Mem.add (Mem.add F χ) w237) p385) q395), (p399 :: p404 :: p407 :: [(b388, row [.int .i64 x328.R.ID, .int .i64 x328.R.Most, .slice a383 v382.length c384] 37)] :: [(b381, row [.int .i64 x328.R.ID, .int .i64 x328.R.Most, .slice a383 v382.length c384] 37)] :: [(b336, row [.int .i64 x328.Kind, .int .i64 x328.R.ID, .int .i64 x328.R.Most, .slice a333 x328.R.Prompt.length c334] 39)] :: p242 :: p247 :: [(b49, row [.int .i64 v239.S.Layers, .int .i64 v239.S.Width, .int .i64 v239.S.Heads, .int .i64 v239.S.Inner, .int .i64 v239.S.Vocab, .int .i64 v239.S.Places, .int .i64 v239.Room, .slice a240 v239.L.length c241, .slice a245 v239.Ids.length c246] 35)] :: [(b26, row [.int .i64 x393.2.s.Layers, .int .i64 x393.2.s.Width, .int .i64 x393.2.s.Heads, .int .i64 x393.2.s.Inner, .int .i64 x393.2.s.Vocab, .int .i64 x393.2.s.Places, .int .i64 x393.2.room, .slice a401 x393.2.row.length c402, .map (some b406)] 57)] :: Φ), hs410, trivial, ?_⟩
                                    refine WO.assign rfl rfl rfl rfl ?_
                                    refine WO.done ?_
                                    refine At.seq_wc ?_
                                    refine WC.arrange 4 10 [0, 2, 3] [1, 4, 5, 6, 8, 9, 10, 11, 12, 13] (by decide) (Mem.add (Mem.add (Mem.add F χ) w237) q395) (p385 :: p399 :: p404 :: p407 :: [(b381, row [.int .i64 x328.R.ID, .int .i64 x328.R.Most, .slice a383 v382.length c384] 37)] :: [(b336, row [.int .i64 x328.Kind, .int .i64 x328.R.ID, .int .i64 x328.R.Most, .slice a333 x328.R.Prompt.length c334] 39)] :: p242 :: p247 :: [(b49, row [.int .i64 v239.S.Layers, .int .i64 v239.S.Width, .int .i64 v239.S.Heads, .int .i64 v239.S.Inner, .int .i64 v239.S.Vocab, .int .i64 v239.S.Places, .int .i64 v239.Room, .slice a240 v239.L.length c241, .slice a245 v239.Ids.length c246] 35)] :: [(b26, row [.int .i64 x393.2.s.Layers, .int .i64 x393.2.s.Width, .int .i64 x393.2.s.Heads, .int .i64 x393.2.s.Inner, .int .i64 x393.2.s.Vocab, .int .i64 x393.2.s.Places, .int .i64 x393.2.room, .slice a401 x393.2.row.length c402, .map (some b406)] 57)] :: Φ) rfl rfl ?_
                                    refine WC.then ?_
                                    refine WC.seq (fun a w => ∃ (v412 : Bool) (v413 : S_ref21_Desk) (a414 : Option Addr) (c415 : Nat) (p416 : List Chunk) (a419 : Option Addr) (c420 : Nat) (p421 : List Chunk) (w411 : List Chunk), law21_AdmitActs_k20 p1 v238 x328 v382 x393 v412 v413 = some r15 ∧ Ctx 227 [(1, .int .i64 p1), (2, .slice a_2 p2.length c_2), (7, .pointer (some ⟨b26, 0, none⟩)), (9, .pointer (some ⟨b49, 0, none⟩)), (10, .int .i64 v238), (11, .pointer (some ⟨b336, 0, none⟩)), (12, .pointer (some ⟨b381, 0, none⟩)), (115, .bool v412)] a ∧ Sat (Mem.add (Mem.add (Mem.add (Mem.add F χ) w237) q395) w411) (p416 :: p421 :: p385 :: p399 :: p404 :: p407 :: [(b381, row [.int .i64 x328.R.ID, .int .i64 x328.R.Most, .slice a383 v382.length c384] 37)] :: [(b336, row [.int .i64 x328.Kind, .int .i64 x328.R.ID, .int .i64 x328.R.Most, .slice a333 x328.R.Prompt.length c334] 39)] :: [(b49, row [.int .i64 v413.S.Layers, .int .i64 v413.S.Width, .int .i64 v413.S.Heads, .int .i64 v413.S.Inner, .int .i64 v413.S.Vocab, .int .i64 v413.S.Places, .int .i64 v413.Room, .slice a414 v413.L.length c415, .slice a419 v413.Ids.length c420] 35)] :: [(b26, row [.int .i64 x393.2.s.Layers, .int .i64 x393.2.s.Width, .int .i64 x393.2.s.Heads, .int .i64 x393.2.s.Inner, .int .i64 x393.2.s.Vocab, .int .i64 x393.2.s.Places, .int .i64 x393.2.room, .slice a401 x393.2.row.length c402, .map (some b406)] 57)] :: Φ) w ∧ OwnL 3 R_api_Request (Mem.add (Mem.add F w237) w411) 37 a414 c415 v413.L p416 ∧ OwnL 1 (RInt .i64) F 3 a419 c420 v413.Ids p421) ?_ ?_
                                    · refine WC.draw (Sat (Mem.add (Mem.add (Mem.add F χ) w237) q395) (p399 :: [(b381, row [.int .i64 x328.R.ID, .int .i64 x328.R.Most, .slice a383 v382.length c384] 37)] :: [(b336, row [.int .i64 x328.Kind, .int .i64 x328.R.ID, .int .i64 x328.R.Most, .slice a333 x328.R.Prompt.length c334] 39)] :: [(b26, row [.int .i64 x393.2.s.Layers, .int .i64 x393.2.s.Width, .int .i64 x393.2.s.Heads, .int .i64 x393.2.s.Inner, .int .i64 x393.2.s.Vocab, .int .i64 x393.2.s.Places, .int .i64 x393.2.room, .slice a401 x393.2.row.length c402, .map (some b406)] 57)] :: Φ)) (fun _ h => (h.arrange 3 10 [0, 1, 2] [4, 7, 8, 12] (by decide))) [(0, true), (1, true), (2, true), (3, true), (4, true), (5, true), (6, true), (7, true), (8, true), (9, true), (10, false), (11, true), (12, true)] mixed (by kernel_rfl) rfl (by kernel_rfl) ?_
                                      refine WO.move rfl rfl rfl rfl ?_
                                      refine WO.len rfl rfl rfl rfl Try.underlying40 ?_
                                      refine WO.bin rfl rfl rfl rfl rfl rfl ?_
                                      refine WO.move rfl rfl rfl rfl ?_
                                      refine WO.split (t := 106) rfl (fun hg464 => ?_) (fun hg464 => ?_)
                                      · have hr := cond_t hg464 hr
                                        refine WO.skip rfl rfl rfl rfl ?_
                                        refine WO.skip rfl rfl rfl rfl ?_
                                        refine WO.skip rfl rfl rfl rfl ?_
                                        refine WO.skip rfl rfl rfl rfl ?_
                                        refine WO.skip rfl rfl rfl rfl ?_
                                        refine WO.skip rfl rfl rfl rfl ?_
                                        refine WO.skipF rfl rfl rfl rfl ?_
                                        refine WO.skip rfl rfl rfl rfl ?_
                                        refine WO.pickT rfl rfl rfl rfl rfl ?_
                                        refine WO.done ?_
                                        refine At.seq_at ?_
                                        exact fun a w hc hs => ⟨true, v239, a240, c241, p242, a245, c246, p247, (List.flatten []), hr, (hc.keep (hc.keep (hc.keep (hc.keep (hc.keep (hc.keep (hc.keep (hc.keep hc.nil (t := 115) rfl) (t := 12) rfl) (t := 11) rfl) (t := 10) rfl) (t := 9) rfl) (t := 7) rfl) (t := 2) rfl) (t := 1) rfl), ((hs.arrange 3 10 [0, 1, 2] [9, 10, 3, 4, 5, 6, 7, 8, 11, 12] (by decide)).gather 0), (ho243.mono mono_api_Request (Mem.le_gather (Mem.add F w237) 0)), (OwnL.re (G := F) (const_int _) ho248)⟩
                                      · have hr := cond_f hg464 hr
                                        refine WO.move rfl rfl rfl rfl ?_
                                        obtain ⟨x465, hx466, hr⟩ := bind_some' hr
                                        refine WO.indexO h398 hx466 rfl rfl rfl rfl rfl rfl Try.underlying40 sz_27 (fun b467 hb468 => ?_)
                                        subst hb468
                                        refine WO.loadOY 0 h398 hx466 rfl rfl rfl rfl rfl sc_27 ?_
                                        refine WO.move rfl rfl rfl rfl ?_
                                        refine WO.fieldAddr 1 rfl rfl rfl rfl fl_39_1 ?_
                                        refine WO.loadAY 2 3 rfl rfl rfl rfl ag_37 rfl rfl rfl ?_
                                        obtain ⟨x469, hx470, hr⟩ := bind_some' hr
                                        refine WO.call rfl rfl rfl rfl rfl cl_8 (CallsRet.lay 3 10 1 [2, 1] [11, 9, 10, 0, 3, 4, 5, 6, 7, 8, 12] (by decide) (Mem.add (Mem.add F w237) (List.flatten [χ])) ([(b49, row [.int .i64 v239.S.Layers, .int .i64 v239.S.Width, .int .i64 v239.S.Heads, .int .i64 v239.S.Inner, .int .i64 v239.S.Vocab, .int .i64 v239.S.Places, .int .i64 v239.Room, .slice a240 v239.L.length c241, .slice a245 v239.Ids.length c246] 35)] :: p242 :: p247 :: q395 :: p385 :: p399 :: p404 :: p407 :: [(b381, row [.int .i64 x328.R.ID, .int .i64 x328.R.Most, .slice a383 v382.length c384] 37)] :: [(b336, row [.int .i64 x328.Kind, .int .i64 x328.R.ID, .int .i64 x328.R.Most, .slice a333 x328.R.Prompt.length c334] 39)] :: [(b26, row [.int .i64 x393.2.s.Layers, .int .i64 x393.2.s.Width, .int .i64 x393.2.s.Heads, .int .i64 x393.2.s.Inner, .int .i64 x393.2.s.Vocab, .int .i64 x393.2.s.Places, .int .i64 x393.2.room, .slice a401 x393.2.row.length c402, .map (some b406)] 57)] :: Φ) rfl rfl (ref21_Desk_Submit_vvvvvvvoo_ok (F := (Mem.add F w237)) (χ := (List.flatten [χ])) ho243 (OwnL.re (G := (Mem.add F w237)) (const_int _) ho248) ⟨_, _, rfl, (h335.mono (mono_int _) (Mem.le.trans (Mem.le_pick (Mem.add (Mem.add F w237) χ) 2 [0] (by decide)) (Mem.le_gather (Mem.add (Mem.add F w237) χ) 1)))⟩ hx470 (q395 :: p385 :: p399 :: p404 :: p407 :: [(b381, row [.int .i64 x328.R.ID, .int .i64 x328.R.Most, .slice a383 v382.length c384] 37)] :: [(b336, row [.int .i64 x328.Kind, .int .i64 x328.R.ID, .int .i64 x328.R.Most, .slice a333 x328.R.Prompt.length c334] 39)] :: [(b26, row [.int .i64 x393.2.s.Layers, .int .i64 x393.2.s.Width, .int .i64 x393.2.s.Heads, .int .i64 x393.2.s.Inner, .int .i64 x393.2.s.Vocab, .int .i64 x393.2.s.Places, .int .i64 x393.2.room, .slice a401 x393.2.row.length c402, .map (some b406)] 57)] :: Φ))) ?_
                                        rintro _ _ ⟨q471, a472, c473, p475, a477, c478, p480, rfl, hs482, h474, h479⟩
                                        have hs482 := Sat.unlay1 (Mem.add F w237) [χ] _ hs482
                                        have hs482 := (hs482.arrange 3 11 [0, 6, 2, 1] [4, 5, 7, 8, 9, 10, 11, 12, 3, 13] (by decide))
                                        refine ⟨(Mem.add (Mem.add (Mem.add (Mem.add F χ) w237) q395) q471), (p475 :: p480 :: p385 :: p399 :: p404 :: p407 :: [(b381, row [.int .i64 x328.R.ID, .int .i64 x328.R.Most, .slice a383 v382.length c384] 37)] :: [(b336, row [.int .i64 x328.Kind, .int .i64 x328.R.ID, .int .i64 x328.R.Most, .slice a333 x328.R.Prompt.length c334] 39)] :: [(b49, row [.int .i64 x469.2.S.Layers, .int .i64 x469.2.S.Width, .int .i64 x469.2.S.Heads, .int .i64 x469.2.S.Inner, .int .i64 x469.2.S.Vocab, .int .i64 x469.2.S.Places, .int .i64 x469.2.Room, .slice a472 x469.2.L.length c473, .slice a477 x469.2.Ids.length c478] 35)] :: [(b26, row [.int .i64 x393.2.s.Layers, .int .i64 x393.2.s.Width, .int .i64 x393.2.s.Heads, .int .i64 x393.2.s.Inner, .int .i64 x393.2.s.Vocab, .int .i64 x393.2.s.Places, .int .i64 x393.2.room, .slice a401 x393.2.row.length c402, .map (some b406)] 57)] :: Φ), hs482, (hs482.arrange 4 10 [1, 2, 3] [7, 10, 11, 13] (by decide)), ?_⟩
                                        refine WO.bin rfl rfl rfl rfl rfl rfl ?_
                                        refine WO.pickF rfl rfl rfl rfl rfl ?_
                                        refine WO.done ?_
                                        refine At.seq_at ?_
                                        exact fun a w hc hs => ⟨(x465 != x469.1), x469.2, a472, c473, p475, a477, c478, p480, (List.flatten [q471]), hr, (hc.keep (hc.keep (hc.keep (hc.keep (hc.keep (hc.keep (hc.keep (hc.keep hc.nil (t := 115) rfl) (t := 12) rfl) (t := 11) rfl) (t := 10) rfl) (t := 9) rfl) (t := 7) rfl) (t := 2) rfl) (t := 1) rfl), (hs.gather 1), (h474.mono mono_api_Request (Mem.le_gather (Mem.add (Mem.add F w237) q471) 1)), (OwnL.re (G := F) (const_int _) h479)⟩
                                    · rintro a w ⟨v412, v413, a414, c415, p416, a419, c420, p421, w411, hr, hc, hs, ho417, ho422⟩
                                      refine WC.use hc hs ?_
                                      clear hc hs
                                      unfold law21_AdmitActs_k20 at hr
                                      refine WC.cond rfl (fun hb424 => ?_) (fun hb424 => ?_)
                                      · have hr := cond_t hb424 hr
                                        refine WC.then ?_
                                        refine WC.region [(0, true)] rfl ?_
                                        refine WO.assign rfl rfl rfl rfl ?_
                                        refine WO.done ?_
                                        refine At.seq_wc ?_
                                        refine WC.ret ?_
                                        refine At.seq_ret ?_
                                        refine At.block_ret ?_
                                        refine At.seq_ret ?_
                                        refine At.block_ret ?_
                                        refine At.seq_ret ?_
                                        refine At.round_ret hr (fun hy => ?_)
                                        subst hy
                                        have hr := hk15
                                        refine At.block_ret ?_
                                        refine At.seq_ret ?_
                                        refine At.seq_ret ?_
                                        obtain rfl := Option.some.inj hr
                                        exact At.ret (fun a w hc hs => (resVs_cons (hc.res rfl) resVs_nil)) (fun w hs => ⟨rfl, (hs.arrange 4 10 [3] [] (by decide))⟩)
                                      · have hr := cond_f hb424 hr
                                        refine WC.skip ?_
                                        refine At.seq_wc ?_
                                        refine WC.then ?_
                                        refine WC.region [(0, true)] rfl ?_
                                        refine WO.assign rfl rfl rfl rfl ?_
                                        refine WO.done ?_
                                        refine At.seq_wc ?_
                                        obtain ⟨xl22, hl22, hk22⟩ := bind_some' hr
                                        refine WC.weaken (fun a w => ∃ (v451 : List Int) (a452 : Option Addr) (c453 : Nat) (p454 : List Chunk), v451 = xl22 ∧ Ctx 227 [(1, .int .i64 p1), (2, .slice a_2 p2.length c_2), (7, .pointer (some ⟨b26, 0, none⟩)), (9, .pointer (some ⟨b49, 0, none⟩)), (10, .int .i64 v238), (11, .pointer (some ⟨b336, 0, none⟩))] a ∧ Sat (Mem.add (Mem.add (Mem.add (Mem.add F χ) w237) q395) w411) (p454 :: p416 :: p421 :: p399 :: p404 :: p407 :: [(b381, row [.int .i64 x328.R.ID, .int .i64 x328.R.Most, .slice a452 v451.length c453] 37)] :: [(b336, row [.int .i64 x328.Kind, .int .i64 x328.R.ID, .int .i64 x328.R.Most, .slice a333 x328.R.Prompt.length c334] 39)] :: [(b49, row [.int .i64 v413.S.Layers, .int .i64 v413.S.Width, .int .i64 v413.S.Heads, .int .i64 v413.S.Inner, .int .i64 v413.S.Vocab, .int .i64 v413.S.Places, .int .i64 v413.Room, .slice a414 v413.L.length c415, .slice a419 v413.Ids.length c420] 35)] :: [(b26, row [.int .i64 x393.2.s.Layers, .int .i64 x393.2.s.Width, .int .i64 x393.2.s.Heads, .int .i64 x393.2.s.Inner, .int .i64 x393.2.s.Vocab, .int .i64 x393.2.s.Places, .int .i64 x393.2.room, .slice a401 x393.2.row.length c402, .map (some b406)] 57)] :: Φ) w ∧ OwnL 1 (RInt .i64) F 3 a452 c453 v451 p454) ?_ ?_
                                        · refine WC.block ?_
                                          refine WC.loop (fun ⟨v435, v436⟩ a w => ∃ (a437 : Option Addr) (c438 : Nat) (p439 : List Chunk), Ctx 227 [(1, .int .i64 p1), (2, .slice a_2 p2.length c_2), (7, .pointer (some ⟨b26, 0, none⟩)), (9, .pointer (some ⟨b49, 0, none⟩)), (10, .int .i64 v238), (11, .pointer (some ⟨b336, 0, none⟩)), (12, .pointer (some ⟨b381, 0, none⟩)), (14, .int .i64 v435)] a ∧ Sat (Mem.add (Mem.add (Mem.add (Mem.add F χ) w237) q395) w411) (p439 :: p416 :: p421 :: p399 :: p404 :: p407 :: [(b381, row [.int .i64 x328.R.ID, .int .i64 x328.R.Most, .slice a437 v436.length c438] 37)] :: [(b336, row [.int .i64 x328.Kind, .int .i64 x328.R.ID, .int .i64 x328.R.Most, .slice a333 x328.R.Prompt.length c334] 39)] :: [(b49, row [.int .i64 v413.S.Layers, .int .i64 v413.S.Width, .int .i64 v413.S.Heads, .int .i64 v413.S.Inner, .int .i64 v413.S.Vocab, .int .i64 v413.S.Places, .int .i64 v413.Room, .slice a414 v413.L.length c415, .slice a419 v413.Ids.length c420] 35)] :: [(b26, row [.int .i64 x393.2.s.Layers, .int .i64 x393.2.s.Width, .int .i64 x393.2.s.Heads, .int .i64 x393.2.s.Inner, .int .i64 x393.2.s.Vocab, .int .i64 x393.2.s.Places, .int .i64 x393.2.room, .slice a401 x393.2.row.length c402, .map (some b406)] 57)] :: Φ) w ∧ OwnL 1 (RInt .i64) F 3 a437 c438 v436 p439) hl22 ?_ ?_
                                          · exact fun a w hc hs => ⟨a383, c384, p385, (hc.keep (hc.keep (hc.keep (hc.keep (hc.keep (hc.keep (hc.keep (hc.keep hc.nil (t := 14) rfl) (t := 12) rfl) (t := 11) rfl) (t := 10) rfl) (t := 9) rfl) (t := 7) rfl) (t := 2) rfl) (t := 1) rfl), (hs.arrange 4 10 [0, 1, 2, 3] [6, 4, 5, 7, 8, 9, 10, 11, 12, 13] (by decide)), (OwnL.re (G := F) (const_int _) ho386)⟩
                                          · rintro ⟨v435, v436⟩ r22 hr a w ⟨a437, c438, p439, hc, hs, ho440⟩
                                            refine WC.use hc hs ?_
                                            clear hc hs
                                            (try dsimp only at hr)
                                            unfold law21_AdmitActs_b21 at hr
                                            refine WC.then ?_
                                            refine WC.then ?_
                                            refine WC.region [(0, true), (1, true), (2, false), (3, true), (4, true)] rfl ?_
                                            refine WO.move rfl rfl rfl rfl ?_
                                            refine WO.fieldAddr 2 rfl rfl rfl rfl fl_37_2 ?_
                                            refine WO.load 6 rfl rfl rfl rfl sc_33 rfl rfl ?_
                                            refine WO.len rfl rfl rfl rfl Try.underlying33 ?_
                                            refine WO.bin rfl rfl rfl rfl rfl rfl ?_
                                            refine WO.done ?_
                                            refine At.seq_wc ?_
                                            refine WC.cond rfl (fun hb457 => ?_) (fun hb457 => ?_)
                                            · have hr := cond_t hb457 hr
                                              refine WC.skip ?_
                                              refine At.seq_wc ?_
                                              refine WC.then ?_
                                              refine WC.block ?_
                                              refine WC.region [(0, true), (1, false), (2, true), (3, true), (4, false)] rfl ?_
                                              refine WO.fieldAddr 2 rfl rfl rfl rfl fl_37_2 ?_
                                              refine WO.load 6 rfl rfl rfl rfl sc_33 rfl rfl ?_
                                              refine WO.move rfl rfl rfl rfl ?_
                                              obtain ⟨x458, hx459, hr⟩ := bind_some' hr
                                              refine WO.indexO ho440 hx459 rfl rfl rfl rfl rfl rfl Try.underlying33 sz_3 (fun b460 hb461 => ?_)
                                              subst hb461
                                              refine WO.storeO 0 ho440 hx459 rfl rfl rfl rfl rfl sz_3 (fun _ _ _ => trivial) (fun p462 ho463 => ?_)
                                              refine WO.relen 118 (k' := (List.set v436 (Int.toNat v435) (-1)).length) rfl (List.length_set ..).symm ?_
                                              refine WO.relen 124 (k' := (List.set v436 (Int.toNat v435) (-1)).length) rfl (List.length_set ..).symm ?_
                                              refine WO.recell 6 [.int .i64 x328.R.ID, .int .i64 x328.R.Most, .slice (some ⟨b460, 0, none⟩) ((List.set v436 (Int.toNat v435) (-1)).length) c438] rfl (by simp only [List.length_set]) ?_
                                              refine WO.done ?_
                                              refine At.block_normal ?_
                                              refine At.seq_wc ?_
                                              refine WC.region [(0, true), (1, true), (2, true)] rfl ?_
                                              refine WO.move rfl rfl rfl rfl ?_
                                              refine WO.bin rfl rfl rfl rfl rfl rfl ?_
                                              refine WO.assign rfl rfl rfl rfl ?_
                                              refine WO.done ?_
                                              refine At.round_next hr ?_
                                              exact fun a w hc hs => ⟨(some ⟨b460, 0, none⟩), c438, p462, (hc.keep (hc.keep (hc.keep (hc.keep (hc.keep (hc.keep (hc.keep (hc.keep hc.nil (t := 14) rfl) (t := 12) rfl) (t := 11) rfl) (t := 10) rfl) (t := 9) rfl) (t := 7) rfl) (t := 2) rfl) (t := 1) rfl), hs, (OwnL.re (G := F) (const_int _) ho463)⟩
                                            · have hr := cond_f hb457 hr
                                              refine WC.exit ?_
                                              refine At.seq_exit ?_
                                              refine At.round_exit hr (fun hy => ?_)
                                              refine At.exit_block ?_
                                              refine At.seq_at ?_
                                              exact fun a w hc hs => ⟨v436, a437, c438, p439, hy, (hc.keep (hc.keep (hc.keep (hc.keep (hc.keep (hc.keep hc.nil (t := 11) rfl) (t := 10) rfl) (t := 9) rfl) (t := 7) rfl) (t := 2) rfl) (t := 1) rfl), hs, (OwnL.re (G := F) (const_int _) ho440)⟩
                                        · rintro a w ⟨v451, a452, c453, p454, rfl, hc, hs, ho455⟩
                                          refine At.use hc hs ?_
                                          clear hc hs
                                          (try dsimp only at hk22)
                                          have hr := hk22
                                          refine At.block_normal ?_
                                          refine At.seq_at ?_
                                          exact fun a w hc hs => ⟨v413, x393.2, a414, c415, p416, a419, c420, p421, a401, c402, p404, b406, p407, (List.flatten [w411, q395]), hr, (hc.keep (hc.keep (hc.keep (hc.keep (hc.keep (hc.keep hc.nil (t := 11) rfl) (t := 10) rfl) (t := 9) rfl) (t := 7) rfl) (t := 2) rfl) (t := 1) rfl), ((hs.arrange 4 10 [0, 1, 2, 3] [5, 6, 8, 9, 11, 12, 13] (by decide)).gather 2), (ho417.mono mono_api_Request (Mem.le.trans (Mem.le_pick (Mem.add (Mem.add (Mem.add F w237) q395) w411) 3 [0, 2] (by decide)) (Mem.le_gather (Mem.add (Mem.add (Mem.add F w237) q395) w411) 2))), (OwnL.re (G := F) (const_int _) ho422), (h403.mono mono_api_Request (Mem.le.trans (Mem.le_pick (Mem.add (Mem.add (Mem.add F w237) q395) w411) 3 [1, 2] (by decide)) (Mem.le_gather (Mem.add (Mem.add (Mem.add F w237) q395) w411) 2))), (OwnM.re (G := F) (constV1 const_bool) hm409)⟩
                                · have hr := cond_f hb378 hr
                                  refine WC.then ?_
                                  refine WC.region [(0, true), (1, true)] rfl ?_
                                  refine WO.bin rfl rfl rfl rfl rfl rfl ?_
                                  refine WO.assign rfl rfl rfl rfl ?_
                                  refine WO.done ?_
                                  refine At.seq_wc ?_
                                  refine WC.cond rfl (fun hb497 => ?_) (fun hb497 => ?_)
                                  · have hr := cond_t hb497 hr
                                    refine WC.then ?_
                                    refine WC.region [(0, true), (1, false), (2, true), (3, true), (4, true), (5, false), (6, false), (7, true)] rfl ?_
                                    refine WO.move rfl rfl rfl rfl ?_
                                    obtain ⟨x498, hx499, hr⟩ := bind_some' hr
                                    refine WO.call rfl rfl rfl rfl rfl cl_9 (CallsRet.lay0 2 7 [0] [8, 5, 6, 1, 2, 3, 4, 7] (by decide) (Mem.add F w237) ([(b26, row [.int .i64 v250.s.Layers, .int .i64 v250.s.Width, .int .i64 v250.s.Heads, .int .i64 v250.s.Inner, .int .i64 v250.s.Vocab, .int .i64 v250.s.Places, .int .i64 v250.room, .slice a251 v250.row.length c252, .map (some b256)] 57)] :: p253 :: p257 :: χ :: [(b336, row [.int .i64 x328.Kind, .int .i64 x328.R.ID, .int .i64 x328.R.Most, .slice a333 x328.R.Prompt.length c334] 39)] :: p242 :: p247 :: [(b49, row [.int .i64 v239.S.Layers, .int .i64 v239.S.Width, .int .i64 v239.S.Heads, .int .i64 v239.S.Inner, .int .i64 v239.S.Vocab, .int .i64 v239.S.Places, .int .i64 v239.Room, .slice a240 v239.L.length c241, .slice a245 v239.Ids.length c246] 35)] :: Φ) rfl rfl (admit_Desk_Take_vvvvvvvom_ok (F := (Mem.add F w237)) ho254 (OwnM.re (G := (Mem.add F w237)) (constV1 const_bool) hm258) hx499 (χ :: [(b336, row [.int .i64 x328.Kind, .int .i64 x328.R.ID, .int .i64 x328.R.Most, .slice a333 x328.R.Prompt.length c334] 39)] :: p242 :: p247 :: [(b49, row [.int .i64 v239.S.Layers, .int .i64 v239.S.Width, .int .i64 v239.S.Heads, .int .i64 v239.S.Inner, .int .i64 v239.S.Vocab, .int .i64 v239.S.Places, .int .i64 v239.Room, .slice a240 v239.L.length c241, .slice a245 v239.Ids.length c246] 35)] :: Φ))) ?_
                                    rintro _ _ ⟨cs500, a505, c506, p508, b510, p511, rfl, hs514, ⟨a502, c503, rfl, h504⟩, h507, hm513⟩
                                    have hs514 := (hs514.arrange 1 8 [0, 4] [2, 3, 5, 6, 7, 8, 1] (by decide))
                                    refine ⟨(Mem.add (Mem.add F χ) w237), (p508 :: p511 :: [(b336, row [.int .i64 x328.Kind, .int .i64 x328.R.ID, .int .i64 x328.R.Most, .slice a333 x328.R.Prompt.length c334] 39)] :: p242 :: p247 :: [(b49, row [.int .i64 v239.S.Layers, .int .i64 v239.S.Width, .int .i64 v239.S.Heads, .int .i64 v239.S.Inner, .int .i64 v239.S.Vocab, .int .i64 v239.S.Places, .int .i64 v239.Room, .slice a240 v239.L.length c241, .slice a245 v239.Ids.length c246] 35)] :: [(b26, row [.int .i64 x498.2.2.s.Layers, .int .i64 x498.2.2.s.Width, .int .i64 x498.2.2.s.Heads, .int .i64 x498.2.2.s.Inner, .int .i64 x498.2.2.s.Vocab, .int .i64 x498.2.2.s.Places, .int .i64 x498.2.2.room, .slice a505 x498.2.2.row.length c506, .map (some b510)] 57)] :: Φ), hs514, trivial, ?_⟩
                                    refine WO.move rfl rfl rfl rfl ?_
                                    refine WO.extract rfl rfl rfl rfl rfl ?_
                                    refine WO.extract rfl rfl rfl rfl rfl ?_
                                    refine WO.alloc (.agg #[.int .i64 0, .int .i64 0, .slice none 0 0]) rfl rfl rfl zb_37 rfl (fun _ _ _ => trivial) (fun b515 => ?_)
                                    refine WO.storeA 0 3 rfl rfl rfl rfl sz_37 rfl rfl rfl rfl (fun _ _ => trivial) ?_
                                    refine WO.assign rfl rfl rfl rfl ?_
                                    refine WO.done ?_
                                    refine At.seq_wc ?_
                                    refine WC.then ?_
                                    refine WC.region [(0, true), (1, false), (2, true), (3, true), (4, true), (5, false), (6, false), (7, true)] rfl ?_
                                    refine WO.move rfl rfl rfl rfl ?_
                                    obtain ⟨x517, hx518, hr⟩ := bind_some' hr
                                    refine WO.call rfl rfl rfl rfl rfl cl_10 (CallsRet.lay0 2 8 [0] [8, 6, 7, 1, 2, 3, 4, 5, 9] (by decide) (Mem.add F w237) ([(b49, row [.int .i64 v239.S.Layers, .int .i64 v239.S.Width, .int .i64 v239.S.Heads, .int .i64 v239.S.Inner, .int .i64 v239.S.Vocab, .int .i64 v239.S.Places, .int .i64 v239.Room, .slice a240 v239.L.length c241, .slice a245 v239.Ids.length c246] 35)] :: p242 :: p247 :: χ :: [(b515, row [.int .i64 x498.1.ID, .int .i64 x498.1.Most, .slice a502 x498.1.Prompt.length c503] 37)] :: p508 :: p511 :: [(b336, row [.int .i64 x328.Kind, .int .i64 x328.R.ID, .int .i64 x328.R.Most, .slice a333 x328.R.Prompt.length c334] 39)] :: [(b26, row [.int .i64 x498.2.2.s.Layers, .int .i64 x498.2.2.s.Width, .int .i64 x498.2.2.s.Heads, .int .i64 x498.2.2.s.Inner, .int .i64 x498.2.2.s.Vocab, .int .i64 x498.2.2.s.Places, .int .i64 x498.2.2.room, .slice a505 x498.2.2.row.length c506, .map (some b510)] 57)] :: Φ) rfl rfl (ref21_Desk_Take_vvvvvvvoo_ok (F := (Mem.add F w237)) ho243 (OwnL.re (G := (Mem.add F w237)) (const_int _) ho248) hx518 (χ :: [(b515, row [.int .i64 x498.1.ID, .int .i64 x498.1.Most, .slice a502 x498.1.Prompt.length c503] 37)] :: p508 :: p511 :: [(b336, row [.int .i64 x328.Kind, .int .i64 x328.R.ID, .int .i64 x328.R.Most, .slice a333 x328.R.Prompt.length c334] 39)] :: [(b26, row [.int .i64 x498.2.2.s.Layers, .int .i64 x498.2.2.s.Width, .int .i64 x498.2.2.s.Heads, .int .i64 x498.2.2.s.Inner, .int .i64 x498.2.2.s.Vocab, .int .i64 x498.2.2.s.Places, .int .i64 x498.2.2.room, .slice a505 x498.2.2.row.length c506, .map (some b510)] 57)] :: Φ))) ?_
                                    rintro _ _ ⟨q519, cs520, a525, c526, p528, a530, c531, p533, rfl, hs535, ⟨a522, c523, rfl, h524⟩, h527, h532⟩
                                    have hs535 := (hs535.arrange 2 9 [0, 1, 5] [3, 4, 6, 7, 8, 9, 2, 10] (by decide))
                                    refine ⟨(Mem.add (Mem.add (Mem.add F χ) w237) q519), (p528 :: p533 :: [(b515, row [.int .i64 x498.1.ID, .int .i64 x498.1.Most, .slice a502 x498.1.Prompt.length c503] 37)] :: p508 :: p511 :: [(b336, row [.int .i64 x328.Kind, .int .i64 x328.R.ID, .int .i64 x328.R.Most, .slice a333 x328.R.Prompt.length c334] 39)] :: [(b49, row [.int .i64 x517.2.2.S.Layers, .int .i64 x517.2.2.S.Width, .int .i64 x517.2.2.S.Heads, .int .i64 x517.2.2.S.Inner, .int .i64 x517.2.2.S.Vocab, .int .i64 x517.2.2.S.Places, .int .i64 x517.2.2.Room, .slice a525 x517.2.2.L.length c526, .slice a530 x517.2.2.Ids.length c531] 35)] :: [(b26, row [.int .i64 x498.2.2.s.Layers, .int .i64 x498.2.2.s.Width, .int .i64 x498.2.2.s.Heads, .int .i64 x498.2.2.s.Inner, .int .i64 x498.2.2.s.Vocab, .int .i64 x498.2.2.s.Places, .int .i64 x498.2.2.room, .slice a505 x498.2.2.row.length c506, .map (some b510)] 57)] :: Φ), hs535, trivial, ?_⟩
                                    refine WO.move rfl rfl rfl rfl ?_
                                    refine WO.extract rfl rfl rfl rfl rfl ?_
                                    refine WO.extract rfl rfl rfl rfl rfl ?_
                                    refine WO.alloc (.agg #[.int .i64 0, .int .i64 0, .slice none 0 0]) rfl rfl rfl zb_37 rfl (fun _ _ _ => trivial) (fun b536 => ?_)
                                    refine WO.storeA 0 3 rfl rfl rfl rfl sz_37 rfl rfl rfl rfl (fun _ _ => trivial) ?_
                                    refine WO.assign rfl rfl rfl rfl ?_
                                    refine WO.done ?_
                                    refine At.seq_wc ?_
                                    refine WC.seq (fun a w => ∃ (v539 : Bool), law21_AdmitActs_k23 p1 v238 x328 x498 x517 v539 = some r15 ∧ Ctx 227 [(1, .int .i64 p1), (2, .slice a_2 p2.length c_2), (7, .pointer (some ⟨b26, 0, none⟩)), (9, .pointer (some ⟨b49, 0, none⟩)), (10, .int .i64 v238), (11, .pointer (some ⟨b336, 0, none⟩)), (147, .bool v539)] a ∧ Sat (Mem.add (Mem.add (Mem.add F χ) w237) q519) ([(b536, row [.int .i64 x517.1.ID, .int .i64 x517.1.Most, .slice a522 x517.1.Prompt.length c523] 37)] :: p528 :: p533 :: [(b515, row [.int .i64 x498.1.ID, .int .i64 x498.1.Most, .slice a502 x498.1.Prompt.length c503] 37)] :: p508 :: p511 :: [(b336, row [.int .i64 x328.Kind, .int .i64 x328.R.ID, .int .i64 x328.R.Most, .slice a333 x328.R.Prompt.length c334] 39)] :: [(b49, row [.int .i64 x517.2.2.S.Layers, .int .i64 x517.2.2.S.Width, .int .i64 x517.2.2.S.Heads, .int .i64 x517.2.2.S.Inner, .int .i64 x517.2.2.S.Vocab, .int .i64 x517.2.2.S.Places, .int .i64 x517.2.2.Room, .slice a525 x517.2.2.L.length c526, .slice a530 x517.2.2.Ids.length c531] 35)] :: [(b26, row [.int .i64 x498.2.2.s.Layers, .int .i64 x498.2.2.s.Width, .int .i64 x498.2.2.s.Heads, .int .i64 x498.2.2.s.Inner, .int .i64 x498.2.2.s.Vocab, .int .i64 x498.2.2.s.Places, .int .i64 x498.2.2.room, .slice a505 x498.2.2.row.length c506, .map (some b510)] 57)] :: Φ) w) ?_ ?_
                                    · refine WC.region [(0, true), (1, true), (2, true), (3, true), (4, false), (5, false), (6, false), (7, true), (8, true)] rfl ?_
                                      refine WO.move rfl rfl rfl rfl ?_
                                      refine WO.move rfl rfl rfl rfl ?_
                                      refine WO.neB rfl rfl rfl rfl rfl Try.underlying4 ?_
                                      refine WO.move rfl rfl rfl rfl ?_
                                      refine WO.split (t := 142) rfl (fun hg541 => ?_) (fun hg541 => ?_)
                                      · have hr := cond_t hg541 hr
                                        refine WO.skipF rfl rfl rfl rfl ?_
                                        refine WO.skipF rfl rfl rfl rfl ?_
                                        refine WO.skipF rfl rfl rfl rfl ?_
                                        refine WO.skip rfl rfl rfl rfl ?_
                                        refine WO.pickT rfl rfl rfl rfl rfl ?_
                                        refine WO.done ?_
                                        refine At.seq_at ?_
                                        exact fun a w hc hs => ⟨true, hr, (hc.keep (hc.keep (hc.keep (hc.keep (hc.keep (hc.keep (hc.keep hc.nil (t := 147) rfl) (t := 11) rfl) (t := 10) rfl) (t := 9) rfl) (t := 7) rfl) (t := 2) rfl) (t := 1) rfl), hs⟩
                                      · have hr := cond_f hg541 hr
                                        refine WO.loadA 3 3 rfl rfl rfl rfl ag_37 rfl rfl rfl ?_
                                        refine WO.loadA 0 3 rfl rfl rfl rfl ag_37 rfl rfl rfl ?_
                                        obtain ⟨x542, hx543, hr⟩ := bind_some' hr
                                        refine WO.call rfl rfl rfl rfl rfl cl_11 (CallsRet.lay 3 9 2 [0, 1] [2, 3, 4, 5, 6, 7, 8, 9, 10, 11] (by decide) (Mem.add F (List.flatten [q519, w237])) (χ :: [(b536, row [.int .i64 x517.1.ID, .int .i64 x517.1.Most, .slice a522 x517.1.Prompt.length c523] 37)] :: p528 :: p533 :: [(b515, row [.int .i64 x498.1.ID, .int .i64 x498.1.Most, .slice a502 x498.1.Prompt.length c503] 37)] :: p508 :: p511 :: [(b336, row [.int .i64 x328.Kind, .int .i64 x328.R.ID, .int .i64 x328.R.Most, .slice a333 x328.R.Prompt.length c334] 39)] :: [(b49, row [.int .i64 x517.2.2.S.Layers, .int .i64 x517.2.2.S.Width, .int .i64 x517.2.2.S.Heads, .int .i64 x517.2.2.S.Inner, .int .i64 x517.2.2.S.Vocab, .int .i64 x517.2.2.S.Places, .int .i64 x517.2.2.Room, .slice a525 x517.2.2.L.length c526, .slice a530 x517.2.2.Ids.length c531] 35)] :: [(b26, row [.int .i64 x498.2.2.s.Layers, .int .i64 x498.2.2.s.Width, .int .i64 x498.2.2.s.Heads, .int .i64 x498.2.2.s.Inner, .int .i64 x498.2.2.s.Vocab, .int .i64 x498.2.2.s.Places, .int .i64 x498.2.2.room, .slice a505 x498.2.2.row.length c506, .map (some b510)] 57)] :: Φ) rfl rfl (law21_same_ok (F := F) (χ := (List.flatten [q519, w237])) ⟨_, _, rfl, (h504.mono (mono_int _) (Mem.le.trans (Mem.le_pick (Mem.add (Mem.add F w237) q519) 2 [1] (by decide)) (Mem.le_gather (Mem.add (Mem.add F w237) q519) 2)))⟩ ⟨_, _, rfl, (h524.mono (mono_int _) (Mem.le_gather (Mem.add (Mem.add F w237) q519) 2))⟩ hx543 (χ :: [(b536, row [.int .i64 x517.1.ID, .int .i64 x517.1.Most, .slice a522 x517.1.Prompt.length c523] 37)] :: p528 :: p533 :: [(b515, row [.int .i64 x498.1.ID, .int .i64 x498.1.Most, .slice a502 x498.1.Prompt.length c503] 37)] :: p508 :: p511 :: [(b336, row [.int .i64 x328.Kind, .int .i64 x328.R.ID, .int .i64 x328.R.Most, .slice a333 x328.R.Prompt.length c334] 39)] :: [(b49, row [.int .i64 x517.2.2.S.Layers, .int .i64 x517.2.2.S.Width, .int .i64 x517.2.2.S.Heads, .int .i64 x517.2.2.S.Inner, .int .i64 x517.2.2.S.Vocab, .int .i64 x517.2.2.S.Places, .int .i64 x517.2.2.Room, .slice a525 x517.2.2.L.length c526, .slice a530 x517.2.2.Ids.length c531] 35)] :: [(b26, row [.int .i64 x498.2.2.s.Layers, .int .i64 x498.2.2.s.Width, .int .i64 x498.2.2.s.Heads, .int .i64 x498.2.2.s.Inner, .int .i64 x498.2.2.s.Vocab, .int .i64 x498.2.2.s.Places, .int .i64 x498.2.2.room, .slice a505 x498.2.2.row.length c506, .map (some b510)] 57)] :: Φ))) ?_
                                        rintro _ _ ⟨rfl, hs544⟩
                                        have hs544 := Sat.unlay F [q519, w237] hs544
                                        have hs544 := (hs544.arrange 2 10 [0, 1, 2] [3, 4, 5, 6, 7, 8, 9, 10, 11] (by decide))
                                        refine ⟨(Mem.add (Mem.add (Mem.add F χ) w237) q519), ([(b536, row [.int .i64 x517.1.ID, .int .i64 x517.1.Most, .slice a522 x517.1.Prompt.length c523] 37)] :: p528 :: p533 :: [(b515, row [.int .i64 x498.1.ID, .int .i64 x498.1.Most, .slice a502 x498.1.Prompt.length c503] 37)] :: p508 :: p511 :: [(b336, row [.int .i64 x328.Kind, .int .i64 x328.R.ID, .int .i64 x328.R.Most, .slice a333 x328.R.Prompt.length c334] 39)] :: [(b49, row [.int .i64 x517.2.2.S.Layers, .int .i64 x517.2.2.S.Width, .int .i64 x517.2.2.S.Heads, .int .i64 x517.2.2.S.Inner, .int .i64 x517.2.2.S.Vocab, .int .i64 x517.2.2.S.Places, .int .i64 x517.2.2.Room, .slice a525 x517.2.2.L.length c526, .slice a530 x517.2.2.Ids.length c531] 35)] :: [(b26, row [.int .i64 x498.2.2.s.Layers, .int .i64 x498.2.2.s.Width, .int .i64 x498.2.2.s.Heads, .int .i64 x498.2.2.s.Inner, .int .i64 x498.2.2.s.Vocab, .int .i64 x498.2.2.s.Places, .int .i64 x498.2.2.room, .slice a505 x498.2.2.row.length c506, .map (some b510)] 57)] :: Φ), hs544, trivial, ?_⟩
                                        refine WO.un rfl rfl rfl rfl rfl ?_
                                        refine WO.pickF rfl rfl rfl rfl rfl ?_
                                        refine WO.done ?_
                                        refine At.seq_at ?_
                                        exact fun a w hc hs => ⟨(!x542), hr, (hc.keep (hc.keep (hc.keep (hc.keep (hc.keep (hc.keep (hc.keep hc.nil (t := 147) rfl) (t := 11) rfl) (t := 10) rfl) (t := 9) rfl) (t := 7) rfl) (t := 2) rfl) (t := 1) rfl), hs⟩
                                    · rintro a w ⟨v539, hr, hc, hs⟩
                                      refine WC.use hc hs ?_
                                      clear hc hs
                                      unfold law21_AdmitActs_k23 at hr
                                      refine WC.cond rfl (fun hb540 => ?_) (fun hb540 => ?_)
                                      · have hr := cond_t hb540 hr
                                        refine WC.then ?_
                                        refine WC.region [(0, true)] rfl ?_
                                        refine WO.assign rfl rfl rfl rfl ?_
                                        refine WO.done ?_
                                        refine At.seq_wc ?_
                                        refine WC.ret ?_
                                        refine At.block_ret ?_
                                        refine At.seq_ret ?_
                                        refine At.block_ret ?_
                                        refine At.seq_ret ?_
                                        refine At.round_ret hr (fun hy => ?_)
                                        subst hy
                                        have hr := hk15
                                        refine At.block_ret ?_
                                        refine At.seq_ret ?_
                                        refine At.seq_ret ?_
                                        obtain rfl := Option.some.inj hr
                                        exact At.ret (fun a w hc hs => (resVs_cons (hc.res rfl) resVs_nil)) (fun w hs => ⟨rfl, (hs.arrange 3 9 [2] [] (by decide))⟩)
                                      · have hr := cond_f hb540 hr
                                        refine WC.skip ?_
                                        refine At.block_normal ?_
                                        refine At.seq_at ?_
                                        exact fun a w hc hs => ⟨x517.2.2, x498.2.2, a525, c526, p528, a530, c531, p533, a505, c506, p508, b510, p511, (List.flatten [q519]), hr, (hc.keep (hc.keep (hc.keep (hc.keep (hc.keep (hc.keep hc.nil (t := 11) rfl) (t := 10) rfl) (t := 9) rfl) (t := 7) rfl) (t := 2) rfl) (t := 1) rfl), ((hs.arrange 3 9 [0, 1, 2] [4, 5, 7, 8, 9, 10, 11] (by decide)).gather 1), (h527.mono mono_api_Request (Mem.le_gather (Mem.add (Mem.add F w237) q519) 1)), (OwnL.re (G := F) (const_int _) h532), (h507.mono mono_api_Request (Mem.le.trans (Mem.le_pick (Mem.add (Mem.add F w237) q519) 2 [1] (by decide)) (Mem.le_gather (Mem.add (Mem.add F w237) q519) 1))), (OwnM.re (G := F) (constV1 const_bool) hm513)⟩
                                  · have hr := cond_f hb497 hr
                                    refine WC.then ?_
                                    refine WC.region [(0, true), (1, true)] rfl ?_
                                    refine WO.bin rfl rfl rfl rfl rfl rfl ?_
                                    refine WO.assign rfl rfl rfl rfl ?_
                                    refine WO.done ?_
                                    refine At.seq_wc ?_
                                    refine WC.cond rfl (fun hb545 => ?_) (fun hb545 => ?_)
                                    · have hr := cond_t hb545 hr
                                      refine WC.seq (fun a w => ∃ (v547 : Bool) (v548 : S_ref21_Desk) (v559 : S_admit_Desk) (a549 : Option Addr) (c550 : Nat) (p551 : List Chunk) (a554 : Option Addr) (c555 : Nat) (p556 : List Chunk) (a560 : Option Addr) (c561 : Nat) (p562 : List Chunk) (b565 : Nat) (p566 : List Chunk), law21_AdmitActs_k24 p1 v238 x328 v547 v548 v559 = some r15 ∧ Ctx 227 [(1, .int .i64 p1), (2, .slice a_2 p2.length c_2), (7, .pointer (some ⟨b26, 0, none⟩)), (9, .pointer (some ⟨b49, 0, none⟩)), (10, .int .i64 v238), (11, .pointer (some ⟨b336, 0, none⟩)), (161, .bool v547)] a ∧ Sat (Mem.add (Mem.add F χ) w237) (p551 :: p556 :: p562 :: p566 :: [(b336, row [.int .i64 x328.Kind, .int .i64 x328.R.ID, .int .i64 x328.R.Most, .slice a333 x328.R.Prompt.length c334] 39)] :: [(b49, row [.int .i64 v548.S.Layers, .int .i64 v548.S.Width, .int .i64 v548.S.Heads, .int .i64 v548.S.Inner, .int .i64 v548.S.Vocab, .int .i64 v548.S.Places, .int .i64 v548.Room, .slice a549 v548.L.length c550, .slice a554 v548.Ids.length c555] 35)] :: [(b26, row [.int .i64 v559.s.Layers, .int .i64 v559.s.Width, .int .i64 v559.s.Heads, .int .i64 v559.s.Inner, .int .i64 v559.s.Vocab, .int .i64 v559.s.Places, .int .i64 v559.room, .slice a560 v559.row.length c561, .map (some b565)] 57)] :: Φ) w ∧ OwnL 3 R_api_Request (Mem.add F w237) 37 a549 c550 v548.L p551 ∧ OwnL 1 (RInt .i64) F 3 a554 c555 v548.Ids p556 ∧ OwnL 3 R_api_Request (Mem.add F w237) 37 a560 c561 v559.row p562 ∧ OwnM (fun x : Int => Value.int .i64 x) (RV1 RBool) F b565 v559.took p566) ?_ ?_
                                      · refine WC.draw (Sat (Mem.add (Mem.add F χ) w237) ([(b336, row [.int .i64 x328.Kind, .int .i64 x328.R.ID, .int .i64 x328.R.Most, .slice a333 x328.R.Prompt.length c334] 39)] :: Φ)) (fun _ h => (h.arrange 2 7 [0, 1] [2] (by decide))) [(0, true), (1, true), (2, true), (3, true), (6, true), (7, true), (8, true), (9, true), (4, false), (5, false), (10, false), (11, true)] mixed (by kernel_rfl) rfl (by kernel_rfl) ?_
                                        refine WO.move rfl rfl rfl rfl ?_
                                        refine WO.fieldAddr 1 rfl rfl rfl rfl fl_39_1 ?_
                                        refine WO.fieldAddr 0 rfl rfl rfl rfl fl_37_0 ?_
                                        refine WO.loadY 0 rfl rfl rfl rfl sc_3 rfl rfl ?_
                                        refine WO.move rfl rfl rfl rfl ?_
                                        refine WO.fieldAddr 1 rfl rfl rfl rfl fl_39_1 ?_
                                        refine WO.fieldAddr 0 rfl rfl rfl rfl fl_37_0 ?_
                                        refine WO.loadY 0 rfl rfl rfl rfl sc_3 rfl rfl ?_
                                        refine WO.buildSl (e := 3) (vs := [.tmp 153]) [0] [.int .i64 x328.R.ID] rfl rfl rfl rfl rfl (fun _ => by kernel_rfl) (fun _ _ h => (h.arrange 2 8 [0, 1] [3] (by decide))) (fun b570 => ?_)
                                        have ho572 : OwnL 1 (RInt .i64) F 3 (some ⟨b570, 0, none⟩) 1 [x328.R.ID] [(b570, row [.int .i64 x328.R.ID] 3)] := ⟨Nat.le_refl _, .inr ⟨_, [[.int .i64 x328.R.ID]], [], rfl, rfl, (Rs.cons (x := x328.R.ID) (cs := [.int .i64 x328.R.ID]) rfl rfl rfl Rs.nil), rfl⟩⟩
                                        obtain ⟨x574, hx575, hr⟩ := bind_some' hr
                                        refine WO.call rfl rfl rfl rfl rfl cl_12 (CallsRet.lay 2 8 1 [2, 0] [9, 6, 7, 1, 3, 4, 5, 8] (by decide) (Mem.add (Mem.add F w237) (List.flatten [[(b570, row [.int .i64 x328.R.ID] 3)]])) ([(b26, row [.int .i64 v250.s.Layers, .int .i64 v250.s.Width, .int .i64 v250.s.Heads, .int .i64 v250.s.Inner, .int .i64 v250.s.Vocab, .int .i64 v250.s.Places, .int .i64 v250.room, .slice a251 v250.row.length c252, .map (some b256)] 57)] :: p253 :: p257 :: χ :: [(b336, row [.int .i64 x328.Kind, .int .i64 x328.R.ID, .int .i64 x328.R.Most, .slice a333 x328.R.Prompt.length c334] 39)] :: p242 :: p247 :: [(b49, row [.int .i64 v239.S.Layers, .int .i64 v239.S.Width, .int .i64 v239.S.Heads, .int .i64 v239.S.Inner, .int .i64 v239.S.Vocab, .int .i64 v239.S.Places, .int .i64 v239.Room, .slice a240 v239.L.length c241, .slice a245 v239.Ids.length c246] 35)] :: Φ) rfl rfl (admit_Desk_Cancel_vvvvvvvom_ok (F := (Mem.add F w237)) (χ := (List.flatten [[(b570, row [.int .i64 x328.R.ID] 3)]])) ho254 (OwnM.re (G := (Mem.add F w237)) (constV1 const_bool) hm258) (((OwnL.re (G := F) (const_int _) ho572).rd (mono_int _)).mono (mono_int _) (Mem.le.trans (Mem.le_pick (Mem.add (Mem.add F w237) [(b570, row [.int .i64 x328.R.ID] 3)]) 2 [0] (by decide)) (Mem.le_gather (Mem.add (Mem.add F w237) [(b570, row [.int .i64 x328.R.ID] 3)]) 1))) hx575 (χ :: [(b336, row [.int .i64 x328.Kind, .int .i64 x328.R.ID, .int .i64 x328.R.Most, .slice a333 x328.R.Prompt.length c334] 39)] :: p242 :: p247 :: [(b49, row [.int .i64 v239.S.Layers, .int .i64 v239.S.Width, .int .i64 v239.S.Heads, .int .i64 v239.S.Inner, .int .i64 v239.S.Vocab, .int .i64 v239.S.Places, .int .i64 v239.Room, .slice a240 v239.L.length c241, .slice a245 v239.Ids.length c246] 35)] :: Φ))) ?_
                                        rintro _ _ ⟨a576, c577, p579, b581, p582, rfl, hs585, h578, hm584⟩
                                        have hs585 := Sat.unlay (Mem.add F w237) [[(b570, row [.int .i64 x328.R.ID] 3)]] hs585
                                        have hs585 := (hs585.arrange 2 8 [1, 5] [3, 4, 0, 6, 7, 8, 9, 2] (by decide))
                                        refine ⟨(Mem.add (Mem.add F χ) w237), (p579 :: p582 :: [(b570, row [.int .i64 x328.R.ID] 3)] :: [(b336, row [.int .i64 x328.Kind, .int .i64 x328.R.ID, .int .i64 x328.R.Most, .slice a333 x328.R.Prompt.length c334] 39)] :: p242 :: p247 :: [(b49, row [.int .i64 v239.S.Layers, .int .i64 v239.S.Width, .int .i64 v239.S.Heads, .int .i64 v239.S.Inner, .int .i64 v239.S.Vocab, .int .i64 v239.S.Places, .int .i64 v239.Room, .slice a240 v239.L.length c241, .slice a245 v239.Ids.length c246] 35)] :: [(b26, row [.int .i64 x574.2.s.Layers, .int .i64 x574.2.s.Width, .int .i64 x574.2.s.Heads, .int .i64 x574.2.s.Inner, .int .i64 x574.2.s.Vocab, .int .i64 x574.2.s.Places, .int .i64 x574.2.room, .slice a576 x574.2.row.length c577, .map (some b581)] 57)] :: Φ), hs585, (hs585.arrange 2 8 [0, 1] [5] (by decide)), ?_⟩
                                        obtain ⟨x586, hx587, hr⟩ := bind_some' hr
                                        refine WO.call rfl rfl rfl rfl rfl cl_13 (CallsRet.lay0 2 8 [0] [8, 6, 7, 1, 2, 3, 4, 5, 9] (by decide) (Mem.add F w237) ([(b49, row [.int .i64 v239.S.Layers, .int .i64 v239.S.Width, .int .i64 v239.S.Heads, .int .i64 v239.S.Inner, .int .i64 v239.S.Vocab, .int .i64 v239.S.Places, .int .i64 v239.Room, .slice a240 v239.L.length c241, .slice a245 v239.Ids.length c246] 35)] :: p242 :: p247 :: χ :: p579 :: p582 :: [(b570, row [.int .i64 x328.R.ID] 3)] :: [(b336, row [.int .i64 x328.Kind, .int .i64 x328.R.ID, .int .i64 x328.R.Most, .slice a333 x328.R.Prompt.length c334] 39)] :: [(b26, row [.int .i64 x574.2.s.Layers, .int .i64 x574.2.s.Width, .int .i64 x574.2.s.Heads, .int .i64 x574.2.s.Inner, .int .i64 x574.2.s.Vocab, .int .i64 x574.2.s.Places, .int .i64 x574.2.room, .slice a576 x574.2.row.length c577, .map (some b581)] 57)] :: Φ) rfl rfl (ref21_Desk_Cancel_vvvvvvvoo_ok (F := (Mem.add F w237)) ho243 (OwnL.re (G := (Mem.add F w237)) (const_int _) ho248) hx587 (χ :: p579 :: p582 :: [(b570, row [.int .i64 x328.R.ID] 3)] :: [(b336, row [.int .i64 x328.Kind, .int .i64 x328.R.ID, .int .i64 x328.R.Most, .slice a333 x328.R.Prompt.length c334] 39)] :: [(b26, row [.int .i64 x574.2.s.Layers, .int .i64 x574.2.s.Width, .int .i64 x574.2.s.Heads, .int .i64 x574.2.s.Inner, .int .i64 x574.2.s.Vocab, .int .i64 x574.2.s.Places, .int .i64 x574.2.room, .slice a576 x574.2.row.length c577, .map (some b581)] 57)] :: Φ))) ?_
                                        rintro _ _ ⟨a588, c589, p591, a593, c594, p596, rfl, hs598, h590, h595⟩
                                        have hs598 := (hs598.arrange 1 9 [0, 4] [2, 3, 5, 6, 7, 8, 1, 9] (by decide))
                                        refine ⟨(Mem.add (Mem.add F χ) w237), (p591 :: p596 :: p579 :: p582 :: [(b570, row [.int .i64 x328.R.ID] 3)] :: [(b336, row [.int .i64 x328.Kind, .int .i64 x328.R.ID, .int .i64 x328.R.Most, .slice a333 x328.R.Prompt.length c334] 39)] :: [(b49, row [.int .i64 x586.2.S.Layers, .int .i64 x586.2.S.Width, .int .i64 x586.2.S.Heads, .int .i64 x586.2.S.Inner, .int .i64 x586.2.S.Vocab, .int .i64 x586.2.S.Places, .int .i64 x586.2.Room, .slice a588 x586.2.L.length c589, .slice a593 x586.2.Ids.length c594] 35)] :: [(b26, row [.int .i64 x574.2.s.Layers, .int .i64 x574.2.s.Width, .int .i64 x574.2.s.Heads, .int .i64 x574.2.s.Inner, .int .i64 x574.2.s.Vocab, .int .i64 x574.2.s.Places, .int .i64 x574.2.room, .slice a576 x574.2.row.length c577, .map (some b581)] 57)] :: Φ), hs598, (hs598.arrange 2 8 [0, 1] [7] (by decide)), ?_⟩
                                        refine WO.bin rfl rfl rfl rfl rfl rfl ?_
                                        refine WO.done ?_
                                        refine At.seq_at ?_
                                        exact fun a w hc hs => ⟨(x574.1 != x586.1), x586.2, x574.2, a588, c589, p591, a593, c594, p596, a576, c577, p579, b581, p582, hr, (hc.keep (hc.keep (hc.keep (hc.keep (hc.keep (hc.keep (hc.keep hc.nil (t := 161) rfl) (t := 11) rfl) (t := 10) rfl) (t := 9) rfl) (t := 7) rfl) (t := 2) rfl) (t := 1) rfl), (hs.arrange 2 8 [0, 1] [2, 3, 4, 5, 7, 8, 9] (by decide)), h590, (OwnL.re (G := F) (const_int _) h595), h578, (OwnM.re (G := F) (constV1 const_bool) hm584)⟩
                                      · rintro a w ⟨v547, v548, v559, a549, c550, p551, a554, c555, p556, a560, c561, p562, b565, p566, hr, hc, hs, ho552, ho557, ho563, hm567⟩
                                        refine WC.use hc hs ?_
                                        clear hc hs
                                        unfold law21_AdmitActs_k24 at hr
                                        refine WC.cond rfl (fun hb569 => ?_) (fun hb569 => ?_)
                                        · have hr := cond_t hb569 hr
                                          refine WC.then ?_
                                          refine WC.region [(0, true)] rfl ?_
                                          refine WO.assign rfl rfl rfl rfl ?_
                                          refine WO.done ?_
                                          refine At.seq_wc ?_
                                          refine WC.ret ?_
                                          refine At.block_ret ?_
                                          refine At.seq_ret ?_
                                          refine At.block_ret ?_
                                          refine At.seq_ret ?_
                                          refine At.round_ret hr (fun hy => ?_)
                                          subst hy
                                          have hr := hk15
                                          refine At.block_ret ?_
                                          refine At.seq_ret ?_
                                          refine At.seq_ret ?_
                                          obtain rfl := Option.some.inj hr
                                          exact At.ret (fun a w hc hs => (resVs_cons (hc.res rfl) resVs_nil)) (fun w hs => ⟨rfl, (hs.arrange 2 7 [1] [] (by decide))⟩)
                                        · have hr := cond_f hb569 hr
                                          refine WC.skip ?_
                                          refine At.block_normal ?_
                                          refine At.seq_at ?_
                                          exact fun a w hc hs => ⟨v548, v559, a549, c550, p551, a554, c555, p556, a560, c561, p562, b565, p566, (List.flatten []), hr, (hc.keep (hc.keep (hc.keep (hc.keep (hc.keep (hc.keep hc.nil (t := 11) rfl) (t := 10) rfl) (t := 9) rfl) (t := 7) rfl) (t := 2) rfl) (t := 1) rfl), (hs.gather 0), (ho552.mono mono_api_Request (Mem.le_gather (Mem.add F w237) 0)), (OwnL.re (G := F) (const_int _) ho557), (ho563.mono mono_api_Request (Mem.le_gather (Mem.add F w237) 0)), (OwnM.re (G := F) (constV1 const_bool) hm567)⟩
                                    · have hr := cond_f hb545 hr
                                      refine WC.then ?_
                                      refine WC.region [(0, true), (1, true)] rfl ?_
                                      refine WO.bin rfl rfl rfl rfl rfl rfl ?_
                                      refine WO.assign rfl rfl rfl rfl ?_
                                      refine WO.done ?_
                                      refine At.seq_wc ?_
                                      refine WC.cond rfl (fun hb599 => ?_) (fun hb599 => ?_)
                                      · have hr := cond_t hb599 hr
                                        refine WC.seq (fun a w => ∃ (v601 : Bool), law21_AdmitActs_k25 p1 v238 v239 v250 x328 v601 = some r15 ∧ Ctx 227 [(1, .int .i64 p1), (2, .slice a_2 p2.length c_2), (7, .pointer (some ⟨b26, 0, none⟩)), (9, .pointer (some ⟨b49, 0, none⟩)), (10, .int .i64 v238), (11, .pointer (some ⟨b336, 0, none⟩)), (172, .bool v601)] a ∧ Sat (Mem.add (Mem.add F χ) w237) ([(b336, row [.int .i64 x328.Kind, .int .i64 x328.R.ID, .int .i64 x328.R.Most, .slice a333 x328.R.Prompt.length c334] 39)] :: p242 :: p247 :: p253 :: p257 :: [(b49, row [.int .i64 v239.S.Layers, .int .i64 v239.S.Width, .int .i64 v239.S.Heads, .int .i64 v239.S.Inner, .int .i64 v239.S.Vocab, .int .i64 v239.S.Places, .int .i64 v239.Room, .slice a240 v239.L.length c241, .slice a245 v239.Ids.length c246] 35)] :: [(b26, row [.int .i64 v250.s.Layers, .int .i64 v250.s.Width, .int .i64 v250.s.Heads, .int .i64 v250.s.Inner, .int .i64 v250.s.Vocab, .int .i64 v250.s.Places, .int .i64 v250.room, .slice a251 v250.row.length c252, .map (some b256)] 57)] :: Φ) w) ?_ ?_
                                        · refine WC.draw (Sat (Mem.add (Mem.add F χ) w237) ([(b336, row [.int .i64 x328.Kind, .int .i64 x328.R.ID, .int .i64 x328.R.Most, .slice a333 x328.R.Prompt.length c334] 39)] :: Φ)) (fun _ h => (h.arrange 2 7 [0, 1] [2] (by decide))) [(0, true), (1, true), (2, true), (4, true), (5, true), (6, true), (3, false), (7, false), (8, true)] mixed (by kernel_rfl) rfl (by kernel_rfl) ?_
                                          refine WO.move rfl rfl rfl rfl ?_
                                          refine WO.fieldAddr 1 rfl rfl rfl rfl fl_39_1 ?_
                                          refine WO.loadAY 0 3 rfl rfl rfl rfl ag_37 rfl rfl rfl ?_
                                          refine WO.move rfl rfl rfl rfl ?_
                                          refine WO.fieldAddr 1 rfl rfl rfl rfl fl_39_1 ?_
                                          refine WO.loadAY 0 3 rfl rfl rfl rfl ag_37 rfl rfl rfl ?_
                                          obtain ⟨x603, hx604, hr⟩ := bind_some' hr
                                          refine WO.call rfl rfl rfl rfl rfl cl_14 (CallsRet.lay 2 7 1 [1, 0] [8, 5, 6, 2, 3, 4, 7] (by decide) (Mem.add (Mem.add F w237) (List.flatten [χ])) ([(b26, row [.int .i64 v250.s.Layers, .int .i64 v250.s.Width, .int .i64 v250.s.Heads, .int .i64 v250.s.Inner, .int .i64 v250.s.Vocab, .int .i64 v250.s.Places, .int .i64 v250.room, .slice a251 v250.row.length c252, .map (some b256)] 57)] :: p253 :: p257 :: [(b336, row [.int .i64 x328.Kind, .int .i64 x328.R.ID, .int .i64 x328.R.Most, .slice a333 x328.R.Prompt.length c334] 39)] :: p242 :: p247 :: [(b49, row [.int .i64 v239.S.Layers, .int .i64 v239.S.Width, .int .i64 v239.S.Heads, .int .i64 v239.S.Inner, .int .i64 v239.S.Vocab, .int .i64 v239.S.Places, .int .i64 v239.Room, .slice a240 v239.L.length c241, .slice a245 v239.Ids.length c246] 35)] :: Φ) rfl rfl (admit_Desk_Judge_vvvvvvvom_ok (F := (Mem.add F w237)) (χ := (List.flatten [χ])) ho254 (OwnM.re (G := (Mem.add F w237)) (constV1 const_bool) hm258) ⟨_, _, rfl, (h335.mono (mono_int _) (Mem.le.trans (Mem.le_pick (Mem.add (Mem.add F w237) χ) 2 [0] (by decide)) (Mem.le_gather (Mem.add (Mem.add F w237) χ) 1)))⟩ hx604 ([(b336, row [.int .i64 x328.Kind, .int .i64 x328.R.ID, .int .i64 x328.R.Most, .slice a333 x328.R.Prompt.length c334] 39)] :: p242 :: p247 :: [(b49, row [.int .i64 v239.S.Layers, .int .i64 v239.S.Width, .int .i64 v239.S.Heads, .int .i64 v239.S.Inner, .int .i64 v239.S.Vocab, .int .i64 v239.S.Places, .int .i64 v239.Room, .slice a240 v239.L.length c241, .slice a245 v239.Ids.length c246] 35)] :: Φ))) ?_
                                          rintro _ _ ⟨rfl, hs605⟩
                                          have hs605 := Sat.unlay (Mem.add F w237) [χ] hs605
                                          have hs605 := (hs605.arrange 2 7 [1, 0] [5, 6, 7, 3, 4, 8, 2] (by decide))
                                          refine ⟨(Mem.add (Mem.add F χ) w237), ([(b336, row [.int .i64 x328.Kind, .int .i64 x328.R.ID, .int .i64 x328.R.Most, .slice a333 x328.R.Prompt.length c334] 39)] :: p242 :: p247 :: p253 :: p257 :: [(b49, row [.int .i64 v239.S.Layers, .int .i64 v239.S.Width, .int .i64 v239.S.Heads, .int .i64 v239.S.Inner, .int .i64 v239.S.Vocab, .int .i64 v239.S.Places, .int .i64 v239.Room, .slice a240 v239.L.length c241, .slice a245 v239.Ids.length c246] 35)] :: [(b26, row [.int .i64 v250.s.Layers, .int .i64 v250.s.Width, .int .i64 v250.s.Heads, .int .i64 v250.s.Inner, .int .i64 v250.s.Vocab, .int .i64 v250.s.Places, .int .i64 v250.room, .slice a251 v250.row.length c252, .map (some b256)] 57)] :: Φ), hs605, (hs605.arrange 2 7 [0, 1] [2] (by decide)), ?_⟩
                                          obtain ⟨x606, hx607, hr⟩ := bind_some' hr
                                          refine WO.call rfl rfl rfl rfl rfl cl_15 (CallsRet.lay 2 7 1 [1, 0] [7, 3, 4, 2, 5, 6, 8] (by decide) (Mem.add (Mem.add F w237) (List.flatten [χ])) ([(b49, row [.int .i64 v239.S.Layers, .int .i64 v239.S.Width, .int .i64 v239.S.Heads, .int .i64 v239.S.Inner, .int .i64 v239.S.Vocab, .int .i64 v239.S.Places, .int .i64 v239.Room, .slice a240 v239.L.length c241, .slice a245 v239.Ids.length c246] 35)] :: p242 :: p247 :: [(b336, row [.int .i64 x328.Kind, .int .i64 x328.R.ID, .int .i64 x328.R.Most, .slice a333 x328.R.Prompt.length c334] 39)] :: p253 :: p257 :: [(b26, row [.int .i64 v250.s.Layers, .int .i64 v250.s.Width, .int .i64 v250.s.Heads, .int .i64 v250.s.Inner, .int .i64 v250.s.Vocab, .int .i64 v250.s.Places, .int .i64 v250.room, .slice a251 v250.row.length c252, .map (some b256)] 57)] :: Φ) rfl rfl (ref21_Desk_Judge_vvvvvvvoo_ok (F := (Mem.add F w237)) (χ := (List.flatten [χ])) ho243 (OwnL.re (G := (Mem.add F w237)) (const_int _) ho248) ⟨_, _, rfl, (h335.mono (mono_int _) (Mem.le.trans (Mem.le_pick (Mem.add (Mem.add F w237) χ) 2 [0] (by decide)) (Mem.le_gather (Mem.add (Mem.add F w237) χ) 1)))⟩ hx607 ([(b336, row [.int .i64 x328.Kind, .int .i64 x328.R.ID, .int .i64 x328.R.Most, .slice a333 x328.R.Prompt.length c334] 39)] :: p253 :: p257 :: [(b26, row [.int .i64 v250.s.Layers, .int .i64 v250.s.Width, .int .i64 v250.s.Heads, .int .i64 v250.s.Inner, .int .i64 v250.s.Vocab, .int .i64 v250.s.Places, .int .i64 v250.room, .slice a251 v250.row.length c252, .map (some b256)] 57)] :: Φ))) ?_
                                          rintro _ _ ⟨rfl, hs608⟩
                                          have hs608 := Sat.unlay (Mem.add F w237) [χ] hs608
                                          have hs608 := (hs608.arrange 2 7 [1, 0] [5, 3, 4, 6, 7, 2, 8] (by decide))
                                          refine ⟨(Mem.add (Mem.add F χ) w237), ([(b336, row [.int .i64 x328.Kind, .int .i64 x328.R.ID, .int .i64 x328.R.Most, .slice a333 x328.R.Prompt.length c334] 39)] :: p242 :: p247 :: p253 :: p257 :: [(b49, row [.int .i64 v239.S.Layers, .int .i64 v239.S.Width, .int .i64 v239.S.Heads, .int .i64 v239.S.Inner, .int .i64 v239.S.Vocab, .int .i64 v239.S.Places, .int .i64 v239.Room, .slice a240 v239.L.length c241, .slice a245 v239.Ids.length c246] 35)] :: [(b26, row [.int .i64 v250.s.Layers, .int .i64 v250.s.Width, .int .i64 v250.s.Heads, .int .i64 v250.s.Inner, .int .i64 v250.s.Vocab, .int .i64 v250.s.Places, .int .i64 v250.room, .slice a251 v250.row.length c252, .map (some b256)] 57)] :: Φ), hs608, (hs608.arrange 2 7 [0, 1] [2] (by decide)), ?_⟩
                                          refine WO.bin rfl rfl rfl rfl rfl rfl ?_
                                          refine WO.done ?_
                                          refine At.seq_at ?_
                                          exact fun a w hc hs => ⟨(x603 != x606), hr, (hc.keep (hc.keep (hc.keep (hc.keep (hc.keep (hc.keep (hc.keep hc.nil (t := 172) rfl) (t := 11) rfl) (t := 10) rfl) (t := 9) rfl) (t := 7) rfl) (t := 2) rfl) (t := 1) rfl), hs⟩
                                        · rintro a w ⟨v601, hr, hc, hs⟩
                                          refine WC.use hc hs ?_
                                          clear hc hs
                                          unfold law21_AdmitActs_k25 at hr
                                          refine WC.cond rfl (fun hb602 => ?_) (fun hb602 => ?_)
                                          · have hr := cond_t hb602 hr
                                            refine WC.then ?_
                                            refine WC.region [(0, true)] rfl ?_
                                            refine WO.assign rfl rfl rfl rfl ?_
                                            refine WO.done ?_
                                            refine At.seq_wc ?_
                                            refine WC.ret ?_
                                            refine At.block_ret ?_
                                            refine At.seq_ret ?_
                                            refine At.block_ret ?_
                                            refine At.seq_ret ?_
                                            refine At.round_ret hr (fun hy => ?_)
                                            subst hy
                                            have hr := hk15
                                            refine At.block_ret ?_
                                            refine At.seq_ret ?_
                                            refine At.seq_ret ?_
                                            obtain rfl := Option.some.inj hr
                                            exact At.ret (fun a w hc hs => (resVs_cons (hc.res rfl) resVs_nil)) (fun w hs => ⟨rfl, (hs.arrange 2 7 [1] [] (by decide))⟩)
                                          · have hr := cond_f hb602 hr
                                            refine WC.skip ?_
                                            refine At.block_normal ?_
                                            refine At.seq_at ?_
                                            exact fun a w hc hs => ⟨v239, v250, a240, c241, p242, a245, c246, p247, a251, c252, p253, b256, p257, (List.flatten []), hr, (hc.keep (hc.keep (hc.keep (hc.keep (hc.keep (hc.keep hc.nil (t := 11) rfl) (t := 10) rfl) (t := 9) rfl) (t := 7) rfl) (t := 2) rfl) (t := 1) rfl), ((hs.arrange 2 7 [0, 1] [3, 4, 5, 6, 2, 7, 8] (by decide)).gather 0), (ho243.mono mono_api_Request (Mem.le_gather (Mem.add F w237) 0)), (OwnL.re (G := F) (const_int _) ho248), (ho254.mono mono_api_Request (Mem.le_gather (Mem.add F w237) 0)), (OwnM.re (G := F) (constV1 const_bool) hm258)⟩
                                      · have hr := cond_f hb599 hr
                                        refine WC.skip ?_
                                        refine At.block_normal ?_
                                        refine At.seq_at ?_
                                        exact fun a w hc hs => ⟨v239, v250, a240, c241, p242, a245, c246, p247, a251, c252, p253, b256, p257, (List.flatten []), hr, (hc.keep (hc.keep (hc.keep (hc.keep (hc.keep (hc.keep hc.nil (t := 11) rfl) (t := 10) rfl) (t := 9) rfl) (t := 7) rfl) (t := 2) rfl) (t := 1) rfl), ((hs.arrange 2 7 [0, 1] [3, 4, 5, 6, 2, 7, 8] (by decide)).gather 0), (ho243.mono mono_api_Request (Mem.le_gather (Mem.add F w237) 0)), (OwnL.re (G := F) (const_int _) ho248), (ho254.mono mono_api_Request (Mem.le_gather (Mem.add F w237) 0)), (OwnM.re (G := F) (constV1 const_bool) hm258)⟩
                              · rintro a w ⟨v340, v351, a341, c342, p343, a346, c347, p348, a352, c353, p354, b357, p358, w339, hr, hc, hs, ho344, ho349, ho355, hm359⟩
                                refine WC.use hc hs ?_
                                clear hc hs
                                unfold law21_AdmitActs_k17 at hr
                                refine WC.seq (fun a w => ∃ (v362 : Bool), law21_AdmitActs_k18 v238 v340 v351 v362 = some r15 ∧ Ctx 227 [(1, .int .i64 p1), (2, .slice a_2 p2.length c_2), (7, .pointer (some ⟨b26, 0, none⟩)), (9, .pointer (some ⟨b49, 0, none⟩)), (10, .int .i64 v238), (199, .bool v362)] a ∧ Sat (Mem.add (Mem.add (Mem.add F χ) w237) w339) (p343 :: p348 :: p354 :: p358 :: [(b336, row [.int .i64 x328.Kind, .int .i64 x328.R.ID, .int .i64 x328.R.Most, .slice a333 x328.R.Prompt.length c334] 39)] :: [(b49, row [.int .i64 v340.S.Layers, .int .i64 v340.S.Width, .int .i64 v340.S.Heads, .int .i64 v340.S.Inner, .int .i64 v340.S.Vocab, .int .i64 v340.S.Places, .int .i64 v340.Room, .slice a341 v340.L.length c342, .slice a346 v340.Ids.length c347] 35)] :: [(b26, row [.int .i64 v351.s.Layers, .int .i64 v351.s.Width, .int .i64 v351.s.Heads, .int .i64 v351.s.Inner, .int .i64 v351.s.Vocab, .int .i64 v351.s.Places, .int .i64 v351.room, .slice a352 v351.row.length c353, .map (some b357)] 57)] :: Φ) w) ?_ ?_
                                · refine WC.drawA (Sat (Mem.add (Mem.add (Mem.add F χ) w237) w339) ([(b336, row [.int .i64 x328.Kind, .int .i64 x328.R.ID, .int .i64 x328.R.Most, .slice a333 x328.R.Prompt.length c334] 39)] :: Φ)) (fun _ h => (h.arrange 3 7 [0, 1, 2] [7] (by decide))) mixed rfl ?_
                                  refine WA.lin (fuel := 23) [(0, true), (2, true), (3, true), (4, true)] (by kernel_rfl) (by kernel_rfl) ?_
                                  refine WO.move rfl rfl rfl rfl ?_
                                  refine WO.move rfl rfl rfl rfl ?_
                                  refine WO.nilCheck rfl rfl rfl rfl ?_
                                  refine WO.fieldAddr 7 rfl rfl rfl rfl fl_35_2 ?_
                                  refine WO.done ?_
                                  refine WA.of ?_
                                  refine WA.two (fuel := 22) 1 5 (by kernel_rfl) ?_ ?_
                                  · obtain ⟨x364, hx365, hr⟩ := bind_some' hr
                                    refine WO.call rfl rfl rfl rfl rfl cl_16 (CallsRet.lay0 3 7 [0, 1] [9, 5, 6, 2, 3, 4, 7, 8] (by decide) (Mem.add (Mem.add F w237) w339) ([(b26, row [.int .i64 v351.s.Layers, .int .i64 v351.s.Width, .int .i64 v351.s.Heads, .int .i64 v351.s.Inner, .int .i64 v351.s.Vocab, .int .i64 v351.s.Places, .int .i64 v351.room, .slice a352 v351.row.length c353, .map (some b357)] 57)] :: p354 :: p358 :: χ :: p343 :: p348 :: [(b336, row [.int .i64 x328.Kind, .int .i64 x328.R.ID, .int .i64 x328.R.Most, .slice a333 x328.R.Prompt.length c334] 39)] :: [(b49, row [.int .i64 v340.S.Layers, .int .i64 v340.S.Width, .int .i64 v340.S.Heads, .int .i64 v340.S.Inner, .int .i64 v340.S.Vocab, .int .i64 v340.S.Places, .int .i64 v340.Room, .slice a341 v340.L.length c342, .slice a346 v340.Ids.length c347] 35)] :: Φ) rfl rfl (admit_Desk_Len_vvvvvvvom_ok (F := (Mem.add (Mem.add F w237) w339)) ho355 (OwnM.re (G := (Mem.add (Mem.add F w237) w339)) (constV1 const_bool) hm359) hx365 (χ :: p343 :: p348 :: [(b336, row [.int .i64 x328.Kind, .int .i64 x328.R.ID, .int .i64 x328.R.Most, .slice a333 x328.R.Prompt.length c334] 39)] :: [(b49, row [.int .i64 v340.S.Layers, .int .i64 v340.S.Width, .int .i64 v340.S.Heads, .int .i64 v340.S.Inner, .int .i64 v340.S.Vocab, .int .i64 v340.S.Places, .int .i64 v340.Room, .slice a341 v340.L.length c342, .slice a346 v340.Ids.length c347] 35)] :: Φ))) ?_
                                    rintro _ _ ⟨rfl, hs366⟩
                                    have hs366 := (hs366.arrange 2 8 [0, 1, 5] [6, 7, 3, 4, 8, 9, 2] (by decide))
                                    refine ⟨(Mem.add (Mem.add (Mem.add F χ) w237) w339), (p343 :: p348 :: p354 :: p358 :: [(b336, row [.int .i64 x328.Kind, .int .i64 x328.R.ID, .int .i64 x328.R.Most, .slice a333 x328.R.Prompt.length c334] 39)] :: [(b49, row [.int .i64 v340.S.Layers, .int .i64 v340.S.Width, .int .i64 v340.S.Heads, .int .i64 v340.S.Inner, .int .i64 v340.S.Vocab, .int .i64 v340.S.Places, .int .i64 v340.Room, .slice a341 v340.L.length c342, .slice a346 v340.Ids.length c347] 35)] :: [(b26, row [.int .i64 v351.s.Layers, .int .i64 v351.s.Width, .int .i64 v351.s.Heads, .int .i64 v351.s.Inner, .int .i64 v351.s.Vocab, .int .i64 v351.s.Places, .int .i64 v351.room, .slice a352 v351.row.length c353, .map (some b357)] 57)] :: Φ), hs366, (hs366.arrange 3 7 [0, 1, 2] [7] (by decide)), ?_⟩
                                    refine WO.done ?_
                                    refine WA.of ?_
                                    refine WA.lin (fuel := 0) [(5, false), (6, true), (7, true), (8, true), (9, true), (11, true), (10, false), (12, true), (13, true), (14, true), (15, true), (16, true), (17, true), (18, true), (20, true), (21, true), (22, true), (23, true), (19, false), (24, false), (25, true), (26, true)] (by kernel_rfl) (by kernel_rfl) ?_
                                    refine WO.load 5 rfl rfl rfl rfl sc_32 rfl rfl ?_
                                    refine WO.len rfl rfl rfl rfl Try.underlying32 ?_
                                    refine WO.bin rfl rfl rfl rfl rfl rfl ?_
                                    refine WO.move rfl rfl rfl rfl ?_
                                    refine WO.split (t := 181) rfl (fun hg367 => ?_) (fun hg367 => ?_)
                                    · have hr := cond_t hg367 hr
                                      refine WO.skip rfl rfl rfl rfl ?_
                                      refine WO.skip rfl rfl rfl rfl ?_
                                      refine WO.skipF rfl rfl rfl rfl ?_
                                      refine WO.skip rfl rfl rfl rfl ?_
                                      refine WO.pickT rfl rfl rfl rfl rfl ?_
                                      refine WO.move rfl rfl rfl rfl ?_
                                      refine WO.skip rfl rfl rfl rfl ?_
                                      refine WO.skip rfl rfl rfl rfl ?_
                                      refine WO.skip rfl rfl rfl rfl ?_
                                      refine WO.skip rfl rfl rfl rfl ?_
                                      refine WO.skip rfl rfl rfl rfl ?_
                                      refine WO.skip rfl rfl rfl rfl ?_
                                      refine WO.skip rfl rfl rfl rfl ?_
                                      refine WO.skip rfl rfl rfl rfl ?_
                                      refine WO.skipF rfl rfl rfl rfl ?_
                                      refine WO.skipF rfl rfl rfl rfl ?_
                                      refine WO.skip rfl rfl rfl rfl ?_
                                      refine WO.pickT rfl rfl rfl rfl rfl ?_
                                      refine WO.done ?_
                                      refine WA.of ?_
                                      refine WA.done (by kernel_rfl) ?_
                                      refine At.seq_at ?_
                                      exact fun a w hc hs => ⟨true, hr, (hc.keep (hc.keep (hc.keep (hc.keep (hc.keep (hc.keep hc.nil (t := 199) rfl) (t := 10) rfl) (t := 9) rfl) (t := 7) rfl) (t := 2) rfl) (t := 1) rfl), hs⟩
                                    · have hr := cond_f hg367 hr
                                      refine WO.move rfl rfl rfl rfl ?_
                                      refine WO.move rfl rfl rfl rfl ?_
                                      obtain ⟨x368, hx369, hr⟩ := bind_some' hr
                                      refine WO.call rfl rfl rfl rfl rfl cl_16 (CallsRet.lay0 3 7 [0, 1] [9, 5, 6, 2, 3, 4, 7, 8] (by decide) (Mem.add (Mem.add F w237) w339) ([(b26, row [.int .i64 v351.s.Layers, .int .i64 v351.s.Width, .int .i64 v351.s.Heads, .int .i64 v351.s.Inner, .int .i64 v351.s.Vocab, .int .i64 v351.s.Places, .int .i64 v351.room, .slice a352 v351.row.length c353, .map (some b357)] 57)] :: p354 :: p358 :: χ :: p343 :: p348 :: [(b336, row [.int .i64 x328.Kind, .int .i64 x328.R.ID, .int .i64 x328.R.Most, .slice a333 x328.R.Prompt.length c334] 39)] :: [(b49, row [.int .i64 v340.S.Layers, .int .i64 v340.S.Width, .int .i64 v340.S.Heads, .int .i64 v340.S.Inner, .int .i64 v340.S.Vocab, .int .i64 v340.S.Places, .int .i64 v340.Room, .slice a341 v340.L.length c342, .slice a346 v340.Ids.length c347] 35)] :: Φ) rfl rfl (admit_Desk_Len_vvvvvvvom_ok (F := (Mem.add (Mem.add F w237) w339)) ho355 (OwnM.re (G := (Mem.add (Mem.add F w237) w339)) (constV1 const_bool) hm359) hx369 (χ :: p343 :: p348 :: [(b336, row [.int .i64 x328.Kind, .int .i64 x328.R.ID, .int .i64 x328.R.Most, .slice a333 x328.R.Prompt.length c334] 39)] :: [(b49, row [.int .i64 v340.S.Layers, .int .i64 v340.S.Width, .int .i64 v340.S.Heads, .int .i64 v340.S.Inner, .int .i64 v340.S.Vocab, .int .i64 v340.S.Places, .int .i64 v340.Room, .slice a341 v340.L.length c342, .slice a346 v340.Ids.length c347] 35)] :: Φ))) ?_
                                      rintro _ _ ⟨rfl, hs370⟩
                                      have hs370 := (hs370.arrange 2 8 [0, 1, 5] [6, 7, 3, 4, 8, 9, 2] (by decide))
                                      refine ⟨(Mem.add (Mem.add (Mem.add F χ) w237) w339), (p343 :: p348 :: p354 :: p358 :: [(b336, row [.int .i64 x328.Kind, .int .i64 x328.R.ID, .int .i64 x328.R.Most, .slice a333 x328.R.Prompt.length c334] 39)] :: [(b49, row [.int .i64 v340.S.Layers, .int .i64 v340.S.Width, .int .i64 v340.S.Heads, .int .i64 v340.S.Inner, .int .i64 v340.S.Vocab, .int .i64 v340.S.Places, .int .i64 v340.Room, .slice a341 v340.L.length c342, .slice a346 v340.Ids.length c347] 35)] :: [(b26, row [.int .i64 v351.s.Layers, .int .i64 v351.s.Width, .int .i64 v351.s.Heads, .int .i64 v351.s.Inner, .int .i64 v351.s.Vocab, .int .i64 v351.s.Places, .int .i64 v351.room, .slice a352 v351.row.length c353, .map (some b357)] 57)] :: Φ), hs370, (hs370.arrange 3 7 [0, 1, 2] [7] (by decide)), ?_⟩
                                      refine WO.bin rfl rfl rfl rfl rfl rfl ?_
                                      refine WO.pickF rfl rfl rfl rfl rfl ?_
                                      refine WO.move rfl rfl rfl rfl ?_
                                      refine WO.split (t := 187) rfl (fun hg371 => ?_) (fun hg371 => ?_)
                                      · have hr := cond_t hg371 hr
                                        refine WO.skip rfl rfl rfl rfl ?_
                                        refine WO.skip rfl rfl rfl rfl ?_
                                        refine WO.skip rfl rfl rfl rfl ?_
                                        refine WO.skip rfl rfl rfl rfl ?_
                                        refine WO.skip rfl rfl rfl rfl ?_
                                        refine WO.skip rfl rfl rfl rfl ?_
                                        refine WO.skip rfl rfl rfl rfl ?_
                                        refine WO.skip rfl rfl rfl rfl ?_
                                        refine WO.skipF rfl rfl rfl rfl ?_
                                        refine WO.skipF rfl rfl rfl rfl ?_
                                        refine WO.skip rfl rfl rfl rfl ?_
                                        refine WO.pickT rfl rfl rfl rfl rfl ?_
                                        refine WO.done ?_
                                        refine WA.of ?_
                                        refine WA.done (by kernel_rfl) ?_
                                        refine At.seq_at ?_
                                        exact fun a w hc hs => ⟨true, hr, (hc.keep (hc.keep (hc.keep (hc.keep (hc.keep (hc.keep hc.nil (t := 199) rfl) (t := 10) rfl) (t := 9) rfl) (t := 7) rfl) (t := 2) rfl) (t := 1) rfl), hs⟩
                                      · have hr := cond_f hg371 hr
                                        refine WO.move rfl rfl rfl rfl ?_
                                        refine WO.fieldAddr 1 rfl rfl rfl rfl fl_39_1 ?_
                                        refine WO.fieldAddr 0 rfl rfl rfl rfl fl_37_0 ?_
                                        refine WO.loadY 0 rfl rfl rfl rfl sc_3 rfl rfl ?_
                                        refine WO.move rfl rfl rfl rfl ?_
                                        refine WO.fieldAddr 1 rfl rfl rfl rfl fl_39_1 ?_
                                        refine WO.fieldAddr 0 rfl rfl rfl rfl fl_37_0 ?_
                                        refine WO.loadY 0 rfl rfl rfl rfl sc_3 rfl rfl ?_
                                        obtain ⟨x372, hx373, hr⟩ := bind_some' hr
                                        refine WO.call rfl rfl rfl rfl rfl cl_17 (CallsRet.lay0 3 7 [0, 1] [9, 5, 6, 2, 3, 4, 7, 8] (by decide) (Mem.add (Mem.add F w237) w339) ([(b26, row [.int .i64 v351.s.Layers, .int .i64 v351.s.Width, .int .i64 v351.s.Heads, .int .i64 v351.s.Inner, .int .i64 v351.s.Vocab, .int .i64 v351.s.Places, .int .i64 v351.room, .slice a352 v351.row.length c353, .map (some b357)] 57)] :: p354 :: p358 :: χ :: p343 :: p348 :: [(b336, row [.int .i64 x328.Kind, .int .i64 x328.R.ID, .int .i64 x328.R.Most, .slice a333 x328.R.Prompt.length c334] 39)] :: [(b49, row [.int .i64 v340.S.Layers, .int .i64 v340.S.Width, .int .i64 v340.S.Heads, .int .i64 v340.S.Inner, .int .i64 v340.S.Vocab, .int .i64 v340.S.Places, .int .i64 v340.Room, .slice a341 v340.L.length c342, .slice a346 v340.Ids.length c347] 35)] :: Φ) rfl rfl (admit_Desk_Took_vvvvvvvom_ok (F := (Mem.add (Mem.add F w237) w339)) ho355 (OwnM.re (G := (Mem.add (Mem.add F w237) w339)) (constV1 const_bool) hm359) hx373 (χ :: p343 :: p348 :: [(b336, row [.int .i64 x328.Kind, .int .i64 x328.R.ID, .int .i64 x328.R.Most, .slice a333 x328.R.Prompt.length c334] 39)] :: [(b49, row [.int .i64 v340.S.Layers, .int .i64 v340.S.Width, .int .i64 v340.S.Heads, .int .i64 v340.S.Inner, .int .i64 v340.S.Vocab, .int .i64 v340.S.Places, .int .i64 v340.Room, .slice a341 v340.L.length c342, .slice a346 v340.Ids.length c347] 35)] :: Φ))) ?_
                                        rintro _ _ ⟨rfl, hs374⟩
                                        have hs374 := (hs374.arrange 2 8 [0, 1, 5] [6, 7, 3, 4, 8, 9, 2] (by decide))
                                        refine ⟨(Mem.add (Mem.add (Mem.add F χ) w237) w339), (p343 :: p348 :: p354 :: p358 :: [(b336, row [.int .i64 x328.Kind, .int .i64 x328.R.ID, .int .i64 x328.R.Most, .slice a333 x328.R.Prompt.length c334] 39)] :: [(b49, row [.int .i64 v340.S.Layers, .int .i64 v340.S.Width, .int .i64 v340.S.Heads, .int .i64 v340.S.Inner, .int .i64 v340.S.Vocab, .int .i64 v340.S.Places, .int .i64 v340.Room, .slice a341 v340.L.length c342, .slice a346 v340.Ids.length c347] 35)] :: [(b26, row [.int .i64 v351.s.Layers, .int .i64 v351.s.Width, .int .i64 v351.s.Heads, .int .i64 v351.s.Inner, .int .i64 v351.s.Vocab, .int .i64 v351.s.Places, .int .i64 v351.room, .slice a352 v351.row.length c353, .map (some b357)] 57)] :: Φ), hs374, (hs374.arrange 3 7 [0, 1, 2] [7] (by decide)), ?_⟩
                                        obtain ⟨x375, hx376, hr⟩ := bind_some' hr
                                        refine WO.call rfl rfl rfl rfl rfl cl_18 (CallsRet.lay0 3 7 [0, 1] [8, 3, 4, 2, 5, 6, 7, 9] (by decide) (Mem.add (Mem.add F w237) w339) ([(b49, row [.int .i64 v340.S.Layers, .int .i64 v340.S.Width, .int .i64 v340.S.Heads, .int .i64 v340.S.Inner, .int .i64 v340.S.Vocab, .int .i64 v340.S.Places, .int .i64 v340.Room, .slice a341 v340.L.length c342, .slice a346 v340.Ids.length c347] 35)] :: p343 :: p348 :: χ :: p354 :: p358 :: [(b336, row [.int .i64 x328.Kind, .int .i64 x328.R.ID, .int .i64 x328.R.Most, .slice a333 x328.R.Prompt.length c334] 39)] :: [(b26, row [.int .i64 v351.s.Layers, .int .i64 v351.s.Width, .int .i64 v351.s.Heads, .int .i64 v351.s.Inner, .int .i64 v351.s.Vocab, .int .i64 v351.s.Places, .int .i64 v351.room, .slice a352 v351.row.length c353, .map (some b357)] 57)] :: Φ) rfl rfl (ref21_Desk_Took_vvvvvvvoo_ok (F := (Mem.add (Mem.add F w237) w339)) ho344 (OwnL.re (G := (Mem.add (Mem.add F w237) w339)) (const_int _) ho349) hx376 (χ :: p354 :: p358 :: [(b336, row [.int .i64 x328.Kind, .int .i64 x328.R.ID, .int .i64 x328.R.Most, .slice a333 x328.R.Prompt.length c334] 39)] :: [(b26, row [.int .i64 v351.s.Layers, .int .i64 v351.s.Width, .int .i64 v351.s.Heads, .int .i64 v351.s.Inner, .int .i64 v351.s.Vocab, .int .i64 v351.s.Places, .int .i64 v351.room, .slice a352 v351.row.length c353, .map (some b357)] 57)] :: Φ))) ?_
                                        rintro _ _ ⟨rfl, hs377⟩
                                        have hs377 := (hs377.arrange 2 8 [0, 1, 5] [3, 4, 6, 7, 8, 2, 9] (by decide))
                                        refine ⟨(Mem.add (Mem.add (Mem.add F χ) w237) w339), (p343 :: p348 :: p354 :: p358 :: [(b336, row [.int .i64 x328.Kind, .int .i64 x328.R.ID, .int .i64 x328.R.Most, .slice a333 x328.R.Prompt.length c334] 39)] :: [(b49, row [.int .i64 v340.S.Layers, .int .i64 v340.S.Width, .int .i64 v340.S.Heads, .int .i64 v340.S.Inner, .int .i64 v340.S.Vocab, .int .i64 v340.S.Places, .int .i64 v340.Room, .slice a341 v340.L.length c342, .slice a346 v340.Ids.length c347] 35)] :: [(b26, row [.int .i64 v351.s.Layers, .int .i64 v351.s.Width, .int .i64 v351.s.Heads, .int .i64 v351.s.Inner, .int .i64 v351.s.Vocab, .int .i64 v351.s.Places, .int .i64 v351.room, .slice a352 v351.row.length c353, .map (some b357)] 57)] :: Φ), hs377, (hs377.arrange 3 7 [0, 1, 2] [7] (by decide)), ?_⟩
                                        refine WO.neB rfl rfl rfl rfl rfl Try.underlying4 ?_
                                        refine WO.pickF rfl rfl rfl rfl rfl ?_
                                        refine WO.done ?_
                                        refine WA.of ?_
                                        refine WA.done (by kernel_rfl) ?_
                                        refine At.seq_at ?_
                                        exact fun a w hc hs => ⟨(x372 != x375), hr, (hc.keep (hc.keep (hc.keep (hc.keep (hc.keep (hc.keep hc.nil (t := 199) rfl) (t := 10) rfl) (t := 9) rfl) (t := 7) rfl) (t := 2) rfl) (t := 1) rfl), hs⟩
                                  · refine WO.load 5 rfl rfl rfl rfl sc_32 rfl rfl ?_
                                    refine WO.done ?_
                                    refine WA.of ?_
                                    refine WA.lin (fuel := 0) [(6, true), (1, false), (7, true), (8, true), (9, true), (11, true), (10, false), (12, true), (13, true), (14, true), (15, true), (16, true), (17, true), (18, true), (20, true), (21, true), (22, true), (23, true), (19, false), (24, false), (25, true), (26, true)] (by kernel_rfl) (by kernel_rfl) ?_
                                    refine WO.len rfl rfl rfl rfl Try.underlying32 ?_
                                    obtain ⟨x364, hx365, hr⟩ := bind_some' hr
                                    refine WO.call rfl rfl rfl rfl rfl cl_16 (CallsRet.lay0 3 7 [0, 1] [9, 5, 6, 2, 3, 4, 7, 8] (by decide) (Mem.add (Mem.add F w237) w339) ([(b26, row [.int .i64 v351.s.Layers, .int .i64 v351.s.Width, .int .i64 v351.s.Heads, .int .i64 v351.s.Inner, .int .i64 v351.s.Vocab, .int .i64 v351.s.Places, .int .i64 v351.room, .slice a352 v351.row.length c353, .map (some b357)] 57)] :: p354 :: p358 :: χ :: p343 :: p348 :: [(b336, row [.int .i64 x328.Kind, .int .i64 x328.R.ID, .int .i64 x328.R.Most, .slice a333 x328.R.Prompt.length c334] 39)] :: [(b49, row [.int .i64 v340.S.Layers, .int .i64 v340.S.Width, .int .i64 v340.S.Heads, .int .i64 v340.S.Inner, .int .i64 v340.S.Vocab, .int .i64 v340.S.Places, .int .i64 v340.Room, .slice a341 v340.L.length c342, .slice a346 v340.Ids.length c347] 35)] :: Φ) rfl rfl (admit_Desk_Len_vvvvvvvom_ok (F := (Mem.add (Mem.add F w237) w339)) ho355 (OwnM.re (G := (Mem.add (Mem.add F w237) w339)) (constV1 const_bool) hm359) hx365 (χ :: p343 :: p348 :: [(b336, row [.int .i64 x328.Kind, .int .i64 x328.R.ID, .int .i64 x328.R.Most, .slice a333 x328.R.Prompt.length c334] 39)] :: [(b49, row [.int .i64 v340.S.Layers, .int .i64 v340.S.Width, .int .i64 v340.S.Heads, .int .i64 v340.S.Inner, .int .i64 v340.S.Vocab, .int .i64 v340.S.Places, .int .i64 v340.Room, .slice a341 v340.L.length c342, .slice a346 v340.Ids.length c347] 35)] :: Φ))) ?_
                                    rintro _ _ ⟨rfl, hs366⟩
                                    have hs366 := (hs366.arrange 2 8 [0, 1, 5] [6, 7, 3, 4, 8, 9, 2] (by decide))
                                    refine ⟨(Mem.add (Mem.add (Mem.add F χ) w237) w339), (p343 :: p348 :: p354 :: p358 :: [(b336, row [.int .i64 x328.Kind, .int .i64 x328.R.ID, .int .i64 x328.R.Most, .slice a333 x328.R.Prompt.length c334] 39)] :: [(b49, row [.int .i64 v340.S.Layers, .int .i64 v340.S.Width, .int .i64 v340.S.Heads, .int .i64 v340.S.Inner, .int .i64 v340.S.Vocab, .int .i64 v340.S.Places, .int .i64 v340.Room, .slice a341 v340.L.length c342, .slice a346 v340.Ids.length c347] 35)] :: [(b26, row [.int .i64 v351.s.Layers, .int .i64 v351.s.Width, .int .i64 v351.s.Heads, .int .i64 v351.s.Inner, .int .i64 v351.s.Vocab, .int .i64 v351.s.Places, .int .i64 v351.room, .slice a352 v351.row.length c353, .map (some b357)] 57)] :: Φ), hs366, (hs366.arrange 3 7 [0, 1, 2] [7] (by decide)), ?_⟩
                                    refine WO.bin rfl rfl rfl rfl rfl rfl ?_
                                    refine WO.move rfl rfl rfl rfl ?_
                                    refine WO.split (t := 181) rfl (fun hg367 => ?_) (fun hg367 => ?_)
                                    · have hr := cond_t hg367 hr
                                      refine WO.skip rfl rfl rfl rfl ?_
                                      refine WO.skip rfl rfl rfl rfl ?_
                                      refine WO.skipF rfl rfl rfl rfl ?_
                                      refine WO.skip rfl rfl rfl rfl ?_
                                      refine WO.pickT rfl rfl rfl rfl rfl ?_
                                      refine WO.move rfl rfl rfl rfl ?_
                                      refine WO.skip rfl rfl rfl rfl ?_
                                      refine WO.skip rfl rfl rfl rfl ?_
                                      refine WO.skip rfl rfl rfl rfl ?_
                                      refine WO.skip rfl rfl rfl rfl ?_
                                      refine WO.skip rfl rfl rfl rfl ?_
                                      refine WO.skip rfl rfl rfl rfl ?_
                                      refine WO.skip rfl rfl rfl rfl ?_
                                      refine WO.skip rfl rfl rfl rfl ?_
                                      refine WO.skipF rfl rfl rfl rfl ?_
                                      refine WO.skipF rfl rfl rfl rfl ?_
                                      refine WO.skip rfl rfl rfl rfl ?_
                                      refine WO.pickT rfl rfl rfl rfl rfl ?_
                                      refine WO.done ?_
                                      refine WA.of ?_
                                      refine WA.done (by kernel_rfl) ?_
                                      refine At.seq_at ?_
                                      exact fun a w hc hs => ⟨true, hr, (hc.keep (hc.keep (hc.keep (hc.keep (hc.keep (hc.keep hc.nil (t := 199) rfl) (t := 10) rfl) (t := 9) rfl) (t := 7) rfl) (t := 2) rfl) (t := 1) rfl), hs⟩
                                    · have hr := cond_f hg367 hr
                                      refine WO.move rfl rfl rfl rfl ?_
                                      refine WO.move rfl rfl rfl rfl ?_
                                      obtain ⟨x368, hx369, hr⟩ := bind_some' hr
                                      refine WO.call rfl rfl rfl rfl rfl cl_16 (CallsRet.lay0 3 7 [0, 1] [9, 5, 6, 2, 3, 4, 7, 8] (by decide) (Mem.add (Mem.add F w237) w339) ([(b26, row [.int .i64 v351.s.Layers, .int .i64 v351.s.Width, .int .i64 v351.s.Heads, .int .i64 v351.s.Inner, .int .i64 v351.s.Vocab, .int .i64 v351.s.Places, .int .i64 v351.room, .slice a352 v351.row.length c353, .map (some b357)] 57)] :: p354 :: p358 :: χ :: p343 :: p348 :: [(b336, row [.int .i64 x328.Kind, .int .i64 x328.R.ID, .int .i64 x328.R.Most, .slice a333 x328.R.Prompt.length c334] 39)] :: [(b49, row [.int .i64 v340.S.Layers, .int .i64 v340.S.Width, .int .i64 v340.S.Heads, .int .i64 v340.S.Inner, .int .i64 v340.S.Vocab, .int .i64 v340.S.Places, .int .i64 v340.Room, .slice a341 v340.L.length c342, .slice a346 v340.Ids.length c347] 35)] :: Φ) rfl rfl (admit_Desk_Len_vvvvvvvom_ok (F := (Mem.add (Mem.add F w237) w339)) ho355 (OwnM.re (G := (Mem.add (Mem.add F w237) w339)) (constV1 const_bool) hm359) hx369 (χ :: p343 :: p348 :: [(b336, row [.int .i64 x328.Kind, .int .i64 x328.R.ID, .int .i64 x328.R.Most, .slice a333 x328.R.Prompt.length c334] 39)] :: [(b49, row [.int .i64 v340.S.Layers, .int .i64 v340.S.Width, .int .i64 v340.S.Heads, .int .i64 v340.S.Inner, .int .i64 v340.S.Vocab, .int .i64 v340.S.Places, .int .i64 v340.Room, .slice a341 v340.L.length c342, .slice a346 v340.Ids.length c347] 35)] :: Φ))) ?_
                                      rintro _ _ ⟨rfl, hs370⟩
                                      have hs370 := (hs370.arrange 2 8 [0, 1, 5] [6, 7, 3, 4, 8, 9, 2] (by decide))
                                      refine ⟨(Mem.add (Mem.add (Mem.add F χ) w237) w339), (p343 :: p348 :: p354 :: p358 :: [(b336, row [.int .i64 x328.Kind, .int .i64 x328.R.ID, .int .i64 x328.R.Most, .slice a333 x328.R.Prompt.length c334] 39)] :: [(b49, row [.int .i64 v340.S.Layers, .int .i64 v340.S.Width, .int .i64 v340.S.Heads, .int .i64 v340.S.Inner, .int .i64 v340.S.Vocab, .int .i64 v340.S.Places, .int .i64 v340.Room, .slice a341 v340.L.length c342, .slice a346 v340.Ids.length c347] 35)] :: [(b26, row [.int .i64 v351.s.Layers, .int .i64 v351.s.Width, .int .i64 v351.s.Heads, .int .i64 v351.s.Inner, .int .i64 v351.s.Vocab, .int .i64 v351.s.Places, .int .i64 v351.room, .slice a352 v351.row.length c353, .map (some b357)] 57)] :: Φ), hs370, (hs370.arrange 3 7 [0, 1, 2] [7] (by decide)), ?_⟩
                                      refine WO.bin rfl rfl rfl rfl rfl rfl ?_
                                      refine WO.pickF rfl rfl rfl rfl rfl ?_
                                      refine WO.move rfl rfl rfl rfl ?_
                                      refine WO.split (t := 187) rfl (fun hg371 => ?_) (fun hg371 => ?_)
                                      · have hr := cond_t hg371 hr
                                        refine WO.skip rfl rfl rfl rfl ?_
                                        refine WO.skip rfl rfl rfl rfl ?_
                                        refine WO.skip rfl rfl rfl rfl ?_
                                        refine WO.skip rfl rfl rfl rfl ?_
                                        refine WO.skip rfl rfl rfl rfl ?_
                                        refine WO.skip rfl rfl rfl rfl ?_
                                        refine WO.skip rfl rfl rfl rfl ?_
                                        refine WO.skip rfl rfl rfl rfl ?_
                                        refine WO.skipF rfl rfl rfl rfl ?_
                                        refine WO.skipF rfl rfl rfl rfl ?_
                                        refine WO.skip rfl rfl rfl rfl ?_
                                        refine WO.pickT rfl rfl rfl rfl rfl ?_
                                        refine WO.done ?_
                                        refine WA.of ?_
                                        refine WA.done (by kernel_rfl) ?_
                                        refine At.seq_at ?_
                                        exact fun a w hc hs => ⟨true, hr, (hc.keep (hc.keep (hc.keep (hc.keep (hc.keep (hc.keep hc.nil (t := 199) rfl) (t := 10) rfl) (t := 9) rfl) (t := 7) rfl) (t := 2) rfl) (t := 1) rfl), hs⟩
                                      · have hr := cond_f hg371 hr
                                        refine WO.move rfl rfl rfl rfl ?_
                                        refine WO.fieldAddr 1 rfl rfl rfl rfl fl_39_1 ?_
                                        refine WO.fieldAddr 0 rfl rfl rfl rfl fl_37_0 ?_
                                        refine WO.loadY 0 rfl rfl rfl rfl sc_3 rfl rfl ?_
                                        refine WO.move rfl rfl rfl rfl ?_
                                        refine WO.fieldAddr 1 rfl rfl rfl rfl fl_39_1 ?_
                                        refine WO.fieldAddr 0 rfl rfl rfl rfl fl_37_0 ?_
                                        refine WO.loadY 0 rfl rfl rfl rfl sc_3 rfl rfl ?_
                                        obtain ⟨x372, hx373, hr⟩ := bind_some' hr
                                        refine WO.call rfl rfl rfl rfl rfl cl_17 (CallsRet.lay0 3 7 [0, 1] [9, 5, 6, 2, 3, 4, 7, 8] (by decide) (Mem.add (Mem.add F w237) w339) ([(b26, row [.int .i64 v351.s.Layers, .int .i64 v351.s.Width, .int .i64 v351.s.Heads, .int .i64 v351.s.Inner, .int .i64 v351.s.Vocab, .int .i64 v351.s.Places, .int .i64 v351.room, .slice a352 v351.row.length c353, .map (some b357)] 57)] :: p354 :: p358 :: χ :: p343 :: p348 :: [(b336, row [.int .i64 x328.Kind, .int .i64 x328.R.ID, .int .i64 x328.R.Most, .slice a333 x328.R.Prompt.length c334] 39)] :: [(b49, row [.int .i64 v340.S.Layers, .int .i64 v340.S.Width, .int .i64 v340.S.Heads, .int .i64 v340.S.Inner, .int .i64 v340.S.Vocab, .int .i64 v340.S.Places, .int .i64 v340.Room, .slice a341 v340.L.length c342, .slice a346 v340.Ids.length c347] 35)] :: Φ) rfl rfl (admit_Desk_Took_vvvvvvvom_ok (F := (Mem.add (Mem.add F w237) w339)) ho355 (OwnM.re (G := (Mem.add (Mem.add F w237) w339)) (constV1 const_bool) hm359) hx373 (χ :: p343 :: p348 :: [(b336, row [.int .i64 x328.Kind, .int .i64 x328.R.ID, .int .i64 x328.R.Most, .slice a333 x328.R.Prompt.length c334] 39)] :: [(b49, row [.int .i64 v340.S.Layers, .int .i64 v340.S.Width, .int .i64 v340.S.Heads, .int .i64 v340.S.Inner, .int .i64 v340.S.Vocab, .int .i64 v340.S.Places, .int .i64 v340.Room, .slice a341 v340.L.length c342, .slice a346 v340.Ids.length c347] 35)] :: Φ))) ?_
                                        rintro _ _ ⟨rfl, hs374⟩
                                        have hs374 := (hs374.arrange 2 8 [0, 1, 5] [6, 7, 3, 4, 8, 9, 2] (by decide))
                                        refine ⟨(Mem.add (Mem.add (Mem.add F χ) w237) w339), (p343 :: p348 :: p354 :: p358 :: [(b336, row [.int .i64 x328.Kind, .int .i64 x328.R.ID, .int .i64 x328.R.Most, .slice a333 x328.R.Prompt.length c334] 39)] :: [(b49, row [.int .i64 v340.S.Layers, .int .i64 v340.S.Width, .int .i64 v340.S.Heads, .int .i64 v340.S.Inner, .int .i64 v340.S.Vocab, .int .i64 v340.S.Places, .int .i64 v340.Room, .slice a341 v340.L.length c342, .slice a346 v340.Ids.length c347] 35)] :: [(b26, row [.int .i64 v351.s.Layers, .int .i64 v351.s.Width, .int .i64 v351.s.Heads, .int .i64 v351.s.Inner, .int .i64 v351.s.Vocab, .int .i64 v351.s.Places, .int .i64 v351.room, .slice a352 v351.row.length c353, .map (some b357)] 57)] :: Φ), hs374, (hs374.arrange 3 7 [0, 1, 2] [7] (by decide)), ?_⟩
                                        obtain ⟨x375, hx376, hr⟩ := bind_some' hr
                                        refine WO.call rfl rfl rfl rfl rfl cl_18 (CallsRet.lay0 3 7 [0, 1] [8, 3, 4, 2, 5, 6, 7, 9] (by decide) (Mem.add (Mem.add F w237) w339) ([(b49, row [.int .i64 v340.S.Layers, .int .i64 v340.S.Width, .int .i64 v340.S.Heads, .int .i64 v340.S.Inner, .int .i64 v340.S.Vocab, .int .i64 v340.S.Places, .int .i64 v340.Room, .slice a341 v340.L.length c342, .slice a346 v340.Ids.length c347] 35)] :: p343 :: p348 :: χ :: p354 :: p358 :: [(b336, row [.int .i64 x328.Kind, .int .i64 x328.R.ID, .int .i64 x328.R.Most, .slice a333 x328.R.Prompt.length c334] 39)] :: [(b26, row [.int .i64 v351.s.Layers, .int .i64 v351.s.Width, .int .i64 v351.s.Heads, .int .i64 v351.s.Inner, .int .i64 v351.s.Vocab, .int .i64 v351.s.Places, .int .i64 v351.room, .slice a352 v351.row.length c353, .map (some b357)] 57)] :: Φ) rfl rfl (ref21_Desk_Took_vvvvvvvoo_ok (F := (Mem.add (Mem.add F w237) w339)) ho344 (OwnL.re (G := (Mem.add (Mem.add F w237) w339)) (const_int _) ho349) hx376 (χ :: p354 :: p358 :: [(b336, row [.int .i64 x328.Kind, .int .i64 x328.R.ID, .int .i64 x328.R.Most, .slice a333 x328.R.Prompt.length c334] 39)] :: [(b26, row [.int .i64 v351.s.Layers, .int .i64 v351.s.Width, .int .i64 v351.s.Heads, .int .i64 v351.s.Inner, .int .i64 v351.s.Vocab, .int .i64 v351.s.Places, .int .i64 v351.room, .slice a352 v351.row.length c353, .map (some b357)] 57)] :: Φ))) ?_
                                        rintro _ _ ⟨rfl, hs377⟩
                                        have hs377 := (hs377.arrange 2 8 [0, 1, 5] [3, 4, 6, 7, 8, 2, 9] (by decide))
                                        refine ⟨(Mem.add (Mem.add (Mem.add F χ) w237) w339), (p343 :: p348 :: p354 :: p358 :: [(b336, row [.int .i64 x328.Kind, .int .i64 x328.R.ID, .int .i64 x328.R.Most, .slice a333 x328.R.Prompt.length c334] 39)] :: [(b49, row [.int .i64 v340.S.Layers, .int .i64 v340.S.Width, .int .i64 v340.S.Heads, .int .i64 v340.S.Inner, .int .i64 v340.S.Vocab, .int .i64 v340.S.Places, .int .i64 v340.Room, .slice a341 v340.L.length c342, .slice a346 v340.Ids.length c347] 35)] :: [(b26, row [.int .i64 v351.s.Layers, .int .i64 v351.s.Width, .int .i64 v351.s.Heads, .int .i64 v351.s.Inner, .int .i64 v351.s.Vocab, .int .i64 v351.s.Places, .int .i64 v351.room, .slice a352 v351.row.length c353, .map (some b357)] 57)] :: Φ), hs377, (hs377.arrange 3 7 [0, 1, 2] [7] (by decide)), ?_⟩
                                        refine WO.neB rfl rfl rfl rfl rfl Try.underlying4 ?_
                                        refine WO.pickF rfl rfl rfl rfl rfl ?_
                                        refine WO.done ?_
                                        refine WA.of ?_
                                        refine WA.done (by kernel_rfl) ?_
                                        refine At.seq_at ?_
                                        exact fun a w hc hs => ⟨(x372 != x375), hr, (hc.keep (hc.keep (hc.keep (hc.keep (hc.keep (hc.keep hc.nil (t := 199) rfl) (t := 10) rfl) (t := 9) rfl) (t := 7) rfl) (t := 2) rfl) (t := 1) rfl), hs⟩
                                · rintro a w ⟨v362, hr, hc, hs⟩
                                  refine WC.use hc hs ?_
                                  clear hc hs
                                  unfold law21_AdmitActs_k18 at hr
                                  refine WC.cond rfl (fun hb363 => ?_) (fun hb363 => ?_)
                                  · have hr := cond_t hb363 hr
                                    refine WC.then ?_
                                    refine WC.region [(0, true)] rfl ?_
                                    refine WO.assign rfl rfl rfl rfl ?_
                                    refine WO.done ?_
                                    refine At.seq_wc ?_
                                    refine WC.ret ?_
                                    refine At.block_ret ?_
                                    refine At.seq_ret ?_
                                    refine At.round_ret hr (fun hy => ?_)
                                    subst hy
                                    have hr := hk15
                                    refine At.block_ret ?_
                                    refine At.seq_ret ?_
                                    refine At.seq_ret ?_
                                    obtain rfl := Option.some.inj hr
                                    exact At.ret (fun a w hc hs => (resVs_cons (hc.res rfl) resVs_nil)) (fun w hs => ⟨rfl, (hs.arrange 3 7 [2] [] (by decide))⟩)
                                  · have hr := cond_f hb363 hr
                                    refine WC.skip ?_
                                    refine At.block_normal ?_
                                    refine At.seq_at ?_
                                    exact fun a w hc hs => ⟨v340, v351, a341, c342, p343, a346, c347, p348, a352, c353, p354, b357, p358, (List.flatten [w339]), hr, (hc.keep (hc.keep (hc.keep (hc.keep (hc.keep hc.nil (t := 10) rfl) (t := 9) rfl) (t := 7) rfl) (t := 2) rfl) (t := 1) rfl), ((hs.arrange 3 7 [0, 1, 2] [3, 4, 5, 6, 8, 9] (by decide)).gather 1), (ho344.mono mono_api_Request (Mem.le_gather (Mem.add (Mem.add F w237) w339) 1)), (OwnL.re (G := F) (const_int _) ho349), (ho355.mono mono_api_Request (Mem.le_gather (Mem.add (Mem.add F w237) w339) 1)), (OwnM.re (G := F) (constV1 const_bool) hm359)⟩
                          · rintro a w ⟨v307, v318, a308, c309, p310, a313, c314, p315, a319, c320, p321, b324, p325, w306, hr, hc, hs, ho311, ho316, ho322, hm326⟩
                            refine WC.use hc hs ?_
                            clear hc hs
                            unfold law21_AdmitActs_k16 at hr
                            refine WC.region [(0, true), (1, true), (2, true)] rfl ?_
                            refine WO.move rfl rfl rfl rfl ?_
                            refine WO.bin rfl rfl rfl rfl rfl rfl ?_
                            refine WO.assign rfl rfl rfl rfl ?_
                            refine WO.done ?_
                            refine At.round_next hr ?_
                            exact fun a w hc hs => ⟨a308, c309, p310, a313, c314, p315, a319, c320, p321, b324, p325, (List.flatten [w306, w237]), (hc.keep (hc.keep (hc.keep (hc.keep (hc.keep hc.nil (t := 10) rfl) (t := 9) rfl) (t := 7) rfl) (t := 2) rfl) (t := 1) rfl), (hs.gather 2), (ho311.mono mono_api_Request (Mem.le_gather (Mem.add (Mem.add F w237) w306) 2)), (OwnL.re (G := F) (const_int _) ho316), (ho322.mono mono_api_Request (Mem.le_gather (Mem.add (Mem.add F w237) w306) 2)), (OwnM.re (G := F) (constV1 const_bool) hm326)⟩
                        · have hr := cond_f hb305 hr
                          refine WC.exit ?_
                          refine At.seq_exit ?_
                          refine At.round_exit hr (fun hy => ?_)
                          refine At.exit_block ?_
                          refine At.seq_at ?_
                          exact fun a w hc hs => ⟨v239, v250, a240, c241, p242, a245, c246, p247, a251, c252, p253, b256, p257, (List.flatten [w237]), hy, (hc.keep (hc.keep hc.nil (t := 9) rfl) (t := 7) rfl), (hs.gather 1), (ho243.mono mono_api_Request (Mem.le_gather (Mem.add F w237) 1)), (OwnL.re (G := F) (const_int _) ho248), (ho254.mono mono_api_Request (Mem.le_gather (Mem.add F w237) 1)), (OwnM.re (G := F) (constV1 const_bool) hm258)⟩
                    · rintro a w ⟨v284, v295, a285, c286, p287, a290, c291, p292, a296, c297, p298, b301, p302, w283, rfl, hc, hs, ho288, ho293, ho299, hm303⟩
                      refine At.use hc hs ?_
                      clear hc hs
                      (try dsimp only at hk15)
                      have hr := hk15
                      refine At.seq_at ?_
                      exact fun a w hc hs => ⟨v284, v295, a285, c286, p287, a290, c291, p292, a296, c297, p298, b301, p302, (List.flatten [w283]), hr, (hc.keep (hc.keep hc.nil (t := 9) rfl) (t := 7) rfl), (hs.gather 1), (ho288.mono mono_api_Request (Mem.le_gather (Mem.add F w283) 1)), (OwnL.re (G := F) (const_int _) ho293), (ho299.mono mono_api_Request (Mem.le_gather (Mem.add F w283) 1)), (OwnM.re (G := F) (constV1 const_bool) hm303)⟩
                  · rintro a w ⟨v52, v63, a53, c54, p55, a58, c59, p60, a64, c65, p66, b69, p70, w51, hr, hc, hs, ho56, ho61, ho67, hm71⟩
                    refine WC.use hc hs ?_
                    clear hc hs
                    unfold law21_AdmitActs_k10 at hr
                    obtain ⟨xl12, hl12, hk12⟩ := bind_some' hr
                    refine WC.seq (fun a w => ∃ (v141 : S_ref21_Desk) (v152 : S_admit_Desk) (a142 : Option Addr) (c143 : Nat) (p144 : List Chunk) (a147 : Option Addr) (c148 : Nat) (p149 : List Chunk) (a153 : Option Addr) (c154 : Nat) (p155 : List Chunk) (b158 : Nat) (p159 : List Chunk) (w140 : List Chunk), .brk (v141, v152) = xl12 ∧ Ctx 227 [(9, .pointer (some ⟨b49, 0, none⟩))] a ∧ Sat (Mem.add (Mem.add (Mem.add F χ) w51) w140) (p144 :: p149 :: p155 :: p159 :: [(b49, row [.int .i64 v141.S.Layers, .int .i64 v141.S.Width, .int .i64 v141.S.Heads, .int .i64 v141.S.Inner, .int .i64 v141.S.Vocab, .int .i64 v141.S.Places, .int .i64 v141.Room, .slice a142 v141.L.length c143, .slice a147 v141.Ids.length c148] 35)] :: [(b26, row [.int .i64 v152.s.Layers, .int .i64 v152.s.Width, .int .i64 v152.s.Heads, .int .i64 v152.s.Inner, .int .i64 v152.s.Vocab, .int .i64 v152.s.Places, .int .i64 v152.room, .slice a153 v152.row.length c154, .map (some b158)] 57)] :: Φ) w ∧ OwnL 3 R_api_Request (Mem.add (Mem.add F w51) w140) 37 a142 c143 v141.L p144 ∧ OwnL 1 (RInt .i64) F 3 a147 c148 v141.Ids p149 ∧ OwnL 3 R_api_Request (Mem.add F w51) 37 a153 c154 v152.row p155 ∧ OwnM (fun x : Int => Value.int .i64 x) (RV1 RBool) F b158 v152.took p159) ?_ ?_
                    · refine WC.block ?_
                      refine WC.loop (fun ⟨v97, v108⟩ a w => ∃ (a98 : Option Addr) (c99 : Nat) (p100 : List Chunk) (a103 : Option Addr) (c104 : Nat) (p105 : List Chunk) (a109 : Option Addr) (c110 : Nat) (p111 : List Chunk) (b114 : Nat) (p115 : List Chunk) (w96 : List Chunk), Ctx 227 [(7, .pointer (some ⟨b26, 0, none⟩)), (9, .pointer (some ⟨b49, 0, none⟩))] a ∧ Sat (Mem.add (Mem.add (Mem.add F χ) w51) w96) (p100 :: p105 :: p111 :: p115 :: [(b49, row [.int .i64 v97.S.Layers, .int .i64 v97.S.Width, .int .i64 v97.S.Heads, .int .i64 v97.S.Inner, .int .i64 v97.S.Vocab, .int .i64 v97.S.Places, .int .i64 v97.Room, .slice a98 v97.L.length c99, .slice a103 v97.Ids.length c104] 35)] :: [(b26, row [.int .i64 v108.s.Layers, .int .i64 v108.s.Width, .int .i64 v108.s.Heads, .int .i64 v108.s.Inner, .int .i64 v108.s.Vocab, .int .i64 v108.s.Places, .int .i64 v108.room, .slice a109 v108.row.length c110, .map (some b114)] 57)] :: Φ) w ∧ OwnL 3 R_api_Request (Mem.add (Mem.add F w51) w96) 37 a98 c99 v97.L p100 ∧ OwnL 1 (RInt .i64) F 3 a103 c104 v97.Ids p105 ∧ OwnL 3 R_api_Request (Mem.add F w51) 37 a109 c110 v108.row p111 ∧ OwnM (fun x : Int => Value.int .i64 x) (RV1 RBool) F b114 v108.took p115) hl12 ?_ ?_
                      · exact fun a w hc hs => ⟨a53, c54, p55, a58, c59, p60, a64, c65, p66, b69, p70, (List.flatten []), (hc.keep (hc.keep hc.nil (t := 9) rfl) (t := 7) rfl), (hs.gather 0), (ho56.mono mono_api_Request (Mem.le_gather (Mem.add F w51) 0)), (OwnL.re (G := F) (const_int _) ho61), ho67, (OwnM.re (G := F) (constV1 const_bool) hm71)⟩
                      · rintro ⟨v97, v108⟩ r12 hr a w ⟨a98, c99, p100, a103, c104, p105, a109, c110, p111, b114, p115, w96, hc, hs, ho101, ho106, ho112, hm116⟩
                        refine WC.use hc hs ?_
                        clear hc hs
                        (try dsimp only at hr)
                        unfold law21_AdmitActs_b11 at hr
                        refine WC.then ?_
                        refine WC.then ?_
                        refine WC.region [(0, true), (1, false), (2, true)] rfl ?_
                        refine WO.move rfl rfl rfl rfl ?_
                        obtain ⟨x162, hx163, hr⟩ := bind_some' hr
                        refine WO.call rfl rfl rfl rfl rfl cl_16 (CallsRet.lay0 3 6 [1] [8, 5, 6, 0, 2, 3, 4, 7] (by decide) (Mem.add F w51) ([(b26, row [.int .i64 v108.s.Layers, .int .i64 v108.s.Width, .int .i64 v108.s.Heads, .int .i64 v108.s.Inner, .int .i64 v108.s.Vocab, .int .i64 v108.s.Places, .int .i64 v108.room, .slice a109 v108.row.length c110, .map (some b114)] 57)] :: p111 :: p115 :: w96 :: χ :: p100 :: p105 :: [(b49, row [.int .i64 v97.S.Layers, .int .i64 v97.S.Width, .int .i64 v97.S.Heads, .int .i64 v97.S.Inner, .int .i64 v97.S.Vocab, .int .i64 v97.S.Places, .int .i64 v97.Room, .slice a98 v97.L.length c99, .slice a103 v97.Ids.length c104] 35)] :: Φ) rfl rfl (admit_Desk_Len_vvvvvvvom_ok (F := (Mem.add F w51)) ho112 (OwnM.re (G := (Mem.add F w51)) (constV1 const_bool) hm116) hx163 (w96 :: χ :: p100 :: p105 :: [(b49, row [.int .i64 v97.S.Layers, .int .i64 v97.S.Width, .int .i64 v97.S.Heads, .int .i64 v97.S.Inner, .int .i64 v97.S.Vocab, .int .i64 v97.S.Places, .int .i64 v97.Room, .slice a98 v97.L.length c99, .slice a103 v97.Ids.length c104] 35)] :: Φ))) ?_
                        rintro _ _ ⟨rfl, hs164⟩
                        have hs164 := (hs164.arrange 1 8 [4, 0, 5] [6, 7, 2, 3, 8, 1] (by decide))
                        refine ⟨(Mem.add (Mem.add (Mem.add F χ) w51) w96), (p100 :: p105 :: p111 :: p115 :: [(b49, row [.int .i64 v97.S.Layers, .int .i64 v97.S.Width, .int .i64 v97.S.Heads, .int .i64 v97.S.Inner, .int .i64 v97.S.Vocab, .int .i64 v97.S.Places, .int .i64 v97.Room, .slice a98 v97.L.length c99, .slice a103 v97.Ids.length c104] 35)] :: [(b26, row [.int .i64 v108.s.Layers, .int .i64 v108.s.Width, .int .i64 v108.s.Heads, .int .i64 v108.s.Inner, .int .i64 v108.s.Vocab, .int .i64 v108.s.Places, .int .i64 v108.room, .slice a109 v108.row.length c110, .map (some b114)] 57)] :: Φ), hs164, trivial, ?_⟩
                        refine WO.bin rfl rfl rfl rfl rfl rfl ?_
                        refine WO.done ?_
                        refine At.seq_wc ?_
                        refine WC.cond rfl (fun hb165 => ?_) (fun hb165 => ?_)
                        · have hr := cond_t hb165 hr
                          refine WC.skip ?_
                          refine At.seq_wc ?_
                          refine WC.block ?_
                          refine WC.then ?_
                          refine WC.region [(0, true), (1, false), (2, true), (3, true), (4, true), (5, false), (6, false), (7, true)] rfl ?_
                          refine WO.move rfl rfl rfl rfl ?_
                          obtain ⟨x166, hx167, hr⟩ := bind_some' hr
                          refine WO.call rfl rfl rfl rfl rfl cl_9 (CallsRet.lay0 3 6 [1] [8, 5, 6, 0, 2, 3, 4, 7] (by decide) (Mem.add F w51) ([(b26, row [.int .i64 v108.s.Layers, .int .i64 v108.s.Width, .int .i64 v108.s.Heads, .int .i64 v108.s.Inner, .int .i64 v108.s.Vocab, .int .i64 v108.s.Places, .int .i64 v108.room, .slice a109 v108.row.length c110, .map (some b114)] 57)] :: p111 :: p115 :: w96 :: χ :: p100 :: p105 :: [(b49, row [.int .i64 v97.S.Layers, .int .i64 v97.S.Width, .int .i64 v97.S.Heads, .int .i64 v97.S.Inner, .int .i64 v97.S.Vocab, .int .i64 v97.S.Places, .int .i64 v97.Room, .slice a98 v97.L.length c99, .slice a103 v97.Ids.length c104] 35)] :: Φ) rfl rfl (admit_Desk_Take_vvvvvvvom_ok (F := (Mem.add F w51)) ho112 (OwnM.re (G := (Mem.add F w51)) (constV1 const_bool) hm116) hx167 (w96 :: χ :: p100 :: p105 :: [(b49, row [.int .i64 v97.S.Layers, .int .i64 v97.S.Width, .int .i64 v97.S.Heads, .int .i64 v97.S.Inner, .int .i64 v97.S.Vocab, .int .i64 v97.S.Places, .int .i64 v97.Room, .slice a98 v97.L.length c99, .slice a103 v97.Ids.length c104] 35)] :: Φ))) ?_
                          rintro _ _ ⟨cs168, a173, c174, p176, b178, p179, rfl, hs182, ⟨a170, c171, rfl, h172⟩, h175, hm181⟩
                          have hs182 := (hs182.arrange 1 8 [4, 0, 5] [2, 3, 6, 7, 8, 1] (by decide))
                          refine ⟨(Mem.add (Mem.add (Mem.add F χ) w51) w96), (p176 :: p179 :: p100 :: p105 :: [(b49, row [.int .i64 v97.S.Layers, .int .i64 v97.S.Width, .int .i64 v97.S.Heads, .int .i64 v97.S.Inner, .int .i64 v97.S.Vocab, .int .i64 v97.S.Places, .int .i64 v97.Room, .slice a98 v97.L.length c99, .slice a103 v97.Ids.length c104] 35)] :: [(b26, row [.int .i64 x166.2.2.s.Layers, .int .i64 x166.2.2.s.Width, .int .i64 x166.2.2.s.Heads, .int .i64 x166.2.2.s.Inner, .int .i64 x166.2.2.s.Vocab, .int .i64 x166.2.2.s.Places, .int .i64 x166.2.2.room, .slice a173 x166.2.2.row.length c174, .map (some b178)] 57)] :: Φ), hs182, trivial, ?_⟩
                          refine WO.move rfl rfl rfl rfl ?_
                          refine WO.extract rfl rfl rfl rfl rfl ?_
                          refine WO.extract rfl rfl rfl rfl rfl ?_
                          refine WO.alloc (.agg #[.int .i64 0, .int .i64 0, .slice none 0 0]) rfl rfl rfl zb_37 rfl (fun _ _ _ => trivial) (fun b183 => ?_)
                          refine WO.storeA 0 3 rfl rfl rfl rfl sz_37 rfl rfl rfl rfl (fun _ _ => trivial) ?_
                          refine WO.assign rfl rfl rfl rfl ?_
                          refine WO.done ?_
                          refine At.seq_wc ?_
                          refine WC.then ?_
                          refine WC.region [(0, true), (1, false), (2, true), (3, true), (4, true), (5, false), (6, false), (7, true)] rfl ?_
                          refine WO.move rfl rfl rfl rfl ?_
                          obtain ⟨x185, hx186, hr⟩ := bind_some' hr
                          refine WO.call rfl rfl rfl rfl rfl cl_10 (CallsRet.lay0 3 7 [0, 1] [8, 6, 7, 2, 3, 4, 5, 9] (by decide) (Mem.add (Mem.add F w51) w96) ([(b49, row [.int .i64 v97.S.Layers, .int .i64 v97.S.Width, .int .i64 v97.S.Heads, .int .i64 v97.S.Inner, .int .i64 v97.S.Vocab, .int .i64 v97.S.Places, .int .i64 v97.Room, .slice a98 v97.L.length c99, .slice a103 v97.Ids.length c104] 35)] :: p100 :: p105 :: χ :: [(b183, row [.int .i64 x166.1.ID, .int .i64 x166.1.Most, .slice a170 x166.1.Prompt.length c171] 37)] :: p176 :: p179 :: [(b26, row [.int .i64 x166.2.2.s.Layers, .int .i64 x166.2.2.s.Width, .int .i64 x166.2.2.s.Heads, .int .i64 x166.2.2.s.Inner, .int .i64 x166.2.2.s.Vocab, .int .i64 x166.2.2.s.Places, .int .i64 x166.2.2.room, .slice a173 x166.2.2.row.length c174, .map (some b178)] 57)] :: Φ) rfl rfl (ref21_Desk_Take_vvvvvvvoo_ok (F := (Mem.add (Mem.add F w51) w96)) ho101 (OwnL.re (G := (Mem.add (Mem.add F w51) w96)) (const_int _) ho106) hx186 (χ :: [(b183, row [.int .i64 x166.1.ID, .int .i64 x166.1.Most, .slice a170 x166.1.Prompt.length c171] 37)] :: p176 :: p179 :: [(b26, row [.int .i64 x166.2.2.s.Layers, .int .i64 x166.2.2.s.Width, .int .i64 x166.2.2.s.Heads, .int .i64 x166.2.2.s.Inner, .int .i64 x166.2.2.s.Vocab, .int .i64 x166.2.2.s.Places, .int .i64 x166.2.2.room, .slice a173 x166.2.2.row.length c174, .map (some b178)] 57)] :: Φ))) ?_
                          rintro _ _ ⟨q187, cs188, a193, c194, p196, a198, c199, p201, rfl, hs203, ⟨a190, c191, rfl, h192⟩, h195, h200⟩
                          have hs203 := (hs203.arrange 3 8 [0, 1, 2, 6] [4, 5, 7, 8, 9, 3, 10] (by decide))
                          refine ⟨(Mem.add (Mem.add (Mem.add (Mem.add F χ) w51) w96) q187), (p196 :: p201 :: [(b183, row [.int .i64 x166.1.ID, .int .i64 x166.1.Most, .slice a170 x166.1.Prompt.length c171] 37)] :: p176 :: p179 :: [(b49, row [.int .i64 x185.2.2.S.Layers, .int .i64 x185.2.2.S.Width, .int .i64 x185.2.2.S.Heads, .int .i64 x185.2.2.S.Inner, .int .i64 x185.2.2.S.Vocab, .int .i64 x185.2.2.S.Places, .int .i64 x185.2.2.Room, .slice a193 x185.2.2.L.length c194, .slice a198 x185.2.2.Ids.length c199] 35)] :: [(b26, row [.int .i64 x166.2.2.s.Layers, .int .i64 x166.2.2.s.Width, .int .i64 x166.2.2.s.Heads, .int .i64 x166.2.2.s.Inner, .int .i64 x166.2.2.s.Vocab, .int .i64 x166.2.2.s.Places, .int .i64 x166.2.2.room, .slice a173 x166.2.2.row.length c174, .map (some b178)] 57)] :: Φ), hs203, trivial, ?_⟩
                          refine WO.move rfl rfl rfl rfl ?_
                          refine WO.extract rfl rfl rfl rfl rfl ?_
                          refine WO.extract rfl rfl rfl rfl rfl ?_
                          refine WO.alloc (.agg #[.int .i64 0, .int .i64 0, .slice none 0 0]) rfl rfl rfl zb_37 rfl (fun _ _ _ => trivial) (fun b204 => ?_)
                          refine WO.storeA 0 3 rfl rfl rfl rfl sz_37 rfl rfl rfl rfl (fun _ _ => trivial) ?_
                          refine WO.assign rfl rfl rfl rfl ?_
                          refine WO.done ?_
                          refine At.seq_wc ?_
                          refine WC.seq (fun a w => ∃ (v207 : Bool), law21_AdmitActs_k13 x166 x185 v207 = some r12 ∧ Ctx 227 [(7, .pointer (some ⟨b26, 0, none⟩)), (9, .pointer (some ⟨b49, 0, none⟩)), (220, .bool v207)] a ∧ Sat (Mem.add (Mem.add (Mem.add (Mem.add F χ) w51) w96) q187) ([(b204, row [.int .i64 x185.1.ID, .int .i64 x185.1.Most, .slice a190 x185.1.Prompt.length c191] 37)] :: p196 :: p201 :: [(b183, row [.int .i64 x166.1.ID, .int .i64 x166.1.Most, .slice a170 x166.1.Prompt.length c171] 37)] :: p176 :: p179 :: [(b49, row [.int .i64 x185.2.2.S.Layers, .int .i64 x185.2.2.S.Width, .int .i64 x185.2.2.S.Heads, .int .i64 x185.2.2.S.Inner, .int .i64 x185.2.2.S.Vocab, .int .i64 x185.2.2.S.Places, .int .i64 x185.2.2.Room, .slice a193 x185.2.2.L.length c194, .slice a198 x185.2.2.Ids.length c199] 35)] :: [(b26, row [.int .i64 x166.2.2.s.Layers, .int .i64 x166.2.2.s.Width, .int .i64 x166.2.2.s.Heads, .int .i64 x166.2.2.s.Inner, .int .i64 x166.2.2.s.Vocab, .int .i64 x166.2.2.s.Places, .int .i64 x166.2.2.room, .slice a173 x166.2.2.row.length c174, .map (some b178)] 57)] :: Φ) w) ?_ ?_
                          · refine WC.region [(0, true), (1, true), (2, true), (3, false), (4, false), (5, false), (6, true), (7, true)] rfl ?_
                            refine WO.move rfl rfl rfl rfl ?_
                            refine WO.un rfl rfl rfl rfl rfl ?_
                            refine WO.move rfl rfl rfl rfl ?_
                            refine WO.split (t := 215) rfl (fun hg209 => ?_) (fun hg209 => ?_)
                            · have hr := cond_t hg209 hr
                              refine WO.skipF rfl rfl rfl rfl ?_
                              refine WO.skipF rfl rfl rfl rfl ?_
                              refine WO.skipF rfl rfl rfl rfl ?_
                              refine WO.skip rfl rfl rfl rfl ?_
                              refine WO.pickT rfl rfl rfl rfl rfl ?_
                              refine WO.done ?_
                              refine At.seq_at ?_
                              exact fun a w hc hs => ⟨true, hr, (hc.keep (hc.keep (hc.keep hc.nil (t := 220) rfl) (t := 9) rfl) (t := 7) rfl), hs⟩
                            · have hr := cond_f hg209 hr
                              refine WO.loadA 3 3 rfl rfl rfl rfl ag_37 rfl rfl rfl ?_
                              refine WO.loadA 0 3 rfl rfl rfl rfl ag_37 rfl rfl rfl ?_
                              obtain ⟨x210, hx211, hr⟩ := bind_some' hr
                              refine WO.call rfl rfl rfl rfl rfl cl_11 (CallsRet.lay 4 8 3 [0, 1, 2] [3, 4, 5, 6, 7, 8, 9, 10, 11] (by decide) (Mem.add F (List.flatten [q187, w96, w51])) (χ :: [(b204, row [.int .i64 x185.1.ID, .int .i64 x185.1.Most, .slice a190 x185.1.Prompt.length c191] 37)] :: p196 :: p201 :: [(b183, row [.int .i64 x166.1.ID, .int .i64 x166.1.Most, .slice a170 x166.1.Prompt.length c171] 37)] :: p176 :: p179 :: [(b49, row [.int .i64 x185.2.2.S.Layers, .int .i64 x185.2.2.S.Width, .int .i64 x185.2.2.S.Heads, .int .i64 x185.2.2.S.Inner, .int .i64 x185.2.2.S.Vocab, .int .i64 x185.2.2.S.Places, .int .i64 x185.2.2.Room, .slice a193 x185.2.2.L.length c194, .slice a198 x185.2.2.Ids.length c199] 35)] :: [(b26, row [.int .i64 x166.2.2.s.Layers, .int .i64 x166.2.2.s.Width, .int .i64 x166.2.2.s.Heads, .int .i64 x166.2.2.s.Inner, .int .i64 x166.2.2.s.Vocab, .int .i64 x166.2.2.s.Places, .int .i64 x166.2.2.room, .slice a173 x166.2.2.row.length c174, .map (some b178)] 57)] :: Φ) rfl rfl (law21_same_ok (F := F) (χ := (List.flatten [q187, w96, w51])) ⟨_, _, rfl, (h172.mono (mono_int _) (Mem.le.trans (Mem.le_pick (Mem.add (Mem.add (Mem.add F w51) w96) q187) 3 [2] (by decide)) (Mem.le_gather (Mem.add (Mem.add (Mem.add F w51) w96) q187) 3)))⟩ ⟨_, _, rfl, (h192.mono (mono_int _) (Mem.le_gather (Mem.add (Mem.add (Mem.add F w51) w96) q187) 3))⟩ hx211 (χ :: [(b204, row [.int .i64 x185.1.ID, .int .i64 x185.1.Most, .slice a190 x185.1.Prompt.length c191] 37)] :: p196 :: p201 :: [(b183, row [.int .i64 x166.1.ID, .int .i64 x166.1.Most, .slice a170 x166.1.Prompt.length c171] 37)] :: p176 :: p179 :: [(b49, row [.int .i64 x185.2.2.S.Layers, .int .i64 x185.2.2.S.Width, .int .i64 x185.2.2.S.Heads, .int .i64 x185.2.2.S.Inner, .int .i64 x185.2.2.S.Vocab, .int .i64 x185.2.2.S.Places, .int .i64 x185.2.2.Room, .slice a193 x185.2.2.L.length c194, .slice a198 x185.2.2.Ids.length c199] 35)] :: [(b26, row [.int .i64 x166.2.2.s.Layers, .int .i64 x166.2.2.s.Width, .int .i64 x166.2.2.s.Heads, .int .i64 x166.2.2.s.Inner, .int .i64 x166.2.2.s.Vocab, .int .i64 x166.2.2.s.Places, .int .i64 x166.2.2.room, .slice a173 x166.2.2.row.length c174, .map (some b178)] 57)] :: Φ))) ?_
                              rintro _ _ ⟨rfl, hs212⟩
                              have hs212 := Sat.unlay F [q187, w96, w51] hs212
                              have hs212 := (hs212.arrange 3 9 [0, 1, 2, 3] [4, 5, 6, 7, 8, 9, 10, 11] (by decide))
                              refine ⟨(Mem.add (Mem.add (Mem.add (Mem.add F χ) w51) w96) q187), ([(b204, row [.int .i64 x185.1.ID, .int .i64 x185.1.Most, .slice a190 x185.1.Prompt.length c191] 37)] :: p196 :: p201 :: [(b183, row [.int .i64 x166.1.ID, .int .i64 x166.1.Most, .slice a170 x166.1.Prompt.length c171] 37)] :: p176 :: p179 :: [(b49, row [.int .i64 x185.2.2.S.Layers, .int .i64 x185.2.2.S.Width, .int .i64 x185.2.2.S.Heads, .int .i64 x185.2.2.S.Inner, .int .i64 x185.2.2.S.Vocab, .int .i64 x185.2.2.S.Places, .int .i64 x185.2.2.Room, .slice a193 x185.2.2.L.length c194, .slice a198 x185.2.2.Ids.length c199] 35)] :: [(b26, row [.int .i64 x166.2.2.s.Layers, .int .i64 x166.2.2.s.Width, .int .i64 x166.2.2.s.Heads, .int .i64 x166.2.2.s.Inner, .int .i64 x166.2.2.s.Vocab, .int .i64 x166.2.2.s.Places, .int .i64 x166.2.2.room, .slice a173 x166.2.2.row.length c174, .map (some b178)] 57)] :: Φ), hs212, trivial, ?_⟩
                              refine WO.un rfl rfl rfl rfl rfl ?_
                              refine WO.pickF rfl rfl rfl rfl rfl ?_
                              refine WO.done ?_
                              refine At.seq_at ?_
                              exact fun a w hc hs => ⟨(!x210), hr, (hc.keep (hc.keep (hc.keep hc.nil (t := 220) rfl) (t := 9) rfl) (t := 7) rfl), hs⟩
                          · rintro a w ⟨v207, hr, hc, hs⟩
                            refine WC.use hc hs ?_
                            clear hc hs
                            unfold law21_AdmitActs_k13 at hr
                            refine WC.cond rfl (fun hb208 => ?_) (fun hb208 => ?_)
                            · have hr := cond_t hb208 hr
                              refine WC.then ?_
                              refine WC.region [(0, true)] rfl ?_
                              refine WO.assign rfl rfl rfl rfl ?_
                              refine WO.done ?_
                              refine At.seq_wc ?_
                              refine WC.ret ?_
                              refine At.block_ret ?_
                              refine At.round_ret hr (fun hy => ?_)
                              subst hy
                              have hr := hk12
                              refine At.block_ret ?_
                              refine At.seq_ret ?_
                              obtain rfl := Option.some.inj hr
                              exact At.ret (fun a w hc hs => (resVs_cons (hc.res rfl) resVs_nil)) (fun w hs => ⟨rfl, (hs.arrange 4 8 [3] [] (by decide))⟩)
                            · have hr := cond_f hb208 hr
                              refine WC.skip ?_
                              refine At.block_normal ?_
                              refine At.round_next hr ?_
                              exact fun a w hc hs => ⟨a193, c194, p196, a198, c199, p201, a173, c174, p176, b178, p179, (List.flatten [q187, w96]), (hc.keep (hc.keep hc.nil (t := 9) rfl) (t := 7) rfl), ((hs.arrange 4 8 [0, 1, 2, 3] [5, 6, 8, 9, 10, 11] (by decide)).gather 2), (h195.mono mono_api_Request (Mem.le_gather (Mem.add (Mem.add (Mem.add F w51) w96) q187) 2)), (OwnL.re (G := F) (const_int _) h200), h175, (OwnM.re (G := F) (constV1 const_bool) hm181)⟩
                        · have hr := cond_f hb165 hr
                          refine WC.exit ?_
                          refine At.seq_exit ?_
                          refine At.round_exit hr (fun hy => ?_)
                          refine At.exit_block ?_
                          refine At.seq_at ?_
                          exact fun a w hc hs => ⟨v97, v108, a98, c99, p100, a103, c104, p105, a109, c110, p111, b114, p115, (List.flatten [w96]), hy, (hc.keep hc.nil (t := 9) rfl), (hs.gather 1), (ho101.mono mono_api_Request (Mem.le_gather (Mem.add (Mem.add F w51) w96) 1)), (OwnL.re (G := F) (const_int _) ho106), ho112, (OwnM.re (G := F) (constV1 const_bool) hm116)⟩
                    · rintro a w ⟨v141, v152, a142, c143, p144, a147, c148, p149, a153, c154, p155, b158, p159, w140, rfl, hc, hs, ho145, ho150, ho156, hm160⟩
                      refine WC.use hc hs ?_
                      clear hc hs
                      (try dsimp only at hk12)
                      have hr := hk12
                      refine WC.then ?_
                      refine WC.region [(0, true), (1, true), (2, true), (3, false), (4, true), (5, true), (6, true)] rfl ?_
                      refine WO.move rfl rfl rfl rfl ?_
                      refine WO.nilCheck rfl rfl rfl rfl ?_
                      refine WO.fieldAddr 7 rfl rfl rfl rfl fl_35_2 ?_
                      refine WO.load 4 rfl rfl rfl rfl sc_32 rfl rfl ?_
                      refine WO.len rfl rfl rfl rfl Try.underlying32 ?_
                      refine WO.bin rfl rfl rfl rfl rfl rfl ?_
                      refine WO.assign rfl rfl rfl rfl ?_
                      refine WO.done ?_
                      refine At.seq_wc ?_
                      refine WC.ret ?_
                      obtain rfl := Option.some.inj hr
                      exact At.ret (fun a w hc hs => (resVs_cons (hc.res rfl) resVs_nil)) (fun w hs => ⟨rfl, (hs.arrange 3 6 [2] [] (by decide))⟩)
end
end Go.Pel
