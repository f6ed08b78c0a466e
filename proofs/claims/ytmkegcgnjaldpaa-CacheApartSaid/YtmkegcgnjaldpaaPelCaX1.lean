/- Each function: its pure text, and that it comes to it. -/
import Derived.Test.YtmkegcgnjaldpaaPelCaX0
set_option linter.unusedVariables false
set_option maxHeartbeats 2000000
set_option maxRecDepth 20000
namespace Go.Pel
open Go.RowKit Go.Proofs
noncomputable section
/-! peloton/pelotonlaw12.CacheApart -/
def law12_CacheApart_k2  : Option Bool := some false
def law12_CacheApart_k6 (v37 : S_cache_Store) (v43 : Int) : Option Bool := (cache_Store_Len_vm v37).bind fun x44 => some (x44 == v43)
def law12_CacheApart_b7 (v58 : List S_cache_Store) (v64 : Int) (v65 : Int) : Option (((List S_cache_Store) × Int × Int) ⊕ Int) := cond (decide (v65 < 6)) ((getI v58 v65).bind fun x86 => (cache_Store_Len_vm x86).bind fun x108 => some (.inl (v58, (IntKind.wrap .i64 (v64 + x108)), (IntKind.wrap .i64 (v65 + 1))))) (some (.inr v64))
def law12_CacheApart_k5 (v31 : List S_cache_Store) (v37 : S_cache_Store) : Option Bool := (loopO (fun s => law12_CacheApart_b7  s.1 s.2.1 s.2.2) (v31, 0, 0)).bind (fun v76 => law12_CacheApart_k6 v37 v76)
def law12_CacheApart_k12 (v138 : Int) (x170 : S_law12_Act) (v215 : List S_cache_Store) (v221 : S_cache_Store) : Option (((List S_cache_Store) × Int × S_cache_Store) ⊕ (Lp Bool ((List S_cache_Store) × S_cache_Store))) := (cache_Store_Line_vm v221 (Int.tmod (IntKind.wrap .i64 ((Int.tmod x170.At.Request 3) + 3)) 3) (Int.tmod (IntKind.wrap .i64 ((Int.tmod x170.At.Layer 2) + 2)) 2)).bind fun x227 => (getI v215 (IntKind.wrap .i64 ((IntKind.wrap .i64 (2 * (Int.tmod (IntKind.wrap .i64 ((Int.tmod x170.At.Request 3) + 3)) 3))) + (Int.tmod (IntKind.wrap .i64 ((Int.tmod x170.At.Layer 2) + 2)) 2)))).bind fun x249 => (cache_Store_Line_vm x249 (Int.tmod (IntKind.wrap .i64 ((Int.tmod x170.At.Request 3) + 3)) 3) (Int.tmod (IntKind.wrap .i64 ((Int.tmod x170.At.Layer 2) + 2)) 2)).bind fun x266 => cond ((x227.1.length : Int) != (x266.1.length : Int)) (some (.inr (.ret false))) (some (.inl (v215, (IntKind.wrap .i64 (v138 + 1)), v221)))
def law12_CacheApart_k13 (v138 : Int) (v139 : S_cache_Store) (x170 : S_law12_Act) (v289 : List S_cache_Store) (v295 : Int) : Option (((List S_cache_Store) × Int × S_cache_Store) ⊕ (Lp Bool ((List S_cache_Store) × S_cache_Store))) := (cache_Store_Drop_vm v139 [(Int.tmod (IntKind.wrap .i64 ((Int.tmod x170.At.Request 3) + 3)) 3)]).bind fun x301 => cond (x301.1 != v295) (some (.inr (.ret false))) (law12_CacheApart_k12 v138 x170 v289 x301.2)
def law12_CacheApart_k11 (v132 : List S_cache_Store) (v138 : Int) (v139 : S_cache_Store) (x170 : S_law12_Act) (v184 : Bool) : Option (((List S_cache_Store) × Int × S_cache_Store) ⊕ (Lp Bool ((List S_cache_Store) × S_cache_Store))) := cond v184 (some (.inr (.ret true))) ((law12_spot (Int.tmod (IntKind.wrap .i64 ((Int.tmod x170.At.Request 3) + 3)) 3) (Int.tmod (IntKind.wrap .i64 ((Int.tmod x170.At.Layer 2) + 2)) 2) x170.At.Place).bind fun x186 => (getI v132 (IntKind.wrap .i64 ((IntKind.wrap .i64 (2 * (Int.tmod (IntKind.wrap .i64 ((Int.tmod x170.At.Request 3) + 3)) 3))) + (Int.tmod (IntKind.wrap .i64 ((Int.tmod x170.At.Layer 2) + 2)) 2)))).bind fun x201 => cond (x170.Kind == 1) ((getI v132 (IntKind.wrap .i64 (2 * (Int.tmod (IntKind.wrap .i64 ((Int.tmod x170.At.Request 3) + 3)) 3)))).bind fun x317 => (getI v132 (IntKind.wrap .i64 ((IntKind.wrap .i64 (2 * (Int.tmod (IntKind.wrap .i64 ((Int.tmod x170.At.Request 3) + 3)) 3))) + 1))).bind fun x321 => (cache_Store_Drop_vm x317 [(Int.tmod (IntKind.wrap .i64 ((Int.tmod x170.At.Request 3) + 3)) 3)]).bind fun x352 => (getI (List.set v132 (Int.toNat (IntKind.wrap .i64 (2 * (Int.tmod (IntKind.wrap .i64 ((Int.tmod x170.At.Request 3) + 3)) 3)))) x352.2) (IntKind.wrap .i64 ((IntKind.wrap .i64 (2 * (Int.tmod (IntKind.wrap .i64 ((Int.tmod x170.At.Request 3) + 3)) 3))) + 1))).bind fun x364 => (cache_Store_Drop_vm x364 [(Int.tmod (IntKind.wrap .i64 ((Int.tmod x170.At.Request 3) + 3)) 3)]).bind fun x381 => law12_CacheApart_k13 v138 v139 x170 (List.set (List.set v132 (Int.toNat (IntKind.wrap .i64 (2 * (Int.tmod (IntKind.wrap .i64 ((Int.tmod x170.At.Request 3) + 3)) 3)))) x352.2) (Int.toNat (IntKind.wrap .i64 ((IntKind.wrap .i64 (2 * (Int.tmod (IntKind.wrap .i64 ((Int.tmod x170.At.Request 3) + 3)) 3))) + 1))) x381.2) (IntKind.wrap .i64 (x352.1 + x381.1))) ((cache_Store_Put_vm v139 x186 x170.K x170.V).bind fun x401 => (getI v132 (IntKind.wrap .i64 ((IntKind.wrap .i64 (2 * (Int.tmod (IntKind.wrap .i64 ((Int.tmod x170.At.Request 3) + 3)) 3))) + (Int.tmod (IntKind.wrap .i64 ((Int.tmod x170.At.Layer 2) + 2)) 2)))).bind fun x417 => (cache_Store_Put_vm x417 x186 x170.K x170.V).bind fun x434 => cond (x401.1 != x434.1) (some (.inr (.ret false))) (law12_CacheApart_k12 v138 x170 (List.set v132 (Int.toNat (IntKind.wrap .i64 ((IntKind.wrap .i64 (2 * (Int.tmod (IntKind.wrap .i64 ((Int.tmod x170.At.Request 3) + 3)) 3))) + (Int.tmod (IntKind.wrap .i64 ((Int.tmod x170.At.Layer 2) + 2)) 2)))) x434.2) x401.2)))
def law12_CacheApart_b9 (p0 : List S_law12_Act) (v132 : List S_cache_Store) (v138 : Int) (v139 : S_cache_Store) : Option (((List S_cache_Store) × Int × S_cache_Store) ⊕ (Lp Bool ((List S_cache_Store) × S_cache_Store))) := cond (decide (v138 < (p0.length : Int))) ((getI p0 v138).bind fun x170 => cond (decide ((x170.K.length : Int) > 100)) (law12_CacheApart_k11 v132 v138 v139 x170 true) (law12_CacheApart_k11 v132 v138 v139 x170 (decide ((x170.V.length : Int) > 100)))) (some (.inr (.brk (v132, v139))))
def law12_CacheApart_k4 (p0 : List S_law12_Act) (o9 : S_cache_Store) (v24 : List S_cache_Store) : Option Bool := (loopO (fun s => law12_CacheApart_b9 p0 s.1 s.2.1 s.2.2) (v24, 0, o9)).bind (fun | .ret r => some r | .brk (v158, v164) => law12_CacheApart_k5 v158 v164)
def law12_CacheApart_k16  : Option (((List S_cache_Store) × Int) ⊕ (Lp Bool (List S_cache_Store))) := some (.inr (.ret false))
def law12_CacheApart_k17 (v461 : List S_cache_Store) (v467 : Int) (x484 : (Option S_cache_Store) × Int) (o486 : S_cache_Store) : Option (((List S_cache_Store) × Int) ⊕ (Lp Bool (List S_cache_Store))) := cond (x484.2 != 0) (some (.inr (.ret false))) ((app v461 [o486]).bind fun x502 => some (.inl (x502, (IntKind.wrap .i64 (v467 + 1)))))
def law12_CacheApart_b14 (v461 : List S_cache_Store) (v467 : Int) : Option (((List S_cache_Store) × Int) ⊕ (Lp Bool (List S_cache_Store))) := cond (decide (v467 < 6)) ((cache_New 1000).bind fun x484 => Option.elim x484.1 (law12_CacheApart_k16 ) (fun o486 => law12_CacheApart_k17 v461 v467 x484 o486)) (some (.inr (.brk v461)))
def law12_CacheApart_k3 (p0 : List S_law12_Act) (x7 : (Option S_cache_Store) × Int) (o9 : S_cache_Store) : Option Bool := cond (x7.2 != 0) (some false) ((loopO (fun s => law12_CacheApart_b14  s.1 s.2) (([] : List S_cache_Store), 0)).bind (fun | .ret r => some r | .brk v477 => law12_CacheApart_k4 p0 o9 v477))
def law12_CacheApart_k1 (p0 : List S_law12_Act) (v2 : Bool) : Option Bool := cond v2 ((law12_awake).bind fun x4 => some x4) ((cache_New 1000).bind fun x7 => Option.elim x7.1 (law12_CacheApart_k2 ) (fun o9 => law12_CacheApart_k3 p0 x7 o9))
def law12_CacheApart (p0 : List S_law12_Act) : Option Bool := (law12_awake).bind fun x510 => cond (!x510) (law12_CacheApart_k1 p0 true) (law12_CacheApart_k1 p0 (decide ((p0.length : Int) > 60)))
theorem law12_CacheApart_ok {F : Mem} {χ : List Chunk} {p0 : List S_law12_Act} {a_0 : Option Addr} {c_0 : Nat} (h_0 : RdL 6 R_law12_Act (Mem.add F χ) a_0 c_0 p0) {r : Bool} (hr : law12_CacheApart p0 = some r) (Φ : List (List Chunk)) :
    CallsRet Try.prog 3 (List.toArray [.slice a_0 p0.length c_0]) (Mem.add F χ) Φ (fun v w => v = .bool r ∧ Sat (Mem.add F χ) (Φ) w) := by
  refine CallsRet.enter (rs := [.tmp 2]) Try.func3 rfl rfl rfl rfl ?_
  unfold law12_CacheApart at hr
  refine WC.then ?_
  refine WC.region [(0, true)] rfl ?_
  refine WO.assign rfl rfl rfl rfl ?_
  refine WO.done ?_
  refine At.seq_wc ?_
  refine WC.then ?_
  refine WC.seq (fun a w => ∃ (v2 : Bool), law12_CacheApart_k1 p0 v2 = some r ∧ Ctx 179 [(0, .slice a_0 p0.length c_0), (28, .bool v2)] a ∧ Sat (Mem.add F χ) Φ w) ?_ ?_
  · refine WC.region [(0, false), (1, true), (2, true), (3, true), (4, true), (5, true), (6, true)] rfl ?_
    obtain ⟨x510, hx511, hr⟩ := bind_some' hr
    refine WO.call rfl rfl rfl rfl rfl cl_6 (CallsRet.lay0 1 0 [] [0] (by decide) F (χ :: Φ) rfl rfl (law12_awake_ok (F := F) hx511 (χ :: Φ))) ?_
    rintro _ _ ⟨rfl, hs512⟩
    have hs512 := (hs512.arrange 0 1 [0] [] (by decide))
    refine ⟨(Mem.add F χ), (Φ), hs512, trivial, ?_⟩
    refine WO.un rfl rfl rfl rfl rfl ?_
    refine WO.move rfl rfl rfl rfl ?_
    refine WO.split (t := 24) rfl (fun hg513 => ?_) (fun hg513 => ?_)
    · have hr := cond_t hg513 hr
      refine WO.skip rfl rfl rfl rfl ?_
      refine WO.skip rfl rfl rfl rfl ?_
      refine WO.skip rfl rfl rfl rfl ?_
      refine WO.pickT rfl rfl rfl rfl rfl ?_
      refine WO.done ?_
      refine At.seq_at ?_
      exact fun a w hc hs => ⟨true, hr, (hc.keep (hc.keep hc.nil (t := 28) rfl) (t := 0) rfl), hs⟩
    · have hr := cond_f hg513 hr
      refine WO.move rfl rfl rfl rfl ?_
      refine WO.len rfl rfl rfl rfl Try.underlying22 ?_
      refine WO.bin rfl rfl rfl rfl rfl rfl ?_
      refine WO.pickF rfl rfl rfl rfl rfl ?_
      refine WO.done ?_
      refine At.seq_at ?_
      exact fun a w hc hs => ⟨(decide ((p0.length : Int) > 60)), hr, (hc.keep (hc.keep hc.nil (t := 28) rfl) (t := 0) rfl), hs⟩
  · rintro a w ⟨v2, hr, hc, hs⟩
    refine WC.use hc hs ?_
    clear hc hs
    unfold law12_CacheApart_k1 at hr
    refine WC.cond rfl (fun hb3 => ?_) (fun hb3 => ?_)
    · have hr := cond_t hb3 hr
      refine WC.then ?_
      refine WC.region [(0, false), (1, true)] rfl ?_
      obtain ⟨x4, hx5, hr⟩ := bind_some' hr
      refine WO.call rfl rfl rfl rfl rfl cl_6 (CallsRet.lay0 1 0 [] [0] (by decide) F (χ :: Φ) rfl rfl (law12_awake_ok (F := F) hx5 (χ :: Φ))) ?_
      rintro _ _ ⟨rfl, hs6⟩
      have hs6 := (hs6.arrange 0 1 [0] [] (by decide))
      refine ⟨(Mem.add F χ), (Φ), hs6, trivial, ?_⟩
      refine WO.assign rfl rfl rfl rfl ?_
      refine WO.done ?_
      refine At.seq_wc ?_
      refine WC.ret ?_
      refine At.seq_ret ?_
      obtain rfl := Option.some.inj hr
      exact At.ret (fun a w hc hs => (resVs_cons (hc.res rfl) resVs_nil)) (fun w hs => ⟨rfl, hs⟩)
    · have hr := cond_f hb3 hr
      refine WC.skip ?_
      refine At.seq_wc ?_
      refine WC.then ?_
      refine WC.region [(0, false), (1, true), (2, true), (3, true), (4, true), (5, true)] rfl ?_
      obtain ⟨x7, hx8, hr⟩ := bind_some' hr
      refine WO.call rfl rfl rfl rfl rfl cl_7 (CallsRet.lay0 1 0 [] [0] (by decide) F (χ :: Φ) rfl rfl (cache_New_ok (F := F) hx8 (χ :: Φ))) ?_
      rintro _ _ (⟨hn10, rfl, hs11⟩ | ⟨o9, b14, b15, p16, hn13, rfl, hs20, hm18⟩)
      · have hr := elim_none hn10 hr
        have hs11 := (hs11.arrange 0 1 [0] [] (by decide))
        refine ⟨(Mem.add F χ), (Φ), hs11, trivial, ?_⟩
        refine WO.move rfl rfl rfl rfl ?_
        refine WO.extract rfl rfl rfl rfl rfl ?_
        refine WO.extract rfl rfl rfl rfl rfl ?_
        refine WO.assign rfl rfl rfl rfl ?_
        refine WO.assign rfl rfl rfl rfl ?_
        refine WO.done ?_
        refine At.seq_wc ?_
        refine WC.then ?_
        refine WC.seq (fun a w => law12_CacheApart_k2  = some r ∧ Ctx 179 [(0, .slice a_0 p0.length c_0), (3, .pointer none), (39, .bool true)] a ∧ Sat (Mem.add F χ) Φ w) ?_ ?_
        · refine WC.region [(0, true), (1, true), (2, true), (3, true), (4, true), (5, true)] rfl ?_
          refine WO.move rfl rfl rfl rfl ?_
          refine WO.eqNil rfl rfl rfl rfl rfl Try.underlying24 ?_
          refine WO.move rfl rfl rfl rfl ?_
          refine WO.skip rfl rfl rfl rfl ?_
          refine WO.skip rfl rfl rfl rfl ?_
          refine WO.pickT rfl rfl rfl rfl rfl ?_
          refine WO.done ?_
          refine At.seq_at ?_
          exact fun a w hc hs => ⟨hr, (hc.keep (hc.keep (hc.keep hc.nil (t := 39) rfl) (t := 3) rfl) (t := 0) rfl), hs⟩
        · rintro a w ⟨hr, hc, hs⟩
          refine WC.use hc hs ?_
          clear hc hs
          unfold law12_CacheApart_k2 at hr
          refine WC.condT rfl ?_
          refine WC.then ?_
          refine WC.region [(0, true)] rfl ?_
          refine WO.assign rfl rfl rfl rfl ?_
          refine WO.done ?_
          refine At.seq_wc ?_
          refine WC.ret ?_
          refine At.seq_ret ?_
          obtain rfl := Option.some.inj hr
          exact At.ret (fun a w hc hs => (resVs_cons (hc.res rfl) resVs_nil)) (fun w hs => ⟨rfl, hs⟩)
      · have hr := elim_some hn13 hr
        have hs20 := (hs20.arrange 0 3 [2] [0, 1] (by decide))
        refine ⟨(Mem.add F χ), ([(b14, row [.int .i64 o9.room, .map (some b15)] 62)] :: p16 :: Φ), hs20, trivial, ?_⟩
        refine WO.move rfl rfl rfl rfl ?_
        refine WO.extract rfl rfl rfl rfl rfl ?_
        refine WO.extract rfl rfl rfl rfl rfl ?_
        refine WO.assign rfl rfl rfl rfl ?_
        refine WO.assign rfl rfl rfl rfl ?_
        refine WO.done ?_
        refine At.seq_wc ?_
        refine WC.then ?_
        refine WC.seq (fun a w => law12_CacheApart_k3 p0 x7 o9 = some r ∧ Ctx 179 [(0, .slice a_0 p0.length c_0), (3, .pointer (some ⟨b14, 0, none⟩)), (39, .bool (x7.2 != 0))] a ∧ Sat (Mem.add F χ) ([(b14, row [.int .i64 o9.room, .map (some b15)] 62)] :: p16 :: Φ) w) ?_ ?_
        · refine WC.region [(0, true), (1, true), (2, true), (3, true), (4, true), (5, true)] rfl ?_
          refine WO.move rfl rfl rfl rfl ?_
          refine WO.eqNil rfl rfl rfl rfl rfl Try.underlying24 ?_
          refine WO.move rfl rfl rfl rfl ?_
          refine WO.move rfl rfl rfl rfl ?_
          refine WO.bin rfl rfl rfl rfl rfl rfl ?_
          refine WO.pickF rfl rfl rfl rfl rfl ?_
          refine WO.done ?_
          refine At.seq_at ?_
          exact fun a w hc hs => ⟨hr, (hc.keep (hc.keep (hc.keep hc.nil (t := 39) rfl) (t := 3) rfl) (t := 0) rfl), hs⟩
        · rintro a w ⟨hr, hc, hs⟩
          refine WC.use hc hs ?_
          clear hc hs
          unfold law12_CacheApart_k3 at hr
          refine WC.cond rfl (fun hb22 => ?_) (fun hb22 => ?_)
          · have hr := cond_t hb22 hr
            refine WC.then ?_
            refine WC.region [(0, true)] rfl ?_
            refine WO.assign rfl rfl rfl rfl ?_
            refine WO.done ?_
            refine At.seq_wc ?_
            refine WC.ret ?_
            refine At.seq_ret ?_
            obtain rfl := Option.some.inj hr
            exact At.ret (fun a w hc hs => (resVs_cons (hc.res rfl) resVs_nil)) (fun w hs => ⟨rfl, (hs.arrange 1 2 [0] [] (by decide))⟩)
          · have hr := cond_f hb22 hr
            refine WC.skip ?_
            refine At.seq_wc ?_
            refine WC.then ?_
            refine WC.region [(0, true)] rfl ?_
            refine WO.assign rfl rfl rfl rfl ?_
            refine WO.done ?_
            refine At.seq_wc ?_
            refine WC.seq (fun a w => ∃ (v24 : List S_cache_Store) (a25 : Option Addr) (c26 : Nat) (p27 : List Chunk), law12_CacheApart_k4 p0 o9 v24 = some r ∧ Ctx 179 [(0, .slice a_0 p0.length c_0), (3, .pointer (some ⟨b14, 0, none⟩)), (5, .slice a25 v24.length c26)] a ∧ Sat (Mem.add F χ) (p27 :: [(b14, row [.int .i64 o9.room, .map (some b15)] 62)] :: p16 :: Φ) w ∧ OwnE 1 RO_P_cache_Store F 24 a25 c26 v24 p27) ?_ ?_
            · refine WC.then ?_
              refine WC.region [(0, true)] rfl ?_
              refine WO.assign rfl rfl rfl rfl ?_
              refine WO.done ?_
              refine At.seq_wc ?_
              obtain ⟨xl15, hl15, hk15⟩ := bind_some' hr
              refine WC.weaken (fun a w => ∃ (v477 : List S_cache_Store) (a478 : Option Addr) (c479 : Nat) (p480 : List Chunk), .brk v477 = xl15 ∧ Ctx 179 [(0, .slice a_0 p0.length c_0), (3, .pointer (some ⟨b14, 0, none⟩)), (5, .slice a478 v477.length c479)] a ∧ Sat (Mem.add F χ) (p480 :: [(b14, row [.int .i64 o9.room, .map (some b15)] 62)] :: p16 :: Φ) w ∧ OwnE 1 RO_P_cache_Store F 24 a478 c479 v477 p480) ?_ ?_
              · refine WC.block ?_
                refine WC.loop (fun ⟨v461, v467⟩ a w => ∃ (a462 : Option Addr) (c463 : Nat) (p464 : List Chunk), Ctx 179 [(0, .slice a_0 p0.length c_0), (3, .pointer (some ⟨b14, 0, none⟩)), (5, .slice a462 v461.length c463), (6, .int .i64 v467)] a ∧ Sat (Mem.add F χ) (p464 :: [(b14, row [.int .i64 o9.room, .map (some b15)] 62)] :: p16 :: Φ) w ∧ OwnE 1 RO_P_cache_Store F 24 a462 c463 v461 p464) hl15 ?_ ?_
                · refine At.empty ?_
                  have ho509 : OwnE 1 RO_P_cache_Store F 24 none 0 ([] : List S_cache_Store) [] := OwnE.nil
                  exact fun a w hc hs => ⟨none, 0, [], (hc.keep (hc.keep (hc.keep (hc.keep hc.nil (t := 6) rfl) (t := 5) rfl) (t := 3) rfl) (t := 0) rfl), hs, ho509⟩
                · rintro ⟨v461, v467⟩ r15 hr a w ⟨a462, c463, p464, hc, hs, ho465⟩
                  refine WC.use hc hs ?_
                  clear hc hs
                  (try dsimp only at hr)
                  unfold law12_CacheApart_b14 at hr
                  refine WC.then ?_
                  refine WC.then ?_
                  refine WC.region [(0, true), (1, true)] rfl ?_
                  refine WO.move rfl rfl rfl rfl ?_
                  refine WO.bin rfl rfl rfl rfl rfl rfl ?_
                  refine WO.done ?_
                  refine At.seq_wc ?_
                  refine WC.cond rfl (fun hb483 => ?_) (fun hb483 => ?_)
                  · have hr := cond_t hb483 hr
                    refine WC.skip ?_
                    refine At.seq_wc ?_
                    refine WC.then ?_
                    refine WC.block ?_
                    refine WC.then ?_
                    refine WC.region [(0, false), (1, true), (2, true), (3, true), (4, true), (5, true)] rfl ?_
                    obtain ⟨x484, hx485, hr⟩ := bind_some' hr
                    refine WO.call rfl rfl rfl rfl rfl cl_7 (CallsRet.lay0 1 3 [] [0, 1, 2, 3] (by decide) F (χ :: p464 :: [(b14, row [.int .i64 o9.room, .map (some b15)] 62)] :: p16 :: Φ) rfl rfl (cache_New_ok (F := F) hx485 (χ :: p464 :: [(b14, row [.int .i64 o9.room, .map (some b15)] 62)] :: p16 :: Φ))) ?_
                    rintro _ _ (⟨hn487, rfl, hs488⟩ | ⟨o486, b491, b492, p493, hn490, rfl, hs497, hm495⟩)
                    · have hr := elim_none hn487 hr
                      have hs488 := (hs488.arrange 0 4 [0] [1, 2, 3] (by decide))
                      refine ⟨(Mem.add F χ), (p464 :: [(b14, row [.int .i64 o9.room, .map (some b15)] 62)] :: p16 :: Φ), hs488, trivial, ?_⟩
                      refine WO.move rfl rfl rfl rfl ?_
                      refine WO.extract rfl rfl rfl rfl rfl ?_
                      refine WO.extract rfl rfl rfl rfl rfl ?_
                      refine WO.assign rfl rfl rfl rfl ?_
                      refine WO.assign rfl rfl rfl rfl ?_
                      refine WO.done ?_
                      refine At.seq_wc ?_
                      refine WC.then ?_
                      refine WC.seq (fun a w => law12_CacheApart_k16  = some r15 ∧ Ctx 179 [(0, .slice a_0 p0.length c_0), (3, .pointer (some ⟨b14, 0, none⟩)), (5, .slice a462 v461.length c463), (6, .int .i64 v467), (7, .pointer none), (53, .bool true)] a ∧ Sat (Mem.add F χ) (p464 :: [(b14, row [.int .i64 o9.room, .map (some b15)] 62)] :: p16 :: Φ) w) ?_ ?_
                      · refine WC.region [(0, true), (1, true), (2, true), (3, true), (4, true), (5, true)] rfl ?_
                        refine WO.move rfl rfl rfl rfl ?_
                        refine WO.eqNil rfl rfl rfl rfl rfl Try.underlying24 ?_
                        refine WO.move rfl rfl rfl rfl ?_
                        refine WO.skip rfl rfl rfl rfl ?_
                        refine WO.skip rfl rfl rfl rfl ?_
                        refine WO.pickT rfl rfl rfl rfl rfl ?_
                        refine WO.done ?_
                        refine At.seq_at ?_
                        exact fun a w hc hs => ⟨hr, (hc.keep (hc.keep (hc.keep (hc.keep (hc.keep (hc.keep hc.nil (t := 53) rfl) (t := 7) rfl) (t := 6) rfl) (t := 5) rfl) (t := 3) rfl) (t := 0) rfl), hs⟩
                      · rintro a w ⟨hr, hc, hs⟩
                        refine WC.use hc hs ?_
                        clear hc hs
                        unfold law12_CacheApart_k16 at hr
                        refine WC.condT rfl ?_
                        refine WC.then ?_
                        refine WC.region [(0, true)] rfl ?_
                        refine WO.assign rfl rfl rfl rfl ?_
                        refine WO.done ?_
                        refine At.seq_wc ?_
                        refine WC.ret ?_
                        refine At.seq_ret ?_
                        refine At.block_ret ?_
                        refine At.seq_ret ?_
                        refine At.round_ret hr (fun hy => ?_)
                        subst hy
                        have hr := hk15
                        refine At.block_ret ?_
                        refine At.seq_ret ?_
                        refine At.seq_ret ?_
                        obtain rfl := Option.some.inj hr
                        exact At.ret (fun a w hc hs => (resVs_cons (hc.res rfl) resVs_nil)) (fun w hs => ⟨rfl, (hs.arrange 1 3 [0] [] (by decide))⟩)
                    · have hr := elim_some hn490 hr
                      have hs497 := (hs497.arrange 0 6 [2] [0, 1, 3, 4, 5] (by decide))
                      refine ⟨(Mem.add F χ), ([(b491, row [.int .i64 o486.room, .map (some b492)] 62)] :: p493 :: p464 :: [(b14, row [.int .i64 o9.room, .map (some b15)] 62)] :: p16 :: Φ), hs497, trivial, ?_⟩
                      refine WO.move rfl rfl rfl rfl ?_
                      refine WO.extract rfl rfl rfl rfl rfl ?_
                      refine WO.extract rfl rfl rfl rfl rfl ?_
                      refine WO.assign rfl rfl rfl rfl ?_
                      refine WO.assign rfl rfl rfl rfl ?_
                      refine WO.done ?_
                      refine At.seq_wc ?_
                      refine WC.then ?_
                      refine WC.seq (fun a w => law12_CacheApart_k17 v461 v467 x484 o486 = some r15 ∧ Ctx 179 [(0, .slice a_0 p0.length c_0), (3, .pointer (some ⟨b14, 0, none⟩)), (5, .slice a462 v461.length c463), (6, .int .i64 v467), (7, .pointer (some ⟨b491, 0, none⟩)), (53, .bool (x484.2 != 0))] a ∧ Sat (Mem.add F χ) ([(b491, row [.int .i64 o486.room, .map (some b492)] 62)] :: p493 :: p464 :: [(b14, row [.int .i64 o9.room, .map (some b15)] 62)] :: p16 :: Φ) w) ?_ ?_
                      · refine WC.region [(0, true), (1, true), (2, true), (3, true), (4, true), (5, true)] rfl ?_
                        refine WO.move rfl rfl rfl rfl ?_
                        refine WO.eqNil rfl rfl rfl rfl rfl Try.underlying24 ?_
                        refine WO.move rfl rfl rfl rfl ?_
                        refine WO.move rfl rfl rfl rfl ?_
                        refine WO.bin rfl rfl rfl rfl rfl rfl ?_
                        refine WO.pickF rfl rfl rfl rfl rfl ?_
                        refine WO.done ?_
                        refine At.seq_at ?_
                        exact fun a w hc hs => ⟨hr, (hc.keep (hc.keep (hc.keep (hc.keep (hc.keep (hc.keep hc.nil (t := 53) rfl) (t := 7) rfl) (t := 6) rfl) (t := 5) rfl) (t := 3) rfl) (t := 0) rfl), hs⟩
                      · rintro a w ⟨hr, hc, hs⟩
                        refine WC.use hc hs ?_
                        clear hc hs
                        unfold law12_CacheApart_k17 at hr
                        refine WC.cond rfl (fun hb499 => ?_) (fun hb499 => ?_)
                        · have hr := cond_t hb499 hr
                          refine WC.then ?_
                          refine WC.region [(0, true)] rfl ?_
                          refine WO.assign rfl rfl rfl rfl ?_
                          refine WO.done ?_
                          refine At.seq_wc ?_
                          refine WC.ret ?_
                          refine At.seq_ret ?_
                          refine At.block_ret ?_
                          refine At.seq_ret ?_
                          refine At.round_ret hr (fun hy => ?_)
                          subst hy
                          have hr := hk15
                          refine At.block_ret ?_
                          refine At.seq_ret ?_
                          refine At.seq_ret ?_
                          obtain rfl := Option.some.inj hr
                          exact At.ret (fun a w hc hs => (resVs_cons (hc.res rfl) resVs_nil)) (fun w hs => ⟨rfl, (hs.arrange 1 5 [0] [] (by decide))⟩)
                        · have hr := cond_f hb499 hr
                          refine WC.skip ?_
                          refine At.seq_wc ?_
                          refine WC.region [(0, true), (1, true), (2, false), (3, false), (4, true)] rfl ?_
                          refine WO.move rfl rfl rfl rfl ?_
                          refine WO.move rfl rfl rfl rfl ?_
                          refine WO.buildSl (e := 24) (vs := [.tmp 55]) [0] [.pointer (some ⟨b491, 0, none⟩)] rfl rfl rfl rfl rfl (fun _ => by kernel_rfl) (fun _ _ _ => trivial) (fun b500 => ?_)
                          refine WO.arrange 1 6 [0] [2, 3, 1, 4, 5, 6] (by decide) (Mem.add F χ) ([(b491, row [.int .i64 o486.room, .map (some b492)] 62)] :: p493 :: [(b500, row [.pointer (some ⟨b491, 0, none⟩)] 24)] :: p464 :: [(b14, row [.int .i64 o9.room, .map (some b15)] 62)] :: p16 :: Φ) rfl rfl ?_
                          obtain ⟨x502, hx503, hr⟩ := bind_some' hr
                          refine WO.appendE (F1 := F) (Φ := ([(b500, row [.pointer (some ⟨b491, 0, none⟩)] 24)] :: p464 :: [(b14, row [.int .i64 o9.room, .map (some b15)] 62)] :: p16 :: Φ)) (u := [.pointer (some ⟨b491, 0, none⟩)]) (z := o486) 1 [[(b491, row [.int .i64 o486.room, .map (some b492)] 62)], p493] ho465 rfl ⟨_, _, _, rfl, rfl, hm495⟩ (SrcL.ofRow 0 Try.underlying28 [[.pointer (some ⟨b491, 0, none⟩)]] rfl rfl rfl (Rs.cons (x := ([.pointer (some ⟨b491, 0, none⟩)] : List Value)) (cs := [.pointer (some ⟨b491, 0, none⟩)]) rfl rfl rfl Rs.nil)) hx503 rfl rfl rfl rfl rfl rfl Try.underlying28 el_24 (fun _ _ _ => trivial) (fun a504 c505 p506 hE507 => ?_)
                          refine WO.assign rfl rfl rfl rfl ?_
                          refine WO.done ?_
                          refine At.block_normal ?_
                          refine At.seq_wc ?_
                          refine WC.region [(0, true), (1, true), (2, true)] rfl ?_
                          refine WO.move rfl rfl rfl rfl ?_
                          refine WO.bin rfl rfl rfl rfl rfl rfl ?_
                          refine WO.assign rfl rfl rfl rfl ?_
                          refine WO.done ?_
                          refine At.round_next hr ?_
                          exact fun a w hc hs => ⟨a504, c505, p506, (hc.keep (hc.keep (hc.keep (hc.keep hc.nil (t := 6) rfl) (t := 5) rfl) (t := 3) rfl) (t := 0) rfl), (hs.arrange 1 4 [0] [1, 3, 4] (by decide)), hE507⟩
                  · have hr := cond_f hb483 hr
                    refine WC.exit ?_
                    refine At.seq_exit ?_
                    refine At.round_exit hr (fun hy => ?_)
                    refine At.exit_block ?_
                    refine At.seq_at ?_
                    exact fun a w hc hs => ⟨v461, a462, c463, p464, hy, (hc.keep (hc.keep (hc.keep hc.nil (t := 5) rfl) (t := 3) rfl) (t := 0) rfl), hs, ho465⟩
              · rintro a w ⟨v477, a478, c479, p480, rfl, hc, hs, ho481⟩
                refine At.use hc hs ?_
                clear hc hs
                (try dsimp only at hk15)
                have hr := hk15
                refine At.seq_at ?_
                exact fun a w hc hs => ⟨v477, a478, c479, p480, hr, (hc.keep (hc.keep (hc.keep hc.nil (t := 5) rfl) (t := 3) rfl) (t := 0) rfl), hs, ho481⟩
            · rintro a w ⟨v24, a25, c26, p27, hr, hc, hs, ho28⟩
              refine WC.use hc hs ?_
              clear hc hs
              unfold law12_CacheApart_k4 at hr
              refine WC.seq (fun a w => ∃ (v31 : List S_cache_Store) (v37 : S_cache_Store) (a32 : Option Addr) (c33 : Nat) (p34 : List Chunk) (b38 : Nat) (p39 : List Chunk) (w30 : List Chunk), law12_CacheApart_k5 v31 v37 = some r ∧ Ctx 179 [(3, .pointer (some ⟨b14, 0, none⟩)), (5, .slice a32 v31.length c33)] a ∧ Sat (Mem.add (Mem.add F χ) w30) (p34 :: p39 :: [(b14, row [.int .i64 v37.room, .map (some b38)] 62)] :: Φ) w ∧ OwnE 1 RO_P_cache_Store (Mem.add F w30) 24 a32 c33 v31 p34 ∧ OwnM enc_api_Spot (RVA R_cache_rows) (Mem.add F w30) b38 v37.m p39) ?_ ?_
              · refine WC.then ?_
                refine WC.region [(0, true)] rfl ?_
                refine WO.assign rfl rfl rfl rfl ?_
                refine WO.done ?_
                refine At.seq_wc ?_
                obtain ⟨xl10, hl10, hk10⟩ := bind_some' hr
                refine WC.weaken (fun a w => ∃ (v158 : List S_cache_Store) (v164 : S_cache_Store) (a159 : Option Addr) (c160 : Nat) (p161 : List Chunk) (b165 : Nat) (p166 : List Chunk) (w157 : List Chunk), .brk (v158, v164) = xl10 ∧ Ctx 179 [(3, .pointer (some ⟨b14, 0, none⟩)), (5, .slice a159 v158.length c160)] a ∧ Sat (Mem.add (Mem.add F χ) w157) (p161 :: p166 :: [(b14, row [.int .i64 v164.room, .map (some b165)] 62)] :: Φ) w ∧ OwnE 1 RO_P_cache_Store (Mem.add F w157) 24 a159 c160 v158 p161 ∧ OwnM enc_api_Spot (RVA R_cache_rows) (Mem.add F w157) b165 v164.m p166) ?_ ?_
                · refine WC.block ?_
                  refine WC.loop (fun ⟨v132, v138, v139⟩ a w => ∃ (a133 : Option Addr) (c134 : Nat) (p135 : List Chunk) (b140 : Nat) (p141 : List Chunk) (w131 : List Chunk), Ctx 179 [(0, .slice a_0 p0.length c_0), (3, .pointer (some ⟨b14, 0, none⟩)), (5, .slice a133 v132.length c134), (9, .int .i64 v138)] a ∧ Sat (Mem.add (Mem.add F χ) w131) (p135 :: p141 :: [(b14, row [.int .i64 v139.room, .map (some b140)] 62)] :: Φ) w ∧ OwnE 1 RO_P_cache_Store (Mem.add F w131) 24 a133 c134 v132 p135 ∧ OwnM enc_api_Spot (RVA R_cache_rows) (Mem.add F w131) b140 v139.m p141) hl10 ?_ ?_
                  · exact fun a w hc hs => ⟨a25, c26, p27, b15, p16, (List.flatten []), (hc.keep (hc.keep (hc.keep (hc.keep hc.nil (t := 9) rfl) (t := 5) rfl) (t := 3) rfl) (t := 0) rfl), ((hs.arrange 1 3 [0] [1, 3, 2] (by decide)).gather 0), (ho28.mono monoE_P_cache_Store (Mem.le_gather F 0)), (hm18.mono (monoVA mono_cache_rows) (Mem.le_gather F 0))⟩
                  · rintro ⟨v132, v138, v139⟩ r10 hr a w ⟨a133, c134, p135, b140, p141, w131, hc, hs, ho136, hm142⟩
                    refine WC.use hc hs ?_
                    clear hc hs
                    (try dsimp only at hr)
                    unfold law12_CacheApart_b9 at hr
                    refine WC.then ?_
                    refine WC.then ?_
                    refine WC.region [(0, true), (1, true), (2, true), (3, true)] rfl ?_
                    refine WO.move rfl rfl rfl rfl ?_
                    refine WO.move rfl rfl rfl rfl ?_
                    refine WO.len rfl rfl rfl rfl Try.underlying22 ?_
                    refine WO.bin rfl rfl rfl rfl rfl rfl ?_
                    refine WO.done ?_
                    refine At.seq_wc ?_
                    refine WC.cond rfl (fun hb169 => ?_) (fun hb169 => ?_)
                    · have hr := cond_t hb169 hr
                      refine WC.skip ?_
                      refine At.seq_wc ?_
                      refine WC.then ?_
                      refine WC.block ?_
                      refine WC.then ?_
                      refine WC.region [(0, true), (1, true), (2, true), (3, false), (4, false), (5, false)] rfl ?_
                      refine WO.move rfl rfl rfl rfl ?_
                      refine WO.move rfl rfl rfl rfl ?_
                      obtain ⟨x170, hx171, hr⟩ := bind_some' hr
                      refine WO.indexR h_0 hx171 rfl rfl rfl rfl rfl rfl Try.underlying22 sz_33 ?_
                      rintro b172 o173 _ hc174 ⟨a175, c176, a178, c179, rfl, h177, h180⟩
                      refine WO.loadPAn 0 6 (hc174.mono (Mem.le_pick (Mem.add (Mem.add F χ) w131) 2 [1] (by decide))) rfl rfl rfl rfl rfl ag_33 rfl rfl ?_
                      refine WO.alloc (.agg #[.int .i64 0, .int .i64 0, .int .i64 0, .int .i64 0, .slice none 0 0, .slice none 0 0]) rfl rfl rfl zb_33 rfl (fun _ _ _ => trivial) (fun b181 => ?_)
                      refine WO.storeA 0 6 rfl rfl rfl rfl sz_33 rfl rfl rfl rfl (fun _ _ => trivial) ?_
                      refine WO.done ?_
                      refine At.seq_wc ?_
                      refine WC.then ?_
                      refine WC.seq (fun a w => ∃ (v184 : Bool), law12_CacheApart_k11 v132 v138 v139 x170 v184 = some r10 ∧ Ctx 179 [(0, .slice a_0 p0.length c_0), (3, .pointer (some ⟨b14, 0, none⟩)), (5, .slice a133 v132.length c134), (9, .int .i64 v138), (10, .pointer (some ⟨b181, 0, none⟩)), (77, .bool v184)] a ∧ Sat (Mem.add (Mem.add F χ) w131) ([(b181, row [.int .i64 x170.Kind, .int .i64 x170.At.Request, .int .i64 x170.At.Layer, .int .i64 x170.At.Place, .slice a175 x170.K.length c176, .slice a178 x170.V.length c179] 33)] :: p135 :: p141 :: [(b14, row [.int .i64 v139.room, .map (some b140)] 62)] :: Φ) w) ?_ ?_
                      · refine WC.region [(0, true), (1, false), (2, true), (3, true), (4, true), (5, true), (6, false), (7, true), (8, true), (9, true)] rfl ?_
                        refine WO.fieldAddr 4 rfl rfl rfl rfl fl_33_2 ?_
                        refine WO.load 0 rfl rfl rfl rfl sc_31 rfl rfl ?_
                        refine WO.len rfl rfl rfl rfl Try.underlying31 ?_
                        refine WO.bin rfl rfl rfl rfl rfl rfl ?_
                        refine WO.move rfl rfl rfl rfl ?_
                        refine WO.split (t := 72) rfl (fun hg450 => ?_) (fun hg450 => ?_)
                        · have hr := cond_t hg450 hr
                          refine WO.skip rfl rfl rfl rfl ?_
                          refine WO.skipF rfl rfl rfl rfl ?_
                          refine WO.skip rfl rfl rfl rfl ?_
                          refine WO.skip rfl rfl rfl rfl ?_
                          refine WO.pickT rfl rfl rfl rfl rfl ?_
                          refine WO.done ?_
                          refine At.seq_at ?_
                          exact fun a w hc hs => ⟨true, hr, (hc.keep (hc.keep (hc.keep (hc.keep (hc.keep (hc.keep hc.nil (t := 77) rfl) (t := 10) rfl) (t := 9) rfl) (t := 5) rfl) (t := 3) rfl) (t := 0) rfl), hs⟩
                        · have hr := cond_f hg450 hr
                          refine WO.fieldAddr 5 rfl rfl rfl rfl fl_33_3 ?_
                          refine WO.load 0 rfl rfl rfl rfl sc_31 rfl rfl ?_
                          refine WO.len rfl rfl rfl rfl Try.underlying31 ?_
                          refine WO.bin rfl rfl rfl rfl rfl rfl ?_
                          refine WO.pickF rfl rfl rfl rfl rfl ?_
                          refine WO.done ?_
                          refine At.seq_at ?_
                          exact fun a w hc hs => ⟨(decide ((x170.V.length : Int) > 100)), hr, (hc.keep (hc.keep (hc.keep (hc.keep (hc.keep (hc.keep hc.nil (t := 77) rfl) (t := 10) rfl) (t := 9) rfl) (t := 5) rfl) (t := 3) rfl) (t := 0) rfl), hs⟩
                      · rintro a w ⟨v184, hr, hc, hs⟩
                        refine WC.use hc hs ?_
                        clear hc hs
                        unfold law12_CacheApart_k11 at hr
                        refine WC.cond rfl (fun hb185 => ?_) (fun hb185 => ?_)
                        · have hr := cond_t hb185 hr
                          refine WC.then ?_
                          refine WC.region [(0, true)] rfl ?_
                          refine WO.assign rfl rfl rfl rfl ?_
                          refine WO.done ?_
                          refine At.seq_wc ?_
                          refine WC.ret ?_
                          refine At.seq_ret ?_
                          refine At.block_ret ?_
                          refine At.seq_ret ?_
                          refine At.round_ret hr (fun hy => ?_)
                          subst hy
                          have hr := hk10
                          refine At.block_ret ?_
                          refine At.seq_ret ?_
                          refine At.seq_ret ?_
                          obtain rfl := Option.some.inj hr
                          exact At.ret (fun a w hc hs => (resVs_cons (hc.res rfl) resVs_nil)) (fun w hs => ⟨rfl, (hs.arrange 2 4 [1] [] (by decide))⟩)
                        · have hr := cond_f hb185 hr
                          refine WC.skip ?_
                          refine At.seq_wc ?_
                          refine WC.then ?_
                          refine WC.draw (Sat (Mem.add (Mem.add F χ) w131) ([(b181, row [.int .i64 x170.Kind, .int .i64 x170.At.Request, .int .i64 x170.At.Layer, .int .i64 x170.At.Place, .slice a175 x170.K.length c176, .slice a178 x170.V.length c179] 33)] :: p141 :: [(b14, row [.int .i64 v139.room, .map (some b140)] 62)] :: Φ)) (fun _ h => (h.arrange 2 4 [0, 1] [2, 4, 5] (by decide))) [(0, true), (1, true), (2, true), (3, true), (4, true), (5, true), (6, true), (7, true), (8, true), (9, true), (10, true), (11, true), (12, true), (13, true)] mixed (by kernel_rfl) rfl (by kernel_rfl) ?_
                          refine WO.fieldAddr 1 rfl rfl rfl rfl fl_33_1 ?_
                          refine WO.fieldAddr 0 rfl rfl rfl rfl fl_30_0 ?_
                          refine WO.loadY 0 rfl rfl rfl rfl sc_3 rfl rfl ?_
                          refine WO.rem (by decide) rfl rfl rfl rfl rfl ?_
                          refine WO.bin rfl rfl rfl rfl rfl rfl ?_
                          refine WO.rem (by decide) rfl rfl rfl rfl rfl ?_
                          refine WO.fieldAddr 1 rfl rfl rfl rfl fl_33_1 ?_
                          refine WO.fieldAddr 1 rfl rfl rfl rfl fl_30_1 ?_
                          refine WO.loadY 0 rfl rfl rfl rfl sc_3 rfl rfl ?_
                          refine WO.rem (by decide) rfl rfl rfl rfl rfl ?_
                          refine WO.bin rfl rfl rfl rfl rfl rfl ?_
                          refine WO.rem (by decide) rfl rfl rfl rfl rfl ?_
                          refine WO.assign rfl rfl rfl rfl ?_
                          refine WO.assign rfl rfl rfl rfl ?_
                          refine WO.done ?_
                          refine At.seq_wc ?_
                          refine WC.then ?_
                          refine WC.region [(0, true), (1, true), (2, true), (3, true), (4, false), (5, false), (6, false), (7, false)] rfl ?_
                          refine WO.move rfl rfl rfl rfl ?_
                          refine WO.move rfl rfl rfl rfl ?_
                          refine WO.fieldAddr 1 rfl rfl rfl rfl fl_33_1 ?_
                          refine WO.fieldAddr 2 rfl rfl rfl rfl fl_30_2 ?_
                          refine WO.load 0 rfl rfl rfl rfl sc_3 rfl rfl ?_
                          obtain ⟨x186, hx187, hr⟩ := bind_some' hr
                          refine WO.call rfl rfl rfl rfl rfl cl_8 (CallsRet.lay0 2 4 [] [0, 1, 2, 3, 4, 5] (by decide) F (w131 :: χ :: [(b181, row [.int .i64 x170.Kind, .int .i64 x170.At.Request, .int .i64 x170.At.Layer, .int .i64 x170.At.Place, .slice a175 x170.K.length c176, .slice a178 x170.V.length c179] 33)] :: p135 :: p141 :: [(b14, row [.int .i64 v139.room, .map (some b140)] 62)] :: Φ) rfl rfl (law12_spot_ok (F := F) hx187 (w131 :: χ :: [(b181, row [.int .i64 x170.Kind, .int .i64 x170.At.Request, .int .i64 x170.At.Layer, .int .i64 x170.At.Place, .slice a175 x170.K.length c176, .slice a178 x170.V.length c179] 33)] :: p135 :: p141 :: [(b14, row [.int .i64 v139.room, .map (some b140)] 62)] :: Φ))) ?_
                          rintro _ _ ⟨cs188, rfl, hs190, rfl⟩
                          have hs190 := (hs190.arrange 0 6 [0, 1] [2, 3, 4, 5] (by decide))
                          refine ⟨(Mem.add (Mem.add F χ) w131), ([(b181, row [.int .i64 x170.Kind, .int .i64 x170.At.Request, .int .i64 x170.At.Layer, .int .i64 x170.At.Place, .slice a175 x170.K.length c176, .slice a178 x170.V.length c179] 33)] :: p135 :: p141 :: [(b14, row [.int .i64 v139.room, .map (some b140)] 62)] :: Φ), hs190, trivial, ?_⟩
                          refine WO.alloc (.agg #[.int .i64 0, .int .i64 0, .int .i64 0]) rfl rfl rfl zb_30 rfl (fun _ _ _ => trivial) (fun b191 => ?_)
                          refine WO.storeA 0 3 rfl rfl rfl rfl sz_30 rfl rfl rfl rfl (fun _ _ => trivial) ?_
                          refine WO.done ?_
                          refine At.seq_wc ?_
                          refine WC.then ?_
                          refine WC.region [(0, true), (1, true), (2, true), (3, true), (4, true), (5, true), (6, false), (7, true)] rfl ?_
                          refine WO.move rfl rfl rfl rfl ?_
                          refine WO.move rfl rfl rfl rfl ?_
                          refine WO.bin rfl rfl rfl rfl rfl rfl ?_
                          refine WO.move rfl rfl rfl rfl ?_
                          refine WO.bin rfl rfl rfl rfl rfl rfl ?_
                          refine WO.unE 2 ho136 rfl (fun y193 p194 p195 hp196 hO197 hI198 => ?_)
                          obtain ⟨x201, hx202, hr⟩ := bind_some' hr
                          obtain ⟨b208, hy209⟩ := hI198.ptr ptr_P_cache_Store hx202
                          refine WO.indexQ hO197 hy209 rfl rfl rfl rfl (hI198.len) rfl Try.underlying28 sz_24 (fun b203 cs204 hb205 h206 hq207 => ?_)
                          cases h206
                          subst hb205
                          refine WO.loadQ 0 0 hq207 rfl rfl rfl rfl rfl rfl sc_24 rfl ?_
                          refine WO.assign rfl rfl rfl rfl ?_
                          refine WO.done ?_
                          refine At.packE ([(b191, row [.int .i64 x186.Request, .int .i64 x186.Layer, .int .i64 x186.Place] 30)] :: [(b181, row [.int .i64 x170.Kind, .int .i64 x170.At.Request, .int .i64 x170.At.Layer, .int .i64 x170.At.Place, .slice a175 x170.K.length c176, .slice a178 x170.V.length c179] 33)] :: p141 :: [(b14, row [.int .i64 v139.room, .map (some b140)] 62)] :: Φ) (hO197.raw (G := (Mem.add F w131))) hI198 (fun p210 hp211 hE212 => ?_)
                          have hc213 := CellAt.of hp211 hO197 hy209
                          refine At.seq_wc ?_
                          refine WC.seq (fun a w => ∃ (v215 : List S_cache_Store) (v221 : S_cache_Store) (a216 : Option Addr) (c217 : Nat) (p218 : List Chunk) (b222 : Nat) (p223 : List Chunk) (w214 : List Chunk), law12_CacheApart_k12 v138 x170 v215 v221 = some r10 ∧ Ctx 179 [(0, .slice a_0 p0.length c_0), (3, .pointer (some ⟨b14, 0, none⟩)), (5, .slice a216 v215.length c217), (9, .int .i64 v138), (11, .int .i64 (Int.tmod (IntKind.wrap .i64 ((Int.tmod x170.At.Request 3) + 3)) 3)), (12, .int .i64 (Int.tmod (IntKind.wrap .i64 ((Int.tmod x170.At.Layer 2) + 2)) 2)), (14, .pointer (some ⟨b208, 0, none⟩))] a ∧ Sat (Mem.add (Mem.add (Mem.add F χ) w131) w214) (p218 :: p223 :: [(b191, row [.int .i64 x186.Request, .int .i64 x186.Layer, .int .i64 x186.Place] 30)] :: [(b181, row [.int .i64 x170.Kind, .int .i64 x170.At.Request, .int .i64 x170.At.Layer, .int .i64 x170.At.Place, .slice a175 x170.K.length c176, .slice a178 x170.V.length c179] 33)] :: [(b14, row [.int .i64 v221.room, .map (some b222)] 62)] :: Φ) w ∧ CellAt p218 (Int.toNat (IntKind.wrap .i64 ((IntKind.wrap .i64 (2 * (Int.tmod (IntKind.wrap .i64 ((Int.tmod x170.At.Request 3) + 3)) 3))) + (Int.tmod (IntKind.wrap .i64 ((Int.tmod x170.At.Layer 2) + 2)) 2)))) (.pointer (some ⟨b208, 0, none⟩)) ∧ OwnE 1 RO_P_cache_Store (Mem.add (Mem.add F w131) w214) 24 a216 c217 v215 p218 ∧ OwnM enc_api_Spot (RVA R_cache_rows) (Mem.add (Mem.add F w131) w214) b222 v221.m p223) ?_ ?_
                          · refine WC.then ?_
                            refine WC.region [(0, true), (1, false), (2, true)] rfl ?_
                            refine WO.fieldAddr 0 rfl rfl rfl rfl fl_33_0 ?_
                            refine WO.load 2 rfl rfl rfl rfl sc_3 rfl rfl ?_
                            refine WO.bin rfl rfl rfl rfl rfl rfl ?_
                            refine WO.done ?_
                            refine At.seq_wc ?_
                            refine WC.cond rfl (fun hb287 => ?_) (fun hb287 => ?_)
                            · have hr := cond_t hb287 hr
                              refine WC.seq (fun a w => ∃ (v289 : List S_cache_Store) (v295 : Int) (a290 : Option Addr) (c291 : Nat) (p292 : List Chunk), law12_CacheApart_k13 v138 v139 x170 v289 v295 = some r10 ∧ Ctx 179 [(0, .slice a_0 p0.length c_0), (3, .pointer (some ⟨b14, 0, none⟩)), (5, .slice a290 v289.length c291), (9, .int .i64 v138), (11, .int .i64 (Int.tmod (IntKind.wrap .i64 ((Int.tmod x170.At.Request 3) + 3)) 3)), (12, .int .i64 (Int.tmod (IntKind.wrap .i64 ((Int.tmod x170.At.Layer 2) + 2)) 2)), (14, .pointer (some ⟨b208, 0, none⟩)), (15, .int .i64 v295)] a ∧ Sat (Mem.add (Mem.add F χ) w131) (p292 :: [(b191, row [.int .i64 x186.Request, .int .i64 x186.Layer, .int .i64 x186.Place] 30)] :: [(b181, row [.int .i64 x170.Kind, .int .i64 x170.At.Request, .int .i64 x170.At.Layer, .int .i64 x170.At.Place, .slice a175 x170.K.length c176, .slice a178 x170.V.length c179] 33)] :: p141 :: [(b14, row [.int .i64 v139.room, .map (some b140)] 62)] :: Φ) w ∧ CellAt p292 (Int.toNat (IntKind.wrap .i64 ((IntKind.wrap .i64 (2 * (Int.tmod (IntKind.wrap .i64 ((Int.tmod x170.At.Request 3) + 3)) 3))) + (Int.tmod (IntKind.wrap .i64 ((Int.tmod x170.At.Layer 2) + 2)) 2)))) (.pointer (some ⟨b208, 0, none⟩)) ∧ OwnE 1 RO_P_cache_Store (Mem.add F w131) 24 a290 c291 v289 p292) ?_ ?_
                              · refine WC.unE 0 hE212 rfl (fun y309 p310 p311 hp312 hO313 hI314 => ?_)
                                obtain ⟨x317, hx318, hr⟩ := bind_some' hr
                                obtain ⟨b319, hy320⟩ := hI314.ptr ptr_P_cache_Store hx318
                                obtain ⟨x321, hx322, hr⟩ := bind_some' hr
                                obtain ⟨b323, hy324⟩ := hI314.ptr ptr_P_cache_Store hx322
                                refine WC.drawA (Sat (Mem.add (Mem.add F χ) w131) (p310 :: [(b191, row [.int .i64 x186.Request, .int .i64 x186.Layer, .int .i64 x186.Place] 30)] :: [(b181, row [.int .i64 x170.Kind, .int .i64 x170.At.Request, .int .i64 x170.At.Layer, .int .i64 x170.At.Place, .slice a175 x170.K.length c176, .slice a178 x170.V.length c179] 33)] :: [(b14, row [.int .i64 v139.room, .map (some b140)] 62)] :: Φ)) (fun _ h => (h.arrange 2 6 [0, 1] [2, 4, 5, 7] (by decide))) mixed rfl ?_
                                refine WA.lin (fuel := 6) [(0, true), (1, true), (2, true), (3, true), (4, true), (5, true), (8, true), (9, true), (10, true), (11, true), (12, true), (13, true), (14, true)] (by kernel_rfl) (by kernel_rfl) ?_
                                refine WO.move rfl rfl rfl rfl ?_
                                refine WO.move rfl rfl rfl rfl ?_
                                refine WO.bin rfl rfl rfl rfl rfl rfl ?_
                                refine WO.indexQ hO313 hy320 rfl rfl rfl rfl (hI314.len) rfl Try.underlying28 sz_24 (fun b325 cs326 hb327 h328 hq329 => ?_)
                                cases h328
                                obtain rfl : b203 = b325 := by cases hb327; rfl
                                refine WO.loadQY 0 0 hq329 rfl rfl rfl rfl rfl rfl sc_24 rfl ?_
                                refine WO.move rfl rfl rfl rfl ?_
                                refine WO.move rfl rfl rfl rfl ?_
                                refine WO.move rfl rfl rfl rfl ?_
                                refine WO.bin rfl rfl rfl rfl rfl rfl ?_
                                refine WO.bin rfl rfl rfl rfl rfl rfl ?_
                                refine WO.indexQ hO313 hy324 rfl rfl rfl rfl (hI314.len) rfl Try.underlying28 sz_24 (fun b330 cs331 hb332 h333 hq334 => ?_)
                                cases h333
                                obtain rfl : b203 = b330 := by cases hb332; rfl
                                refine WO.loadQY 0 0 hq334 rfl rfl rfl rfl rfl rfl sc_24 rfl ?_
                                refine WO.move rfl rfl rfl rfl ?_
                                refine WO.done ?_
                                refine WA.of ?_
                                refine WA.two (fuel := 5) 6 15 (by kernel_rfl) ?_ ?_
                                · refine WO.buildSl (e := 3) (vs := [.tmp 111]) [0] [.int .i64 (Int.tmod (IntKind.wrap .i64 ((Int.tmod x170.At.Request 3) + 3)) 3)] rfl rfl rfl rfl rfl (fun _ => by kernel_rfl) (fun _ _ h => (h.arrange 2 7 [0, 1] [3, 5, 6, 8] (by decide))) (fun b335 => ?_)
                                  refine WO.done ?_
                                  refine WA.of ?_
                                  refine WA.two (fuel := 4) 7 15 (by kernel_rfl) ?_ ?_
                                  · refine WO.openI 2 hI314 rfl hx318 (fun y337 p338 p339 hy340 hR341 hH342 => ?_)
                                    obtain ⟨b343, b344, p345, rfl, rfl, hm346⟩ := hR341
                                    obtain rfl : b319 = b343 := ptr_same hy320 hy340
                                    refine WO.flatE [[(b319, row [.int .i64 x317.room, .map (some b344)] 62)], p345] (p339 :: [(b335, row [.int .i64 (Int.tmod (IntKind.wrap .i64 ((Int.tmod x170.At.Request 3) + 3)) 3)] 3)] :: p310 :: [(b191, row [.int .i64 x186.Request, .int .i64 x186.Layer, .int .i64 x186.Place] 30)] :: [(b181, row [.int .i64 x170.Kind, .int .i64 x170.At.Request, .int .i64 x170.At.Layer, .int .i64 x170.At.Place, .slice a175 x170.K.length c176, .slice a178 x170.V.length c179] 33)] :: p141 :: [(b14, row [.int .i64 v139.room, .map (some b140)] 62)] :: Φ) ?_
                                    have ho350 : OwnL 1 (RInt .i64) F 3 (some ⟨b335, 0, none⟩) 1 [(Int.tmod (IntKind.wrap .i64 ((Int.tmod x170.At.Request 3) + 3)) 3)] [(b335, row [.int .i64 (Int.tmod (IntKind.wrap .i64 ((Int.tmod x170.At.Request 3) + 3)) 3)] 3)] := ⟨Nat.le_refl _, .inr ⟨_, [[.int .i64 (Int.tmod (IntKind.wrap .i64 ((Int.tmod x170.At.Request 3) + 3)) 3)]], [], rfl, rfl, (Rs.cons (x := (Int.tmod (IntKind.wrap .i64 ((Int.tmod x170.At.Request 3) + 3)) 3)) (cs := [.int .i64 (Int.tmod (IntKind.wrap .i64 ((Int.tmod x170.At.Request 3) + 3)) 3)]) rfl rfl rfl Rs.nil), rfl⟩⟩
                                    obtain ⟨x352, hx353, hr⟩ := bind_some' hr
                                    refine WO.call rfl rfl rfl rfl rfl cl_9 (CallsRet.lay 2 9 1 [5, 0] [2, 3, 1, 4, 6, 7, 8, 9, 10] (by decide) (Mem.add (Mem.add F w131) (List.flatten [[(b335, row [.int .i64 (Int.tmod (IntKind.wrap .i64 ((Int.tmod x170.At.Request 3) + 3)) 3)] 3)]])) ([(b319, row [.int .i64 x317.room, .map (some b344)] 62)] :: p345 :: χ :: p339 :: p310 :: [(b191, row [.int .i64 x186.Request, .int .i64 x186.Layer, .int .i64 x186.Place] 30)] :: [(b181, row [.int .i64 x170.Kind, .int .i64 x170.At.Request, .int .i64 x170.At.Layer, .int .i64 x170.At.Place, .slice a175 x170.K.length c176, .slice a178 x170.V.length c179] 33)] :: p141 :: [(b14, row [.int .i64 v139.room, .map (some b140)] 62)] :: Φ) rfl rfl (cache_Store_Drop_vm_ok (F := (Mem.add F w131)) (χ := (List.flatten [[(b335, row [.int .i64 (Int.tmod (IntKind.wrap .i64 ((Int.tmod x170.At.Request 3) + 3)) 3)] 3)]])) hm346 (((OwnL.re (G := F) (const_int _) ho350).rd (mono_int _)).mono (mono_int _) (Mem.le.trans (Mem.le_pick (Mem.add (Mem.add F w131) [(b335, row [.int .i64 (Int.tmod (IntKind.wrap .i64 ((Int.tmod x170.At.Request 3) + 3)) 3)] 3)]) 2 [0] (by decide)) (Mem.le_gather (Mem.add (Mem.add F w131) [(b335, row [.int .i64 (Int.tmod (IntKind.wrap .i64 ((Int.tmod x170.At.Request 3) + 3)) 3)] 3)]) 1))) hx353 (χ :: p339 :: p310 :: [(b191, row [.int .i64 x186.Request, .int .i64 x186.Layer, .int .i64 x186.Place] 30)] :: [(b181, row [.int .i64 x170.Kind, .int .i64 x170.At.Request, .int .i64 x170.At.Layer, .int .i64 x170.At.Place, .slice a175 x170.K.length c176, .slice a178 x170.V.length c179] 33)] :: p141 :: [(b14, row [.int .i64 v139.room, .map (some b140)] 62)] :: Φ))) ?_
                                    rintro _ _ ⟨b354, p355, rfl, hs358, hm357⟩
                                    have hs358 := Sat.unlay (Mem.add F w131) [[(b335, row [.int .i64 (Int.tmod (IntKind.wrap .i64 ((Int.tmod x170.At.Request 3) + 3)) 3)] 3)]] hs358
                                    have hs358 := (hs358.arrange 2 9 [1, 4] [3, 2, 5, 0, 6, 7, 8, 9, 10] (by decide))
                                    refine ⟨(Mem.add (Mem.add F χ) w131), (p355 :: [(b319, row [.int .i64 x352.2.room, .map (some b354)] 62)] :: p339 :: [(b335, row [.int .i64 (Int.tmod (IntKind.wrap .i64 ((Int.tmod x170.At.Request 3) + 3)) 3)] 3)] :: p310 :: [(b191, row [.int .i64 x186.Request, .int .i64 x186.Layer, .int .i64 x186.Place] 30)] :: [(b181, row [.int .i64 x170.Kind, .int .i64 x170.At.Request, .int .i64 x170.At.Layer, .int .i64 x170.At.Place, .slice a175 x170.K.length c176, .slice a178 x170.V.length c179] 33)] :: p141 :: [(b14, row [.int .i64 v139.room, .map (some b140)] 62)] :: Φ), hs358, (hs358.arrange 2 9 [0, 1] [6, 7, 8, 10] (by decide)), ?_⟩
                                    refine WO.done ?_
                                    refine WA.of ?_
                                    refine WA.lin (fuel := 0) [(15, false), (16, false), (17, true), (18, true)] (by kernel_rfl) (by kernel_rfl) ?_
                                    refine WO.buildSl (e := 3) (vs := [.tmp 120]) [0] [.int .i64 (Int.tmod (IntKind.wrap .i64 ((Int.tmod x170.At.Request 3) + 3)) 3)] rfl rfl rfl rfl rfl (fun _ => by kernel_rfl) (fun _ _ h => (h.arrange 2 10 [0, 1] [7, 8, 9, 11] (by decide))) (fun b359 => ?_)
                                    refine WO.arrange 2 10 [0, 1] [4, 3, 5, 2, 6, 7, 8, 9, 10, 11] (by decide) (Mem.add (Mem.add F χ) w131) ([(b319, row [.int .i64 x352.2.room, .map (some b354)] 62)] :: p355 :: p339 :: [(b359, row [.int .i64 (Int.tmod (IntKind.wrap .i64 ((Int.tmod x170.At.Request 3) + 3)) 3)] 3)] :: [(b335, row [.int .i64 (Int.tmod (IntKind.wrap .i64 ((Int.tmod x170.At.Request 3) + 3)) 3)] 3)] :: p310 :: [(b191, row [.int .i64 x186.Request, .int .i64 x186.Layer, .int .i64 x186.Place] 30)] :: [(b181, row [.int .i64 x170.Kind, .int .i64 x170.At.Request, .int .i64 x170.At.Layer, .int .i64 x170.At.Place, .slice a175 x170.K.length c176, .slice a178 x170.V.length c179] 33)] :: p141 :: [(b14, row [.int .i64 v139.room, .map (some b140)] 62)] :: Φ) rfl rfl ?_
                                    refine WO.closeI (F1 := (Mem.add F w131)) [[(b319, row [.int .i64 x352.2.room, .map (some b354)] 62)], p355] ([(b359, row [.int .i64 (Int.tmod (IntKind.wrap .i64 ((Int.tmod x170.At.Request 3) + 3)) 3)] 3)] :: [(b335, row [.int .i64 (Int.tmod (IntKind.wrap .i64 ((Int.tmod x170.At.Request 3) + 3)) 3)] 3)] :: p310 :: [(b191, row [.int .i64 x186.Request, .int .i64 x186.Layer, .int .i64 x186.Place] 30)] :: [(b181, row [.int .i64 x170.Kind, .int .i64 x170.At.Request, .int .i64 x170.At.Layer, .int .i64 x170.At.Place, .slice a175 x170.K.length c176, .slice a178 x170.V.length c179] 33)] :: p141 :: [(b14, row [.int .i64 v139.room, .map (some b140)] 62)] :: Φ) x352.2 hH342 hy340 ⟨_, _, _, rfl, rfl, hm357⟩ (fun p361 hI362 => ?_)
                                    obtain ⟨x364, hx365, hr⟩ := bind_some' hr
                                    refine WO.openI 0 hI362 rfl hx365 (fun y366 p367 p368 hy369 hR370 hH371 => ?_)
                                    obtain ⟨b372, b373, p374, rfl, rfl, hm375⟩ := hR370
                                    obtain rfl : b323 = b372 := ptr_same hy324 hy369
                                    refine WO.flatE [[(b323, row [.int .i64 x364.room, .map (some b373)] 62)], p374] (p368 :: [(b359, row [.int .i64 (Int.tmod (IntKind.wrap .i64 ((Int.tmod x170.At.Request 3) + 3)) 3)] 3)] :: [(b335, row [.int .i64 (Int.tmod (IntKind.wrap .i64 ((Int.tmod x170.At.Request 3) + 3)) 3)] 3)] :: p310 :: [(b191, row [.int .i64 x186.Request, .int .i64 x186.Layer, .int .i64 x186.Place] 30)] :: [(b181, row [.int .i64 x170.Kind, .int .i64 x170.At.Request, .int .i64 x170.At.Layer, .int .i64 x170.At.Place, .slice a175 x170.K.length c176, .slice a178 x170.V.length c179] 33)] :: p141 :: [(b14, row [.int .i64 v139.room, .map (some b140)] 62)] :: Φ) ?_
                                    have ho379 : OwnL 1 (RInt .i64) F 3 (some ⟨b359, 0, none⟩) 1 [(Int.tmod (IntKind.wrap .i64 ((Int.tmod x170.At.Request 3) + 3)) 3)] [(b359, row [.int .i64 (Int.tmod (IntKind.wrap .i64 ((Int.tmod x170.At.Request 3) + 3)) 3)] 3)] := ⟨Nat.le_refl _, .inr ⟨_, [[.int .i64 (Int.tmod (IntKind.wrap .i64 ((Int.tmod x170.At.Request 3) + 3)) 3)]], [], rfl, rfl, (Rs.cons (x := (Int.tmod (IntKind.wrap .i64 ((Int.tmod x170.At.Request 3) + 3)) 3)) (cs := [.int .i64 (Int.tmod (IntKind.wrap .i64 ((Int.tmod x170.At.Request 3) + 3)) 3)]) rfl rfl rfl Rs.nil), rfl⟩⟩
                                    obtain ⟨x381, hx382, hr⟩ := bind_some' hr
                                    refine WO.call rfl rfl rfl rfl rfl cl_9 (CallsRet.lay 2 10 1 [5, 0] [2, 3, 1, 4, 6, 7, 8, 9, 10, 11] (by decide) (Mem.add (Mem.add F w131) (List.flatten [[(b359, row [.int .i64 (Int.tmod (IntKind.wrap .i64 ((Int.tmod x170.At.Request 3) + 3)) 3)] 3)]])) ([(b323, row [.int .i64 x364.room, .map (some b373)] 62)] :: p374 :: χ :: p368 :: [(b335, row [.int .i64 (Int.tmod (IntKind.wrap .i64 ((Int.tmod x170.At.Request 3) + 3)) 3)] 3)] :: p310 :: [(b191, row [.int .i64 x186.Request, .int .i64 x186.Layer, .int .i64 x186.Place] 30)] :: [(b181, row [.int .i64 x170.Kind, .int .i64 x170.At.Request, .int .i64 x170.At.Layer, .int .i64 x170.At.Place, .slice a175 x170.K.length c176, .slice a178 x170.V.length c179] 33)] :: p141 :: [(b14, row [.int .i64 v139.room, .map (some b140)] 62)] :: Φ) rfl rfl (cache_Store_Drop_vm_ok (F := (Mem.add F w131)) (χ := (List.flatten [[(b359, row [.int .i64 (Int.tmod (IntKind.wrap .i64 ((Int.tmod x170.At.Request 3) + 3)) 3)] 3)]])) hm375 (((OwnL.re (G := F) (const_int _) ho379).rd (mono_int _)).mono (mono_int _) (Mem.le.trans (Mem.le_pick (Mem.add (Mem.add F w131) [(b359, row [.int .i64 (Int.tmod (IntKind.wrap .i64 ((Int.tmod x170.At.Request 3) + 3)) 3)] 3)]) 2 [0] (by decide)) (Mem.le_gather (Mem.add (Mem.add F w131) [(b359, row [.int .i64 (Int.tmod (IntKind.wrap .i64 ((Int.tmod x170.At.Request 3) + 3)) 3)] 3)]) 1))) hx382 (χ :: p368 :: [(b335, row [.int .i64 (Int.tmod (IntKind.wrap .i64 ((Int.tmod x170.At.Request 3) + 3)) 3)] 3)] :: p310 :: [(b191, row [.int .i64 x186.Request, .int .i64 x186.Layer, .int .i64 x186.Place] 30)] :: [(b181, row [.int .i64 x170.Kind, .int .i64 x170.At.Request, .int .i64 x170.At.Layer, .int .i64 x170.At.Place, .slice a175 x170.K.length c176, .slice a178 x170.V.length c179] 33)] :: p141 :: [(b14, row [.int .i64 v139.room, .map (some b140)] 62)] :: Φ))) ?_
                                    rintro _ _ ⟨b383, p384, rfl, hs387, hm386⟩
                                    have hs387 := Sat.unlay (Mem.add F w131) [[(b359, row [.int .i64 (Int.tmod (IntKind.wrap .i64 ((Int.tmod x170.At.Request 3) + 3)) 3)] 3)]] hs387
                                    have hs387 := (hs387.arrange 2 10 [1, 4] [3, 2, 5, 0, 6, 7, 8, 9, 10, 11] (by decide))
                                    refine ⟨(Mem.add (Mem.add F χ) w131), (p384 :: [(b323, row [.int .i64 x381.2.room, .map (some b383)] 62)] :: p368 :: [(b359, row [.int .i64 (Int.tmod (IntKind.wrap .i64 ((Int.tmod x170.At.Request 3) + 3)) 3)] 3)] :: [(b335, row [.int .i64 (Int.tmod (IntKind.wrap .i64 ((Int.tmod x170.At.Request 3) + 3)) 3)] 3)] :: p310 :: [(b191, row [.int .i64 x186.Request, .int .i64 x186.Layer, .int .i64 x186.Place] 30)] :: [(b181, row [.int .i64 x170.Kind, .int .i64 x170.At.Request, .int .i64 x170.At.Layer, .int .i64 x170.At.Place, .slice a175 x170.K.length c176, .slice a178 x170.V.length c179] 33)] :: p141 :: [(b14, row [.int .i64 v139.room, .map (some b140)] 62)] :: Φ), hs387, (hs387.arrange 2 10 [0, 1] [7, 8, 9, 11] (by decide)), ?_⟩
                                    refine WO.bin rfl rfl rfl rfl rfl rfl ?_
                                    refine WO.assign rfl rfl rfl rfl ?_
                                    refine WO.done ?_
                                    refine WA.of ?_
                                    refine WA.done (by kernel_rfl) ?_
                                    refine At.arrange 2 10 [0, 1] [3, 2, 4, 5, 6, 7, 8, 9, 10, 11] (by decide) (Mem.add (Mem.add F χ) w131) ([(b323, row [.int .i64 x381.2.room, .map (some b383)] 62)] :: p384 :: p368 :: [(b359, row [.int .i64 (Int.tmod (IntKind.wrap .i64 ((Int.tmod x170.At.Request 3) + 3)) 3)] 3)] :: [(b335, row [.int .i64 (Int.tmod (IntKind.wrap .i64 ((Int.tmod x170.At.Request 3) + 3)) 3)] 3)] :: p310 :: [(b191, row [.int .i64 x186.Request, .int .i64 x186.Layer, .int .i64 x186.Place] 30)] :: [(b181, row [.int .i64 x170.Kind, .int .i64 x170.At.Request, .int .i64 x170.At.Layer, .int .i64 x170.At.Place, .slice a175 x170.K.length c176, .slice a178 x170.V.length c179] 33)] :: p141 :: [(b14, row [.int .i64 v139.room, .map (some b140)] 62)] :: Φ) rfl rfl ?_
                                    refine At.closeI (F1 := (Mem.add F w131)) [[(b323, row [.int .i64 x381.2.room, .map (some b383)] 62)], p384] ([(b359, row [.int .i64 (Int.tmod (IntKind.wrap .i64 ((Int.tmod x170.At.Request 3) + 3)) 3)] 3)] :: [(b335, row [.int .i64 (Int.tmod (IntKind.wrap .i64 ((Int.tmod x170.At.Request 3) + 3)) 3)] 3)] :: p310 :: [(b191, row [.int .i64 x186.Request, .int .i64 x186.Layer, .int .i64 x186.Place] 30)] :: [(b181, row [.int .i64 x170.Kind, .int .i64 x170.At.Request, .int .i64 x170.At.Layer, .int .i64 x170.At.Place, .slice a175 x170.K.length c176, .slice a178 x170.V.length c179] 33)] :: p141 :: [(b14, row [.int .i64 v139.room, .map (some b140)] 62)] :: Φ) x381.2 hH371 hy369 ⟨_, _, _, rfl, rfl, hm386⟩ (fun p388 hI389 => ?_)
                                    refine At.arrange 2 8 [0, 1] [5, 2, 3, 4, 6, 7, 8, 9] (by decide) (Mem.add (Mem.add F χ) w131) (p310 :: p388 :: [(b359, row [.int .i64 (Int.tmod (IntKind.wrap .i64 ((Int.tmod x170.At.Request 3) + 3)) 3)] 3)] :: [(b335, row [.int .i64 (Int.tmod (IntKind.wrap .i64 ((Int.tmod x170.At.Request 3) + 3)) 3)] 3)] :: [(b191, row [.int .i64 x186.Request, .int .i64 x186.Layer, .int .i64 x186.Place] 30)] :: [(b181, row [.int .i64 x170.Kind, .int .i64 x170.At.Request, .int .i64 x170.At.Layer, .int .i64 x170.At.Place, .slice a175 x170.K.length c176, .slice a178 x170.V.length c179] 33)] :: p141 :: [(b14, row [.int .i64 v139.room, .map (some b140)] 62)] :: Φ) rfl rfl ?_
                                    refine At.packE ([(b359, row [.int .i64 (Int.tmod (IntKind.wrap .i64 ((Int.tmod x170.At.Request 3) + 3)) 3)] 3)] :: [(b335, row [.int .i64 (Int.tmod (IntKind.wrap .i64 ((Int.tmod x170.At.Request 3) + 3)) 3)] 3)] :: [(b191, row [.int .i64 x186.Request, .int .i64 x186.Layer, .int .i64 x186.Place] 30)] :: [(b181, row [.int .i64 x170.Kind, .int .i64 x170.At.Request, .int .i64 x170.At.Layer, .int .i64 x170.At.Place, .slice a175 x170.K.length c176, .slice a178 x170.V.length c179] 33)] :: p141 :: [(b14, row [.int .i64 v139.room, .map (some b140)] 62)] :: Φ) (hO313.raw (G := (Mem.add F w131))) hI389 (fun p391 hp392 hE393 => ?_)
                                    have hc394 : CellAt p391 (Int.toNat (IntKind.wrap .i64 ((IntKind.wrap .i64 (2 * (Int.tmod (IntKind.wrap .i64 ((Int.tmod x170.At.Request 3) + 3)) 3))) + (Int.tmod (IntKind.wrap .i64 ((Int.tmod x170.At.Layer 2) + 2)) 2)))) (.pointer (some ⟨b208, 0, none⟩)) := by rw [hp392]; exact CellAt.keep hp312 hO313 hI314 hc213 _
                                    refine At.relen 5 (k' := (List.set (List.set v132 (Int.toNat (IntKind.wrap .i64 (2 * (Int.tmod (IntKind.wrap .i64 ((Int.tmod x170.At.Request 3) + 3)) 3)))) x352.2) (Int.toNat (IntKind.wrap .i64 ((IntKind.wrap .i64 (2 * (Int.tmod (IntKind.wrap .i64 ((Int.tmod x170.At.Request 3) + 3)) 3))) + 1))) x381.2).length) rfl (by simp only [List.length_set]) ?_
                                    refine At.relen 96 (k' := (List.set (List.set v132 (Int.toNat (IntKind.wrap .i64 (2 * (Int.tmod (IntKind.wrap .i64 ((Int.tmod x170.At.Request 3) + 3)) 3)))) x352.2) (Int.toNat (IntKind.wrap .i64 ((IntKind.wrap .i64 (2 * (Int.tmod (IntKind.wrap .i64 ((Int.tmod x170.At.Request 3) + 3)) 3))) + 1))) x381.2).length) rfl (by simp only [List.length_set]) ?_
                                    refine At.relen 106 (k' := (List.set (List.set v132 (Int.toNat (IntKind.wrap .i64 (2 * (Int.tmod (IntKind.wrap .i64 ((Int.tmod x170.At.Request 3) + 3)) 3)))) x352.2) (Int.toNat (IntKind.wrap .i64 ((IntKind.wrap .i64 (2 * (Int.tmod (IntKind.wrap .i64 ((Int.tmod x170.At.Request 3) + 3)) 3))) + 1))) x381.2).length) rfl (by simp only [List.length_set]) ?_
                                    refine At.relen 114 (k' := (List.set (List.set v132 (Int.toNat (IntKind.wrap .i64 (2 * (Int.tmod (IntKind.wrap .i64 ((Int.tmod x170.At.Request 3) + 3)) 3)))) x352.2) (Int.toNat (IntKind.wrap .i64 ((IntKind.wrap .i64 (2 * (Int.tmod (IntKind.wrap .i64 ((Int.tmod x170.At.Request 3) + 3)) 3))) + 1))) x381.2).length) rfl (by simp only [List.length_set]) ?_
                                    refine At.seq_at ?_
                                    exact fun a w hc hs => ⟨(List.set (List.set v132 (Int.toNat (IntKind.wrap .i64 (2 * (Int.tmod (IntKind.wrap .i64 ((Int.tmod x170.At.Request 3) + 3)) 3)))) x352.2) (Int.toNat (IntKind.wrap .i64 ((IntKind.wrap .i64 (2 * (Int.tmod (IntKind.wrap .i64 ((Int.tmod x170.At.Request 3) + 3)) 3))) + 1))) x381.2), (IntKind.wrap .i64 (x352.1 + x381.1)), (some ⟨b203, 0, none⟩), c134, p391, hr, (hc.keep (hc.keep (hc.keep (hc.keep (hc.keep (hc.keep (hc.keep (hc.keep hc.nil (t := 15) rfl) (t := 14) rfl) (t := 12) rfl) (t := 11) rfl) (t := 9) rfl) (t := 5) rfl) (t := 3) rfl) (t := 0) rfl), (hs.arrange 2 7 [0, 1] [2, 5, 6, 7, 8] (by decide)), hc394, hE393⟩
                                  · obtain ⟨x352, hq395, hr⟩ := bind_some' hr
                                    obtain ⟨x364, hq396, hr⟩ := bind_some' hr
                                    obtain ⟨x381, hq397, hr⟩ := bind_some' hr
                                    have hr : ((cache_Store_Drop_vm x317 [(Int.tmod (IntKind.wrap .i64 ((Int.tmod x170.At.Request 3) + 3)) 3)]).bind fun x354 => (getI (List.set v132 (Int.toNat (IntKind.wrap .i64 (2 * (Int.tmod (IntKind.wrap .i64 ((Int.tmod x170.At.Request 3) + 3)) 3)))) x354.2) (IntKind.wrap .i64 ((IntKind.wrap .i64 (2 * (Int.tmod (IntKind.wrap .i64 ((Int.tmod x170.At.Request 3) + 3)) 3))) + 1))).bind fun x364 => (cache_Store_Drop_vm x364 [(Int.tmod (IntKind.wrap .i64 ((Int.tmod x170.At.Request 3) + 3)) 3)]).bind fun x381 => law12_CacheApart_k13 v138 v139 x170 (List.set (List.set v132 (Int.toNat (IntKind.wrap .i64 (2 * (Int.tmod (IntKind.wrap .i64 ((Int.tmod x170.At.Request 3) + 3)) 3)))) x354.2) (Int.toNat (IntKind.wrap .i64 ((IntKind.wrap .i64 (2 * (Int.tmod (IntKind.wrap .i64 ((Int.tmod x170.At.Request 3) + 3)) 3))) + 1))) x381.2) (IntKind.wrap .i64 (x354.1 + x381.1))) = some r10 := (bind_intro hq395 (bind_intro hq396 (bind_intro hq397 hr)))
                                    refine WO.buildSl (e := 3) (vs := [.tmp 120]) [0] [.int .i64 (Int.tmod (IntKind.wrap .i64 ((Int.tmod x170.At.Request 3) + 3)) 3)] rfl rfl rfl rfl rfl (fun _ => by kernel_rfl) (fun _ _ h => (h.arrange 2 8 [0, 1] [4, 6, 7, 9] (by decide))) (fun b337 => ?_)
                                    refine WO.done ?_
                                    refine WA.of ?_
                                    refine WA.lin (fuel := 0) [(7, false), (16, false), (17, true), (18, true)] (by kernel_rfl) (by kernel_rfl) ?_
                                    refine WO.openI 3 hI314 rfl hx318 (fun y339 p340 p341 hy342 hR343 hH344 => ?_)
                                    obtain ⟨b345, b346, p347, rfl, rfl, hm348⟩ := hR343
                                    obtain rfl : b319 = b345 := ptr_same hy320 hy342
                                    refine WO.flatE [[(b319, row [.int .i64 x317.room, .map (some b346)] 62)], p347] (p341 :: [(b337, row [.int .i64 (Int.tmod (IntKind.wrap .i64 ((Int.tmod x170.At.Request 3) + 3)) 3)] 3)] :: [(b335, row [.int .i64 (Int.tmod (IntKind.wrap .i64 ((Int.tmod x170.At.Request 3) + 3)) 3)] 3)] :: p310 :: [(b191, row [.int .i64 x186.Request, .int .i64 x186.Layer, .int .i64 x186.Place] 30)] :: [(b181, row [.int .i64 x170.Kind, .int .i64 x170.At.Request, .int .i64 x170.At.Layer, .int .i64 x170.At.Place, .slice a175 x170.K.length c176, .slice a178 x170.V.length c179] 33)] :: p141 :: [(b14, row [.int .i64 v139.room, .map (some b140)] 62)] :: Φ) ?_
                                    have ho352 : OwnL 1 (RInt .i64) F 3 (some ⟨b335, 0, none⟩) 1 [(Int.tmod (IntKind.wrap .i64 ((Int.tmod x170.At.Request 3) + 3)) 3)] [(b335, row [.int .i64 (Int.tmod (IntKind.wrap .i64 ((Int.tmod x170.At.Request 3) + 3)) 3)] 3)] := ⟨Nat.le_refl _, .inr ⟨_, [[.int .i64 (Int.tmod (IntKind.wrap .i64 ((Int.tmod x170.At.Request 3) + 3)) 3)]], [], rfl, rfl, (Rs.cons (x := (Int.tmod (IntKind.wrap .i64 ((Int.tmod x170.At.Request 3) + 3)) 3)) (cs := [.int .i64 (Int.tmod (IntKind.wrap .i64 ((Int.tmod x170.At.Request 3) + 3)) 3)]) rfl rfl rfl Rs.nil), rfl⟩⟩
                                    obtain ⟨x354, hx355, hr⟩ := bind_some' hr
                                    refine WO.call rfl rfl rfl rfl rfl cl_9 (CallsRet.lay 2 10 1 [6, 0] [2, 3, 1, 4, 5, 7, 8, 9, 10, 11] (by decide) (Mem.add (Mem.add F w131) (List.flatten [[(b335, row [.int .i64 (Int.tmod (IntKind.wrap .i64 ((Int.tmod x170.At.Request 3) + 3)) 3)] 3)]])) ([(b319, row [.int .i64 x317.room, .map (some b346)] 62)] :: p347 :: χ :: p341 :: [(b337, row [.int .i64 (Int.tmod (IntKind.wrap .i64 ((Int.tmod x170.At.Request 3) + 3)) 3)] 3)] :: p310 :: [(b191, row [.int .i64 x186.Request, .int .i64 x186.Layer, .int .i64 x186.Place] 30)] :: [(b181, row [.int .i64 x170.Kind, .int .i64 x170.At.Request, .int .i64 x170.At.Layer, .int .i64 x170.At.Place, .slice a175 x170.K.length c176, .slice a178 x170.V.length c179] 33)] :: p141 :: [(b14, row [.int .i64 v139.room, .map (some b140)] 62)] :: Φ) rfl rfl (cache_Store_Drop_vm_ok (F := (Mem.add F w131)) (χ := (List.flatten [[(b335, row [.int .i64 (Int.tmod (IntKind.wrap .i64 ((Int.tmod x170.At.Request 3) + 3)) 3)] 3)]])) hm348 (((OwnL.re (G := F) (const_int _) ho352).rd (mono_int _)).mono (mono_int _) (Mem.le.trans (Mem.le_pick (Mem.add (Mem.add F w131) [(b335, row [.int .i64 (Int.tmod (IntKind.wrap .i64 ((Int.tmod x170.At.Request 3) + 3)) 3)] 3)]) 2 [0] (by decide)) (Mem.le_gather (Mem.add (Mem.add F w131) [(b335, row [.int .i64 (Int.tmod (IntKind.wrap .i64 ((Int.tmod x170.At.Request 3) + 3)) 3)] 3)]) 1))) hx355 (χ :: p341 :: [(b337, row [.int .i64 (Int.tmod (IntKind.wrap .i64 ((Int.tmod x170.At.Request 3) + 3)) 3)] 3)] :: p310 :: [(b191, row [.int .i64 x186.Request, .int .i64 x186.Layer, .int .i64 x186.Place] 30)] :: [(b181, row [.int .i64 x170.Kind, .int .i64 x170.At.Request, .int .i64 x170.At.Layer, .int .i64 x170.At.Place, .slice a175 x170.K.length c176, .slice a178 x170.V.length c179] 33)] :: p141 :: [(b14, row [.int .i64 v139.room, .map (some b140)] 62)] :: Φ))) ?_
                                    rintro _ _ ⟨b356, p357, rfl, hs360, hm359⟩
                                    have hs360 := Sat.unlay (Mem.add F w131) [[(b335, row [.int .i64 (Int.tmod (IntKind.wrap .i64 ((Int.tmod x170.At.Request 3) + 3)) 3)] 3)]] hs360
                                    have hs360 := (hs360.arrange 2 10 [1, 4] [3, 2, 5, 6, 0, 7, 8, 9, 10, 11] (by decide))
                                    refine ⟨(Mem.add (Mem.add F χ) w131), (p357 :: [(b319, row [.int .i64 x354.2.room, .map (some b356)] 62)] :: p341 :: [(b337, row [.int .i64 (Int.tmod (IntKind.wrap .i64 ((Int.tmod x170.At.Request 3) + 3)) 3)] 3)] :: [(b335, row [.int .i64 (Int.tmod (IntKind.wrap .i64 ((Int.tmod x170.At.Request 3) + 3)) 3)] 3)] :: p310 :: [(b191, row [.int .i64 x186.Request, .int .i64 x186.Layer, .int .i64 x186.Place] 30)] :: [(b181, row [.int .i64 x170.Kind, .int .i64 x170.At.Request, .int .i64 x170.At.Layer, .int .i64 x170.At.Place, .slice a175 x170.K.length c176, .slice a178 x170.V.length c179] 33)] :: p141 :: [(b14, row [.int .i64 v139.room, .map (some b140)] 62)] :: Φ), hs360, (hs360.arrange 2 10 [0, 1] [7, 8, 9, 11] (by decide)), ?_⟩
                                    refine WO.arrange 2 10 [0, 1] [3, 2, 4, 5, 6, 7, 8, 9, 10, 11] (by decide) (Mem.add (Mem.add F χ) w131) ([(b319, row [.int .i64 x354.2.room, .map (some b356)] 62)] :: p357 :: p341 :: [(b337, row [.int .i64 (Int.tmod (IntKind.wrap .i64 ((Int.tmod x170.At.Request 3) + 3)) 3)] 3)] :: [(b335, row [.int .i64 (Int.tmod (IntKind.wrap .i64 ((Int.tmod x170.At.Request 3) + 3)) 3)] 3)] :: p310 :: [(b191, row [.int .i64 x186.Request, .int .i64 x186.Layer, .int .i64 x186.Place] 30)] :: [(b181, row [.int .i64 x170.Kind, .int .i64 x170.At.Request, .int .i64 x170.At.Layer, .int .i64 x170.At.Place, .slice a175 x170.K.length c176, .slice a178 x170.V.length c179] 33)] :: p141 :: [(b14, row [.int .i64 v139.room, .map (some b140)] 62)] :: Φ) rfl rfl ?_
                                    refine WO.closeI (F1 := (Mem.add F w131)) [[(b319, row [.int .i64 x354.2.room, .map (some b356)] 62)], p357] ([(b337, row [.int .i64 (Int.tmod (IntKind.wrap .i64 ((Int.tmod x170.At.Request 3) + 3)) 3)] 3)] :: [(b335, row [.int .i64 (Int.tmod (IntKind.wrap .i64 ((Int.tmod x170.At.Request 3) + 3)) 3)] 3)] :: p310 :: [(b191, row [.int .i64 x186.Request, .int .i64 x186.Layer, .int .i64 x186.Place] 30)] :: [(b181, row [.int .i64 x170.Kind, .int .i64 x170.At.Request, .int .i64 x170.At.Layer, .int .i64 x170.At.Place, .slice a175 x170.K.length c176, .slice a178 x170.V.length c179] 33)] :: p141 :: [(b14, row [.int .i64 v139.room, .map (some b140)] 62)] :: Φ) x354.2 hH344 hy342 ⟨_, _, _, rfl, rfl, hm359⟩ (fun p361 hI362 => ?_)
                                    obtain ⟨x364, hx365, hr⟩ := bind_some' hr
                                    refine WO.openI 0 hI362 rfl hx365 (fun y366 p367 p368 hy369 hR370 hH371 => ?_)
                                    obtain ⟨b372, b373, p374, rfl, rfl, hm375⟩ := hR370
                                    obtain rfl : b323 = b372 := ptr_same hy324 hy369
                                    refine WO.flatE [[(b323, row [.int .i64 x364.room, .map (some b373)] 62)], p374] (p368 :: [(b337, row [.int .i64 (Int.tmod (IntKind.wrap .i64 ((Int.tmod x170.At.Request 3) + 3)) 3)] 3)] :: [(b335, row [.int .i64 (Int.tmod (IntKind.wrap .i64 ((Int.tmod x170.At.Request 3) + 3)) 3)] 3)] :: p310 :: [(b191, row [.int .i64 x186.Request, .int .i64 x186.Layer, .int .i64 x186.Place] 30)] :: [(b181, row [.int .i64 x170.Kind, .int .i64 x170.At.Request, .int .i64 x170.At.Layer, .int .i64 x170.At.Place, .slice a175 x170.K.length c176, .slice a178 x170.V.length c179] 33)] :: p141 :: [(b14, row [.int .i64 v139.room, .map (some b140)] 62)] :: Φ) ?_
                                    have ho379 : OwnL 1 (RInt .i64) F 3 (some ⟨b337, 0, none⟩) 1 [(Int.tmod (IntKind.wrap .i64 ((Int.tmod x170.At.Request 3) + 3)) 3)] [(b337, row [.int .i64 (Int.tmod (IntKind.wrap .i64 ((Int.tmod x170.At.Request 3) + 3)) 3)] 3)] := ⟨Nat.le_refl _, .inr ⟨_, [[.int .i64 (Int.tmod (IntKind.wrap .i64 ((Int.tmod x170.At.Request 3) + 3)) 3)]], [], rfl, rfl, (Rs.cons (x := (Int.tmod (IntKind.wrap .i64 ((Int.tmod x170.At.Request 3) + 3)) 3)) (cs := [.int .i64 (Int.tmod (IntKind.wrap .i64 ((Int.tmod x170.At.Request 3) + 3)) 3)]) rfl rfl rfl Rs.nil), rfl⟩⟩
                                    obtain ⟨x381, hx382, hr⟩ := bind_some' hr
                                    refine WO.call rfl rfl rfl rfl rfl cl_9 (CallsRet.lay 2 10 1 [5, 0] [2, 3, 1, 4, 6, 7, 8, 9, 10, 11] (by decide) (Mem.add (Mem.add F w131) (List.flatten [[(b337, row [.int .i64 (Int.tmod (IntKind.wrap .i64 ((Int.tmod x170.At.Request 3) + 3)) 3)] 3)]])) ([(b323, row [.int .i64 x364.room, .map (some b373)] 62)] :: p374 :: χ :: p368 :: [(b335, row [.int .i64 (Int.tmod (IntKind.wrap .i64 ((Int.tmod x170.At.Request 3) + 3)) 3)] 3)] :: p310 :: [(b191, row [.int .i64 x186.Request, .int .i64 x186.Layer, .int .i64 x186.Place] 30)] :: [(b181, row [.int .i64 x170.Kind, .int .i64 x170.At.Request, .int .i64 x170.At.Layer, .int .i64 x170.At.Place, .slice a175 x170.K.length c176, .slice a178 x170.V.length c179] 33)] :: p141 :: [(b14, row [.int .i64 v139.room, .map (some b140)] 62)] :: Φ) rfl rfl (cache_Store_Drop_vm_ok (F := (Mem.add F w131)) (χ := (List.flatten [[(b337, row [.int .i64 (Int.tmod (IntKind.wrap .i64 ((Int.tmod x170.At.Request 3) + 3)) 3)] 3)]])) hm375 (((OwnL.re (G := F) (const_int _) ho379).rd (mono_int _)).mono (mono_int _) (Mem.le.trans (Mem.le_pick (Mem.add (Mem.add F w131) [(b337, row [.int .i64 (Int.tmod (IntKind.wrap .i64 ((Int.tmod x170.At.Request 3) + 3)) 3)] 3)]) 2 [0] (by decide)) (Mem.le_gather (Mem.add (Mem.add F w131) [(b337, row [.int .i64 (Int.tmod (IntKind.wrap .i64 ((Int.tmod x170.At.Request 3) + 3)) 3)] 3)]) 1))) hx382 (χ :: p368 :: [(b335, row [.int .i64 (Int.tmod (IntKind.wrap .i64 ((Int.tmod x170.At.Request 3) + 3)) 3)] 3)] :: p310 :: [(b191, row [.int .i64 x186.Request, .int .i64 x186.Layer, .int .i64 x186.Place] 30)] :: [(b181, row [.int .i64 x170.Kind, .int .i64 x170.At.Request, .int .i64 x170.At.Layer, .int .i64 x170.At.Place, .slice a175 x170.K.length c176, .slice a178 x170.V.length c179] 33)] :: p141 :: [(b14, row [.int .i64 v139.room, .map (some b140)] 62)] :: Φ))) ?_
                                    rintro _ _ ⟨b383, p384, rfl, hs387, hm386⟩
                                    have hs387 := Sat.unlay (Mem.add F w131) [[(b337, row [.int .i64 (Int.tmod (IntKind.wrap .i64 ((Int.tmod x170.At.Request 3) + 3)) 3)] 3)]] hs387
                                    have hs387 := (hs387.arrange 2 10 [1, 4] [3, 2, 5, 0, 6, 7, 8, 9, 10, 11] (by decide))
                                    refine ⟨(Mem.add (Mem.add F χ) w131), (p384 :: [(b323, row [.int .i64 x381.2.room, .map (some b383)] 62)] :: p368 :: [(b337, row [.int .i64 (Int.tmod (IntKind.wrap .i64 ((Int.tmod x170.At.Request 3) + 3)) 3)] 3)] :: [(b335, row [.int .i64 (Int.tmod (IntKind.wrap .i64 ((Int.tmod x170.At.Request 3) + 3)) 3)] 3)] :: p310 :: [(b191, row [.int .i64 x186.Request, .int .i64 x186.Layer, .int .i64 x186.Place] 30)] :: [(b181, row [.int .i64 x170.Kind, .int .i64 x170.At.Request, .int .i64 x170.At.Layer, .int .i64 x170.At.Place, .slice a175 x170.K.length c176, .slice a178 x170.V.length c179] 33)] :: p141 :: [(b14, row [.int .i64 v139.room, .map (some b140)] 62)] :: Φ), hs387, (hs387.arrange 2 10 [0, 1] [7, 8, 9, 11] (by decide)), ?_⟩
                                    refine WO.bin rfl rfl rfl rfl rfl rfl ?_
                                    refine WO.assign rfl rfl rfl rfl ?_
                                    refine WO.done ?_
                                    refine WA.of ?_
                                    refine WA.done (by kernel_rfl) ?_
                                    refine At.arrange 2 10 [0, 1] [3, 2, 4, 5, 6, 7, 8, 9, 10, 11] (by decide) (Mem.add (Mem.add F χ) w131) ([(b323, row [.int .i64 x381.2.room, .map (some b383)] 62)] :: p384 :: p368 :: [(b337, row [.int .i64 (Int.tmod (IntKind.wrap .i64 ((Int.tmod x170.At.Request 3) + 3)) 3)] 3)] :: [(b335, row [.int .i64 (Int.tmod (IntKind.wrap .i64 ((Int.tmod x170.At.Request 3) + 3)) 3)] 3)] :: p310 :: [(b191, row [.int .i64 x186.Request, .int .i64 x186.Layer, .int .i64 x186.Place] 30)] :: [(b181, row [.int .i64 x170.Kind, .int .i64 x170.At.Request, .int .i64 x170.At.Layer, .int .i64 x170.At.Place, .slice a175 x170.K.length c176, .slice a178 x170.V.length c179] 33)] :: p141 :: [(b14, row [.int .i64 v139.room, .map (some b140)] 62)] :: Φ) rfl rfl ?_
                                    refine At.closeI (F1 := (Mem.add F w131)) [[(b323, row [.int .i64 x381.2.room, .map (some b383)] 62)], p384] ([(b337, row [.int .i64 (Int.tmod (IntKind.wrap .i64 ((Int.tmod x170.At.Request 3) + 3)) 3)] 3)] :: [(b335, row [.int .i64 (Int.tmod (IntKind.wrap .i64 ((Int.tmod x170.At.Request 3) + 3)) 3)] 3)] :: p310 :: [(b191, row [.int .i64 x186.Request, .int .i64 x186.Layer, .int .i64 x186.Place] 30)] :: [(b181, row [.int .i64 x170.Kind, .int .i64 x170.At.Request, .int .i64 x170.At.Layer, .int .i64 x170.At.Place, .slice a175 x170.K.length c176, .slice a178 x170.V.length c179] 33)] :: p141 :: [(b14, row [.int .i64 v139.room, .map (some b140)] 62)] :: Φ) x381.2 hH371 hy369 ⟨_, _, _, rfl, rfl, hm386⟩ (fun p388 hI389 => ?_)
                                    refine At.arrange 2 8 [0, 1] [5, 2, 3, 4, 6, 7, 8, 9] (by decide) (Mem.add (Mem.add F χ) w131) (p310 :: p388 :: [(b337, row [.int .i64 (Int.tmod (IntKind.wrap .i64 ((Int.tmod x170.At.Request 3) + 3)) 3)] 3)] :: [(b335, row [.int .i64 (Int.tmod (IntKind.wrap .i64 ((Int.tmod x170.At.Request 3) + 3)) 3)] 3)] :: [(b191, row [.int .i64 x186.Request, .int .i64 x186.Layer, .int .i64 x186.Place] 30)] :: [(b181, row [.int .i64 x170.Kind, .int .i64 x170.At.Request, .int .i64 x170.At.Layer, .int .i64 x170.At.Place, .slice a175 x170.K.length c176, .slice a178 x170.V.length c179] 33)] :: p141 :: [(b14, row [.int .i64 v139.room, .map (some b140)] 62)] :: Φ) rfl rfl ?_
                                    refine At.packE ([(b337, row [.int .i64 (Int.tmod (IntKind.wrap .i64 ((Int.tmod x170.At.Request 3) + 3)) 3)] 3)] :: [(b335, row [.int .i64 (Int.tmod (IntKind.wrap .i64 ((Int.tmod x170.At.Request 3) + 3)) 3)] 3)] :: [(b191, row [.int .i64 x186.Request, .int .i64 x186.Layer, .int .i64 x186.Place] 30)] :: [(b181, row [.int .i64 x170.Kind, .int .i64 x170.At.Request, .int .i64 x170.At.Layer, .int .i64 x170.At.Place, .slice a175 x170.K.length c176, .slice a178 x170.V.length c179] 33)] :: p141 :: [(b14, row [.int .i64 v139.room, .map (some b140)] 62)] :: Φ) (hO313.raw (G := (Mem.add F w131))) hI389 (fun p391 hp392 hE393 => ?_)
                                    have hc394 : CellAt p391 (Int.toNat (IntKind.wrap .i64 ((IntKind.wrap .i64 (2 * (Int.tmod (IntKind.wrap .i64 ((Int.tmod x170.At.Request 3) + 3)) 3))) + (Int.tmod (IntKind.wrap .i64 ((Int.tmod x170.At.Layer 2) + 2)) 2)))) (.pointer (some ⟨b208, 0, none⟩)) := by rw [hp392]; exact CellAt.keep hp312 hO313 hI314 hc213 _
                                    refine At.relen 5 (k' := (List.set (List.set v132 (Int.toNat (IntKind.wrap .i64 (2 * (Int.tmod (IntKind.wrap .i64 ((Int.tmod x170.At.Request 3) + 3)) 3)))) x354.2) (Int.toNat (IntKind.wrap .i64 ((IntKind.wrap .i64 (2 * (Int.tmod (IntKind.wrap .i64 ((Int.tmod x170.At.Request 3) + 3)) 3))) + 1))) x381.2).length) rfl (by simp only [List.length_set]) ?_
                                    refine At.relen 96 (k' := (List.set (List.set v132 (Int.toNat (IntKind.wrap .i64 (2 * (Int.tmod (IntKind.wrap .i64 ((Int.tmod x170.At.Request 3) + 3)) 3)))) x354.2) (Int.toNat (IntKind.wrap .i64 ((IntKind.wrap .i64 (2 * (Int.tmod (IntKind.wrap .i64 ((Int.tmod x170.At.Request 3) + 3)) 3))) + 1))) x381.2).length) rfl (by simp only [List.length_set]) ?_
                                    refine At.relen 106 (k' := (List.set (List.set v132 (Int.toNat (IntKind.wrap .i64 (2 * (Int.tmod (IntKind.wrap .i64 ((Int.tmod x170.At.Request 3) + 3)) 3)))) x354.2) (Int.toNat (IntKind.wrap .i64 ((IntKind.wrap .i64 (2 * (Int.tmod (IntKind.wrap .i64 ((Int.tmod x170.At.Request 3) + 3)) 3))) + 1))) x381.2).length) rfl (by simp only [List.length_set]) ?_
                                    refine At.relen 114 (k' := (List.set (List.set v132 (Int.toNat (IntKind.wrap .i64 (2 * (Int.tmod (IntKind.wrap .i64 ((Int.tmod x170.At.Request 3) + 3)) 3)))) x354.2) (Int.toNat (IntKind.wrap .i64 ((IntKind.wrap .i64 (2 * (Int.tmod (IntKind.wrap .i64 ((Int.tmod x170.At.Request 3) + 3)) 3))) + 1))) x381.2).length) rfl (by simp only [List.length_set]) ?_
                                    refine At.seq_at ?_
                                    exact fun a w hc hs => ⟨(List.set (List.set v132 (Int.toNat (IntKind.wrap .i64 (2 * (Int.tmod (IntKind.wrap .i64 ((Int.tmod x170.At.Request 3) + 3)) 3)))) x354.2) (Int.toNat (IntKind.wrap .i64 ((IntKind.wrap .i64 (2 * (Int.tmod (IntKind.wrap .i64 ((Int.tmod x170.At.Request 3) + 3)) 3))) + 1))) x381.2), (IntKind.wrap .i64 (x354.1 + x381.1)), (some ⟨b203, 0, none⟩), c134, p391, hr, (hc.keep (hc.keep (hc.keep (hc.keep (hc.keep (hc.keep (hc.keep (hc.keep hc.nil (t := 15) rfl) (t := 14) rfl) (t := 12) rfl) (t := 11) rfl) (t := 9) rfl) (t := 5) rfl) (t := 3) rfl) (t := 0) rfl), (hs.arrange 2 7 [0, 1] [2, 5, 6, 7, 8] (by decide)), hc394, hE393⟩
                                · obtain ⟨x352, hq398, hr⟩ := bind_some' hr
                                  obtain ⟨x364, hq399, hr⟩ := bind_some' hr
                                  obtain ⟨x381, hq400, hr⟩ := bind_some' hr
                                  have hr : ((cache_Store_Drop_vm x317 [(Int.tmod (IntKind.wrap .i64 ((Int.tmod x170.At.Request 3) + 3)) 3)]).bind fun x354 => (getI (List.set v132 (Int.toNat (IntKind.wrap .i64 (2 * (Int.tmod (IntKind.wrap .i64 ((Int.tmod x170.At.Request 3) + 3)) 3)))) x354.2) (IntKind.wrap .i64 ((IntKind.wrap .i64 (2 * (Int.tmod (IntKind.wrap .i64 ((Int.tmod x170.At.Request 3) + 3)) 3))) + 1))).bind fun x364 => (cache_Store_Drop_vm x364 [(Int.tmod (IntKind.wrap .i64 ((Int.tmod x170.At.Request 3) + 3)) 3)]).bind fun x381 => law12_CacheApart_k13 v138 v139 x170 (List.set (List.set v132 (Int.toNat (IntKind.wrap .i64 (2 * (Int.tmod (IntKind.wrap .i64 ((Int.tmod x170.At.Request 3) + 3)) 3)))) x354.2) (Int.toNat (IntKind.wrap .i64 ((IntKind.wrap .i64 (2 * (Int.tmod (IntKind.wrap .i64 ((Int.tmod x170.At.Request 3) + 3)) 3))) + 1))) x381.2) (IntKind.wrap .i64 (x354.1 + x381.1))) = some r10 := (bind_intro hq398 (bind_intro hq399 (bind_intro hq400 hr)))
                                  refine WO.buildSl (e := 3) (vs := [.tmp 120]) [0] [.int .i64 (Int.tmod (IntKind.wrap .i64 ((Int.tmod x170.At.Request 3) + 3)) 3)] rfl rfl rfl rfl rfl (fun _ => by kernel_rfl) (fun _ _ h => (h.arrange 2 7 [0, 1] [3, 5, 6, 8] (by decide))) (fun b335 => ?_)
                                  refine WO.done ?_
                                  refine WA.of ?_
                                  refine WA.lin (fuel := 0) [(6, false), (7, false), (16, false), (17, true), (18, true)] (by kernel_rfl) (by kernel_rfl) ?_
                                  refine WO.buildSl (e := 3) (vs := [.tmp 111]) [0] [.int .i64 (Int.tmod (IntKind.wrap .i64 ((Int.tmod x170.At.Request 3) + 3)) 3)] rfl rfl rfl rfl rfl (fun _ => by kernel_rfl) (fun _ _ h => (h.arrange 2 8 [0, 1] [4, 6, 7, 9] (by decide))) (fun b337 => ?_)
                                  refine WO.openI 3 hI314 rfl hx318 (fun y339 p340 p341 hy342 hR343 hH344 => ?_)
                                  obtain ⟨b345, b346, p347, rfl, rfl, hm348⟩ := hR343
                                  obtain rfl : b319 = b345 := ptr_same hy320 hy342
                                  refine WO.flatE [[(b319, row [.int .i64 x317.room, .map (some b346)] 62)], p347] (p341 :: [(b337, row [.int .i64 (Int.tmod (IntKind.wrap .i64 ((Int.tmod x170.At.Request 3) + 3)) 3)] 3)] :: [(b335, row [.int .i64 (Int.tmod (IntKind.wrap .i64 ((Int.tmod x170.At.Request 3) + 3)) 3)] 3)] :: p310 :: [(b191, row [.int .i64 x186.Request, .int .i64 x186.Layer, .int .i64 x186.Place] 30)] :: [(b181, row [.int .i64 x170.Kind, .int .i64 x170.At.Request, .int .i64 x170.At.Layer, .int .i64 x170.At.Place, .slice a175 x170.K.length c176, .slice a178 x170.V.length c179] 33)] :: p141 :: [(b14, row [.int .i64 v139.room, .map (some b140)] 62)] :: Φ) ?_
                                  have ho352 : OwnL 1 (RInt .i64) F 3 (some ⟨b337, 0, none⟩) 1 [(Int.tmod (IntKind.wrap .i64 ((Int.tmod x170.At.Request 3) + 3)) 3)] [(b337, row [.int .i64 (Int.tmod (IntKind.wrap .i64 ((Int.tmod x170.At.Request 3) + 3)) 3)] 3)] := ⟨Nat.le_refl _, .inr ⟨_, [[.int .i64 (Int.tmod (IntKind.wrap .i64 ((Int.tmod x170.At.Request 3) + 3)) 3)]], [], rfl, rfl, (Rs.cons (x := (Int.tmod (IntKind.wrap .i64 ((Int.tmod x170.At.Request 3) + 3)) 3)) (cs := [.int .i64 (Int.tmod (IntKind.wrap .i64 ((Int.tmod x170.At.Request 3) + 3)) 3)]) rfl rfl rfl Rs.nil), rfl⟩⟩
                                  obtain ⟨x354, hx355, hr⟩ := bind_some' hr
                                  refine WO.call rfl rfl rfl rfl rfl cl_9 (CallsRet.lay 2 10 1 [5, 0] [2, 3, 1, 4, 6, 7, 8, 9, 10, 11] (by decide) (Mem.add (Mem.add F w131) (List.flatten [[(b337, row [.int .i64 (Int.tmod (IntKind.wrap .i64 ((Int.tmod x170.At.Request 3) + 3)) 3)] 3)]])) ([(b319, row [.int .i64 x317.room, .map (some b346)] 62)] :: p347 :: χ :: p341 :: [(b335, row [.int .i64 (Int.tmod (IntKind.wrap .i64 ((Int.tmod x170.At.Request 3) + 3)) 3)] 3)] :: p310 :: [(b191, row [.int .i64 x186.Request, .int .i64 x186.Layer, .int .i64 x186.Place] 30)] :: [(b181, row [.int .i64 x170.Kind, .int .i64 x170.At.Request, .int .i64 x170.At.Layer, .int .i64 x170.At.Place, .slice a175 x170.K.length c176, .slice a178 x170.V.length c179] 33)] :: p141 :: [(b14, row [.int .i64 v139.room, .map (some b140)] 62)] :: Φ) rfl rfl (cache_Store_Drop_vm_ok (F := (Mem.add F w131)) (χ := (List.flatten [[(b337, row [.int .i64 (Int.tmod (IntKind.wrap .i64 ((Int.tmod x170.At.Request 3) + 3)) 3)] 3)]])) hm348 (((OwnL.re (G := F) (const_int _) ho352).rd (mono_int _)).mono (mono_int _) (Mem.le.trans (Mem.le_pick (Mem.add (Mem.add F w131) [(b337, row [.int .i64 (Int.tmod (IntKind.wrap .i64 ((Int.tmod x170.At.Request 3) + 3)) 3)] 3)]) 2 [0] (by decide)) (Mem.le_gather (Mem.add (Mem.add F w131) [(b337, row [.int .i64 (Int.tmod (IntKind.wrap .i64 ((Int.tmod x170.At.Request 3) + 3)) 3)] 3)]) 1))) hx355 (χ :: p341 :: [(b335, row [.int .i64 (Int.tmod (IntKind.wrap .i64 ((Int.tmod x170.At.Request 3) + 3)) 3)] 3)] :: p310 :: [(b191, row [.int .i64 x186.Request, .int .i64 x186.Layer, .int .i64 x186.Place] 30)] :: [(b181, row [.int .i64 x170.Kind, .int .i64 x170.At.Request, .int .i64 x170.At.Layer, .int .i64 x170.At.Place, .slice a175 x170.K.length c176, .slice a178 x170.V.length c179] 33)] :: p141 :: [(b14, row [.int .i64 v139.room, .map (some b140)] 62)] :: Φ))) ?_
                                  rintro _ _ ⟨b356, p357, rfl, hs360, hm359⟩
                                  have hs360 := Sat.unlay (Mem.add F w131) [[(b337, row [.int .i64 (Int.tmod (IntKind.wrap .i64 ((Int.tmod x170.At.Request 3) + 3)) 3)] 3)]] hs360
                                  have hs360 := (hs360.arrange 2 10 [1, 4] [3, 2, 5, 0, 6, 7, 8, 9, 10, 11] (by decide))
                                  refine ⟨(Mem.add (Mem.add F χ) w131), (p357 :: [(b319, row [.int .i64 x354.2.room, .map (some b356)] 62)] :: p341 :: [(b337, row [.int .i64 (Int.tmod (IntKind.wrap .i64 ((Int.tmod x170.At.Request 3) + 3)) 3)] 3)] :: [(b335, row [.int .i64 (Int.tmod (IntKind.wrap .i64 ((Int.tmod x170.At.Request 3) + 3)) 3)] 3)] :: p310 :: [(b191, row [.int .i64 x186.Request, .int .i64 x186.Layer, .int .i64 x186.Place] 30)] :: [(b181, row [.int .i64 x170.Kind, .int .i64 x170.At.Request, .int .i64 x170.At.Layer, .int .i64 x170.At.Place, .slice a175 x170.K.length c176, .slice a178 x170.V.length c179] 33)] :: p141 :: [(b14, row [.int .i64 v139.room, .map (some b140)] 62)] :: Φ), hs360, (hs360.arrange 2 10 [0, 1] [7, 8, 9, 11] (by decide)), ?_⟩
                                  refine WO.arrange 2 10 [0, 1] [3, 2, 4, 5, 6, 7, 8, 9, 10, 11] (by decide) (Mem.add (Mem.add F χ) w131) ([(b319, row [.int .i64 x354.2.room, .map (some b356)] 62)] :: p357 :: p341 :: [(b337, row [.int .i64 (Int.tmod (IntKind.wrap .i64 ((Int.tmod x170.At.Request 3) + 3)) 3)] 3)] :: [(b335, row [.int .i64 (Int.tmod (IntKind.wrap .i64 ((Int.tmod x170.At.Request 3) + 3)) 3)] 3)] :: p310 :: [(b191, row [.int .i64 x186.Request, .int .i64 x186.Layer, .int .i64 x186.Place] 30)] :: [(b181, row [.int .i64 x170.Kind, .int .i64 x170.At.Request, .int .i64 x170.At.Layer, .int .i64 x170.At.Place, .slice a175 x170.K.length c176, .slice a178 x170.V.length c179] 33)] :: p141 :: [(b14, row [.int .i64 v139.room, .map (some b140)] 62)] :: Φ) rfl rfl ?_
                                  refine WO.closeI (F1 := (Mem.add F w131)) [[(b319, row [.int .i64 x354.2.room, .map (some b356)] 62)], p357] ([(b337, row [.int .i64 (Int.tmod (IntKind.wrap .i64 ((Int.tmod x170.At.Request 3) + 3)) 3)] 3)] :: [(b335, row [.int .i64 (Int.tmod (IntKind.wrap .i64 ((Int.tmod x170.At.Request 3) + 3)) 3)] 3)] :: p310 :: [(b191, row [.int .i64 x186.Request, .int .i64 x186.Layer, .int .i64 x186.Place] 30)] :: [(b181, row [.int .i64 x170.Kind, .int .i64 x170.At.Request, .int .i64 x170.At.Layer, .int .i64 x170.At.Place, .slice a175 x170.K.length c176, .slice a178 x170.V.length c179] 33)] :: p141 :: [(b14, row [.int .i64 v139.room, .map (some b140)] 62)] :: Φ) x354.2 hH344 hy342 ⟨_, _, _, rfl, rfl, hm359⟩ (fun p361 hI362 => ?_)
                                  obtain ⟨x364, hx365, hr⟩ := bind_some' hr
                                  refine WO.openI 0 hI362 rfl hx365 (fun y366 p367 p368 hy369 hR370 hH371 => ?_)
                                  obtain ⟨b372, b373, p374, rfl, rfl, hm375⟩ := hR370
                                  obtain rfl : b323 = b372 := ptr_same hy324 hy369
                                  refine WO.flatE [[(b323, row [.int .i64 x364.room, .map (some b373)] 62)], p374] (p368 :: [(b337, row [.int .i64 (Int.tmod (IntKind.wrap .i64 ((Int.tmod x170.At.Request 3) + 3)) 3)] 3)] :: [(b335, row [.int .i64 (Int.tmod (IntKind.wrap .i64 ((Int.tmod x170.At.Request 3) + 3)) 3)] 3)] :: p310 :: [(b191, row [.int .i64 x186.Request, .int .i64 x186.Layer, .int .i64 x186.Place] 30)] :: [(b181, row [.int .i64 x170.Kind, .int .i64 x170.At.Request, .int .i64 x170.At.Layer, .int .i64 x170.At.Place, .slice a175 x170.K.length c176, .slice a178 x170.V.length c179] 33)] :: p141 :: [(b14, row [.int .i64 v139.room, .map (some b140)] 62)] :: Φ) ?_
                                  have ho379 : OwnL 1 (RInt .i64) F 3 (some ⟨b335, 0, none⟩) 1 [(Int.tmod (IntKind.wrap .i64 ((Int.tmod x170.At.Request 3) + 3)) 3)] [(b335, row [.int .i64 (Int.tmod (IntKind.wrap .i64 ((Int.tmod x170.At.Request 3) + 3)) 3)] 3)] := ⟨Nat.le_refl _, .inr ⟨_, [[.int .i64 (Int.tmod (IntKind.wrap .i64 ((Int.tmod x170.At.Request 3) + 3)) 3)]], [], rfl, rfl, (Rs.cons (x := (Int.tmod (IntKind.wrap .i64 ((Int.tmod x170.At.Request 3) + 3)) 3)) (cs := [.int .i64 (Int.tmod (IntKind.wrap .i64 ((Int.tmod x170.At.Request 3) + 3)) 3)]) rfl rfl rfl Rs.nil), rfl⟩⟩
                                  obtain ⟨x381, hx382, hr⟩ := bind_some' hr
                                  refine WO.call rfl rfl rfl rfl rfl cl_9 (CallsRet.lay 2 10 1 [6, 0] [2, 3, 1, 4, 5, 7, 8, 9, 10, 11] (by decide) (Mem.add (Mem.add F w131) (List.flatten [[(b335, row [.int .i64 (Int.tmod (IntKind.wrap .i64 ((Int.tmod x170.At.Request 3) + 3)) 3)] 3)]])) ([(b323, row [.int .i64 x364.room, .map (some b373)] 62)] :: p374 :: χ :: p368 :: [(b337, row [.int .i64 (Int.tmod (IntKind.wrap .i64 ((Int.tmod x170.At.Request 3) + 3)) 3)] 3)] :: p310 :: [(b191, row [.int .i64 x186.Request, .int .i64 x186.Layer, .int .i64 x186.Place] 30)] :: [(b181, row [.int .i64 x170.Kind, .int .i64 x170.At.Request, .int .i64 x170.At.Layer, .int .i64 x170.At.Place, .slice a175 x170.K.length c176, .slice a178 x170.V.length c179] 33)] :: p141 :: [(b14, row [.int .i64 v139.room, .map (some b140)] 62)] :: Φ) rfl rfl (cache_Store_Drop_vm_ok (F := (Mem.add F w131)) (χ := (List.flatten [[(b335, row [.int .i64 (Int.tmod (IntKind.wrap .i64 ((Int.tmod x170.At.Request 3) + 3)) 3)] 3)]])) hm375 (((OwnL.re (G := F) (const_int _) ho379).rd (mono_int _)).mono (mono_int _) (Mem.le.trans (Mem.le_pick (Mem.add (Mem.add F w131) [(b335, row [.int .i64 (Int.tmod (IntKind.wrap .i64 ((Int.tmod x170.At.Request 3) + 3)) 3)] 3)]) 2 [0] (by decide)) (Mem.le_gather (Mem.add (Mem.add F w131) [(b335, row [.int .i64 (Int.tmod (IntKind.wrap .i64 ((Int.tmod x170.At.Request 3) + 3)) 3)] 3)]) 1))) hx382 (χ :: p368 :: [(b337, row [.int .i64 (Int.tmod (IntKind.wrap .i64 ((Int.tmod x170.At.Request 3) + 3)) 3)] 3)] :: p310 :: [(b191, row [.int .i64 x186.Request, .int .i64 x186.Layer, .int .i64 x186.Place] 30)] :: [(b181, row [.int .i64 x170.Kind, .int .i64 x170.At.Request, .int .i64 x170.At.Layer, .int .i64 x170.At.Place, .slice a175 x170.K.length c176, .slice a178 x170.V.length c179] 33)] :: p141 :: [(b14, row [.int .i64 v139.room, .map (some b140)] 62)] :: Φ))) ?_
                                  rintro _ _ ⟨b383, p384, rfl, hs387, hm386⟩
                                  have hs387 := Sat.unlay (Mem.add F w131) [[(b335, row [.int .i64 (Int.tmod (IntKind.wrap .i64 ((Int.tmod x170.At.Request 3) + 3)) 3)] 3)]] hs387
                                  have hs387 := (hs387.arrange 2 10 [1, 4] [3, 2, 5, 6, 0, 7, 8, 9, 10, 11] (by decide))
                                  refine ⟨(Mem.add (Mem.add F χ) w131), (p384 :: [(b323, row [.int .i64 x381.2.room, .map (some b383)] 62)] :: p368 :: [(b337, row [.int .i64 (Int.tmod (IntKind.wrap .i64 ((Int.tmod x170.At.Request 3) + 3)) 3)] 3)] :: [(b335, row [.int .i64 (Int.tmod (IntKind.wrap .i64 ((Int.tmod x170.At.Request 3) + 3)) 3)] 3)] :: p310 :: [(b191, row [.int .i64 x186.Request, .int .i64 x186.Layer, .int .i64 x186.Place] 30)] :: [(b181, row [.int .i64 x170.Kind, .int .i64 x170.At.Request, .int .i64 x170.At.Layer, .int .i64 x170.At.Place, .slice a175 x170.K.length c176, .slice a178 x170.V.length c179] 33)] :: p141 :: [(b14, row [.int .i64 v139.room, .map (some b140)] 62)] :: Φ), hs387, (hs387.arrange 2 10 [0, 1] [7, 8, 9, 11] (by decide)), ?_⟩
                                  refine WO.bin rfl rfl rfl rfl rfl rfl ?_
                                  refine WO.assign rfl rfl rfl rfl ?_
                                  refine WO.done ?_
                                  refine WA.of ?_
                                  refine WA.done (by kernel_rfl) ?_
                                  refine At.arrange 2 10 [0, 1] [3, 2, 4, 5, 6, 7, 8, 9, 10, 11] (by decide) (Mem.add (Mem.add F χ) w131) ([(b323, row [.int .i64 x381.2.room, .map (some b383)] 62)] :: p384 :: p368 :: [(b337, row [.int .i64 (Int.tmod (IntKind.wrap .i64 ((Int.tmod x170.At.Request 3) + 3)) 3)] 3)] :: [(b335, row [.int .i64 (Int.tmod (IntKind.wrap .i64 ((Int.tmod x170.At.Request 3) + 3)) 3)] 3)] :: p310 :: [(b191, row [.int .i64 x186.Request, .int .i64 x186.Layer, .int .i64 x186.Place] 30)] :: [(b181, row [.int .i64 x170.Kind, .int .i64 x170.At.Request, .int .i64 x170.At.Layer, .int .i64 x170.At.Place, .slice a175 x170.K.length c176, .slice a178 x170.V.length c179] 33)] :: p141 :: [(b14, row [.int .i64 v139.room, .map (some b140)] 62)] :: Φ) rfl rfl ?_
                                  refine At.closeI (F1 := (Mem.add F w131)) [[(b323, row [.int .i64 x381.2.room, .map (some b383)] 62)], p384] ([(b337, row [.int .i64 (Int.tmod (IntKind.wrap .i64 ((Int.tmod x170.At.Request 3) + 3)) 3)] 3)] :: [(b335, row [.int .i64 (Int.tmod (IntKind.wrap .i64 ((Int.tmod x170.At.Request 3) + 3)) 3)] 3)] :: p310 :: [(b191, row [.int .i64 x186.Request, .int .i64 x186.Layer, .int .i64 x186.Place] 30)] :: [(b181, row [.int .i64 x170.Kind, .int .i64 x170.At.Request, .int .i64 x170.At.Layer, .int .i64 x170.At.Place, .slice a175 x170.K.length c176, .slice a178 x170.V.length c179] 33)] :: p141 :: [(b14, row [.int .i64 v139.room, .map (some b140)] 62)] :: Φ) x381.2 hH371 hy369 ⟨_, _, _, rfl, rfl, hm386⟩ (fun p388 hI389 => ?_)
                                  refine At.arrange 2 8 [0, 1] [5, 2, 3, 4, 6, 7, 8, 9] (by decide) (Mem.add (Mem.add F χ) w131) (p310 :: p388 :: [(b337, row [.int .i64 (Int.tmod (IntKind.wrap .i64 ((Int.tmod x170.At.Request 3) + 3)) 3)] 3)] :: [(b335, row [.int .i64 (Int.tmod (IntKind.wrap .i64 ((Int.tmod x170.At.Request 3) + 3)) 3)] 3)] :: [(b191, row [.int .i64 x186.Request, .int .i64 x186.Layer, .int .i64 x186.Place] 30)] :: [(b181, row [.int .i64 x170.Kind, .int .i64 x170.At.Request, .int .i64 x170.At.Layer, .int .i64 x170.At.Place, .slice a175 x170.K.length c176, .slice a178 x170.V.length c179] 33)] :: p141 :: [(b14, row [.int .i64 v139.room, .map (some b140)] 62)] :: Φ) rfl rfl ?_
                                  refine At.packE ([(b337, row [.int .i64 (Int.tmod (IntKind.wrap .i64 ((Int.tmod x170.At.Request 3) + 3)) 3)] 3)] :: [(b335, row [.int .i64 (Int.tmod (IntKind.wrap .i64 ((Int.tmod x170.At.Request 3) + 3)) 3)] 3)] :: [(b191, row [.int .i64 x186.Request, .int .i64 x186.Layer, .int .i64 x186.Place] 30)] :: [(b181, row [.int .i64 x170.Kind, .int .i64 x170.At.Request, .int .i64 x170.At.Layer, .int .i64 x170.At.Place, .slice a175 x170.K.length c176, .slice a178 x170.V.length c179] 33)] :: p141 :: [(b14, row [.int .i64 v139.room, .map (some b140)] 62)] :: Φ) (hO313.raw (G := (Mem.add F w131))) hI389 (fun p391 hp392 hE393 => ?_)
                                  have hc394 : CellAt p391 (Int.toNat (IntKind.wrap .i64 ((IntKind.wrap .i64 (2 * (Int.tmod (IntKind.wrap .i64 ((Int.tmod x170.At.Request 3) + 3)) 3))) + (Int.tmod (IntKind.wrap .i64 ((Int.tmod x170.At.Layer 2) + 2)) 2)))) (.pointer (some ⟨b208, 0, none⟩)) := by rw [hp392]; exact CellAt.keep hp312 hO313 hI314 hc213 _
                                  refine At.relen 5 (k' := (List.set (List.set v132 (Int.toNat (IntKind.wrap .i64 (2 * (Int.tmod (IntKind.wrap .i64 ((Int.tmod x170.At.Request 3) + 3)) 3)))) x354.2) (Int.toNat (IntKind.wrap .i64 ((IntKind.wrap .i64 (2 * (Int.tmod (IntKind.wrap .i64 ((Int.tmod x170.At.Request 3) + 3)) 3))) + 1))) x381.2).length) rfl (by simp only [List.length_set]) ?_
                                  refine At.relen 96 (k' := (List.set (List.set v132 (Int.toNat (IntKind.wrap .i64 (2 * (Int.tmod (IntKind.wrap .i64 ((Int.tmod x170.At.Request 3) + 3)) 3)))) x354.2) (Int.toNat (IntKind.wrap .i64 ((IntKind.wrap .i64 (2 * (Int.tmod (IntKind.wrap .i64 ((Int.tmod x170.At.Request 3) + 3)) 3))) + 1))) x381.2).length) rfl (by simp only [List.length_set]) ?_
                                  refine At.relen 106 (k' := (List.set (List.set v132 (Int.toNat (IntKind.wrap .i64 (2 * (Int.tmod (IntKind.wrap .i64 ((Int.tmod x170.At.Request 3) + 3)) 3)))) x354.2) (Int.toNat (IntKind.wrap .i64 ((IntKind.wrap .i64 (2 * (Int.tmod (IntKind.wrap .i64 ((Int.tmod x170.At.Request 3) + 3)) 3))) + 1))) x381.2).length) rfl (by simp only [List.length_set]) ?_
                                  refine At.relen 114 (k' := (List.set (List.set v132 (Int.toNat (IntKind.wrap .i64 (2 * (Int.tmod (IntKind.wrap .i64 ((Int.tmod x170.At.Request 3) + 3)) 3)))) x354.2) (Int.toNat (IntKind.wrap .i64 ((IntKind.wrap .i64 (2 * (Int.tmod (IntKind.wrap .i64 ((Int.tmod x170.At.Request 3) + 3)) 3))) + 1))) x381.2).length) rfl (by simp only [List.length_set]) ?_
                                  refine At.seq_at ?_
                                  exact fun a w hc hs => ⟨(List.set (List.set v132 (Int.toNat (IntKind.wrap .i64 (2 * (Int.tmod (IntKind.wrap .i64 ((Int.tmod x170.At.Request 3) + 3)) 3)))) x354.2) (Int.toNat (IntKind.wrap .i64 ((IntKind.wrap .i64 (2 * (Int.tmod (IntKind.wrap .i64 ((Int.tmod x170.At.Request 3) + 3)) 3))) + 1))) x381.2), (IntKind.wrap .i64 (x354.1 + x381.1)), (some ⟨b203, 0, none⟩), c134, p391, hr, (hc.keep (hc.keep (hc.keep (hc.keep (hc.keep (hc.keep (hc.keep (hc.keep hc.nil (t := 15) rfl) (t := 14) rfl) (t := 12) rfl) (t := 11) rfl) (t := 9) rfl) (t := 5) rfl) (t := 3) rfl) (t := 0) rfl), (hs.arrange 2 7 [0, 1] [2, 5, 6, 7, 8] (by decide)), hc394, hE393⟩
                              · rintro a w ⟨v289, v295, a290, c291, p292, hr, hc, hs, hc296, ho293⟩
                                refine WC.use hc hs ?_
                                clear hc hs
                                unfold law12_CacheApart_k13 at hr
                                refine WC.then ?_
                                refine WC.region [(0, true), (1, true), (2, false), (3, false), (4, true), (5, true)] rfl ?_
                                refine WO.move rfl rfl rfl rfl ?_
                                refine WO.move rfl rfl rfl rfl ?_
                                refine WO.buildSl (e := 3) (vs := [.tmp 125]) [0] [.int .i64 (Int.tmod (IntKind.wrap .i64 ((Int.tmod x170.At.Request 3) + 3)) 3)] rfl rfl rfl rfl rfl (fun _ => by kernel_rfl) (fun _ _ _ => trivial) (fun b297 => ?_)
                                have ho299 : OwnL 1 (RInt .i64) F 3 (some ⟨b297, 0, none⟩) 1 [(Int.tmod (IntKind.wrap .i64 ((Int.tmod x170.At.Request 3) + 3)) 3)] [(b297, row [.int .i64 (Int.tmod (IntKind.wrap .i64 ((Int.tmod x170.At.Request 3) + 3)) 3)] 3)] := ⟨Nat.le_refl _, .inr ⟨_, [[.int .i64 (Int.tmod (IntKind.wrap .i64 ((Int.tmod x170.At.Request 3) + 3)) 3)]], [], rfl, rfl, (Rs.cons (x := (Int.tmod (IntKind.wrap .i64 ((Int.tmod x170.At.Request 3) + 3)) 3)) (cs := [.int .i64 (Int.tmod (IntKind.wrap .i64 ((Int.tmod x170.At.Request 3) + 3)) 3)]) rfl rfl rfl Rs.nil), rfl⟩⟩
                                obtain ⟨x301, hx302, hr⟩ := bind_some' hr
                                refine WO.call rfl rfl rfl rfl rfl cl_9 (CallsRet.lay 2 6 1 [2, 0] [7, 6, 1, 3, 4, 5] (by decide) (Mem.add (Mem.add F w131) (List.flatten [[(b297, row [.int .i64 (Int.tmod (IntKind.wrap .i64 ((Int.tmod x170.At.Request 3) + 3)) 3)] 3)]])) ([(b14, row [.int .i64 v139.room, .map (some b140)] 62)] :: p141 :: χ :: p292 :: [(b191, row [.int .i64 x186.Request, .int .i64 x186.Layer, .int .i64 x186.Place] 30)] :: [(b181, row [.int .i64 x170.Kind, .int .i64 x170.At.Request, .int .i64 x170.At.Layer, .int .i64 x170.At.Place, .slice a175 x170.K.length c176, .slice a178 x170.V.length c179] 33)] :: Φ) rfl rfl (cache_Store_Drop_vm_ok (F := (Mem.add F w131)) (χ := (List.flatten [[(b297, row [.int .i64 (Int.tmod (IntKind.wrap .i64 ((Int.tmod x170.At.Request 3) + 3)) 3)] 3)]])) hm142 (((OwnL.re (G := F) (const_int _) ho299).rd (mono_int _)).mono (mono_int _) (Mem.le.trans (Mem.le_pick (Mem.add (Mem.add F w131) [(b297, row [.int .i64 (Int.tmod (IntKind.wrap .i64 ((Int.tmod x170.At.Request 3) + 3)) 3)] 3)]) 2 [0] (by decide)) (Mem.le_gather (Mem.add (Mem.add F w131) [(b297, row [.int .i64 (Int.tmod (IntKind.wrap .i64 ((Int.tmod x170.At.Request 3) + 3)) 3)] 3)]) 1))) hx302 (χ :: p292 :: [(b191, row [.int .i64 x186.Request, .int .i64 x186.Layer, .int .i64 x186.Place] 30)] :: [(b181, row [.int .i64 x170.Kind, .int .i64 x170.At.Request, .int .i64 x170.At.Layer, .int .i64 x170.At.Place, .slice a175 x170.K.length c176, .slice a178 x170.V.length c179] 33)] :: Φ))) ?_
                                rintro _ _ ⟨b303, p304, rfl, hs307, hm306⟩
                                have hs307 := Sat.unlay (Mem.add F w131) [[(b297, row [.int .i64 (Int.tmod (IntKind.wrap .i64 ((Int.tmod x170.At.Request 3) + 3)) 3)] 3)]] hs307
                                have hs307 := (hs307.arrange 2 6 [1, 4] [3, 0, 5, 6, 7, 2] (by decide))
                                refine ⟨(Mem.add (Mem.add F χ) w131), (p304 :: [(b297, row [.int .i64 (Int.tmod (IntKind.wrap .i64 ((Int.tmod x170.At.Request 3) + 3)) 3)] 3)] :: p292 :: [(b191, row [.int .i64 x186.Request, .int .i64 x186.Layer, .int .i64 x186.Place] 30)] :: [(b181, row [.int .i64 x170.Kind, .int .i64 x170.At.Request, .int .i64 x170.At.Layer, .int .i64 x170.At.Place, .slice a175 x170.K.length c176, .slice a178 x170.V.length c179] 33)] :: [(b14, row [.int .i64 x301.2.room, .map (some b303)] 62)] :: Φ), hs307, trivial, ?_⟩
                                refine WO.move rfl rfl rfl rfl ?_
                                refine WO.bin rfl rfl rfl rfl rfl rfl ?_
                                refine WO.done ?_
                                refine At.seq_wc ?_
                                refine WC.cond rfl (fun hb308 => ?_) (fun hb308 => ?_)
                                · have hr := cond_t hb308 hr
                                  refine WC.then ?_
                                  refine WC.region [(0, true)] rfl ?_
                                  refine WO.assign rfl rfl rfl rfl ?_
                                  refine WO.done ?_
                                  refine At.seq_wc ?_
                                  refine WC.ret ?_
                                  refine At.seq_ret ?_
                                  refine At.block_ret ?_
                                  refine At.seq_ret ?_
                                  refine At.round_ret hr (fun hy => ?_)
                                  subst hy
                                  have hr := hk10
                                  refine At.block_ret ?_
                                  refine At.seq_ret ?_
                                  refine At.seq_ret ?_
                                  obtain rfl := Option.some.inj hr
                                  exact At.ret (fun a w hc hs => (resVs_cons (hc.res rfl) resVs_nil)) (fun w hs => ⟨rfl, (hs.arrange 2 6 [1] [] (by decide))⟩)
                                · have hr := cond_f hb308 hr
                                  refine WC.skip ?_
                                  refine At.seq_at ?_
                                  exact fun a w hc hs => ⟨v289, x301.2, a290, c291, p292, b303, p304, (List.flatten []), hr, (hc.keep (hc.keep (hc.keep (hc.keep (hc.keep (hc.keep (hc.keep hc.nil (t := 14) rfl) (t := 12) rfl) (t := 11) rfl) (t := 9) rfl) (t := 5) rfl) (t := 3) rfl) (t := 0) rfl), ((hs.arrange 2 6 [0, 1] [4, 2, 5, 6, 7] (by decide)).gather 0), hc296, (ho293.mono monoE_P_cache_Store (Mem.le_gather (Mem.add F w131) 0)), (hm306.mono (monoVA mono_cache_rows) (Mem.le_gather (Mem.add F w131) 0))⟩
                            · have hr := cond_f hb287 hr
                              refine WC.then ?_
                              refine WC.draw (Sat (Mem.add (Mem.add F χ) w131) ([(b191, row [.int .i64 x186.Request, .int .i64 x186.Layer, .int .i64 x186.Place] 30)] :: [(b181, row [.int .i64 x170.Kind, .int .i64 x170.At.Request, .int .i64 x170.At.Layer, .int .i64 x170.At.Place, .slice a175 x170.K.length c176, .slice a178 x170.V.length c179] 33)] :: Φ)) (fun _ h => (h.arrange 2 5 [0, 1] [3, 4] (by decide))) [(0, true), (1, true), (2, true), (3, true), (4, true), (5, true), (7, true), (8, true), (9, true), (10, true), (11, true), (12, true), (6, false), (13, false), (14, true)] mixed (by kernel_rfl) rfl (by kernel_rfl) ?_
                              refine WO.move rfl rfl rfl rfl ?_
                              refine WO.loadAY 0 3 rfl rfl rfl rfl ag_30 rfl rfl rfl ?_
                              refine WO.fieldAddr 4 rfl rfl rfl rfl fl_33_2 ?_
                              refine WO.loadY 1 rfl rfl rfl rfl sc_31 rfl rfl ?_
                              refine WO.fieldAddr 5 rfl rfl rfl rfl fl_33_3 ?_
                              refine WO.loadY 1 rfl rfl rfl rfl sc_31 rfl rfl ?_
                              refine WO.move rfl rfl rfl rfl ?_
                              refine WO.loadAY 0 3 rfl rfl rfl rfl ag_30 rfl rfl rfl ?_
                              refine WO.fieldAddr 4 rfl rfl rfl rfl fl_33_2 ?_
                              refine WO.loadY 1 rfl rfl rfl rfl sc_31 rfl rfl ?_
                              refine WO.fieldAddr 5 rfl rfl rfl rfl fl_33_3 ?_
                              refine WO.loadY 1 rfl rfl rfl rfl sc_31 rfl rfl ?_
                              obtain ⟨x401, hx402, hr⟩ := bind_some' hr
                              refine WO.call rfl rfl rfl rfl rfl cl_10 (CallsRet.lay 2 5 1 [1, 0] [6, 5, 2, 3, 4] (by decide) (Mem.add (Mem.add F w131) (List.flatten [χ])) ([(b14, row [.int .i64 v139.room, .map (some b140)] 62)] :: p141 :: p210 :: [(b191, row [.int .i64 x186.Request, .int .i64 x186.Layer, .int .i64 x186.Place] 30)] :: [(b181, row [.int .i64 x170.Kind, .int .i64 x170.At.Request, .int .i64 x170.At.Layer, .int .i64 x170.At.Place, .slice a175 x170.K.length c176, .slice a178 x170.V.length c179] 33)] :: Φ) rfl rfl (cache_Store_Put_vm_ok (F := (Mem.add F w131)) (χ := (List.flatten [χ])) hm142 rfl (h177.mono (mono_int _) (Mem.le.trans (Mem.le_pick (Mem.add (Mem.add F w131) χ) 2 [0] (by decide)) (Mem.le_gather (Mem.add (Mem.add F w131) χ) 1))) (h180.mono (mono_int _) (Mem.le.trans (Mem.le_pick (Mem.add (Mem.add F w131) χ) 2 [0] (by decide)) (Mem.le_gather (Mem.add (Mem.add F w131) χ) 1))) hx402 (p210 :: [(b191, row [.int .i64 x186.Request, .int .i64 x186.Layer, .int .i64 x186.Place] 30)] :: [(b181, row [.int .i64 x170.Kind, .int .i64 x170.At.Request, .int .i64 x170.At.Layer, .int .i64 x170.At.Place, .slice a175 x170.K.length c176, .slice a178 x170.V.length c179] 33)] :: Φ))) ?_
                              rintro _ _ ⟨q403, b404, p405, rfl, hs408, hm407⟩
                              have hs408 := Sat.unlay1 (Mem.add F w131) [χ] _ hs408
                              have hs408 := (hs408.arrange 3 5 [0, 2, 1] [4, 5, 6, 7, 3] (by decide))
                              refine ⟨(Mem.add (Mem.add (Mem.add F χ) w131) q403), (p405 :: p210 :: [(b191, row [.int .i64 x186.Request, .int .i64 x186.Layer, .int .i64 x186.Place] 30)] :: [(b181, row [.int .i64 x170.Kind, .int .i64 x170.At.Request, .int .i64 x170.At.Layer, .int .i64 x170.At.Place, .slice a175 x170.K.length c176, .slice a178 x170.V.length c179] 33)] :: [(b14, row [.int .i64 x401.2.room, .map (some b404)] 62)] :: Φ), hs408, (hs408.arrange 3 5 [1, 2] [5, 6] (by decide)), ?_⟩
                              refine WO.unE 1 hE212 rfl (fun y409 p410 p411 hp412 hO413 hI414 => ?_)
                              obtain ⟨x417, hx418, hr⟩ := bind_some' hr
                              obtain ⟨b419, hy420⟩ := hI414.ptr ptr_P_cache_Store hx418
                              obtain rfl := CellAt.same hp412 hO413 hc213 hy420
                              refine WO.openI 1 hI414 rfl hx418 (fun y421 p422 p423 hy424 hR425 hH426 => ?_)
                              obtain ⟨b427, b428, p429, rfl, rfl, hm430⟩ := hR425
                              obtain rfl : b208 = b427 := ptr_same hy420 hy424
                              refine WO.flatE [[(b208, row [.int .i64 x417.room, .map (some b428)] 62)], p429] (p423 :: p410 :: p405 :: [(b191, row [.int .i64 x186.Request, .int .i64 x186.Layer, .int .i64 x186.Place] 30)] :: [(b181, row [.int .i64 x170.Kind, .int .i64 x170.At.Request, .int .i64 x170.At.Layer, .int .i64 x170.At.Place, .slice a175 x170.K.length c176, .slice a178 x170.V.length c179] 33)] :: [(b14, row [.int .i64 x401.2.room, .map (some b404)] 62)] :: Φ) ?_
                              obtain ⟨x434, hx435, hr⟩ := bind_some' hr
                              refine WO.call rfl rfl rfl rfl rfl cl_10 (CallsRet.lay 3 8 1 [2, 1] [3, 4, 0, 5, 6, 7, 8, 9, 10] (by decide) (Mem.add (Mem.add F w131) (List.flatten [χ])) ([(b208, row [.int .i64 x417.room, .map (some b428)] 62)] :: p429 :: q403 :: p423 :: p410 :: p405 :: [(b191, row [.int .i64 x186.Request, .int .i64 x186.Layer, .int .i64 x186.Place] 30)] :: [(b181, row [.int .i64 x170.Kind, .int .i64 x170.At.Request, .int .i64 x170.At.Layer, .int .i64 x170.At.Place, .slice a175 x170.K.length c176, .slice a178 x170.V.length c179] 33)] :: [(b14, row [.int .i64 x401.2.room, .map (some b404)] 62)] :: Φ) rfl rfl (cache_Store_Put_vm_ok (F := (Mem.add F w131)) (χ := (List.flatten [χ])) hm430 rfl (h177.mono (mono_int _) (Mem.le.trans (Mem.le_pick (Mem.add (Mem.add F w131) χ) 2 [0] (by decide)) (Mem.le_gather (Mem.add (Mem.add F w131) χ) 1))) (h180.mono (mono_int _) (Mem.le.trans (Mem.le_pick (Mem.add (Mem.add F w131) χ) 2 [0] (by decide)) (Mem.le_gather (Mem.add (Mem.add F w131) χ) 1))) hx435 (q403 :: p423 :: p410 :: p405 :: [(b191, row [.int .i64 x186.Request, .int .i64 x186.Layer, .int .i64 x186.Place] 30)] :: [(b181, row [.int .i64 x170.Kind, .int .i64 x170.At.Request, .int .i64 x170.At.Layer, .int .i64 x170.At.Place, .slice a175 x170.K.length c176, .slice a178 x170.V.length c179] 33)] :: [(b14, row [.int .i64 x401.2.room, .map (some b404)] 62)] :: Φ))) ?_
                              rintro _ _ ⟨q436, b437, p438, rfl, hs441, hm440⟩
                              have hs441 := Sat.unlay1 (Mem.add F w131) [χ] _ hs441
                              have hs441 := (hs441.arrange 3 9 [0, 5, 2, 1] [4, 3, 6, 7, 8, 9, 10, 11] (by decide))
                              refine ⟨(Mem.add (Mem.add (Mem.add (Mem.add F χ) w131) q403) q436), (p438 :: [(b208, row [.int .i64 x434.2.room, .map (some b437)] 62)] :: p423 :: p410 :: p405 :: [(b191, row [.int .i64 x186.Request, .int .i64 x186.Layer, .int .i64 x186.Place] 30)] :: [(b181, row [.int .i64 x170.Kind, .int .i64 x170.At.Request, .int .i64 x170.At.Layer, .int .i64 x170.At.Place, .slice a175 x170.K.length c176, .slice a178 x170.V.length c179] 33)] :: [(b14, row [.int .i64 x401.2.room, .map (some b404)] 62)] :: Φ), hs441, (hs441.arrange 4 8 [2, 3] [9, 10] (by decide)), ?_⟩
                              refine WO.bin rfl rfl rfl rfl rfl rfl ?_
                              refine WO.done ?_
                              refine At.arrange 4 8 [0, 1, 2, 3] [5, 4, 6, 7, 8, 9, 10, 11] (by decide) (Mem.add (Mem.add (Mem.add (Mem.add F χ) w131) q403) q436) ([(b208, row [.int .i64 x434.2.room, .map (some b437)] 62)] :: p438 :: p423 :: p410 :: p405 :: [(b191, row [.int .i64 x186.Request, .int .i64 x186.Layer, .int .i64 x186.Place] 30)] :: [(b181, row [.int .i64 x170.Kind, .int .i64 x170.At.Request, .int .i64 x170.At.Layer, .int .i64 x170.At.Place, .slice a175 x170.K.length c176, .slice a178 x170.V.length c179] 33)] :: [(b14, row [.int .i64 x401.2.room, .map (some b404)] 62)] :: Φ) rfl rfl ?_
                              refine At.closeI (F1 := (Mem.add (Mem.add F w131) q436)) [[(b208, row [.int .i64 x434.2.room, .map (some b437)] 62)], p438] (p410 :: p405 :: [(b191, row [.int .i64 x186.Request, .int .i64 x186.Layer, .int .i64 x186.Place] 30)] :: [(b181, row [.int .i64 x170.Kind, .int .i64 x170.At.Request, .int .i64 x170.At.Layer, .int .i64 x170.At.Place, .slice a175 x170.K.length c176, .slice a178 x170.V.length c179] 33)] :: [(b14, row [.int .i64 x401.2.room, .map (some b404)] 62)] :: Φ) x434.2 (hH426.mono monoE_P_cache_Store (Mem.le_pick (Mem.add (Mem.add F w131) q436) 2 [1] (by decide))) hy424 ⟨_, _, _, rfl, rfl, hm440⟩ (fun p442 hI443 => ?_)
                              refine At.arrange 4 6 [0, 1, 2, 3] [5, 4, 6, 7, 8, 9] (by decide) (Mem.add (Mem.add (Mem.add (Mem.add F χ) w131) q403) q436) (p410 :: p442 :: p405 :: [(b191, row [.int .i64 x186.Request, .int .i64 x186.Layer, .int .i64 x186.Place] 30)] :: [(b181, row [.int .i64 x170.Kind, .int .i64 x170.At.Request, .int .i64 x170.At.Layer, .int .i64 x170.At.Place, .slice a175 x170.K.length c176, .slice a178 x170.V.length c179] 33)] :: [(b14, row [.int .i64 x401.2.room, .map (some b404)] 62)] :: Φ) rfl rfl ?_
                              refine At.packE (p405 :: [(b191, row [.int .i64 x186.Request, .int .i64 x186.Layer, .int .i64 x186.Place] 30)] :: [(b181, row [.int .i64 x170.Kind, .int .i64 x170.At.Request, .int .i64 x170.At.Layer, .int .i64 x170.At.Place, .slice a175 x170.K.length c176, .slice a178 x170.V.length c179] 33)] :: [(b14, row [.int .i64 x401.2.room, .map (some b404)] 62)] :: Φ) (hO413.raw (G := (Mem.add (Mem.add F w131) q436))) hI443 (fun p445 hp446 hE447 => ?_)
                              have hc448 := CellAt.of hp446 hO413 hy420
                              refine At.relen 5 (k' := (List.set v132 (Int.toNat (IntKind.wrap .i64 ((IntKind.wrap .i64 (2 * (Int.tmod (IntKind.wrap .i64 ((Int.tmod x170.At.Request 3) + 3)) 3))) + (Int.tmod (IntKind.wrap .i64 ((Int.tmod x170.At.Layer 2) + 2)) 2)))) x434.2).length) rfl (by simp only [List.length_set]) ?_
                              refine At.relen 96 (k' := (List.set v132 (Int.toNat (IntKind.wrap .i64 ((IntKind.wrap .i64 (2 * (Int.tmod (IntKind.wrap .i64 ((Int.tmod x170.At.Request 3) + 3)) 3))) + (Int.tmod (IntKind.wrap .i64 ((Int.tmod x170.At.Layer 2) + 2)) 2)))) x434.2).length) rfl (by simp only [List.length_set]) ?_
                              refine At.seq_wc ?_
                              refine WC.cond rfl (fun hb449 => ?_) (fun hb449 => ?_)
                              · have hr := cond_t hb449 hr
                                refine WC.then ?_
                                refine WC.region [(0, true)] rfl ?_
                                refine WO.assign rfl rfl rfl rfl ?_
                                refine WO.done ?_
                                refine At.seq_wc ?_
                                refine WC.ret ?_
                                refine At.seq_ret ?_
                                refine At.block_ret ?_
                                refine At.seq_ret ?_
                                refine At.round_ret hr (fun hy => ?_)
                                subst hy
                                have hr := hk10
                                refine At.block_ret ?_
                                refine At.seq_ret ?_
                                refine At.seq_ret ?_
                                obtain rfl := Option.some.inj hr
                                exact At.ret (fun a w hc hs => (resVs_cons (hc.res rfl) resVs_nil)) (fun w hs => ⟨rfl, (hs.arrange 4 5 [3] [] (by decide))⟩)
                              · have hr := cond_f hb449 hr
                                refine WC.skip ?_
                                refine At.seq_at ?_
                                exact fun a w hc hs => ⟨(List.set v132 (Int.toNat (IntKind.wrap .i64 ((IntKind.wrap .i64 (2 * (Int.tmod (IntKind.wrap .i64 ((Int.tmod x170.At.Request 3) + 3)) 3))) + (Int.tmod (IntKind.wrap .i64 ((Int.tmod x170.At.Layer 2) + 2)) 2)))) x434.2), x401.2, (some ⟨b203, 0, none⟩), c134, p445, b404, p405, (List.flatten [q436, q403]), hr, (hc.keep (hc.keep (hc.keep (hc.keep (hc.keep (hc.keep (hc.keep hc.nil (t := 14) rfl) (t := 12) rfl) (t := 11) rfl) (t := 9) rfl) (t := 5) rfl) (t := 3) rfl) (t := 0) rfl), (hs.gather 2), hc448, (hE447.mono monoE_P_cache_Store (Mem.le.trans (Mem.le_pick (Mem.add (Mem.add (Mem.add F w131) q403) q436) 3 [0, 2] (by decide)) (Mem.le_gather (Mem.add (Mem.add (Mem.add F w131) q403) q436) 2))), (hm407.mono (monoVA mono_cache_rows) (Mem.le.trans (Mem.le_pick (Mem.add (Mem.add (Mem.add F w131) q403) q436) 3 [1, 2] (by decide)) (Mem.le_gather (Mem.add (Mem.add (Mem.add F w131) q403) q436) 2)))⟩
                          · rintro a w ⟨v215, v221, a216, c217, p218, b222, p223, w214, hr, hc, hs, hc226, ho219, hm224⟩
                            refine WC.use hc hs ?_
                            clear hc hs
                            unfold law12_CacheApart_k12 at hr
                            refine WC.then ?_
                            refine WC.region [(0, true), (1, true), (2, true), (3, false), (4, true), (5, true), (6, true), (7, true), (8, true)] rfl ?_
                            refine WO.move rfl rfl rfl rfl ?_
                            refine WO.move rfl rfl rfl rfl ?_
                            refine WO.move rfl rfl rfl rfl ?_
                            obtain ⟨x227, hx228, hr⟩ := bind_some' hr
                            refine WO.call rfl rfl rfl rfl rfl cl_11 (CallsRet.lay0 3 5 [0, 1] [7, 4, 2, 3, 5, 6] (by decide) (Mem.add (Mem.add F w131) w214) ([(b14, row [.int .i64 v221.room, .map (some b222)] 62)] :: p223 :: χ :: p218 :: [(b191, row [.int .i64 x186.Request, .int .i64 x186.Layer, .int .i64 x186.Place] 30)] :: [(b181, row [.int .i64 x170.Kind, .int .i64 x170.At.Request, .int .i64 x170.At.Layer, .int .i64 x170.At.Place, .slice a175 x170.K.length c176, .slice a178 x170.V.length c179] 33)] :: Φ) rfl rfl (cache_Store_Line_vm_ok (F := (Mem.add (Mem.add F w131) w214)) hm224 hx228 (χ :: p218 :: [(b191, row [.int .i64 x186.Request, .int .i64 x186.Layer, .int .i64 x186.Place] 30)] :: [(b181, row [.int .i64 x170.Kind, .int .i64 x170.At.Request, .int .i64 x170.At.Layer, .int .i64 x170.At.Place, .slice a175 x170.K.length c176, .slice a178 x170.V.length c179] 33)] :: Φ))) ?_
                            rintro _ _ ⟨q229, a230, c231, p233, a235, c236, p238, rfl, hs240, h232, h237⟩
                            have hs240 := (hs240.arrange 3 8 [0, 1, 2, 7] [3, 4, 8, 6, 9, 10, 5] (by decide))
                            refine ⟨(Mem.add (Mem.add (Mem.add (Mem.add F χ) w131) w214) q229), (p233 :: p238 :: p218 :: p223 :: [(b191, row [.int .i64 x186.Request, .int .i64 x186.Layer, .int .i64 x186.Place] 30)] :: [(b181, row [.int .i64 x170.Kind, .int .i64 x170.At.Request, .int .i64 x170.At.Layer, .int .i64 x170.At.Place, .slice a175 x170.K.length c176, .slice a178 x170.V.length c179] 33)] :: [(b14, row [.int .i64 v221.room, .map (some b222)] 62)] :: Φ), hs240, trivial, ?_⟩
                            refine WO.move rfl rfl rfl rfl ?_
                            refine WO.extract rfl rfl rfl rfl rfl ?_
                            refine WO.extract rfl rfl rfl rfl rfl ?_
                            refine WO.assign rfl rfl rfl rfl ?_
                            refine WO.assign rfl rfl rfl rfl ?_
                            refine WO.done ?_
                            refine At.seq_wc ?_
                            refine WC.then ?_
                            refine WC.region [(0, true), (1, true), (2, true), (3, false), (4, true), (5, true), (6, true), (7, true), (8, true)] rfl ?_
                            refine WO.move rfl rfl rfl rfl ?_
                            refine WO.move rfl rfl rfl rfl ?_
                            refine WO.move rfl rfl rfl rfl ?_
                            refine WO.unE 2 ho219 rfl (fun y241 p242 p243 hp244 hO245 hI246 => ?_)
                            obtain ⟨x249, hx250, hr⟩ := bind_some' hr
                            obtain ⟨b251, hy252⟩ := hI246.ptr ptr_P_cache_Store hx250
                            obtain rfl := CellAt.same hp244 hO245 hc226 hy252
                            refine WO.openI 1 hI246 rfl hx250 (fun y253 p254 p255 hy256 hR257 hH258 => ?_)
                            obtain ⟨b259, b260, p261, rfl, rfl, hm262⟩ := hR257
                            obtain rfl : b208 = b259 := ptr_same hy252 hy256
                            refine WO.flatE [[(b208, row [.int .i64 x249.room, .map (some b260)] 62)], p261] (p255 :: p242 :: p233 :: p238 :: p223 :: [(b191, row [.int .i64 x186.Request, .int .i64 x186.Layer, .int .i64 x186.Place] 30)] :: [(b181, row [.int .i64 x170.Kind, .int .i64 x170.At.Request, .int .i64 x170.At.Layer, .int .i64 x170.At.Place, .slice a175 x170.K.length c176, .slice a178 x170.V.length c179] 33)] :: [(b14, row [.int .i64 v221.room, .map (some b222)] 62)] :: Φ) ?_
                            obtain ⟨x266, hx267, hr⟩ := bind_some' hr
                            refine WO.call rfl rfl rfl rfl rfl cl_11 (CallsRet.lay0 4 10 [1, 2] [4, 5, 0, 3, 6, 7, 8, 9, 10, 11, 12, 13] (by decide) (Mem.add (Mem.add F w131) w214) ([(b208, row [.int .i64 x249.room, .map (some b260)] 62)] :: p261 :: q229 :: χ :: p255 :: p242 :: p233 :: p238 :: p223 :: [(b191, row [.int .i64 x186.Request, .int .i64 x186.Layer, .int .i64 x186.Place] 30)] :: [(b181, row [.int .i64 x170.Kind, .int .i64 x170.At.Request, .int .i64 x170.At.Layer, .int .i64 x170.At.Place, .slice a175 x170.K.length c176, .slice a178 x170.V.length c179] 33)] :: [(b14, row [.int .i64 v221.room, .map (some b222)] 62)] :: Φ) rfl rfl (cache_Store_Line_vm_ok (F := (Mem.add (Mem.add F w131) w214)) hm262 hx267 (q229 :: χ :: p255 :: p242 :: p233 :: p238 :: p223 :: [(b191, row [.int .i64 x186.Request, .int .i64 x186.Layer, .int .i64 x186.Place] 30)] :: [(b181, row [.int .i64 x170.Kind, .int .i64 x170.At.Request, .int .i64 x170.At.Layer, .int .i64 x170.At.Place, .slice a175 x170.K.length c176, .slice a178 x170.V.length c179] 33)] :: [(b14, row [.int .i64 v221.room, .map (some b222)] 62)] :: Φ))) ?_
                            rintro _ _ ⟨q268, a269, c270, p272, a274, c275, p277, rfl, hs279, h271, h276⟩
                            have hs279 := (hs279.arrange 3 14 [0, 7, 1, 2, 8] [3, 4, 5, 6, 9, 10, 11, 12, 13, 14, 15, 16] (by decide))
                            refine ⟨(Mem.add (Mem.add (Mem.add (Mem.add (Mem.add F χ) w131) w214) q229) q268), (p272 :: p277 :: [(b208, row [.int .i64 x249.room, .map (some b260)] 62)] :: p261 :: p255 :: p242 :: p233 :: p238 :: p223 :: [(b191, row [.int .i64 x186.Request, .int .i64 x186.Layer, .int .i64 x186.Place] 30)] :: [(b181, row [.int .i64 x170.Kind, .int .i64 x170.At.Request, .int .i64 x170.At.Layer, .int .i64 x170.At.Place, .slice a175 x170.K.length c176, .slice a178 x170.V.length c179] 33)] :: [(b14, row [.int .i64 v221.room, .map (some b222)] 62)] :: Φ), hs279, trivial, ?_⟩
                            refine WO.move rfl rfl rfl rfl ?_
                            refine WO.extract rfl rfl rfl rfl rfl ?_
                            refine WO.extract rfl rfl rfl rfl rfl ?_
                            refine WO.assign rfl rfl rfl rfl ?_
                            refine WO.assign rfl rfl rfl rfl ?_
                            refine WO.done ?_
                            refine At.arrange 5 12 [0, 1, 2, 3, 4] [7, 8, 9, 5, 6, 10, 11, 12, 13, 14, 15, 16] (by decide) (Mem.add (Mem.add (Mem.add (Mem.add (Mem.add F χ) w131) w214) q229) q268) ([(b208, row [.int .i64 x249.room, .map (some b260)] 62)] :: p261 :: p255 :: p272 :: p277 :: p242 :: p233 :: p238 :: p223 :: [(b191, row [.int .i64 x186.Request, .int .i64 x186.Layer, .int .i64 x186.Place] 30)] :: [(b181, row [.int .i64 x170.Kind, .int .i64 x170.At.Request, .int .i64 x170.At.Layer, .int .i64 x170.At.Place, .slice a175 x170.K.length c176, .slice a178 x170.V.length c179] 33)] :: [(b14, row [.int .i64 v221.room, .map (some b222)] 62)] :: Φ) rfl rfl ?_
                            refine At.closeI0 (F1 := (Mem.add (Mem.add F w131) w214)) [[(b208, row [.int .i64 x249.room, .map (some b260)] 62)], p261] (p272 :: p277 :: p242 :: p233 :: p238 :: p223 :: [(b191, row [.int .i64 x186.Request, .int .i64 x186.Layer, .int .i64 x186.Place] 30)] :: [(b181, row [.int .i64 x170.Kind, .int .i64 x170.At.Request, .int .i64 x170.At.Layer, .int .i64 x170.At.Place, .slice a175 x170.K.length c176, .slice a178 x170.V.length c179] 33)] :: [(b14, row [.int .i64 v221.room, .map (some b222)] 62)] :: Φ) hx250 hH258 hy256 ⟨_, _, _, rfl, rfl, hm262⟩ (fun p280 hI281 => ?_)
                            refine At.arrange 5 10 [0, 1, 2, 3, 4] [8, 5, 6, 7, 9, 10, 11, 12, 13, 14] (by decide) (Mem.add (Mem.add (Mem.add (Mem.add (Mem.add F χ) w131) w214) q229) q268) (p242 :: p280 :: p272 :: p277 :: p233 :: p238 :: p223 :: [(b191, row [.int .i64 x186.Request, .int .i64 x186.Layer, .int .i64 x186.Place] 30)] :: [(b181, row [.int .i64 x170.Kind, .int .i64 x170.At.Request, .int .i64 x170.At.Layer, .int .i64 x170.At.Place, .slice a175 x170.K.length c176, .slice a178 x170.V.length c179] 33)] :: [(b14, row [.int .i64 v221.room, .map (some b222)] 62)] :: Φ) rfl rfl ?_
                            refine At.packE (p272 :: p277 :: p233 :: p238 :: p223 :: [(b191, row [.int .i64 x186.Request, .int .i64 x186.Layer, .int .i64 x186.Place] 30)] :: [(b181, row [.int .i64 x170.Kind, .int .i64 x170.At.Request, .int .i64 x170.At.Layer, .int .i64 x170.At.Place, .slice a175 x170.K.length c176, .slice a178 x170.V.length c179] 33)] :: [(b14, row [.int .i64 v221.room, .map (some b222)] 62)] :: Φ) (hO245.raw (G := (Mem.add (Mem.add F w131) w214))) hI281 (fun p283 hp284 hE285 => ?_)
                            refine At.seq_wc ?_
                            refine WC.then ?_
                            refine WC.region [(0, true), (1, true), (2, true), (3, true), (4, true)] rfl ?_
                            refine WO.move rfl rfl rfl rfl ?_
                            refine WO.len rfl rfl rfl rfl Try.underlying37 ?_
                            refine WO.move rfl rfl rfl rfl ?_
                            refine WO.len rfl rfl rfl rfl Try.underlying37 ?_
                            refine WO.bin rfl rfl rfl rfl rfl rfl ?_
                            refine WO.done ?_
                            refine At.seq_wc ?_
                            refine WC.cond rfl (fun hb286 => ?_) (fun hb286 => ?_)
                            · have hr := cond_t hb286 hr
                              refine WC.then ?_
                              refine WC.region [(0, true)] rfl ?_
                              refine WO.assign rfl rfl rfl rfl ?_
                              refine WO.done ?_
                              refine At.seq_wc ?_
                              refine WC.ret ?_
                              refine At.block_ret ?_
                              refine At.seq_ret ?_
                              refine At.round_ret hr (fun hy => ?_)
                              subst hy
                              have hr := hk10
                              refine At.block_ret ?_
                              refine At.seq_ret ?_
                              refine At.seq_ret ?_
                              obtain rfl := Option.some.inj hr
                              exact At.ret (fun a w hc hs => (resVs_cons (hc.res rfl) resVs_nil)) (fun w hs => ⟨rfl, (hs.arrange 5 9 [4] [] (by decide))⟩)
                            · have hr := cond_f hb286 hr
                              refine WC.skip ?_
                              refine At.block_normal ?_
                              refine At.seq_wc ?_
                              refine WC.region [(0, true), (1, true), (2, true)] rfl ?_
                              refine WO.move rfl rfl rfl rfl ?_
                              refine WO.bin rfl rfl rfl rfl rfl rfl ?_
                              refine WO.assign rfl rfl rfl rfl ?_
                              refine WO.done ?_
                              refine At.round_next hr ?_
                              exact fun a w hc hs => ⟨a216, c217, p283, b222, p223, (List.flatten [w214, w131]), (hc.keep (hc.keep (hc.keep (hc.keep hc.nil (t := 9) rfl) (t := 5) rfl) (t := 3) rfl) (t := 0) rfl), ((hs.arrange 5 9 [2, 3, 4] [5, 10, 13] (by decide)).gather 2), (hE285.mono monoE_P_cache_Store (Mem.le_gather (Mem.add (Mem.add F w131) w214) 2)), (hm224.mono (monoVA mono_cache_rows) (Mem.le_gather (Mem.add (Mem.add F w131) w214) 2))⟩
                    · have hr := cond_f hb169 hr
                      refine WC.exit ?_
                      refine At.seq_exit ?_
                      refine At.round_exit hr (fun hy => ?_)
                      refine At.exit_block ?_
                      refine At.seq_at ?_
                      exact fun a w hc hs => ⟨v132, v139, a133, c134, p135, b140, p141, (List.flatten [w131]), hy, (hc.keep (hc.keep hc.nil (t := 5) rfl) (t := 3) rfl), (hs.gather 1), (ho136.mono monoE_P_cache_Store (Mem.le_gather (Mem.add F w131) 1)), (hm142.mono (monoVA mono_cache_rows) (Mem.le_gather (Mem.add F w131) 1))⟩
                · rintro a w ⟨v158, v164, a159, c160, p161, b165, p166, w157, rfl, hc, hs, ho162, hm167⟩
                  refine At.use hc hs ?_
                  clear hc hs
                  (try dsimp only at hk10)
                  have hr := hk10
                  refine At.seq_at ?_
                  exact fun a w hc hs => ⟨v158, v164, a159, c160, p161, b165, p166, (List.flatten [w157]), hr, (hc.keep (hc.keep hc.nil (t := 5) rfl) (t := 3) rfl), (hs.gather 1), (ho162.mono monoE_P_cache_Store (Mem.le_gather (Mem.add F w157) 1)), (hm167.mono (monoVA mono_cache_rows) (Mem.le_gather (Mem.add F w157) 1))⟩
              · rintro a w ⟨v31, v37, a32, c33, p34, b38, p39, w30, hr, hc, hs, ho35, hm40⟩
                refine WC.use hc hs ?_
                clear hc hs
                unfold law12_CacheApart_k5 at hr
                refine WC.then ?_
                refine WC.region [(0, true)] rfl ?_
                refine WO.assign rfl rfl rfl rfl ?_
                refine WO.done ?_
                refine At.seq_wc ?_
                refine WC.seq (fun a w => ∃ (v43 : Int), law12_CacheApart_k6 v37 v43 = some r ∧ Ctx 179 [(3, .pointer (some ⟨b14, 0, none⟩)), (20, .int .i64 v43)] a ∧ Sat (Mem.add (Mem.add F χ) w30) (p39 :: [(b14, row [.int .i64 v37.room, .map (some b38)] 62)] :: Φ) w) ?_ ?_
                · refine WC.then ?_
                  refine WC.region [(0, true)] rfl ?_
                  refine WO.assign rfl rfl rfl rfl ?_
                  refine WO.done ?_
                  refine At.seq_wc ?_
                  obtain ⟨xl8, hl8, hk8⟩ := bind_some' hr
                  refine WC.weaken (fun a w => ∃ (v76 : Int), v76 = xl8 ∧ Ctx 179 [(3, .pointer (some ⟨b14, 0, none⟩)), (20, .int .i64 v76)] a ∧ Sat (Mem.add (Mem.add F χ) w30) (p39 :: [(b14, row [.int .i64 v37.room, .map (some b38)] 62)] :: Φ) w) ?_ ?_
                  · refine WC.block ?_
                    refine WC.loop (fun ⟨v58, v64, v65⟩ a w => ∃ (a59 : Option Addr) (c60 : Nat) (p61 : List Chunk), Ctx 179 [(3, .pointer (some ⟨b14, 0, none⟩)), (5, .slice a59 v58.length c60), (20, .int .i64 v64), (21, .int .i64 v65)] a ∧ Sat (Mem.add (Mem.add F χ) w30) (p61 :: p39 :: [(b14, row [.int .i64 v37.room, .map (some b38)] 62)] :: Φ) w ∧ OwnE 1 RO_P_cache_Store (Mem.add F w30) 24 a59 c60 v58 p61) hl8 ?_ ?_
                    · exact fun a w hc hs => ⟨a32, c33, p34, (hc.keep (hc.keep (hc.keep (hc.keep hc.nil (t := 21) rfl) (t := 20) rfl) (t := 5) rfl) (t := 3) rfl), hs, ho35⟩
                    · rintro ⟨v58, v64, v65⟩ r8 hr a w ⟨a59, c60, p61, hc, hs, ho62⟩
                      refine WC.use hc hs ?_
                      clear hc hs
                      (try dsimp only at hr)
                      unfold law12_CacheApart_b7 at hr
                      refine WC.then ?_
                      refine WC.then ?_
                      refine WC.region [(0, true), (1, true)] rfl ?_
                      refine WO.move rfl rfl rfl rfl ?_
                      refine WO.bin rfl rfl rfl rfl rfl rfl ?_
                      refine WO.done ?_
                      refine At.seq_wc ?_
                      refine WC.cond rfl (fun hb77 => ?_) (fun hb77 => ?_)
                      · have hr := cond_t hb77 hr
                        refine WC.skip ?_
                        refine At.seq_wc ?_
                        refine WC.then ?_
                        refine WC.block ?_
                        refine WC.region [(0, true), (1, true), (2, true), (3, true), (4, false), (5, false), (6, true), (7, true)] rfl ?_
                        refine WO.move rfl rfl rfl rfl ?_
                        refine WO.move rfl rfl rfl rfl ?_
                        refine WO.move rfl rfl rfl rfl ?_
                        refine WO.unE 0 ho62 rfl (fun y78 p79 p80 hp81 hO82 hI83 => ?_)
                        obtain ⟨x86, hx87, hr⟩ := bind_some' hr
                        obtain ⟨b93, hy94⟩ := hI83.ptr ptr_P_cache_Store hx87
                        refine WO.indexQ hO82 hy94 rfl rfl rfl rfl (hI83.len) rfl Try.underlying28 sz_24 (fun b88 cs89 hb90 h91 hq92 => ?_)
                        cases h91
                        subst hb90
                        refine WO.loadQ 0 0 hq92 rfl rfl rfl rfl rfl rfl sc_24 rfl ?_
                        refine WO.openI 1 hI83 rfl hx87 (fun y95 p96 p97 hy98 hR99 hH100 => ?_)
                        obtain ⟨b101, b102, p103, rfl, rfl, hm104⟩ := hR99
                        obtain rfl : b93 = b101 := ptr_same hy94 hy98
                        refine WO.flatE [[(b93, row [.int .i64 x86.room, .map (some b102)] 62)], p103] (p97 :: p79 :: p39 :: [(b14, row [.int .i64 v37.room, .map (some b38)] 62)] :: Φ) ?_
                        obtain ⟨x108, hx109, hr⟩ := bind_some' hr
                        refine WO.call rfl rfl rfl rfl rfl cl_12 (CallsRet.lay0 2 6 [0] [2, 3, 1, 4, 5, 6, 7] (by decide) (Mem.add F w30) ([(b93, row [.int .i64 x86.room, .map (some b102)] 62)] :: p103 :: χ :: p97 :: p79 :: p39 :: [(b14, row [.int .i64 v37.room, .map (some b38)] 62)] :: Φ) rfl rfl (cache_Store_Len_vm_ok (F := (Mem.add F w30)) hm104 hx109 (χ :: p97 :: p79 :: p39 :: [(b14, row [.int .i64 v37.room, .map (some b38)] 62)] :: Φ))) ?_
                        rintro _ _ ⟨rfl, hs110⟩
                        have hs110 := (hs110.arrange 1 7 [0, 3] [1, 2, 4, 5, 6, 7] (by decide))
                        refine ⟨(Mem.add (Mem.add F χ) w30), ([(b93, row [.int .i64 x86.room, .map (some b102)] 62)] :: p103 :: p97 :: p79 :: p39 :: [(b14, row [.int .i64 v37.room, .map (some b38)] 62)] :: Φ), hs110, trivial, ?_⟩
                        refine WO.bin rfl rfl rfl rfl rfl rfl ?_
                        refine WO.assign rfl rfl rfl rfl ?_
                        refine WO.done ?_
                        refine At.closeI0 (F1 := (Mem.add F w30)) [[(b93, row [.int .i64 x86.room, .map (some b102)] 62)], p103] (p79 :: p39 :: [(b14, row [.int .i64 v37.room, .map (some b38)] 62)] :: Φ) hx87 hH100 hy98 ⟨_, _, _, rfl, rfl, hm104⟩ (fun p111 hI112 => ?_)
                        refine At.arrange 2 4 [0, 1] [3, 2, 4, 5] (by decide) (Mem.add (Mem.add F χ) w30) (p79 :: p111 :: p39 :: [(b14, row [.int .i64 v37.room, .map (some b38)] 62)] :: Φ) rfl rfl ?_
                        refine At.packE (p39 :: [(b14, row [.int .i64 v37.room, .map (some b38)] 62)] :: Φ) (hO82.raw (G := (Mem.add F w30))) hI112 (fun p114 hp115 hE116 => ?_)
                        refine At.block_normal ?_
                        refine At.seq_wc ?_
                        refine WC.region [(0, true), (1, true), (2, true)] rfl ?_
                        refine WO.move rfl rfl rfl rfl ?_
                        refine WO.bin rfl rfl rfl rfl rfl rfl ?_
                        refine WO.assign rfl rfl rfl rfl ?_
                        refine WO.done ?_
                        refine At.round_next hr ?_
                        exact fun a w hc hs => ⟨(some ⟨b88, 0, none⟩), c60, p114, (hc.keep (hc.keep (hc.keep (hc.keep hc.nil (t := 21) rfl) (t := 20) rfl) (t := 5) rfl) (t := 3) rfl), hs, hE116⟩
                      · have hr := cond_f hb77 hr
                        refine WC.exit ?_
                        refine At.seq_exit ?_
                        refine At.round_exit hr (fun hy => ?_)
                        refine At.exit_block ?_
                        refine At.seq_at ?_
                        exact fun a w hc hs => ⟨v64, hy, (hc.keep (hc.keep hc.nil (t := 20) rfl) (t := 3) rfl), (hs.arrange 2 3 [0, 1] [3, 4] (by decide))⟩
                  · rintro a w ⟨v76, rfl, hc, hs⟩
                    refine At.use hc hs ?_
                    clear hc hs
                    (try dsimp only at hk8)
                    have hr := hk8
                    refine At.seq_at ?_
                    exact fun a w hc hs => ⟨v76, hr, (hc.keep (hc.keep hc.nil (t := 20) rfl) (t := 3) rfl), hs⟩
                · rintro a w ⟨v43, hr, hc, hs⟩
                  refine WC.use hc hs ?_
                  clear hc hs
                  unfold law12_CacheApart_k6 at hr
                  refine WC.then ?_
                  refine WC.region [(0, true), (1, false), (2, true), (3, true), (4, true)] rfl ?_
                  refine WO.move rfl rfl rfl rfl ?_
                  obtain ⟨x44, hx45, hr⟩ := bind_some' hr
                  refine WO.call rfl rfl rfl rfl rfl cl_12 (CallsRet.lay0 2 2 [0] [3, 2, 1] (by decide) (Mem.add F w30) ([(b14, row [.int .i64 v37.room, .map (some b38)] 62)] :: p39 :: χ :: Φ) rfl rfl (cache_Store_Len_vm_ok (F := (Mem.add F w30)) hm40 hx45 (χ :: Φ))) ?_
                  rintro _ _ ⟨rfl, hs46⟩
                  have hs46 := (hs46.arrange 1 3 [0, 3] [2, 1] (by decide))
                  refine ⟨(Mem.add (Mem.add F χ) w30), (p39 :: [(b14, row [.int .i64 v37.room, .map (some b38)] 62)] :: Φ), hs46, trivial, ?_⟩
                  refine WO.move rfl rfl rfl rfl ?_
                  refine WO.bin rfl rfl rfl rfl rfl rfl ?_
                  refine WO.assign rfl rfl rfl rfl ?_
                  refine WO.done ?_
                  refine At.seq_wc ?_
                  refine WC.ret ?_
                  obtain rfl := Option.some.inj hr
                  exact At.ret (fun a w hc hs => (resVs_cons (hc.res rfl) resVs_nil)) (fun w hs => ⟨rfl, (hs.arrange 2 2 [1] [] (by decide))⟩)
end
end Go.Pel
