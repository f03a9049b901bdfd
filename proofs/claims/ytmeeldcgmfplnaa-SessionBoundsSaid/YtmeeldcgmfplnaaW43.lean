/-
  The walk of the law SessionBounds: an answer.
-/
import Derived.Test.YtmeeldcgmfplnaaW44
import Derived.Deep.QuietTactic
import Derived.BigQuiet
set_option linter.unusedVariables false
set_option linter.unusedSimpArgs false
namespace Go.Proofs.Ytmeeldcgmfplnaa
open Go.RowKit Go.BigFrame
attribute [local go_sem] setRow_setCell_same setRow_setCell_other setRow_cell_same setRow_cell_other setRow_frozen setRow_shape
attribute [local go_sem ↓] Go.wp_at_zero Go.wp_at_succ


theorem wp_normal {P : Program} {c : Code} {Q' : Exit → Act → World → Prop} {a : Act} {w : World} (h : c.wp P (Exit.then (fun a w => Q' .normal a w) (fun _ _ _ => False)) a w) : c.wp P Q' a w :=
  Code.wp_mono (fun e a w h => by cases e <;> first | exact h | exact h.elim) h
theorem u8_at {ok : Nat → Prop} {w : World} {A : Option Addr} {n : Nat} {xs : List Int} (h : kU8.C ok w A n xs) {i : Nat} (hi : i < n) {x : Int} (hx : xs[i]? = some x) :
    ∃ ad, A = some ad ∧ w.cell? (ad.add i) = some (.int .u8 x) := by
  obtain ⟨ad, c, rfl, hk, hc⟩ := Kn.C_at h hi hx
  have hk' : c = [Value.int .u8 x] := hk
  subst hk'
  refine ⟨ad, rfl, ?_⟩
  have := hc 0 _ rfl
  simpa [kU8, Kn.int, Kn.scalar] using this
theorem i64w (q : Nat) (h : q ≤ 4) : wrap64 ((q : Int) + 1) = (q : Int) + 1 ∧ IntKind.i64.wrap ((q : Int) + 1) = (q : Int) + 1 := by
  refine ⟨by unfold wrap64; omega, ?_⟩
  unfold IntKind.wrap
  simp [IntKind.bits, IntKind.signed]
  omega
theorem idx_form (z : Int) (n : Nat) (h0 : 0 < n) (h1 : n ≤ 4) : IntKind.u64.wrap (n : Int) = (n : Int) ∧ ∃ j : Nat, j < n ∧ wrap64 ((IntKind.u64.wrap z).tmod (n : Int)) = (j : Int) := by
  have hz : 0 ≤ IntKind.u64.wrap z := by
    unfold IntKind.wrap
    simp [IntKind.bits, IntKind.signed]
    omega
  refine ⟨?_, ((IntKind.u64.wrap z).tmod (n : Int)).toNat, ?_, ?_⟩
  · unfold IntKind.wrap
    simp [IntKind.bits, IntKind.signed]
    omega
  · have h2 := Int.tmod_nonneg (n : Int) hz
    have h3 := Int.tmod_lt_of_pos (IntKind.u64.wrap z) (b := (n : Int)) (by omega)
    omega
  · have h2 := Int.tmod_nonneg (n : Int) hz
    have h3 := Int.tmod_lt_of_pos (IntKind.u64.wrap z) (b := (n : Int)) (by omega)
    unfold wrap64
    omega
theorem id_form (z : Int) : 1 ≤ wrap64 ((wrap64 (z.tmod 6 + 6)).tmod 6 + 1) ∧ wrap64 ((wrap64 (z.tmod 6 + 6)).tmod 6 + 1) ≤ 6 := by
  have h1 : -6 < z.tmod 6 ∧ z.tmod 6 < 6 := by
    refine ⟨?_, Int.tmod_lt_of_pos z (by decide)⟩
    rcases Int.le_total 0 z with h | h
    · have := Int.tmod_nonneg 6 h; omega
    · have h3 := Int.tmod_nonneg 6 (a := -z) (by omega)
      have h4 := Int.tmod_lt_of_pos (-z) (b := 6) (by decide)
      rw [Int.neg_tmod] at h3 h4
      omega
  have h2 : wrap64 (z.tmod 6 + 6) = z.tmod 6 + 6 := by unfold wrap64; omega
  rw [h2]
  have h3 := Int.tmod_nonneg 6 (a := z.tmod 6 + 6) (by omega)
  have h4 := Int.tmod_lt_of_pos (z.tmod 6 + 6) (b := 6) (by decide)
  unfold wrap64
  omega

set_option maxRecDepth 100000 in
set_option maxHeartbeats 8000000 in
theorem bounds_ans (p0 p1 p2 p6 p8 p9 p10 p11 p12 p13 p14 p15 p16 p17 p18 p19 p20 p21 p22 p23 p24 p25 p26 p27 p28 p29 p30 p31 p32 p33 p34 p35 p36 p37 p38 p39 p41 p42 p43 p44 p45 p46 p47 p48 p49 p50 p51 p52 p53 p54 p55 p56 p57 p58 p59 p60 p61 p62 p63 p64 p65 p66 p67 p68 p69 p70 p71 p72 p73 p74 p75 p76 p77 p78 p79 p80 p81 p82 p83 p84 p85 p86 p87 p88 p89 p90 p91 p92 p93 p94 p95 p96 p97 p98 p99 p100 p101 p102 p103 p104 p105 p106 p107 p108 p109 p110 p111 p112 p113 p114 p115 p116 p117 p118 p119 p120 p121 p122 p123 p124 p125 p126 p127 p128 p129 p130 p131 p132 p133 p134 p135 p136 p137 p138 p139 p140 p141 p142 p143 p144 p145 p146 p147 p148 p149 p150 p151 p152 p153 p154 p155 p156 p157 p158 p159 p160 p161 p162 p163 p164 p165 p166 p167 p168 p169 p170 p171 p172 p173 p174 p175 p176 p177 p178 p179 p180 p181 p182 p183 p184 p185 p186 p187 p188 p189 p190 p191 p192 p193 p194 p195 p196 p197 p198 p199 p200 p201 p202 p203 p204 p205 p206 p207 p208 p209 p210 p211 p212 p213 p214 p215 p216 p217 p218 p219 p220 p221 p222 p223 p224 p225 p226 p227 p228 p229 p230 p231 p232 p233 p234 p235 p236 p237 p238 p239 p240 p241 p242 p243 p244 p245 p246 p247 p248 p249 p250 : Value) (x : Stp) (A' : Option Addr) (c' : Nat) (k : Nat) (s : Ses) (o : List Int) (n : Int) (Ao : Option Addr) (co : Nat) (g6 : Nat) (A1 : Option Addr) (c1 : Nat) (A2 : Option Addr) (c2 : Nat) (A3 : Option Addr) (c3 : Nat) (A4 : Option Addr) (c4 : Nat) (w wy : World) (HI : Aside (BInv s o n)) (HJy : Aside (JB s o w (.slice Ao o.length co) A1 c1 A2 c2 A3 c3 A4 c4 wy)) (HK6 : Aside (Blk wy g6 55 (stpCells x A' c').toArray)) (hn0 : 0 ≤ n) (hnk : n ≤ k) (h200 : (k : Int) < 200) (hb0 : (x.doo == 0) = false) (hb1' : (x.doo == 1) = true) (Q : Exit → Act → World → Prop)
    (hQ : ∀ (q4 q5 q8 q9 q10 q11 q12 q14 q15 q16 q25 q26 q27 q28 q29 q30 q31 q32 q33 q34 q35 q36 q37 q38 q39 q41 q42 q43 q44 q45 q46 q47 q48 q49 q50 q51 q52 q53 q54 q55 q56 q57 q58 q59 q60 q61 q62 q63 q64 q65 q66 q67 q68 q69 q70 q71 q72 q73 q74 q75 q76 q77 q78 q79 q80 q81 q82 q83 q84 q85 q86 q87 q88 q89 q90 q91 q92 q93 q94 q95 q96 q97 q98 q99 q100 q101 q102 q103 q104 q105 q106 q107 q108 q109 q110 q111 q112 q113 q114 q115 q116 q117 q118 q119 q120 q121 q122 q123 q124 q125 q126 q127 q128 q129 q130 q131 q132 q133 q134 q135 q136 q137 q138 q139 q140 q141 q142 q143 q144 q145 q146 q147 q148 q149 q150 q151 q152 q153 q154 q155 q156 q157 q158 q159 q160 q161 q162 q163 q164 q165 q166 q167 q168 q172 q173 q174 q175 q176 q177 q178 q179 q180 q181 q182 q183 q184 q185 q186 q187 q188 q189 q190 q191 q192 q193 q194 q195 q196 q197 q198 q199 q200 q201 q202 q203 q204 q205 q206 q207 q208 q209 q210 q211 q212 q216 q217 q218 q219 q220 q221 q222 q223 q224 q225 q226 q230 q231 q232 q233 q234 q235 q236 q237 q238 q239 q240 q241 q242 q243 q244 q245 q246 q247 q248 q249 : Value) (wx : World), (∃ (t : Ses) (o' : List Int) (n' : Int) (A1 : Option Addr) (c1 : Nat) (A2 : Option Addr) (c2 : Nat) (A3 : Option Addr) (c3 : Nat) (A4 : Option Addr) (c4 : Nat), q5 = .int .u8 n' ∧ n' ≤ k + 1 ∧ Aside (BInv t o' n') ∧ Aside (JB t o' w q4 A1 c1 A2 c2 A3 c3 A4 c4 wx)) → Q .normal { tmps := #[p0, p1, p2, .pointer (some ⟨w.heap.size, 0, none⟩), q4, q5, p6, .pointer (some ⟨g6, 0, none⟩), q8, q9, q10, q11, q12, p13, q14, q15, q16, p17, p18, p19, p20, p21, p22, p23, p24, q25, q26, q27, q28, q29, q30, q31, q32, q33, q34, q35, q36, q37, q38, q39, .int .i64 x.doo, q41, q42, q43, q44, q45, q46, q47, q48, q49, q50, q51, q52, q53, q54, q55, q56, q57, q58, q59, q60, q61, q62, q63, q64, q65, q66, q67, q68, q69, q70, q71, q72, q73, q74, q75, q76, q77, q78, q79, q80, q81, q82, q83, q84, q85, q86, q87, q88, q89, q90, q91, q92, q93, q94, q95, q96, q97, q98, q99, q100, q101, q102, q103, q104, q105, q106, q107, q108, q109, q110, q111, q112, q113, q114, q115, q116, q117, q118, q119, q120, q121, q122, q123, q124, q125, q126, q127, q128, q129, q130, q131, q132, q133, q134, q135, q136, q137, q138, q139, q140, q141, q142, q143, q144, q145, q146, q147, q148, q149, q150, q151, q152, q153, q154, q155, q156, q157, q158, q159, q160, q161, q162, q163, q164, q165, q166, q167, q168, p169, p170, p171, q172, q173, q174, q175, q176, q177, q178, q179, q180, q181, q182, q183, q184, q185, q186, q187, q188, q189, q190, q191, q192, q193, q194, q195, q196, q197, q198, q199, q200, q201, q202, q203, q204, q205, q206, q207, q208, q209, q210, q211, q212, p213, p214, p215, q216, q217, q218, q219, q220, q221, q222, q223, q224, q225, q226, p227, p228, p229, q230, q231, q232, q233, q234, q235, q236, q237, q238, q239, q240, q241, q242, q243, q244, q245, q246, q247, q248, q249, p250], defers := [] } wx) :
    Code.wp Try.prog (blk7 2) Q { tmps := #[p0, p1, p2, .pointer (some ⟨w.heap.size, 0, none⟩), .slice Ao o.length co, .int .u8 n, p6, .pointer (some ⟨g6, 0, none⟩), p8, p9, p10, p11, p12, p13, p14, p15, p16, p17, p18, p19, p20, p21, p22, p23, p24, p25, p26, p27, p28, p29, p30, p31, p32, p33, p34, p35, p36, p37, p38, p39, .int .i64 x.doo, p41, p42, p43, p44, p45, p46, p47, p48, p49, p50, p51, p52, p53, p54, p55, p56, p57, p58, p59, p60, p61, p62, p63, p64, p65, p66, p67, p68, p69, p70, p71, p72, p73, p74, p75, p76, p77, p78, p79, p80, p81, p82, p83, p84, p85, p86, p87, p88, p89, p90, p91, p92, p93, p94, p95, p96, p97, p98, p99, p100, p101, p102, p103, p104, p105, p106, p107, p108, p109, p110, p111, p112, p113, p114, p115, p116, p117, p118, p119, p120, p121, p122, p123, p124, p125, p126, p127, p128, p129, p130, p131, p132, p133, p134, p135, p136, p137, p138, p139, p140, p141, p142, p143, p144, p145, p146, p147, p148, p149, p150, p151, p152, p153, p154, p155, p156, p157, p158, p159, p160, p161, p162, p163, p164, p165, p166, p167, p168, p169, p170, p171, p172, p173, p174, p175, p176, p177, p178, p179, p180, p181, p182, p183, p184, p185, p186, p187, p188, p189, p190, p191, p192, p193, p194, p195, p196, p197, p198, p199, p200, p201, p202, p203, p204, p205, p206, p207, p208, p209, p210, p211, p212, p213, p214, p215, p216, p217, p218, p219, p220, p221, p222, p223, p224, p225, p226, p227, p228, p229, p230, p231, p232, p233, p234, p235, p236, p237, p238, p239, p240, p241, p242, p243, p244, p245, p246, p247, p248, p249, p250], defers := [] } wy := by
  conv => arg 2; whnf
  let BP := bodyPost Try.prog Try.f7 (PostT w)
  have HQ := Aside.mk hQ
  clear hQ
  have hlt6 : g6 < wy.heap.size := HK6.out.lt
  have hne6 : ¬ g6 = wy.heap.size := by omega
  obtain ⟨b6c, b6f, _, _⟩ := HK6.out.all
  obtain ⟨b0c, b0f, _, _⟩ := HJy.out.b.all
  go_upto_region 18 with fail
  obtain ⟨hi1, hi2⟩ := id_form x.id
  generalize wrap64 ((wrap64 (x.id.tmod 6 + 6)).tmod 6 + 1) = id0 at hi1 hi2 ⊢
  go_upto_region 19 with fail
  go_cut [84] (fun v wi => v = .bool (decide (0 < s.flight.length) && x.online) ∧ wi = wy)
  case first =>
    by_cases hz : s.flight.length = 0
    · have hz0 : ¬ (0 : Int) < (s.flight.length : Int) := by omega
      have hz1 : decide ((0 : Int) < (s.flight.length : Int)) = false := by simp [hz]
      have HZ := Aside.mk hz
      clear hz
      go_wp2_with fail
      go_meet
      exact ⟨by simp [HZ.out], rfl⟩
    · have hz0 : (0 : Int) < (s.flight.length : Int) := by omega
      have hz2 : 0 < s.flight.length := by omega
      clear hz
      go_wp2_with fail
      go_meet
      exact ⟨by simp [hz2], rfl⟩
  case rest =>
    obtain ⟨rfl, hw⟩ := hcut
    subst hw
    go_upto_if 84 with (fail)
    go_cut [11] (fun v wi => ∃ id, v = .int .i64 id ∧ 1 ≤ id ∧ id ≤ 65535 ∧ Aside (JB s o w (.slice Ao o.length co) A1 c1 A2 c2 A3 c3 A4 c4 wi) ∧ Aside (Blk wi g6 55 (stpCells x A' c').toArray))
    case first =>
      cases hb : (decide (0 < s.flight.length) && x.online)
      · go_wp2_with fail
        go_meet
        exact ⟨id0, rfl, by omega, by omega, HJy, HK6⟩
      · have hz : 0 < s.flight.length := by simp at hb; exact hb.1
        obtain ⟨hw, j, hj, hidx⟩ := idx_form x.id s.flight.length hz HI.out.fl
        have hnz : ¬ (s.flight.length : Int) = 0 := by omega
        have hjl : (j : Int) < (s.flight.length : Int) := by omega
        have hj0 : (0 : Int) ≤ (j : Int) := by omega
        have hx : s.flight[j]? = some s.flight[j] := List.getElem?_eq_getElem hj
        obtain ⟨ad, Af, cf, hAd, hP, hwf, i0, i1, i2, i3, i4, i5, i6, i7⟩ := flt_at HJy.out.rd.flight.2.2.2 hj hx
        have hid := Aside.mk (HI.out.idr _ (List.mem_of_getElem? hx))
        generalize s.flight[j] = f at hx hP hwf hid i0 i1 i2 i3 i4 i5 i6 i7
        subst hAd
        clear hb hx hP hwf i1 i2 i3 i4 i5 i6 i7
        go_upto_region 20 with fail
        go_quiet (fail)
        go_wp2_with fail
        go_meet
        exact ⟨f.id, rfl, hid.out.1, hid.out.2, ⟨HJy.out.far (below_drewN (Below.refl _ _) _)⟩, ⟨HK6.out.drewN _⟩⟩
    case rest =>
      obtain ⟨id, rfl, hid1, hid2, HJz, HK6z⟩ := hcut
      clear b0c b0f b6c b6f HJy HK6 hlt6 hne6
      have HJy := HJz
      clear HJz HK6z
      obtain ⟨b0c, b0f, _, _⟩ := HJy.out.b.all
      have hll : s.flight.length ≤ 4 := HI.out.fl
      have HOL := Aside.mk (show o.length ≤ 1000 by have := HI.out.len; have := HI.out.fl; have := HI.out.qu; omega)
      go_upto_block 3 with (fail)
      go_cut [4] (fun v wi => Aside (JB s (offO s.flight o id) w v A1 c1 A2 c2 A3 c3 A4 c4 wi))
      case first =>
        go_wp2_with fail
        go_loopw [4, 100] (fun v i wi => ∃ q : Nat, q ≤ s.flight.length ∧ i = .int .i64 q ∧ Aside (JB s (offK s.flight o id q) w v A1 c1 A2 c2 A3 c3 A4 c4 wi)) (fun _ i _ => s.flight.length - (intOf i).toNat)
        case atStart => exact ⟨0, Nat.zero_le _, rfl, HJy⟩
        case round =>
          obtain ⟨q, hq, rfl, HJq⟩ := hrel
          clear b0c b0f
          by_cases hlt : q < s.flight.length
          · have hlt' : (q : Int) < (s.flight.length : Int) := by omega
            have hq0 : (0 : Int) ≤ (q : Int) := by omega
            have hx : s.flight[q]? = some s.flight[q] := List.getElem?_eq_getElem hlt
            obtain ⟨ad, Af, cf, hAd, hP, hwf, i0, i1, i2, i3, i4, i5, i6, i7⟩ := flt_at HJq.out.rd.flight.2.2.2 hlt hx
            generalize s.flight[q] = y at hx hP hwf i0 i1 i2 i3 i4 i5 i6 i7
            have hAd' := hAd
            subst hAd'
            have HX := Aside.mk hx
            by_cases he : y.id = id
            · have he' : (y.id == id) = true := by simpa using he
              obtain ⟨hk1, hk2⟩ := offK_hit (o := o) hx HI.out.nod he
              rw [hk1] at HJq
              have HK2 := Aside.mk hk2
              obtain ⟨b, hpb, hob⟩ := HI.out.pf hx
              have HOB := Aside.mk hob
              have hqo : q < o.length := (List.getElem?_eq_some_iff.1 hob).1
              have hpl : ((y.m.p.length : Int) == 1) = true := by rw [hpb]; rfl
              have hpp : (0 : Int) < (y.m.p.length : Int) := by rw [hpb]; simp
              obtain ⟨pd, rfl, p0⟩ := u8_at hP.2.2.2 (i := 0) (by rw [hpb]; simp) (x := b) (by rw [hpb]; rfl)
              have HPB := Aside.mk hpb
              obtain ⟨Ao', co', hv, hSo⟩ := HJq.out.own.reads (bytes := 1) (by have := HOL.out; omega)
              subst hv
              obtain ⟨ad2, hA2, _, _⟩ := Kn.C_lt hSo.2.2.2 (by omega)
              subst hA2
              have HJw := Aside.mk (HJq.out.far ((Below.refl wr.heap.size wr).alloc (Nat.le_refl _) (.cells (fltCells y (some pd) cf).toArray 50)))
              have HBF := Aside.mk (Blk.new wr 50 (fltCells y (some pd) cf).toArray)
              have P0 := Aside.mk (cell_alloc p0 (.cells (fltCells y (some pd) cf).toArray 50))
              have HSw := Aside.mk (hSo.below ((Below.refl wr.heap.size wr).alloc (Nat.le_refl _) (.cells (fltCells y (some pd) cf).toArray 50)))
              clear hk1 hk2 hpb hob hx he hP hwf hAd
              go_upto_if 114 with (fail)
              obtain ⟨wq, hwq⟩ : ∃ wq, wq = wr.alloc (.cells #[.int .i64 y.id, .int .i64 y.st, .int .i64 y.ord, .string y.m.t, .slice (some pd) y.m.p.length cf, .int .i64 y.m.q, .bool y.m.r, .int .i64 y.m.u] 50) := ⟨_, rfl⟩
              rw [← hwq]
              replace HJw : Aside (JB s o w (.slice (some ad2) o.length co') A1 c1 A2 c2 (some ad) c3 A4 c4 wq) := by rw [hwq]; exact HJw
              replace HBF : Aside (Blk wq wr.heap.size 50 (fltCells y (some pd) cf).toArray) := by rw [hwq]; exact HBF
              replace P0 : Aside (wq.cell? (pd.add 0) = some (.int .u8 b)) := by rw [hwq]; exact P0
              replace HSw : Aside (Sl 1 kU8 (fun b => w.heap.size < b) wq (some ad2) co' o) := by rw [hwq]; exact HSw
              clear hwq i0 i1 i2 i3 i4 i5 i6 i7 p0 hSo
              go_upto_region 25 with fail
              clear hpl
              obtain ⟨f0c, f0f, _, _⟩ := HBF.out.all
              · skip
                go_wp2_with fail
                go_loopw [4, 117] (fun v i wi => ∃ j : Nat, j ≤ q ∧ i = .int .i64 j ∧ v = .slice (some ad2) o.length co' ∧ Aside (Below wq.heap.size wq wi)) (fun _ i _ => q - (intOf i).toNat)
                case atStart => exact ⟨0, Nat.zero_le _, rfl, rfl, ⟨Below.refl _ _⟩⟩
                case round =>
                  obtain ⟨j, hjq, rfl, rfl, HBi⟩ := hrel
                  clear f0c f0f
                  have hjl : (j : Int) < (o.length : Int) := by omega
                  have hj0 : (0 : Int) ≤ (j : Int) := by omega
                  have HJi := Aside.mk (HJw.out.far HBi.out)
                  have HSi := Aside.mk (HSw.out.below HBi.out)
                  have hp0 : wr.cell? pd = some (.int .u8 b) := by
                    have h1 := P0.out
                    have h2 := World.block_lt_of_cell? wq _ h1
                    have h3 : wr.cell? (pd.add 0) = some (.int .u8 b) := (World.cell?_of_block (HBi.out.block _ h2)).trans h1
                    simpa [Addr.add] using h3
                  obtain ⟨f0c, f0f, _, _⟩ := (HBF.out.belowAll HBi.out).all
                  have hxj : o[j]? = some o[j] := List.getElem?_eq_getElem (by omega)
                  obtain ⟨ad3, hA3, q0⟩ := u8_at HSi.out.2.2.2 (i := j) (by omega) hxj
                  injection hA3 with hA3
                  subst hA3
                  have hne : j < q → o[j] ≠ b := fun h => rise_ne HI.out.srt hxj HOB.out h
                  have heq : j = q → o[j] = b := fun h => by have := HOB.out; rw [← h, hxj] at this; injection this
                  generalize o[j] = a at hxj q0 hne heq
                  clear hxj
                  by_cases hlj : j < q
                  · have hab : (a == b) = false := by simpa using hne hlj
                    clear hne heq
                    go_wp2_with fail
                    go_roundw
                    case rel => exact ⟨j + 1, by omega, by go_num, rfl, HBi⟩
                    case measure => simp [intOf]; omega
                  · have hdj : j = q := by omega
                    have hab : (a == b) = true := by simpa using heq hdj
                    have HDJ := Aside.mk hdj
                    have HLT := Aside.mk hlt
                    clear hne heq hlj hdj
                    go_upto_region 29 with fail
                    refine wp_normal (bounds_off _ _ _ _ _ _ _ _ _ _ _ _ _ _ _ _ _ _ _ _ _ _ _ _ _ _ _ _ _ _ _ _ _ _ _ _ _ _ _ _ _ _ _ _ _ _ _ _ _ _ _ _ _ _ _ _ _ _ _ _ _ _ _ _ _ _ _ _ _ _ _ _ _ _ _ _ _ _ _ _ _ _ _ _ _ _ _ _ _ _ _ _ _ _ _ _ _ _ _ _ _ _ _ _ _ _ _ _ _ _ _ _ _ _ _ _ _ _ _ _ _ _ _ _ _ _ _ _ _ _ _ _ _ _ _ _ _ _ _ _ _ _ _ _ _ _ _ _ _ _ _ _ _ _ _ _ _ _ _ _ _ _ _ _ _ _ _ _ _ _ _ _ _ _ _ _ _ _ _ _ _ _ _ _ _ _ _ _ _ _ _ _ _ _ _ _ _ _ _ _ _ _ _ _ _ _ _ _ _ _ _ _ _ _ _ _ _ _ _ _ _ _ _ _ _ _ _ _ _ _ _ _ _ _ _ _ _ _ _ _ _ _ _ _ _ _ _ _ _ o j ad2 co' _ w wr HSi.out (by omega) HOL.out _ ?_)
                    intro q4 q129 q130 q131 q132 q133 q134 q135 q136 q137 wx ⟨hO, hB⟩
                    have HN := Aside.mk (HJi.out.anew hB (hO.mono (fun b hb _ => Nat.lt_of_lt_of_le HJi.out.b.lt hb)))
                    clear hO hB
                    go_wp2_with fail
                    go_roundw
                    case rel => exact ⟨q + 1, HLT.out, by go_num, by rw [HK2.out, ← HDJ.out]; exact HN⟩
                    case measure => have := HLT.out; simp [intOf]; omega
            · have he' : (y.id == id) = false := by simpa using he
              have HN := Aside.mk (show JB s (offK s.flight o id (q + 1)) w u4 A1 c1 A2 c2 (some ad) c3 A4 c4 (wr.alloc (.cells (fltCells y Af cf).toArray 50)) by rw [offK_skip hx he]; exact HJq.out.far ((Below.refl _ _).alloc (Nat.le_refl _) _))
              clear hx he hP hwf hAd
              go_wp2_with fail
              go_roundw
              case rel => exact ⟨q + 1, by omega, by go_num, HN⟩
              case measure => simp [intOf]; omega
          · have hke : q = s.flight.length := by omega
            have hge : decide (q < s.flight.length) = false := by simp; omega
            subst hke
            go_wp2_with fail
            go_meet
            rw [offK_all] at HJq
            exact HJq
      case rest =>
        have HJn := hcut
        clear b0c b0f HJy
        obtain ⟨b0c, b0f, b0s, b0h⟩ := HJn.out.b.all
        generalize hD : answerD s 4 id = D
        obtain ⟨t, l⟩ := D
        have HD := Aside.mk hD
        have HBt := Aside.mk (show BInv t (offO s.flight o id) n by have := HI.out.answered (by omega) id ⟨hid1, hid2⟩; rwa [hD] at this)
        clear hD
        go_wp2_with fail
        refine (answer_any s A1 c1 A2 c2 A3 c3 A4 c4 4 id _ _ HJn.out.rd (by omega)).mono ?_
        rintro e w1 h1
        rw [HD.out] at h1
        obtain ⟨vs, vp, rfl, ⟨B1, d1, B2, d2, B3, d3, B4, d4, rfl, hrd⟩, ⟨Bp, dp, rfl, hpk⟩, hb1⟩ := h1
        dsimp only at hrd
        have HS := Aside.mk (HJn.out.store hb1 hrd)
        have k0 := HJn.out.b.belowAll hb1
        clear b0c b0f b0s b0h
        obtain ⟨k0c, k0f, k0s, k0h⟩ := k0.all
        clear k0 hrd hpk hb1
        simp only [sesCells]
        go_wp2_with fail
        exact HQ.out _ _ _ _ _ _ _ _ _ _ _ _ _ _ _ _ _ _ _ _ _ _ _ _ _ _ _ _ _ _ _ _ _ _ _ _ _ _ _ _ _ _ _ _ _ _ _ _ _ _ _ _ _ _ _ _ _ _ _ _ _ _ _ _ _ _ _ _ _ _ _ _ _ _ _ _ _ _ _ _ _ _ _ _ _ _ _ _ _ _ _ _ _ _ _ _ _ _ _ _ _ _ _ _ _ _ _ _ _ _ _ _ _ _ _ _ _ _ _ _ _ _ _ _ _ _ _ _ _ _ _ _ _ _ _ _ _ _ _ _ _ _ _ _ _ _ _ _ _ _ _ _ _ _ _ _ _ _ _ _ _ _ _ _ _ _ _ _ _ _ _ _ _ _ _ _ _ _ _ _ _ _ _ _ _ _ _ _ _ _ _ _ _ _ _ _ _ _ _ _ _ _ _ _ _ _ _ _ _ _ _ _ _ _ _ _ _ _ _ _ _ _ _ _ _ _ ⟨t, offO s.flight o id, n, B1, d1, B2, d2, B3, d3, B4, d4, rfl, by omega, HBt, HS⟩
end Go.Proofs.Ytmeeldcgmfplnaa
