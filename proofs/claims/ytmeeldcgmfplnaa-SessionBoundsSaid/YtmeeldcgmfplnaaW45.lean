/-
  The walk of the law SessionBounds: the checks behind each step.
-/
import Derived.Test.YtmeeldcgmfplnaaW42
import Derived.Deep.QuietTactic
import Derived.BigQuiet
set_option linter.unusedVariables false
set_option linter.unusedSimpArgs false
namespace Go.Proofs.Ytmeeldcgmfplnaa
open Go.RowKit Go.BigFrame
attribute [local go_sem] setRow_setCell_same setRow_setCell_other setRow_cell_same setRow_cell_other setRow_frozen setRow_shape
attribute [local go_sem ↓] Go.wp_at_zero Go.wp_at_succ


theorem one_Sl {ok : Nat → Prop} {w : World} {ad : Addr} {c k : Nat} {b : Int} {o : List Int} (h : Sl 1 kU8 ok w (some ad) c o) (hk : o[k]? = some b) : Sl 1 kU8 ok w (some (ad.add k)) (c - k) [b] := by
  obtain ⟨hlt, hv⟩ := List.getElem?_eq_some_iff.1 hk
  have h1 := h.1; have h2 := h.2.1
  have hd := Kn.C_take (Kn.C_drop (c := c) h.2.2.2 k (by omega) h1) 1 (by omega)
  rw [if_neg (by omega)] at hd
  have e : (o.drop k).take 1 = [b] := by rw [List.drop_eq_getElem_cons hlt, hv]; rfl
  rw [e] at hd
  exact ⟨by simp; omega, by omega, by simp, by simpa [kU8, Kn.int, Kn.scalar] using hd⟩
theorem conv_one {ok : Nat → Prop} {w : World} {A : Option Addr} {c : Nat} {b : Int} {xs : List Int} (h : Sl 1 kU8 ok w A c xs) (e : xs = [b]) : (convert 28 9 (.slice A xs.length c)).run Try.prog w = .ok (.string (strOfNums [b])) w := by
  rw [← e]; exact conv_Sl h

set_option maxRecDepth 100000 in
set_option maxHeartbeats 8000000 in
theorem bounds_chk (p0 p1 p2 p5 p6 p7 p8 p9 p10 p11 p12 p13 p14 p15 p16 p17 p18 p19 p20 p21 p22 p23 p24 p25 p26 p27 p28 p29 p30 p31 p32 p33 p34 p35 p36 p37 p38 p39 p40 p41 p42 p43 p44 p45 p46 p47 p48 p49 p50 p51 p52 p53 p54 p55 p56 p57 p58 p59 p60 p61 p62 p63 p64 p65 p66 p67 p68 p69 p70 p71 p72 p73 p74 p75 p76 p77 p78 p79 p80 p81 p82 p83 p84 p85 p86 p87 p88 p89 p90 p91 p92 p93 p94 p95 p96 p97 p98 p99 p100 p101 p102 p103 p104 p105 p106 p107 p108 p109 p110 p111 p112 p113 p114 p115 p116 p117 p118 p119 p120 p121 p122 p123 p124 p125 p126 p127 p128 p129 p130 p131 p132 p133 p134 p135 p136 p137 p138 p139 p140 p141 p142 p143 p144 p145 p146 p147 p148 p149 p150 p151 p152 p153 p154 p155 p156 p157 p158 p159 p160 p161 p162 p163 p164 p165 p166 p167 p168 p169 p170 p171 p172 p173 p174 p175 p176 p177 p178 p179 p180 p181 p182 p183 p184 p185 p186 p187 p188 p189 p190 p191 p192 p193 p194 p195 p196 p197 p198 p199 p200 p201 p202 p203 p204 p205 p206 p207 p208 p209 p210 p211 p212 p213 p214 p215 p216 p217 p218 p219 p220 p221 p222 p223 p224 p225 p226 p227 p228 p229 p230 p231 p232 p233 p234 p235 p236 p237 p238 p239 p240 p241 p242 p243 p244 p245 p246 p247 p248 p249 p250 : Value) (s : Ses) (o : List Int) (n : Int) (Ao : Option Addr) (co : Nat) (A1 : Option Addr) (c1 : Nat) (A2 : Option Addr) (c2 : Nat) (A3 : Option Addr) (c3 : Nat) (A4 : Option Addr) (c4 : Nat) (w wy : World) (HI : Aside (BInv s o n)) (HJy : Aside (JB s o w (.slice Ao o.length co) A1 c1 A2 c2 A3 c3 A4 c4 wy)) (hn : n ≤ 1000) (Q : Exit → Act → World → Prop)
    (hQ : ∀ (q2 q17 q18 q20 q21 q22 q23 q25 q26 q27 q28 q29 q30 q31 q32 q33 q34 q35 q36 q37 q38 q39 q41 q42 q43 q44 q45 q46 q47 q48 q49 q50 q51 q52 q53 q54 q55 q56 q57 q58 q59 q60 q61 q62 q63 q64 q65 q66 q67 q68 q69 q70 q71 q72 q73 q74 q75 q76 q77 q78 q79 q80 q81 q82 q83 q84 q85 q86 q87 q88 q89 q90 q91 q92 q93 q94 q95 q96 q97 q98 q99 q100 q101 q102 q103 q104 q105 q106 q107 q108 q109 q110 q111 q112 q113 q114 q115 q116 q117 q118 q119 q120 q121 q122 q123 q124 q125 q126 q127 q128 q129 q130 q131 q132 q133 q134 q135 q136 q137 q138 q139 q140 q141 q142 q143 q144 q145 q146 q147 q148 q149 q150 q151 q152 q153 q154 q155 q156 q157 q158 q159 q160 q161 q162 q163 q164 q165 q166 q167 q168 q169 q170 q171 q172 q173 q174 q175 q176 q177 q178 q179 q180 q181 q182 q183 q184 q185 q186 q187 q188 q189 q190 q191 q192 q193 q194 q195 q196 q197 q198 q199 q200 q201 q202 q203 q204 q205 q206 q207 q208 q209 q210 q211 q212 q213 q214 q215 q216 q217 q218 q219 q220 q221 q222 q223 q224 q225 q226 q227 q228 q229 q230 q231 q232 q233 q234 q235 q236 q237 q238 q239 q240 q241 q242 q243 q244 q245 q246 q247 q248 q249 : Value) (wx : World), Aside (JB s o w (.slice Ao o.length co) A1 c1 A2 c2 A3 c3 A4 c4 wx) → Q .normal { tmps := #[p0, p1, q2, .pointer (some ⟨w.heap.size, 0, none⟩), .slice Ao o.length co, p5, p6, p7, p8, p9, p10, p11, p12, p13, p14, p15, p16, q17, q18, p19, q20, q21, q22, q23, p24, q25, q26, q27, q28, q29, q30, q31, q32, q33, q34, q35, q36, q37, q38, q39, p40, q41, q42, q43, q44, q45, q46, q47, q48, q49, q50, q51, q52, q53, q54, q55, q56, q57, q58, q59, q60, q61, q62, q63, q64, q65, q66, q67, q68, q69, q70, q71, q72, q73, q74, q75, q76, q77, q78, q79, q80, q81, q82, q83, q84, q85, q86, q87, q88, q89, q90, q91, q92, q93, q94, q95, q96, q97, q98, q99, q100, q101, q102, q103, q104, q105, q106, q107, q108, q109, q110, q111, q112, q113, q114, q115, q116, q117, q118, q119, q120, q121, q122, q123, q124, q125, q126, q127, q128, q129, q130, q131, q132, q133, q134, q135, q136, q137, q138, q139, q140, q141, q142, q143, q144, q145, q146, q147, q148, q149, q150, q151, q152, q153, q154, q155, q156, q157, q158, q159, q160, q161, q162, q163, q164, q165, q166, q167, q168, q169, q170, q171, q172, q173, q174, q175, q176, q177, q178, q179, q180, q181, q182, q183, q184, q185, q186, q187, q188, q189, q190, q191, q192, q193, q194, q195, q196, q197, q198, q199, q200, q201, q202, q203, q204, q205, q206, q207, q208, q209, q210, q211, q212, q213, q214, q215, q216, q217, q218, q219, q220, q221, q222, q223, q224, q225, q226, q227, q228, q229, q230, q231, q232, q233, q234, q235, q236, q237, q238, q239, q240, q241, q242, q243, q244, q245, q246, q247, q248, q249, p250], defers := [] } wx) :
    Code.wp Try.prog rest7 Q { tmps := #[p0, p1, p2, .pointer (some ⟨w.heap.size, 0, none⟩), .slice Ao o.length co, p5, p6, p7, p8, p9, p10, p11, p12, p13, p14, p15, p16, p17, p18, p19, p20, p21, p22, p23, p24, p25, p26, p27, p28, p29, p30, p31, p32, p33, p34, p35, p36, p37, p38, p39, p40, p41, p42, p43, p44, p45, p46, p47, p48, p49, p50, p51, p52, p53, p54, p55, p56, p57, p58, p59, p60, p61, p62, p63, p64, p65, p66, p67, p68, p69, p70, p71, p72, p73, p74, p75, p76, p77, p78, p79, p80, p81, p82, p83, p84, p85, p86, p87, p88, p89, p90, p91, p92, p93, p94, p95, p96, p97, p98, p99, p100, p101, p102, p103, p104, p105, p106, p107, p108, p109, p110, p111, p112, p113, p114, p115, p116, p117, p118, p119, p120, p121, p122, p123, p124, p125, p126, p127, p128, p129, p130, p131, p132, p133, p134, p135, p136, p137, p138, p139, p140, p141, p142, p143, p144, p145, p146, p147, p148, p149, p150, p151, p152, p153, p154, p155, p156, p157, p158, p159, p160, p161, p162, p163, p164, p165, p166, p167, p168, p169, p170, p171, p172, p173, p174, p175, p176, p177, p178, p179, p180, p181, p182, p183, p184, p185, p186, p187, p188, p189, p190, p191, p192, p193, p194, p195, p196, p197, p198, p199, p200, p201, p202, p203, p204, p205, p206, p207, p208, p209, p210, p211, p212, p213, p214, p215, p216, p217, p218, p219, p220, p221, p222, p223, p224, p225, p226, p227, p228, p229, p230, p231, p232, p233, p234, p235, p236, p237, p238, p239, p240, p241, p242, p243, p244, p245, p246, p247, p248, p249, p250], defers := [] } wy := by
  conv => arg 2; whnf
  let BP := bodyPost Try.prog Try.f7 (PostT w)
  have HQ := Aside.mk hQ
  clear hQ
  have hfl := HI.out.fl
  have hqu := HI.out.qu
  have h1 : ¬ (4 : Int) < (s.flight.length : Int) := by omega
  have h2 : ¬ (16 : Int) < (s.queue.length : Int) := by omega
  have h1d : decide ((4 : Int) < (s.flight.length : Int)) = false := decide_eq_false h1
  have h2d : decide ((16 : Int) < (s.queue.length : Int)) = false := decide_eq_false h2
  have hne : ((o.length : Int) != (s.flight.length : Int) + (s.queue.length : Int)) = false := by rw [HI.out.len]; simp
  obtain ⟨b0c, b0f, _, _⟩ := HJy.out.b.all
  go_upto_block 7 with (fail)
  go_cut [] (fun wi => Aside (JB s o w (.slice Ao o.length co) A1 c1 A2 c2 A3 c3 A4 c4 wi))
  case first =>
    clear h1 h2 h1d h2d hne
    go_wp2_with fail
    go_loopw [171] (fun i wi => ∃ k : Nat, k ≤ s.flight.length ∧ i = .int .i64 k ∧ Aside (JB s o w (.slice Ao o.length co) A1 c1 A2 c2 A3 c3 A4 c4 wi)) (fun i _ => s.flight.length - (intOf i).toNat)
    case atStart => exact ⟨0, Nat.zero_le _, rfl, HJy⟩
    case round =>
      obtain ⟨k, hk, rfl, HJ⟩ := hrel
      clear b0c b0f
      by_cases hlt : k < s.flight.length
      · have hlt' : (k : Int) < (s.flight.length : Int) := by omega
        have hk0 : (0 : Int) ≤ (k : Int) := by omega
        have hx : s.flight[k]? = some s.flight[k] := List.getElem?_eq_getElem hlt
        obtain ⟨ad, Af, cf, hAd, hP, hwf, i0, i1, i2, i3, i4, i5, i6, i7⟩ := flt_at HJ.out.rd.flight.2.2.2 hlt hx
        have hord := HI.out.snt _ (List.mem_of_getElem? hx)
        generalize s.flight[k] = y at hx hP hwf hord i0 i1 i2 i3 i4 i5 i6 i7
        subst hAd
        obtain ⟨b, hpb, hob⟩ := HI.out.pf hx
        have hko : k < o.length := (List.getElem?_eq_some_iff.1 hob).1
        have HX := Aside.mk hx
        have ha : Below wr.heap.size wr (wr.alloc (.cells (fltCells y Af cf).toArray 50)) := (Below.refl _ _).alloc (Nat.le_refl _) _
        obtain ⟨Ao', co', hv, hSo⟩ := (HJ.out.far ha).own.reads (bytes := 1) (by have := HI.out.len; omega)
        injection hv with hv1 hv2 hv3
        subst hv1 hv3
        clear hv2
        obtain ⟨ad2, hA2, _, _⟩ := Kn.C_lt hSo.2.2.2 (by omega)
        subst hA2
        have hcap := hSo.1
        have hck : ¬ co = k := by omega
        have hkc : (k : Int) ≤ (co : Int) := by omega
        have hkc1 : (k : Int) + 1 ≤ (co : Int) := by omega
        have hkol : (k : Int) < (o.length : Int) := by omega
        have hk1 : (0 : Int) ≤ (k : Int) + 1 := by omega
        have hkk : (k : Int) ≤ (k : Int) + 1 := by omega
        have HSub := Aside.mk (one_Sl hSo hob)
        have HC1 := Aside.mk (fun nn => conv_one (b := b) ((hP.below ha).move (w1 := (wr.alloc (.cells (fltCells y Af cf).toArray 50)).drewN nn) (fun _ _ _ => rfl)) hpb)
        have HC2 := Aside.mk (fun nn => conv_Sl (HSub.out.move (w1 := (wr.alloc (.cells (fltCells y Af cf).toArray 50)).drewN nn) (fun _ _ _ => rfl)))
        have HJz := Aside.mk (HJ.out.far ha)
        have HBF := Aside.mk (Blk.new wr 50 (fltCells y Af cf).toArray)
        clear hx hP hwf hpb hob ha hSo
        go_upto_region 38 with fail
        obtain ⟨wz, hwz⟩ : ∃ wz, wz = wr.alloc (.cells #[.int .i64 y.id, .int .i64 y.st, .int .i64 y.ord, .string y.m.t, .slice Af y.m.p.length cf, .int .i64 y.m.q, .bool y.m.r, .int .i64 y.m.u] 50) := ⟨_, rfl⟩
        rw [← hwz]
        replace HJz : Aside (JB s o w (.slice (some ad2) o.length co) A1 c1 A2 c2 (some ad) c3 A4 c4 wz) := by rw [hwz]; exact HJz
        replace HBF : Aside (Blk wz wr.heap.size 50 (fltCells y Af cf).toArray) := by rw [hwz]; exact HBF
        have hc1 : ∀ nn, (convert 28 9 (.slice Af y.m.p.length cf)).run Try.prog (wz.drewN nn) = .ok (.string (strOfNums [b])) (wz.drewN nn) := by rw [hwz]; exact HC1.out
        have hc2 : ∀ nn, (convert 28 9 (.slice (some (ad2.add k)) 1 (co - k))).run Try.prog (wz.drewN nn) = .ok (.string (strOfNums [b])) (wz.drewN nn) := by rw [hwz]; exact HC2.out
        clear hwz HC1 HC2 i0 i1 i2 i3 i4 i5 i6 i7
        go_cut [209] (fun v wi => v = .bool false ∧ Aside (JB s o w (.slice (some ad2) o.length co) A1 c1 A2 c2 (some ad) c3 A4 c4 wi) ∧ Aside (Blk wi wr.heap.size 50 (fltCells y Af cf).toArray))
        case first =>
          have ho1 : ¬ s.snt ≤ y.ord := by omega
          have ho1d : decide (s.snt ≤ y.ord) = false := decide_eq_false ho1
          have ho1' : y.ord < s.snt := hord
          obtain ⟨b0c, b0f, _, _⟩ := HJz.out.b.all
          obtain ⟨f0c, f0f, _, _⟩ := HBF.out.all
          by_cases hk00 : k = 0
          · have hkz : ¬ (0 : Int) < (k : Int) := by omega
            have hkzd : decide ((0 : Int) < (k : Int)) = false := decide_eq_false hkz
            have hkzn : decide (0 < k) = false := decide_eq_false (by omega)
            clear hk00
            go_quiet (fail)
            go_wp2_with fail
            go_meet
            exact ⟨by simp, ⟨HJz.out.far (below_drewN (Below.refl _ _) _)⟩, ⟨HBF.out.drewN _⟩⟩
          · obtain ⟨j, hj⟩ : ∃ j, k = j + 1 := ⟨k - 1, by omega⟩
            have hzx : s.flight[j]? = some s.flight[j] := List.getElem?_eq_getElem (by omega)
            have hzo : s.flight[j].ord < y.ord := by
              have := (List.pairwise_iff_getElem.1 HI.out.ord) j k (by omega) hlt (by omega)
              rwa [(List.getElem?_eq_some_iff.1 HX.out).2] at this
            obtain ⟨ad', Ag, cg, hAd, hP, hwf, z0, z1, z2, z3, z4, z5, z6, z7⟩ := flt_at HJz.out.rd.flight.2.2.2 (i := j) (by omega) hzx
            injection hAd with hAd
            subst hAd
            generalize s.flight[j] = z at hzx hzo hP hwf z0 z1 z2 z3 z4 z5 z6 z7
            have hkz : (0 : Int) < (k : Int) := by omega
            have hkzd : decide ((0 : Int) < (k : Int)) = true := decide_eq_true hkz
            have hkzn : decide (0 < k) = true := decide_eq_true (by omega)
            have hjw : wrap64 ((k : Int) - 1) = (j : Int) := by subst hj; unfold wrap64; omega
            have hjl : (j : Int) < (s.flight.length : Int) := by omega
            have hj0 : (0 : Int) ≤ (j : Int) := by omega
            have hjs : (k : Int) - 1 = (j : Int) := by omega
            have hjw2 : IntKind.i64.wrap ((k : Int) - 1) = (j : Int) := by have h := hjw; unfold wrap64 at h; exact (IntKind.wrap_i64 _).trans h
            have ho2 : ¬ y.ord ≤ z.ord := by omega
            have ho2d : decide (y.ord ≤ z.ord) = false := decide_eq_false ho2
            clear hzx hP hwf z0 z1 z3 z4 z5 z6 z7 hk00 hj
            go_quiet (fail)
            go_wp2_with fail
            go_meet
            exact ⟨by simp, ⟨HJz.out.far (below_drewN (Below.refl _ _) _)⟩, ⟨HBF.out.drewN _⟩⟩
        case rest =>
          obtain ⟨rfl, HJv, HBv⟩ := hcut
          have hkc3 : (k : Int) ≤ (c3 : Int) := by have := HJv.out.rd.flight.1; omega
          clear hc1 hc2 HSub
          obtain ⟨b0c, b0f, _, _⟩ := HJv.out.b.all
          obtain ⟨f0c, f0f, _, _⟩ := HBv.out.all
          go_wp2_with fail
          go_loopw [215] (fun i wi => ∃ q : Nat, q ≤ k ∧ i = .int .i64 q ∧ Aside (Below wc.heap.size wc wi)) (fun i _ => k - (intOf i).toNat)
          case atStart => exact ⟨0, Nat.zero_le _, rfl, ⟨Below.refl _ _⟩⟩
          case round =>
            obtain ⟨q, hq, rfl, HB2⟩ := hrel
            clear b0c b0f f0c f0f
            have HJq := Aside.mk (HJv.out.far HB2.out)
            have HBq := Aside.mk (HBv.out.belowAll HB2.out)
            obtain ⟨f0c, f0f, _, _⟩ := HBq.out.all
            have hl18 := HBq.out.lt
            have hn18 := Nat.ne_of_lt hl18
            by_cases hqk : q < k
            · have hqk' : (q : Int) < (k : Int) := by omega
              have hq0 : (0 : Int) ≤ (q : Int) := by omega
              have hqx : s.flight[q]? = some s.flight[q] := List.getElem?_eq_getElem (by omega)
              have hgi : s.flight[q].id ≠ y.id := by
                have := (List.pairwise_iff_getElem.1 HI.out.nod) q k (by omega) hlt hqk
                rwa [(List.getElem?_eq_some_iff.1 HX.out).2] at this
              obtain ⟨ad', Ag, cg, hAd, hP, hwf, z0, z1, z2, z3, z4, z5, z6, z7⟩ := flt_at HJq.out.rd.flight.2.2.2 (i := q) (by omega) hqx
              injection hAd with hAd
              subst hAd
              generalize s.flight[q] = g at hqx hgi hP hwf z0 z1 z2 z3 z4 z5 z6 z7
              have hgb : (g.id == y.id) = false := by simpa using hgi
              have HN := Aside.mk (below_all HB2.out HB2.out.size ((Below.refl wr.heap.size wr).alloc (Nat.le_refl _) (.cells (fltCells g Ag cg).toArray 50)))
              clear hqx hgi hP hwf
              go_wp2_with fail
              go_roundw
              case rel => exact ⟨q + 1, by omega, by go_num, HN⟩
              case measure => simp [intOf]; omega
            · have hge : decide (q < k) = false := by simp; omega
              have hgei : ¬ (q : Int) < (k : Int) := by omega
              go_wp2_with fail
              go_roundw
              case rel => exact ⟨k + 1, by omega, by go_num, HJq⟩
              case measure => simp [intOf]; omega
      · have hke : k = s.flight.length := by omega
        have hge : decide (k < s.flight.length) = false := by simp; omega
        go_wp2_with fail
        go_meet
        exact HJ
  case rest =>
    have HJ7 := hcut
    clear b0c b0f h1 h2 h1d h2d hne
    obtain ⟨b0c, b0f, _, _⟩ := HJ7.out.b.all
    go_wp2_with fail
    go_loopw [229] (fun i wi => ∃ k : Nat, k ≤ s.queue.length ∧ i = .int .i64 k ∧ Aside (JB s o w (.slice Ao o.length co) A1 c1 A2 c2 A3 c3 A4 c4 wi)) (fun i _ => s.queue.length - (intOf i).toNat)
    case atStart => exact ⟨0, Nat.zero_le _, rfl, HJ7⟩
    case round =>
      obtain ⟨k, hk, rfl, HJ⟩ := hrel
      clear b0c b0f
      by_cases hlt : k < s.queue.length
      · have hlt' : (k : Int) < (s.queue.length : Int) := by omega
        have hk0 : (0 : Int) ≤ (k : Int) := by omega
        have hx : s.queue[k]? = some s.queue[k] := List.getElem?_eq_getElem hlt
        obtain ⟨ad, Af, cf, hAd, hP, i0, i1, i2, i3, i4⟩ := msg_at HJ.out.rd.queue.2.2.2 hlt hx
        generalize s.queue[k] = y at hx hP i0 i1 i2 i3 i4
        subst hAd
        obtain ⟨b, hpb, hob⟩ := HI.out.pq hx
        have hko : s.flight.length + k < o.length := (List.getElem?_eq_some_iff.1 hob).1
        have ha : Below wr.heap.size wr (wr.alloc (.cells (msgCells y Af cf).toArray 30)) := (Below.refl _ _).alloc (Nat.le_refl _) _
        obtain ⟨Ao', co', hv, hSo⟩ := (HJ.out.far ha).own.reads (bytes := 1) (by have := HI.out.len; omega)
        injection hv with hv1 hv2 hv3
        subst hv1 hv3
        clear hv2
        obtain ⟨ad2, hA2, _, _⟩ := Kn.C_lt hSo.2.2.2 (by omega)
        subst hA2
        have hcap := hSo.1
        have HSub := Aside.mk (one_Sl hSo hob)
        have HC1 := Aside.mk (fun nn => conv_one (b := b) ((hP.below ha).move (w1 := (wr.alloc (.cells (msgCells y Af cf).toArray 30)).drewN nn) (fun _ _ _ => rfl)) hpb)
        have HC2 := Aside.mk (fun nn => conv_Sl (HSub.out.move (w1 := (wr.alloc (.cells (msgCells y Af cf).toArray 30)).drewN nn) (fun _ _ _ => rfl)))
        have HJz := Aside.mk (HJ.out.far ha)
        clear hx hP hpb hob ha hSo
        have hb0 := HJ.out.b.lt
        have hb0n := Nat.ne_of_lt hb0
        obtain ⟨b0c, b0f, _, _⟩ := HJ.out.b.all
        have hp0 : (0 : Int) ≤ (s.flight.length : Int) + (k : Int) := by omega
        have hp1 : (s.flight.length : Int) + (k : Int) ≤ (s.flight.length : Int) + (k : Int) + 1 := by omega
        have hp2 : (s.flight.length : Int) + (k : Int) + 1 ≤ (co : Int) := by omega
        have hp3 : ¬ co = s.flight.length + k := by omega
        have hp4 : (s.flight.length : Int) + (k : Int) ≤ (co : Int) := by omega
        go_upto_region 51 with fail
        obtain ⟨wz, hwz⟩ : ∃ wz, wz = wr.alloc (.cells #[.string y.t, .slice Af y.p.length cf, .int .i64 y.q, .bool y.r, .int .i64 y.u] 30) := ⟨_, rfl⟩
        rw [← hwz]
        have hJz : JB s o w (.slice (some ad2) o.length co) A1 c1 (some ad) c2 A3 c3 A4 c4 wz := by rw [hwz]; exact HJz.out
        have HBF := Aside.mk (show Blk wz wr.heap.size 30 (msgCells y Af cf).toArray by rw [hwz]; exact Blk.new _ _ _)
        have hc1 : ∀ nn, (convert 28 9 (.slice Af y.p.length cf)).run Try.prog (wz.drewN nn) = .ok (.string (strOfNums [b])) (wz.drewN nn) := by rw [hwz]; exact HC1.out
        have hc2 : ∀ nn, (convert 28 9 (.slice (some (ad2.add (s.flight.length + k))) 1 (co - (s.flight.length + k)))).run Try.prog (wz.drewN nn) = .ok (.string (strOfNums [b])) (wz.drewN nn) := by rw [hwz]; exact HC2.out
        have HJz2 := Aside.mk hJz
        clear hwz HC1 HC2 i0 i1 i2 i3 i4 b0c b0f hJz
        obtain ⟨f0c, f0f, _, _⟩ := HBF.out.all
        go_quiet (fail)
        go_wp2_with fail
        go_roundw
        case rel => exact ⟨k + 1, by omega, by go_num, ⟨HJz2.out.far (below_drewN (Below.refl _ _) _)⟩⟩
        case measure => simp [intOf]; omega
      · have hke : k = s.queue.length := by omega
        have hge : decide (k < s.queue.length) = false := by simp; omega
        go_wp2_with fail
        exact HQ.out _ _ _ _ _ _ _ _ _ _ _ _ _ _ _ _ _ _ _ _ _ _ _ _ _ _ _ _ _ _ _ _ _ _ _ _ _ _ _ _ _ _ _ _ _ _ _ _ _ _ _ _ _ _ _ _ _ _ _ _ _ _ _ _ _ _ _ _ _ _ _ _ _ _ _ _ _ _ _ _ _ _ _ _ _ _ _ _ _ _ _ _ _ _ _ _ _ _ _ _ _ _ _ _ _ _ _ _ _ _ _ _ _ _ _ _ _ _ _ _ _ _ _ _ _ _ _ _ _ _ _ _ _ _ _ _ _ _ _ _ _ _ _ _ _ _ _ _ _ _ _ _ _ _ _ _ _ _ _ _ _ _ _ _ _ _ _ _ _ _ _ _ _ _ _ _ _ _ _ _ _ _ _ _ _ _ _ _ _ _ _ _ _ _ _ _ _ _ _ _ _ _ _ _ _ _ _ _ _ _ _ _ _ _ _ _ _ _ _ _ _ _ _ _ _ _ _ _ _ _ _ _ HJ
end Go.Proofs.Ytmeeldcgmfplnaa
