/-
  The walk of the law SessionBounds.
-/
import Derived.Test.YtmeeldcgmfplnaaW41
set_option linter.unusedVariables false
set_option linter.unusedSimpArgs false
namespace Go.Proofs.Ytmeeldcgmfplnaa
open Go.RowKit Go.BigFrame
attribute [local go_sem] setRow_setCell_same setRow_setCell_other setRow_cell_same setRow_cell_other setRow_frozen setRow_shape
attribute [local go_sem ↓] Go.wp_at_zero Go.wp_at_succ

/-- A block of the code, by its number; what stands in it. -/
def findBlk (n : Nat) : Code → Option Code
  | .seq a b => match findBlk n a with
    | some c => some c
    | none => findBlk n b
  | .cond _ a b => match findBlk n a with
    | some c => some c
    | none => findBlk n b
  | .block m c => if m = n then some (.block m c) else findBlk n c
  | .loop c => findBlk n c
  | _ => none
def innerC : Code → Code
  | .block _ c => c
  | c => c
noncomputable def blk7 (n : Nat) : Code := (findBlk n ((Try.f7.body).getD .skip)).getD .skip
noncomputable def rest7 : Code := tailN 2 (innerC (blk7 1))

theorem info5b : (Try.prog.info? 5).map (fun i => (i.zero, i.size, i.bytes)) = some (some (.int .u8 0), 1, 1) := by kernel_rfl
/-- In the loop: the session in its variable, what is open in a row of the call's own, apart. -/
structure JB (s : Ses) (o : List Int) (w : World) (v : Value) (A1 : Option Addr) (c1 : Nat) (A2 : Option Addr) (c2 : Nat) (A3 : Option Addr) (c3 : Nat) (A4 : Option Addr) (c4 : Nat) (wx : World) : Prop where
  b : Blk wx w.heap.size 27 (sesCells s A1 c1 A2 c2 A3 c3 A4 c4)
  rd : RdSes (fun b => w.heap.size < b ∧ some b ≠ v.ownBlock) wx s A1 c1 A2 c2 A3 c3 A4 c4
  own : Own 5 kU8 (fun b => w.heap.size < b) (w.heap.size + 1) wx v o
  below : Below w.heap.size w wx
section
variable {s t : Ses} {o o' : List Int} {w wx w1 w2 : World} {v v2 : Value} {A1 : Option Addr} {c1 : Nat} {A2 : Option Addr} {c2 : Nat} {A3 : Option Addr} {c3 : Nat} {A4 : Option Addr} {c4 : Nat} {B1 : Option Addr} {d1 : Nat} {B2 : Option Addr} {d2 : Nat} {B3 : Option Addr} {d3 : Nat} {B4 : Option Addr} {d4 : Nat}
theorem JB.far (h : JB s o w v A1 c1 A2 c2 A3 c3 A4 c4 wx) (hb : Below wx.heap.size wx w1) : JB s o w v A1 c1 A2 c2 A3 c3 A4 c4 w1 := ⟨h.b.belowAll hb, h.rd.below hb, h.own.below hb, below_all h.below h.below.size hb⟩
/-- Another session is stored. -/
theorem JB.store (h : JB s o w v A1 c1 A2 c2 A3 c3 A4 c4 wx) (hb : Below wx.heap.size wx w1) (hrd : RdSes (fun b => wx.heap.size ≤ b) w1 t B1 d1 B2 d2 B3 d3 B4 d4) : JB t o w v B1 d1 B2 d2 B3 d3 B4 d4 (w1.setRow w.heap.size (sesCells t B1 d1 B2 d2 B3 d3 B4 d4)) := by
  have hlt := h.b.lt
  have hw := h.own
  have h' := h.far hb
  exact ⟨h'.b.put _, (hrd.mono (ok' := fun b => w.heap.size < b ∧ some b ≠ v.ownBlock) (fun b hb _ => ⟨by omega, fun e => by have := (hw.ge b e.symm).2; omega⟩)).move (((Kp.refl _ _).put (fun b hb => by have := hb.1; omega) _).2), h'.own.kp ((Kp.refl _ _).put (fun b hb => by omega) _), below_put h'.below (Nat.le_refl _) _⟩
/-- What is open has grown. -/
theorem JB.grow (h : JB s o w v A1 c1 A2 c2 A3 c3 A4 c4 wx) (hO : Own 5 kU8 (fun b => w.heap.size < b) (w.heap.size + 1) w2 v2 o') (hg : wx.grownBy w2 v.ownBlock) (hat : v2.ownBlock = v.ownBlock ∨ v2.ownBlock = some wx.heap.size) : JB s o' w v2 A1 c1 A2 c2 A3 c3 A4 c4 w2 :=
  ⟨h.b.grown hg (fun e => by have := (h.own.ge _ e.symm).1; omega), ⟨h.rd.subs.after hg hat, h.rd.queue.after hg hat, h.rd.flight.after hg hat, h.rd.ids.after hg hat⟩, hO, h.below.grown hg h.below.size (fun b hb => by have := (h.own.ge b hb).1; omega)⟩
/-- What is open lies in a new row. -/
theorem JB.anew (h : JB s o w v A1 c1 A2 c2 A3 c3 A4 c4 wx) (hb : Below wx.heap.size wx w2) (hO : Own 5 kU8 (fun b => w.heap.size < b) (wx.heap.size) w2 v2 o') : JB s o' w v2 A1 c1 A2 c2 A3 c3 A4 c4 w2 := by
  have h' := h.far hb
  have hlt := h.b.lt
  refine ⟨h'.b, ?_, hO.lower (by omega), h'.below⟩
  exact ((h.rd.mono (ok' := fun b => (w.heap.size < b ∧ b < wx.heap.size)) (fun b hb hlt => ⟨hb.1, hlt⟩)).below hb).mono (fun b hb _ => ⟨hb.1, fun e => by have := (hO.ge b e.symm).1; have := hb.2; omega⟩)
end
theorem u8_succ {n : Int} (h0 : 0 ≤ n) (h1 : n ≤ 200) : IntKind.u8.wrap (n + 1) = n + 1 := by
  unfold IntKind.wrap
  simp [IntKind.bits, IntKind.signed]
  omega
theorem lit_Sl (w : World) (n : Int) : Sl 1 kU8 (fun b => w.heap.size ≤ b) (w.alloc (.cells #[.int .u8 n] 5)) (some ⟨w.heap.size, 0, none⟩) 1 [n] :=
  ⟨by simp, by decide, by simp, rfl, fun h => by
    obtain ⟨ad, cs, e, ho, hr, hc⟩ := (C_lit kU8 (okp := fun _ => False) (w := w) (p := n) [.int .u8 n] 5 rfl).2 h
    exact ⟨ad, cs, e, by rcases ho with ho | ho; exact ho.1.elim; omega, hr.imp (fun _ _ => kU8.mono (fun b hb _ => by rcases hb with hb | hb; exact hb.1.elim; omega)), hc⟩⟩

set_option maxRecDepth 100000 in
set_option maxHeartbeats 8000000 in
theorem bounds_del (p0 p1 p2 p6 p8 p9 p10 p11 p12 p13 p14 p15 p16 p17 p18 p19 p20 p21 p22 p23 p24 p25 p26 p27 p28 p29 p30 p31 p32 p33 p34 p35 p36 p37 p38 p39 p41 p42 p43 p44 p45 p46 p47 p48 p49 p50 p51 p52 p53 p54 p55 p56 p57 p58 p59 p60 p61 p62 p63 p64 p65 p66 p67 p68 p69 p70 p71 p72 p73 p74 p75 p76 p77 p78 p79 p80 p81 p82 p83 p84 p85 p86 p87 p88 p89 p90 p91 p92 p93 p94 p95 p96 p97 p98 p99 p100 p101 p102 p103 p104 p105 p106 p107 p108 p109 p110 p111 p112 p113 p114 p115 p116 p117 p118 p119 p120 p121 p122 p123 p124 p125 p126 p127 p128 p129 p130 p131 p132 p133 p134 p135 p136 p137 p138 p139 p140 p141 p142 p143 p144 p145 p146 p147 p148 p149 p150 p151 p152 p153 p154 p155 p156 p157 p158 p159 p160 p161 p162 p163 p164 p165 p166 p167 p168 p169 p170 p171 p172 p173 p174 p175 p176 p177 p178 p179 p180 p181 p182 p183 p184 p185 p186 p187 p188 p189 p190 p191 p192 p193 p194 p195 p196 p197 p198 p199 p200 p201 p202 p203 p204 p205 p206 p207 p208 p209 p210 p211 p212 p213 p214 p215 p216 p217 p218 p219 p220 p221 p222 p223 p224 p225 p226 p227 p228 p229 p230 p231 p232 p233 p234 p235 p236 p237 p238 p239 p240 p241 p242 p243 p244 p245 p246 p247 p248 p249 p250 : Value) (x : Stp) (A' : Option Addr) (c' : Nat) (k : Nat) (s : Ses) (o : List Int) (n : Int) (Ao : Option Addr) (co : Nat) (g6 : Nat) (A1 : Option Addr) (c1 : Nat) (A2 : Option Addr) (c2 : Nat) (A3 : Option Addr) (c3 : Nat) (A4 : Option Addr) (c4 : Nat) (w wy : World) (HI : Aside (BInv s o n)) (HJy : Aside (JB s o w (.slice Ao o.length co) A1 c1 A2 c2 A3 c3 A4 c4 wy)) (HK6 : Aside (Blk wy g6 55 (stpCells x A' c').toArray)) (hn0 : 0 ≤ n) (hnk : n ≤ k) (h200 : (k : Int) < 200) (hb0 : (x.doo == 0) = true) (Q : Exit → Act → World → Prop)
    (hQ : ∀ (q4 q5 q8 q9 q10 q11 q12 q14 q15 q16 q25 q26 q27 q28 q29 q30 q31 q32 q33 q34 q35 q36 q37 q38 q39 q41 q42 q43 q44 q45 q46 q47 q48 q49 q50 q51 q52 q53 q54 q55 q56 q57 q58 q59 q60 q61 q62 q63 q64 q65 q66 q67 q68 q69 q70 q71 q72 q73 q74 q75 q76 q77 q78 q79 q80 q81 q82 q83 q84 q85 q86 q87 q88 q89 q90 q91 q92 q93 q94 q95 q96 q97 q98 q99 q100 q101 q102 q103 q104 q105 q106 q107 q108 q109 q110 q111 q112 q113 q114 q115 q116 q117 q118 q119 q120 q121 q122 q123 q124 q125 q126 q127 q128 q129 q130 q131 q132 q133 q134 q135 q136 q137 q138 q139 q140 q141 q142 q143 q144 q145 q146 q147 q148 q149 q150 q151 q152 q153 q154 q155 q156 q157 q158 q159 q160 q161 q162 q163 q164 q165 q166 q167 q168 q172 q173 q174 q175 q176 q177 q178 q179 q180 q181 q182 q183 q184 q185 q186 q187 q188 q189 q190 q191 q192 q193 q194 q195 q196 q197 q198 q199 q200 q201 q202 q203 q204 q205 q206 q207 q208 q209 q210 q211 q212 q216 q217 q218 q219 q220 q221 q222 q223 q224 q225 q226 q230 q231 q232 q233 q234 q235 q236 q237 q238 q239 q240 q241 q242 q243 q244 q245 q246 q247 q248 q249 : Value) (wx : World), (∃ (t : Ses) (o' : List Int) (n' : Int) (A1 : Option Addr) (c1 : Nat) (A2 : Option Addr) (c2 : Nat) (A3 : Option Addr) (c3 : Nat) (A4 : Option Addr) (c4 : Nat), q5 = .int .u8 n' ∧ n' ≤ k + 1 ∧ Aside (BInv t o' n') ∧ Aside (JB t o' w q4 A1 c1 A2 c2 A3 c3 A4 c4 wx)) → Q .normal { tmps := #[p0, p1, p2, .pointer (some ⟨w.heap.size, 0, none⟩), q4, q5, p6, .pointer (some ⟨g6, 0, none⟩), q8, q9, q10, q11, q12, p13, q14, q15, q16, p17, p18, p19, p20, p21, p22, p23, p24, q25, q26, q27, q28, q29, q30, q31, q32, q33, q34, q35, q36, q37, q38, q39, .int .i64 x.doo, q41, q42, q43, q44, q45, q46, q47, q48, q49, q50, q51, q52, q53, q54, q55, q56, q57, q58, q59, q60, q61, q62, q63, q64, q65, q66, q67, q68, q69, q70, q71, q72, q73, q74, q75, q76, q77, q78, q79, q80, q81, q82, q83, q84, q85, q86, q87, q88, q89, q90, q91, q92, q93, q94, q95, q96, q97, q98, q99, q100, q101, q102, q103, q104, q105, q106, q107, q108, q109, q110, q111, q112, q113, q114, q115, q116, q117, q118, q119, q120, q121, q122, q123, q124, q125, q126, q127, q128, q129, q130, q131, q132, q133, q134, q135, q136, q137, q138, q139, q140, q141, q142, q143, q144, q145, q146, q147, q148, q149, q150, q151, q152, q153, q154, q155, q156, q157, q158, q159, q160, q161, q162, q163, q164, q165, q166, q167, q168, p169, p170, p171, q172, q173, q174, q175, q176, q177, q178, q179, q180, q181, q182, q183, q184, q185, q186, q187, q188, q189, q190, q191, q192, q193, q194, q195, q196, q197, q198, q199, q200, q201, q202, q203, q204, q205, q206, q207, q208, q209, q210, q211, q212, p213, p214, p215, q216, q217, q218, q219, q220, q221, q222, q223, q224, q225, q226, p227, p228, p229, q230, q231, q232, q233, q234, q235, q236, q237, q238, q239, q240, q241, q242, q243, q244, q245, q246, q247, q248, q249, p250], defers := [] } wx) :
    Code.wp Try.prog (blk7 2) Q { tmps := #[p0, p1, p2, .pointer (some ⟨w.heap.size, 0, none⟩), .slice Ao o.length co, .int .u8 n, p6, .pointer (some ⟨g6, 0, none⟩), p8, p9, p10, p11, p12, p13, p14, p15, p16, p17, p18, p19, p20, p21, p22, p23, p24, p25, p26, p27, p28, p29, p30, p31, p32, p33, p34, p35, p36, p37, p38, p39, .int .i64 x.doo, p41, p42, p43, p44, p45, p46, p47, p48, p49, p50, p51, p52, p53, p54, p55, p56, p57, p58, p59, p60, p61, p62, p63, p64, p65, p66, p67, p68, p69, p70, p71, p72, p73, p74, p75, p76, p77, p78, p79, p80, p81, p82, p83, p84, p85, p86, p87, p88, p89, p90, p91, p92, p93, p94, p95, p96, p97, p98, p99, p100, p101, p102, p103, p104, p105, p106, p107, p108, p109, p110, p111, p112, p113, p114, p115, p116, p117, p118, p119, p120, p121, p122, p123, p124, p125, p126, p127, p128, p129, p130, p131, p132, p133, p134, p135, p136, p137, p138, p139, p140, p141, p142, p143, p144, p145, p146, p147, p148, p149, p150, p151, p152, p153, p154, p155, p156, p157, p158, p159, p160, p161, p162, p163, p164, p165, p166, p167, p168, p169, p170, p171, p172, p173, p174, p175, p176, p177, p178, p179, p180, p181, p182, p183, p184, p185, p186, p187, p188, p189, p190, p191, p192, p193, p194, p195, p196, p197, p198, p199, p200, p201, p202, p203, p204, p205, p206, p207, p208, p209, p210, p211, p212, p213, p214, p215, p216, p217, p218, p219, p220, p221, p222, p223, p224, p225, p226, p227, p228, p229, p230, p231, p232, p233, p234, p235, p236, p237, p238, p239, p240, p241, p242, p243, p244, p245, p246, p247, p248, p249, p250], defers := [] } wy := by
  conv => arg 2; whnf
  have HQ := Aside.mk hQ
  clear hQ
  have hlt6 : g6 < wy.heap.size := HK6.out.lt
  have hne6 : ¬ g6 = wy.heap.size := by omega
  obtain ⟨b6c, b6f, _, _⟩ := HK6.out.all
  obtain ⟨b0c, b0f, _, _⟩ := HJy.out.b.all
  obtain ⟨t, l, d, hD, hBt⟩ := deliverN_cases s o n x.online HI.out (by omega)
  have HD := Aside.mk hD; have HBt := Aside.mk hBt
  have hu8 := u8_succ (n := n) hn0 (by omega)
  clear hD hBt
  go_wp2_with fail
  refine (deliver_any s A1 c1 A2 c2 A3 c3 A4 c4 (msgN (n + 1)) (some ⟨wy.heap.size, 0, none⟩) 1 x.online _ _ _ (HJy.out.rd.below ((Below.refl _ _).alloc (Nat.le_refl _) _)) (lit_Sl wy (n + 1))).mono ?_
  rintro e w1 h1
  rw [HD.out] at h1
  obtain ⟨vs, vp, rfl, ⟨B1, d1, B2, d2, B3, d3, B4, d4, rfl, hrd⟩, ⟨Bp, dp, rfl, hpk⟩, hb1⟩ := h1
  dsimp only at hrd hpk
  have ha : Below wy.heap.size wy (wy.alloc (.cells #[.int .u8 (n + 1)] 5)) := (Below.refl _ _).alloc (Nat.le_refl _) _
  have hs1 : wy.heap.size < w1.heap.size := by have := hb1.size; simp at this; omega
  have HS := Aside.mk ((HJy.out.store (below_all ha (by simp) hb1) (hrd.mono (fun b hb _ => by simp at hb; omega))).far ((Below.refl _ _).alloc (Nat.le_refl _) (.cells (sesCells t B1 d1 B2 d2 B3 d3 B4 d4) 27)))
  have k0 := (HJy.out.far (below_all ha (by simp) hb1)).b
  have hlt0 : w.heap.size < w1.heap.size := k0.lt
  have hne0 : ¬ w.heap.size = w1.heap.size := by omega
  clear b0c b0f b6c b6f
  obtain ⟨k0c, k0f, k0s, k0h⟩ := k0.all
  clear k0 hrd hpk hb1 ha
  simp only [sesCells]
  cases d
  · go_upto_if 63 with (fail)
    clear k0c k0f k0s k0h
    obtain ⟨wz, hwz⟩ : ∃ wz, wz = (w1.setRow w.heap.size #[.string t.cl, .slice B1 t.subs.length d1, .slice B2 t.queue.length d2, .slice B3 t.flight.length d3, .slice B4 t.ids.length d4, .int .i64 t.nid, .int .i64 t.hd, .int .i64 t.snt]).alloc (.cells #[.string t.cl, .slice B1 t.subs.length d1, .slice B2 t.queue.length d2, .slice B3 t.flight.length d3, .slice B4 t.ids.length d4, .int .i64 t.nid, .int .i64 t.hd, .int .i64 t.snt] 27) := ⟨_, rfl⟩
    rw [← hwz]
    have HZ := Aside.mk (show JB t o w (.slice Ao o.length co) B1 d1 B2 d2 B3 d3 B4 d4 wz by rw [hwz]; exact HS.out)
    clear hwz HS
    have HLN := Aside.mk (show o.length ≤ 1000 by have := HI.out.len; have := HI.out.fl; have := HI.out.qu; omega)
    go_wp2_with (at_builtin; go_must (refine wpList_append_Own (P := Try.prog) _ rfl kU8 (.tmp 64) (.tmp 66) 28 5 rfl (.int .u8 0) 1 Try.underlying28 info5b rfl (by decide) (ok := fun b => w.heap.size < b) (okp := fun _ => False) (lo := w.heap.size + 1) (v := .slice Ao o.length co) (xs := o) (ys := [n + 1]) rfl ?c0 (A := some ⟨wz.heap.size, 0, none⟩) (m := 1) (c := 1) rfl ?c1 ?c2 ?c3 ?c4 ?c5 ?_))
    case c0 => exact HZ.out.own.below ((Below.refl _ _).alloc (Nat.le_refl _) _)
    case c1 => exact Cf_litAt kU8 (okp := fun _ => False) wz.heap.size rfl [.int .u8 (n + 1)] 5 rfl
    case c2 => exact fun b hb _ => hb.elim
    case c3 => exact fun b hb => by have := HZ.out.b.lt; simp at hb; omega
    case c4 => have := HZ.out.b.lt; simp; omega
    case c5 => have := HLN.out; rw [List.length_singleton]; omega
    intro v2 w2 hO hg hat
    have HN := Aside.mk ((HZ.out.far ((Below.refl _ _).alloc (Nat.le_refl _) (.cells #[.int .u8 (n + 1)] 5))).grow hO hg (by simpa using hat))
    clear hO hg hat
    go_wp2_with fail
    exact HQ.out _ _ _ _ _ _ _ _ _ _ _ _ _ _ _ _ _ _ _ _ _ _ _ _ _ _ _ _ _ _ _ _ _ _ _ _ _ _ _ _ _ _ _ _ _ _ _ _ _ _ _ _ _ _ _ _ _ _ _ _ _ _ _ _ _ _ _ _ _ _ _ _ _ _ _ _ _ _ _ _ _ _ _ _ _ _ _ _ _ _ _ _ _ _ _ _ _ _ _ _ _ _ _ _ _ _ _ _ _ _ _ _ _ _ _ _ _ _ _ _ _ _ _ _ _ _ _ _ _ _ _ _ _ _ _ _ _ _ _ _ _ _ _ _ _ _ _ _ _ _ _ _ _ _ _ _ _ _ _ _ _ _ _ _ _ _ _ _ _ _ _ _ _ _ _ _ _ _ _ _ _ _ _ _ _ _ _ _ _ _ _ _ _ _ _ _ _ _ _ _ _ _ _ _ _ _ _ _ _ _ _ _ _ _ _ _ _ _ _ _ _ _ _ _ _ _ ⟨t, o ++ [n + 1], n + 1, B1, d1, B2, d2, B3, d3, B4, d4, rfl, by omega, ⟨by simpa using HBt.out⟩, HN⟩
  · go_wp2_with fail
    exact HQ.out _ _ _ _ _ _ _ _ _ _ _ _ _ _ _ _ _ _ _ _ _ _ _ _ _ _ _ _ _ _ _ _ _ _ _ _ _ _ _ _ _ _ _ _ _ _ _ _ _ _ _ _ _ _ _ _ _ _ _ _ _ _ _ _ _ _ _ _ _ _ _ _ _ _ _ _ _ _ _ _ _ _ _ _ _ _ _ _ _ _ _ _ _ _ _ _ _ _ _ _ _ _ _ _ _ _ _ _ _ _ _ _ _ _ _ _ _ _ _ _ _ _ _ _ _ _ _ _ _ _ _ _ _ _ _ _ _ _ _ _ _ _ _ _ _ _ _ _ _ _ _ _ _ _ _ _ _ _ _ _ _ _ _ _ _ _ _ _ _ _ _ _ _ _ _ _ _ _ _ _ _ _ _ _ _ _ _ _ _ _ _ _ _ _ _ _ _ _ _ _ _ _ _ _ _ _ _ _ _ _ _ _ _ _ _ _ _ _ _ _ _ _ _ _ _ _ ⟨t, o, n + 1, B1, d1, B2, d2, B3, d3, B4, d4, rfl, by omega, ⟨by simpa using HBt.out⟩, HS⟩

set_option maxRecDepth 100000 in
set_option maxHeartbeats 8000000 in
theorem bounds_res (p0 p1 p2 p6 p8 p9 p10 p11 p12 p13 p14 p15 p16 p17 p18 p19 p20 p21 p22 p23 p24 p25 p26 p27 p28 p29 p30 p31 p32 p33 p34 p35 p36 p37 p38 p39 p41 p42 p43 p44 p45 p46 p47 p48 p49 p50 p51 p52 p53 p54 p55 p56 p57 p58 p59 p60 p61 p62 p63 p64 p65 p66 p67 p68 p69 p70 p71 p72 p73 p74 p75 p76 p77 p78 p79 p80 p81 p82 p83 p84 p85 p86 p87 p88 p89 p90 p91 p92 p93 p94 p95 p96 p97 p98 p99 p100 p101 p102 p103 p104 p105 p106 p107 p108 p109 p110 p111 p112 p113 p114 p115 p116 p117 p118 p119 p120 p121 p122 p123 p124 p125 p126 p127 p128 p129 p130 p131 p132 p133 p134 p135 p136 p137 p138 p139 p140 p141 p142 p143 p144 p145 p146 p147 p148 p149 p150 p151 p152 p153 p154 p155 p156 p157 p158 p159 p160 p161 p162 p163 p164 p165 p166 p167 p168 p169 p170 p171 p172 p173 p174 p175 p176 p177 p178 p179 p180 p181 p182 p183 p184 p185 p186 p187 p188 p189 p190 p191 p192 p193 p194 p195 p196 p197 p198 p199 p200 p201 p202 p203 p204 p205 p206 p207 p208 p209 p210 p211 p212 p213 p214 p215 p216 p217 p218 p219 p220 p221 p222 p223 p224 p225 p226 p227 p228 p229 p230 p231 p232 p233 p234 p235 p236 p237 p238 p239 p240 p241 p242 p243 p244 p245 p246 p247 p248 p249 p250 : Value) (x : Stp) (A' : Option Addr) (c' : Nat) (k : Nat) (s : Ses) (o : List Int) (n : Int) (Ao : Option Addr) (co : Nat) (g6 : Nat) (A1 : Option Addr) (c1 : Nat) (A2 : Option Addr) (c2 : Nat) (A3 : Option Addr) (c3 : Nat) (A4 : Option Addr) (c4 : Nat) (w wy : World) (HI : Aside (BInv s o n)) (HJy : Aside (JB s o w (.slice Ao o.length co) A1 c1 A2 c2 A3 c3 A4 c4 wy)) (HK6 : Aside (Blk wy g6 55 (stpCells x A' c').toArray)) (hn0 : 0 ≤ n) (hnk : n ≤ k) (h200 : (k : Int) < 200) (hb0 : (x.doo == 0) = false) (hb1' : (x.doo == 1) = false) (Q : Exit → Act → World → Prop)
    (hQ : ∀ (q4 q5 q8 q9 q10 q11 q12 q14 q15 q16 q25 q26 q27 q28 q29 q30 q31 q32 q33 q34 q35 q36 q37 q38 q39 q41 q42 q43 q44 q45 q46 q47 q48 q49 q50 q51 q52 q53 q54 q55 q56 q57 q58 q59 q60 q61 q62 q63 q64 q65 q66 q67 q68 q69 q70 q71 q72 q73 q74 q75 q76 q77 q78 q79 q80 q81 q82 q83 q84 q85 q86 q87 q88 q89 q90 q91 q92 q93 q94 q95 q96 q97 q98 q99 q100 q101 q102 q103 q104 q105 q106 q107 q108 q109 q110 q111 q112 q113 q114 q115 q116 q117 q118 q119 q120 q121 q122 q123 q124 q125 q126 q127 q128 q129 q130 q131 q132 q133 q134 q135 q136 q137 q138 q139 q140 q141 q142 q143 q144 q145 q146 q147 q148 q149 q150 q151 q152 q153 q154 q155 q156 q157 q158 q159 q160 q161 q162 q163 q164 q165 q166 q167 q168 q172 q173 q174 q175 q176 q177 q178 q179 q180 q181 q182 q183 q184 q185 q186 q187 q188 q189 q190 q191 q192 q193 q194 q195 q196 q197 q198 q199 q200 q201 q202 q203 q204 q205 q206 q207 q208 q209 q210 q211 q212 q216 q217 q218 q219 q220 q221 q222 q223 q224 q225 q226 q230 q231 q232 q233 q234 q235 q236 q237 q238 q239 q240 q241 q242 q243 q244 q245 q246 q247 q248 q249 : Value) (wx : World), (∃ (t : Ses) (o' : List Int) (n' : Int) (A1 : Option Addr) (c1 : Nat) (A2 : Option Addr) (c2 : Nat) (A3 : Option Addr) (c3 : Nat) (A4 : Option Addr) (c4 : Nat), q5 = .int .u8 n' ∧ n' ≤ k + 1 ∧ Aside (BInv t o' n') ∧ Aside (JB t o' w q4 A1 c1 A2 c2 A3 c3 A4 c4 wx)) → Q .normal { tmps := #[p0, p1, p2, .pointer (some ⟨w.heap.size, 0, none⟩), q4, q5, p6, .pointer (some ⟨g6, 0, none⟩), q8, q9, q10, q11, q12, p13, q14, q15, q16, p17, p18, p19, p20, p21, p22, p23, p24, q25, q26, q27, q28, q29, q30, q31, q32, q33, q34, q35, q36, q37, q38, q39, .int .i64 x.doo, q41, q42, q43, q44, q45, q46, q47, q48, q49, q50, q51, q52, q53, q54, q55, q56, q57, q58, q59, q60, q61, q62, q63, q64, q65, q66, q67, q68, q69, q70, q71, q72, q73, q74, q75, q76, q77, q78, q79, q80, q81, q82, q83, q84, q85, q86, q87, q88, q89, q90, q91, q92, q93, q94, q95, q96, q97, q98, q99, q100, q101, q102, q103, q104, q105, q106, q107, q108, q109, q110, q111, q112, q113, q114, q115, q116, q117, q118, q119, q120, q121, q122, q123, q124, q125, q126, q127, q128, q129, q130, q131, q132, q133, q134, q135, q136, q137, q138, q139, q140, q141, q142, q143, q144, q145, q146, q147, q148, q149, q150, q151, q152, q153, q154, q155, q156, q157, q158, q159, q160, q161, q162, q163, q164, q165, q166, q167, q168, p169, p170, p171, q172, q173, q174, q175, q176, q177, q178, q179, q180, q181, q182, q183, q184, q185, q186, q187, q188, q189, q190, q191, q192, q193, q194, q195, q196, q197, q198, q199, q200, q201, q202, q203, q204, q205, q206, q207, q208, q209, q210, q211, q212, p213, p214, p215, q216, q217, q218, q219, q220, q221, q222, q223, q224, q225, q226, p227, p228, p229, q230, q231, q232, q233, q234, q235, q236, q237, q238, q239, q240, q241, q242, q243, q244, q245, q246, q247, q248, q249, p250], defers := [] } wx) :
    Code.wp Try.prog (blk7 2) Q { tmps := #[p0, p1, p2, .pointer (some ⟨w.heap.size, 0, none⟩), .slice Ao o.length co, .int .u8 n, p6, .pointer (some ⟨g6, 0, none⟩), p8, p9, p10, p11, p12, p13, p14, p15, p16, p17, p18, p19, p20, p21, p22, p23, p24, p25, p26, p27, p28, p29, p30, p31, p32, p33, p34, p35, p36, p37, p38, p39, .int .i64 x.doo, p41, p42, p43, p44, p45, p46, p47, p48, p49, p50, p51, p52, p53, p54, p55, p56, p57, p58, p59, p60, p61, p62, p63, p64, p65, p66, p67, p68, p69, p70, p71, p72, p73, p74, p75, p76, p77, p78, p79, p80, p81, p82, p83, p84, p85, p86, p87, p88, p89, p90, p91, p92, p93, p94, p95, p96, p97, p98, p99, p100, p101, p102, p103, p104, p105, p106, p107, p108, p109, p110, p111, p112, p113, p114, p115, p116, p117, p118, p119, p120, p121, p122, p123, p124, p125, p126, p127, p128, p129, p130, p131, p132, p133, p134, p135, p136, p137, p138, p139, p140, p141, p142, p143, p144, p145, p146, p147, p148, p149, p150, p151, p152, p153, p154, p155, p156, p157, p158, p159, p160, p161, p162, p163, p164, p165, p166, p167, p168, p169, p170, p171, p172, p173, p174, p175, p176, p177, p178, p179, p180, p181, p182, p183, p184, p185, p186, p187, p188, p189, p190, p191, p192, p193, p194, p195, p196, p197, p198, p199, p200, p201, p202, p203, p204, p205, p206, p207, p208, p209, p210, p211, p212, p213, p214, p215, p216, p217, p218, p219, p220, p221, p222, p223, p224, p225, p226, p227, p228, p229, p230, p231, p232, p233, p234, p235, p236, p237, p238, p239, p240, p241, p242, p243, p244, p245, p246, p247, p248, p249, p250], defers := [] } wy := by
  conv => arg 2; whnf
  have HQ := Aside.mk hQ
  clear hQ
  have hlt6 : g6 < wy.heap.size := HK6.out.lt
  have hne6 : ¬ g6 = wy.heap.size := by omega
  obtain ⟨b6c, b6f, _, _⟩ := HK6.out.all
  obtain ⟨b0c, b0f, _, _⟩ := HJy.out.b.all
  generalize hD : resumeD s = D
  obtain ⟨t, l⟩ := D
  have HD := Aside.mk hD
  have HBt := Aside.mk (show BInv t o n by have := HI.out.resumed (by omega); rwa [hD] at this)
  clear hD
  go_wp2_with fail
  refine (resume_any s A1 c1 A2 c2 A3 c3 A4 c4 _ _ HJy.out.rd (by have := HI.out.fl; omega)).mono ?_
  rintro e w1 h1
  rw [HD.out] at h1
  obtain ⟨vs, vp, rfl, ⟨B1, d1, B2, d2, B3, d3, B4, d4, rfl, hrd⟩, ⟨Bp, dp, rfl, hpk⟩, hb1⟩ := h1
  dsimp only at hrd
  have HS := Aside.mk (HJy.out.store hb1 hrd)
  have k0 := HJy.out.b.belowAll hb1
  clear b0c b0f b6c b6f
  obtain ⟨k0c, k0f, k0s, k0h⟩ := k0.all
  clear k0 hrd hpk hb1
  simp only [sesCells]
  go_wp2_with fail
  exact HQ.out _ _ _ _ _ _ _ _ _ _ _ _ _ _ _ _ _ _ _ _ _ _ _ _ _ _ _ _ _ _ _ _ _ _ _ _ _ _ _ _ _ _ _ _ _ _ _ _ _ _ _ _ _ _ _ _ _ _ _ _ _ _ _ _ _ _ _ _ _ _ _ _ _ _ _ _ _ _ _ _ _ _ _ _ _ _ _ _ _ _ _ _ _ _ _ _ _ _ _ _ _ _ _ _ _ _ _ _ _ _ _ _ _ _ _ _ _ _ _ _ _ _ _ _ _ _ _ _ _ _ _ _ _ _ _ _ _ _ _ _ _ _ _ _ _ _ _ _ _ _ _ _ _ _ _ _ _ _ _ _ _ _ _ _ _ _ _ _ _ _ _ _ _ _ _ _ _ _ _ _ _ _ _ _ _ _ _ _ _ _ _ _ _ _ _ _ _ _ _ _ _ _ _ _ _ _ _ _ _ _ _ _ _ _ _ _ _ _ _ _ _ _ _ _ _ _ ⟨t, o, n, B1, d1, B2, d2, B3, d3, B4, d4, rfl, by omega, HBt, HS⟩
end Go.Proofs.Ytmeeldcgmfplnaa
